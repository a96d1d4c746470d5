/- Parts of the proof, one after the other: Simplified formulas: the rules never fail, and what they return is simplified already (plain). Alike events: the table that the sweeps end with is stable, and the greatest (plain). Alike events: the table is the greatest, an equivalence within one action model, and what the joined events see (plain). The members of a set, handed on one by one: the iterator of the program walked. Bisimulations between two models: the sweeps of the program (plain). Bisimulations between two models: members and matched of the program walked. Bisimulations between two models: both, Between and Bisimilar of the program walked. Bisimulations between two models: each lies below the one that the sweeps end with (plain). Events that differ: Differ of the program walked. -/
import Derived.WalkKit
import Derived.TacticsIn
import Derived.BigFrameIn
import Derived.RangeFuncSeq
import Derived.Test.YtejbieopeicgkaaGreatDoorM11
set_option maxRecDepth 100000
set_option maxHeartbeats 400000
namespace Go.Proofs.YtejbieopeicgkaaGreatDoor
open Go Go.Dv
def allS (S:Tr→Prop):Tr→Prop
 |.none=>True
 |.nd op i e g a b=>S (.nd op i e g a b)∧allS S a∧allS S b
theorem allS_mono {S S':Tr→Prop} (h:∀ t,S t→S' t):∀ t,allS S t→allS S' t
 |.none,_=>trivial
 |.nd _ _ _ _ a b,q=>⟨h _ q.1,allS_mono h a q.2.1,allS_mono h b q.2.2⟩
theorem allS_at {S:Tr→Prop} {c:List Nd} (hc:Okl c) (hu:∀ v,v+1<c.length→Used c v) (hr:allS S (tree c (c.length-1))):∀ (d v:Nat),c.length≤v+d→v<c.length→allS S (tree c v)
 |0,v,h,hv=>by omega
 |d+1,v,h,hv=>by
  by_cases e:v+1=c.length
  ·rw[show v=c.length-1 by omega];exact hr
  ·obtain⟨j,x,hj,hx⟩:=hu v (by omega)
   have ok:=hc j x hj
   have hjl:=(List.getElem?_eq_some_iff.1 hj).1
   have key:v<j:=by
    rcases hx with⟨u,e⟩|⟨u,e⟩
    ·have:=ok.x u;omega
    ·have:=ok.y u;omega
   have ih:=allS_at hc hu hr d j (by omega) hjl
   rw[tree_nd hc hj] at ih
   rcases hx with⟨u,e⟩|⟨u,e⟩
   ·have:=ih.2.1
    rw[u,cond_true,e,Int.toNat_natCast] at this
    exact this
   ·have:=ih.2.2
    rw[u,cond_true,e,Int.toNat_natCast] at this
    exact this
theorem nodup_sub {α:Type} [DecidableEq α]:∀ {l S:List α},l.Nodup→(∀ x,x∈l→x∈S)→l.length≤S.length
 | [],_,_,_=>Nat.zero_le _
 |x::r,S,h,hs=>by
  have hx:=hs x (by simp)
  rw[List.nodup_cons] at h
  have ih:=nodup_sub (l:=r) (S:=S.erase x) h.2 fun y hy=>(List.mem_erase_of_ne (fun (e:y=x)=>h.1 (e▸hy))).2 (hs y (List.mem_cons_of_mem _ hy))
  rw[List.length_erase_of_mem hx] at ih
  have:=List.length_pos_of_mem hx
  simp only[List.length_cons]
  omega
theorem tree_inj {c:List Nd} (hc:Okl c) (hn:c.Nodup) {i j:Nat} (hi:i<c.length) (hj:j<c.length) (h:tree c i=tree c j):i=j:=by
 have h1:=finT_old hc hn (tree c j) j hj rfl
 have h2:=finT_old hc hn (tree c j) i hi h
 rw[h1] at h2
 exact (congrArg Prod.fst h2).symm
theorem canon_short {F:List Nd} (hF:Okl F) {i:Nat} (hi:i<F.length) {S:List Tr} (h:allS (· ∈ S) (tree F i)):(canon F i).length≤S.length:=by
 obtain⟨h1,_⟩:=canon_ok hF hi
 have hr:=(canon_root hF hi).2
 have hn:=canon_nodup hF hi
 have hall:=allS_at h1 (fun v hv=>canon_used hF hi hv) (S:=(· ∈ S)) (by rw[hr];exact h)
 have hd:((List.range (canon F i).length).map (tree (canon F i))).Nodup:=by
  rw[List.Nodup,List.pairwise_map]
  exact List.Pairwise.imp_of_mem (fun hx hy hxy e=>hxy (tree_inj h1 hn (List.mem_range.1 hx) (List.mem_range.1 hy) e)) List.nodup_range
 have:=nodup_sub hd fun t ht=>by
  obtain⟨v,hv,rfl⟩:=List.mem_map.1 ht
  have hv:=List.mem_range.1 hv
  have q:=hall (canon F i).length v (by omega) hv
  rw[tree_nd h1 (List.getElem?_eq_getElem hv)] at q ⊢
  exact q.1
 simpa using this
theorem ap_some {x:Nd} {k:Int} (hk:OkNd x k) {X Y:List Nd} (hX:usesX x.op=true→Can X) (hY:usesY x.op=true→Can Y) {S:List Tr} (hS:S.length≤200)
  (h:allS (· ∈ S) (.nd x.op x.i x.e x.g (bif usesX x.op then root X else .none) (bif usesY x.op then root Y else .none))):apN x X Y≠[]:=by
 rw[ap_eq hk]
 cases hy:usesY x.op with
 |true =>
  have hx:=y_of_x hy
  have cX:=hX hx
  have cY:=hY hy
  have pX:=cX.pos
  have pY:=cY.pos
  have lX:=cX.len
  have lY:=cY.len
  rw[hx,hy,cond_true,cond_true] at h
  have hAl:(X++Y.map (shN X.length)).length=X.length+Y.length:=by rw[List.length_append,List.length_map]
  have hok:OkNd (binN x X Y) (X++Y.map (shN X.length)).length:=hk.re rfl rfl rfl rfl (fun _=>by show 0≤(X.length:Int)-1∧(X.length:Int)-1<_;rw[hAl];omega) (fun u=>by rw[hx] at u;cases u)
   (fun _=>by show 0≤((X++Y.map (shN X.length)).length:Int)-1∧((X++Y.map (shN X.length)).length:Int)-1<_;rw[hAl];omega) (fun u=>by rw[hy] at u;cases u)
  have hA:=okl_append cX.ok cY.ok
  have hF:=okl_snoc hA hok
  obtain⟨u1,u2⟩:=bin_last cX.ok cY.ok pX pY
  have hT:tree (X++Y.map (shN X.length)++[binN x X Y]) (X++Y.map (shN X.length)).length=.nd x.op x.i x.e x.g (root X) (root Y):=by
   rw[tree_nd hF (x:=binN x X Y) (by simp)]
   simp only[show (binN x X Y).op=x.op from rfl,hx,hy,cond_true]
   have n1:(binN x X Y).x.toNat=X.length-1:=by show ((X.length:Int)-1).toNat=_;omega
   have n2:(binN x X Y).y.toNat=(X++Y.map (shN X.length)).length-1:=by show (((X++Y.map (shN X.length)).length:Int)-1).toNat=_;omega
   rw[n1,n2,tree_append hA (by rw[hAl];omega),tree_append hA (by rw[hAl];omega),u1,u2];rfl
  have hl:(X++Y.map (shN X.length)).length<(X++Y.map (shN X.length)++[binN x X Y]).length:=by simp
  have hs:=canon_short hF hl (S:=S) (by rw[hT];exact h)
  have h2:=(canon_ok hF hl).2
  rw[cond_true,binL,cX.check,cY.check,nodeErr_ok.2 hok]
  show shortL (X++Y.map (shN X.length)++[binN x X Y])≠[]
  rw[short_snoc (by rw[hAl];omega),decide_eq_false (by omega)]
  intro e
  rw[cond_false] at e
  rw[e] at h2
  simp at h2
 |false =>
  cases hx:usesX x.op with
  |true =>
   have cX:=hX hx
   have pX:=cX.pos
   have lX:=cX.len
   rw[hx,hy,cond_true,cond_false] at h
   have hok:OkNd { x with x:=(X.length:Int)-1 } X.length:=hk.re rfl rfl rfl rfl (fun _=>by show 0≤(X.length:Int)-1∧(X.length:Int)-1<_;omega) (fun u=>by rw[hx] at u;cases u) (fun u=>by rw[hy] at u;cases u) (fun _=>hk.noy hy)
   have hF:=okl_snoc cX.ok hok
   have hT:tree (X++[{ x with x:=(X.length:Int)-1 }]) X.length=.nd x.op x.i x.e x.g (root X) .none:=by
    rw[tree_nd hF (x:={ x with x:=(X.length:Int)-1 }) (by simp)]
    simp only[hx,hy,cond_true,cond_false]
    rw[show ((X.length:Int)-1).toNat=X.length-1 by omega,tree_append cX.ok (by omega)];rfl
   have hl:X.length<(X++[{ x with x:=(X.length:Int)-1 }]).length:=by simp
   have hs:=canon_short hF hl (S:=S) (by rw[hT];exact h)
   have h2:=(canon_ok hF hl).2
   rw[cond_false,cond_true,unL,cX.check,nodeErr_ok.2 hok]
   show shortL (X++[{ x with x:=(X.length:Int)-1 }])≠[]
   rw[short_snoc (by omega),decide_eq_false (by omega)]
   intro e
   rw[cond_false] at e
   rw[e] at h2
   simp at h2
  |false =>
   have hok:OkNd x 0:=hk.re rfl rfl rfl rfl (fun u=>by rw[hx] at u;cases u) (fun _=>hk.nox hx) (fun u=>by rw[hy] at u;cases u) (fun _=>hk.noy hy)
   rw[cond_false,cond_false,oneL,nodeErr_ok.2 hok]
   simp
theorem n4_ok:OkNd (⟨4,0,0,0,0,0⟩:Nd) 1:=nodeErr_ok.1 (by decide)
theorem nd_zero {x:Nd} {k:Int} (hk:OkNd x k) (h:x.op=1∨x.op=2∨x.op=4∨x.op=7∨x.op=8):x.i=0∧x.e=0∧x.g=0:=by
 refine⟨hk.noi (by omega) ?_ (by omega),hk.noe (by omega),hk.nog ?_⟩
 ·rcases h with h|h|h|h|h<;>rw[h]<;>rfl
 ·rcases h with h|h|h|h|h<;>rw[h]<;>rfl
theorem isF_eq {f:List Nd} (hf:Can f) {op:Int} (ho:op=1∨op=2) (h:isF f op=true):f=[n0 op]:=by
 obtain⟨x,rfl,hx,_⟩:=isF_root h
 have ok:=hf.ok 0 x rfl
 obtain⟨h1,h2,h3⟩:=nd_zero ok (by omega)
 have h4:=ok.nox (by rw[hx];rcases ho with rfl|rfl<;>rfl)
 have h5:=ok.noy (by rw[hx];rcases ho with rfl|rfl<;>rfl)
 cases x
 simp only at hx h1 h2 h3 h4 h5
 subst hx;subst h1;subst h2;subst h3;subst h4;subst h5
 rfl
theorem build_apN {x:Nd} {k:Int} (hk:OkNd x k) (h:x.op=7∨x.op=8) (X Y:List Nd):buildL (n0 x.op) [X,Y]=apN x X Y:=by
 obtain⟨h1,h2,h3⟩:=nd_zero hk (by omega)
 have u:usesY x.op=true:=by rcases h with h|h<;>rw[h]<;>rfl
 have v:usesX x.op=true:=y_of_x u
 rw[ap_eq hk,u,cond_true,build_bin (n0 x.op) X Y v u]
 have e:binN (n0 x.op) X Y=binN x X Y:=by
  unfold binN n0
  cases x
  simp only at h1 h2 h3
  subst h1;subst h2;subst h3
  rfl
 unfold binL
 rw[e]
theorem build_neg (X:List Nd):buildL (n0 4) [X]=apN ⟨4,0,0,0,0,0⟩ X []:=by
 rw[ap_eq n4_ok,build_un _ _ (by rfl) (by rfl) (by rfl)];rfl
theorem bif_ind {α:Type} {P:α→Prop} {c:Bool} {a b:α} (h1:c=true→P a) (h2:c=false→P b):P (bif c then a else b):=by
 cases c with
 |true=>exact h1 rfl
 |false=>exact h2 rfl
theorem or_false2 {a b:Bool} (h:(bif a then true else b)=false):a=false∧b=false:=by cases a<;>simp_all
theorem smp_ind {P:List Nd→Prop} {x:Nd} {k:Int} (hk:OkNd x k) (h13:x.op≤13) {X Y:List Nd} (cX:usesX x.op=true→Can X) (cY:usesY x.op=true→Can Y) (pX:usesX x.op=true→P X) (pY:usesY x.op=true→P Y)
  (pT:P (buildL (n0 1) [])) (pF:P (buildL (n0 2) [])) (pA:smpI x X Y=apN x X Y→P (apN x X Y))
  (nX:usesX x.op=true→isF X 1=false→isF X 2=false→P (negI X)) (nY:usesY x.op=true→isF Y 1=false→isF Y 2=false→P (negI Y)):P (smpI x X Y):=by
 have h1:=hk.op.1
 have hcase:x.op=1∨x.op=2∨x.op=3∨x.op=4∨x.op=5∨x.op=6∨x.op=7∨x.op=8∨x.op=9∨x.op=10∨x.op=11∨x.op=12∨x.op=13:=by omega
 have pz:∀ (z:List Nd),smpI x X Y=z→P z→P (smpI x X Y):=fun z h q=>h▸q
 rcases hcase with h|h|h|h|h|h|h|h|h|h|h|h|h
 ·have e:smpI x X Y=apN x X Y:=by unfold smpI;rw[h];rfl
  exact pz _ e (pA e)
 ·have e:smpI x X Y=apN x X Y:=by unfold smpI;rw[h];rfl
  exact pz _ e (pA e)
 ·have e:smpI x X Y=apN x X Y:=by unfold smpI;rw[h];rfl
  exact pz _ e (pA e)
 ·have e:smpI x X Y=bif isF X 1 then buildL (n0 2) [] else bif isF X 2 then buildL (n0 1) [] else negI X:=by unfold smpI;rw[h];rfl
  have u:usesX x.op=true:=by rw[h];rfl
  exact pz _ e (bif_ind (fun _=>pF) fun g1=>bif_ind (fun _=>pT) fun g2=>nX u g1 g2)
 ·have e:smpI x X Y=jntI x X Y 1 2:=by unfold smpI;rw[h];rfl
  have u:usesX x.op=true:=by rw[h];rfl
  have v:usesY x.op=true:=by rw[h];rfl
  rw[e] at pA
  refine pz _ e ?_
  unfold jntI at pA ⊢
  refine bif_ind (fun _=>by rw[apN_cst (.inr rfl)];exact pF) fun g1=>bif_ind (fun _=>pY v) fun g2=>bif_ind (fun _=>pX u) fun g3=>pA ?_
  rw[g1,g2,g3];rfl
 ·have e:smpI x X Y=jntI x X Y 2 1:=by unfold smpI;rw[h];rfl
  have u:usesX x.op=true:=by rw[h];rfl
  have v:usesY x.op=true:=by rw[h];rfl
  rw[e] at pA
  refine pz _ e ?_
  unfold jntI at pA ⊢
  refine bif_ind (fun _=>by rw[apN_cst (.inl rfl)];exact pT) fun g1=>bif_ind (fun _=>pY v) fun g2=>bif_ind (fun _=>pX u) fun g3=>pA ?_
  rw[g1,g2,g3];rfl
 ·have e:smpI x X Y=cndI X Y:=by unfold smpI;rw[h];rfl
  have u:usesX x.op=true:=by rw[h];rfl
  have v:usesY x.op=true:=by rw[h];rfl
  have eb:=build_apN hk (.inl h) X Y
  rw[h] at eb
  rw[e] at pA
  refine pz _ e ?_
  unfold cndI at pA ⊢
  refine bif_ind (fun _=>pT) fun g1=>bif_ind (fun _=>pY v) fun g2=>bif_ind (fun _=>nX u g2 (or_false2 (or_false2 g1).1).1) fun g3 => ?_
  rw[eb]
  refine pA ?_
  rw[g1,g2,g3,eb];rfl
 ·have e:smpI x X Y=eqvI X Y:=by unfold smpI;rw[h];rfl
  have u:usesX x.op=true:=by rw[h];rfl
  have v:usesY x.op=true:=by rw[h];rfl
  have eb:=build_apN hk (.inr h) X Y
  rw[h] at eb
  rw[e] at pA
  refine pz _ e ?_
  unfold eqvI at pA ⊢
  refine bif_ind (fun _=>pT) fun g1=>bif_ind (fun _=>pF) fun g2=>bif_ind (fun _=>pY v) fun g3=>bif_ind (fun _=>pX u) fun g4=>bif_ind (fun g5=>nY v g4 ?_) fun g5=>bif_ind (fun _=>nX u g3 g5) fun g6 => ?_
  ·cases q:isF Y 2 with
   |false=>rfl
   |true =>
    have:=of_decide_eq_false g1
    exact absurd ((isF_eq (cX u) (.inr rfl) g5).trans (isF_eq (cY v) (.inr rfl) q).symm) this
  ·rw[eb]
   refine pA ?_
   rw[g1,g2,g3,g4,g5,g6,eb];rfl
 ·have e:smpI x X Y=bif isF X 1 then buildL (n0 1) [] else apN x X Y:=by unfold smpI;rw[h];rfl
  exact pz _ e (bif_ind (fun _=>pT) fun g=>pA (by rw[e,g];rfl))
 ·have e:smpI x X Y=bif isF X 2 then buildL (n0 2) [] else apN x X Y:=by unfold smpI;rw[h];rfl
  exact pz _ e (bif_ind (fun _=>pF) fun g=>pA (by rw[e,g];rfl))
 ·have e:smpI x X Y=bif isF X 1 then buildL (n0 1) [] else apN x X Y:=by unfold smpI;rw[h];rfl
  exact pz _ e (bif_ind (fun _=>pT) fun g=>pA (by rw[e,g];rfl))
 ·have e:smpI x X Y=bif isF X 1 then buildL (n0 1) [] else apN x X Y:=by unfold smpI;rw[h];rfl
  exact pz _ e (bif_ind (fun _=>pT) fun g=>pA (by rw[e,g];rfl))
 ·have e:smpI x X Y=bif (bif isF X 2 then true else isF Y 1) then buildL (n0 1) [] else apN x X Y:=by unfold smpI;rw[h];rfl
  exact pz _ e (bif_ind (fun _=>pT) fun g=>pA (by rw[e,g];rfl))
def FixS (Q:Int→Int→Int→Int→Bool):Tr→Prop
 |.none=>True
 |.nd op i e g a b=>smpI ⟨op,i,e,g,0,0⟩ (finT a []).2 (finT b []).2=(finT (.nd op i e g a b) []).2∧Q op i e g=true
structure Simp (Q:Int→Int→Int→Int→Bool) (S:List Tr) (z:List Nd):Prop where
 can:Can z
 sub:allS (fun t=>t=root z∨t∈S) (root z)
 fix:allS (FixS Q) (root z)
theorem can_ne {z:List Nd} (h:Can z):z≠[]:=nil_check h.check
section
variable {Q:Int→Int→Int→Int→Bool} {S:List Tr}
theorem simp_old {z:List Nd} (h:Can z) (h1:allS (· ∈ S) (root z)) (h2:allS (FixS Q) (root z)):z≠[]∧Simp Q S z:=⟨can_ne h,h,allS_mono (fun _=>.inr) _ h1,h2⟩
theorem simp_cst {op:Int} (ho:op=1∨op=2) (hq:Q op 0 0 0=true):buildL (n0 op) []≠[]∧Simp Q S (buildL (n0 op) []):=by
 obtain⟨h1,h2⟩:=cst_can op ho
 refine⟨can_ne h1,h1,?_,?_⟩
 ·rw[h2];exact⟨.inl rfl,trivial,trivial⟩
 ·rw[h2]
  refine⟨⟨?_,hq⟩,trivial,trivial⟩
  rcases ho with rfl|rfl<;>rfl
theorem simp_new {x:Nd} {k:Int} (hk:OkNd x k) {X Y:List Nd} (hS:S.length≤199) (cX:usesX x.op=true→Can X∧allS (· ∈ S) (root X)∧allS (FixS Q) (root X)) (cY:usesY x.op=true→Can Y∧allS (· ∈ S) (root Y)∧allS (FixS Q) (root Y))
  (eX:usesX x.op=false→X=[]) (eY:usesY x.op=false→Y=[]) (hq:Q x.op x.i x.e x.g=true) (h:smpI x X Y=apN x X Y):apN x X Y≠[]∧Simp Q S (apN x X Y):=by
 have sX:allS (· ∈ S) (bif usesX x.op then root X else .none):=by
  cases hu:usesX x.op with
  |true=>exact (cX hu).2.1
  |false=>trivial
 have sY:allS (· ∈ S) (bif usesY x.op then root Y else .none):=by
  cases hu:usesY x.op with
  |true=>exact (cY hu).2.1
  |false=>trivial
 have hne:=ap_some hk (X:=X) (Y:=Y) (fun u=>(cX u).1) (fun u=>(cY u).1) (S:=.nd x.op x.i x.e x.g (bif usesX x.op then root X else .none) (bif usesY x.op then root Y else .none)::S) (by simp;omega)
  ⟨by simp,allS_mono (fun _=>List.mem_cons_of_mem _) _ sX,allS_mono (fun _=>List.mem_cons_of_mem _) _ sY⟩
 obtain⟨g1,g2,_,_⟩:=ap_inv hk hne
 refine⟨hne,g1,?_,?_⟩
 ·rw[g2]
  exact⟨.inl rfl,allS_mono (fun _=>.inr) _ sX,allS_mono (fun _=>.inr) _ sY⟩
 ·rw[g2]
  refine⟨⟨?_,hq⟩,?_,?_⟩
  ·rw[← g2,g1.fix]
   have k1:(finT (bif usesX x.op then root X else .none) []).2=X:=by
    cases hu:usesX x.op with
    |true=>exact (cX hu).1.fix
    |false=>exact (eX hu).symm
   have k2:(finT (bif usesY x.op then root Y else .none) []).2=Y:=by
    cases hu:usesY x.op with
    |true=>exact (cY hu).1.fix
    |false=>exact (eY hu).symm
   rw[k1,k2]
   exact h
  ·cases hu:usesX x.op with
   |true=>exact (cX hu).2.2
   |false=>trivial
  ·cases hu:usesY x.op with
   |true=>exact (cY hu).2.2
   |false=>trivial
theorem simp_neg {X:List Nd} (hS:S.length≤199) (cX:Can X∧allS (· ∈ S) (root X)∧allS (FixS Q) (root X)) (hq:Q 4 0 0 0=true) (h1:isF X 1=false) (h2:isF X 2=false):negI X≠[]∧Simp Q S (negI X):=by
 cases hs:(strI X).2 with
 |true =>
  have e:strI X=((strI X).1,true):=by rw[← hs]
  obtain⟨g1,i,e',g,b,g2⟩:=str_root cX.1 e
  have en:negI X=(strI X).1:=by rw[negI,hs];rfl
  rw[en]
  have q1:=cX.2.1
  have q2:=cX.2.2
  rw[g2] at q1 q2
  exact simp_old g1 q1.2.1 q2.2.1
 |false =>
  have en:negI X=apN ⟨4,0,0,0,0,0⟩ X []:=by rw[negI,hs,← build_neg];rfl
  have es:smpI ⟨4,0,0,0,0,0⟩ X []=apN ⟨4,0,0,0,0,0⟩ X []:=by
   rw[← en]
   show (bif isF X 1 then buildL (n0 2) [] else bif isF X 2 then buildL (n0 1) [] else negI X)=negI X
   rw[h1,h2];rfl
  rw[en]
  exact simp_new n4_ok hS (fun _=>cX) (fun u=>by cases u) (fun u=>by cases u) (fun _=>rfl) hq es
theorem simp_smp (t1:Q 1 0 0 0=true) (t2:Q 2 0 0 0=true) (t4:Q 4 0 0 0=true) {x:Nd} {k:Int} (hk:OkNd x k) (h13:x.op≤13) {X Y:List Nd} (hS:S.length≤199) (cX:usesX x.op=true→Can X∧allS (· ∈ S) (root X)∧allS (FixS Q) (root X)) (cY:usesY x.op=true→Can Y∧allS (· ∈ S) (root Y)∧allS (FixS Q) (root Y))
  (eX:usesX x.op=false→X=[]) (eY:usesY x.op=false→Y=[]) (hq:Q x.op x.i x.e x.g=true):smpI x X Y≠[]∧Simp Q S (smpI x X Y) :=
 smp_ind (P:=fun z=>z≠[]∧Simp Q S z) hk h13 (fun u=>(cX u).1) (fun u=>(cY u).1) (fun u=>simp_old (cX u).1 (cX u).2.1 (cX u).2.2) (fun u=>simp_old (cY u).1 (cY u).2.1 (cY u).2.2)
  (simp_cst (.inl rfl) t1) (simp_cst (.inr rfl) t2) (fun h=>simp_new hk hS cX cY eX eY hq h) (fun u h1 h2=>simp_neg hS (cX u) t4 h1 h2) (fun u h1 h2=>simp_neg hS (cY u) t4 h1 h2)
end
theorem redE_run {α:Type} {d:α} {h:Nd→α→α→α×Int} {c:List Nd} (P:List α→Prop)
  (step:∀ (i:Nat) x (l:List α),c[i]? = some x→l.length=i→P l→(h x (l.getD x.x.toNat d) (l.getD x.y.toNat d)).2=0∧P (l++[(h x (l.getD x.x.toNat d) (l.getD x.y.toNat d)).1])) :
  ∀ (n i:Nat) (l:List α),i+n=c.length→l.length=i→P l→(redE d h (c.drop i) l).2=0∧(redE d h (c.drop i) l).1.length=c.length∧P (redE d h (c.drop i) l).1
 |0,i,l,hi,hl,hP=>by
  have:i=c.length:=by omega
  subst this
  rw[redE_end]
  exact⟨rfl,hl,hP⟩
 |n+1,i,l,hi,hl,hP=>by
  have hx:c[i]? = some (c[i]'(by omega)):=List.getElem?_eq_getElem (by omega)
  obtain⟨h1,h2⟩:=step i _ l hx hl hP
  rw[redE_drop hx,show ((h (c[i]'(by omega)) (l.getD (c[i]'(by omega)).x.toNat d) (l.getD (c[i]'(by omega)).y.toNat d)).2 != 0)=false by rw[h1];rfl,cond_false]
  exact redE_run P step n (i+1) _ (by omega) (by simp[hl]) h2
theorem nz_zero {z:List Nd} (h:z≠[]):(nz z).2=0:=by
 cases z with
 |nil=>exact absurd rfl h
 |cons=>rfl
theorem opX_no {x:Nd} {k:Int} (hk:OkNd x k) (h:usesX x.op=false) (X:List Nd):opX x X=[]:=by rw[opX,usX_eq hk.op.2,h];rfl
theorem opY_no {x:Nd} (h13:x.op≤13) (h:usesY x.op=false) (Y:List Nd):opY x Y=[]:=by rw[opY,bin_uses h13,h];rfl
theorem opX_yes {x:Nd} {k:Int} (hk:OkNd x k) (h:usesX x.op=true) (X:List Nd):opX x X=X:=by rw[opX,usX_eq hk.op.2,h];rfl
theorem opY_yes {x:Nd} (h13:x.op≤13) (h:usesY x.op=true) (Y:List Nd):opY x Y=Y:=by rw[opY,bin_uses h13,h];rfl
theorem sim_good {Q:Int→Int→Int→Int→Bool} (t1:Q 1 0 0 0=true) (t2:Q 2 0 0 0=true) (t4:Q 4 0 0 0=true) {f:List Nd} (hc:check f=0) (hs:∀ x,x∈comp f→x.op≤13) (hq:∀ x,x∈comp f→Q x.op x.i x.e x.g=true) :
  (simI f).2=0∧Can (simI f).1∧allS (FixS Q) (root (simI f).1)∧(simI f).1.length≤(comp f).length:=by
 have hI:simI f=simF (comp f):=by rw[simI,hc];rfl
 rw[hI]
 have hok:=comp_okl f
 have hpos:=comp_pos hc
 have hlen:=comp_len f
 generalize comp f=c at *
 obtain⟨g1,g2,g3⟩:=redE_run (h:=smpH) (d:=[]) (c:=c) (fun l=>∀ z,z∈l→Can z∧allS (· ∈ l.map root) (root z)∧allS (FixS Q) (root z)) (fun i x l hx hl hP=>by
  have ok:=hok i x hx
  have hi:=(List.getElem?_eq_some_iff.1 hx).1
  have hm:=List.mem_iff_getElem?.2 ⟨i,hx⟩
  have h13:=hs x hm
  have oX:usesX x.op=true→Can (l.getD x.x.toNat [])∧allS (· ∈ l.map root) (root (l.getD x.x.toNat []))∧allS (FixS Q) (root (l.getD x.x.toNat [])):=fun u=>by
   have:=ok.x u
   exact hP _ (List.mem_iff_getElem?.2 ⟨_,getD_mem (by omega)⟩)
  have oY:usesY x.op=true→Can (l.getD x.y.toNat [])∧allS (· ∈ l.map root) (root (l.getD x.y.toNat []))∧allS (FixS Q) (root (l.getD x.y.toNat [])):=fun u=>by
   have:=ok.y u
   exact hP _ (List.mem_iff_getElem?.2 ⟨_,getD_mem (by omega)⟩)
  obtain⟨k1,k2⟩:=simp_smp (S:=l.map root) t1 t2 t4 ok h13 (X:=opX x (l.getD x.x.toNat [])) (Y:=opY x (l.getD x.y.toNat [])) (by simp;omega) (fun u=>by rw[opX_yes ok u];exact oX u) (fun u=>by rw[opY_yes h13 u];exact oY u)
   (fun u=>opX_no ok u _) (fun u=>opY_no h13 u _) (hq x hm)
  refine⟨nz_zero k1,fun z hz => ?_⟩
  rcases List.mem_append.1 hz with hz|hz
  ·obtain⟨q1,q2,q3⟩:=hP z hz
   exact⟨q1,allS_mono (fun t ht=>by rw[List.map_append];exact List.mem_append_left _ ht) _ q2,q3⟩
  ·rw[List.mem_singleton.1 hz]
   refine⟨k2.can,allS_mono (fun t ht => ?_) _ k2.sub,k2.fix⟩
   rw[List.map_append]
   rcases ht with rfl|ht
   ·exact List.mem_append_right _ (by rw[List.map_singleton,List.mem_singleton];rfl)
   ·exact List.mem_append_left _ ht) c.length 0 [] (by omega) rfl (fun z hz=>by cases hz)
 rw[List.drop_zero] at g1 g2 g3
 have hF:simF c=((redE [] smpH c []).1.getD (c.length-1) [],0):=by
  rw[simF,lastF,g1,g2];rfl
 rw[hF]
 obtain⟨q1,q2,q3⟩:=g3 _ (List.mem_iff_getElem?.2 ⟨_,getD_mem (d:=[]) (show c.length-1<(redE [] smpH c []).1.length by omega)⟩)
 refine⟨rfl,q1,q3,?_⟩
 have hp:=q1.pos
 have:=canon_short q1.ok (i:=((redE [] smpH c []).1.getD (c.length-1) []).length-1) (by omega) q2
 rw[canon_tree q1.ok (by omega),List.length_map,g2] at this
 have e:(finT (tree ((redE [] smpH c []).1.getD (c.length-1) []) (((redE [] smpH c []).1.getD (c.length-1) []).length-1)) []).2=(redE [] smpH c []).1.getD (c.length-1) []:=q1.fix
 rw[e] at this
 exact this
theorem can_used {z:List Nd} (h:Can z):∀ v,v+1<z.length→Used z v:=fun v hv=>by
 have e:canon z (z.length-1)=z:=by rw[canon_tree h.ok (by omega)];exact h.fix
 have:=canon_used h.ok (i:=z.length-1) (by omega) (v:=v) (by rw[e];exact hv)
 rw[e] at this
 exact this
theorem sim_fix {Q:Int→Int→Int→Int→Bool} {z:List Nd} (hz:Can z) (h13:∀ x,x∈z→x.op≤13) (hF:allS (FixS Q) (root z)):simI z=(z,0):=by
 have hI:simI z=simF z:=by rw[simI,hz.check,can_comp hz];rfl
 rw[hI]
 have hpos:=hz.pos
 have hat:=allS_at hz.ok (can_used hz) hF
 obtain⟨g1,g2,g3⟩:=redE_run (h:=smpH) (d:=[]) (c:=z) (fun l=>∀ (j:Nat) y,l[j]? = some y→j<z.length∧y=(finT (tree z j) []).2) (fun i x l hx hl hP=>by
  have ok:=hz.ok i x hx
  have hi:=(List.getElem?_eq_some_iff.1 hx).1
  have hx13:=h13 x (List.mem_iff_getElem?.2 ⟨i,hx⟩)
  have q:=hat z.length i (by omega) hi
  rw[tree_nd hz.ok hx] at q
  have hs:=q.1.1
  rw[← tree_nd hz.ok hx] at hs
  have oX:opX x (l.getD x.x.toNat [])=(finT (bif usesX x.op then tree z x.x.toNat else .none) []).2:=by
   cases u:usesX x.op with
   |true =>
    have:=ok.x u
    rw[opX_yes ok u]
    exact (hP _ _ (getD_mem (by omega))).2
   |false=>exact opX_no ok u _
  have oY:opY x (l.getD x.y.toNat [])=(finT (bif usesY x.op then tree z x.y.toNat else .none) []).2:=by
   cases u:usesY x.op with
   |true =>
    have:=ok.y u
    rw[opY_yes hx13 u]
    exact (hP _ _ (getD_mem (by omega))).2
   |false=>exact opY_no hx13 u _
  have hz':smpI x (opX x (l.getD x.x.toNat [])) (opY x (l.getD x.y.toNat []))=(finT (tree z i) []).2:=by rw[oX,oY];exact hs
  have hne:(finT (tree z i) []).2≠[]:=by
   have:=(canon_ok hz.ok hi).2
   rw[canon_tree hz.ok hi] at this
   intro e
   rw[e] at this
   simp at this
  have hsm:smpH x (l.getD x.x.toNat []) (l.getD x.y.toNat [])=nz (finT (tree z i) []).2:=by rw[smpH,hz']
  rw[hsm]
  refine⟨nz_zero hne,fun j y hj => ?_⟩
  rcases Nat.lt_or_ge j l.length with g|g
  ·rw[List.getElem?_append_left g] at hj;exact hP j y hj
  ·rw[List.getElem?_append_right g] at hj
   have:j=l.length:=by
    have:=(List.getElem?_eq_some_iff.1 hj).1
    simp at this;omega
   subst this
   simp at hj
   rw[hl]
   exact⟨hi,hj.symm⟩) z.length 0 [] (by omega) rfl (fun j y h=>by simp at h)
 rw[List.drop_zero] at g1 g2 g3
 have:=(g3 _ _ (getD_mem (d:=[]) (show z.length-1<(redE [] smpH z []).1.length by omega))).2
 rw[simF,lastF,g1,g2]
 show ((redE [] smpH z []).1.getD (z.length-1) [],(0:Int))=_
 rw[this]
 exact congrArg (fun q=>(q,(0:Int))) hz.fix
theorem allS_T {Q:Int→Int→Int→Int→Bool}:∀ t,allS (FixS Q) t→allT Q t=true
 |.none,_=>rfl
 |.nd _ _ _ _ a b,h=>by rw[allT,Bool.and_eq_true,Bool.and_eq_true];exact⟨⟨h.1.2,allS_T a h.2.1⟩,allS_T b h.2.2⟩
theorem stM4 (A F:Nat):rgQ (stM A F) 4 0 0 0=true:=rg_no (stM_iff.2 ⟨⟨show 0<16 by decide,Nat.two_pow_pos A⟩,Nat.two_pow_pos F⟩) rfl
theorem sim_stat {A F:Nat} {f:List Nd} (h:statI A F f=0):(simI f).2=0∧Can (simI f).1∧statI A F (simI f).1=0∧simI (simI f).1=((simI f).1,0)∧(simI f).1.length≤(comp f).length:=by
 obtain⟨h1,h2⟩:=stat_ops h
 have hC:=stM_clo A F
 obtain⟨_,h3⟩:=statM_iff.1 h
 obtain⟨g1,g2,g3,g4⟩:=sim_good (Q:=rgQ (stM A F)) hC.tt hC.ff (stM4 A F) h1 h2 (fun x hx=>by
  obtain⟨k,hk⟩:=okl_mem (comp_okl f) hx
  exact rg_iff.2 ⟨h3 x hx,hk.group⟩)
 have hst:=stat_all g2 (allS_T _ g3)
 refine⟨g1,g2,hst,sim_fix g2 (fun x hx => ?_) g3,g4⟩
 have:=(stat_ops hst).2
 rw[can_comp g2] at this
 exact this x hx
theorem anyN_iff {p:Nat→Bool}:∀ {n:Nat},anyN p n=true↔∃ k,k<n∧p k=true
 |0=>by
  constructor
  ·intro h;cases h
  ·rintro⟨k,hk,_⟩;omega
 |n+1=>by
  rw[anyN]
  cases h:anyN p n with
  |true =>
   obtain⟨k,hk,hp⟩:=anyN_iff.1 h
   exact⟨fun _=>⟨k,by omega,hp⟩,fun _=>rfl⟩
  |false =>
   rw[cond_false]
   constructor
   ·exact fun hp=>⟨n,by omega,hp⟩
   ·rintro⟨k,hk,hp⟩
    by_cases e:k=n
    ·exact e▸hp
    ·rw[anyN_iff.2 ⟨k,by omega,hp⟩] at h;cases h
theorem someN_iff {s:Nat} {p:Nat→Bool} {n:Nat}:someN s p n=true↔∃ k,k<n∧s.testBit k=true∧p k=true:=by
 rw[someN,anyN_iff]
 constructor
 ·rintro⟨k,hk,h⟩
  cases hs:s.testBit k with
  |true=>rw[hs] at h;exact⟨k,hk,hs,h⟩
  |false=>rw[hs] at h;cases h
 ·rintro⟨k,hk,hs,h⟩
  exact⟨k,hk,by rw[hs];exact h⟩
def Mat (a b:Act) (z:List (List Bool)) (e f:Nat):Prop:=∀ i,i<a.rel.length →
 (∀ g,g<a.pre.length→(relA a i e).testBit g=true→∃ h,h<8∧(relA b i f).testBit h=true∧zAt z g h=true) ∧
 (∀ h,h<b.pre.length→(relA b i f).testBit h=true→∃ g,g<8∧(relA a i e).testBit g=true∧zAt z g h=true)
theorem mtI_iff {a b:Act} {z:List (List Bool)} {e f:Nat}:mtI a b z e f=true↔Mat a b z e f:=by
 have key:∀ (c:Bool),(!c)=true↔c≠true:=fun c=>by cases c<;>simp
 rw[mtI,key,Ne,anyN_iff]
 constructor
 ·intro hno i hi
  have h1:¬ misR a b z e f i=true:=fun h=>hno ⟨i,hi,h⟩
  unfold misR at h1
  cases h2:anyN (misF a b z e f i) a.pre.length with
  |true=>rw[h2] at h1;exact absurd rfl h1
  |false =>
   rw[h2,cond_false] at h1
   refine⟨fun g hg hb => ?_,fun h hh hb => ?_⟩
   ·have h3:¬ misF a b z e f i g=true:=fun q=>by rw[anyN_iff.2 ⟨g,hg,q⟩] at h2;cases h2
    rw[misF,hb,cond_true,key] at h3
    exact someN_iff.1 (Classical.not_not.1 h3)
   ·have h3:¬ misB a b z e f i h=true:=fun q=>h1 (anyN_iff.2 ⟨h,hh,q⟩)
    rw[misB,hb,cond_true,key] at h3
    exact someN_iff.1 (Classical.not_not.1 h3)
 ·rintro hM ⟨i,hi,h⟩
  obtain⟨m1,m2⟩:=hM i hi
  unfold misR at h
  cases h2:anyN (misF a b z e f i) a.pre.length with
  |true =>
   obtain⟨g,hg,q⟩:=anyN_iff.1 h2
   unfold misF at q
   cases hb:(relA a i e).testBit g with
   |false=>rw[hb] at q;cases q
   |true =>
    rw[hb,cond_true,someN_iff.2 (m1 g hg hb)] at q
    cases q
  |false =>
   rw[h2,cond_false] at h
   obtain⟨g,hg,q⟩:=anyN_iff.1 h
   unfold misB at q
   cases hb:(relA b i f).testBit g with
   |false=>rw[hb] at q;cases q
   |true =>
    rw[hb,cond_true,someN_iff.2 (m2 g hg hb)] at q
    cases q
theorem stepZ_flag {a b:Act} {e f:Nat} {s:List (List Bool)×Bool} (h:(stepZ a b e f s).2=false):stepZ a b e f s=s∧(zAt s.1 e f=true→mtI a b s.1 e f=true):=by
 unfold stepZ at h ⊢
 cases hz:zAt s.1 e f with
 |false=>exact⟨rfl,fun h=>by cases h⟩
 |true =>
  rw[hz] at h
  cases hm:mtI a b s.1 e f with
  |true=>exact⟨rfl,fun _=>rfl⟩
  |false=>rw[hm] at h;cases h
theorem rowZ_flag {a b:Act} {e:Nat} {s:List (List Bool)×Bool}:∀ {k:Nat},(rowZ a b e k s).2=false→rowZ a b e k s=s∧∀ f,f<k→zAt s.1 e f=true→mtI a b s.1 e f=true
 |0,_=>⟨rfl,fun f hf=>by omega⟩
 |k+1,h=>by
  rw[rowZ] at h ⊢
  obtain⟨h1,h2⟩:=stepZ_flag h
  rw[h1] at h ⊢
  obtain⟨h3,h4⟩:=rowZ_flag h
  rw[h3] at h2
  refine⟨h3,fun f hf => ?_⟩
  by_cases e1:f=k
  ·rw[e1];exact h2
  ·exact h4 f (by omega)
theorem passZ_flag {a b:Act} {m:Nat} {s:List (List Bool)×Bool}:∀ {k:Nat},(passZ a b m k s).2=false→passZ a b m k s=s∧∀ e f,e<k→f<m→zAt s.1 e f=true→mtI a b s.1 e f=true
 |0,_=>⟨rfl,fun e f he=>by omega⟩
 |k+1,h=>by
  rw[passZ] at h ⊢
  obtain⟨h1,h2⟩:=rowZ_flag h
  rw[h1] at h ⊢
  obtain⟨h3,h4⟩:=passZ_flag h
  rw[h3] at h2
  refine⟨h3,fun e f he hf => ?_⟩
  by_cases e1:e=k
  ·rw[e1];exact h2 f hf
  ·exact h4 e f (by omega) hf
theorem iterZ_stable {a b:Act} {n m:Nat}:∀ (k:Nat) (z:List (List Bool)),Tab z n m→cntZ z n m<k→(∀ e f,e<n→f<m→zAt (iterZ a b n m k z) e f=true→mtI a b (iterZ a b n m k z) e f=true)∧∀ e f,zAt (iterZ a b n m k z) e f=true→zAt z e f=true
 |k+1,z,hz,hk=>by
  have hO:=(OkS.start hz).pass (a:=a) (b:=b) (k:=n) (Nat.le_refl n)
  rw[iterZ]
  cases h:(passZ a b m n (z,false)).2 with
  |false=>exact⟨(passZ_flag h).2,fun _ _ h=>h⟩
  |true =>
   rw[cond_true]
   obtain⟨h1,h2⟩:=iterZ_stable (a:=a) (b:=b) k _ hO.tab (Nat.lt_of_lt_of_le (hO.yes h) (by omega))
   exact⟨h1,fun e f q=>hO.sub e f (h2 e f q)⟩
theorem alk_stable {a b:Act} {e f:Nat} (he:e<a.pre.length) (hf:f<b.pre.length) (h:zAt (alkI a b (tab0 a b)) e f=true):Mat a b (alkI a b (tab0 a b)) e f∧z0B a b e f=true:=by
 obtain⟨h1,h2⟩:=iterZ_stable (a:=a) (b:=b) _ _ (tab0_tab a b) (Nat.lt_succ_self _)
 refine⟨mtI_iff.1 (h1 e f he hf h),?_⟩
 have h3:=h2 e f h
 unfold zAt tab0 row0 at h3
 rw[List.getD_eq_getElem?_getD (l:=List.map _ _),List.getElem?_map,List.getElem?_range he] at h3
 simp only[Option.map_some,Option.getD_some] at h3
 rw[List.getD_eq_getElem?_getD,List.getElem?_map,List.getElem?_range hf] at h3
 simpa using h3
structure Stab (a b:Act) (R:Nat→Nat→Prop):Prop where
 rng:∀ e f,R e f→e<a.pre.length∧f<b.pre.length
 z0:∀ e f,R e f→z0B a b e f=true
 forth:∀ e f i g,R e f→i<a.rel.length→g<a.pre.length→(relA a i e).testBit g=true→∃ h,h<8∧(relA b i f).testBit h=true∧R g h
 back:∀ e f i h,R e f→i<a.rel.length→h<b.pre.length→(relA b i f).testBit h=true→∃ g,g<8∧(relA a i e).testBit g=true∧R g h
def Bel (R:Nat→Nat→Prop) (z:List (List Bool)):Prop:=∀ e f,R e f→zAt z e f=true
theorem clr_keep {z:List (List Bool)} {e f e' f':Nat} (h:zAt z e' f'=true) (hn:¬ (e'=e∧f'=f)):zAt (clrT z e f) e' f'=true:=by
 unfold zAt clrT at *
 simp only[List.getD_eq_getElem?_getD,List.getElem?_set] at h ⊢
 by_cases q:e=e'
 ·subst q
  rw[if_pos rfl]
  by_cases q2:e<z.length
  ·rw[if_pos q2]
   simp only[Option.getD_some,List.getElem?_set]
   rw[if_neg (fun g=>hn ⟨rfl,g.symm⟩)]
   exact h
  ·rw[List.getElem?_eq_none (l:=z) (i:=e) (by omega)] at h
   simp at h
 ·rw[if_neg q]
  exact h
section
variable {a b:Act} {R:Nat→Nat→Prop}
theorem Stab.mt (h:Stab a b R) {z:List (List Bool)} (hz:Bel R z) {e f:Nat} (hr:R e f):mtI a b z e f=true:=mtI_iff.2 fun i hi=>⟨fun g hg hb=>by
  obtain⟨k,h1,h2,h3⟩:=h.forth e f i g hr hi hg hb
  exact⟨k,h1,h2,hz _ _ h3⟩,fun k hk hb=>by
  obtain⟨g,h1,h2,h3⟩:=h.back e f i k hr hi hk hb
  exact⟨g,h1,h2,hz _ _ h3⟩⟩
theorem Stab.step (h:Stab a b R) {s:List (List Bool)×Bool} (hz:Bel R s.1) (e f:Nat):Bel R (stepZ a b e f s).1:=by
 intro e' f' hr
 unfold stepZ
 cases zAt s.1 e f with
 |false=>exact hz e' f' hr
 |true =>
  cases hm:mtI a b s.1 e f with
  |true=>exact hz e' f' hr
  |false =>
   refine clr_keep (hz e' f' hr) fun q => ?_
   rw[← q.1,← q.2,h.mt hz hr] at hm
   cases hm
theorem Stab.row (h:Stab a b R) (e:Nat):∀ {k:Nat} {s:List (List Bool)×Bool},Bel R s.1→Bel R (rowZ a b e k s).1
 |0,_,hz=>hz
 |k+1,_,hz=>h.step (h.row e (k:=k) hz) e k
theorem Stab.pass (h:Stab a b R) (m:Nat):∀ {k:Nat} {s:List (List Bool)×Bool},Bel R s.1→Bel R (passZ a b m k s).1
 |0,_,hz=>hz
 |k+1,_,hz=>h.row k (h.pass m (k:=k) hz)
theorem Stab.iter (h:Stab a b R) (n m:Nat):∀ (k:Nat) (z:List (List Bool)),Bel R z→Bel R (iterZ a b n m k z)
 |0,_,hz=>hz
 |k+1,z,hz=>by
  rw[iterZ]
  cases (passZ a b m n (z,false)).2 with
  |false=>exact hz
  |true=>exact h.iter n m k _ (h.pass m hz)
theorem tab0_at {e f:Nat} (he:e<a.pre.length) (hf:f<b.pre.length):zAt (tab0 a b) e f=z0B a b e f:=by
 unfold zAt tab0 row0
 rw[List.getD_eq_getElem?_getD (l:=List.map _ _),List.getElem?_map,List.getElem?_range he]
 simp only[Option.map_some,Option.getD_some]
 rw[List.getD_eq_getElem?_getD,List.getElem?_map,List.getElem?_range hf]
 simp
theorem Stab.all (h:Stab a b R) {e f:Nat} (hr:R e f):zAt (alkI a b (tab0 a b)) e f=true:=by
 refine h.iter _ _ _ _ (fun e f hr => ?_) e f hr
 obtain⟨h1,h2⟩:=h.rng e f hr
 rw[tab0_at h1 h2]
 exact h.z0 e f hr
end
theorem same_iff {f g:List Nd}:same f g=true↔check f=0∧check g=0∧comp f=comp g:=by
 unfold same
 cases h1:(check f==0) with
 |false =>
  have:¬ check f=0:=by simpa using h1
  exact⟨fun h=>(by cases h),fun h=>absurd h.1 this⟩
 |true =>
  have g1:check f=0:=by simpa using h1
  cases h2:(check g==0) with
  |false =>
   have:¬ check g=0:=by simpa using h2
   exact⟨fun h=>(by cases h),fun h=>absurd h.2.1 this⟩
  |true =>
   have g2:check g=0:=by simpa using h2
   rw[cond_true,cond_true]
   exact⟨fun h=>⟨g1,g2,of_decide_eq_true h⟩,fun h=>decide_eq_true h.2.2⟩
theorem same_symm {f g:List Nd} (h:same f g=true):same g f=true:=by
 obtain⟨h1,h2,h3⟩:=same_iff.1 h
 exact same_iff.2 ⟨h2,h1,h3.symm⟩
theorem same_trans {f g k:List Nd} (h:same f g=true) (h':same g k=true):same f k=true:=by
 obtain⟨h1,_,h3⟩:=same_iff.1 h
 obtain⟨_,h5,h6⟩:=same_iff.1 h'
 exact same_iff.2 ⟨h1,h5,h3.trans h6⟩
theorem asS_iff {x y:Asg}:asS x y=true↔x.fact=y.fact∧same x.to y.to=true:=by
 unfold asS
 cases h:(x.fact==y.fact) with
 |false =>
  have:¬ x.fact=y.fact:=by simpa using h
  exact⟨fun q=>(by cases q),fun q=>absurd q.1 this⟩
 |true=>exact⟨fun q=>⟨by simpa using h,q⟩,fun q=>q.2⟩
theorem asS_symm {x y:Asg} (h:asS x y=true):asS y x=true:=by
 obtain⟨h1,h2⟩:=asS_iff.1 h
 exact asS_iff.2 ⟨h1.symm,same_symm h2⟩
theorem eqA_symm:∀ {p q:List Asg},eqL asS p q=true→eqL asS q p=true
 | [],[],_=>rfl
 | [],_::_,h=>by cases h
 |_::_,[],h=>by cases h
 |x::r,y::s,h=>by
  rw[eqL] at h ⊢
  cases h1:asS x y with
  |false=>rw[h1] at h;cases h
  |true =>
   rw[h1] at h
   rw[asS_symm h1]
   exact eqA_symm h
theorem eqA_trans:∀ {p q k:List Asg},eqL asS p q=true→eqL asS q k=true→eqL asS p k=true
 | [],[],[],_,_=>rfl
 | [],_::_,_,h,_=>by cases h
 |_::_,[],_,h,_=>by cases h
 |_,[],_::_,_,h=>by cases h
 |_,_::_,[],_,h=>by cases h
 |x::r,y::s,z::t,h,h'=>by
  rw[eqL] at h h' ⊢
  cases h1:asS x y with
  |false=>rw[h1] at h;cases h
  |true =>
   cases h2:asS y z with
   |false=>rw[h2] at h';cases h'
   |true =>
    rw[h1] at h
    rw[h2] at h'
    obtain⟨q1,q2⟩:=asS_iff.1 h1
    obtain⟨q3,q4⟩:=asS_iff.1 h2
    rw[asS_iff.2 ⟨q1.trans q3,same_trans q2 q4⟩]
    exact eqA_trans h h'
theorem z0_iff {a b:Act} {e f:Nat}:z0B a b e f=true↔eqL asS (a.post.getD e []) (b.post.getD f [])=true∧same (a.pre.getD e []) (b.pre.getD f [])=true:=by
 unfold z0B
 cases eqL asS (a.post.getD e []) (b.post.getD f []) with
 |false=>exact⟨fun h=>(by cases h),fun h=>(by cases h.1)⟩
 |true=>exact⟨fun h=>⟨rfl,h⟩,fun h=>h.2⟩
theorem z0_symm {a b:Act} {e f:Nat} (h:z0B a b e f=true):z0B b a f e=true:=by
 obtain⟨h1,h2⟩:=z0_iff.1 h
 exact z0_iff.2 ⟨eqA_symm h1,same_symm h2⟩
theorem z0_trans {a b c:Act} {e f g:Nat} (h:z0B a b e f=true) (h':z0B b c f g=true):z0B a c e g=true:=by
 obtain⟨h1,h2⟩:=z0_iff.1 h
 obtain⟨h3,h4⟩:=z0_iff.1 h'
 exact z0_iff.2 ⟨eqA_trans h1 h3,same_trans h2 h4⟩
structure Own (k:Act):Prop where
 n8:k.pre.length≤8
 bits:∀ i e,relA k i e<2^k.pre.length
 self:∀ e,e<k.pre.length→z0B k k e e=true
def alkS (k:Act):List (List Bool):=alkI k k (tab0 k k)
def Alk (k:Act) (e f:Nat):Prop:=(e<k.pre.length∧f<k.pre.length)∧zAt (alkS k) e f=true
section
variable {k:Act} (hO:Own k)
include hO
theorem Own.bit {i e g:Nat} (h:(relA k i e).testBit g=true):g<k.pre.length:=bit_lt (hO.bits i e) h
theorem Own.stab:Stab k k (Alk k):=by
 have st:∀ e f,Alk k e f→Mat k k (alkS k) e f∧z0B k k e f=true:=fun e f h=>alk_stable h.1.1 h.1.2 h.2
 refine⟨fun e f h=>h.1,fun e f h=>(st e f h).2,fun e f i g h hi hg hb => ?_,fun e f i g h hi hg hb => ?_⟩
 ·obtain⟨d,h1,h2,h3⟩:=((st e f h).1 i hi).1 g hg hb
  exact⟨d,h1,h2,⟨hg,hO.bit h2⟩,h3⟩
 ·obtain⟨d,h1,h2,h3⟩:=((st e f h).1 i hi).2 g hg hb
  exact⟨d,h1,h2,⟨hO.bit h2,hg⟩,h3⟩
theorem Own.refl {e:Nat} (he:e<k.pre.length):Alk k e e:=by
 have n8:=hO.n8
 have hS:Stab k k (fun e f=>e=f∧e<k.pre.length):=by
  refine⟨?_,?_,?_,?_⟩
  ·rintro e f ⟨rfl,h⟩;exact⟨h,h⟩
  ·rintro e f ⟨rfl,h⟩;exact hO.self e h
  ·rintro e f i g ⟨rfl,_⟩ _ hg hb;exact⟨g,by omega,hb,rfl,hg⟩
  ·rintro e f i g ⟨rfl,_⟩ _ hg hb;exact⟨g,by omega,hb,rfl,hg⟩
 exact⟨⟨he,he⟩,hS.all ⟨rfl,he⟩⟩
theorem Own.symm {e f:Nat} (h:Alk k e f):Alk k f e:=by
 have hT:=hO.stab
 have hS:Stab k k (fun e f=>Alk k f e):=by
  refine⟨fun e f h=>⟨h.1.2,h.1.1⟩,fun e f h=>z0_symm (hT.z0 f e h),fun e f i g h hi hg hb => ?_,fun e f i g h hi hg hb => ?_⟩
  ·exact hT.back f e i g h hi hg hb
  ·exact hT.forth f e i g h hi hg hb
 exact⟨⟨h.1.2,h.1.1⟩,hS.all h⟩
theorem Own.trans {e f g:Nat} (h:Alk k e f) (h':Alk k f g):Alk k e g:=by
 have hT:=hO.stab
 have hS:Stab k k (fun e g=>∃ f,Alk k e f∧Alk k f g):=by
  refine⟨fun e g ⟨f,h1,h2⟩=>⟨h1.1.1,h2.1.2⟩,fun e g ⟨f,h1,h2⟩=>z0_trans (hT.z0 e f h1) (hT.z0 f g h2),fun e g i d ⟨f,h1,h2⟩ hi hd hb => ?_,fun e g i d ⟨f,h1,h2⟩ hi hd hb => ?_⟩
  ·obtain⟨x,_,x2,x3⟩:=hT.forth e f i d h1 hi hd hb
   obtain⟨y,y1,y2,y3⟩:=hT.forth f g i x h2 hi (hO.bit x2) x2
   exact⟨y,y1,y2,x,x3,y3⟩
  ·obtain⟨x,_,x2,x3⟩:=hT.back f g i d h2 hi hd hb
   obtain⟨y,y1,y2,y3⟩:=hT.back e f i x h1 hi (hO.bit x2) x2
   exact⟨y,y1,y2,x,y3,x3⟩
 exact⟨⟨h.1.1,h'.1.2⟩,hS.all ⟨f,h,h'⟩⟩
omit hO in
theorem alkS_tab (k:Act):Tab (alkS k) k.pre.length k.pre.length:=alk_tab k k
omit hO in
theorem alkS_row {e:Nat} (he:e<k.pre.length):((alkS k).getD e []).length=k.pre.length :=
 (alkS_tab k).row _ (List.mem_iff_getElem?.2 ⟨e,getD_mem (by rw[(alkS_tab k).len];exact he)⟩)
theorem Own.fs {e:Nat} (he:e<k.pre.length):Alk k e (fsN (alkS k) e):=by
 have h1:=(hO.refl he).2
 have hm:true∈(alkS k).getD e []:=by
  have:=((alkS_tab k).at he he).2
  rw[h1] at this
  exact List.mem_iff_getElem?.2 ⟨e,this⟩
 have hlt:fsN (alkS k) e<((alkS k).getD e []).length:=List.idxOf_lt_length_iff.2 hm
 refine⟨⟨he,by rw[← alkS_row he];exact hlt⟩,?_⟩
 have:((alkS k).getD e [])[fsN (alkS k) e]? = some true:=by
  rw[List.getElem?_eq_getElem hlt]
  congr 1
  exact List.getElem_idxOf hlt
 rw[zAt,List.getD_eq_getElem?_getD,this];rfl
theorem Own.fs_eq {e f:Nat} (h:Alk k e f):fsN (alkS k) e=fsN (alkS k) f:=by
 have hr:(alkS k).getD e []=(alkS k).getD f []:=by
  apply List.ext_getElem?
  intro g
  by_cases hg:g<k.pre.length
  ·rw[((alkS_tab k).at h.1.1 hg).2,((alkS_tab k).at h.1.2 hg).2]
   congr 1
   rw[Bool.eq_iff_iff]
   exact⟨fun q=>(hO.trans (hO.symm h) ⟨⟨h.1.1,hg⟩,q⟩).2,fun q=>(hO.trans h ⟨⟨h.1.2,hg⟩,q⟩).2⟩
  ·rw[List.getElem?_eq_none (by rw[alkS_row h.1.1];omega),List.getElem?_eq_none (by rw[alkS_row h.1.2];omega)]
 rw[fsN,fsN,hr]
theorem Own.fs_alk {e f:Nat} (he:e<k.pre.length) (hf:f<k.pre.length) (h:fsN (alkS k) e=fsN (alkS k) f):Alk k e f :=
 hO.trans (hO.fs he) (h▸hO.symm (hO.fs hf))
theorem Own.firsts:Firsts (alkS k) k.pre.length:=fun _ he=>⟨(hO.fs he).1.2,(hO.fs_eq (hO.fs he)).symm⟩
end
theorem kept_nodup (Z:List (List Bool)) (n:Nat):(keptL Z n).Nodup:=List.Nodup.sublist (List.filter_sublist) List.nodup_range
section
variable {Z:List (List Bool)} {n:Nat} (hF:Firsts Z n)
include hF
theorem kept_pl {e:Nat} (he:e<n):(keptL Z n)[plN Z n e]? = some (fsN Z e):=by
 have h:=hF.pl he
 rw[List.getElem?_eq_getElem h]
 congr 1
 exact List.getElem_idxOf h
omit hF in
theorem pl_kept {q e:Nat} (h:(keptL Z n)[q]? = some e):e<n∧fsN Z e=e∧plN Z n e=q:=by
 have hm:=List.mem_iff_getElem?.2 ⟨q,h⟩
 rw[keptL,List.mem_filter,List.mem_range] at hm
 have h2:fsN Z e=e:=by simpa using hm.2
 refine⟨hm.1,h2,?_⟩
 rw[plN,h2]
 obtain⟨hq,he⟩:=List.getElem?_eq_some_iff.1 h
 rw[← he]
 exact (kept_nodup Z n).idxOf_getElem q hq
theorem pl_eq {e f:Nat} (he:e<n) (hf:f<n):plN Z n e=plN Z n f↔fsN Z e=fsN Z f:=by
 constructor
 ·intro h
  have h1:=kept_pl hF he
  have h2:=kept_pl hF hf
  rw[h,h2] at h1
  exact (Option.some.inj h1).symm
 ·intro h
  rw[plN,plN,h]
end
theorem stepQ_bit {r:List Nat} {pl:Nat→Nat} {e f p h:Nat} {q:List Nat} (hl:pl e<q.length):((stepQ r pl e f q).getD p 0).testBit h=true↔(q.getD p 0).testBit h=true∨(pl e=p∧pl f=h∧(r.getD e 0).testBit f=true):=by
 rw[stepQ,List.getD_eq_getElem?_getD,List.getElem?_set]
 by_cases hp:pl e=p
 ·subst hp
  rw[if_pos rfl,if_pos hl,Option.getD_some]
  cases hb:(r.getD e 0).testBit f with
  |true =>
   rw[cond_true,Nat.testBit_or,Bool.or_eq_true,Nat.testBit_two_pow]
   simp
  |false =>
   rw[cond_false]
   simp
 ·rw[if_neg hp,← List.getD_eq_getElem?_getD]
  exact⟨.inl,fun q=>q.elim id fun q=>absurd q.1 hp⟩
theorem rowQ_bit {r:List Nat} {pl:Nat→Nat} {e p h:Nat}:∀ {k:Nat} {q:List Nat},pl e<q.length→(((rowQ r pl e k q).getD p 0).testBit h=true↔(q.getD p 0).testBit h=true∨∃ f,f<k∧pl e=p∧pl f=h∧(r.getD e 0).testBit f=true)
 |0,q,_=>⟨.inl,fun g=>g.elim id fun ⟨f,hf,_⟩=>by omega⟩
 |k+1,q,hl=>by
  rw[rowQ,stepQ_bit (by rw[rowQ_len];exact hl),rowQ_bit hl]
  constructor
  ·rintro ((g|⟨f,hf,g⟩)|g)
   ·exact .inl g
   ·exact .inr ⟨f,by omega,g⟩
   ·exact .inr ⟨k,by omega,g⟩
  ·rintro (g|⟨f,hf,g⟩)
   ·exact .inl (.inl g)
   ·by_cases e1:f=k
    ·subst e1;exact .inr g
    ·exact .inl (.inr ⟨f,by omega,g⟩)
theorem allQ_bit {r:List Nat} {pl:Nat→Nat} {n p h:Nat}:∀ {k:Nat} {q:List Nat},(∀ e,e<k→pl e<q.length)→(((allQ r pl n k q).getD p 0).testBit h=true↔(q.getD p 0).testBit h=true∨∃ e f,e<k∧f<n∧pl e=p∧pl f=h∧(r.getD e 0).testBit f=true)
 |0,q,_=>⟨.inl,fun g=>g.elim id fun ⟨_,_,he,_⟩=>by omega⟩
 |k+1,q,hl=>by
  rw[allQ,rowQ_bit (by rw[allQ_len];exact hl k (by omega)),allQ_bit fun e he=>hl e (by omega)]
  constructor
  ·rintro ((g|⟨e,f,he,g⟩)|⟨f,hf,g⟩)
   ·exact .inl g
   ·exact .inr ⟨e,f,by omega,g⟩
   ·exact .inr ⟨k,f,by omega,hf,g⟩
  ·rintro (g|⟨e,f,he,g⟩)
   ·exact .inl (.inl g)
   ·by_cases e1:e=k
    ·subst e1;exact .inr ⟨f,g⟩
    ·exact .inl (.inr ⟨e,f,by omega,g⟩)
theorem relQ_bit {Z:List (List Bool)} {n p h:Nat} {r:List Nat} (hF:Firsts Z n):((relQ Z n r).getD p 0).testBit h=true↔∃ e f,e<n∧f<n∧plN Z n e=p∧plN Z n f=h∧(r.getD e 0).testBit f=true:=by
 rw[relQ,allQ_bit fun e he=>by rw[List.length_replicate];exact hF.pl he]
 have hz:((List.replicate (keptL Z n).length 0).getD p 0).testBit h=false:=by
  rw[List.getD_eq_getElem?_getD,List.getElem?_replicate]
  split
  ·exact Nat.zero_testBit _
  ·exact Nat.zero_testBit _
 rw[hz]
 simp
theorem relQ_len (Z:List (List Bool)) (n:Nat) (r:List Nat):(relQ Z n r).length=(keptL Z n).length:=by rw[relQ,allQ_len,List.length_replicate]
theorem relQ_lt {Z:List (List Bool)} {n p:Nat} {r:List Nat} (hF:Firsts Z n):(relQ Z n r).getD p 0<2^(keptL Z n).length:=by
 refine Nat.lt_pow_two_of_testBit _ fun h hh => ?_
 cases hb:((relQ Z n r).getD p 0).testBit h with
 |false=>rfl
 |true =>
  obtain⟨e,f,_,hf,_,rfl,_⟩:=(relQ_bit hF).1 hb
  have:=hF.pl hf
  omega
section
variable {k:Act} {Z:List (List Bool)} {n:Nat} (hF:Firsts Z n)
include hF
theorem sfB_pre {e:Nat} (he:e<n):(sfB k Z n).pre.getD (plN Z n e) []=k.pre.getD (fsN Z e) []:=by
 rw[sfB,List.getD_eq_getElem?_getD,List.getElem?_map,kept_pl hF he];rfl
theorem sfB_post {e:Nat} (he:e<n):(sfB k Z n).post.getD (plN Z n e) []=k.post.getD (fsN Z e) []:=by
 rw[sfB,List.getD_eq_getElem?_getD,List.getElem?_map,kept_pl hF he];rfl
theorem sfB_rel {i p h:Nat}:(relA (sfB k Z n) i p).testBit h=true↔i<k.rel.length∧∃ e f,e<n∧f<n∧plN Z n e=p∧plN Z n f=h∧(relA k i e).testBit f=true:=by
 by_cases hi:i<k.rel.length
 ·have e:relA (sfB k Z n) i p=(relQ Z n (k.rel.getD i [])).getD p 0:=by
   rw[relA,sfB,List.getD_eq_getElem?_getD (l:=List.map _ _),List.getElem?_map,getD_mem hi (d:=[])];rfl
  rw[e,relQ_bit hF]
  exact⟨fun q=>⟨hi,q⟩,fun q=>q.2⟩
 ·constructor
  ·intro q
   rw[relA,sfB,List.getD_eq_getElem?_getD (l:=List.map _ _),List.getElem?_map,List.getElem?_eq_none (by omega)] at q
   have q:(0:Nat).testBit h=true:=q
   rw[Nat.zero_testBit] at q
   cases q
  ·intro q
   exact absurd q.1 hi
end
set_option maxHeartbeats 4000000
open Go.RowKit (Below)
theorem cl_cell {W:World} {b:Nat} {v:Value} (h:Cl W b v):W.cell? ⟨b,0,none⟩=some v∧W.frozen? ⟨b,0,none⟩=false:=by
 obtain⟨ty,h⟩:=h
 constructor
 ·simp[World.cell?,h]
 ·simp[World.frozen?,h]
theorem it_members (s:Nat) (hs:s<2^64):IterC Tryz.prog 163 (s:Nat) ((memL s).map Int.ofNat):=by
 refine⟨by kernel_rfl,fun l blk J Jx W hG hset hy h0 hc => ?_⟩
 refine (callsIn_wide (n:=0)).1 (callsIn_of_wp Tryz.func163 rfl trivial ?_)
 simp only[Tryz.ntmps163,List.size_toArray,List.length_cons,List.length_nil,Nat.reduceAdd,Nat.reduceSub,Array.replicate_succ,Array.replicate_zero,List.push_toArray,List.append_toArray,List.nil_append,List.cons_append]
 refine wpIn_block ?_
 refine loop_sound (r:=none) (fun n a w=>∃ (i x:Nat) (v2 v3 v4 v5 v6 v7 v8 v9 v10 v11 v12 v13:Value),n=(memL x).length∧x<2^64∧i≤(memL s).length∧J i w∧Cl w blk (.int .u64 x)∧(memL s).drop i=memL x ∧
  a={ tmps := #[.func (.yield l) #[] #[],.pointer (some ⟨blk,0,none⟩),v2,v3,v4,v5,v6,v7,v8,v9,v10,v11,v12,v13],defers:=[] }) ?_ ⟨_,0,s,_,_,_,_,_,_,_,_,_,_,_,_,rfl,hs,Nat.zero_le _,h0,hc,rfl,rfl⟩
 rintro n a w ⟨i,x,v2,v3,v4,v5,v6,v7,v8,v9,v10,v11,v12,v13,rfl,hx,hil0,hJ,hcl,hd,rfl⟩
 obtain⟨hc1,hf1⟩:=cl_cell hcl
 refine (show Code.wpIn Fence.wide 0 _ _ _ _ _ from ?_)
 by_cases hx0:x=0
 ·subst hx0
  gi_wp2
  have hl:i=(memL s).length:=by
   rw[memL_zero] at hd
   have:=List.drop_eq_nil_iff.1 hd
   omega
  first|go_end0|go_ret
  refine⟨⟨_,rfl⟩,.inl ?_⟩
  rw[List.length_map,← hl]
  exact hJ
 ·have hst:=memL_step hx0 hx
  have hil:(memL s)[i]? = some (Lib.ctz 64 x):=by
   have:(List.drop i (memL s))[0]? = some (Lib.ctz 64 x):=by rw[hd,hst];rfl
   rwa [List.getElem?_drop,Nat.add_zero] at this
  have hlt:i<(memL s).length:=(List.getElem?_eq_some_iff.1 hil).1
  have hix:((memL s).map Int.ofNat)[i]? = some ((Lib.ctz 64 x:Nat):Int):=by rw[List.getElem?_map,hil];rfl
  have hd2:(memL s).drop (i+1)=memL (x&&&(x-1)):=by
   rw[← List.drop_drop,hd,hst];rfl
  have hne:((x:Int)==0)=false:=by simpa using hx0
  have e1:IntKind.wrap .u64 ((x:Int)-1)=((x-1:Nat):Int):=by
   rw[wrapU (by omega) (by omega)];omega
  have e2:andU (x:Nat) ((x-1:Nat):Int)=((x&&&(x-1):Nat):Int):=andU_nat hx (by omega)
  gi_wp2
  refine⟨trivial,rfl,(callsIn_wide (n:=0)).2 ((tz64 x hx w (hG i w hJ).2).mono ?_)⟩
  rintro e w' ⟨rfl,rfl⟩
  obtain⟨fn,tm,asg,bod,hy1,hround⟩:=hy i _ w' _ hix hJ hcl
  gi_wp2
  refine⟨rfl,hround.mono ?_⟩
  rintro e W2 (⟨rfl,hJ2,hcl2⟩|⟨rfl,hx2⟩)
  ·obtain⟨hc2,hf2⟩:=cl_cell hcl2
   have e3:bits BinOp.and .u64 (x:Int) ((x-1:Nat):Int)=((x&&&(x-1):Nat):Int):=bits_and_u64_nat x _ hx (by omega)
   gi_wp2
   exact⟨_,by rw[hst];exact Nat.lt_succ_self _,i+1,x&&&(x-1),_,_,_,_,_,_,_,_,_,_,_,_,rfl,Nat.and_lt_two_pow _ (by omega),hlt,hset (i+1) W2 _ _ hJ2 hcl2,hcl2.set,hd2,rfl⟩
  ·gi_wp2
   refine⟨rfl,.tuple #[],?_,⟨_,rfl⟩,.inr hx2⟩
   simp[results,show Tryz.f163.results = #[] from rfl]
set_option maxHeartbeats 400000
def biR (m:Mo) (i v:Nat):Nat:=(m.rel.getD i []).getD v 0
def biOr (z:List Nat) (l:List Nat):Nat:=l.foldl (fun s x=>s |||z.getD x 0) 0
def biMeet (z:List Nat) (s:Nat) (l:List Nat):Bool:=l.all fun x=>z.getD x 0&&&s != 0
def biForth (a b:Mo) (z:List Nat) (v w i:Nat):Bool:=bif biMeet z (biR b i w) (memL (biR a i v)) then biR b i w&&&biOr z (memL (biR a i v))==biR b i w else false
def biMt (a b:Mo) (z:List Nat) (v w:Nat):Bool:=bif facN a v a.val.length==facN b w b.val.length then (List.range a.rel.length).all (biForth a b z v w) else false
def biClr (z:List Nat) (v w:Nat):List Nat:=z.set v (z.getD v 0 ^^^ (z.getD v 0&&&2^w))
abbrev BiS:=List Nat×Bool
def biStep (a b:Mo) (v w:Nat) (s:BiS):BiS:=bif (bif (s.1.getD v 0).testBit w then !biMt a b s.1 v w else false) then (biClr s.1 v w,true) else s
def biRow (a b:Mo) (v:Nat):Nat→BiS→BiS
 |0,s=>s
 |k+1,s=>biStep a b v k (biRow a b v k s)
def biPass (a b:Mo) (m:Nat):Nat→BiS→BiS
 |0,s=>s
 |k+1,s=>biRow a b k m (biPass a b m k s)
def biIter (a b:Mo) (n m:Nat):Nat→List Nat→List Nat
 |0,z=>z
 |k+1,z=>bif (biPass a b m n (z,false)).2 then biIter a b n m k (biPass a b m n (z,false)).1 else z
structure BiTab (z:List Nat) (n m:Nat):Prop where
 len:z.length=n
 low:∀ s,s∈z→s<2^m
theorem BiTab.at {z:List Nat} {n m v:Nat} (h:BiTab z n m) (hv:v<n):z[v]? = some (z.getD v 0)∧z.getD v 0<2^m:=by
 have h1:z[v]? = some (z.getD v 0):=getD_mem (by rw[h.len];exact hv)
 exact⟨h1,h.low _ (List.mem_iff_getElem?.2 ⟨v,h1⟩)⟩
theorem biSet_getD (z:List Nat) (v x e:Nat):(z.set v x).getD e 0=if e=v∧v<z.length then x else z.getD e 0:=by
 rw[List.getD_eq_getElem?_getD,List.getD_eq_getElem?_getD,List.getElem?_set]
 by_cases h:v=e
 ·subst h
  by_cases h2:v<z.length
  ·rw[if_pos rfl,if_pos h2,if_pos ⟨rfl,h2⟩];rfl
  ·rw[if_pos rfl,if_neg h2,if_neg (fun q=>h2 q.2),List.getElem?_eq_none (by omega)]
 ·rw[if_neg h,if_neg (fun q=>h q.1.symm)]
theorem biFlip_bit (s w j:Nat):(s ^^^ (s&&&2^w)).testBit j=(s.testBit j && !decide (w=j)):=by
 rw[Nat.testBit_xor,Nat.testBit_and,Nat.testBit_two_pow]
 cases s.testBit j<;>cases decide (w=j)<;>rfl
theorem biFlip_lt {s w m:Nat} (h:s<2^m):s ^^^ (s&&&2^w)<2^m:=Nat.xor_lt_two_pow h (Nat.lt_of_le_of_lt Nat.and_le_left h)
theorem BiTab.clr {z:List Nat} {n m:Nat} (h:BiTab z n m) {v w:Nat} (hv:v<n):BiTab (biClr z v w) n m:=by
 refine⟨by rw[biClr,List.length_set,h.len],fun s hs => ?_⟩
 rcases List.mem_or_eq_of_mem_set hs with hs|hs
 ·exact h.low s hs
 ·rw[hs];exact biFlip_lt (h.at hv).2
theorem biClr_bit {z:List Nat} {n m v w:Nat} (h:BiTab z n m) (hv:v<n) (v' w':Nat):((biClr z v w).getD v' 0).testBit w'=bif decide (v'=v∧w'=w) then false else (z.getD v' 0).testBit w':=by
 rw[biClr,biSet_getD,h.len]
 by_cases e:v'=v
 ·subst e
  rw[if_pos ⟨rfl,hv⟩,biFlip_bit]
  by_cases e2:w'=w
  ·subst e2;simp
  ·rw[show decide (w=w')=false from decide_eq_false fun q=>e2 q.symm,Bool.not_false,Bool.and_true]
   simp[e2]
 ·rw[if_neg (fun q=>e q.1)]
  simp[e]
def biCnt (z:List Nat) (n m:Nat):Nat:=cntR (fun k=>(z.getD (k / m) 0).testBit (k % m)) (n*m)
structure BiOk (n m:Nat) (z:List Nat) (s:BiS):Prop where
 tab:BiTab s.1 n m
 sub:∀ e f,(s.1.getD e 0).testBit f=true→(z.getD e 0).testBit f=true
 yes:s.2=true→biCnt s.1 n m<biCnt z n m
 no:s.2=false→s.1=z
theorem BiOk.step {a b:Mo} {n m:Nat} {z:List Nat} {s:BiS} (h:BiOk n m z s) {e f:Nat} (he:e<n) (hf:f<m):BiOk n m z (biStep a b e f s):=by
 unfold biStep
 cases hz:(s.1.getD e 0).testBit f with
 |false=>exact h
 |true =>
  cases hm:biMt a b s.1 e f with
  |true=>exact h
  |false =>
   show BiOk n m z (biClr s.1 e f,true)
   have hbc:=biClr_bit h.tab he (w:=f)
   have hle:∀ e' f',((biClr s.1 e f).getD e' 0).testBit f'=true→(s.1.getD e' 0).testBit f'=true:=fun e' f' h'=>by
    rw[hbc] at h'
    cases hd:decide (e'=e∧f'=f) with
    |true=>rw[hd] at h';cases h'
    |false=>rw[hd] at h';exact h'
   refine⟨h.tab.clr he,fun e' f' h'=>h.sub e' f' (hle e' f' h'),fun _ => ?_,fun h'=>by cases h'⟩
   have hk:e*m+f<n*m:=by
    have:=Nat.mul_le_mul_right m (show e+1≤n from he)
    rw[Nat.add_mul,Nat.one_mul] at this
    omega
   have hd:(e*m+f) / m=e:=by rw[Nat.add_comm,Nat.add_mul_div_right _ _ (by omega),Nat.div_eq_of_lt hf,Nat.zero_add]
   have hr:(e*m+f) % m=f:=by rw[Nat.add_comm,Nat.add_mul_mod_self_right,Nat.mod_eq_of_lt hf]
   refine Nat.lt_of_lt_of_le (cntR_lt (k:=e*m+f) (p:=fun k=>(s.1.getD (k / m) 0).testBit (k % m)) (by simp only[hd,hr];exact hz) ?_ hk fun k _ hq=>hle _ _ hq) (cntR_le fun k _ hq=>h.sub _ _ hq)
   simp only[hd,hr]
   rw[hbc]
   simp
theorem BiOk.row {a b:Mo} {n m:Nat} {z:List Nat} {e:Nat} (he:e<n):∀ {k:Nat} {s:BiS},BiOk n m z s→k≤m→BiOk n m z (biRow a b e k s)
 |0,_,h,_=>h
 |k+1,_,h,hk=>(h.row he (k:=k) (by omega)).step he (by omega)
theorem BiOk.pass {a b:Mo} {n m:Nat} {z:List Nat}:∀ {k:Nat} {s:BiS},BiOk n m z s→k≤n→BiOk n m z (biPass a b m k s)
 |0,_,h,_=>h
 |k+1,_,h,hk=>(h.pass (k:=k) (by omega)).row (by omega) (Nat.le_refl m)
theorem BiOk.start {n m:Nat} {z:List Nat} (hz:BiTab z n m):BiOk n m z (z,false):=⟨hz,fun _ _ h=>h,fun h=>(by cases h),fun _=>rfl⟩
def biEnd (a b:Mo) (n m:Nat) (z:List Nat):List Nat:=biIter a b n m (biCnt z n m+1) z
theorem biIter_more {a b:Mo} {n m:Nat}:∀ (k:Nat) (z:List Nat),BiTab z n m→biCnt z n m<k→biIter a b n m k z=biIter a b n m (biCnt z n m+1) z
 |k+1,z,hz,hk=>by
  have hO:=(BiOk.start hz).pass (a:=a) (b:=b) (k:=n) (Nat.le_refl n)
  rw[biIter,biIter]
  cases h:(biPass a b m n (z,false)).2 with
  |false=>rfl
  |true =>
   have hc:=hO.yes h
   rw[cond_true,cond_true,biIter_more k _ hO.tab (by omega)]
   by_cases e:biCnt (biPass a b m n (z,false)).1 n m+1=biCnt z n m
   ·rw[e]
   ·exact (biIter_more (biCnt z n m) _ hO.tab hc).symm
theorem biEnd_step {a b:Mo} {n m:Nat} {z:List Nat} (hz:BiTab z n m):biEnd a b n m z=bif (biPass a b m n (z,false)).2 then biEnd a b n m (biPass a b m n (z,false)).1 else z:=by
 have hO:=(BiOk.start hz).pass (a:=a) (b:=b) (k:=n) (Nat.le_refl _)
 rw[biEnd,biIter]
 cases h:(biPass a b m n (z,false)).2 with
 |false=>rfl
 |true=>exact biIter_more _ _ hO.tab (hO.yes h)
def biZ0 (n m:Nat):List Nat:=List.replicate n (2^m-1)
theorem biZ0_tab (n m:Nat):BiTab (biZ0 n m) n m:=⟨by simp[biZ0],fun s hs=>by
 rw[List.eq_of_mem_replicate hs]
 have:=Nat.two_pow_pos m
 omega⟩
theorem biIter_tab {a b:Mo} {n m:Nat}:∀ (k:Nat) (z:List Nat),BiTab z n m→BiTab (biIter a b n m k z) n m
 |0,_,hz=>hz
 |k+1,z,hz=>by
  have hO:=(BiOk.start hz).pass (a:=a) (b:=b) (k:=n) (Nat.le_refl n)
  rw[biIter]
  cases (biPass a b m n (z,false)).2 with
  |false=>exact hz
  |true=>exact biIter_tab k _ hO.tab
def biAll (a b:Mo):List Nat:=biEnd a b a.n.toNat b.n.toNat (biZ0 a.n.toNat b.n.toNat)
theorem biAll_tab (a b:Mo):BiTab (biAll a b) a.n.toNat b.n.toNat:=biIter_tab _ _ (biZ0_tab _ _)
def biMem (a b:Mo) (v w:Nat) (s:BiS):BiS:=bif !biMt a b s.1 v w then (biClr s.1 v w,true) else s
theorem biRow_bit {a b:Mo} {n m:Nat} {z:List Nat} {s:BiS} (h:BiOk n m z s) {v:Nat} (hv:v<n) {j:Nat}:∀ {k:Nat},k≤m→k≤j→((biRow a b v k s).1.getD v 0).testBit j=(s.1.getD v 0).testBit j
 |0,_,_=>rfl
 |k+1,hk,hj=>by
  have ih:=biRow_bit (a:=a) (b:=b) h hv (j:=j) (k:=k) (by omega) (by omega)
  have hO:=h.row (a:=a) (b:=b) hv (k:=k) (by omega)
  rw[biRow,biStep]
  cases hz:((biRow a b v k s).1.getD v 0).testBit k with
  |false=>exact ih
  |true =>
   cases hm:biMt a b (biRow a b v k s).1 v k with
   |true=>exact ih
   |false =>
    show ((biClr (biRow a b v k s).1 v k).getD v 0).testBit j=_
    rw[biClr_bit hO.tab hv,show decide (v=v∧j=k)=false from decide_eq_false fun q=>by omega]
    exact ih
theorem biRow_mem {a b:Mo} {n m:Nat} {z:List Nat} {s:BiS} (h:BiOk n m z s) {v:Nat} (hv:v<n):∀ {k:Nat},k≤m→(((List.range k).filter (s.1.getD v 0).testBit).foldl (fun s w=>biMem a b v w s) s)=biRow a b v k s
 |0,_=>rfl
 |k+1,hk=>by
  have ih:=biRow_mem (a:=a) (b:=b) h hv (k:=k) (by omega)
  have hb:=biRow_bit (a:=a) (b:=b) h hv (j:=k) (k:=k) (by omega) (Nat.le_refl k)
  rw[List.range_succ,List.filter_append,List.foldl_append,ih,biRow,biStep,hb]
  cases hq:(s.1.getD v 0).testBit k with
  |false=>rw[show List.filter (s.1.getD v 0).testBit [k]=[] by simp only[List.filter_cons,List.filter_nil,hq];rfl];rfl
  |true=>rw[show List.filter (s.1.getD v 0).testBit [k]=[k] by simp only[List.filter_cons,List.filter_nil,hq];rfl];rfl
theorem biRow_members {a b:Mo} {n m:Nat} {z:List Nat} {s:BiS} (h:BiOk n m z s) {v:Nat} (hv:v<n) (hm:m≤64):(memL (s.1.getD v 0)).foldl (fun s w=>biMem a b v w s) s=biRow a b v m s:=by
 rw[memL_range (h.tab.at hv).2 hm]
 exact biRow_mem h hv (Nat.le_refl m)
theorem biMem_tab {a b:Mo} {n m v w:Nat} {s:BiS} (h:BiTab s.1 n m) (hv:v<n):BiTab (biMem a b v w s).1 n m:=by
 rw[biMem]
 cases biMt a b s.1 v w with
 |true=>exact h
 |false=>exact h.clr hv
theorem biFold_tab {a b:Mo} {n m v:Nat} (hv:v<n):∀ (l:List Nat) (s:BiS),BiTab s.1 n m→BiTab (l.foldl (fun s w=>biMem a b v w s) s).1 n m
 | [],_,h=>h
 |w::r,s,h=>biFold_tab hv r _ (biMem_tab h hv)
theorem biFold_take {a b:Mo} {v:Nat} {l:List Nat} {s:BiS} {j y:Nat} (h:l[j]? = some y):(l.take (j+1)).foldl (fun s w=>biMem a b v w s) s=biMem a b v y ((l.take j).foldl (fun s w=>biMem a b v w s) s):=by
 rw[List.take_add_one,h,List.foldl_append];rfl
set_option maxHeartbeats 8000000
theorem dc_members {M:Nat→Prop} {w0:W0} {L:DH} {K:DV→DH→Prop} (s:Int) (h:K (.clo 163 [] [.ref L.next 0]) (L.push (.var [.pv (.int .u64 s)]))):DC Tryz.prog M w0 128 [.pv (.int .u64 s)] L K:=by
 refine DC.intro mixed (fn:=Tryz.f128) rfl rfl rfl ?_
 try conv=>whnf
 exact h
theorem biR_at {m:Mo} {n i v:Nat} (hM:OkM m n) (hi:i<m.rel.length) (hv:v<n):∃ r,m.rel[i]? = some r∧r[v]? = some (biR m i v)∧biR m i v<2^n:=by
 obtain⟨r,hr⟩:∃ r,m.rel[i]? = some r:=⟨_,List.getElem?_eq_getElem hi⟩
 have hm:=List.mem_iff_getElem?.2 ⟨i,hr⟩
 have hl:=hM.rows r hm
 have e:biR m i v=r.getD v 0:=by rw[biR,show m.rel.getD i []=r by rw[List.getD_eq_getElem?_getD,hr];rfl]
 have h1:r[v]? = some (r.getD v 0):=getD_mem (by omega)
 exact⟨r,hr,by rw[e];exact h1,by rw[e];exact hM.bits r hm _ (List.mem_iff_getElem?.2 ⟨v,h1⟩)⟩
theorem biMem_lt {s n x:Nat} (hs:s<2^n) (hx:x∈memL s):x<n:=by
 have:=(memL_mem.1 hx).2
 apply Nat.lt_of_not_le
 intro h
 rw[Nat.testBit_lt_two_pow (Nat.lt_of_lt_of_le hs (Nat.pow_le_pow_right (by decide) h))] at this
 cases this
theorem biOr_lt {z:List Nat} {m:Nat} (hz:∀ x,z.getD x 0<2^m):∀ (l:List Nat) (s:Nat),s<2^m→l.foldl (fun s x=>s |||z.getD x 0) s<2^m
 | [],s,h=>h
 |x::r,s,h=>biOr_lt hz r _ (Nat.or_lt_two_pow h (hz x))
theorem BiTab.low' {z:List Nat} {n m:Nat} (h:BiTab z n m) (x:Nat):z.getD x 0<2^m:=by
 by_cases hx:x<n
 ·exact (h.at hx).2
 ·rw[List.getD_eq_getElem?_getD,List.getElem?_eq_none (by rw[h.len];omega)]
  exact Nat.two_pow_pos m
theorem biOr_take {z l:List Nat} {j y:Nat} (h:l[j]? = some y):biOr z (l.take (j+1))=biOr z (l.take j) |||z.getD y 0:=by
 rw[biOr,biOr,List.take_add_one,h,List.foldl_append];rfl
theorem biMeet_take {z l:List Nat} {s j y:Nat} (h:l[j]? = some y):biMeet z s (l.take (j+1))=(biMeet z s (l.take j) && (z.getD y 0&&&s != 0)):=by
 rw[biMeet,biMeet,List.take_add_one,h,List.all_append];simp
theorem biMeet_no {z l:List Nat} {s j y:Nat} (h:l[j]? = some y) (h0:z.getD y 0&&&s=0):biMeet z s l=false:=by
 rw[biMeet,List.all_eq_false]
 exact⟨y,List.mem_iff_getElem?.2 ⟨j,h⟩,by rw[h0];simp⟩
theorem andNotU_xor {a b:Nat} (ha:a<2^64):andNotU a b=((a ^^^ (a&&&b):Nat):Int):=by
 have e:∀ x:Nat,(BitVec.ofInt 64 (x:Int))=BitVec.ofNat 64 x:=fun x=>BitVec.ofInt_natCast 64 x
 unfold andNotU
 rw[show IntKind.bits .u64=64 from rfl,e,e]
 have hb:((BitVec.ofNat 64 a &&& ~~~BitVec.ofNat 64 b).toNat:Nat)=a ^^^ (a&&&b):=by
  apply Nat.eq_of_testBit_eq
  intro i
  rw[BitVec.toNat_and,Nat.testBit_and,Nat.testBit_xor,Nat.testBit_and,BitVec.testBit_toNat,BitVec.testBit_toNat,BitVec.getLsbD_not,BitVec.getLsbD_ofNat,BitVec.getLsbD_ofNat]
  by_cases hi:i<64
  ·simp only[hi,decide_true,Bool.true_and]
   cases a.testBit i<;>cases b.testBit i<;>rfl
  ·have:a.testBit i=false:=Nat.testBit_lt_two_pow (Nat.lt_of_lt_of_le ha (Nat.pow_le_pow_right (by decide) (by omega)))
   simp[hi,this]
 rw[hb]
 have hlt:a ^^^ (a&&&b)<2^64:=Nat.xor_lt_two_pow ha (Nat.lt_of_le_of_lt Nat.and_le_left ha)
 exact wrapU (by omega) (by omega)
theorem andNot_no {a b:Nat} (ha:a<2^64):(andNotU a b != 0)=!(a&&&b==a):=by
 rw[andNotU_xor ha]
 by_cases h:a&&&b=a
 ·rw[h,Nat.xor_self];simp
 ·have h2:a ^^^ (a&&&b)≠0:=fun q=>h (by
   have:(a ^^^ (a&&&b)) ^^^ (a&&&b)=a:=by rw[Nat.xor_assoc,Nat.xor_self,Nat.xor_zero]
   rw[q,Nat.zero_xor] at this
   exact this)
  have h3:((a&&&b==a):Bool)=false:=by simpa using h
  rw[h3]
  simpa using h2
theorem biForth_all {a b:Mo} {z:List Nat} {v w:Nat} (h:facN a v a.val.length=facN b w b.val.length) (ha:∀ i,i<a.rel.length→biForth a b z v w i=true):biMt a b z v w=true:=by
 rw[biMt,h]
 simp only[beq_self_eq_true,cond_true,List.all_eq_true]
 exact fun i hi=>ha i (List.mem_range.1 hi)
theorem biForth_one {a b:Mo} {z:List Nat} {v w i:Nat} (hi:i<a.rel.length) (ha:biForth a b z v w i=false):biMt a b z v w=false:=by
 rw[biMt]
 cases (facN a v a.val.length==facN b w b.val.length) with
 |false=>rfl
 |true=>exact List.all_eq_false.2 ⟨i,List.mem_range.2 hi,by rw[ha];decide⟩
theorem bs_matched (a b:Mo) (n m:Nat) (hfa:FitM a) (hfb:FitM b) (hA:OkM a n) (hB:OkM b m) (hr:a.rel.length=b.rel.length) (z:List Nat) (hz:BiTab z n m) (v w:Nat) (hv:v<n) (hw:w<m) :
  PureFn Tryz.prog 129 [a.pv,b.pv,.sl (z.map u64),i64 v,i64 w] (.bool (biMt a b z v w)):=by
 have hFa:=md_Facts a n v hfa hA hv
 have hFb:=md_Facts b m w hfb hB hw
 have hn64:=hA.n64
 have hm64:=hB.n64
 have hag:=hA.ag
 obtain⟨R,hR⟩:∃ R,biMt a b z v w=R:=⟨_,rfl⟩
 have hfe:(facN a v a.val.length==facN b w b.val.length)=false→R=false:=fun h=>by rw[← hR,biMt,h];rfl
 have hall:facN a v a.val.length=facN b w b.val.length→(∀ i,i<a.rel.length→biForth a b z v w i=true)→R=true:=fun h1 h2=>by rw[← hR];exact biForth_all h1 h2
 have hone:∀ i,i<a.rel.length→biForth a b z v w i=false→R=false:=fun i h1 h2=>by rw[← hR];exact biForth_one h1 h2
 rw[hR]
 clear hR
 generalize facN a v a.val.length=fa at hFa hfe hall
 generalize facN b w b.val.length=fb at hFb hfe hall
 refine PureFn.introR [3,12] mixed (fn:=Tryz.f129) rfl rfl rfl fun M w0 => ?_
 try conv=>whnf
 refine⟨{ _x:Unit // fa=fb },fun _=>[(3,.pv (i64 v)),(5,.ref 0 0),(6,.ref 1 0),(7,.ref 2 0),(9,.ref 3 0),(10,.ref 4 0)],fun _=>5,fun _=>[(0,.var (cellsM a)),(1,.var (cellsM b)),(2,.var [.pv (.sl (z.map u64))]),(3,.var [.pv (i64 w)]),(4,.var [.pv (.bool false)])],?_,?_⟩
 ·(try conv=>whnf);repeat' (first|(apply And.intro<;>try conv=>whnf)|(intro h;try conv=>whnf)|(refine lin_plan (by kernel_rfl) ?_;try conv=>whnf)|(refine⟨_,(by (conv=>whnf);exact hFa),rfl,?_⟩;try conv=>whnf)|(refine⟨_,(by (conv=>whnf);exact hFb),rfl,?_⟩;try conv=>whnf)|fail)
  ·rw[hfe (by
    have h2:((fa:Int) != (fb:Int))=true:=h
    simp at h2 ⊢;omega)]
   exact .refl _
  ·exact⟨⟨(),by
    have h2:((fa:Int) != (fb:Int))=false:=h
    simp at h2;omega⟩,(by exact Wk.sm rfl rfl rfl rfl rfl)⟩
 rintro⟨_,hff⟩
 have hall:=hall hff
 try conv=>whnf
 refine⟨{ i:Nat // i≤a.rel.length∧∀ j,j<i→biForth a b z v w j=true },fun i=>[(3,.pv (i64 v)),(5,.ref 0 0),(6,.ref 1 0),(7,.ref 2 0),(9,.ref 3 0),(10,.ref 4 0),(23,.pv (i64 (a.rel.map rowPV).length)),(24,.pv (i64 i.1))],fun _=>5,fun _=>[(0,.var (cellsM a)),(1,.var (cellsM b)),(2,.var [.pv (.sl (z.map u64))]),(3,.var [.pv (i64 w)]),(4,.var [.pv (.bool false)])],fun i=>a.rel.length-i.1,⟨⟨0,Nat.zero_le _,fun j h=>by omega⟩,(by exact Wk.sm rfl rfl rfl rfl rfl)⟩,?_⟩
 rintro⟨i,hi,hfo⟩
 (try conv=>whnf);repeat' (first|(apply And.intro<;>try conv=>whnf)|(intro h;try conv=>whnf)|fail)
 ·have hi':i<a.rel.length:=by simpa using lt_dec h
  obtain⟨ra,hai,hav,hal⟩:=biR_at hA hi' hv
  obtain⟨rb,hbi,hbw,hbl⟩:=biR_at hB (show i<b.rel.length by omega) hw
  have ha64:biR a i v<2^64:=Nat.lt_of_lt_of_le hal (pow64_le hn64)
  have hb64:biR b i w<2^64:=Nat.lt_of_lt_of_le hbl (pow64_le hm64)
  have hfi:biForth a b z v w i=bif biMeet z (biR b i w) (memL (biR a i v)) then biR b i w&&&biOr z (memL (biR a i v))==biR b i w else false:=rfl
  have hone:=hone i hi'
  have hmem:∀ y,y∈memL (biR a i v)→y<n:=fun y hy=>biMem_lt hal hy
  have hit:=it_members (biR a i v) ha64
  generalize biR a i v=sa at *
  generalize biR b i w=sb at *
  generalize hl:memL sa=l at *
  have horl:∀ j,biOr z (l.take j)<2^64:=fun j=>Nat.lt_of_lt_of_le (biOr_lt hz.low' _ _ (Nat.two_pow_pos m)) (pow64_le hm64)
  have horf:biOr z l<2^64:=Nat.lt_of_lt_of_le (biOr_lt hz.low' _ _ (Nat.two_pow_pos m)) (pow64_le hm64)
  try conv=>whnf
  refine⟨{ _x:Unit // biMeet z sb l=true },fun _=>[(3,.pv (i64 v)),(5,.ref 0 0),(6,.ref 1 0),(7,.ref 2 0),(9,.ref 3 0),(10,.ref 4 0),(11,.ref 5 0),(12,.ref 6 0),(23,.pv (i64 (a.rel.map rowPV).length)),(24,.pv (i64 i))],fun _=>7,fun _=>[(0,.var (cellsM a)),(1,.var (cellsM b)),(2,.var [.pv (.sl (z.map u64))]),(3,.var [.pv (i64 w)]),(4,.var [.pv (.bool false)]),(5,.var [.pv (i64 i)]),(6,.var [.pv (u64 (biOr z l))])],?_,?_⟩
  ·(try conv=>whnf);repeat' (first|(apply And.intro<;>try conv=>whnf)|(apply infoT;rfl)|(refine⟨_,_,rfl,idx_map (by with_reducible assumption),rfl,?_⟩;try conv=>whnf)|(refine dc_members _ ?_;try conv=>whnf)|fail)
   refine⟨(sa:Nat),l.map Int.ofNat,[(3,.pv (i64 v)),(5,.ref 0 0),(6,.ref 1 0),(7,.ref 2 0),(9,.ref 3 0),(10,.ref 4 0),(11,.ref 5 0),(12,.ref 6 0),(23,.pv (i64 (a.rel.map rowPV).length)),(24,.pv (i64 i))],8,fun j=>[(0,.var (cellsM a)),(1,.var (cellsM b)),(2,.var [.pv (.sl (z.map u64))]),(3,.var [.pv (i64 w)]),(4,.var [.pv (.bool false)]),(5,.var [.pv (i64 i)]),(6,.var [.pv (u64 (biOr z (l.take j)))])],fun j=>biMeet z sb (l.take j)=true,hit,rfl,(by exact Wk.sm rfl rfl rfl rfl rfl),rfl,?_,?_⟩
   ·intro j x v' hx hI
    obtain⟨y,hy,rfl⟩:∃ y,l[j]? = some y∧x=(y:Int):=by
     rw[List.getElem?_map] at hx
     cases hq:l[j]? with
     |none=>rw[hq] at hx;cases hx
     |some y=>rw[hq] at hx;exact⟨y,rfl,(Option.some.inj hx).symm⟩
    have hyn:=hmem y (List.mem_iff_getElem?.2 ⟨j,hy⟩)
    obtain⟨hzy,hzl⟩:=hz.at hyn
    have hz64:z.getD y 0<2^64:=Nat.lt_of_lt_of_le hzl (pow64_le hm64)
    have hmt:=biMeet_take (z:=z) (s:=sb) hy
    have hmn:=biMeet_no (z:=z) (s:=sb) hy
    have hot:=biOr_take (z:=z) hy
    have hoj:=horl j
    generalize z.getD y 0=zy at *
    have hand:andU (zy:Nat) (sb:Nat)=((zy&&&sb:Nat):Int):=andU_nat hz64 hb64
    (try conv=>whnf);repeat' (first|(apply And.intro<;>try conv=>whnf)|(intro h;try conv=>whnf)|(apply infoT;rfl)|(refine lin_plan (by kernel_rfl) ?_;try conv=>whnf)|(refine⟨_,_,rfl,idx_map (by with_reducible assumption),rfl,?_⟩;try conv=>whnf)|fail)
    ·have h2:(andU (zy:Nat) (sb:Nat)==0)=true:=h
     rw[hand] at h2
     rw[hone (by rw[hfi,hmn (by simp at h2;omega)];rfl)]
     exact .refl _
    ·have h2:(andU (zy:Nat) (sb:Nat)==0)=false:=h
     rw[hand] at h2
     rw[hmt,hI,Bool.true_and]
     simp at h2 ⊢;omega
    ·(refine Wk.of ?_ ?_ rfl rfl rfl<;>repeat' (first|exact trivial|exact WkD.same _|exact WkO.same _ _ rfl|refine WkD.int ?_|refine WkO.vars rfl ?_|refine⟨?_,?_⟩|fail))
     have e1:orU (biOr z (l.take j):Nat) (zy:Nat)=((biOr z (l.take (j+1)):Nat):Int):=by rw[orU_nat hoj hz64,hot]
     exact e1
   ·intro v' hI
    have hlen:l.take (l.map Int.ofNat).length=l:=by rw[List.length_map,List.take_length]
    rw[hlen] at hI
    refine⟨⟨(),hI⟩,?_⟩
    (refine Wk.of ?_ ?_ rfl rfl rfl<;>repeat' (first|exact trivial|exact WkD.same _|exact WkO.same _ _ rfl|refine WkD.int ?_|refine WkO.vars rfl ?_|refine⟨?_,?_⟩|fail))
    exact congrArg (fun q=>((biOr z q:Nat):Int)) hlen
  rintro⟨_,hme⟩
  rw[hme,cond_true] at hfi
  have han:=andNot_no (b:=biOr z l) hb64
  (try conv=>whnf);repeat' (first|(apply And.intro<;>try conv=>whnf)|(intro h;try conv=>whnf)|(apply infoT;rfl)|(refine lin_plan (by kernel_rfl) ?_;try conv=>whnf)|(refine⟨_,_,rfl,idx_map (by with_reducible assumption),rfl,?_⟩;try conv=>whnf)|fail)
  ·have h2:(andNotU (sb:Nat) (biOr z l:Nat) != 0)=true:=h
   rw[han] at h2
   rw[hone (by rw[hfi];simpa using h2)]
   exact .refl _
  ·have h2:(andNotU (sb:Nat) (biOr z l:Nat) != 0)=false:=h
   rw[han] at h2
   refine⟨⟨i+1,hi',fun j hj => ?_⟩,by show a.rel.length-(i+1)<a.rel.length-i;omega,(by refine Wk.of ?_ ?_ rfl rfl rfl<;>repeat' (first|exact trivial|exact WkD.same _|exact WkO.same _ _ rfl|refine WkD.int ?_|refine⟨?_,?_⟩|(refine wrapA ?_ ?_ ?_;(focus simp;done);(focus (try dsimp only);omega);(focus (try dsimp only);omega))|fail))⟩
   by_cases e:j<i
   ·exact hfo j e
   ·rw[show j=i by omega,hfi];simpa using h2
 ·have hi':i=a.rel.length:=by have:=ge_dec (m:=(a.rel.map rowPV).length) h (by simpa using hi);simpa using this
  rw[hall fun j hj=>hfo j (by omega)]
  exact .refl _
def biErr (a b:Mo):Int:=bif moI a != 0 then moI a else bif moI b != 0 then moI b else bif (bif ((a.rel.length:Int) != (b.rel.length:Int)) then true else ((a.val.length:Int) != (b.val.length:Int))) then 1 else 0
theorem biErr_ok {a b:Mo} (h:biErr a b=0):(∃ n,OkM a n)∧(∃ m,OkM b m)∧a.rel.length=b.rel.length∧a.val.length=b.val.length:=by
 unfold biErr at h
 cases h1:(moI a != 0) with
 |true=>rw[h1,cond_true] at h;rw[h] at h1;cases h1
 |false =>
  cases h2:(moI b != 0) with
  |true=>rw[h1,cond_false,h2,cond_true] at h;rw[h] at h2;cases h2
  |false =>
   rw[h1,h2] at h
   simp only[cond_false] at h
   have e1:moI a=0:=by simpa using h1
   have e2:moI b=0:=by simpa using h2
   cases h3:((a.rel.length:Int) != (b.rel.length:Int)) with
   |true=>rw[h3] at h;cases h
   |false =>
    cases h4:((a.val.length:Int) != (b.val.length:Int)) with
    |true=>rw[h3,h4] at h;cases h
    |false=>exact⟨moI_ok e1,moI_ok e2,by simp at h3;omega,by simp at h4;omega⟩
theorem bs_both (a b:Mo) (hfa:FitM a) (hfb:FitM b):PureFn Tryz.prog 127 [a.pv,b.pv] (.int .i64 (biErr a b)):=by
 have hCa:=md_Check a hfa
 have hCb:=md_Check b hfb
 have e1:((a.rel.map rowPV).length:Int)=(a.rel.length:Int):=by simp
 have e2:((b.rel.map rowPV).length:Int)=(b.rel.length:Int):=by simp
 have e3:((a.val.map u64).length:Int)=(a.val.length:Int):=by simp
 have e4:((b.val.map u64).length:Int)=(b.val.length:Int):=by simp
 have hR:biErr a b=bif moI a != 0 then moI a else bif moI b != 0 then moI b else bif (bif (((a.rel.map rowPV).length:Int) != ((b.rel.map rowPV).length:Int)) then true else (((a.val.map u64).length:Int) != ((b.val.map u64).length:Int))) then 1 else 0:=by rw[e1,e2,e3,e4];rfl
 rw[hR]
 clear hR e1 e2 e3 e4
 generalize moI a=ea at hCa ⊢
 generalize moI b=eb at hCb ⊢
 refine PureFn.introC [2,5] mixed (fn:=Tryz.f127) rfl rfl rfl fun M w0 => ?_
 try conv=>whnf
 refine⟨Unit,fun _=>[(2,.ref 0 0),(3,.ref 1 0),(5,.pv (.int .i64 ea))],fun _=>2,fun _=>[(0,.var (cellsM a)),(1,.var (cellsM b))],?_,?_⟩
 ·(try conv=>whnf);repeat' (first|(refine PureFn.dy hCa rfl ?_;try conv=>whnf)|fail)
  exact⟨(),(by exact Wk.sm rfl rfl rfl rfl rfl)⟩
 rintro⟨⟩
 (try conv=>whnf);repeat' (first|(apply And.intro<;>try conv=>whnf)|(intro h;try conv=>whnf)|fail)
 ·have h':(ea != 0)=true:=h
  rw[h',cond_true]
  exact .refl _
 have h1:(ea != 0)=false:=h
 rw[h1,cond_false]
 refine⟨Unit,fun _=>[(2,.ref 0 0),(3,.ref 1 0),(6,.pv (.int .i64 eb))],fun _=>2,fun _=>[(0,.var (cellsM a)),(1,.var (cellsM b))],?_,?_⟩
 ·(try conv=>whnf);repeat' (first|(refine PureFn.dy hCb rfl ?_;try conv=>whnf)|fail)
  exact⟨(),(by exact Wk.sm rfl rfl rfl rfl rfl)⟩
 rintro⟨⟩
 (try conv=>whnf);repeat' (first|(apply And.intro<;>try conv=>whnf)|(intro h;try conv=>whnf)|apply True.intro|(apply WhenQ.mk;(try conv=>whnf);rotate_left;(try conv=>whnf);rotate_right)|with_reducible assumption|(apply not_of;with_reducible assumption)|fail)
 ·have h':(eb != 0)=true:=h
  rw[h',cond_true]
  exact .refl _
 ·have h2:(eb != 0)=false:=by assumption
  rw[h2,cond_false,show (bif (((a.rel.map rowPV).length:Int) != ((b.rel.map rowPV).length:Int)) then true else (((a.val.map u64).length:Int) != ((b.val.map u64).length:Int)))=true from h]
  exact .refl _
 ·have h2:(eb != 0)=false:=by assumption
  rw[h2,cond_false,show (bif (((a.rel.map rowPV).length:Int) != ((b.rel.map rowPV).length:Int)) then true else (((a.val.map u64).length:Int) != ((b.val.map u64).length:Int)))=false from h]
  exact .refl _
theorem ones_u {m:Nat} (hm:m≤64):IntKind.wrap .u64 (shlU 1 (m:Nat)-1)=((2^m-1:Nat):Int):=by
 by_cases h:m=64
 ·subst h;decide +kernel
 ·rw[shlU_one (by omega)]
  have h1:=Nat.two_pow_pos m
  have h2:2^m≤2^63:=Nat.pow_le_pow_right (by decide) (by omega)
  rw[wrapU (by omega) (by omega)];omega
def biP (a b:Mo):PV:=bif biErr a b != 0 then .tup [.nil,.int .i64 (biErr a b)] else .tup [.sl ((biAll a b).map u64),.int .i64 0]
theorem bs_Between (a b:Mo) (hfa:FitM a) (hfb:FitM b):PureFn Tryz.prog 95 [a.pv,b.pv] (biP a b):=by
 have hBo:=bs_both a b hfa hfb
 obtain⟨R,hR⟩:∃ R,biP a b=R:=⟨_,rfl⟩
 rw[hR]
 rw[biP] at hR
 have hok:=biErr_ok (a:=a) (b:=b)
 generalize biErr a b=c at hBo hR hok
 refine PureFn.introR [2,4,10,23] mixed (fn:=Tryz.f95) rfl rfl rfl fun M w0 => ?_
 try conv=>whnf
 refine⟨{ _x:Unit // c=0 },fun _=>[(2,.ref 0 0),(3,.ref 1 0)],fun _=>2,fun _=>[(0,.var (cellsM a)),(1,.var (cellsM b))],?_,?_⟩
 ·try conv=>whnf
  refine⟨Unit,fun _=>[(2,.ref 0 0),(3,.ref 1 0),(6,.pv (.int .i64 c))],fun _=>2,fun _=>[(0,.var (cellsM a)),(1,.var (cellsM b))],?_,?_⟩
  ·(try conv=>whnf);repeat' (first|(refine PureFn.dy hBo rfl ?_;try conv=>whnf)|fail)
   exact⟨(),(by exact Wk.sm rfl rfl rfl rfl rfl)⟩
  rintro⟨⟩
  (try conv=>whnf);repeat' (first|(apply And.intro<;>try conv=>whnf)|(intro h;try conv=>whnf)|fail)
  ·have h1:(c != 0)=true:=h
   rw[← hR,h1]
   exact .refl _
  ·exact⟨⟨(),by simpa using h⟩,(by exact Wk.sm rfl rfl rfl rfl rfl)⟩
 rintro⟨_,hc⟩
 obtain⟨⟨n,hA⟩,⟨m,hB⟩,hr,_⟩:=hok hc
 have hR:R=.tup [.sl ((biAll a b).map u64),.int .i64 0]:=by rw[← hR,hc];rfl
 have hn64:=hA.n64
 have hm64:=hB.n64
 have hnn:=hA.nn
 have hmm:=hB.nn
 have hn1:=hA.n1
 have hN:a.n.toNat=n:=by rw[hnn];rfl
 have hbi:biAll a b=biEnd a b n m (biZ0 n m):=by rw[biAll,hnn,hmm];rfl
 have hones:IntKind.wrap .u64 (shlU 1 b.n-1)=((2^m-1:Nat):Int):=by rw[hmm];exact ones_u hm64
 have hmx:=fun i=>(mixV_len n (fun _=>u64 (2^m-1)) (fun _=>u64 0) i).symm
 have hz1:List.replicate a.n.toNat (PV.int .u64 0)=mixV n (fun _=>u64 (2^m-1)) (fun _=>u64 0) 0:=by rw[hN];exact mixV_rep _ _ _
 have hz2:mixV n (fun _=>u64 (2^m-1)) (fun _=>u64 0) n=(biZ0 n m).map u64:=by rw[mixV_full,biZ0,List.map_replicate];apply List.ext_getElem? ;intro i;rw[List.getElem?_map,List.getElem?_replicate];by_cases hi:i<n<;>simp[hi]
 (try conv=>whnf);repeat' (first|(apply And.intro<;>try conv=>whnf)|(apply Or.inl;try conv=>whnf)|fail)
 ·exact rfl
 ·rw[hnn];exact Int.natCast_nonneg _
 ·show a.n≤((4294967296:Nat):Int)
  omega
 refine⟨Unit,fun _=>[(2,.ref 0 0),(3,.ref 1 0),(7,.ref 3 0)],fun _=>4,fun _=>[(0,.var (cellsM a)),(1,.var (cellsM b)),(2,.arr 1 ((biZ0 n m).map u64)),(3,.var [.buf 2 n])],?_,?_⟩
 ·try conv=>whnf
  refine⟨{ i:Nat // i≤n },fun i=>[(2,.ref 0 0),(3,.ref 1 0),(7,.ref 3 0),(23,.pv (i64 n)),(24,.pv (i64 i.1))],fun _=>4,fun i=>[(0,.var (cellsM a)),(1,.var (cellsM b)),(2,.arr 1 (mixV n (fun _=>u64 (2^m-1)) (fun _=>u64 0) i.1)),(3,.var [.buf 2 n])],fun i=>n-i.1,⟨⟨0,Nat.zero_le _⟩,?_⟩,?_⟩
  ·(refine Wk.of ?_ ?_ rfl rfl rfl<;>repeat' (first|exact trivial|exact WkD.same _|exact WkO.same _ _ rfl|refine WkD.int ?_|refine WkO.vars rfl ?_|refine⟨?_,?_⟩|fail))
   ·exact congrArg (fun z:Nat=>(z:Int)) ((List.length_replicate ..).trans hN)
   ·exact WkO.same _ _ (congrArg (fun z=>some (DObj.arr 1 z)) hz1)
   ·exact WkD.eq (congrArg (DV.buf 2) ((List.length_replicate ..).trans hN))
  rintro⟨i,hi⟩
  have hmi:=hmx i
  have hmo:=fun h=>mixV_old (n:=n) (p:=fun _=>u64 (2^m-1)) (q:=fun _=>u64 0) (e:=i) h
  have hms:=mixV_set (n:=n) (p:=fun _=>u64 (2^m-1)) (q:=fun _=>u64 0) (e:=i)
  (try conv=>whnf);repeat' (first|(apply And.intro<;>try conv=>whnf)|(intro h;try conv=>whnf)|fail)
  ·have hi':i<n:=lt_dec h
   have hmo:=hmo hi'
   refine⟨Plan.lin 0 8,[7],by kernel_rfl,?_⟩
   (try conv=>whnf);repeat' (first|(apply And.intro<;>try conv=>whnf)|with_reducible assumption|fail)
   ·exact (show (0:Int)≤b.n by omega)
   refine⟨i,rfl,hi',?_⟩
   (try conv=>whnf);repeat' (first|(apply And.intro<;>try conv=>whnf)|with_reducible assumption|exact Nat.le_refl 1|(apply ex2;(focus with_reducible assumption);try conv=>whnf)|fail)
   refine⟨⟨i+1,hi'⟩,by show n-(i+1)<n-i;omega,?_⟩
   (refine Wk.of ?_ ?_ rfl rfl rfl<;>repeat' (first|exact trivial|exact WkD.same _|exact WkO.same _ _ rfl|refine WkD.int ?_|refine⟨?_,?_⟩|(refine wrapA ?_ ?_ ?_;(focus simp;done);(focus (try dsimp only);omega);(focus (try dsimp only);omega))|fail))
   refine WkO.same _ _ (congrArg (fun z=>some (DObj.arr 1 z)) (Eq.trans ?_ hms))
   exact congrArg (fun z=>(mixV n (fun _=>u64 (2^m-1)) (fun _=>u64 0) i).set i (PV.int .u64 z)) hones
  ·have hi':i=n:=ge_dec h hi
   subst hi'
   refine⟨(),?_⟩
   (refine Wk.of ?_ ?_ rfl rfl rfl<;>repeat' (first|exact trivial|exact WkD.same _|exact WkO.same _ _ rfl|refine⟨?_,?_⟩|fail))
   exact WkO.same _ _ (congrArg (fun z=>some (DObj.arr 1 z)) hz2)
 rintro⟨⟩
 clear hz1 hz2 hmx
 have hT0:=biZ0_tab n m
 obtain⟨Z,hZ⟩:∃ Z,biEnd a b n m (biZ0 n m)=Z:=⟨_,rfl⟩
 rw[hbi,hZ] at hR
 try conv=>whnf
 refine⟨{ x:List Nat×Bool // BiTab x.1 n m∧(x.2=true→biEnd a b n m x.1=Z)∧(x.2=false→x.1=Z) },fun x=>[(2,.ref 0 0),(3,.ref 1 0),(7,.ref 3 0),(9,.ref 4 0)],fun _=>5,fun x=>[(0,.var (cellsM a)),(1,.var (cellsM b)),(2,.arr 1 (x.1.1.map u64)),(3,.var [.buf 2 n]),(4,.var [.pv (.bool x.1.2)])],fun x=>2*biCnt x.1.1 n m+(bif x.1.2 then 1 else 0),⟨⟨(biZ0 n m,true),hT0,fun _=>hZ,fun h=>(by cases h)⟩,(by exact Wk.sm rfl rfl rfl rfl rfl)⟩,?_⟩
 rintro⟨⟨z,ch⟩,hz,hy,hno⟩
 simp only at hz hy hno
 have hzl:n=(z.map u64).length:=by rw[List.length_map,hz.len]
 (try conv=>whnf);repeat' (first|(apply And.intro<;>try conv=>whnf)|(intro h;try conv=>whnf)|(apply bleI;rfl)|with_reducible assumption|fail)
 ·have hyR:=hy h
  have hO:=fun (k:Nat) (hk:k≤n)=>(BiOk.start hz).pass (a:=a) (b:=b) (k:=k) hk
  refine⟨{ v:Nat // v≤n },fun v=>[(2,.ref 0 0),(3,.ref 1 0),(7,.ref 3 0),(9,.ref 4 0),(36,.buf 2 n),(37,.pv (i64 n)),(38,.pv (i64 v.1))],fun _=>5,fun v=>[(0,.var (cellsM a)),(1,.var (cellsM b)),(2,.arr 1 ((biPass a b m v.1 (z,false)).1.map u64)),(3,.var [.buf 2 n]),(4,.var [.pv (.bool (biPass a b m v.1 (z,false)).2)])],fun v=>n-v.1,⟨⟨0,Nat.zero_le _⟩,(by exact Wk.sm rfl rfl rfl rfl rfl)⟩,?_⟩
  rintro⟨v,hv⟩
  have hOv:=hO v hv
  have hzv:n=((biPass a b m v (z,false)).1.map u64).length:=by rw[List.length_map,hOv.tab.len]
  (try conv=>whnf);repeat' (first|(apply And.intro<;>try conv=>whnf)|(intro h;try conv=>whnf)|with_reducible assumption|fail)
  ·have hv':v<n:=lt_dec h
   obtain⟨t1,t2⟩:=hOv.tab.at hv'
   have hsu:biPass a b m (v+1) (z,false)=(memL ((biPass a b m v (z,false)).1.getD v 0)).foldl (fun s w=>biMem a b v w s) (biPass a b m v (z,false)):=(biRow_members hOv hv' hm64).symm
   have ht:=hOv.tab
   refine⟨v,rfl,hv',?_⟩
   (try conv=>whnf);repeat' (first|(apply And.intro<;>try conv=>whnf)|with_reducible assumption|fail)
   refine⟨_,idx_map t1,?_⟩
   (try conv=>whnf);repeat' (first|(refine dc_members _ ?_;try conv=>whnf)|fail)
   refine⟨((biPass a b m v (z,false)).1.getD v 0:Nat),(memL ((biPass a b m v (z,false)).1.getD v 0)).map Int.ofNat,[(2,.ref 0 0),(3,.ref 1 0),(7,.ref 3 0),(9,.ref 4 0),(10,.ref 5 0),(36,.buf 2 n),(37,.pv (i64 n)),(38,.pv (i64 v))],7,fun j=>[(0,.var (cellsM a)),(1,.var (cellsM b)),(2,.arr 1 ((((memL ((biPass a b m v (z,false)).1.getD v 0)).take j).foldl (fun s w=>biMem a b v w s) (biPass a b m v (z,false))).1.map u64)),(3,.var [.buf 2 n]),(4,.var [.pv (.bool (((memL ((biPass a b m v (z,false)).1.getD v 0)).take j).foldl (fun s w=>biMem a b v w s) (biPass a b m v (z,false))).2)]),(5,.var [.pv (i64 v)])],fun _=>True,it_members _ (Nat.lt_of_lt_of_le t2 (pow64_le hm64)),rfl,(by exact Wk.sm rfl rfl rfl rfl rfl),trivial,?_,?_⟩
   ·intro j x v' hx _
    obtain⟨y,hy,rfl⟩:∃ y,(memL ((biPass a b m v (z,false)).1.getD v 0))[j]? = some y∧x=(y:Int):=by
     rw[List.getElem?_map] at hx
     cases hq:(memL ((biPass a b m v (z,false)).1.getD v 0))[j]? with
     |none=>rw[hq] at hx;cases hx
     |some y=>rw[hq] at hx;exact⟨y,rfl,(Option.some.inj hx).symm⟩
    have hym:y<m:=biMem_lt t2 (List.mem_iff_getElem?.2 ⟨j,hy⟩)
    have hFt:BiTab (((memL ((biPass a b m v (z,false)).1.getD v 0)).take j).foldl (fun s w=>biMem a b v w s) (biPass a b m v (z,false))).1 n m:=biFold_tab hv' _ _ ht
    have hFl:n=((((memL ((biPass a b m v (z,false)).1.getD v 0)).take j).foldl (fun s w=>biMem a b v w s) (biPass a b m v (z,false))).1.map u64).length:=by rw[List.length_map,hFt.len]
    have hMt:=bs_matched a b n m hfa hfb hA hB hr (((memL ((biPass a b m v (z,false)).1.getD v 0)).take j).foldl (fun s w=>biMem a b v w s) (biPass a b m v (z,false))).1 hFt v y hv' hym
    have hst:(((memL ((biPass a b m v (z,false)).1.getD v 0)).take (j+1)).foldl (fun s w=>biMem a b v w s) (biPass a b m v (z,false)))=biMem a b v y (((memL ((biPass a b m v (z,false)).1.getD v 0)).take j).foldl (fun s w=>biMem a b v w s) (biPass a b m v (z,false))):=biFold_take hy
    rw[biMem] at hst
    obtain⟨t3,t4⟩:=hFt.at hv'
    have t5:=idx_map (g:=u64) t3
    (try conv=>whnf);repeat' (first|(apply And.intro<;>try conv=>whnf)|(intro h;try conv=>whnf)|apply True.intro|(refine PureFn.dcb hMt rfl (by (conv=>whnf);exact⟨hFl,PLe.refl _,PLe.refl _,PLe.refl _,PLe.refl _,PLe.refl _,trivial⟩) ?_;try conv=>whnf)|fail)
    ·have hmt:biMt a b (((memL ((biPass a b m v (z,false)).1.getD v 0)).take j).foldl (fun s w=>biMem a b v w s) (biPass a b m v (z,false))).1 v y=false:=by simpa using h
     have hst2:(((memL ((biPass a b m v (z,false)).1.getD v 0)).take (j+1)).foldl (fun s w=>biMem a b v w s) (biPass a b m v (z,false)))=(biClr (((memL ((biPass a b m v (z,false)).1.getD v 0)).take j).foldl (fun s w=>biMem a b v w s) (biPass a b m v (z,false))).1 v y,true):=by rw[hst,hmt];rfl
     have h64:(((memL ((biPass a b m v (z,false)).1.getD v 0)).take j).foldl (fun s w=>biMem a b v w s) (biPass a b m v (z,false))).1.getD v 0<2^64:=Nat.lt_of_lt_of_le t4 (pow64_le hm64)
     have hval:andNotU ((((memL ((biPass a b m v (z,false)).1.getD v 0)).take j).foldl (fun s w=>biMem a b v w s) (biPass a b m v (z,false))).1.getD v 0:Nat) (shlU 1 (y:Nat))=(((((memL ((biPass a b m v (z,false)).1.getD v 0)).take j).foldl (fun s w=>biMem a b v w s) (biPass a b m v (z,false))).1.getD v 0 ^^^ ((((memL ((biPass a b m v (z,false)).1.getD v 0)).take j).foldl (fun s w=>biMem a b v w s) (biPass a b m v (z,false))).1.getD v 0&&&2^y):Nat):Int):=by rw[shlU_one (by omega)];exact andNotU_xor h64
     have hset:((((memL ((biPass a b m v (z,false)).1.getD v 0)).take j).foldl (fun s w=>biMem a b v w s) (biPass a b m v (z,false))).1.map u64).set v (PV.int .u64 (andNotU ((((memL ((biPass a b m v (z,false)).1.getD v 0)).take j).foldl (fun s w=>biMem a b v w s) (biPass a b m v (z,false))).1.getD v 0:Nat) (shlU 1 (y:Nat))))=(((memL ((biPass a b m v (z,false)).1.getD v 0)).take (j+1)).foldl (fun s w=>biMem a b v w s) (biPass a b m v (z,false))).1.map u64:=by rw[hval,hst2,biClr,List.map_set];rfl
     refine⟨Plan.lin 0 9,[8],by kernel_rfl,?_⟩
     (try conv=>whnf);repeat' (first|(apply And.intro<;>try conv=>whnf)|with_reducible assumption|fail)
     refine⟨v,rfl,hv',?_⟩
     (try conv=>whnf);repeat' (first|(apply And.intro<;>try conv=>whnf)|with_reducible assumption|(apply ex2;(focus with_reducible assumption);try conv=>whnf)|fail)
     ·exact (show (0:Int)≤(y:Int) by omega)
     refine⟨v,rfl,hv',?_⟩
     (try conv=>whnf);repeat' (first|(apply And.intro<;>try conv=>whnf)|apply True.intro|with_reducible assumption|exact Nat.le_refl 1|(apply ex2;(focus with_reducible assumption);try conv=>whnf)|fail)
     (refine Wk.of ?_ ?_ rfl rfl rfl<;>repeat' (first|exact trivial|exact WkD.same _|exact WkO.same _ _ rfl|refine WkO.vars rfl ?_|refine⟨?_,?_⟩|fail))
     ·exact WkO.same _ _ (congrArg (fun z=>some (DObj.arr 1 z)) hset)
     ·exact WkD.eq (congrArg (fun q:BiS=>DV.pv (.bool q.2)) hst2.symm)
    ·have hmt:biMt a b (((memL ((biPass a b m v (z,false)).1.getD v 0)).take j).foldl (fun s w=>biMem a b v w s) (biPass a b m v (z,false))).1 v y=true:=by simpa using h
     have hst2:(((memL ((biPass a b m v (z,false)).1.getD v 0)).take (j+1)).foldl (fun s w=>biMem a b v w s) (biPass a b m v (z,false)))=(((memL ((biPass a b m v (z,false)).1.getD v 0)).take j).foldl (fun s w=>biMem a b v w s) (biPass a b m v (z,false))):=by rw[hst,hmt];rfl
     (refine Wk.of ?_ ?_ rfl rfl rfl<;>repeat' (first|exact trivial|exact WkD.same _|exact WkO.same _ _ rfl|refine WkO.vars rfl ?_|refine⟨?_,?_⟩|fail))
     ·exact WkO.same _ _ (congrArg (fun q:BiS=>some (DObj.arr 1 (q.1.map u64))) hst2.symm)
     ·exact WkD.eq (congrArg (fun q:BiS=>DV.pv (.bool q.2)) hst2.symm)
   ·intro v' _
    have hfe:(((memL ((biPass a b m v (z,false)).1.getD v 0)).take ((memL ((biPass a b m v (z,false)).1.getD v 0)).map Int.ofNat).length).foldl (fun s w=>biMem a b v w s) (biPass a b m v (z,false)))=biPass a b m (v+1) (z,false):=by rw[List.length_map,List.take_length];exact hsu.symm
    try conv=>whnf
    refine⟨⟨v+1,hv'⟩,by show n-(v+1)<n-v;omega,?_⟩
    (refine Wk.of ?_ ?_ rfl rfl rfl<;>repeat' (first|exact trivial|exact WkD.same _|exact WkO.same _ _ rfl|refine WkD.int ?_|refine WkO.vars rfl ?_|refine⟨?_,?_⟩|(refine wrapA ?_ ?_ ?_;(focus simp;done);(focus (try dsimp only);omega);(focus (try dsimp only);omega))|fail))
    ·exact WkO.same _ _ (congrArg (fun q:BiS=>some (DObj.arr 1 (q.1.map u64))) hfe)
    ·exact WkD.eq (congrArg (fun q:BiS=>DV.pv (.bool q.2)) hfe)
  ·have hv':v=n:=ge_dec h hv
   subst hv'
   refine⟨Unit,fun _=>[(2,.ref 0 0),(3,.ref 1 0),(7,.ref 3 0),(62,.pv (.bool (biPass a b m v (z,false)).2))],fun _=>4,fun _=>[(0,.var (cellsM a)),(1,.var (cellsM b)),(2,.arr 1 ((biPass a b m v (z,false)).1.map u64)),(3,.var [.buf 2 v])],?_,?_⟩
   ·try conv=>whnf
    exact⟨(),(by exact Wk.sm rfl rfl rfl rfl rfl)⟩
   rintro⟨⟩
   have hst:=biEnd_step (a:=a) (b:=b) hz
   have hch:ch=true:=by assumption
   obtain⟨P,hP⟩:∃ P,P=biPass a b m v (z,false):=⟨_,rfl⟩
   rw[← hP] at hst hOv hzv
   rw[hyR] at hst
   rw[← hP]
   obtain⟨pz,pc⟩:=P
   simp only at hst
   try conv=>whnf
   refine⟨⟨(pz,pc),hOv.tab,fun h => ?_,fun h => ?_⟩,?_,(by exact Wk.sm rfl rfl rfl rfl rfl)⟩
   ·have h:pc=true:=h
    rw[hst,h];rfl
   ·have h:pc=false:=h
    rw[h] at hst
    exact (hOv.no h).trans hst.symm
   ·show 2*biCnt pz v m+(bif pc then 1 else 0)<2*biCnt z v m+(bif ch then 1 else 0)
    rw[hch]
    cases hq:pc with
    |true=>have h9:biCnt pz v m<biCnt z v m:=hOv.yes hq;simp only[cond_true];omega
    |false=>have h9:pz=z:=hOv.no hq;rw[h9];simp only[cond_true,cond_false];omega
 ·have hzz:z=Z:=hno h
  try conv=>whnf
  rw[hR]
  show PLe (.tup [.sl (z.map u64),.int .i64 0]) _
  rw[hzz]
  exact .refl _
theorem bi_ff4 {a b c d:Bool} (h:(bif (bif (bif a then true else b) then true else c) then true else d)=false):a=false∧b=false∧c=false∧d=false:=by
 cases a<;>cases b<;>cases c<;>cases d<;>simp_all
def bisB (a b:Mo) (v w:Nat):Bool:=((biAll a b).getD v 0).testBit w
def bisE (a:Mo) (v:Int) (b:Mo) (w:Int):Int:=bif biErr a b != 0 then biErr a b else bif (bif (bif (bif decide (v<0) then true else decide (v≥a.n)) then true else decide (w<0)) then true else decide (w≥b.n)) then 2 else 0
def bisP (a:Mo) (v:Int) (b:Mo) (w:Int):PV:=.tup [.bool (bif bisE a v b w != 0 then false else bisB a b v.toNat w.toNat),.int .i64 (bisE a v b w)]
theorem bs_Bisimilar (a b:Mo) (v w:Int) (hfa:FitM a) (hfb:FitM b):PureFn Tryz.prog 42 [a.pv,.int .i64 v,b.pv,.int .i64 w] (bisP a v b w):=by
 have hBt:=bs_Between a b hfa hfb
 obtain⟨R,hR⟩:∃ R,bisP a v b w=R:=⟨_,rfl⟩
 rw[hR]
 have hbad:∀ c,bisE a v b w=c→(c != 0)=true→R=.tup [.bool false,.int .i64 c]:=fun c h hc=>by rw[← hR,bisP,h,hc];rfl
 have hgood:bisE a v b w=0→R=.tup [.bool (bisB a b v.toNat w.toNat),.int .i64 0]:=fun h=>by rw[← hR,bisP,h];rfl
 have hE:bisE a v b w=bif biErr a b != 0 then biErr a b else bif (bif (bif (bif decide (v<0) then true else decide (v≥a.n)) then true else decide (w<0)) then true else decide (w≥b.n)) then 2 else 0:=rfl
 have hok:=biErr_ok (a:=a) (b:=b)
 obtain⟨q,hq,hq0,hq1⟩:∃ q,biP a b=.tup [q,.int .i64 (biErr a b)]∧(biErr a b=0→q=.sl ((biAll a b).map u64))∧(biErr a b≠0→q=.nil):=by
  unfold biP
  by_cases h:biErr a b=0
  ·rw[h];exact⟨_,rfl,fun _=>rfl,fun h=>absurd rfl h⟩
  ·rw[show (biErr a b != 0)=true by simpa using h];exact⟨_,rfl,fun h2=>absurd h2 h,fun _=>rfl⟩
 rw[hq] at hBt
 clear hR hq
 generalize biErr a b=c at hBt hE hok hq0 hq1
 refine PureFn.introC [2,4] mixed (fn:=Tryz.f42) rfl rfl rfl fun M w0 => ?_
 try conv=>whnf
 refine⟨Unit,fun _=>[(1,.pv (.int .i64 v)),(3,.pv (.int .i64 w)),(4,.ref 0 0),(6,.ref 1 0),(10,.pv q),(11,.pv (.int .i64 c))],fun _=>2,fun _=>[(0,.var (cellsM a)),(1,.var (cellsM b))],?_,?_⟩
 ·by_cases hc0:c=0
  ·obtain rfl:=hq0 hc0
   (try conv=>whnf);repeat' (first|(refine PureFn.dy hBt rfl ?_;try conv=>whnf)|fail)
   exact⟨(),(by exact Wk.sm rfl rfl rfl rfl rfl)⟩
  ·obtain rfl:=hq1 hc0
   (try conv=>whnf);repeat' (first|(refine PureFn.dy hBt rfl ?_;try conv=>whnf)|fail)
   exact⟨(),(by exact Wk.sm rfl rfl rfl rfl rfl)⟩
 rintro⟨⟩
 try conv=>whnf
 refine⟨{ _x:Unit // c=0 },fun _=>[(1,.pv (.int .i64 v)),(3,.pv (.int .i64 w)),(4,.ref 0 0),(6,.ref 1 0),(10,.pv (.sl ((biAll a b).map u64)))],fun _=>2,fun _=>[(0,.var (cellsM a)),(1,.var (cellsM b))],?_,?_⟩
 ·(try conv=>whnf);repeat' (first|(apply And.intro<;>try conv=>whnf)|(intro h;try conv=>whnf)|fail)
  ·have hc:(c != 0)=true:=h
   rw[hbad c (by rw[hE,hc];rfl) hc]
   exact .refl _
  ·have hc:c=0:=by simpa using h
   refine⟨⟨(),hc⟩,?_⟩
   (refine Wk.of ?_ ?_ rfl rfl rfl<;>repeat' (first|exact trivial|exact WkD.same _|exact WkO.same _ _ rfl|refine⟨?_,?_⟩|fail))
   exact WkD.eq (congrArg DV.pv (hq0 hc))
 rintro⟨_,hc⟩
 subst hc
 have hE:bisE a v b w=bif (bif (bif (bif decide (v<0) then true else decide (v≥a.n)) then true else decide (w<0)) then true else decide (w≥b.n)) then 2 else 0:=hE
 obtain⟨⟨n,hA⟩,⟨m,hB⟩,_,_⟩:=hok rfl
 have hnn:=hA.nn
 have hmm:=hB.nn
 have hn64:=hA.n64
 have hm64:=hB.n64
 have hZ:=biAll_tab a b
 rw[hnn,hmm,Int.toNat_natCast,Int.toNat_natCast] at hZ
 (try conv=>whnf);repeat' (first|(apply And.intro<;>try conv=>whnf)|(intro h;try conv=>whnf)|apply True.intro|(apply infoT;rfl)|(apply WhenQ.mk;(try conv=>whnf);rotate_left;(try conv=>whnf);rotate_right)|with_reducible assumption|(apply not_of;with_reducible assumption)|fail)
 ·rw[hbad 2 (by rw[hE,show (bif (bif (bif decide (v<0) then true else decide (v≥a.n)) then true else decide (w<0)) then true else decide (w≥b.n))=true from h];rfl) rfl]
  exact .refl _
 have h0:=bi_ff4 h
 rw[show (bif (bif (bif decide (v<0) then true else decide (v≥a.n)) then true else decide (w<0)) then true else decide (w≥b.n))=false from h] at hE
 obtain⟨v',rfl⟩:∃ v':Nat,v=(v':Int):=⟨v.toNat,by have:=of_decide_eq_false h0.1;omega⟩
 obtain⟨w',rfl⟩:∃ w':Nat,w=(w':Int):=⟨w.toNat,by have:=of_decide_eq_false h0.2.2.1;omega⟩
 have hvn:v'<n:=by have:=of_decide_eq_false h0.2.1;omega
 have hwm:w'<m:=by have:=of_decide_eq_false h0.2.2.2;omega
 obtain⟨t1,t2⟩:=hZ.at hvn
 have hbit:=bit_and ((biAll a b).getD v' 0) w' (Nat.lt_of_lt_of_le t2 (pow64_le hm64)) (by omega)
 refine⟨_,_,rfl,idx_map t1,rfl,?_⟩
 (try conv=>whnf);repeat' (first|(apply And.intro<;>try conv=>whnf)|fail)
 ·exact Int.natCast_nonneg _
 rw[hgood hE]
 have e:(andU (shrU ((biAll a b).getD v' 0:Nat) (w':Nat)) 1==1)=bisB a b (v':Int).toNat (w':Int).toNat:=by
  rw[hbit,Int.toNat_natCast,Int.toNat_natCast,bisB]
  cases ((biAll a b).getD v' 0).testBit w'<;>rfl
 rw[← e]
 exact .refl _
set_option maxHeartbeats 400000
theorem biOr_acc {z:List Nat} {y:Nat}:∀ (l:List Nat) (s:Nat),(l.foldl (fun s x=>s |||z.getD x 0) s).testBit y=(s.testBit y||l.any fun x=>(z.getD x 0).testBit y)
 | [],s=>by simp
 |x::r,s=>by rw[List.foldl_cons,biOr_acc r,Nat.testBit_or,List.any_cons,Bool.or_assoc]
theorem biOr_bit {z l:List Nat} {y:Nat}:(biOr z l).testBit y=l.any fun x=>(z.getD x 0).testBit y:=by rw[biOr,biOr_acc,Nat.zero_testBit,Bool.false_or]
theorem and_ne {a b y:Nat} (h1:a.testBit y=true) (h2:b.testBit y=true):a&&&b≠0:=fun h=>by
 have:=Nat.testBit_and a b y
 rw[h,h1,h2,Nat.zero_testBit] at this
 cases this
theorem and_sub {a b:Nat} (h:∀ y,a.testBit y=true→b.testBit y=true):a&&&b=a:=Nat.eq_of_testBit_eq fun y=>by
 rw[Nat.testBit_and]
 cases hq:a.testBit y with
 |false=>rfl
 |true=>rw[h y hq];rfl
structure BiRel (a b:Mo) (n m:Nat) (ρ:Nat→Nat→Prop):Prop where
 rng:∀ v w,ρ v w→v<n∧w<m
 fac:∀ v w,ρ v w→facN a v a.val.length=facN b w b.val.length
 forth:∀ v w i x,ρ v w→i<a.rel.length→(biR a i v).testBit x=true→∃ y,(biR b i w).testBit y=true∧ρ x y
 back:∀ v w i y,ρ v w→i<a.rel.length→(biR b i w).testBit y=true→∃ x,(biR a i v).testBit x=true∧ρ x y
def BiBelow (ρ:Nat→Nat→Prop) (z:List Nat):Prop:=∀ v w,ρ v w→(z.getD v 0).testBit w=true
section
variable {a b:Mo} {n m:Nat} {ρ:Nat→Nat→Prop}
theorem BiRel.mt (h:BiRel a b n m ρ) (hn:n≤64) {z:List Nat} (hz:BiBelow ρ z) {v w:Nat} (hr:ρ v w):biMt a b z v w=true:=by
 refine biForth_all (h.fac v w hr) fun i hi => ?_
 rw[biForth]
 have h1:biMeet z (biR b i w) (memL (biR a i v))=true:=by
  rw[biMeet,List.all_eq_true]
  intro x hx
  obtain⟨y,hy,hxy⟩:=h.forth v w i x hr hi (memL_mem.1 hx).2
  simpa using and_ne (hz x y hxy) hy
 have h2:biR b i w&&&biOr z (memL (biR a i v))=biR b i w:=and_sub fun y hy=>by
  obtain⟨x,hx,hxy⟩:=h.back v w i y hr hi hy
  rw[biOr_bit,List.any_eq_true]
  exact⟨x,memL_mem.2 ⟨by have:=(h.rng x y hxy).1;omega,hx⟩,hz x y hxy⟩
 rw[h1,h2,cond_true]
 exact beq_self_eq_true _
theorem BiRel.step (h:BiRel a b n m ρ) (hn:n≤64) {s:BiS} (ht:BiTab s.1 n m) (hz:BiBelow ρ s.1) {v w:Nat} (hv:v<n):BiBelow ρ (biStep a b v w s).1:=by
 intro v' w' hr
 unfold biStep
 cases hb:(s.1.getD v 0).testBit w with
 |false=>exact hz v' w' hr
 |true =>
  cases hm:biMt a b s.1 v w with
  |true=>exact hz v' w' hr
  |false =>
   show ((biClr s.1 v w).getD v' 0).testBit w'=true
   rw[biClr_bit ht hv]
   cases hd:decide (v'=v∧w'=w) with
   |false=>exact hz v' w' hr
   |true =>
    obtain⟨rfl,rfl⟩:=of_decide_eq_true hd
    rw[h.mt hn hz hr] at hm
    cases hm
theorem BiRel.row (h:BiRel a b n m ρ) (hn:n≤64) {z:List Nat} {v:Nat} (hv:v<n):∀ {k:Nat} {s:BiS},BiOk n m z s→BiBelow ρ s.1→k≤m→BiBelow ρ (biRow a b v k s).1
 |0,_,_,hz,_=>hz
 |k+1,_,ho,hz,hk=>h.step hn (ho.row (a:=a) (b:=b) hv (k:=k) (by omega)).tab (h.row hn hv (k:=k) ho hz (by omega)) hv
theorem BiRel.pass (h:BiRel a b n m ρ) (hn:n≤64) {z:List Nat}:∀ {k:Nat} {s:BiS},BiOk n m z s→BiBelow ρ s.1→k≤n→BiBelow ρ (biPass a b m k s).1
 |0,_,_,hz,_=>hz
 |k+1,_,ho,hz,hk=>h.row hn (by omega) (ho.pass (a:=a) (b:=b) (k:=k) (by omega)) (h.pass hn (k:=k) ho hz (by omega)) (Nat.le_refl m)
theorem BiRel.iter (h:BiRel a b n m ρ) (hn:n≤64):∀ (k:Nat) (z:List Nat),BiTab z n m→BiBelow ρ z→BiBelow ρ (biIter a b n m k z)
 |0,_,_,hz=>hz
 |k+1,z,ht,hz=>by
  have ho:=(BiOk.start ht).pass (a:=a) (b:=b) (k:=n) (Nat.le_refl n)
  rw[biIter]
  cases (biPass a b m n (z,false)).2 with
  |false=>exact hz
  |true=>exact h.iter hn k _ ho.tab (h.pass hn (BiOk.start ht) hz (Nat.le_refl n))
theorem BiRel.all (h:BiRel a b a.n.toNat b.n.toNat ρ) (hn:a.n.toNat≤64) {v w:Nat} (hr:ρ v w):bisB a b v w=true:=by
 refine h.iter hn _ _ (biZ0_tab _ _) (fun v' w' hr' => ?_) v w hr
 obtain⟨h1,h2⟩:=h.rng v' w' hr'
 rw[biZ0,List.getD_eq_getElem?_getD,List.getElem?_replicate,if_pos h1,Option.getD_some,Nat.testBit_two_pow_sub_one]
 simpa using h2
end
set_option maxHeartbeats 8000000
def evP (z:Act×Int):PV:=.agg [.sl (z.1.pre.map fpv),.sl (z.1.post.map postPV),.sl (z.1.rel.map rowPV),.int .i64 z.2]
def cellsE (z:Act×Int):List DV:=[.pv (.sl (z.1.pre.map fpv)),.pv (.sl (z.1.post.map postPV)),.pv (.sl (z.1.rel.map rowPV)),.pv (.int .i64 z.2)]
def firE {α:Type} (g:α→Int):List α→Int
 | []=>0
 |z::r=>bif g z != 0 then g z else firE g r
theorem firE_drop {α:Type} (g:α→Int) {l:List α} {i:Nat} {z:α} (h:l[i]? = some z):firE g (l.drop i)=bif g z != 0 then g z else firE g (l.drop (i+1)):=by
 obtain⟨q1,q2⟩:=List.getElem?_eq_some_iff.1 h
 rw[List.drop_eq_getElem_cons q1,q2];rfl
theorem firE_zero {α:Type} {g:α→Int}:∀ {l:List α},firE g l=0→∀ z,z∈l→g z=0
 |y::r,h,z,hz=>by
  rw[firE] at h
  cases hb:(g y != 0) with
  |true=>rw[hb] at h;have:g y=0:=h;rw[this] at hb;cases hb
  |false =>
   rw[hb] at h
   rcases List.mem_cons.1 hz with rfl|hz
   ·simpa using hb
   ·exact firE_zero (show firE g r=0 from h) z hz
def g1D (m:Mo) (z:Act×Int):Int:=actI z.1 (m.rel.length:Int) (m.val.length:Int)
def g2D (z:Act×Int):Int:=bif badEv z.1 z.2 then 6 else 0
def g3D (m:Mo) (z:Act×Int):Int:=bif (updI m z.1).2.2==8 then 8 else 0
def difG (m:Mo) (l:List (Act×Int)):Int:=bif moI m != 0 then moI m else bif firE (g1D m) l != 0 then firE (g1D m) l else bif firE g2D l != 0 then firE g2D l else firE (g3D m) l
def preS (m:Mo) (z:Act×Int):Nat:=possP m z.1 z.2.toNat
def difW (m:Mo) (x y:Act×Int) (B:Nat→Bool) (w:Nat):Bool:=bif (preS m x).testBit w != (preS m y).testBit w then true else bif (preS m x).testBit w then !B w else false
def firW (p:Nat→Bool) (n:Nat):Int:=match (List.range n).find? p with
 |some w=>(w:Int)
 |none => -1
theorem firW_yes {p:Nat→Bool} {n w:Nat} (hw:w<n) (hp:p w=true) (h:∀ v,v<w→p v=false):firW p n=(w:Int):=by
 have:(List.range n).find? p=some w:=by
  rw[List.find?_range_eq_some]
  exact⟨hp,List.mem_range.2 hw,fun j hj=>by rw[h j hj];rfl⟩
 rw[firW,this]
theorem firW_no {p:Nat→Bool} {n:Nat} (h:∀ v,v<n→p v=false):firW p n = -1:=by
 have:(List.range n).find? p=none:=List.find?_eq_none.2 fun x hx=>by rw[h x (List.mem_range.1 hx)];simp
 rw[firW,this]
def difI (m:Mo) (x y:Act×Int) (B:Nat→Bool):Int×Int:=bif difG m [x,y] != 0 then (0,difG m [x,y]) else (firW (difW m x y B) m.n.toNat,0)
def difP (z:Int×Int):PV:=.tup [.int .i64 z.1,.int .i64 z.2]
theorem cp_Differ (m:Mo) (x y:Act×Int) (hf:FitM m) (hSx:SmX x.1) (hSy:SmX y.1) (B:Nat→Bool)
  (hB:difG m [x,y]=0→∀ w,w<m.n.toNat→(preS m x).testBit w=true→(preS m y).testBit w=true→∃ c:Int,PureFn Tryz.prog 42 [(atI m w x.1 x.2).1.pv,.int .i64 (atI m w x.1 x.2).2.1,(atI m w y.1 y.2).1.pv,.int .i64 (atI m w y.1 y.2).2.1] (.tup [.bool (B w),.int .i64 c])) :
  PureFn Tryz.prog 14 [m.pv,evP x,evP y] (difP (difI m x y B)):=by
 have hM:=md_Check m hf
 obtain⟨l,hl⟩:∃ l,l=[x,y]:=⟨_,rfl⟩
 have hS:∀ z,z∈l→SmX z.1:=fun z hz=>by
  rw[hl] at hz
  rcases List.mem_cons.1 hz with rfl|hz
  ·exact hSx
  ·rw[List.mem_singleton.1 hz];exact hSy
 have hll:l.length=2:=by rw[hl];rfl
 have e1:((m.rel.map rowPV).length:Int)=(m.rel.length:Int):=by simp
 have e2:((m.val.map u64).length:Int)=(m.val.length:Int):=by simp
 have eS:PV.sl [evP x,evP y]=.sl (l.map evP):=by rw[hl];rfl
 have hI:difI m x y B=bif difG m l != 0 then (0,difG m l) else (firW (difW m x y B) m.n.toNat,0):=by rw[difI,hl]
 rw[← hl] at hB
 rw[hI]
 clear hI
 obtain⟨R,hR⟩:∃ R,R=difP (bif difG m l != 0 then (0,difG m l) else (firW (difW m x y B) m.n.toNat,0)):=⟨_,rfl⟩
 rw[← hR]
 have hno:∀ c,difG m l=c→(c != 0)=true→R=.tup [.int .i64 0,.int .i64 c]:=fun c h hc=>by rw[hR,h,hc];rfl
 refine PureFn.introC [4,5,9,12,18,22,25,26,27,32,33,34,35,36,39] mixed (fn:=Tryz.f14) rfl rfl rfl fun M w0 => ?_
 try conv=>whnf
 refine⟨{ _x:Unit // moI m=0 },fun _=>[(3,.ref 0 0),(4,.ref 1 0),(5,.ref 2 0)],fun _=>3,fun _=>[(0,.var (cellsM m)),(1,.var (cellsE x)),(2,.var (cellsE y))],?_,?_⟩
 ·(try conv=>whnf);repeat' (first|(apply And.intro<;>try conv=>whnf)|(intro h;try conv=>whnf)|(refine PureFn.dy hM rfl ?_;try conv=>whnf)|fail)
  ·rw[hno (moI m) (by rw[difG,show (moI m != 0)=true from h];rfl) h]
   exact .refl _
  ·exact⟨⟨(),by simpa using h⟩,(by exact Wk.sm rfl rfl rfl rfl rfl)⟩
 rintro⟨_,hm0⟩
 have g1:(moI m != 0)=false:=by simpa using hm0
 have hG:difG m l=bif firE (g1D m) l != 0 then firE (g1D m) l else bif firE g2D l != 0 then firE g2D l else firE (g3D m) l:=by rw[difG,g1];rfl
 refine⟨Unit,fun _=>[(3,.ref 0 0),(4,.ref 1 0),(5,.ref 2 0),(9,.pv (.sl (l.map evP)))],fun _=>3,fun _=>[(0,.var (cellsM m)),(1,.var (cellsE x)),(2,.var (cellsE y))],?_,?_⟩
 ·(try conv=>whnf);repeat' (first|(apply And.intro<;>try conv=>whnf)|(apply cellsI;rfl)|fail)
  refine⟨(),?_⟩
  (refine Wk.of ?_ ?_ rfl rfl rfl<;>repeat' (first|exact trivial|exact WkD.same _|exact WkO.same _ _ rfl|refine⟨?_,?_⟩|fail))
  exact WkD.eq (congrArg DV.pv eS)
 rintro⟨⟩
 refine⟨{ _x:Unit // firE (g1D m) l=0 },fun _=>[(3,.ref 0 0),(4,.ref 1 0),(5,.ref 2 0),(9,.pv (.sl (l.map evP)))],fun _=>3,fun _=>[(0,.var (cellsM m)),(1,.var (cellsE x)),(2,.var (cellsE y))],?_,?_⟩
 ·try conv=>whnf
  refine⟨{ i:Nat // i≤l.length∧firE (g1D m) l=firE (g1D m) (l.drop i) },fun i=>[(3,.ref 0 0),(4,.ref 1 0),(5,.ref 2 0),(9,.pv (.sl (l.map evP))),(41,.pv (.sl (l.map evP))),(42,.pv (i64 (l.map evP).length)),(43,.pv (i64 i.1))],fun _=>3,fun _=>[(0,.var (cellsM m)),(1,.var (cellsE x)),(2,.var (cellsE y))],fun i=>l.length-i.1,⟨⟨0,Nat.zero_le _,rfl⟩,(by exact Wk.sm rfl rfl rfl rfl rfl)⟩,?_⟩
  rintro⟨i,hi,hfi⟩
  (try conv=>whnf);repeat' (first|(apply And.intro<;>try conv=>whnf)|(intro h;try conv=>whnf)|(apply infoT;rfl)|fail)
  ·have hi':i<l.length:=by simpa using lt_dec h
   obtain⟨z,hz⟩:∃ z,l[i]? = some z:=⟨_,List.getElem?_eq_getElem hi'⟩
   have hzm:=hS z (List.mem_iff_getElem?.2 ⟨_,hz⟩)
   have hC:=ac_Check z.1 ((m.rel.map rowPV).length:Int) ((m.val.map u64).length:Int) hzm.fit hzm.rel hzm.post
   rw[firE_drop _ hz] at hfi
   have hgz:g1D m z=actI z.1 ((m.rel.map rowPV).length:Int) ((m.val.map u64).length:Int):=by rw[g1D,e1,e2]
   rw[hgz] at hfi
   generalize actI z.1 ((m.rel.map rowPV).length:Int) ((m.val.map u64).length:Int)=c at hC hfi
   refine⟨_,_,rfl,idx_map hz,rfl,?_⟩
   try conv=>whnf
   refine⟨Unit,fun _=>[(3,.ref 0 0),(4,.ref 1 0),(5,.ref 2 0),(9,.pv (.sl (l.map evP))),(41,.pv (.sl (l.map evP))),(42,.pv (i64 (l.map evP).length)),(43,.pv (i64 i)),(12,.pv (.int .i64 c))],fun _=>3,fun _=>[(0,.var (cellsM m)),(1,.var (cellsE x)),(2,.var (cellsE y))],?_,?_⟩
   ·(try conv=>whnf);repeat' (first|(refine PureFn.dy hC rfl ?_;try conv=>whnf)|fail)
    exact⟨(),(by exact Wk.sm rfl rfl rfl rfl rfl)⟩
   rintro⟨⟩
   (try conv=>whnf);repeat' (first|(apply And.intro<;>try conv=>whnf)|(intro h;try conv=>whnf)|fail)
   ·have hc:(c != 0)=true:=h
    rw[hc,cond_true] at hfi
    rw[hno c (by rw[hG,hfi,hc];rfl) hc]
    exact .refl _
   ·have hc:(c != 0)=false:=h
    rw[hc,cond_false] at hfi
    exact⟨⟨i+1,hi',hfi⟩,by show l.length-(i+1)<l.length-i;omega,(by refine Wk.of ?_ ?_ rfl rfl rfl<;>repeat' (first|exact trivial|exact WkD.same _|exact WkO.same _ _ rfl|refine WkD.int ?_|refine⟨?_,?_⟩|(refine wrapA ?_ ?_ ?_;(focus simp;done);(focus (try dsimp only);omega);(focus (try dsimp only);omega))|fail))⟩
  ·have hi':i=l.length:=by have:=ge_dec (m:=(l.map evP).length) h (by simpa using hi);simpa using this
   subst hi'
   rw[List.drop_length] at hfi
   exact⟨⟨(),hfi⟩,(by exact Wk.sm rfl rfl rfl rfl rfl)⟩
 rintro⟨_,hF1⟩
 rw[hF1] at hG
 have hG:difG m l=bif firE g2D l != 0 then firE g2D l else firE (g3D m) l:=hG
 refine⟨{ _x:Unit // firE g2D l=0 },fun _=>[(3,.ref 0 0),(4,.ref 1 0),(5,.ref 2 0),(9,.pv (.sl (l.map evP)))],fun _=>3,fun _=>[(0,.var (cellsM m)),(1,.var (cellsE x)),(2,.var (cellsE y))],?_,?_⟩
 ·try conv=>whnf
  refine⟨{ i:Nat // i≤l.length∧firE g2D l=firE g2D (l.drop i) },fun i=>[(3,.ref 0 0),(4,.ref 1 0),(5,.ref 2 0),(9,.pv (.sl (l.map evP))),(60,.pv (.sl (l.map evP))),(61,.pv (i64 (l.map evP).length)),(62,.pv (i64 i.1))],fun _=>3,fun _=>[(0,.var (cellsM m)),(1,.var (cellsE x)),(2,.var (cellsE y))],fun i=>l.length-i.1,⟨⟨0,Nat.zero_le _,rfl⟩,(by exact Wk.sm rfl rfl rfl rfl rfl)⟩,?_⟩
  rintro⟨i,hi,hfi⟩
  (try conv=>whnf);repeat' (first|(apply And.intro<;>try conv=>whnf)|(intro h;try conv=>whnf)|(apply infoT;rfl)|fail)
  ·have hi':i<l.length:=by simpa using lt_dec h
   obtain⟨z,hz⟩:∃ z,l[i]? = some z:=⟨_,List.getElem?_eq_getElem hi'⟩
   rw[firE_drop _ hz] at hfi
   have e3:((z.1.pre.map fpv).length:Int)=(z.1.pre.length:Int):=by simp
   refine⟨_,_,rfl,idx_map hz,rfl,?_⟩
   (try conv=>whnf);repeat' (first|(apply And.intro<;>try conv=>whnf)|(intro h;try conv=>whnf)|apply True.intro|(apply WhenQ.mk;(try conv=>whnf);rotate_left;(try conv=>whnf);rotate_right)|with_reducible assumption|(apply not_of;with_reducible assumption)|fail)
   ·have hb:badEv z.1 z.2=true:=by rw[badEv,← e3];exact h
    have hg:g2D z=6:=by rw[g2D,hb];rfl
    rw[hg] at hfi
    rw[hno 6 (by rw[hG,hfi];rfl) rfl]
    exact .refl _
   ·have hb:badEv z.1 z.2=false:=by rw[badEv,← e3];exact h
    have hg:g2D z=0:=by rw[g2D,hb];rfl
    rw[hg] at hfi
    exact⟨⟨i+1,hi',hfi⟩,by show l.length-(i+1)<l.length-i;omega,(by refine Wk.of ?_ ?_ rfl rfl rfl<;>repeat' (first|exact trivial|exact WkD.same _|exact WkO.same _ _ rfl|refine WkD.int ?_|refine⟨?_,?_⟩|(refine wrapA ?_ ?_ ?_;(focus simp;done);(focus (try dsimp only);omega);(focus (try dsimp only);omega))|fail))⟩
  ·have hi':i=l.length:=by have:=ge_dec (m:=(l.map evP).length) h (by simpa using hi);simpa using this
   subst hi'
   rw[List.drop_length] at hfi
   exact⟨⟨(),hfi⟩,(by exact Wk.sm rfl rfl rfl rfl rfl)⟩
 rintro⟨_,hF2⟩
 rw[hF2] at hG
 have hG:difG m l=firE (g3D m) l:=hG
 have hev:∀ z:Act×Int,z∈l→∃ k:Nat,z.2=(k:Int)∧k<z.1.pre.length:=fun z hz=>by
  have hg:=firE_zero hF2 z hz
  unfold g2D at hg
  cases hb:badEv z.1 z.2 with
  |true=>rw[hb] at hg;cases hg
  |false =>
   unfold badEv at hb
   cases h1:decide (z.2<0) with
   |true=>rw[h1] at hb;cases hb
   |false =>
    rw[h1] at hb
    have h2:=of_decide_eq_false (show decide (z.2≥(z.1.pre.length:Int))=false from hb)
    have h3:=of_decide_eq_false h1
    exact⟨z.2.toNat,by omega,by omega⟩
 obtain⟨xn,hxn,hxl⟩:=hev x (by rw[hl];simp)
 obtain⟨yn,hyn,hyl⟩:=hev y (by rw[hl];simp)
 refine⟨{ _x:Unit // difG m l=0 },fun _=>[(3,.ref 0 0),(4,.ref 1 0),(5,.ref 2 0)],fun _=>3,fun _=>[(0,.var (cellsM m)),(1,.var (cellsE (x.1,(xn:Int)))),(2,.var (cellsE (y.1,(yn:Int))))],?_,?_⟩
 ·try conv=>whnf
  refine⟨{ i:Nat // i≤l.length∧firE (g3D m) l=firE (g3D m) (l.drop i) },fun i=>[(3,.ref 0 0),(4,.ref 1 0),(5,.ref 2 0),(9,.pv (.sl (l.map evP))),(79,.pv (.sl (l.map evP))),(80,.pv (i64 (l.map evP).length)),(81,.pv (i64 i.1))],fun _=>3,fun _=>[(0,.var (cellsM m)),(1,.var (cellsE x)),(2,.var (cellsE y))],fun i=>l.length-i.1,⟨⟨0,Nat.zero_le _,rfl⟩,(by exact Wk.sm rfl rfl rfl rfl rfl)⟩,?_⟩
  rintro⟨i,hi,hfi⟩
  (try conv=>whnf);repeat' (first|(apply And.intro<;>try conv=>whnf)|(intro h;try conv=>whnf)|(apply infoT;rfl)|fail)
  ·have hi':i<l.length:=by simpa using lt_dec h
   obtain⟨z,hz⟩:∃ z,l[i]? = some z:=⟨_,List.getElem?_eq_getElem hi'⟩
   have hzm:=hS z (List.mem_iff_getElem?.2 ⟨_,hz⟩)
   have hU:=pr_Update m z.1 hf hzm.fit hzm.rel hzm.post
   rw[firE_drop _ hz] at hfi
   have hgz:g3D m z=bif (updI m z.1).2.2==8 then 8 else 0:=rfl
   rw[hgz] at hfi
   generalize updI m z.1=U at hU hfi
   obtain⟨um,up,c⟩:=U
   refine⟨_,_,rfl,idx_map hz,rfl,?_⟩
   try conv=>whnf
   refine⟨Unit,fun _=>[(3,.ref 0 0),(4,.ref 1 0),(5,.ref 2 0),(9,.pv (.sl (l.map evP))),(79,.pv (.sl (l.map evP))),(80,.pv (i64 (l.map evP).length)),(81,.pv (i64 i)),(19,.pv (.int .i64 c))],fun _=>3,fun _=>[(0,.var (cellsM m)),(1,.var (cellsE x)),(2,.var (cellsE y))],?_,?_⟩
   ·(try conv=>whnf);repeat' (first|(refine PureFn.dy hU rfl ?_;try conv=>whnf)|fail)
    exact⟨(),(by exact Wk.sm rfl rfl rfl rfl rfl)⟩
   rintro⟨⟩
   (try conv=>whnf);repeat' (first|(apply And.intro<;>try conv=>whnf)|(intro h;try conv=>whnf)|fail)
   ·have hc:(c==8)=true:=h
    have hc8:c=8:=by simpa using hc
    subst hc8
    rw[hno 8 (by rw[hG,hfi];rfl) rfl]
    exact .refl _
   ·have hc:(c==8)=false:=h
    simp only[hc,cond_false] at hfi
    exact⟨⟨i+1,hi',hfi⟩,by show l.length-(i+1)<l.length-i;omega,(by refine Wk.of ?_ ?_ rfl rfl rfl<;>repeat' (first|exact trivial|exact WkD.same _|exact WkO.same _ _ rfl|refine WkD.int ?_|refine⟨?_,?_⟩|(refine wrapA ?_ ?_ ?_;(focus simp;done);(focus (try dsimp only);omega);(focus (try dsimp only);omega))|fail))⟩
  ·have hi':i=l.length:=by have:=ge_dec (m:=(l.map evP).length) h (by simpa using hi);simpa using this
   subst hi'
   rw[List.drop_length] at hfi
   refine⟨⟨(),hG.trans hfi⟩,?_⟩
   (refine Wk.of ?_ ?_ rfl rfl rfl<;>repeat' (first|exact trivial|exact WkD.same _|exact WkO.same _ _ rfl|refine WkD.int ?_|refine WkO.vars rfl ?_|refine⟨?_,?_⟩|fail))
   ·exact hxn
   ·exact hyn
 rintro⟨_,hG0⟩
 have hB:=hB hG0
 have hR0:R=.tup [.int .i64 (firW (difW m x y B) m.n.toNat),.int .i64 0]:=by rw[hR,hG0];rfl
 obtain⟨n,hMn⟩:=moI_ok hm0
 have hmo:∀ z,z∈l→moaI m z.1=0:=fun z hz=>by
  rw[moaI,g1]
  exact firE_zero hF1 z hz
 have hx1:=pre_holds (hmo x (by rw[hl];simp)) hxl
 have hy1:=pre_holds (hmo y (by rw[hl];simp)) hyl
 have hsx:preS m x=possP m x.1 xn:=by rw[preS,hxn];rfl
 have hsy:preS m y=possP m y.1 yn:=by rw[preS,hyn];rfl
 rw[← hsx,hMn.nn,Int.toNat_natCast] at hx1
 rw[← hsy,hMn.nn,Int.toNat_natCast] at hy1
 have hnn:=hMn.nn
 have hn64:=hMn.n64
 rw[hnn,Int.toNat_natCast] at hR0 hB
 have hpx:x.1.pre[xn]? = some (x.1.pre.getD xn []):=getD_mem hxl
 have hpy:y.1.pre[yn]? = some (y.1.pre.getD yn []):=getD_mem hyl
 have hHx:=ck_Holds m (x.1.pre.getD xn []) hf
 have hHy:=ck_Holds m (y.1.pre.getD yn []) hf
 rw[hx1.1] at hHx
 rw[hy1.1] at hHy
 have hs64:preS m x<2^64:=Nat.lt_of_lt_of_le hx1.2 (pow64_le hn64)
 have ht64:preS m y<2^64:=Nat.lt_of_lt_of_le hy1.2 (pow64_le hn64)
 have hAx:=fun w:Nat=>pr_At m (w:Int) x.1 (xn:Int) hf hSx.fit hSx.rel hSx.post
 have hAy:=fun w:Nat=>pr_At m (w:Int) y.1 (yn:Int) hf hSy.fit hSy.rel hSy.post
 rw[hxn,hyn] at hB
 have hD:∀ w,difW m x y B w=bif (preS m x).testBit w != (preS m y).testBit w then true else bif (preS m x).testBit w then !B w else false:=fun w=>rfl
 generalize difW m x y B=D at hD hR0
 generalize preS m x=s at *
 generalize preS m y=t at *
 refine⟨Unit,fun _=>[(3,.ref 0 0),(4,.ref 1 0),(5,.ref 2 0),(20,.pv (u64 s))],fun _=>3,fun _=>[(0,.var (cellsM m)),(1,.var (cellsE (x.1,(xn:Int)))),(2,.var (cellsE (y.1,(yn:Int))))],?_,?_⟩
 ·(try conv=>whnf);repeat' (first|(apply And.intro<;>try conv=>whnf)|(apply infoT;rfl)|(refine lin_plan (by kernel_rfl) ?_;try conv=>whnf)|(refine⟨_,_,rfl,idx_map (by with_reducible assumption),rfl,?_⟩;try conv=>whnf)|(refine⟨_,(by (conv=>whnf);exact hHx),rfl,?_⟩;try conv=>whnf)|fail)
  exact⟨(),(by exact Wk.sm rfl rfl rfl rfl rfl)⟩
 rintro⟨⟩
 refine⟨Unit,fun _=>[(3,.ref 0 0),(4,.ref 1 0),(5,.ref 2 0),(20,.pv (u64 s)),(22,.pv (u64 t))],fun _=>3,fun _=>[(0,.var (cellsM m)),(1,.var (cellsE (x.1,(xn:Int)))),(2,.var (cellsE (y.1,(yn:Int))))],?_,?_⟩
 ·(try conv=>whnf);repeat' (first|(apply And.intro<;>try conv=>whnf)|(apply infoT;rfl)|(refine lin_plan (by kernel_rfl) ?_;try conv=>whnf)|(refine⟨_,_,rfl,idx_map (by with_reducible assumption),rfl,?_⟩;try conv=>whnf)|(refine⟨_,(by (conv=>whnf);exact hHy),rfl,?_⟩;try conv=>whnf)|fail)
  exact⟨(),(by exact Wk.sm rfl rfl rfl rfl rfl)⟩
 rintro⟨⟩
 refine⟨{ _x:Unit // ∀ v,v<n→D v=false },fun _=>[],fun _=>3,fun _=>[],?_,?_⟩
 ·try conv=>whnf
  refine⟨{ w:Nat // w≤n∧∀ v,v<w→D v=false },fun w=>[(3,.ref 0 0),(4,.ref 1 0),(5,.ref 2 0),(20,.pv (u64 s)),(22,.pv (u64 t)),(122,.pv (.int .i64 m.n)),(123,.pv (i64 w.1))],fun _=>3,fun _=>[(0,.var (cellsM m)),(1,.var (cellsE (x.1,(xn:Int)))),(2,.var (cellsE (y.1,(yn:Int))))],fun w=>n-w.1,⟨⟨0,Nat.zero_le _,fun v h=>by omega⟩,(by exact Wk.sm rfl rfl rfl rfl rfl)⟩,?_⟩
  rintro⟨w,hw,hnow⟩
  (try conv=>whnf);repeat' (first|(apply And.intro<;>try conv=>whnf)|(intro h;try conv=>whnf)|fail)
  ·have hw':w<n:=by
    have h2:decide ((w:Int)<m.n)=true:=h
    have:=of_decide_eq_true h2
    rw[hnn] at this;omega
   have hbs:andU (shrU (s:Nat) (w:Nat)) 1=if s.testBit w then 1 else 0:=bit_and s w hs64 (by omega)
   have hbt:andU (shrU (t:Nat) (w:Nat)) 1=if t.testBit w then 1 else 0:=bit_and t w ht64 (by omega)
   have hDw:=hD w
   refine⟨{ _x:Unit // s.testBit w=t.testBit w },fun _=>[(3,.ref 0 0),(4,.ref 1 0),(5,.ref 2 0),(20,.pv (u64 s)),(22,.pv (u64 t)),(122,.pv (.int .i64 m.n)),(123,.pv (i64 w)),(24,.pv (i64 w))],fun _=>3,fun _=>[(0,.var (cellsM m)),(1,.var (cellsE (x.1,(xn:Int)))),(2,.var (cellsE (y.1,(yn:Int))))],?_,?_⟩
   ·(try conv=>whnf);repeat' (first|(apply And.intro<;>try conv=>whnf)|(intro h;try conv=>whnf)|(refine lin_plan (by kernel_rfl) ?_;try conv=>whnf)|fail)
    ·exact Int.natCast_nonneg _
    ·exact Int.natCast_nonneg _
    ·have h2:(andU (shrU (s:Nat) (w:Nat)) 1 != andU (shrU (t:Nat) (w:Nat)) 1)=true:=h
     rw[hbs,hbt] at h2
     have h3:D w=true:=by
      rw[hDw]
      cases hq:s.testBit w<;>cases hq2:t.testBit w<;>rw[hq,hq2] at h2<;>first|rfl|exact absurd h2 (by decide)
     rw[hR0,firW_yes hw' h3 hnow]
     exact .refl _
    ·refine⟨⟨(),?_⟩,(by exact Wk.sm rfl rfl rfl rfl rfl)⟩
     have h2:(andU (shrU (s:Nat) (w:Nat)) 1 != andU (shrU (t:Nat) (w:Nat)) 1)=false:=h
     rw[hbs,hbt] at h2
     cases hq:s.testBit w<;>cases hq2:t.testBit w<;>rw[hq,hq2] at h2<;>first|rfl|exact absurd h2 (by decide)
   rintro⟨_,hst⟩
   refine⟨{ _x:Unit // s.testBit w=true },fun _=>[(3,.ref 0 0),(4,.ref 1 0),(5,.ref 2 0),(20,.pv (u64 s)),(22,.pv (u64 t)),(122,.pv (.int .i64 m.n)),(123,.pv (i64 w)),(24,.pv (i64 w))],fun _=>3,fun _=>[(0,.var (cellsM m)),(1,.var (cellsE (x.1,(xn:Int)))),(2,.var (cellsE (y.1,(yn:Int))))],?_,?_⟩
   ·(try conv=>whnf);repeat' (first|(apply And.intro<;>try conv=>whnf)|(intro h;try conv=>whnf)|fail)
    ·exact Int.natCast_nonneg _
    ·have h2:(andU (shrU (s:Nat) (w:Nat)) 1==0)=true:=h
     rw[hbs] at h2
     have hq:s.testBit w=false:=by
      cases hq:s.testBit w with
      |false=>rfl
      |true=>rw[hq] at h2;exact absurd h2 (by decide)
     have h3:D w=false:=by rw[hDw,← hst,hq];rfl
     refine⟨⟨w+1,hw',fun v hv => ?_⟩,by show n-(w+1)<n-w;omega,(by refine Wk.of ?_ ?_ rfl rfl rfl<;>repeat' (first|exact trivial|exact WkD.same _|exact WkO.same _ _ rfl|refine WkD.int ?_|refine⟨?_,?_⟩|(refine wrapA ?_ ?_ ?_;(focus simp;done);(focus (try dsimp only);omega);(focus (try dsimp only);omega))|fail))⟩
     by_cases e:v<w
     ·exact hnow v e
     ·rw[show v=w by omega];exact h3
    ·refine⟨⟨(),?_⟩,(by exact Wk.sm rfl rfl rfl rfl rfl)⟩
     have h2:(andU (shrU (s:Nat) (w:Nat)) 1==0)=false:=h
     rw[hbs] at h2
     cases hq:s.testBit w with
     |true=>rfl
     |false=>rw[hq] at h2;exact absurd h2 (by decide)
   rintro⟨_,hsw⟩
   obtain⟨c,hBw⟩:=hB w hw' hsw (by rw[← hst];exact hsw)
   have hAx:=hAx w
   have hAy:=hAy w
   generalize atI m w x.1 xn=X at hAx hBw
   generalize atI m w y.1 yn=Y at hAy hBw
   refine⟨Unit,fun _=>[(3,.ref 0 0),(4,.ref 1 0),(5,.ref 2 0),(20,.pv (u64 s)),(22,.pv (u64 t)),(122,.pv (.int .i64 m.n)),(123,.pv (i64 w)),(24,.pv (i64 w)),(25,.ref 3 0),(26,.pv (.int .i64 X.2.1))],fun _=>4,fun _=>[(0,.var (cellsM m)),(1,.var (cellsE (x.1,(xn:Int)))),(2,.var (cellsE (y.1,(yn:Int)))),(3,.var (cellsM X.1))],?_,?_⟩
   ·(try conv=>whnf);repeat' (first|(refine PureFn.dy hAx rfl ?_;try conv=>whnf)|fail)
    exact⟨(),(by exact Wk.sm rfl rfl rfl rfl rfl)⟩
   rintro⟨⟩
   refine⟨Unit,fun _=>[(3,.ref 0 0),(4,.ref 1 0),(5,.ref 2 0),(20,.pv (u64 s)),(22,.pv (u64 t)),(122,.pv (.int .i64 m.n)),(123,.pv (i64 w)),(24,.pv (i64 w)),(25,.ref 3 0),(26,.pv (.int .i64 X.2.1)),(28,.ref 4 0),(29,.pv (.int .i64 Y.2.1))],fun _=>5,fun _=>[(0,.var (cellsM m)),(1,.var (cellsE (x.1,(xn:Int)))),(2,.var (cellsE (y.1,(yn:Int)))),(3,.var (cellsM X.1)),(4,.var (cellsM Y.1))],?_,?_⟩
   ·(try conv=>whnf);repeat' (first|(refine PureFn.dy hAy rfl ?_;try conv=>whnf)|fail)
    exact⟨(),(by exact Wk.sm rfl rfl rfl rfl rfl)⟩
   rintro⟨⟩
   refine⟨Unit,fun _=>[(3,.ref 0 0),(4,.ref 1 0),(5,.ref 2 0),(20,.pv (u64 s)),(22,.pv (u64 t)),(122,.pv (.int .i64 m.n)),(123,.pv (i64 w)),(24,.pv (i64 w)),(31,.pv (.bool (B w)))],fun _=>3,fun _=>[(0,.var (cellsM m)),(1,.var (cellsE (x.1,(xn:Int)))),(2,.var (cellsE (y.1,(yn:Int))))],?_,?_⟩
   ·(try conv=>whnf);repeat' (first|(refine PureFn.dy hBw rfl ?_;try conv=>whnf)|fail)
    exact⟨(),(by exact Wk.sm rfl rfl rfl rfl rfl)⟩
   rintro⟨⟩
   have h3:D w=!B w:=by rw[hDw,← hst,hsw];rfl
   (try conv=>whnf);repeat' (first|(apply And.intro<;>try conv=>whnf)|(intro h;try conv=>whnf)|fail)
   ·have hb:(!B w)=true:=h
    rw[hR0,firW_yes hw' (h3.trans hb) hnow]
    exact .refl _
   ·have hb:(!B w)=false:=h
    refine⟨⟨w+1,hw',fun v hv => ?_⟩,by show n-(w+1)<n-w;omega,(by refine Wk.of ?_ ?_ rfl rfl rfl<;>repeat' (first|exact trivial|exact WkD.same _|exact WkO.same _ _ rfl|refine WkD.int ?_|refine⟨?_,?_⟩|(refine wrapA ?_ ?_ ?_;(focus simp;done);(focus (try dsimp only);omega);(focus (try dsimp only);omega))|fail))⟩
    by_cases e:v<w
    ·exact hnow v e
    ·rw[show v=w by omega];exact h3.trans hb
  ·have hw':w=n:=by
    have h2:decide ((w:Int)<m.n)=false:=h
    have:=of_decide_eq_false h2
    rw[hnn] at this;omega
   subst hw'
   exact⟨⟨(),hnow⟩,(by exact Wk.sm rfl rfl rfl rfl rfl)⟩
 rintro⟨_,hall⟩
 try conv=>whnf
 rw[hR0,firW_no hall]
 exact .refl _
end Go.Proofs.YtejbieopeicgkaaGreatDoor
