/- Parts of the proof, one after the other: Simplified formulas: where they hold (plain). Simplified action models: what the program makes of one (plain), the place of an event walked. Simplified action models: Simplify of the program walked. Events that differ: Differ of the program walked. The example of the laws of compositions walked. The law ComposeOrder walked. Events that differ: what Differ of the program is answered, and events as arguments. -/
import Derived.Test.YtejbieopeicgkaaGreatDoorM11
set_option maxRecDepth 100000
set_option maxHeartbeats 400000
namespace Go.Proofs.YtejbieopeicgkaaGreatDoor
open Go Go.Dv
theorem set_ext {n x y:Nat} (hx:x<2^n) (hy:y<2^n) (h:∀ j,j<n→x.testBit j=y.testBit j):x=y:=Nat.eq_of_testBit_eq fun j=>by
 by_cases hj:j<n
 ·exact h j hj
 ·have hp:=Nat.pow_le_pow_right (by decide:0<2) (by omega:n≤j)
  rw[Nat.testBit_lt_two_pow (by omega),Nat.testBit_lt_two_pow (by omega)]
theorem not_bit {n x j:Nat}:(notN n x).testBit j=(decide (j<n) && !x.testBit j):=maskOf_bit _ _ _
theorem full_lt (n:Nat):2^n-1<2^n:=by have:=Nat.two_pow_pos n;omega
theorem full_bit {n j:Nat} (h:j<n):(2^n-1).testBit j=true:=by rw[Nat.testBit_two_pow_sub_one];exact decide_eq_true h
theorem not_not {n x:Nat} (h:x<2^n):notN n (notN n x)=x:=set_ext (notN_lt _ _) h fun j hj=>by
 rw[not_bit,not_bit,decide_eq_true hj];simp
def vlF (m:Mo) (n:Nat) (f:List Nd):Nat:=vlT m n (root f)
theorem cst_can:∀ op:Int,op=1∨op=2→Can (buildL (n0 op) [])∧root (buildL (n0 op) [])=.nd op 0 0 0 .none .none:=fun op h=>by
 have h1:oneL (n0 op)≠[]:=by rcases h with rfl|rfl<;>decide
 obtain⟨_,h2,h3⟩:=one_inv h1
 rw[build_one]
 exact⟨h2,h3⟩
theorem apN_cst {op:Int} (h:op=1∨op=2):apN (n0 op) [] []=buildL (n0 op) []:=by
 rw[build_one]
 rcases h with rfl|rfl<;>rfl
section
variable {m:Mo} {n:Nat}
theorem vl_true:vlF m n (buildL (n0 1) [])=2^n-1:=by rw[vlF,(cst_can 1 (.inl rfl)).2];rfl
theorem vl_false:vlF m n (buildL (n0 2) [])=0:=by rw[vlF,(cst_can 2 (.inr rfl)).2];rfl
theorem isF_root {f:List Nd} {op:Int} (h:isF f op=true):∃ x,f=[x]∧x.op=op∧∃ a b,root f=.nd x.op x.i x.e x.g a b:=by
 match f,h with
 | [x],h=>exact⟨x,rfl,by simpa [isF] using h,_,_,(show tree [x] 0=_ from trn_succ (f:=[x]) (n:=0) (i:=0) (x:=x) rfl)⟩
theorem isF_true {f:List Nd} (h:isF f 1=true):vlF m n f=2^n-1:=by
 obtain⟨x,_,ho,a,b,hr⟩:=isF_root h
 rw[vlF,hr,ho];rfl
theorem isF_false {f:List Nd} (h:isF f 2=true):vlF m n f=0:=by
 obtain⟨x,_,ho,a,b,hr⟩:=isF_root h
 rw[vlF,hr,ho];rfl
theorem str_root {f c:List Nd} (hf:Can f) (h:strI f=(c,true)):Can c∧∃ i e g b,root f=.nd 4 i e g (root c) b:=by
 have hp:=hf.pos
 have hx:f[f.length-1]? = some (f[f.length-1]'(by omega)):=List.getElem?_eq_getElem (by omega)
 generalize f[f.length-1]'(by omega)=x at hx
 rw[strI,hx] at h
 have h:(bif x.op != 4 then (([]:List Nd),false) else (sub f x.x,true))=(c,true):=h
 cases ho:(x.op != 4) with
 |true=>rw[ho] at h;cases h
 |false =>
  rw[ho] at h
  have h4:x.op=4:=by simpa using ho
  have hc:sub f x.x=c:=congrArg Prod.fst h
  have ok:=hf.ok _ x hx
  have hu:usesX x.op=true:=by rw[h4];rfl
  obtain⟨u1,u2⟩:=ok.x hu
  obtain⟨k,hk⟩:∃ k:Nat,x.x=k:=⟨x.x.toNat,by omega⟩
  have hkl:k<f.length:=by omega
  rw[hk,sub_can hf hkl] at hc
  rw[← hc]
  refine⟨canon_can hf.ok hf.len hkl,x.i,x.e,x.g,bif usesY x.op then tree f x.y.toNat else .none,?_⟩
  rw[root,tree_nd hf.ok hx,hu,h4,hk,cond_true]
  have:=(canon_root hf.ok hkl).2
  rw[root,this];rfl
variable (hM:OkM m n)
include hM
theorem vlF_lt (f:List Nd):vlF m n f<2^n:=vlT_lt hM.vbits _
omit hM in
theorem vl_str {f c:List Nd} (hf:Can f) (h:strI f=(c,true)):vlF m n f=notN n (vlF m n c):=by
 obtain⟨_,i,e,g,b,hr⟩:=str_root hf h
 rw[vlF,hr];rfl
theorem vl_neg {f:List Nd} (hf:Can f) (h:negI f≠[]):Can (negI f)∧vlF m n (negI f)=notN n (vlF m n f):=by
 unfold negI at h ⊢
 cases hs:(strI f).2 with
 |true =>
  have h1:strI f=((strI f).1,true):=by rw[← hs]
  rw[cond_true]
  refine⟨(str_root hf h1).1,?_⟩
  rw[vl_str hf h1,not_not (vlF_lt hM _)]
 |false =>
  rw[hs,cond_false] at h
  rw[cond_false]
  rw[build_un _ _ (by rfl) (by rfl) (by rfl)] at h ⊢
  obtain⟨_,_,h3,h4⟩:=un_inv (by rfl) (by rfl) h
  refine⟨h3,?_⟩
  rw[vlF,h4];rfl
theorem vl_opp {a b:List Nd} (ha:Can a) (hb:Can b) (h:oppI a b=true):vlF m n a=notN n (vlF m n b):=by
 unfold oppI at h
 cases h1:(bif (strI a).2 then decide ((strI a).1=b) else false) with
 |true =>
  cases hs:(strI a).2 with
  |false=>rw[hs] at h1;cases h1
  |true =>
   rw[hs,cond_true] at h1
   have e:=of_decide_eq_true h1
   exact vl_str ha (by rw[← e,← hs])
 |false =>
  rw[h1,cond_false] at h
  cases hs:(strI b).2 with
  |false=>rw[hs] at h;cases h
  |true =>
   rw[hs,cond_true] at h
   have e:=of_decide_eq_true h
   rw[vl_str hb (c:=a) (by rw[← e,← hs]),not_not (vlF_lt hM _)]
def SemR (m:Mo) (n:Nat) (z:List Nd) (v:Nat):Prop:=z≠[]→Can z∧vlF m n z=v
omit hM in
theorem SemR.of {z:List Nd} {v w:Nat} (hz:Can z) (h:vlF m n z=v) (hv:v=w):SemR m n z w:=fun _=>⟨hz,h.trans hv⟩
omit hM in
theorem SemR.cond {c:Bool} {a b:List Nd} {v:Nat} (h1:c=true→SemR m n a v) (h2:c=false→SemR m n b v):SemR m n (bif c then a else b) v:=by
 cases c with
 |true=>exact h1 rfl
 |false=>exact h2 rfl
omit hM in
theorem sem_true {v:Nat} (h:v=2^n-1):SemR m n (buildL (n0 1) []) v:=.of (cst_can 1 (.inl rfl)).1 vl_true h.symm
omit hM in
theorem sem_false {v:Nat} (h:v=0):SemR m n (buildL (n0 2) []) v:=.of (cst_can 2 (.inr rfl)).1 vl_false h.symm
omit hM in
theorem sem_ap {x:Nd} {k:Int} (hk:OkNd x k) {X Y:List Nd} (h13:x.op≤13):SemR m n (apN x X Y) (vlN m n x.op x.i x.g (vlF m n X) (vlF m n Y)):=fun h=>by
 obtain⟨h1,h2,_,_⟩:=ap_inv hk h
 refine⟨h1,?_⟩
 rw[vlF,h2,vlT]
 refine vlN_congr hk.op.1 h13 (fun u => ?_) (fun u => ?_)
 ·rw[u];rfl
 ·rw[u];rfl
omit hM in
theorem full_and {x:Nat} (h:x<2^n):(2^n-1)&&&x=x∧x&&&(2^n-1)=x∧(2^n-1) |||x=2^n-1∧x |||(2^n-1)=2^n-1:=by
 have:=full_lt n
 refine⟨set_ext (Nat.and_lt_two_pow _ h) h fun j hj => ?_,set_ext (Nat.and_lt_two_pow _ this) h fun j hj => ?_,set_ext (Nat.or_lt_two_pow this h) this fun j hj => ?_,set_ext (Nat.or_lt_two_pow h this) this fun j hj => ?_⟩
 ·rw[Nat.testBit_and,full_bit hj,Bool.true_and]
 ·rw[Nat.testBit_and,full_bit hj,Bool.and_true]
 ·rw[Nat.testBit_or,full_bit hj,Bool.true_or]
 ·rw[Nat.testBit_or,full_bit hj,Bool.or_true]
omit hM in
theorem opp_and {y:Nat} (h:y<2^n):notN n y&&&y=0∧notN n y |||y=2^n-1∧notN n (notN n y ^^^ y)=0:=by
 have:=full_lt n
 have hp:=Nat.two_pow_pos n
 have:=notN_lt n y
 refine⟨set_ext (Nat.and_lt_two_pow _ h) hp fun j hj => ?_,set_ext (Nat.or_lt_two_pow this h) (full_lt n) fun j hj => ?_,set_ext (notN_lt _ _) hp fun j hj => ?_⟩
 ·rw[Nat.testBit_and,not_bit,decide_eq_true hj,Nat.zero_testBit];cases y.testBit j<;>rfl
 ·rw[Nat.testBit_or,not_bit,decide_eq_true hj,full_bit hj];cases y.testBit j<;>rfl
 ·rw[not_bit,Nat.testBit_xor,not_bit,decide_eq_true hj,Nat.zero_testBit];cases y.testBit j<;>rfl
omit hM in
theorem or3 {a b c d e:Bool} (h:(bif (bif a then true else b) then true else (bif (bif c then d else false) then e else false))=true):a=true∨b=true∨c=true:=by
 cases a<;>cases b<;>cases c<;>simp_all
omit hM in
theorem or2 {a b:Bool} (h:(bif a then true else b)=true):a=true∨b=true:=by cases a<;>simp_all
theorem sem_and {x:Nd} {k:Int} (hk:OkNd x k) (ho:x.op=5) {a b:List Nd} (ha:Can a) (hb:Can b):SemR m n (jntI x a b 1 2) (vlF m n a&&&vlF m n b):=by
 have la:=vlF_lt hM a
 have lb:=vlF_lt hM b
 unfold jntI
 refine .cond (fun h => ?_) fun _=>.cond (fun h => ?_) fun _=>.cond (fun h => ?_) fun _ => ?_
 ·rw[apN_cst (.inr rfl)]
  refine sem_false ?_
  rcases or3 h with h|h|h
  ·rw[isF_false h,Nat.zero_and]
  ·rw[isF_false h,Nat.and_zero]
  ·rw[vl_opp hM ha hb h];exact (opp_and lb).1
 ·exact .of hb rfl (by rw[isF_true h,(full_and lb).1])
 ·refine .of ha rfl ?_
  rcases or2 h with h|h
  ·rw[isF_true h,(full_and la).2.1]
  ·rw[of_decide_eq_true h,Nat.and_self]
 ·have:=sem_ap (m:=m) (n:=n) hk (X:=a) (Y:=b) (by omega)
  rw[ho] at this
  exact this
theorem sem_or {x:Nd} {k:Int} (hk:OkNd x k) (ho:x.op=6) {a b:List Nd} (ha:Can a) (hb:Can b):SemR m n (jntI x a b 2 1) (vlF m n a |||vlF m n b):=by
 have la:=vlF_lt hM a
 have lb:=vlF_lt hM b
 unfold jntI
 refine .cond (fun h => ?_) fun _=>.cond (fun h => ?_) fun _=>.cond (fun h => ?_) fun _ => ?_
 ·rw[apN_cst (.inl rfl)]
  refine sem_true ?_
  rcases or3 h with h|h|h
  ·rw[isF_true h,(full_and lb).2.2.1]
  ·rw[isF_true h,(full_and la).2.2.2]
  ·rw[vl_opp hM ha hb h];exact (opp_and lb).2.1
 ·exact .of hb rfl (by rw[isF_false h,Nat.zero_or])
 ·refine .of ha rfl ?_
  rcases or2 h with h|h
  ·rw[isF_false h,Nat.or_zero]
  ·rw[of_decide_eq_true h,Nat.or_self]
 ·have:=sem_ap (m:=m) (n:=n) hk (X:=a) (Y:=b) (by omega)
  rw[ho] at this
  exact this
omit hM in
theorem build_ap {x:Nd} {op:Int} (ho:x.op=op) (hop:op=7∨op=8) (a b:List Nd) {v:Nat} (hv:v=vlN m n op 0 0 (vlF m n a) (vlF m n b)):SemR m n (buildL (n0 op) [a,b]) v:=fun h=>by
 have hx:usesX (n0 op).op=true:=by rcases hop with rfl|rfl<;>rfl
 have hy:usesY (n0 op).op=true:=by rcases hop with rfl|rfl<;>rfl
 rw[build_bin _ _ _ hx hy] at h ⊢
 obtain⟨_,_,_,h4,h5⟩:=bin_inv hx hy h
 refine⟨h4,?_⟩
 rw[vlF,h5,hv];rfl
theorem sem_imp {x:Nd} (ho:x.op=7) {a b:List Nd} (ha:Can a) (hb:Can b):SemR m n (cndI a b) (notN n (vlF m n a) |||vlF m n b):=by
 have la:=vlF_lt hM a
 have lb:=vlF_lt hM b
 unfold cndI
 refine .cond (fun h => ?_) fun _=>.cond (fun h => ?_) fun _=>.cond (fun h => ?_) fun _ => ?_
 ·refine sem_true ?_
  rcases or2 h with h|h
  ·rcases or2 h with h|h
   ·rw[isF_false h,show notN n 0=2^n-1 from set_ext (notN_lt _ _) (full_lt n) fun j hj=>by rw[not_bit,decide_eq_true hj,full_bit hj,Nat.zero_testBit];rfl,(full_and lb).2.2.1]
   ·rw[isF_true h,(full_and (notN_lt _ _)).2.2.2]
  ·rw[of_decide_eq_true h,(opp_and lb).2.1]
 ·refine .of hb rfl ?_
  rw[isF_true h,show notN n (2^n-1)=0 from set_ext (notN_lt _ _) (Nat.two_pow_pos n) fun j hj=>by rw[not_bit,decide_eq_true hj,full_bit hj,Nat.zero_testBit];rfl,Nat.zero_or]
 ·intro hn
  obtain⟨h1,h2⟩:=vl_neg hM ha hn
  exact⟨h1,by rw[h2,isF_false h,Nat.or_zero]⟩
 ·exact build_ap ho (.inl rfl) a b rfl
theorem sem_eqv {x:Nd} (ho:x.op=8) {a b:List Nd} (ha:Can a) (hb:Can b):SemR m n (eqvI a b) (notN n (vlF m n a ^^^ vlF m n b)):=by
 have la:=vlF_lt hM a
 have lb:=vlF_lt hM b
 have e0:∀ y,y<2^n→notN n (2^n-1 ^^^ y)=y:=fun y hy=>set_ext (notN_lt _ _) hy fun j hj=>by
  rw[not_bit,decide_eq_true hj,Nat.testBit_xor,full_bit hj];cases y.testBit j<;>rfl
 unfold eqvI
 refine .cond (fun h => ?_) fun _=>.cond (fun h => ?_) fun _=>.cond (fun h => ?_) fun _=>.cond (fun h => ?_) fun _=>.cond (fun h => ?_) fun _=>.cond (fun h => ?_) fun _ => ?_
 ·refine sem_true ?_
  rw[of_decide_eq_true h,Nat.xor_self]
  exact set_ext (notN_lt _ _) (full_lt n) fun j hj=>by rw[not_bit,decide_eq_true hj,full_bit hj,Nat.zero_testBit];rfl
 ·refine sem_false ?_
  rw[vl_opp hM ha hb h,(opp_and lb).2.2]
 ·exact .of hb rfl (by rw[isF_true h,e0 _ lb])
 ·exact .of ha rfl (by rw[isF_true h,Nat.xor_comm,e0 _ la])
 ·intro hn
  obtain⟨h1,h2⟩:=vl_neg hM hb hn
  exact⟨h1,by rw[h2,isF_false h,Nat.zero_xor]⟩
 ·intro hn
  obtain⟨h1,h2⟩:=vl_neg hM ha hn
  exact⟨h1,by rw[h2,isF_false h,Nat.xor_zero]⟩
 ·exact build_ap ho (.inr rfl) a b rfl
theorem sem_not {x:Nd} (_ho:x.op=4) {a:List Nd} (ha:Can a):SemR m n (bif isF a 1 then buildL (n0 2) [] else bif isF a 2 then buildL (n0 1) [] else negI a) (notN n (vlF m n a)):=by
 refine .cond (fun h => ?_) fun _=>.cond (fun h => ?_) fun _=>fun hn=>vl_neg hM ha hn
 ·exact sem_false (by rw[isF_true h];exact set_ext (notN_lt _ _) (Nat.two_pow_pos n) fun j hj=>by rw[not_bit,decide_eq_true hj,full_bit hj,Nat.zero_testBit];rfl)
 ·exact sem_true (by rw[isF_false h];exact set_ext (notN_lt _ _) (full_lt n) fun j hj=>by rw[not_bit,decide_eq_true hj,full_bit hj,Nat.zero_testBit];rfl)
omit hM in
theorem box_full {r:List Nat} (hr:∀ w,r.getD w 0<2^n):boxN n r (2^n-1)=2^n-1:=set_ext (boxN_lt _ _ _) (full_lt n) fun j hj=>by
 rw[full_bit hj,boxN_bit]
 exact⟨hj,fun i hi=>full_bit (bit_lt (hr j) hi)⟩
omit hM in
theorem dia_none {r:List Nat} (hr:∀ w,r.getD w 0<2^n):diaN n r 0=0:=by
 have e1:notN n 0=2^n-1:=set_ext (notN_lt _ _) (full_lt n) fun j hj=>by rw[not_bit,decide_eq_true hj,full_bit hj,Nat.zero_testBit];rfl
 rw[diaN,e1,box_full hr]
 exact set_ext (notN_lt _ _) (Nat.two_pow_pos n) fun j hj=>by rw[not_bit,decide_eq_true hj,full_bit hj,Nat.zero_testBit];rfl
theorem row_lt (i w:Nat):(m.rel.getD i []).getD w 0<2^n:=by
 by_cases hi:i<m.rel.length
 ·exact getD_lt2 (hM.bits _ (List.mem_iff_getElem?.2 ⟨i,getD_mem hi⟩)) w
 ·rw[List.getD_eq_getElem?_getD (l:=m.rel),List.getElem?_eq_none (by omega)]
  exact Nat.two_pow_pos n
theorem grp_lt {op:Nat→Nat→Nat} (hop:∀ x y,x<2^n→y<2^n→op x y<2^n) {first:Nat} (hf:first<2^n) (g:Int) (w:Nat):(grpM op m g first).getD w 0<2^n:=by
 cases hb:badGM m g with
 |true=>rw[grpM,hb];exact Nat.two_pow_pos n
 |false =>
  unfold badGM at hb
  rw[ok_moI hM] at hb
  have hb:(bif decide (g<1) then true else decide (g≥shl64 1 (m.rel.length:Int)))=false:=hb
  cases h1:decide (g<1) with
  |true=>rw[h1] at hb;cases hb
  |false =>
   rw[h1,cond_false] at hb
   have:=of_decide_eq_false hb
   have:=of_decide_eq_false h1
   exact getD_lt2 (grp_facts hM hop hf (by omega) (by omega)).2 w
omit hM in
theorem com_full {r:List Nat} {c s:Nat} (h:c=0∨s=2^n-1) (hr:∀ w,r.getD w 0<2^n):comN n r c s=2^n-1:=set_ext (comN_lt _ _ _ _) (full_lt n) fun j hj=>by
 rw[full_bit hj,comN,maskOf_bit,decide_eq_true hj,Bool.true_and,subM_iff]
 rcases h with rfl|rfl
 ·have:Sub (pathN n r 0 j) 0:=pathN_in (fun e _ h=>by rw[Nat.zero_testBit] at h;cases h) (by rw[Nat.and_zero];exact fun i hi=>hi)
  intro i hi
  have:=this i hi
  rw[Nat.zero_testBit] at this
  cases this
 ·refine pathN_in (fun e he _ => ?_) fun i hi => ?_
  ·show Sub (orA [r.map fun a=>a&&&c] e 1) _
   rw[orA_one]
   exact fun i hi=>full_bit (bit_lt (Nat.lt_of_le_of_lt Nat.and_le_left (hr e)) hi)
  ·exact full_bit (bit_lt (Nat.lt_of_le_of_lt Nat.and_le_left (hr j)) hi)
theorem sem_smp {x:Nd} {k:Int} (hk:OkNd x k) (h13:x.op≤13) {a b:List Nd} (ha:usesX x.op=true→Can a) (hb:usesY x.op=true→Can b) :
  SemR m n (smpI x a b) (vlN m n x.op x.i x.g (vlF m n a) (vlF m n b)):=by
 have hor:∀ x y,x<2^n→y<2^n→orF x y<2^n:=fun x y h1 h2=>Nat.or_lt_two_pow h1 h2
 have hand:∀ x y,x<2^n→y<2^n→andF x y<2^n:=fun x y _ h2=>Nat.and_lt_two_pow x h2
 have hA:=fun (v:Int) (h:x.op=v)=>(show SemR m n (apN x a b) (vlN m n v x.i x.g (vlF m n a) (vlF m n b)) from h▸sem_ap hk h13)
 have h1:=hk.op.1
 have hcase:x.op=1∨x.op=2∨x.op=3∨x.op=4∨x.op=5∨x.op=6∨x.op=7∨x.op=8∨x.op=9∨x.op=10∨x.op=11∨x.op=12∨x.op=13:=by omega
 unfold smpI
 rcases hcase with h|h|h|h|h|h|h|h|h|h|h|h|h
 ·rw[h];exact hA 1 h
 ·rw[h];exact hA 2 h
 ·rw[h];exact hA 3 h
 ·rw[h] at ha ⊢;exact sem_not hM h (ha rfl)
 ·rw[h] at ha hb ⊢;exact sem_and hM hk h (ha rfl) (hb rfl)
 ·rw[h] at ha hb ⊢;exact sem_or hM hk h (ha rfl) (hb rfl)
 ·rw[h] at ha hb ⊢;exact sem_imp hM h (ha rfl) (hb rfl)
 ·rw[h] at ha hb ⊢;exact sem_eqv hM h (ha rfl) (hb rfl)
 ·rw[h]
  show SemR m n (bif isF a 1 then buildL (n0 1) [] else apN x a b) (boxN n (m.rel.getD x.i.toNat []) (vlF m n a))
  exact .cond (fun q=>sem_true (by rw[isF_true q,box_full (row_lt hM _)])) fun _=>hA 9 h
 ·rw[h]
  show SemR m n (bif isF a 2 then buildL (n0 2) [] else apN x a b) (diaN n (m.rel.getD x.i.toNat []) (vlF m n a))
  exact .cond (fun q=>sem_false (by rw[isF_false q,dia_none (row_lt hM _)])) fun _=>hA 10 h
 ·rw[h]
  show SemR m n (bif isF a 1 then buildL (n0 1) [] else apN x a b) (boxN n (grpM orF m x.g 0) (vlF m n a))
  exact .cond (fun q=>sem_true (by rw[isF_true q,box_full (grp_lt hM hor (Nat.two_pow_pos n) _)])) fun _=>hA 11 h
 ·rw[h]
  show SemR m n (bif isF a 1 then buildL (n0 1) [] else apN x a b) (boxN n (grpM andF m x.g (2^n-1)) (vlF m n a))
  exact .cond (fun q=>sem_true (by rw[isF_true q,box_full (grp_lt hM hand (full_lt n) _)])) fun _=>hA 12 h
 ·rw[h]
  show SemR m n (bif (bif isF a 2 then true else isF b 1) then buildL (n0 1) [] else apN x a b) (comN n (grpM orF m x.g 0) (vlF m n a) (vlF m n b))
  refine .cond (fun q=>sem_true (com_full ?_ (grp_lt hM hor (Nat.two_pow_pos n) _))) fun _=>hA 13 h
  rcases or2 q with q|q
  ·exact .inl (isF_false q)
  ·exact .inr (isF_true q)
theorem sim_sem {f:List Nd} (hc:check f=0) (hs:∀ x,x∈comp f→x.op≤13) (h:(simI f).2=0):Can (simI f).1∧vlF m n (simI f).1=vlF m n f:=by
 have hI:simI f=simF (comp f):=by rw[simI,hc];rfl
 rw[hI] at h ⊢
 have hok:=comp_okl f
 have hpos:=comp_pos hc
 have hrt:vlF m n f=vlT m n (tree (comp f) ((comp f).length-1)):=by
  rw[vlF,← root_comp hc];rfl
 rw[hrt]
 generalize comp f=c at *
 unfold simF lastF at h ⊢
 cases he:((redE [] smpH c []).2 != 0) with
 |true=>rw[he] at h;have h:(redE [] smpH c []).2=0:=h;rw[h] at he;cases he
 |false =>
  simp only[cond_false]
  obtain⟨g1,g2⟩:=redE_all (h:=smpH) (fun j z=>Can z∧vlF m n z=vlT m n (tree c j)) (fun i x l hx hl hQ h0=>by
   have ok:=hok i x hx
   have h13:=hs x (List.mem_iff_getElem?.2 ⟨i,hx⟩)
   have h0:=nz_ok h0
   have oX:usesX x.op=true→Can (l.getD x.x.toNat [])∧vlF m n (l.getD x.x.toNat [])=vlT m n (tree c x.x.toNat):=fun u=>by
    have:=ok.x u
    exact hQ _ _ (getD_mem (by omega))
   have oY:usesY x.op=true→Can (l.getD x.y.toNat [])∧vlF m n (l.getD x.y.toNat [])=vlT m n (tree c x.y.toNat):=fun u=>by
    have:=ok.y u
    exact hQ _ _ (getD_mem (by omega))
   have eX:usesX x.op=true→opX x (l.getD x.x.toNat [])=l.getD x.x.toNat []:=fun u=>by
    rw[opX,usX_eq ok.op.2,u];rfl
   have eY:usesY x.op=true→opY x (l.getD x.y.toNat [])=l.getD x.y.toNat []:=fun u=>by
    rw[opY,bin_uses h13,u];rfl
   obtain⟨k1,k2⟩:=sem_smp hM ok h13 (a:=opX x (l.getD x.x.toNat [])) (b:=opY x (l.getD x.y.toNat [])) (fun u=>by rw[eX u];exact (oX u).1) (fun u=>by rw[eY u];exact (oY u).1) h0
   refine⟨k1,?_⟩
   rw[tree_nd hok hx,vlT]
   refine Eq.trans k2 (vlN_congr ok.op.1 h13 (fun u => ?_) (fun u => ?_))
   ·rw[eX u,(oX u).2,u];rfl
   ·rw[eY u,(oY u).2,u];rfl) c.length 0 [] (by omega) rfl (fun j z h=>by simp at h) (by simpa using he)
  rw[List.drop_zero] at g1 g2
  have:=g2 _ _ (last_get' (d:=[]) (by omega))
  rw[g1] at this ⊢
  exact this
end
set_option maxHeartbeats 4000000
def ffF:List Nd:=buildL (n0 2) []
def evtL (s:Act):List Nat:=(List.range s.pre.length).filter fun e=>!same (s.pre.getD e []) ffF
def fsN (Z:List (List Bool)) (e:Nat):Nat:=(Z.getD e []).idxOf true
def keptL (Z:List (List Bool)) (n:Nat):List Nat:=(List.range n).filter fun e=>fsN Z e==e
def plN (Z:List (List Bool)) (n e:Nat):Nat:=(keptL Z n).idxOf (fsN Z e)
def stepQ (r:List Nat) (pl:Nat→Nat) (e f:Nat) (q:List Nat):List Nat:=q.set (pl e) (bif (r.getD e 0).testBit f then q.getD (pl e) 0 |||2^pl f else q.getD (pl e) 0)
def rowQ (r:List Nat) (pl:Nat→Nat) (e:Nat):Nat→List Nat→List Nat
 |0,q=>q
 |k+1,q=>stepQ r pl e k (rowQ r pl e k q)
def allQ (r:List Nat) (pl:Nat→Nat) (n:Nat):Nat→List Nat→List Nat
 |0,q=>q
 |k+1,q=>rowQ r pl k n (allQ r pl n k q)
def relQ (Z:List (List Bool)) (n:Nat) (r:List Nat):List Nat:=allQ r (plN Z n) n n (List.replicate (keptL Z n).length 0)
def sfB (k:Act) (Z:List (List Bool)) (n:Nat):Act:=⟨(keptL Z n).map fun e=>k.pre.getD e [],(keptL Z n).map fun e=>k.post.getD e [],k.rel.map (relQ Z n)⟩
def sfN (evs:List Nat) (Z:List (List Bool)) (e:Nat):Int:=if e∈evs then (plN Z evs.length (evs.idxOf e):Int) else -1
def sfK (a:Act):Act:=keepA (smpA a) (evtL (smpA a))
def sfZ (a:Act):List (List Bool):=alkI (sfK a) (sfK a) (tab0 (sfK a) (sfK a))
def sfyI (a:Act):Act×List Int×Int :=
 bif aloneI a != 0 then (noAct,[],aloneI a) else bif ((evtL (smpA a)).length:Int)==0 then (noAct,[],11) else
 (sfB (sfK a) (sfZ a) (evtL (smpA a)).length,(List.range a.pre.length).map (sfN (evtL (smpA a)) (sfZ a)),0)
def intI (z:Int):PV:=.int .i64 z
def sfP (x:Act×List Int×Int):PV:=.tup [x.1.pv,.sl (x.2.1.map intI),.int .i64 x.2.2]
def Firsts (Z:List (List Bool)) (n:Nat):Prop:=∀ e,e<n→fsN Z e<n∧fsN Z (fsN Z e)=fsN Z e
theorem Firsts.mem {Z:List (List Bool)} {n e:Nat} (h:Firsts Z n) (he:e<n):fsN Z e∈keptL Z n:=by
 rw[keptL,List.mem_filter,List.mem_range]
 obtain⟨h1,h2⟩:=h e he
 exact⟨h1,by rw[h2];simp⟩
theorem Firsts.pl {Z:List (List Bool)} {n e:Nat} (h:Firsts Z n) (he:e<n):plN Z n e<(keptL Z n).length:=List.idxOf_lt_length_iff.2 (h.mem he)
theorem kept_len (Z:List (List Bool)) (n:Nat):(keptL Z n).length≤n:=by
 unfold keptL
 exact Nat.le_trans (List.length_filter_le _ _) (by simp)
theorem kept_mem {Z:List (List Bool)} {n e:Nat} (h:e∈keptL Z n):e<n:=by
 rw[keptL,List.mem_filter,List.mem_range] at h
 exact h.1
theorem evtL_mem {s:Act} {e:Nat} (h:e∈evtL s):e<s.pre.length:=by
 rw[evtL,List.mem_filter,List.mem_range] at h
 exact h.1
theorem evtL_len (s:Act):(evtL s).length≤s.pre.length:=by
 unfold evtL
 exact Nat.le_trans (List.length_filter_le _ _) (by simp)
theorem filt_snoc {p:Nat→Bool} (n:Nat):(List.range (n+1)).filter p=bif p n then (List.range n).filter p++[n] else (List.range n).filter p:=by
 rw[List.range_succ,List.filter_append]
 cases h:p n with
 |true=>simp[h]
 |false=>simp[h]
theorem stepQ_len (r:List Nat) (pl:Nat→Nat) (e f:Nat) (q:List Nat):(stepQ r pl e f q).length=q.length:=by simp[stepQ]
theorem rowQ_len (r:List Nat) (pl:Nat→Nat) (e:Nat):∀ (k:Nat) (q:List Nat),(rowQ r pl e k q).length=q.length
 |0,_=>rfl
 |k+1,q=>by rw[rowQ,stepQ_len,rowQ_len r pl e k q]
theorem allQ_len (r:List Nat) (pl:Nat→Nat) (n:Nat):∀ (k:Nat) (q:List Nat),(allQ r pl n k q).length=q.length
 |0,_=>rfl
 |k+1,q=>by rw[allQ,rowQ_len,allQ_len r pl n k q]
def Und8 (q:List Nat):Prop:=∀ s,s∈q→s<2^8
theorem Und8.get {q:List Nat} (h:Und8 q) (i:Nat):q.getD i 0<2^8:=by
 rw[List.getD_eq_getElem?_getD]
 by_cases hi:i<q.length
 ·rw[List.getElem?_eq_getElem hi];exact h _ (List.getElem_mem hi)
 ·rw[List.getElem?_eq_none (by omega)];exact Nat.two_pow_pos 8
theorem stepQ_und {r:List Nat} {pl:Nat→Nat} {e f:Nat} {q:List Nat} (h:Und8 q) (hf:pl f<8):Und8 (stepQ r pl e f q):=fun s hs=>by
 rcases List.mem_or_eq_of_mem_set hs with hs|rfl
 ·exact h s hs
 ·have:=h.get (pl e)
  cases (r.getD e 0).testBit f with
  |true=>exact Nat.or_lt_two_pow this (Nat.pow_lt_pow_right (by decide) hf)
  |false=>exact this
theorem rowQ_und {r:List Nat} {pl:Nat→Nat} {e:Nat}:∀ {k:Nat} {q:List Nat},Und8 q→(∀ f,f<k→pl f<8)→Und8 (rowQ r pl e k q)
 |0,_,h,_=>h
 |k+1,_,h,hf=>stepQ_und (rowQ_und h fun f hk=>hf f (by omega)) (hf k (by omega))
theorem allQ_und {r:List Nat} {pl:Nat→Nat} {n:Nat}:∀ {k:Nat} {q:List Nat},Und8 q→(∀ f,f<n→pl f<8)→Und8 (allQ r pl n k q)
 |0,_,h,_=>h
 |_+1,_,h,hf=>rowQ_und (allQ_und h hf) hf
theorem zer_und (m:Nat):Und8 (List.replicate m 0):=fun s hs=>by rw[List.eq_of_mem_replicate hs];decide
theorem or_place {x s f p:Nat} (hx:x<2^8) (hs:s<2^64) (hf:f<64) (hp:p<8):orU (x:Nat) (shlU (andU (shrU (s:Nat) (f:Nat)) 1) (p:Nat))=((bif s.testBit f then x |||2^p else x:Nat):Int):=by
 rw[bit_and s f hs hf]
 have h1:x<2^64:=Nat.lt_of_lt_of_le hx (by decide)
 cases h:s.testBit f with
 |true =>
  rw[if_pos rfl,shlU_one (by omega),orU_nat h1 (Nat.pow_lt_pow_right (by decide) (by omega))];rfl
 |false =>
  rw[if_neg (by decide),show shlU 0 (p:Nat)=((0:Nat):Int) by show IntKind.wrap .u64 (0*_)=0;rw[Int.zero_mul];rfl,orU_nat h1 (by decide),Nat.or_zero];rfl
theorem idxN_first {y:Nat}:∀ {l:List Nat} {i:Nat},l[i]? = some y→y∉l.take i→l.idxOf y=i
 | [],i,h,_=>by simp at h
 |a::r,0,h,_=>by
  have:a=y:=by simpa using h
  subst this;simp
 |a::r,i+1,h,hn=>by
  have h1:r[i]? = some y:=by simpa using h
  have h2:y∉a::r.take i:=by simpa using hn
  have h3:a≠y:=fun e=>h2 (by simp[e])
  have ih:=idxN_first h1 (fun h=>h2 (by simp[h]))
  rw[List.idxOf_cons,show (a==y)=false by simpa using h3,cond_false,ih]
def ixN (l:List Nat) (y:Nat):Int:=if y∈l then (l.idxOf y:Int) else -1
theorem sl_IndexN (l:List Nat) (y:Nat) (hl:l.length≤1000):PureFn Tryz.prog 58 [.sl (l.map i64),i64 y] (.int .i64 (ixN l y)):=by
 refine PureFn.intro mixed (fn:=Tryz.f58) rfl rfl rfl fun M w0 => ?_
 try conv=>whnf
 refine⟨{ i:Nat // i≤l.length∧y∉l.take i },fun i=>[(0,.pv (.sl (l.map i64))),(1,.pv (i64 y)),(7,.pv (i64 (l.map i64).length)),(8,.pv (i64 i.1))],fun _=>0,fun _=>[],fun i=>l.length-i.1,⟨⟨0,Nat.zero_le _,by simp⟩,(by exact Wk.sm rfl rfl rfl rfl rfl)⟩,?_⟩
 rintro⟨i,hi,hn⟩
 (try conv=>whnf);repeat' (first|(apply And.intro<;>try conv=>whnf)|(intro h;try conv=>whnf)|(apply infoT;rfl)|fail)
 ·have hi':i<l.length:=by simpa using lt_dec h
  have hm:l[i]? = some l[i]:=List.getElem?_eq_getElem hi'
  refine⟨_,_,rfl,idx_map hm,rfl,?_⟩
  (try conv=>whnf);repeat' (first|(apply And.intro<;>try conv=>whnf)|(intro h;try conv=>whnf)|fail)
  ·have he:y=l[i]:=by
                have:(y:Int)=(l[i]:Nat):=by simpa using h
                omega
   rw[ixN,if_pos (by rw[he];exact List.getElem_mem hi'),idxN_first (by rw[hm,he]) hn]
   exact .refl _
  ·have he:y≠l[i]:=fun e=>by
    have:¬ (y:Int)=(l[i]:Nat):=by simpa using h
    omega
   refine⟨⟨i+1,hi',?_⟩,by show l.length-(i+1)<l.length-i;omega,(by refine Wk.of ?_ ?_ rfl rfl rfl<;>repeat' (first|exact trivial|exact WkD.same _|refine WkD.int ?_|refine⟨?_,?_⟩|(refine wrapA ?_ ?_ ?_;(focus simp;done);(focus (try dsimp only);omega);(focus (try dsimp only);omega))|fail))⟩
   rw[List.take_succ_eq_append_getElem hi',List.mem_append,not_or]
   exact⟨hn,fun h=>he (List.mem_singleton.1 h)⟩
 ·have hi':i=l.length:=by have:=ge_dec (m:=(l.map i64).length) h (by simpa using hi);simpa using this
  subst hi'
  rw[List.take_length] at hn
  rw[ixN,if_neg hn]
  exact .refl _
def ixB (r:List Bool):Int:=if true∈r then (r.idxOf true:Int) else -1
theorem idxB_first:∀ {l:List Bool} {i:Nat},l[i]? = some true→true∉l.take i→l.idxOf true=i
 | [],i,h,_=>by simp at h
 |a::r,0,h,_=>by
  have:a=true:=by simpa using h
  subst this;simp
 |a::r,i+1,h,hn=>by
  have h1:r[i]? = some true:=by simpa using h
  have h2:true∉a::r.take i:=by simpa using hn
  have h3:a=false:=by cases a with
   |true=>exact absurd (by simp) h2
   |false=>rfl
  subst h3
  have ih:=idxB_first h1 (fun h=>h2 (by simp[h]))
  rw[List.idxOf_cons,show (false==true)=false from rfl,cond_false,ih]
theorem sl_IndexB (l:List Bool) (hl:l.length≤1000):PureFn Tryz.prog 56 [rowB l,.bool true] (.int .i64 (ixB l)):=by
 refine PureFn.intro mixed (fn:=Tryz.f56) rfl rfl rfl fun M w0 => ?_
 try conv=>whnf
 refine⟨{ i:Nat // i≤l.length∧true∉l.take i },fun i=>[(0,.pv (rowB l)),(1,.pv (.bool true)),(7,.pv (i64 (l.map PV.bool).length)),(8,.pv (i64 i.1))],fun _=>0,fun _=>[],fun i=>l.length-i.1,⟨⟨0,Nat.zero_le _,by simp⟩,(by exact Wk.sm rfl rfl rfl rfl rfl)⟩,?_⟩
 rintro⟨i,hi,hn⟩
 (try conv=>whnf);repeat' (first|(apply And.intro<;>try conv=>whnf)|(intro h;try conv=>whnf)|(apply infoT;rfl)|fail)
 ·have hi':i<l.length:=by simpa using lt_dec h
  have hm:l[i]? = some l[i]:=List.getElem?_eq_getElem hi'
  refine⟨_,_,rfl,idx_map hm,rfl,?_⟩
  (try conv=>whnf);repeat' (first|(apply And.intro<;>try conv=>whnf)|(intro h;try conv=>whnf)|fail)
  ·have he:l[i]=true:=by
                 have h2:((true:Bool)==l[i])=true:=h
                 cases hq:l[i] with
                 |true=>rfl
                 |false=>rw[hq] at h2;cases h2
   rw[ixB,if_pos (by rw[← he];exact List.getElem_mem hi'),idxB_first (by rw[hm,he]) hn]
   exact .refl _
  ·have he:l[i]=false:=by
                  have h2:((true:Bool)==l[i])=false:=h
                  cases hq:l[i] with
                  |true=>rw[hq] at h2;cases h2
                  |false=>rfl
   refine⟨⟨i+1,hi',?_⟩,by show l.length-(i+1)<l.length-i;omega,(by refine Wk.of ?_ ?_ rfl rfl rfl<;>repeat' (first|exact trivial|exact WkD.same _|refine WkD.int ?_|refine⟨?_,?_⟩|(refine wrapA ?_ ?_ ?_;(focus simp;done);(focus (try dsimp only);omega);(focus (try dsimp only);omega))|fail))⟩
   rw[List.take_succ_eq_append_getElem hi',List.mem_append,not_or]
   exact⟨hn,fun h=>by have:=List.mem_singleton.1 h;rw[he] at this;cases this⟩
 ·have hi':i=l.length:=by have:=ge_dec (m:=(l.map PV.bool).length) h (by simpa using hi);simpa using this
  subst hi'
  rw[List.take_length] at hn
  rw[ixB,if_neg hn]
  exact .refl _
def HPl (a k:Act) (fl kl:List Nat):List (Nat×DObj):=[(0,.var (cellsA a)),(1,.var cellsZ),(2,.var (cellsA k)),(4,.var [.pv (intsPV fl)]),(5,.var [.pv (intsPV kl)])]
theorem clo_place {M:Nat→Prop} {w0:W0} (a k:Act) (fl kl:List Nat) (e v:Nat) (he:fl[e]? = some v) (hv:v∈kl) (hl:kl.length≤1000) (base:Nat) (K:DV→DH→Prop) (hK:K (.pv (i64 (kl.idxOf v))) ⟨6,0,base,objsOf (HPl a k fl kl)⟩) :
  DC Tryz.prog M w0 57 [.pv (i64 e),.ref 5 0,.ref 4 0] ⟨6,0,base,objsOf (HPl a k fl kl)⟩ K:=by
 have hI:=sl_IndexN kl v hl
 rw[ixN,if_pos hv] at hI
 have i1:=idx_map (g:=i64) he
 generalize kl.idxOf v=j at hI hK
 refine DC.weaken (DC.intro mixed (fn:=Tryz.f57) rfl rfl rfl ?_)
 (try conv=>whnf);repeat' (first|(apply And.intro<;>try conv=>whnf)|(apply infoT;rfl)|(refine lin_plan (by kernel_rfl) ?_;try conv=>whnf)|(refine⟨_,_,rfl,idx_map (by with_reducible assumption),rfl,?_⟩;try conv=>whnf)|(refine⟨_,(by (conv=>whnf);exact hI),rfl,?_⟩;try conv=>whnf)|fail)
 exact⟨.pv (i64 j),6,HPl a k fl kl,(by exact Wk.sm rfl rfl rfl rfl rfl),hK⟩
set_option maxHeartbeats 8000000
def Plan.pre:List Nat→Plan→Plan
 | [],p=>p
 |i::r,p=>.one i (Plan.pre r p)
def planQ:Plan:=Plan.pre [0,1,2,6,7,8,9,10,11,3] (.two 4 (.two 5 (Plan.ofL [12,13,14,15,16]) 12 (Plan.ofL [13,5,14,15,16])) 12 (Plan.ofL [13,4,5,14,15,16]))
theorem keep_shp {s:Act} {n:Nat} (hS:Shp s n) (ws:List Nat) (hl:ws.length≤8):Shp (keepA s ws) ws.length:=by
 refine⟨by simp[keepA],by simp[keepA],hl,by show (s.rel.map _).length≤1000;rw[List.length_map];exact hS.ag,fun r hr => ?_,fun r hr x hx => ?_⟩
 ·obtain⟨r0,_,rfl⟩:=List.mem_map.1 hr
  simp
 ·obtain⟨r0,_,rfl⟩:=List.mem_map.1 hr
  obtain⟨w,_,rfl⟩:=List.mem_map.1 hx
  exact maskOf_lt _ _
theorem keep_post {s:Act} {ws:List Nat} (h:∀ l,l∈s.post→l.length≤1000):∀ l,l∈(keepA s ws).post→l.length≤1000:=fun l hl=>by
 obtain⟨w,_,rfl⟩:=List.mem_map.1 hl
 rw[List.getD_eq_getElem?_getD]
 by_cases hw:w<s.post.length
 ·rw[List.getElem?_eq_getElem hw];exact h _ (List.getElem_mem hw)
 ·rw[List.getElem?_eq_none (by omega)];exact Nat.zero_le _
theorem le_sfNo (c:Int):PLe (.tup [.agg [.nil,.nil,.nil],.nil,.int .i64 c]) (sfP (noAct,[],c)):=PLe.tups ⟨PLe.aggs ⟨.nil,.nil,.nil,trivial⟩,.nil,.refl _,trivial⟩
theorem cp_Simplify (a:Act) (hSa:SmX a) (hFs:aloneI a=0→Firsts (sfZ a) (evtL (smpA a)).length):PureFn Tryz.prog 17 [a.pv] (sfP (sfyI a)):=by
 have hCa:=cp_check a hSa
 refine PureFn.introC [4,12,14,15,16,17,22,25,32,36,45,47,54,56] mixed (fn:=Tryz.f17) rfl rfl rfl fun M w0 => ?_
 try conv=>whnf
 refine⟨{ _x:Unit // aloneI a=0 },fun _=>[(1,.ref 0 0),(2,.ref 1 0)],fun _=>2,fun _=>[(0,.var (cellsA a)),(1,.var cellsZ)],?_,?_⟩
 ·(try conv=>whnf);repeat' (first|(apply And.intro<;>try conv=>whnf)|(intro h;try conv=>whnf)|(refine PureFn.dy hCa rfl ?_;try conv=>whnf)|fail)
  ·rw[sfyI,show (aloneI a != 0)=true from h]
   exact le_sfNo _
  ·exact⟨⟨(),by simpa using h⟩,(by exact Wk.sm rfl rfl rfl rfl rfl)⟩
 rintro⟨_,ha0⟩
 have g1:(aloneI a != 0)=false:=by simpa using ha0
 have hsa:(smpA a).pre.length=a.pre.length:=by simp[smpA]
 have hS:=smp_shp ha0
 have hSp:=smp_post hSa
 have hSm:=cp_simple a ha0
 have hF:=hFs ha0
 have hn8:a.pre.length≤8:=(actI_ok ha0).n8
 rw[sfyI,g1,cond_false]
 unfold sfZ sfK
 unfold sfZ sfK at hF
 generalize smpA a=s at *
 have hel:=evtL_len s
 have hev8:(evtL s).length≤8:=by omega
 obtain⟨evs,hevs⟩:∃ evs,evs=evtL s:=⟨_,rfl⟩
 have hem:∀ w,w∈evs→w<s.pre.length:=fun w h=>evtL_mem (by rw[← hevs];exact h)
 rw[← hevs] at hev8 hF ⊢
 (try conv=>whnf);repeat' (first|(refine PureFn.dy hSm rfl ?_;try conv=>whnf)|fail)
 refine⟨Unit,fun _=>[(1,.ref 0 0),(2,.ref 1 0),(6,.ref 2 0),(7,.pv (intsPV evs))],fun _=>3,fun _=>[(0,.var (cellsA a)),(1,.var cellsZ),(2,.var (cellsA s))],?_,?_⟩
 ·try conv=>whnf
  refine⟨{ i:Nat // i≤s.pre.length },fun i=>[(1,.ref 0 0),(2,.ref 1 0),(6,.ref 2 0),(7,.buf 3 (((List.range i.1).filter fun e=>!same (s.pre.getD e []) ffF).map i64).length),(36,.pv (.sl (s.pre.map fpv))),(37,.pv (i64 (s.pre.map fpv).length)),(38,.pv (i64 i.1))],fun _=>4,fun i=>[(0,.var (cellsA a)),(1,.var cellsZ),(2,.var (cellsA s)),(3,.arr 1 (((List.range i.1).filter fun e=>!same (s.pre.getD e []) ffF).map i64))],fun i=>s.pre.length-i.1,⟨⟨0,Nat.zero_le _⟩,(by refine Wk.of ?_ ?_ rfl rfl rfl<;>repeat' (first|exact trivial|exact WkD.same _|exact WkO.same _ _ rfl|exact WkD.new' rfl rfl rfl|exact WkO.new _ _ rfl|exact rfl|refine⟨?_,?_⟩|fail))⟩,?_⟩
  rintro⟨i,hi⟩
  (try conv=>whnf);repeat' (first|(apply And.intro<;>try conv=>whnf)|(intro h;try conv=>whnf)|(apply infoT;rfl)|fail)
  ·have hi':i<s.pre.length:=by simpa using lt_dec h
   have hx:s.pre[i]? = some (s.pre.getD i []):=getD_mem hi'
   have hsn:=filt_snoc (p:=fun e=>!same (s.pre.getD e []) ffF) i
   have hS2:=fm_Same (s.pre.getD i []) ffF
   have hFf:PureFn Tryz.prog 53 [] (fpv ffF):=fm_False
   have hlf:(((List.range i).filter fun e=>!same (s.pre.getD e []) ffF).map i64).length≤1000:=by
    rw[List.length_map]
    exact Nat.le_trans (List.length_filter_le _ _) (by rw[List.length_range];omega)
   generalize same (s.pre.getD i []) ffF=sb at hS2 hsn
   refine⟨_,_,rfl,idx_map hx,rfl,?_⟩
   (try conv=>whnf);repeat' (first|(apply And.intro<;>try conv=>whnf)|(intro h;try conv=>whnf)|(apply cellsI;rfl)|(apply szI;rfl)|(refine PureFn.dy hFf rfl ?_;try conv=>whnf)|(refine PureFn.dy hS2 rfl ?_;try conv=>whnf)|fail)
   ·exact app_big (n:=1000) hlf (by decide)
   ·rw[show (!sb)=true from h,cond_true] at hsn
    have hm:((List.range i).filter fun e=>!same (s.pre.getD e []) ffF).map i64++[i64 i]=((List.range (i+1)).filter fun e=>!same (s.pre.getD e []) ffF).map i64:=by rw[hsn,List.map_append];rfl
    refine⟨⟨i+1,hi'⟩,by show s.pre.length-(i+1)<s.pre.length-i;omega,?_⟩
    (refine Wk.of ?_ ?_ rfl rfl rfl<;>repeat' (first|exact trivial|exact WkD.same _|exact WkO.same _ _ rfl|exact WkD.eq (congrArg (fun z:List PV=>DV.buf _ z.length) hm)|exact WkO.same _ _ (congrArg (fun z=>some (DObj.arr _ z)) hm)|refine WkD.int ?_|refine⟨?_,?_⟩|(refine wrapA ?_ ?_ ?_;(focus simp;done);(focus (try dsimp only);omega);(focus (try dsimp only);omega))|fail))
   ·rw[show (!sb)=false from h,cond_false] at hsn
    have hm:((List.range i).filter fun e=>!same (s.pre.getD e []) ffF).map i64=((List.range (i+1)).filter fun e=>!same (s.pre.getD e []) ffF).map i64:=by rw[hsn]
    refine⟨⟨i+1,hi'⟩,by show s.pre.length-(i+1)<s.pre.length-i;omega,?_⟩
    (refine Wk.of ?_ ?_ rfl rfl rfl<;>repeat' (first|exact trivial|exact WkD.same _|exact WkO.same _ _ rfl|exact WkD.eq (congrArg (fun z:List PV=>DV.buf _ z.length) hm)|exact WkO.same _ _ (congrArg (fun z=>some (DObj.arr _ z)) hm)|refine WkD.int ?_|refine⟨?_,?_⟩|(refine wrapA ?_ ?_ ?_;(focus simp;done);(focus (try dsimp only);omega);(focus (try dsimp only);omega))|fail))
  ·have hi':i=s.pre.length:=by have:=ge_dec (m:=(s.pre.map fpv).length) h (by simpa using hi);simpa using this
   subst hi'
   rw[hevs]
   exact⟨(),(by refine Wk.of ?_ ?_ rfl rfl rfl<;>repeat' (first|exact trivial|exact WkD.same _|exact WkO.same _ _ rfl|exact WkD.fz _ _ _ rfl (Or.inl ⟨_,rfl⟩) rfl|refine⟨?_,?_⟩|fail))⟩
 rintro⟨⟩
 have e1:((evs.map i64).length:Int)=(evs.length:Int):=by simp
 refine⟨{ _x:Unit // 0<evs.length },fun _=>[(1,.ref 0 0),(2,.ref 1 0),(6,.ref 2 0),(7,.pv (intsPV evs))],fun _=>3,fun _=>[(0,.var (cellsA a)),(1,.var cellsZ),(2,.var (cellsA s))],?_,?_⟩
 ·(try conv=>whnf);repeat' (first|(apply And.intro<;>try conv=>whnf)|(intro h;try conv=>whnf)|fail)
  ·rw[show ((evs.length:Int)==0)=true by rw[← e1];exact h]
   exact le_sfNo _
  ·refine⟨⟨(),?_⟩,(by exact Wk.sm rfl rfl rfl rfl rfl)⟩
   have h2:(((evs.map i64).length:Int)==0)=false:=h
   rw[e1] at h2
   have:¬ (evs.length:Int)=0:=by simpa using h2
   omega
 rintro⟨_,hpos⟩
 have e0:((evs.length:Int)==0)=false:=by
  have:¬ (evs.length:Int)=0:=by omega
  simpa using this
 rw[e0,cond_false]
 have hKp:=cp_keep s s.pre.length hS evs hem hev8
 have hK:=keep_shp hS evs hev8
 have hKpo:=keep_post (ws:=evs) hSp
 have hkp:(keepA s evs).pre.length=evs.length:=hK.pre
 clear e0 e1
 generalize keepA s evs=k at *
 have hK2:Shp k k.pre.length:=by rw[hkp];exact hK
 have hAl:=cp_alike k k hK2 hK2 rfl hKpo (by omega)
 have hTb:Tab (alkI k k (tab0 k k)) evs.length evs.length:=by
  have:=alk_tab k k
  rwa [hkp] at this
 refine⟨Unit,fun _=>[(1,.ref 0 0),(2,.ref 1 0),(6,.ref 2 0),(7,.pv (intsPV evs))],fun _=>3,fun _=>[(0,.var (cellsA a)),(1,.var cellsZ),(2,.var (cellsA k))],?_,?_⟩
 ·(try conv=>whnf);repeat' (first|(refine PureFn.dy hKp rfl ?_;try conv=>whnf)|fail)
  exact⟨(),(by exact Wk.sm rfl rfl rfl rfl rfl)⟩
 rintro⟨⟩
 generalize alkI k k (tab0 k k)=Z at *
 refine⟨Unit,fun _=>[(1,.ref 0 0),(2,.ref 1 0),(6,.ref 2 0),(7,.pv (intsPV evs)),(10,.pv (tabPV Z))],fun _=>3,fun _=>[(0,.var (cellsA a)),(1,.var cellsZ),(2,.var (cellsA k))],?_,?_⟩
 ·(try conv=>whnf);repeat' (first|(refine PureFn.dy hAl rfl ?_;try conv=>whnf)|fail)
  exact⟨(),(by exact Wk.sm rfl rfl rfl rfl rfl)⟩
 rintro⟨⟩
 have hN:((evs.map i64).length:Int).toNat=evs.length:=by rw[List.length_map];rfl
 have hz1:List.replicate ((evs.map i64).length:Int).toNat (PV.int .i64 0)=mixV evs.length (fun e=>i64 (fsN Z e)) (fun _=>i64 0) 0:=by rw[hN];exact mixV_rep _ _ _
 have hbig:((evs.map i64).length:Int)≤(big:Int):=by
  show ((evs.map i64).length:Int)≤4294967296
  rw[List.length_map];omega
 have hml:=mixV_len evs.length (fun e=>i64 (fsN Z e)) (fun _=>i64 0)
 refine⟨Unit,fun _=>[(1,.ref 0 0),(2,.ref 1 0),(6,.ref 2 0),(7,.pv (intsPV evs)),(10,.pv (tabPV Z)),(11,.ref 4 0)],fun _=>5,fun _=>[(0,.var (cellsA a)),(1,.var cellsZ),(2,.var (cellsA k)),(3,.arr 1 (mixV evs.length (fun e=>i64 (fsN Z e)) (fun _=>i64 0) 0)),(4,.var [.buf 3 (mixV evs.length (fun e=>i64 (fsN Z e)) (fun _=>i64 0) 0).length])],?_,?_⟩
 ·(try conv=>whnf);repeat' (first|(apply And.intro<;>try conv=>whnf)|(apply Or.inl;try conv=>whnf)|fail)
  ·rfl
  ·exact Int.natCast_nonneg _
  ·exact hbig
  refine⟨(),?_⟩
  (refine Wk.of ?_ ?_ rfl rfl rfl<;>repeat' (first|exact trivial|exact WkD.same _|exact WkO.same _ _ rfl|exact WkD.eq (congrArg (fun z:List PV=>DV.buf _ z.length) hz1)|exact WkO.same _ _ (congrArg (fun z=>some (DObj.arr _ z)) hz1)|refine WkO.vars rfl ?_|refine⟨?_,?_⟩|fail))
 rintro⟨⟩
 clear hz1 hN hbig
 obtain⟨fl,hfl⟩:∃ fl:List Nat,fl=(List.range evs.length).map (fsN Z):=⟨_,rfl⟩
 obtain⟨kl,hkl0⟩:∃ kl:List Nat,kl=keptL Z evs.length:=⟨_,rfl⟩
 have hfm:mixV evs.length (fun e=>i64 (fsN Z e)) (fun _=>i64 0) evs.length=fl.map i64:=by rw[mixV_full,hfl,List.map_map];rfl
 try conv=>whnf
 refine⟨Unit,fun _=>[(1,.ref 0 0),(2,.ref 1 0),(6,.ref 2 0),(7,.pv (intsPV evs)),(11,.ref 4 0),(12,.ref 5 0)],fun _=>6,fun _=>[(0,.var (cellsA a)),(1,.var cellsZ),(2,.var (cellsA k)),(4,.var [.pv (.sl (mixV evs.length (fun e=>i64 (fsN Z e)) (fun _=>i64 0) evs.length))]),(5,.var [.pv (.sl ((keptL Z evs.length).map i64))])],?_,?_⟩
 ·try conv=>whnf
  refine⟨{ e:Nat // e≤evs.length },fun e=>[(1,.ref 0 0),(2,.ref 1 0),(6,.ref 2 0),(7,.pv (intsPV evs)),(10,.pv (tabPV Z)),(11,.ref 4 0),(12,.ref 5 0),(66,.pv (i64 evs.length)),(67,.pv (i64 e.1))],fun _=>7,fun e=>[(0,.var (cellsA a)),(1,.var cellsZ),(2,.var (cellsA k)),(3,.arr 1 (mixV evs.length (fun e=>i64 (fsN Z e)) (fun _=>i64 0) e.1)),(4,.var [.buf 3 (mixV evs.length (fun e=>i64 (fsN Z e)) (fun _=>i64 0) e.1).length]),(5,.var [.buf 6 ((keptL Z e.1).map i64).length]),(6,.arr 1 ((keptL Z e.1).map i64))],fun e=>evs.length-e.1,⟨⟨0,Nat.zero_le _⟩,?_⟩,?_⟩
  ·(refine Wk.of ?_ ?_ rfl rfl rfl<;>repeat' (first|exact trivial|exact WkD.same _|exact WkO.same _ _ rfl|refine WkD.int ?_|exact WkD.new' rfl rfl rfl|exact WkO.new _ _ rfl|refine WkO.vars rfl ?_|exact rfl|refine⟨?_,?_⟩|fail))
   exact congrArg (fun z:Nat=>(z:Int)) (hml 0)
  rintro⟨e,he⟩
  have hme:=hml e
  have hme1:=hml (e+1)
  (try conv=>whnf);repeat' (first|(apply And.intro<;>try conv=>whnf)|(intro h;try conv=>whnf)|fail)
  ·have he':e<evs.length:=by
    have h2:decide ((e:Int)<((evs.length:Nat):Int))=true:=by assumption
    have:=of_decide_eq_true h2
    omega
   obtain⟨f1,f2⟩:=hF e he'
   have hrow:Z[e]? = some (Z.getD e []):=getD_mem (by rw[hTb.len];exact he')
   have hrl:=hTb.row _ (List.mem_iff_getElem?.2 ⟨_,hrow⟩)
   have hIx:=sl_IndexB (Z.getD e []) (by omega)
   have htr:true∈Z.getD e []:=List.idxOf_lt_length_iff.1 (by rw[hrl];exact f1)
   rw[ixB,if_pos htr] at hIx
   have hIx:PureFn Tryz.prog 56 [rowB (Z.getD e []),.bool true] (i64 (fsN Z e)):=hIx
   have hst:=mixV_set (n:=evs.length) (p:=fun e=>i64 (fsN Z e)) (q:=fun _=>i64 0) (e:=e)
   have hnew:=mixV_new (n:=evs.length) (p:=fun e=>i64 (fsN Z e)) (q:=fun _=>i64 0) (e:=e+1) he' (Nat.lt_succ_self e)
   have hsn:keptL Z (e+1)=bif fsN Z e==e then keptL Z e++[e] else keptL Z e:=filt_snoc (p:=fun e=>fsN Z e==e) e
   have hlk:((keptL Z e).map i64).length≤1000:=by
    have:=kept_len Z e
    rw[List.length_map];omega
   have hix:=idx_map (g:=rowB) hrow
   generalize Z.getD e []=row at hIx hix hrow
   refine⟨Unit,fun _=>[(1,.ref 0 0),(2,.ref 1 0),(6,.ref 2 0),(7,.pv (intsPV evs)),(10,.pv (tabPV Z)),(11,.ref 4 0),(12,.ref 5 0),(13,.pv (i64 e)),(66,.pv (i64 evs.length)),(67,.pv (i64 e))],fun _=>7,fun _=>[(0,.var (cellsA a)),(1,.var cellsZ),(2,.var (cellsA k)),(3,.arr 1 (mixV evs.length (fun e=>i64 (fsN Z e)) (fun _=>i64 0) (e+1))),(4,.var [.buf 3 (mixV evs.length (fun e=>i64 (fsN Z e)) (fun _=>i64 0) (e+1)).length]),(5,.var [.buf 6 ((keptL Z e).map i64).length]),(6,.arr 1 ((keptL Z e).map i64))],?_,?_⟩
   ·try conv=>whnf
    refine⟨Plan.lin 0 9,[8],by kernel_rfl,?_⟩
    (try conv=>whnf);repeat' (first|(apply And.intro<;>try conv=>whnf)|(apply infoT;rfl)|(refine⟨_,_,rfl,idx_map (by with_reducible assumption),rfl,?_⟩;try conv=>whnf)|(refine⟨_,(by (conv=>whnf);exact hIx),rfl,?_⟩;try conv=>whnf)|fail)
    refine⟨e,rfl,by rw[hme];exact he',?_⟩
    (try conv=>whnf);repeat' (first|(apply And.intro<;>try conv=>whnf)|fail)
    refine⟨_,mixV_old he',Nat.le_refl 1,?_⟩
    try conv=>whnf
    refine⟨(),?_⟩
    (refine Wk.of ?_ ?_ rfl rfl rfl<;>repeat' (first|exact trivial|exact WkD.same _|exact WkO.same _ _ rfl|refine WkO.vars rfl ?_|refine⟨?_,?_⟩|fail))
    ·exact WkO.same _ _ (congrArg (fun z=>some (DObj.arr 1 z)) hst)
    ·exact WkD.eq (congrArg (DV.buf 3) (hme.trans hme1.symm))
   rintro⟨⟩
   (try conv=>whnf);repeat' (first|(apply And.intro<;>try conv=>whnf)|fail)
   refine⟨e,rfl,by rw[hme1];exact he',?_⟩
   (try conv=>whnf);repeat' (first|(apply And.intro<;>try conv=>whnf)|(intro h;try conv=>whnf)|(apply cellsI;rfl)|(apply szI;rfl)|(apply ex2;(focus with_reducible assumption);try conv=>whnf)|fail)
   ·exact app_big (n:=1000) hlk (by decide)
   ·have hb:(fsN Z e==e)=true:=by
     have h2:(((fsN Z e:Nat):Int)==(e:Int))=true:=h
     have h3:((fsN Z e:Nat):Int)=(e:Int):=by simpa using h2
     rw[show fsN Z e=e by omega];simp
    rw[hb,cond_true] at hsn
    have hm:(keptL Z e).map i64++[i64 e]=(keptL Z (e+1)).map i64:=by rw[hsn,List.map_append];rfl
    refine⟨⟨e+1,he'⟩,by show evs.length-(e+1)<evs.length-e;omega,?_⟩
    (refine Wk.of ?_ ?_ rfl rfl rfl<;>repeat' (first|exact trivial|exact WkD.same _|exact WkO.same _ _ rfl|exact WkD.eq (congrArg (fun z:List PV=>DV.buf _ z.length) hm)|exact WkO.same _ _ (congrArg (fun z=>some (DObj.arr _ z)) hm)|refine WkD.int ?_|refine WkO.vars rfl ?_|refine⟨?_,?_⟩|(refine wrapA ?_ ?_ ?_;(focus simp;done);(focus (try dsimp only);omega);(focus (try dsimp only);omega))|fail))
   ·have hb:(fsN Z e==e)=false:=by
     have h2:(((fsN Z e:Nat):Int)==(e:Int))=false:=h
     have h3:¬ ((fsN Z e:Nat):Int)=(e:Int):=by simpa using h2
     simp;omega
    rw[hb,cond_false] at hsn
    have hm:(keptL Z e).map i64=(keptL Z (e+1)).map i64:=by rw[hsn]
    refine⟨⟨e+1,he'⟩,by show evs.length-(e+1)<evs.length-e;omega,?_⟩
    (refine Wk.of ?_ ?_ rfl rfl rfl<;>repeat' (first|exact trivial|exact WkD.same _|exact WkO.same _ _ rfl|exact WkD.eq (congrArg (fun z:List PV=>DV.buf _ z.length) hm)|exact WkO.same _ _ (congrArg (fun z=>some (DObj.arr _ z)) hm)|refine WkD.int ?_|refine WkO.vars rfl ?_|refine⟨?_,?_⟩|(refine wrapA ?_ ?_ ?_;(focus simp;done);(focus (try dsimp only);omega);(focus (try dsimp only);omega))|fail))
  ·have he':e=evs.length:=by
    have h2:decide ((e:Int)<((evs.length:Nat):Int))=false:=by assumption
    have:=of_decide_eq_false h2
    omega
   subst he'
   exact⟨(),(by refine Wk.of ?_ ?_ rfl rfl rfl<;>repeat' (first|exact trivial|exact WkD.same _|exact WkO.same _ _ rfl|exact WkD.fz _ _ _ rfl (Or.inl ⟨_,rfl⟩) rfl|refine WkO.vars rfl ?_|refine⟨?_,?_⟩|fail))⟩
 rintro⟨⟩
 rw[hfm,← hkl0]
 clear hfm hml
 have hkl:kl.length≤8:=by rw[hkl0];exact Nat.le_trans (kept_len _ _) hev8
 have hkm:∀ w,w∈kl→w<k.pre.length:=fun w h=>by rw[hkp];exact kept_mem (by rw[← hkl0];exact h)
 have hkl1:kl.length≤1000:=by omega
 obtain⟨V,hV⟩:∃ V:List PV,V=((kl.take kl.length).map fun w=>k.pre.getD w []).map fpv:=⟨_,rfl⟩
 obtain⟨W,hW⟩:∃ W:List PV,W=((kl.take kl.length).map fun w=>k.post.getD w []).map postPV:=⟨_,rfl⟩
 try conv=>whnf
 refine⟨Unit,fun _=>[(1,.ref 0 0),(2,.ref 1 0),(6,.ref 2 0),(7,.pv (intsPV evs)),(12,.ref 5 0),(14,.clo 57 [] [.ref 5 0,.ref 4 0]),(15,.ref 6 0)],fun _=>7,fun _=>[(0,.var (cellsA a)),(1,.var cellsZ),(2,.var (cellsA k)),(4,.var [.pv (intsPV fl)]),(5,.var [.pv (intsPV kl)]),(6,.var [.pv (.sl (((kl.take kl.length).map fun w=>k.pre.getD w []).map fpv)),.pv (.sl (((kl.take kl.length).map fun w=>k.post.getD w []).map postPV)),.pv .nil])],?_,?_⟩
 ·try conv=>whnf
  refine⟨{ i:Nat // i≤kl.length },fun i=>[(1,.ref 0 0),(2,.ref 1 0),(6,.ref 2 0),(7,.pv (intsPV evs)),(12,.ref 5 0),(14,.clo 57 [] [.ref 5 0,.ref 4 0]),(15,.ref 6 0),(90,.pv (intsPV kl)),(91,.pv (i64 (kl.map i64).length)),(92,.pv (i64 i.1))],fun _=>9,fun i=>[(0,.var (cellsA a)),(1,.var cellsZ),(2,.var (cellsA k)),(4,.var [.pv (intsPV fl)]),(5,.var [.pv (intsPV kl)]),(6,.var [.buf 7 (((kl.take i.1).map fun w=>k.pre.getD w []).map fpv).length,.buf 8 (((kl.take i.1).map fun w=>k.post.getD w []).map postPV).length,.pv .nil]),(7,.arr 1 (((kl.take i.1).map fun w=>k.pre.getD w []).map fpv)),(8,.arr 1 (((kl.take i.1).map fun w=>k.post.getD w []).map postPV))],fun i=>kl.length-i.1,⟨⟨0,Nat.zero_le _⟩,(by refine Wk.of ?_ ?_ rfl rfl rfl<;>repeat' (first|exact trivial|exact WkD.same _|exact WkO.same _ _ rfl|exact WkD.new' rfl rfl rfl|exact WkO.new _ _ rfl|refine WkO.vars rfl ?_|exact rfl|refine⟨?_,?_⟩|fail))⟩,?_⟩
  rintro⟨i,hi⟩
  (try conv=>whnf);repeat' (first|(apply And.intro<;>try conv=>whnf)|(intro h;try conv=>whnf)|(apply infoT;rfl)|fail)
  ·have hi':i<kl.length:=by simpa using lt_dec h
   obtain⟨w,hx⟩:∃ y,kl[i]? = some y:=⟨_,List.getElem?_eq_getElem hi'⟩
   have hwn:=hkm w (List.mem_iff_getElem?.2 ⟨_,hx⟩)
   obtain⟨p,hp⟩:∃ p,k.pre[w]? = some p:=⟨_,List.getElem?_eq_getElem hwn⟩
   obtain⟨q,hq⟩:∃ q,k.post[w]? = some q:=⟨_,List.getElem?_eq_getElem (by rw[hK2.post];exact hwn)⟩
   have hpd:k.pre.getD w []=p:=by rw[List.getD_eq_getElem?_getD,hp];rfl
   have hqd:k.post.getD w []=q:=by rw[List.getD_eq_getElem?_getD,hq];rfl
   have hixq:=idx_map (g:=postPV) hq
   have hixp:=idx_map (g:=fpv) hp
   have hs1:(((kl.take i).map fun w=>k.pre.getD w []).map fpv).length≤1000:=by simp;omega
   have hs2:(((kl.take i).map fun w=>k.post.getD w []).map postPV).length≤1000:=by simp;omega
   have e5:((kl.take i).map fun w=>k.pre.getD w []).map fpv++[fpv p]=((kl.take (i+1)).map fun w=>k.pre.getD w []).map fpv:=by
    rw[List.take_add_one,hx,List.map_append,List.map_append,← hpd];rfl
   have e6:((kl.take i).map fun w=>k.post.getD w []).map postPV++[postPV q]=((kl.take (i+1)).map fun w=>k.post.getD w []).map postPV:=by
    rw[List.take_add_one,hx,List.map_append,List.map_append,← hqd];rfl
   refine⟨_,_,rfl,idx_map hx,rfl,?_⟩
   try conv=>whnf
   refine⟨Plan.ofL [0,1,2,3,4,5,6,7,9,10,11,12,13,14,15,16,8,18,17,19,20,21],[19,21,1008,1017,2009,2010,2011,2012,2014,2015,2018],by kernel_rfl,?_⟩
   (try conv=>whnf);repeat' (first|(apply And.intro<;>try conv=>whnf)|(intro h;try conv=>whnf)|(apply infoT;rfl)|(apply cellsI;rfl)|(apply szI;rfl)|(refine⟨_,_,rfl,idx_map (by with_reducible assumption),rfl,?_⟩;try conv=>whnf)|fail)
   ·exact app_big (n:=1000) hs1 (by decide)
   ·exact ExtV.put (k:=7) (fun cs h=>by cases h) _ _ h
   ·exact app_big (n:=1000) hs2 (by decide)
   ·exact ExtV.put (k:=8) (fun cs h=>by cases h) _ _ h
   ·refine⟨⟨i+1,hi'⟩,by show kl.length-(i+1)<kl.length-i;omega,?_⟩
    (refine Wk.of ?_ ?_ rfl rfl rfl<;>repeat' (first|exact trivial|exact WkD.same _|exact WkO.same _ _ rfl|exact WkD.eq (congrArg (fun z:List PV=>DV.buf _ z.length) e5)|exact WkO.same _ _ (congrArg (fun z=>some (DObj.arr _ z)) e5)|exact WkD.eq (congrArg (fun z:List PV=>DV.buf _ z.length) e6)|exact WkO.same _ _ (congrArg (fun z=>some (DObj.arr _ z)) e6)|refine WkD.int ?_|refine WkO.vars rfl ?_|refine⟨?_,?_⟩|(refine wrapA ?_ ?_ ?_;(focus simp;done);(focus (try dsimp only);omega);(focus (try dsimp only);omega))|fail))
  ·have hi':i=kl.length:=by have:=ge_dec (m:=(kl.map i64).length) h (by simpa using hi);simpa using this
   subst hi'
   exact⟨(),(by refine Wk.of ?_ ?_ rfl rfl rfl<;>repeat' (first|exact trivial|exact WkD.same _|exact WkO.same _ _ rfl|exact WkD.fz _ _ _ rfl (Or.inl ⟨_,rfl⟩) rfl|refine WkO.vars rfl ?_|refine⟨?_,?_⟩|fail))⟩
 rintro⟨⟩
 rw[← hV,← hW]
 obtain⟨rq,hrq⟩:∃ rq:List Nat→List Nat,rq=relQ Z evs.length:=⟨_,rfl⟩
 obtain⟨pl,hpl⟩:∃ pl:Nat→Nat,pl=fun e=>kl.idxOf (fsN Z e):=⟨_,rfl⟩
 have hplN:plN Z evs.length=pl:=by rw[hpl];funext e;rw[plN,← hkl0]
 have hp8:∀ f,f<evs.length→pl f<kl.length:=fun f hf=>by rw[← hplN,hkl0];exact hF.pl hf
 have hfl2:∀ e,e<evs.length→fl[e]? = some (fsN Z e):=fun e he=>by rw[hfl,List.getElem?_map,List.getElem?_range he];rfl
 have hmk:∀ e,e<evs.length→fsN Z e∈kl:=fun e he=>by rw[hkl0];exact hF.mem he
 have hrqe:∀ r,rq r=allQ r pl evs.length evs.length (List.replicate kl.length 0):=fun r=>by rw[hrq,relQ,hplN,← hkl0]
 have hag:=hK2.ag
 refine⟨Unit,fun _=>[(1,.ref 0 0),(2,.ref 1 0),(7,.pv (intsPV evs)),(14,.clo 57 [] [.ref 5 0,.ref 4 0]),(15,.ref 6 0)],fun _=>7,fun _=>[(0,.var (cellsA a)),(1,.var cellsZ),(2,.var (cellsA k)),(4,.var [.pv (intsPV fl)]),(5,.var [.pv (intsPV kl)]),(6,.var [.pv (.sl V),.pv (.sl W),.pv (.sl (((k.rel.take k.rel.length).map rq).map rowPV))])],?_,?_⟩
 ·try conv=>whnf
  refine⟨{ i:Nat // i≤k.rel.length },fun i=>[(1,.ref 0 0),(2,.ref 1 0),(7,.pv (intsPV evs)),(12,.ref 5 0),(14,.clo 57 [] [.ref 5 0,.ref 4 0]),(15,.ref 6 0),(118,.pv (.sl (k.rel.map rowPV))),(119,.pv (i64 (k.rel.map rowPV).length)),(120,.pv (i64 i.1))],fun _=>8,fun i=>[(0,.var (cellsA a)),(1,.var cellsZ),(2,.var (cellsA k)),(4,.var [.pv (intsPV fl)]),(5,.var [.pv (intsPV kl)]),(6,.var [.pv (.sl V),.pv (.sl W),.buf 7 (((k.rel.take i.1).map rq).map rowPV).length]),(7,.arr 1 (((k.rel.take i.1).map rq).map rowPV))],fun i=>k.rel.length-i.1,⟨⟨0,Nat.zero_le _⟩,(by refine Wk.of ?_ ?_ rfl rfl rfl<;>repeat' (first|exact trivial|exact WkD.same _|exact WkO.same _ _ rfl|exact WkD.new' rfl rfl rfl|exact WkO.new _ _ rfl|refine WkO.vars rfl ?_|exact rfl|refine⟨?_,?_⟩|fail))⟩,?_⟩
  rintro⟨i,hi⟩
  (try conv=>whnf);repeat' (first|(apply And.intro<;>try conv=>whnf)|(intro h;try conv=>whnf)|(apply infoT;rfl)|fail)
  ·have hi':i<k.rel.length:=by simpa using lt_dec h
   obtain⟨r,hx⟩:∃ y,k.rel[i]? = some y:=⟨_,List.getElem?_eq_getElem hi'⟩
   have hrm:=List.mem_iff_getElem?.2 ⟨_,hx⟩
   have hrl:r.length=evs.length:=by rw[hK2.rows r hrm,hkp]
   have hr64:∀ s,s∈r→s<2^64:=fun s hs=>Nat.lt_of_lt_of_le (hK2.bits r hrm s hs) (Nat.pow_le_pow_right (by decide) (by omega))
   have ht:=take_map (f:=rq) hx
   have hvsl:(((k.rel.take i).map rq).map rowPV).length≤1000:=by simp;omega
   have er:((k.rel.take i).map rq).map rowPV++[rowPV (rq r)]=((k.rel.take (i+1)).map rq).map rowPV:=by rw[ht,List.map_append];rfl
   have hN:((kl.map i64).length:Int).toNat=kl.length:=by rw[List.length_map];rfl
   have hz1:List.replicate ((kl.map i64).length:Int).toNat (PV.int .u64 0)=(allQ r pl evs.length 0 (List.replicate kl.length 0)).map u64:=by rw[hN,allQ,List.map_replicate];rfl
   have hbig:((kl.map i64).length:Int)≤(big:Int):=by
    show ((kl.map i64).length:Int)≤4294967296
    rw[List.length_map];omega
   refine⟨_,_,rfl,idx_map hx,rfl,?_⟩
   try conv=>whnf
   refine⟨Unit,fun _=>[(1,.ref 0 0),(2,.ref 1 0),(7,.pv (intsPV evs)),(12,.ref 5 0),(14,.clo 57 [] [.ref 5 0,.ref 4 0]),(15,.ref 6 0),(19,.pv (rowPV r)),(20,.buf 8 ((allQ r pl evs.length 0 (List.replicate kl.length 0)).map u64).length),(118,.pv (.sl (k.rel.map rowPV))),(119,.pv (i64 (k.rel.map rowPV).length)),(120,.pv (i64 i))],fun _=>9,fun _=>[(0,.var (cellsA a)),(1,.var cellsZ),(2,.var (cellsA k)),(4,.var [.pv (intsPV fl)]),(5,.var [.pv (intsPV kl)]),(6,.var [.pv (.sl V),.pv (.sl W),.buf 7 (((k.rel.take i).map rq).map rowPV).length]),(7,.arr 1 (((k.rel.take i).map rq).map rowPV)),(8,.arr 1 ((allQ r pl evs.length 0 (List.replicate kl.length 0)).map u64))],?_,?_⟩
   ·(try conv=>whnf);repeat' (first|(apply And.intro<;>try conv=>whnf)|(apply Or.inl;try conv=>whnf)|fail)
    ·rfl
    ·exact Int.natCast_nonneg _
    ·exact hbig
    refine⟨(),?_⟩
    (refine Wk.of ?_ ?_ rfl rfl rfl<;>repeat' (first|exact trivial|exact WkD.same _|exact WkO.same _ _ rfl|exact WkD.eq (congrArg (fun z:List PV=>DV.buf _ z.length) hz1)|exact WkO.same _ _ (congrArg (fun z=>some (DObj.arr _ z)) hz1)|refine⟨?_,?_⟩|fail))
   rintro⟨⟩
   refine⟨Unit,fun _=>[(1,.ref 0 0),(2,.ref 1 0),(7,.pv (intsPV evs)),(12,.ref 5 0),(14,.clo 57 [] [.ref 5 0,.ref 4 0]),(15,.ref 6 0),(20,.buf 8 ((allQ r pl evs.length evs.length (List.replicate kl.length 0)).map u64).length),(118,.pv (.sl (k.rel.map rowPV))),(119,.pv (i64 (k.rel.map rowPV).length)),(120,.pv (i64 i))],fun _=>9,fun _=>[(0,.var (cellsA a)),(1,.var cellsZ),(2,.var (cellsA k)),(4,.var [.pv (intsPV fl)]),(5,.var [.pv (intsPV kl)]),(6,.var [.pv (.sl V),.pv (.sl W),.buf 7 (((k.rel.take i).map rq).map rowPV).length]),(7,.arr 1 (((k.rel.take i).map rq).map rowPV)),(8,.arr 1 ((allQ r pl evs.length evs.length (List.replicate kl.length 0)).map u64))],?_,?_⟩
   ·try conv=>whnf
    refine⟨{ e:Nat // e≤evs.length },fun e=>[(1,.ref 0 0),(2,.ref 1 0),(7,.pv (intsPV evs)),(12,.ref 5 0),(14,.clo 57 [] [.ref 5 0,.ref 4 0]),(15,.ref 6 0),(19,.pv (rowPV r)),(20,.buf 8 ((allQ r pl evs.length e.1 (List.replicate kl.length 0)).map u64).length),(118,.pv (.sl (k.rel.map rowPV))),(119,.pv (i64 (k.rel.map rowPV).length)),(120,.pv (i64 i)),(127,.pv (rowPV r)),(128,.pv (i64 (r.map u64).length)),(129,.pv (i64 e.1))],fun _=>9,fun e=>[(0,.var (cellsA a)),(1,.var cellsZ),(2,.var (cellsA k)),(4,.var [.pv (intsPV fl)]),(5,.var [.pv (intsPV kl)]),(6,.var [.pv (.sl V),.pv (.sl W),.buf 7 (((k.rel.take i).map rq).map rowPV).length]),(7,.arr 1 (((k.rel.take i).map rq).map rowPV)),(8,.arr 1 ((allQ r pl evs.length e.1 (List.replicate kl.length 0)).map u64))],fun e=>evs.length-e.1,⟨⟨0,Nat.zero_le _⟩,(by exact Wk.sm rfl rfl rfl rfl rfl)⟩,?_⟩
    rintro⟨e,he⟩
    (try conv=>whnf);repeat' (first|(apply And.intro<;>try conv=>whnf)|(intro h;try conv=>whnf)|(apply infoT;rfl)|fail)
    ·have he':e<evs.length:=by rw[← hrl];simpa using lt_dec h
     obtain⟨Qe,hQe⟩:∃ Qe,Qe=allQ r pl evs.length e (List.replicate kl.length 0):=⟨_,rfl⟩
     have hQn:allQ r pl evs.length (e+1) (List.replicate kl.length 0)=rowQ r pl e evs.length Qe:=by rw[allQ,hQe]
     have hQl:Qe.length=kl.length:=by rw[hQe,allQ_len,List.length_replicate]
     have hQu:Und8 Qe:=by rw[hQe];exact allQ_und (zer_und _) fun f hf=>by have:=hp8 f hf;omega
     have hq0:(allQ r pl evs.length e (List.replicate kl.length 0)).map u64=(rowQ r pl e 0 Qe).map u64:=by rw[hQe];rfl
     have hq1:(rowQ r pl e evs.length Qe).map u64=(allQ r pl evs.length (e+1) (List.replicate kl.length 0)).map u64:=by rw[hQn]
     have hre:r[e]? = some (r.getD e 0):=getD_mem (by omega)
     have hs64:=hr64 _ (List.mem_iff_getElem?.2 ⟨_,hre⟩)
     refine⟨_,_,rfl,idx_map hre,rfl,?_⟩
     try conv=>whnf
     refine⟨{ f:Nat // f≤evs.length },fun f=>[(1,.ref 0 0),(2,.ref 1 0),(7,.pv (intsPV evs)),(12,.ref 5 0),(14,.clo 57 [] [.ref 5 0,.ref 4 0]),(15,.ref 6 0),(19,.pv (rowPV r)),(20,.buf 8 ((rowQ r pl e f.1 Qe).map u64).length),(118,.pv (.sl (k.rel.map rowPV))),(119,.pv (i64 (k.rel.map rowPV).length)),(120,.pv (i64 i)),(127,.pv (rowPV r)),(128,.pv (i64 (r.map u64).length)),(129,.pv (i64 e)),(21,.pv (i64 e)),(22,.pv (u64 (r.getD e 0))),(135,.pv (i64 (r.map u64).length)),(136,.pv (i64 f.1))],fun _=>9,fun f=>[(0,.var (cellsA a)),(1,.var cellsZ),(2,.var (cellsA k)),(4,.var [.pv (intsPV fl)]),(5,.var [.pv (intsPV kl)]),(6,.var [.pv (.sl V),.pv (.sl W),.buf 7 (((k.rel.take i).map rq).map rowPV).length]),(7,.arr 1 (((k.rel.take i).map rq).map rowPV)),(8,.arr 1 ((rowQ r pl e f.1 Qe).map u64))],fun f=>evs.length-f.1,⟨⟨0,Nat.zero_le _⟩,(by refine Wk.of ?_ ?_ rfl rfl rfl<;>repeat' (first|exact trivial|exact WkD.same _|exact WkO.same _ _ rfl|exact WkD.eq (congrArg (fun z:List PV=>DV.buf _ z.length) hq0)|exact WkO.same _ _ (congrArg (fun z=>some (DObj.arr _ z)) hq0)|refine⟨?_,?_⟩|fail))⟩,?_⟩
     rintro⟨f,hf⟩
     (try conv=>whnf);repeat' (first|(apply And.intro<;>try conv=>whnf)|(intro h;try conv=>whnf)|fail)
     ·have hf':f<evs.length:=by rw[← hrl];simpa using lt_dec h
      obtain⟨Q,hQ⟩:∃ Q,Q=rowQ r pl e f Qe:=⟨_,rfl⟩
      have hQl2:Q.length=kl.length:=by rw[hQ,rowQ_len,hQl]
      have hQu2:Und8 Q:=by rw[hQ];exact rowQ_und hQu fun g hg=>by have:=hp8 g (by omega);omega
      obtain⟨ve,hve⟩:∃ ve,ve=fsN Z e:=⟨_,rfl⟩
      obtain⟨vf,hvf⟩:∃ vf,vf=fsN Z f:=⟨_,rfl⟩
      have hple:pl e=kl.idxOf ve:=by rw[hpl,hve]
      have hplf:pl f=kl.idxOf vf:=by rw[hpl,hvf]
      have hfe:fl[e]? = some ve:=by rw[hve];exact hfl2 e he'
      have hff:fl[f]? = some vf:=by rw[hvf];exact hfl2 f hf'
      have hme:ve∈kl:=by rw[hve];exact hmk e he'
      have hmf:vf∈kl:=by rw[hvf];exact hmk f hf'
      have hplt:kl.idxOf ve<Q.length:=by rw[hQl2,← hple];exact hp8 e he'
      have hpf8:kl.idxOf vf<8:=by rw[← hplf];have:=hp8 f hf';omega
      have hqd:=getD_mem (d:=0) hplt
      have hqe:=idx_map (g:=u64) hqd
      have hor:=or_place (x:=Q.getD (kl.idxOf ve) 0) (s:=r.getD e 0) (f:=f) (p:=kl.idxOf vf) (hQu2.get _) hs64 (by omega) hpf8
      have hQ2:rowQ r pl e (f+1) Qe=Q.set (kl.idxOf ve) (bif (r.getD e 0).testBit f then Q.getD (kl.idxOf ve) 0 |||2^kl.idxOf vf else Q.getD (kl.idxOf ve) 0):=by rw[rowQ,← hQ,stepQ,hple,hplf]
      have hplm:kl.idxOf ve<(Q.map u64).length:=by rw[List.length_map];exact hplt
      have hst:(Q.map u64).set (kl.idxOf ve) (PV.int .u64 (orU (Q.getD (kl.idxOf ve) 0:Nat) (shlU (andU (shrU (r.getD e 0:Nat) (f:Nat)) 1) (kl.idxOf vf:Nat))))=(rowQ r pl e (f+1) Qe).map u64:=by rw[hQ2,hor,List.map_set];rfl
      rw[hQ] at hqe hplm hst
      clear hQ2 hor
      have hls:((rowQ r pl e f Qe).map u64).length=((rowQ r pl e (f+1) Qe).map u64).length:=by rw[List.length_map,List.length_map,rowQ_len,rowQ_len]
      have hn1:=Int.natCast_nonneg f
      have hn2:=Int.natCast_nonneg (kl.idxOf vf)
      refine⟨planQ,[3,12,16],by kernel_rfl,?_⟩
      (try conv=>whnf);repeat' (first|(apply And.intro<;>try conv=>whnf)|exact Nat.le_refl 1|(apply ex2;(focus with_reducible assumption);try conv=>whnf)|(refine DC.callA (q:=.pv (i64 (kl.idxOf ve))) 6 (HPl a k fl kl) ⟨rfl,rfl,rfl,rfl,rfl,rfl,trivial⟩ rfl rfl rfl rfl (fun M' K' hK'=>clo_place a k fl kl e ve hfe hme hkl1 _ K' hK') ?_;try conv=>whnf)|(refine DC.callA (q:=.pv (i64 (kl.idxOf vf))) 6 (HPl a k fl kl) ⟨rfl,rfl,rfl,rfl,rfl,rfl,trivial⟩ rfl rfl rfl rfl (fun M' K' hK'=>clo_place a k fl kl f vf hff hmf hkl1 _ K' hK') ?_;try conv=>whnf)|(refine⟨kl.idxOf ve,rfl,hplm,?_⟩;try conv=>whnf)|fail)
      all_goals first
       |exact hn1
       |exact hn2
       |skip
      all_goals
       refine⟨⟨f+1,hf'⟩,by show evs.length-(f+1)<evs.length-f;omega,?_⟩
       (refine Wk.of ?_ ?_ rfl rfl rfl<;>repeat' (first|exact trivial|exact WkD.same _|exact WkO.same _ _ rfl|refine WkD.int ?_|refine⟨?_,?_⟩|(refine wrapA ?_ ?_ ?_;(focus simp;done);(focus (try dsimp only);omega);(focus (try dsimp only);omega))|fail))
       ·exact WkD.eq (congrArg (DV.buf 8) hls)
       ·exact WkO.same _ _ (congrArg (fun z=>some (DObj.arr 1 z)) hst)
     ·have hf':f=evs.length:=by have:=ge_dec (m:=(r.map u64).length) h (by simpa [hrl] using hf);simpa [hrl] using this
      subst hf'
      refine⟨⟨e+1,he'⟩,by show evs.length-(e+1)<evs.length-e;omega,?_⟩
      (refine Wk.of ?_ ?_ rfl rfl rfl<;>repeat' (first|exact trivial|exact WkD.same _|exact WkO.same _ _ rfl|exact WkD.eq (congrArg (fun z:List PV=>DV.buf _ z.length) hq1)|exact WkO.same _ _ (congrArg (fun z=>some (DObj.arr _ z)) hq1)|refine WkD.int ?_|refine⟨?_,?_⟩|(refine wrapA ?_ ?_ ?_;(focus simp;done);(focus (try dsimp only);omega);(focus (try dsimp only);omega))|fail))
    ·have he':e=evs.length:=by have:=ge_dec (m:=(r.map u64).length) h (by simpa [hrl] using he);simpa [hrl] using this
     subst he'
     exact⟨(),(by exact Wk.sm rfl rfl rfl rfl rfl)⟩
   rintro⟨⟩
   rw[← hrqe r]
   (try conv=>whnf);repeat' (first|(apply And.intro<;>try conv=>whnf)|(apply bleI;rfl)|(apply cellsI;rfl)|(apply szI;rfl)|fail)
   ·exact app_big (n:=1000) hvsl (by decide)
   ·refine⟨⟨i+1,hi'⟩,by show k.rel.length-(i+1)<k.rel.length-i;omega,?_⟩
    (refine Wk.of ?_ ?_ rfl rfl rfl<;>repeat' (first|exact trivial|exact WkD.same _|exact WkO.same _ _ rfl|exact WkD.eq (congrArg (fun z:List PV=>DV.buf _ z.length) er)|exact WkO.same _ _ (congrArg (fun z=>some (DObj.arr _ z)) er)|refine WkD.int ?_|refine WkO.vars rfl ?_|refine⟨?_,?_⟩|(refine wrapA ?_ ?_ ?_;(focus simp;done);(focus (try dsimp only);omega);(focus (try dsimp only);omega))|fail))
  ·have hi':i=k.rel.length:=by have:=ge_dec (m:=(k.rel.map rowPV).length) h (by simpa using hi);simpa using this
   subst hi'
   exact⟨(),(by refine Wk.of ?_ ?_ rfl rfl rfl<;>repeat' (first|exact trivial|exact WkD.same _|exact WkO.same _ _ rfl|exact WkD.fz _ _ _ rfl (Or.inl ⟨_,rfl⟩) rfl|refine WkO.vars rfl ?_|refine⟨?_,?_⟩|fail))⟩
 rintro⟨⟩
 have hR:sfP (sfB k Z evs.length,(List.range a.pre.length).map (sfN evs Z),0)=.tup [.agg [.sl V,.sl W,.sl (((k.rel.take k.rel.length).map rq).map rowPV)],.sl (((List.range a.pre.length).map (sfN evs Z)).map intI),.int .i64 0]:=by
  rw[hV,hW,hrq,List.take_length,List.take_length,hkl0];rfl
 rw[hR]
 clear hW hV hR
 generalize (((k.rel.take k.rel.length).map rq).map rowPV)=U
 obtain⟨sn,hsn⟩:∃ sn:Nat→Int,sn=sfN evs Z:=⟨_,rfl⟩
 rw[← hsn]
 have e9:((a.pre.map fpv).length:Int)=(a.pre.length:Int):=by simp
 try conv=>whnf
 refine⟨Unit,fun _=>[(2,.ref 1 0),(15,.ref 6 0),(24,.pv (.sl (((List.range a.pre.length).map sn).map intI)))],fun _=>7,fun _=>[(0,.var (cellsA a)),(1,.var cellsZ),(2,.var (cellsA k)),(4,.var [.pv (intsPV fl)]),(5,.var [.pv (intsPV kl)]),(6,.var [.pv (.sl V),.pv (.sl W),.pv (.sl U)])],?_,?_⟩
 ·try conv=>whnf
  refine⟨{ i:Nat // i≤a.pre.length },fun i=>[(2,.ref 1 0),(7,.pv (intsPV evs)),(14,.clo 57 [] [.ref 5 0,.ref 4 0]),(15,.ref 6 0),(24,.buf 7 (((List.range i.1).map sn).map intI).length),(166,.pv (i64 (a.pre.map fpv).length)),(167,.pv (i64 i.1))],fun _=>8,fun i=>[(0,.var (cellsA a)),(1,.var cellsZ),(2,.var (cellsA k)),(4,.var [.pv (intsPV fl)]),(5,.var [.pv (intsPV kl)]),(6,.var [.pv (.sl V),.pv (.sl W),.pv (.sl U)]),(7,.arr 1 (((List.range i.1).map sn).map intI))],fun i=>a.pre.length-i.1,⟨⟨0,Nat.zero_le _⟩,(by refine Wk.of ?_ ?_ rfl rfl rfl<;>repeat' (first|exact trivial|exact WkD.same _|exact WkO.same _ _ rfl|exact WkD.new' rfl rfl rfl|exact WkO.new _ _ rfl|exact rfl|refine⟨?_,?_⟩|fail))⟩,?_⟩
  rintro⟨i,hi⟩
  (try conv=>whnf);repeat' (first|(apply And.intro<;>try conv=>whnf)|(intro h;try conv=>whnf)|fail)
  ·have hi':i<a.pre.length:=by simpa using lt_dec h
   have hrn:((List.range i).map sn).map intI++[intI (sn i)]=((List.range (i+1)).map sn).map intI:=by rw[List.range_succ,List.map_append,List.map_append];rfl
   have hll:(((List.range i).map sn).map intI).length≤1000:=by simp;omega
   have hI:=sl_IndexN evs i (by omega)
   obtain⟨x,hx⟩:∃ x,ixN evs i=x:=⟨_,rfl⟩
   rw[hx] at hI
   (try conv=>whnf);repeat' (first|(refine PureFn.dy hI rfl ?_;try conv=>whnf)|fail)
   refine⟨Unit,fun _=>[(2,.ref 1 0),(7,.pv (intsPV evs)),(14,.clo 57 [] [.ref 5 0,.ref 4 0]),(15,.ref 6 0),(24,.buf 7 (((List.range i).map sn).map intI).length),(166,.pv (i64 (a.pre.map fpv).length)),(167,.pv (i64 i)),(26,.pv (intI (sn i)))],fun _=>8,fun _=>[(0,.var (cellsA a)),(1,.var cellsZ),(2,.var (cellsA k)),(4,.var [.pv (intsPV fl)]),(5,.var [.pv (intsPV kl)]),(6,.var [.pv (.sl V),.pv (.sl W),.pv (.sl U)]),(7,.arr 1 (((List.range i).map sn).map intI))],?_,?_⟩
   ·by_cases him:i∈evs
    ·rw[ixN,if_pos him] at hx
     have hsi:sn i=(pl (evs.idxOf i):Nat):=by rw[hsn,sfN,if_pos him,hplN]
     have hj:evs.idxOf i<evs.length:=List.idxOf_lt_length_iff.2 him
     generalize evs.idxOf i=j at hx hsi hj
     subst hx
     obtain⟨ve,hve⟩:∃ ve,ve=fsN Z j:=⟨_,rfl⟩
     have hplj:pl j=kl.idxOf ve:=by rw[hpl,hve]
     have hfe:fl[j]? = some ve:=by rw[hve];exact hfl2 j hj
     have hme:ve∈kl:=by rw[hve];exact hmk j hj
     rw[hplj] at hsi
     rw[hsi]
     (try conv=>whnf);repeat' (first|(apply And.intro<;>try conv=>whnf)|(intro h;try conv=>whnf)|(refine DC.callA (q:=.pv (i64 (kl.idxOf ve))) 6 (HPl a k fl kl) ⟨rfl,rfl,rfl,rfl,rfl,rfl,trivial⟩ rfl rfl rfl rfl (fun M' K' hK'=>clo_place a k fl kl j ve hfe hme hkl1 _ K' hK') ?_;try conv=>whnf)|fail)
     ·exact⟨(),(by exact Wk.sm rfl rfl rfl rfl rfl)⟩
     ·exfalso
      have h2:decide ((j:Int)≥0)=false:=h
      have:=of_decide_eq_false h2
      omega
    ·rw[ixN,if_neg him] at hx
     subst hx
     have hsi:sn i = -1:=by rw[hsn,sfN,if_neg him]
     rw[hsi]
     (try conv=>whnf);repeat' (first|(apply And.intro<;>try conv=>whnf)|(intro h;try conv=>whnf)|fail)
     ·cases h
     ·exact⟨(),(by exact Wk.sm rfl rfl rfl rfl rfl)⟩
   rintro⟨⟩
   (try conv=>whnf);repeat' (first|(apply And.intro<;>try conv=>whnf)|(apply cellsI;rfl)|(apply szI;rfl)|fail)
   ·exact app_big (n:=1000) hll (by decide)
   ·refine⟨⟨i+1,hi'⟩,by show a.pre.length-(i+1)<a.pre.length-i;omega,?_⟩
    (refine Wk.of ?_ ?_ rfl rfl rfl<;>repeat' (first|exact trivial|exact WkD.same _|exact WkO.same _ _ rfl|exact WkD.eq (congrArg (fun z:List PV=>DV.buf _ z.length) hrn)|exact WkO.same _ _ (congrArg (fun z=>some (DObj.arr _ z)) hrn)|refine WkD.int ?_|refine⟨?_,?_⟩|(refine wrapA ?_ ?_ ?_;(focus simp;done);(focus (try dsimp only);omega);(focus (try dsimp only);omega))|fail))
  ·have hi':i=a.pre.length:=by have:=ge_dec (m:=(a.pre.map fpv).length) h (by simpa using hi);simpa using this
   subst hi'
   exact⟨(),(by refine Wk.of ?_ ?_ rfl rfl rfl<;>repeat' (first|exact trivial|exact WkD.same _|exact WkO.same _ _ rfl|exact WkD.fz _ _ _ rfl (Or.inl ⟨_,rfl⟩) rfl|refine⟨?_,?_⟩|fail))⟩
 rintro⟨⟩
 try conv=>whnf
 exact .refl _
def evP (z:Act×Int):PV:=.agg [.sl (z.1.pre.map fpv),.sl (z.1.post.map postPV),.sl (z.1.rel.map rowPV),.int .i64 z.2]
def cellsE (z:Act×Int):List DV:=[.pv (.sl (z.1.pre.map fpv)),.pv (.sl (z.1.post.map postPV)),.pv (.sl (z.1.rel.map rowPV)),.pv (.int .i64 z.2)]
def firE {α:Type} (g:α→Int):List α→Int
 | []=>0
 |z::r=>bif g z != 0 then g z else firE g r
theorem firE_drop {α:Type} (g:α→Int) {l:List α} {i:Nat} {z:α} (h:l[i]? = some z):firE g (l.drop i)=bif g z != 0 then g z else firE g (l.drop (i+1)):=by
 obtain⟨q1,q2⟩:=List.getElem?_eq_some_iff.1 h
 rw[List.drop_eq_getElem_cons q1,q2];rfl
theorem firE_zero {α:Type} {g:α→Int}:∀ {l:List α},firE g l=0→∀ z,z∈l→g z=0
 |y::r,h,z,hz=>by
  rw[firE] at h
  cases hb:(g y != 0) with
  |true=>rw[hb] at h;have:g y=0:=h;rw[this] at hb;cases hb
  |false =>
   rw[hb] at h
   rcases List.mem_cons.1 hz with rfl|hz
   ·simpa using hb
   ·exact firE_zero (show firE g r=0 from h) z hz
def g1D (m:Mo) (z:Act×Int):Int:=actI z.1 (m.rel.length:Int) (m.val.length:Int)
def g2D (z:Act×Int):Int:=bif badEv z.1 z.2 then 6 else 0
def g3D (m:Mo) (z:Act×Int):Int:=bif (updI m z.1).2.2==8 then 8 else 0
def difG (m:Mo) (l:List (Act×Int)):Int:=bif moI m != 0 then moI m else bif firE (g1D m) l != 0 then firE (g1D m) l else bif firE g2D l != 0 then firE g2D l else firE (g3D m) l
def preS (m:Mo) (z:Act×Int):Nat:=possP m z.1 z.2.toNat
def difW (m:Mo) (x y:Act×Int) (B:Nat→Bool) (w:Nat):Bool:=bif (preS m x).testBit w != (preS m y).testBit w then true else bif (preS m x).testBit w then !B w else false
def firW (p:Nat→Bool) (n:Nat):Int:=match (List.range n).find? p with
 |some w=>(w:Int)
 |none => -1
theorem firW_yes {p:Nat→Bool} {n w:Nat} (hw:w<n) (hp:p w=true) (h:∀ v,v<w→p v=false):firW p n=(w:Int):=by
 have:(List.range n).find? p=some w:=by
  rw[List.find?_range_eq_some]
  exact⟨hp,List.mem_range.2 hw,fun j hj=>by rw[h j hj];rfl⟩
 rw[firW,this]
theorem firW_no {p:Nat→Bool} {n:Nat} (h:∀ v,v<n→p v=false):firW p n = -1:=by
 have:(List.range n).find? p=none:=List.find?_eq_none.2 fun x hx=>by rw[h x (List.mem_range.1 hx)];simp
 rw[firW,this]
def difI (m:Mo) (x y:Act×Int) (B:Nat→Bool):Int×Int:=bif difG m [x,y] != 0 then (0,difG m [x,y]) else (firW (difW m x y B) m.n.toNat,0)
def difP (z:Int×Int):PV:=.tup [.int .i64 z.1,.int .i64 z.2]
theorem cp_Differ (m:Mo) (x y:Act×Int) (hf:FitM m) (hSx:SmX x.1) (hSy:SmX y.1) (B:Nat→Bool)
  (hB:difG m [x,y]=0→∀ w,w<m.n.toNat→(preS m x).testBit w=true→(preS m y).testBit w=true→∃ c:Int,PureFn Tryz.prog 42 [(atI m w x.1 x.2).1.pv,.int .i64 (atI m w x.1 x.2).2.1,(atI m w y.1 y.2).1.pv,.int .i64 (atI m w y.1 y.2).2.1] (.tup [.bool (B w),.int .i64 c])) :
  PureFn Tryz.prog 14 [m.pv,evP x,evP y] (difP (difI m x y B)):=by
 have hM:=md_Check m hf
 obtain⟨l,hl⟩:∃ l,l=[x,y]:=⟨_,rfl⟩
 have hS:∀ z,z∈l→SmX z.1:=fun z hz=>by
  rw[hl] at hz
  rcases List.mem_cons.1 hz with rfl|hz
  ·exact hSx
  ·rw[List.mem_singleton.1 hz];exact hSy
 have hll:l.length=2:=by rw[hl];rfl
 have e1:((m.rel.map rowPV).length:Int)=(m.rel.length:Int):=by simp
 have e2:((m.val.map u64).length:Int)=(m.val.length:Int):=by simp
 have eS:PV.sl [evP x,evP y]=.sl (l.map evP):=by rw[hl];rfl
 have hI:difI m x y B=bif difG m l != 0 then (0,difG m l) else (firW (difW m x y B) m.n.toNat,0):=by rw[difI,hl]
 rw[← hl] at hB
 rw[hI]
 clear hI
 obtain⟨R,hR⟩:∃ R,R=difP (bif difG m l != 0 then (0,difG m l) else (firW (difW m x y B) m.n.toNat,0)):=⟨_,rfl⟩
 rw[← hR]
 have hno:∀ c,difG m l=c→(c != 0)=true→R=.tup [.int .i64 0,.int .i64 c]:=fun c h hc=>by rw[hR,h,hc];rfl
 refine PureFn.introC [4,5,9,12,18,22,25,26,27,32,33,34,35,36,39] mixed (fn:=Tryz.f14) rfl rfl rfl fun M w0 => ?_
 try conv=>whnf
 refine⟨{ _x:Unit // moI m=0 },fun _=>[(3,.ref 0 0),(4,.ref 1 0),(5,.ref 2 0)],fun _=>3,fun _=>[(0,.var (cellsM m)),(1,.var (cellsE x)),(2,.var (cellsE y))],?_,?_⟩
 ·(try conv=>whnf);repeat' (first|(apply And.intro<;>try conv=>whnf)|(intro h;try conv=>whnf)|(refine PureFn.dy hM rfl ?_;try conv=>whnf)|fail)
  ·rw[hno (moI m) (by rw[difG,show (moI m != 0)=true from h];rfl) h]
   exact .refl _
  ·exact⟨⟨(),by simpa using h⟩,(by exact Wk.sm rfl rfl rfl rfl rfl)⟩
 rintro⟨_,hm0⟩
 have g1:(moI m != 0)=false:=by simpa using hm0
 have hG:difG m l=bif firE (g1D m) l != 0 then firE (g1D m) l else bif firE g2D l != 0 then firE g2D l else firE (g3D m) l:=by rw[difG,g1];rfl
 refine⟨Unit,fun _=>[(3,.ref 0 0),(4,.ref 1 0),(5,.ref 2 0),(9,.pv (.sl (l.map evP)))],fun _=>3,fun _=>[(0,.var (cellsM m)),(1,.var (cellsE x)),(2,.var (cellsE y))],?_,?_⟩
 ·(try conv=>whnf);repeat' (first|(apply And.intro<;>try conv=>whnf)|(apply cellsI;rfl)|fail)
  refine⟨(),?_⟩
  (refine Wk.of ?_ ?_ rfl rfl rfl<;>repeat' (first|exact trivial|exact WkD.same _|exact WkO.same _ _ rfl|refine⟨?_,?_⟩|fail))
  exact WkD.eq (congrArg DV.pv eS)
 rintro⟨⟩
 refine⟨{ _x:Unit // firE (g1D m) l=0 },fun _=>[(3,.ref 0 0),(4,.ref 1 0),(5,.ref 2 0),(9,.pv (.sl (l.map evP)))],fun _=>3,fun _=>[(0,.var (cellsM m)),(1,.var (cellsE x)),(2,.var (cellsE y))],?_,?_⟩
 ·try conv=>whnf
  refine⟨{ i:Nat // i≤l.length∧firE (g1D m) l=firE (g1D m) (l.drop i) },fun i=>[(3,.ref 0 0),(4,.ref 1 0),(5,.ref 2 0),(9,.pv (.sl (l.map evP))),(41,.pv (.sl (l.map evP))),(42,.pv (i64 (l.map evP).length)),(43,.pv (i64 i.1))],fun _=>3,fun _=>[(0,.var (cellsM m)),(1,.var (cellsE x)),(2,.var (cellsE y))],fun i=>l.length-i.1,⟨⟨0,Nat.zero_le _,rfl⟩,(by exact Wk.sm rfl rfl rfl rfl rfl)⟩,?_⟩
  rintro⟨i,hi,hfi⟩
  (try conv=>whnf);repeat' (first|(apply And.intro<;>try conv=>whnf)|(intro h;try conv=>whnf)|(apply infoT;rfl)|fail)
  ·have hi':i<l.length:=by simpa using lt_dec h
   obtain⟨z,hz⟩:∃ z,l[i]? = some z:=⟨_,List.getElem?_eq_getElem hi'⟩
   have hzm:=hS z (List.mem_iff_getElem?.2 ⟨_,hz⟩)
   have hC:=ac_Check z.1 ((m.rel.map rowPV).length:Int) ((m.val.map u64).length:Int) hzm.fit hzm.rel hzm.post
   rw[firE_drop _ hz] at hfi
   have hgz:g1D m z=actI z.1 ((m.rel.map rowPV).length:Int) ((m.val.map u64).length:Int):=by rw[g1D,e1,e2]
   rw[hgz] at hfi
   generalize actI z.1 ((m.rel.map rowPV).length:Int) ((m.val.map u64).length:Int)=c at hC hfi
   refine⟨_,_,rfl,idx_map hz,rfl,?_⟩
   try conv=>whnf
   refine⟨Unit,fun _=>[(3,.ref 0 0),(4,.ref 1 0),(5,.ref 2 0),(9,.pv (.sl (l.map evP))),(41,.pv (.sl (l.map evP))),(42,.pv (i64 (l.map evP).length)),(43,.pv (i64 i)),(12,.pv (.int .i64 c))],fun _=>3,fun _=>[(0,.var (cellsM m)),(1,.var (cellsE x)),(2,.var (cellsE y))],?_,?_⟩
   ·(try conv=>whnf);repeat' (first|(refine PureFn.dy hC rfl ?_;try conv=>whnf)|fail)
    exact⟨(),(by exact Wk.sm rfl rfl rfl rfl rfl)⟩
   rintro⟨⟩
   (try conv=>whnf);repeat' (first|(apply And.intro<;>try conv=>whnf)|(intro h;try conv=>whnf)|fail)
   ·have hc:(c != 0)=true:=h
    rw[hc,cond_true] at hfi
    rw[hno c (by rw[hG,hfi,hc];rfl) hc]
    exact .refl _
   ·have hc:(c != 0)=false:=h
    rw[hc,cond_false] at hfi
    exact⟨⟨i+1,hi',hfi⟩,by show l.length-(i+1)<l.length-i;omega,(by refine Wk.of ?_ ?_ rfl rfl rfl<;>repeat' (first|exact trivial|exact WkD.same _|exact WkO.same _ _ rfl|refine WkD.int ?_|refine⟨?_,?_⟩|(refine wrapA ?_ ?_ ?_;(focus simp;done);(focus (try dsimp only);omega);(focus (try dsimp only);omega))|fail))⟩
  ·have hi':i=l.length:=by have:=ge_dec (m:=(l.map evP).length) h (by simpa using hi);simpa using this
   subst hi'
   rw[List.drop_length] at hfi
   exact⟨⟨(),hfi⟩,(by exact Wk.sm rfl rfl rfl rfl rfl)⟩
 rintro⟨_,hF1⟩
 rw[hF1] at hG
 have hG:difG m l=bif firE g2D l != 0 then firE g2D l else firE (g3D m) l:=hG
 refine⟨{ _x:Unit // firE g2D l=0 },fun _=>[(3,.ref 0 0),(4,.ref 1 0),(5,.ref 2 0),(9,.pv (.sl (l.map evP)))],fun _=>3,fun _=>[(0,.var (cellsM m)),(1,.var (cellsE x)),(2,.var (cellsE y))],?_,?_⟩
 ·try conv=>whnf
  refine⟨{ i:Nat // i≤l.length∧firE g2D l=firE g2D (l.drop i) },fun i=>[(3,.ref 0 0),(4,.ref 1 0),(5,.ref 2 0),(9,.pv (.sl (l.map evP))),(60,.pv (.sl (l.map evP))),(61,.pv (i64 (l.map evP).length)),(62,.pv (i64 i.1))],fun _=>3,fun _=>[(0,.var (cellsM m)),(1,.var (cellsE x)),(2,.var (cellsE y))],fun i=>l.length-i.1,⟨⟨0,Nat.zero_le _,rfl⟩,(by exact Wk.sm rfl rfl rfl rfl rfl)⟩,?_⟩
  rintro⟨i,hi,hfi⟩
  (try conv=>whnf);repeat' (first|(apply And.intro<;>try conv=>whnf)|(intro h;try conv=>whnf)|(apply infoT;rfl)|fail)
  ·have hi':i<l.length:=by simpa using lt_dec h
   obtain⟨z,hz⟩:∃ z,l[i]? = some z:=⟨_,List.getElem?_eq_getElem hi'⟩
   rw[firE_drop _ hz] at hfi
   have e3:((z.1.pre.map fpv).length:Int)=(z.1.pre.length:Int):=by simp
   refine⟨_,_,rfl,idx_map hz,rfl,?_⟩
   (try conv=>whnf);repeat' (first|(apply And.intro<;>try conv=>whnf)|(intro h;try conv=>whnf)|apply True.intro|(apply WhenQ.mk;(try conv=>whnf);rotate_left;(try conv=>whnf);rotate_right)|with_reducible assumption|(apply not_of;with_reducible assumption)|fail)
   ·have hb:badEv z.1 z.2=true:=by rw[badEv,← e3];exact h
    have hg:g2D z=6:=by rw[g2D,hb];rfl
    rw[hg] at hfi
    rw[hno 6 (by rw[hG,hfi];rfl) rfl]
    exact .refl _
   ·have hb:badEv z.1 z.2=false:=by rw[badEv,← e3];exact h
    have hg:g2D z=0:=by rw[g2D,hb];rfl
    rw[hg] at hfi
    exact⟨⟨i+1,hi',hfi⟩,by show l.length-(i+1)<l.length-i;omega,(by refine Wk.of ?_ ?_ rfl rfl rfl<;>repeat' (first|exact trivial|exact WkD.same _|exact WkO.same _ _ rfl|refine WkD.int ?_|refine⟨?_,?_⟩|(refine wrapA ?_ ?_ ?_;(focus simp;done);(focus (try dsimp only);omega);(focus (try dsimp only);omega))|fail))⟩
  ·have hi':i=l.length:=by have:=ge_dec (m:=(l.map evP).length) h (by simpa using hi);simpa using this
   subst hi'
   rw[List.drop_length] at hfi
   exact⟨⟨(),hfi⟩,(by exact Wk.sm rfl rfl rfl rfl rfl)⟩
 rintro⟨_,hF2⟩
 rw[hF2] at hG
 have hG:difG m l=firE (g3D m) l:=hG
 have hev:∀ z:Act×Int,z∈l→∃ k:Nat,z.2=(k:Int)∧k<z.1.pre.length:=fun z hz=>by
  have hg:=firE_zero hF2 z hz
  unfold g2D at hg
  cases hb:badEv z.1 z.2 with
  |true=>rw[hb] at hg;cases hg
  |false =>
   unfold badEv at hb
   cases h1:decide (z.2<0) with
   |true=>rw[h1] at hb;cases hb
   |false =>
    rw[h1] at hb
    have h2:=of_decide_eq_false (show decide (z.2≥(z.1.pre.length:Int))=false from hb)
    have h3:=of_decide_eq_false h1
    exact⟨z.2.toNat,by omega,by omega⟩
 obtain⟨xn,hxn,hxl⟩:=hev x (by rw[hl];simp)
 obtain⟨yn,hyn,hyl⟩:=hev y (by rw[hl];simp)
 refine⟨{ _x:Unit // difG m l=0 },fun _=>[(3,.ref 0 0),(4,.ref 1 0),(5,.ref 2 0)],fun _=>3,fun _=>[(0,.var (cellsM m)),(1,.var (cellsE (x.1,(xn:Int)))),(2,.var (cellsE (y.1,(yn:Int))))],?_,?_⟩
 ·try conv=>whnf
  refine⟨{ i:Nat // i≤l.length∧firE (g3D m) l=firE (g3D m) (l.drop i) },fun i=>[(3,.ref 0 0),(4,.ref 1 0),(5,.ref 2 0),(9,.pv (.sl (l.map evP))),(79,.pv (.sl (l.map evP))),(80,.pv (i64 (l.map evP).length)),(81,.pv (i64 i.1))],fun _=>3,fun _=>[(0,.var (cellsM m)),(1,.var (cellsE x)),(2,.var (cellsE y))],fun i=>l.length-i.1,⟨⟨0,Nat.zero_le _,rfl⟩,(by exact Wk.sm rfl rfl rfl rfl rfl)⟩,?_⟩
  rintro⟨i,hi,hfi⟩
  (try conv=>whnf);repeat' (first|(apply And.intro<;>try conv=>whnf)|(intro h;try conv=>whnf)|(apply infoT;rfl)|fail)
  ·have hi':i<l.length:=by simpa using lt_dec h
   obtain⟨z,hz⟩:∃ z,l[i]? = some z:=⟨_,List.getElem?_eq_getElem hi'⟩
   have hzm:=hS z (List.mem_iff_getElem?.2 ⟨_,hz⟩)
   have hU:=pr_Update m z.1 hf hzm.fit hzm.rel hzm.post
   rw[firE_drop _ hz] at hfi
   have hgz:g3D m z=bif (updI m z.1).2.2==8 then 8 else 0:=rfl
   rw[hgz] at hfi
   generalize updI m z.1=U at hU hfi
   obtain⟨um,up,c⟩:=U
   refine⟨_,_,rfl,idx_map hz,rfl,?_⟩
   try conv=>whnf
   refine⟨Unit,fun _=>[(3,.ref 0 0),(4,.ref 1 0),(5,.ref 2 0),(9,.pv (.sl (l.map evP))),(79,.pv (.sl (l.map evP))),(80,.pv (i64 (l.map evP).length)),(81,.pv (i64 i)),(19,.pv (.int .i64 c))],fun _=>3,fun _=>[(0,.var (cellsM m)),(1,.var (cellsE x)),(2,.var (cellsE y))],?_,?_⟩
   ·(try conv=>whnf);repeat' (first|(refine PureFn.dy hU rfl ?_;try conv=>whnf)|fail)
    exact⟨(),(by exact Wk.sm rfl rfl rfl rfl rfl)⟩
   rintro⟨⟩
   (try conv=>whnf);repeat' (first|(apply And.intro<;>try conv=>whnf)|(intro h;try conv=>whnf)|fail)
   ·have hc:(c==8)=true:=h
    have hc8:c=8:=by simpa using hc
    subst hc8
    rw[hno 8 (by rw[hG,hfi];rfl) rfl]
    exact .refl _
   ·have hc:(c==8)=false:=h
    simp only[hc,cond_false] at hfi
    exact⟨⟨i+1,hi',hfi⟩,by show l.length-(i+1)<l.length-i;omega,(by refine Wk.of ?_ ?_ rfl rfl rfl<;>repeat' (first|exact trivial|exact WkD.same _|exact WkO.same _ _ rfl|refine WkD.int ?_|refine⟨?_,?_⟩|(refine wrapA ?_ ?_ ?_;(focus simp;done);(focus (try dsimp only);omega);(focus (try dsimp only);omega))|fail))⟩
  ·have hi':i=l.length:=by have:=ge_dec (m:=(l.map evP).length) h (by simpa using hi);simpa using this
   subst hi'
   rw[List.drop_length] at hfi
   refine⟨⟨(),hG.trans hfi⟩,?_⟩
   (refine Wk.of ?_ ?_ rfl rfl rfl<;>repeat' (first|exact trivial|exact WkD.same _|exact WkO.same _ _ rfl|refine WkD.int ?_|refine WkO.vars rfl ?_|refine⟨?_,?_⟩|fail))
   ·exact hxn
   ·exact hyn
 rintro⟨_,hG0⟩
 have hB:=hB hG0
 have hR0:R=.tup [.int .i64 (firW (difW m x y B) m.n.toNat),.int .i64 0]:=by rw[hR,hG0];rfl
 obtain⟨n,hMn⟩:=moI_ok hm0
 have hmo:∀ z,z∈l→moaI m z.1=0:=fun z hz=>by
  rw[moaI,g1]
  exact firE_zero hF1 z hz
 have hx1:=pre_holds (hmo x (by rw[hl];simp)) hxl
 have hy1:=pre_holds (hmo y (by rw[hl];simp)) hyl
 have hsx:preS m x=possP m x.1 xn:=by rw[preS,hxn];rfl
 have hsy:preS m y=possP m y.1 yn:=by rw[preS,hyn];rfl
 rw[← hsx,hMn.nn,Int.toNat_natCast] at hx1
 rw[← hsy,hMn.nn,Int.toNat_natCast] at hy1
 have hnn:=hMn.nn
 have hn64:=hMn.n64
 rw[hnn,Int.toNat_natCast] at hR0 hB
 have hpx:x.1.pre[xn]? = some (x.1.pre.getD xn []):=getD_mem hxl
 have hpy:y.1.pre[yn]? = some (y.1.pre.getD yn []):=getD_mem hyl
 have hHx:=ck_Holds m (x.1.pre.getD xn []) hf
 have hHy:=ck_Holds m (y.1.pre.getD yn []) hf
 rw[hx1.1] at hHx
 rw[hy1.1] at hHy
 have hs64:preS m x<2^64:=Nat.lt_of_lt_of_le hx1.2 (pow64_le hn64)
 have ht64:preS m y<2^64:=Nat.lt_of_lt_of_le hy1.2 (pow64_le hn64)
 have hAx:=fun w:Nat=>pr_At m (w:Int) x.1 (xn:Int) hf hSx.fit hSx.rel hSx.post
 have hAy:=fun w:Nat=>pr_At m (w:Int) y.1 (yn:Int) hf hSy.fit hSy.rel hSy.post
 rw[hxn,hyn] at hB
 have hD:∀ w,difW m x y B w=bif (preS m x).testBit w != (preS m y).testBit w then true else bif (preS m x).testBit w then !B w else false:=fun w=>rfl
 generalize difW m x y B=D at hD hR0
 generalize preS m x=s at *
 generalize preS m y=t at *
 refine⟨Unit,fun _=>[(3,.ref 0 0),(4,.ref 1 0),(5,.ref 2 0),(20,.pv (u64 s))],fun _=>3,fun _=>[(0,.var (cellsM m)),(1,.var (cellsE (x.1,(xn:Int)))),(2,.var (cellsE (y.1,(yn:Int))))],?_,?_⟩
 ·(try conv=>whnf);repeat' (first|(apply And.intro<;>try conv=>whnf)|(apply infoT;rfl)|(refine lin_plan (by kernel_rfl) ?_;try conv=>whnf)|(refine⟨_,_,rfl,idx_map (by with_reducible assumption),rfl,?_⟩;try conv=>whnf)|(refine⟨_,(by (conv=>whnf);exact hHx),rfl,?_⟩;try conv=>whnf)|fail)
  exact⟨(),(by exact Wk.sm rfl rfl rfl rfl rfl)⟩
 rintro⟨⟩
 refine⟨Unit,fun _=>[(3,.ref 0 0),(4,.ref 1 0),(5,.ref 2 0),(20,.pv (u64 s)),(22,.pv (u64 t))],fun _=>3,fun _=>[(0,.var (cellsM m)),(1,.var (cellsE (x.1,(xn:Int)))),(2,.var (cellsE (y.1,(yn:Int))))],?_,?_⟩
 ·(try conv=>whnf);repeat' (first|(apply And.intro<;>try conv=>whnf)|(apply infoT;rfl)|(refine lin_plan (by kernel_rfl) ?_;try conv=>whnf)|(refine⟨_,_,rfl,idx_map (by with_reducible assumption),rfl,?_⟩;try conv=>whnf)|(refine⟨_,(by (conv=>whnf);exact hHy),rfl,?_⟩;try conv=>whnf)|fail)
  exact⟨(),(by exact Wk.sm rfl rfl rfl rfl rfl)⟩
 rintro⟨⟩
 refine⟨{ _x:Unit // ∀ v,v<n→D v=false },fun _=>[],fun _=>3,fun _=>[],?_,?_⟩
 ·try conv=>whnf
  refine⟨{ w:Nat // w≤n∧∀ v,v<w→D v=false },fun w=>[(3,.ref 0 0),(4,.ref 1 0),(5,.ref 2 0),(20,.pv (u64 s)),(22,.pv (u64 t)),(122,.pv (.int .i64 m.n)),(123,.pv (i64 w.1))],fun _=>3,fun _=>[(0,.var (cellsM m)),(1,.var (cellsE (x.1,(xn:Int)))),(2,.var (cellsE (y.1,(yn:Int))))],fun w=>n-w.1,⟨⟨0,Nat.zero_le _,fun v h=>by omega⟩,(by exact Wk.sm rfl rfl rfl rfl rfl)⟩,?_⟩
  rintro⟨w,hw,hnow⟩
  (try conv=>whnf);repeat' (first|(apply And.intro<;>try conv=>whnf)|(intro h;try conv=>whnf)|fail)
  ·have hw':w<n:=by
    have h2:decide ((w:Int)<m.n)=true:=h
    have:=of_decide_eq_true h2
    rw[hnn] at this;omega
   have hbs:andU (shrU (s:Nat) (w:Nat)) 1=if s.testBit w then 1 else 0:=bit_and s w hs64 (by omega)
   have hbt:andU (shrU (t:Nat) (w:Nat)) 1=if t.testBit w then 1 else 0:=bit_and t w ht64 (by omega)
   have hDw:=hD w
   refine⟨{ _x:Unit // s.testBit w=t.testBit w },fun _=>[(3,.ref 0 0),(4,.ref 1 0),(5,.ref 2 0),(20,.pv (u64 s)),(22,.pv (u64 t)),(122,.pv (.int .i64 m.n)),(123,.pv (i64 w)),(24,.pv (i64 w))],fun _=>3,fun _=>[(0,.var (cellsM m)),(1,.var (cellsE (x.1,(xn:Int)))),(2,.var (cellsE (y.1,(yn:Int))))],?_,?_⟩
   ·(try conv=>whnf);repeat' (first|(apply And.intro<;>try conv=>whnf)|(intro h;try conv=>whnf)|(refine lin_plan (by kernel_rfl) ?_;try conv=>whnf)|fail)
    ·exact Int.natCast_nonneg _
    ·exact Int.natCast_nonneg _
    ·have h2:(andU (shrU (s:Nat) (w:Nat)) 1 != andU (shrU (t:Nat) (w:Nat)) 1)=true:=h
     rw[hbs,hbt] at h2
     have h3:D w=true:=by
      rw[hDw]
      cases hq:s.testBit w<;>cases hq2:t.testBit w<;>rw[hq,hq2] at h2<;>first|rfl|exact absurd h2 (by decide)
     rw[hR0,firW_yes hw' h3 hnow]
     exact .refl _
    ·refine⟨⟨(),?_⟩,(by exact Wk.sm rfl rfl rfl rfl rfl)⟩
     have h2:(andU (shrU (s:Nat) (w:Nat)) 1 != andU (shrU (t:Nat) (w:Nat)) 1)=false:=h
     rw[hbs,hbt] at h2
     cases hq:s.testBit w<;>cases hq2:t.testBit w<;>rw[hq,hq2] at h2<;>first|rfl|exact absurd h2 (by decide)
   rintro⟨_,hst⟩
   refine⟨{ _x:Unit // s.testBit w=true },fun _=>[(3,.ref 0 0),(4,.ref 1 0),(5,.ref 2 0),(20,.pv (u64 s)),(22,.pv (u64 t)),(122,.pv (.int .i64 m.n)),(123,.pv (i64 w)),(24,.pv (i64 w))],fun _=>3,fun _=>[(0,.var (cellsM m)),(1,.var (cellsE (x.1,(xn:Int)))),(2,.var (cellsE (y.1,(yn:Int))))],?_,?_⟩
   ·(try conv=>whnf);repeat' (first|(apply And.intro<;>try conv=>whnf)|(intro h;try conv=>whnf)|fail)
    ·exact Int.natCast_nonneg _
    ·have h2:(andU (shrU (s:Nat) (w:Nat)) 1==0)=true:=h
     rw[hbs] at h2
     have hq:s.testBit w=false:=by
      cases hq:s.testBit w with
      |false=>rfl
      |true=>rw[hq] at h2;exact absurd h2 (by decide)
     have h3:D w=false:=by rw[hDw,← hst,hq];rfl
     refine⟨⟨w+1,hw',fun v hv => ?_⟩,by show n-(w+1)<n-w;omega,(by refine Wk.of ?_ ?_ rfl rfl rfl<;>repeat' (first|exact trivial|exact WkD.same _|exact WkO.same _ _ rfl|refine WkD.int ?_|refine⟨?_,?_⟩|(refine wrapA ?_ ?_ ?_;(focus simp;done);(focus (try dsimp only);omega);(focus (try dsimp only);omega))|fail))⟩
     by_cases e:v<w
     ·exact hnow v e
     ·rw[show v=w by omega];exact h3
    ·refine⟨⟨(),?_⟩,(by exact Wk.sm rfl rfl rfl rfl rfl)⟩
     have h2:(andU (shrU (s:Nat) (w:Nat)) 1==0)=false:=h
     rw[hbs] at h2
     cases hq:s.testBit w with
     |true=>rfl
     |false=>rw[hq] at h2;exact absurd h2 (by decide)
   rintro⟨_,hsw⟩
   obtain⟨c,hBw⟩:=hB w hw' hsw (by rw[← hst];exact hsw)
   have hAx:=hAx w
   have hAy:=hAy w
   generalize atI m w x.1 xn=X at hAx hBw
   generalize atI m w y.1 yn=Y at hAy hBw
   refine⟨Unit,fun _=>[(3,.ref 0 0),(4,.ref 1 0),(5,.ref 2 0),(20,.pv (u64 s)),(22,.pv (u64 t)),(122,.pv (.int .i64 m.n)),(123,.pv (i64 w)),(24,.pv (i64 w)),(25,.ref 3 0),(26,.pv (.int .i64 X.2.1))],fun _=>4,fun _=>[(0,.var (cellsM m)),(1,.var (cellsE (x.1,(xn:Int)))),(2,.var (cellsE (y.1,(yn:Int)))),(3,.var (cellsM X.1))],?_,?_⟩
   ·(try conv=>whnf);repeat' (first|(refine PureFn.dy hAx rfl ?_;try conv=>whnf)|fail)
    exact⟨(),(by exact Wk.sm rfl rfl rfl rfl rfl)⟩
   rintro⟨⟩
   refine⟨Unit,fun _=>[(3,.ref 0 0),(4,.ref 1 0),(5,.ref 2 0),(20,.pv (u64 s)),(22,.pv (u64 t)),(122,.pv (.int .i64 m.n)),(123,.pv (i64 w)),(24,.pv (i64 w)),(25,.ref 3 0),(26,.pv (.int .i64 X.2.1)),(28,.ref 4 0),(29,.pv (.int .i64 Y.2.1))],fun _=>5,fun _=>[(0,.var (cellsM m)),(1,.var (cellsE (x.1,(xn:Int)))),(2,.var (cellsE (y.1,(yn:Int)))),(3,.var (cellsM X.1)),(4,.var (cellsM Y.1))],?_,?_⟩
   ·(try conv=>whnf);repeat' (first|(refine PureFn.dy hAy rfl ?_;try conv=>whnf)|fail)
    exact⟨(),(by exact Wk.sm rfl rfl rfl rfl rfl)⟩
   rintro⟨⟩
   refine⟨Unit,fun _=>[(3,.ref 0 0),(4,.ref 1 0),(5,.ref 2 0),(20,.pv (u64 s)),(22,.pv (u64 t)),(122,.pv (.int .i64 m.n)),(123,.pv (i64 w)),(24,.pv (i64 w)),(31,.pv (.bool (B w)))],fun _=>3,fun _=>[(0,.var (cellsM m)),(1,.var (cellsE (x.1,(xn:Int)))),(2,.var (cellsE (y.1,(yn:Int))))],?_,?_⟩
   ·(try conv=>whnf);repeat' (first|(refine PureFn.dy hBw rfl ?_;try conv=>whnf)|fail)
    exact⟨(),(by exact Wk.sm rfl rfl rfl rfl rfl)⟩
   rintro⟨⟩
   have h3:D w=!B w:=by rw[hDw,← hst,hsw];rfl
   (try conv=>whnf);repeat' (first|(apply And.intro<;>try conv=>whnf)|(intro h;try conv=>whnf)|fail)
   ·have hb:(!B w)=true:=h
    rw[hR0,firW_yes hw' (h3.trans hb) hnow]
    exact .refl _
   ·have hb:(!B w)=false:=h
    refine⟨⟨w+1,hw',fun v hv => ?_⟩,by show n-(w+1)<n-w;omega,(by refine Wk.of ?_ ?_ rfl rfl rfl<;>repeat' (first|exact trivial|exact WkD.same _|exact WkO.same _ _ rfl|refine WkD.int ?_|refine⟨?_,?_⟩|(refine wrapA ?_ ?_ ?_;(focus simp;done);(focus (try dsimp only);omega);(focus (try dsimp only);omega))|fail))⟩
    by_cases e:v<w
    ·exact hnow v e
    ·rw[show v=w by omega];exact h3.trans hb
  ·have hw':w=n:=by
    have h2:decide ((w:Int)<m.n)=false:=h
    have:=of_decide_eq_false h2
    rw[hnn] at this;omega
   subst hw'
   exact⟨⟨(),hnow⟩,(by exact Wk.sm rfl rfl rfl rfl rfl)⟩
 rintro⟨_,hall⟩
 try conv=>whnf
 rw[hR0,firW_no hall]
 exact .refl _
def sameZ:List Int→List Int→Bool
 | [],[]=>true
 |x::r,y::s=>bif x==y then sameZ r s else false
 |_,_=>false
theorem sameZ_drop {a b:List Int} {i:Nat} {x y:Int} (h1:a[i]? = some x) (h2:b[i]? = some y):sameZ (a.drop i) (b.drop i)=bif x==y then sameZ (a.drop (i+1)) (b.drop (i+1)) else false:=by
 obtain⟨p1,p2⟩:=List.getElem?_eq_some_iff.1 h1
 obtain⟨q1,q2⟩:=List.getElem?_eq_some_iff.1 h2
 rw[List.drop_eq_getElem_cons p1,List.drop_eq_getElem_cons q1,p2,q2];rfl
theorem sameZ_len:∀ {a b:List Int},a.length≠b.length→sameZ a b=false
 | [],[],h=>absurd rfl h
 | [],_::_,_=>rfl
 |_::_,[],_=>rfl
 |x::r,y::s,h=>by
  rw[sameZ,sameZ_len (a:=r) (b:=s) (by simpa using h)]
  cases (x==y)<;>rfl
theorem ri_SameInts (a b:List Int) (hl0:a.length≤1000):PureFn Tryz.prog 39 [.sl (a.map intI),.sl (b.map intI)] (.bool (sameZ a b)):=by
 refine PureFn.introC [3] mixed (fn:=Tryz.f39) rfl rfl rfl fun M w0 => ?_
 try conv=>whnf
 refine⟨{ _x:Unit // a.length=b.length },fun _=>[(0,.pv (.sl (a.map intI))),(1,.pv (.sl (b.map intI)))],fun _=>0,fun _=>[],?_,?_⟩
 ·(try conv=>whnf);repeat' (first|(apply And.intro<;>try conv=>whnf)|(intro h;try conv=>whnf)|fail)
  ·have h2:(((a.map intI).length:Int) != ((b.map intI).length:Int))=true:=h
   refine le_bool (sameZ_len ?_).symm
   intro e
   rw[List.length_map,List.length_map,e] at h2
   simp at h2
  ·refine⟨⟨(),?_⟩,(by exact Wk.sm rfl rfl rfl rfl rfl)⟩
   have h2:(((a.map intI).length:Int) != ((b.map intI).length:Int))=false:=h
   rw[List.length_map,List.length_map] at h2
   have:(a.length:Int)=b.length:=by simpa using h2
   omega
 rintro⟨_,hl⟩
 try conv=>whnf
 refine⟨{ i:Nat // i≤a.length∧sameZ a b=sameZ (a.drop i) (b.drop i) },fun i=>[(0,.pv (.sl (a.map intI))),(1,.pv (.sl (b.map intI))),(5,.pv (i64 i.1))],fun _=>0,fun _=>[],fun i=>a.length-i.1,⟨⟨0,Nat.zero_le _,rfl⟩,(by exact Wk.sm rfl rfl rfl rfl rfl)⟩,?_⟩
 rintro⟨i,hi,hs⟩
 (try conv=>whnf);repeat' (first|(apply And.intro<;>try conv=>whnf)|(intro h;try conv=>whnf)|(apply infoT;rfl)|(refine lin_plan (by kernel_rfl) ?_;try conv=>whnf)|fail)
 ·have hi':i<a.length:=by simpa using lt_dec h
  obtain⟨x,hx⟩:∃ x,a[i]? = some x:=⟨_,List.getElem?_eq_getElem hi'⟩
  obtain⟨y,hy⟩:∃ y,b[i]? = some y:=⟨_,List.getElem?_eq_getElem (by omega)⟩
  rw[sameZ_drop hx hy] at hs
  (try conv=>whnf);repeat' (first|(apply And.intro<;>try conv=>whnf)|(intro h;try conv=>whnf)|(apply infoT;rfl)|(refine⟨_,_,rfl,idx_map (by with_reducible assumption),rfl,?_⟩;try conv=>whnf)|fail)
  ·have h2:(x != y)=true:=h
   rw[show (x==y)=false by simpa using h2] at hs
   exact le_bool hs.symm
  ·have h2:(x != y)=false:=h
   rw[show (x==y)=true by simpa using h2] at hs
   exact⟨⟨i+1,hi',hs⟩,by show a.length-(i+1)<a.length-i;omega,(by refine Wk.of ?_ ?_ rfl rfl rfl<;>repeat' (first|exact trivial|exact WkD.same _|refine WkD.int ?_|refine⟨?_,?_⟩|(refine wrapA ?_ ?_ ?_;(focus simp;done);(focus (try dsimp only);omega);(focus (try dsimp only);omega))|fail))⟩
 ·have hi':i=a.length:=by have:=ge_dec (m:=(a.map intI).length) h (by simpa using hi);simpa using this
  subst hi'
  rw[List.drop_length,hl,List.drop_length] at hs
  exact le_bool hs.symm
def twoA (P Q:List Nd):Act:=⟨[P,Q],[[],[]],[[3,3]]⟩
theorem fn_two (P Q:List Nd):PureFn Tryz.prog 35 [fpv P,fpv Q] (twoA P Q).pv:=by
 refine PureFn.intro mixed (fn:=Tryz.f35) rfl rfl rfl fun M w0 => ?_
 (try conv=>whnf);repeat' (first|(apply And.intro<;>try conv=>whnf)|(apply bleI;rfl)|(apply cellsI;rfl)|(apply Or.inl;try conv=>whnf)|fail)
 ·rfl
 ·exact (show (0:Int)≤2 by decide)
 ·exact (show (2:Int)≤4294967296 by decide)
 ·exact PLe.aggs ⟨.refl _,PLe.sls ⟨.nil,.nil,trivial⟩,.refl _,trivial⟩
theorem awk31:PureFn Tryz.prog 13 [] (.bool true):=by
 obtain⟨P,qP⟩:∃ z:List Nd,z=[nI 3 0]:=⟨_,rfl⟩
 obtain⟨Q,qQ⟩:∃ z:List Nd,z=[nI 3 1]:=⟨_,rfl⟩
 have al:∀ a:Act,aloneI a=0→SmX a:=fun a h=>smx_alone h
 obtain⟨a,qa⟩:∃ a,a=pubA 1 P:=⟨_,rfl⟩
 obtain⟨b,qb⟩:∃ a,a=pubA 1 Q:=⟨_,rfl⟩
 have hSa:SmX a:=al a (by rw[qa,qP];kernel_rfl)
 have hSb:SmX b:=al b (by rw[qb,qQ];kernel_rfl)
 have hPa:PureFn Tryz.prog 22 [.int .i64 1,fpv P] (pairA (a,0)):=by
  have:=ac_Public 1 P
  rw[show pubI 1 P=(a,0) by rw[qa,qP];kernel_rfl] at this
  exact this
 have hPb:PureFn Tryz.prog 22 [.int .i64 1,fpv Q] (pairA (b,0)):=by
  have:=ac_Public 1 Q
  rw[show pubI 1 Q=(b,0) by rw[qb,qQ];kernel_rfl] at this
  exact this
 obtain⟨sk,qsk⟩:∃ a,a=pubA 1 (buildL (n0 1) []):=⟨_,rfl⟩
 have hSs:SmX sk:=al sk (by rw[qsk];kernel_rfl)
 have hSk:PureFn Tryz.prog 38 [.int .i64 1] (pairA (sk,0)):=by
  have:=ac_Skip 1
  rw[show pubI 1 (buildL (n0 1) [])=(sk,0) by rw[qsk];kernel_rfl] at this
  exact this
 have hCo:=cp_Compose a b hSa hSb fun _ _ e f he hf=>by
  have hp:b.post.getD f []=[]:=by
   rw[qb] at hf ⊢
   cases f with
   |zero=>rfl
   |succ f=>exact absurd (Nat.lt_of_succ_lt_succ hf) (Nat.not_lt_zero f)
  rw[hp]
  exact cp_asg0 a e (by rw[qa] at he ⊢;exact he) hSa
 obtain⟨c,qc⟩:∃ c,c=(composeI a b).1:=⟨_,rfl⟩
 rw[show composeI a b=(c,0) from Prod.ext qc.symm (by rw[qa,qb,qP,qQ];kernel_rfl)] at hCo
 obtain⟨I,qI⟩:∃ z,z=buildL (n0 7) [P,Q]:=⟨_,rfl⟩
 have hIm:=fm_Imp P Q
 rw[← qI] at hIm
 obtain⟨J,qJ⟩:∃ z,z=buildL (n0 5) [P,I]:=⟨_,rfl⟩
 have hAn:=fm_And P I
 rw[← qJ] at hAn
 have hcl:c.pre.length=1:=by rw[qc,qa,qb,qP,qQ];kernel_rfl
 obtain⟨cp,hcp⟩:∃ z,c.pre[0]? = some z:=⟨_,List.getElem?_eq_getElem (by rw[hcl];exact Nat.zero_lt_one)⟩
 have hSm:=fm_Same cp J
 have hsm:same cp J=true:=by
  have h1:c.pre.getD 0 []=cp:=by rw[List.getD_eq_getElem?_getD,hcp];rfl
  have h2:same ((composeI (pubA 1 [nI 3 0]) (pubA 1 [nI 3 1])).1.pre.getD 0 []) (buildL (n0 5) [[nI 3 0],buildL (n0 7) [[nI 3 0],[nI 3 1]]])=true:=by kernel_rfl
  rw[← h1,qc,qJ,qI,qa,qb,qP,qQ]
  exact h2
 rw[hsm] at hSm
 obtain⟨T,qT⟩:∃ z,z=buildL (n0 1) []:=⟨_,rfl⟩
 have hTr:=fm_True
 rw[← qT] at hTr
 obtain⟨PT,qPT⟩:∃ z,z=buildL (n0 5) [P,T]:=⟨_,rfl⟩
 have hAn2:=fm_And P T
 rw[← qPT] at hAn2
 have hTw:=fn_two P PT
 obtain⟨t1,qt1⟩:∃ z,z=twoA P PT:=⟨_,rfl⟩
 rw[← qt1] at hTw
 have ht1:aloneI t1=0:=by rw[qt1,qPT,qT,qP];kernel_rfl
 have hSf:=cp_Simplify t1 (al t1 ht1) (fun _=>by
  have hn:(evtL (smpA t1)).length=2:=by rw[qt1,qPT,qT,qP];kernel_rfl
  rw[hn]
  have hk:fsN (sfZ t1) 0=0∧fsN (sfZ t1) 1=0:=by rw[qt1,qPT,qT,qP];exact⟨by kernel_rfl,by kernel_rfl⟩
  intro e he
  rcases e with _|_|e
  ·exact⟨by rw[hk.1];decide,by rw[hk.1,hk.1]⟩
  ·exact⟨by rw[hk.2];decide,by rw[hk.2,hk.1]⟩
  ·omega)
 obtain⟨S,qS⟩:∃ z,z=(sfyI t1).1:=⟨_,rfl⟩
 rw[show sfyI t1=(S,[0,0],0) from Prod.ext qS.symm (by rw[qt1,qPT,qT,qP];kernel_rfl)] at hSf
 have hSl:S.pre.length=1:=by rw[qS,qt1,qPT,qT,qP];kernel_rfl
 obtain⟨N1,qN1⟩:∃ z,z=buildL (n0 4) [P]:=⟨_,rfl⟩
 have hN1:=fm_Not P
 rw[← qN1] at hN1
 obtain⟨N2,qN2⟩:∃ z,z=buildL (n0 4) [N1]:=⟨_,rfl⟩
 have hN2:=fm_Not N1
 rw[← qN2] at hN2
 have hTw2:=fn_two N2 P
 obtain⟨t2,qt2⟩:∃ z,z=twoA N2 P:=⟨_,rfl⟩
 rw[← qt2] at hTw2
 have ht2:aloneI t2=0:=by rw[qt2,qN2,qN1,qP];kernel_rfl
 have hAl1:=cp_Alike a t2 hSa (al t2 ht2) 0 0
 rw[show alikeP a 0 t2 0=.tup [.bool true,.int .i64 0] by rw[qa,qt2,qN2,qN1,qP];kernel_rfl] at hAl1
 obtain⟨t3,qt3⟩:∃ z:Act,z=⟨[N2],[[]],[[1]]⟩:=⟨_,rfl⟩
 have ht3:aloneI t3=0:=by rw[qt3,qN2,qN1,qP];kernel_rfl
 have hAl2:=cp_Alike a t3 hSa (al t3 ht3) 0 0
 rw[show alikeP a 0 t3 0=.tup [.bool true,.int .i64 0] by rw[qa,qt3,qN2,qN1,qP];kernel_rfl] at hAl2
 have hAl3:PureFn Tryz.prog 21 [a.pv,.int .i64 0,.agg [.sl [fpv N2],.sl [.nil],.sl [rowPV [1]]],.int .i64 0] (.tup [.bool true,.int .i64 0]):=by
  rw[qt3] at hAl2
  exact hAl2.le ⟨.refl _,.refl _,PLe.aggs ⟨.refl _,PLe.sls ⟨.nil,trivial⟩,.refl _,trivial⟩,.refl _,trivial⟩
 obtain⟨m,qm⟩:∃ m:Mo,m=⟨1,[0],[[1]]⟩:=⟨_,rfl⟩
 have hf:FitM m:=by
  rw[qm]
  refine⟨fun s hs => ?_,fun r hr s hs => ?_⟩
  ·rw[List.mem_singleton.1 hs];decide
  ·rw[List.mem_singleton.1 hr] at hs
   have:s=1:=by simpa using hs
   rw[this];decide
 have hDf:=cp_Differ m (sk,0) (a,0) hf hSs hSa (fun _=>false) (fun _ w hw _ h2=>by
  exfalso
  have hn:m.n.toNat=1:=by rw[qm];rfl
  have hw0:w=0:=by omega
  subst hw0
  have:(preS m (a,0)).testBit 0=false:=by rw[qm,qa,qP];kernel_rfl
  rw[this] at h2;cases h2)
 rw[show difI m (sk,0) (a,0) (fun _=>false)=(0,0) by rw[qm,qsk,qa,qP];kernel_rfl] at hDf
 have hRI:=ri_SameInts [0,0] [0,0] (by decide)
 rw[show sameZ [0,0] [0,0]=true from rfl] at hRI
 have hcl':((c.pre.map fpv).length:Int)=1:=by rw[List.length_map,hcl];rfl
 have hSl':((S.pre.map fpv).length:Int)=1:=by rw[List.length_map,hSl];rfl
 have hix:=idx_map (g:=fpv) hcp
 clear hsm hcl hSl qc qJ qI qPT qT qS qt1 qt2 qt3 qN2 qN1 ht1 ht2 ht3 hf hSa hSb hSs hAl2 qa qb qsk al
 subst qm
 refine PureFn.introC [2,3,4,5,7,8,9,10,11,12,13] mixed (fn:=Tryz.f13) rfl rfl rfl fun M w0 => ?_
 try conv=>whnf
 refine⟨Unit,fun _=>[(1,.pv (fpv P)),(2,.pv (fpv Q))],fun _=>0,fun _=>[],?_,?_⟩
 ·subst qP qQ
  (try conv=>whnf);repeat' (first|(apply And.intro<;>try conv=>whnf)|(apply cellsI;rfl)|fail)
  exact⟨(),(by exact Wk.sm rfl rfl rfl rfl rfl)⟩
 rintro⟨⟩
 clear qP qQ
 refine⟨Unit,fun _=>[(1,.pv (fpv P)),(2,.pv (fpv Q)),(3,.ref 0 0),(4,.pv (.int .i64 0))],fun _=>1,fun _=>[(0,.var (cellsA a))],?_,?_⟩
 ·(try conv=>whnf);repeat' (first|(refine PureFn.dy hPa rfl ?_;try conv=>whnf)|fail)
  exact⟨(),(by exact Wk.sm rfl rfl rfl rfl rfl)⟩
 rintro⟨⟩
 refine⟨Unit,fun _=>[(1,.pv (fpv P)),(2,.pv (fpv Q)),(3,.ref 0 0),(4,.pv (.int .i64 0)),(5,.ref 1 0),(6,.pv (.int .i64 0))],fun _=>2,fun _=>[(0,.var (cellsA a)),(1,.var (cellsA b))],?_,?_⟩
 ·(try conv=>whnf);repeat' (first|(refine PureFn.dy hPb rfl ?_;try conv=>whnf)|fail)
  exact⟨(),(by exact Wk.sm rfl rfl rfl rfl rfl)⟩
 rintro⟨⟩
 refine⟨Unit,fun _=>[(1,.pv (fpv P)),(2,.pv (fpv Q)),(3,.ref 0 0),(4,.pv (.int .i64 0)),(6,.pv (.int .i64 0)),(7,.ref 2 0),(8,.pv (.int .i64 0))],fun _=>3,fun _=>[(0,.var (cellsA a)),(2,.var (cellsA c))],?_,?_⟩
 ·(try conv=>whnf);repeat' (first|(refine PureFn.dy hCo rfl ?_;try conv=>whnf)|fail)
  exact⟨(),(by exact Wk.sm rfl rfl rfl rfl rfl)⟩
 rintro⟨⟩
 refine⟨Unit,fun _=>[(1,.pv (fpv P)),(3,.ref 0 0)],fun _=>3,fun _=>[(0,.var (cellsA a))],?_,?_⟩
 ·(try conv=>whnf);repeat' (first|(apply And.intro<;>try conv=>whnf)|(intro h;try conv=>whnf)|apply True.intro|(apply infoT;rfl)|(apply WhenQ.mk;(try conv=>whnf);rotate_left;(try conv=>whnf);rotate_right)|with_reducible assumption|(apply not_of;with_reducible assumption)|(refine lin_plan (by kernel_rfl) ?_;try conv=>whnf)|(refine⟨_,_,rfl,idx_map (by with_reducible assumption),rfl,?_⟩;try conv=>whnf)|(refine⟨_,(by (conv=>whnf);exact hIm),rfl,?_⟩;try conv=>whnf)|(refine⟨_,(by (conv=>whnf);exact hAn),rfl,?_⟩;try conv=>whnf)|(refine⟨_,(by (conv=>whnf);exact hSm),rfl,?_⟩;try conv=>whnf)|fail)
  ·exact absurd (show (bif (bif (bif (bif ((0:Int) != 0) then true else ((0:Int) != 0)) then true else ((0:Int) != 0)) then true else (((c.pre.map fpv).length:Int) != 1)) then true else !true)=true from h) (by rw[hcl'];decide)
  ·exact⟨(),(by exact Wk.sm rfl rfl rfl rfl rfl)⟩
 rintro⟨⟩
 refine⟨Unit,fun _=>[(1,.pv (fpv P)),(3,.ref 0 0),(9,.ref 3 0),(10,.pv (.sl ([0,0].map intI))),(11,.pv (.int .i64 0))],fun _=>4,fun _=>[(0,.var (cellsA a)),(3,.var (cellsA S))],?_,?_⟩
 ·(try conv=>whnf);repeat' (first|(refine PureFn.dy hTr rfl ?_;try conv=>whnf)|(refine PureFn.dy hAn2 rfl ?_;try conv=>whnf)|(refine PureFn.dy hTw rfl ?_;try conv=>whnf)|(refine PureFn.dy hSf rfl ?_;try conv=>whnf)|fail)
  exact⟨(),(by exact Wk.sm rfl rfl rfl rfl rfl)⟩
 rintro⟨⟩
 refine⟨Unit,fun _=>[(1,.pv (fpv P)),(3,.ref 0 0),(9,.ref 3 0),(10,.pv (.sl ([0,0].map intI))),(11,.pv (.int .i64 0)),(12,.pv (.bool true)),(13,.pv (.int .i64 0))],fun _=>4,fun _=>[(0,.var (cellsA a)),(3,.var (cellsA S))],?_,?_⟩
 ·(try conv=>whnf);repeat' (first|(refine lin_plan (by kernel_rfl) ?_;try conv=>whnf)|(refine⟨_,(by (conv=>whnf);exact hN1),rfl,?_⟩;try conv=>whnf)|(refine⟨_,(by (conv=>whnf);exact hN2),rfl,?_⟩;try conv=>whnf)|(refine⟨_,(by (conv=>whnf);exact hTw2),rfl,?_⟩;try conv=>whnf)|(refine⟨_,(by (conv=>whnf);exact hAl1),rfl,?_⟩;try conv=>whnf)|fail)
  exact⟨(),(by exact Wk.sm rfl rfl rfl rfl rfl)⟩
 rintro⟨⟩
 refine⟨Unit,fun _=>[(1,.pv (fpv P)),(3,.ref 0 0),(9,.ref 3 0),(10,.pv (.sl ([0,0].map intI))),(11,.pv (.int .i64 0)),(12,.pv (.bool true)),(13,.pv (.int .i64 0)),(14,.ref 4 0),(15,.pv (.int .i64 0))],fun _=>5,fun _=>[(0,.var (cellsA a)),(3,.var (cellsA S)),(4,.var (cellsA sk))],?_,?_⟩
 ·(try conv=>whnf);repeat' (first|(refine PureFn.dy hSk rfl ?_;try conv=>whnf)|fail)
  exact⟨(),(by exact Wk.sm rfl rfl rfl rfl rfl)⟩
 rintro⟨⟩
 refine⟨Unit,fun _=>[(3,.ref 0 0),(9,.ref 3 0),(10,.pv (.sl ([0,0].map intI))),(11,.pv (.int .i64 0)),(12,.pv (.bool true)),(13,.pv (.int .i64 0)),(14,.ref 4 0),(15,.pv (.int .i64 0)),(16,.pv (.bool true)),(17,.pv (.int .i64 0))],fun _=>5,fun _=>[(0,.var (cellsA a)),(3,.var (cellsA S)),(4,.var (cellsA sk))],?_,?_⟩
 ·try conv=>whnf
  refine⟨Plan.ofL [0,1,2,3,4,6,7,5,8,9,10,11,12,13,14],[],by kernel_rfl,?_⟩
  (try conv=>whnf);repeat' (first|(apply And.intro<;>try conv=>whnf)|(apply cellsI;rfl)|(refine⟨_,(by (conv=>whnf);exact hN1),rfl,?_⟩;try conv=>whnf)|(refine⟨_,(by (conv=>whnf);exact hN2),rfl,?_⟩;try conv=>whnf)|(apply Or.inl;try conv=>whnf)|fail)
  ·rfl
  ·exact (show (0:Int)≤1 by decide)
  ·exact (show (1:Int)≤4294967296 by decide)
  refine⟨.tup [.bool true,.int .i64 0],?_,rfl,?_⟩
  ·exact And.intro rfl hAl3
  try conv=>whnf
  exact⟨(),(by exact Wk.sm rfl rfl rfl rfl rfl)⟩
 rintro⟨⟩
 refine⟨Unit,fun _=>[(3,.ref 0 0),(9,.ref 3 0),(10,.pv (.sl ([0,0].map intI))),(11,.pv (.int .i64 0)),(12,.pv (.bool true)),(13,.pv (.int .i64 0)),(14,.ref 4 0),(15,.pv (.int .i64 0)),(16,.pv (.bool true)),(17,.pv (.int .i64 0)),(18,.ref 5 0)],fun _=>6,fun _=>[(0,.var (cellsA a)),(3,.var (cellsA S)),(4,.var (cellsA sk)),(5,.var (cellsM ⟨1,[0],[[1]]⟩))],?_,?_⟩
 ·(try conv=>whnf);repeat' (first|(apply And.intro<;>try conv=>whnf)|(apply cellsI;rfl)|fail)
  exact⟨(),(by exact Wk.sm rfl rfl rfl rfl rfl)⟩
 rintro⟨⟩
 refine⟨Unit,fun _=>[(9,.ref 3 0),(10,.pv (.sl ([0,0].map intI))),(11,.pv (.int .i64 0)),(12,.pv (.bool true)),(13,.pv (.int .i64 0)),(15,.pv (.int .i64 0)),(16,.pv (.bool true)),(17,.pv (.int .i64 0)),(19,.pv (.int .i64 0)),(20,.pv (.int .i64 0))],fun _=>6,fun _=>[(3,.var (cellsA S))],?_,?_⟩
 ·(try conv=>whnf);repeat' (first|(refine PureFn.dy hDf rfl ?_;try conv=>whnf)|fail)
  exact⟨(),(by exact Wk.sm rfl rfl rfl rfl rfl)⟩
 rintro⟨⟩
 (try conv=>whnf);repeat' (first|(apply And.intro<;>try conv=>whnf)|(intro h;try conv=>whnf)|apply True.intro|(apply cellsI;rfl)|(apply WhenQ.mk;(try conv=>whnf);rotate_left;(try conv=>whnf);rotate_right)|with_reducible assumption|(refine PureFn.dy hRI rfl ?_;try conv=>whnf)|fail)
 refine le_bool ?_
 rw[hSl']
 kernel_rfl
def smallI (l:List Act):Bool:=bif l.all fun a=>fewI a 20 then decide ((l.length:Int)≤5) else false
theorem fn_small (l:List Act) (hl:l.length≤1000):PureFn Tryz.prog 12 [.sl (l.map Act.pv)] (.bool (smallI l)):=by
 refine PureFn.introC [7] mixed (fn:=Tryz.f12) rfl rfl rfl fun M w0 => ?_
 have e1:((l.map Act.pv).length:Int)=(l.length:Int):=by simp
 try conv=>whnf
 refine⟨{ _x:Unit // l.all (fun a=>fewI a 20)=true },fun _=>[(0,.pv (.sl (l.map Act.pv)))],fun _=>0,fun _=>[],?_,?_⟩
 ·try conv=>whnf
  refine⟨{ i:Nat // i≤l.length∧l.all (fun a=>fewI a 20)=(l.drop i).all fun a=>fewI a 20 },fun i=>[(0,.pv (.sl (l.map Act.pv))),(5,.pv (.sl (l.map Act.pv))),(6,.pv (i64 (l.map Act.pv).length)),(7,.pv (i64 i.1))],fun _=>0,fun _=>[],fun i=>l.length-i.1,⟨⟨0,Nat.zero_le _,rfl⟩,(by exact Wk.sm rfl rfl rfl rfl rfl)⟩,?_⟩
  rintro⟨i,hi,hs⟩
  (try conv=>whnf);repeat' (first|(apply And.intro<;>try conv=>whnf)|(intro h;try conv=>whnf)|(apply infoT;rfl)|fail)
  ·have hi':i<l.length:=by simpa using lt_dec h
   obtain⟨a,ha⟩:∃ a,l[i]? = some a:=⟨_,List.getElem?_eq_getElem hi'⟩
   have hF:=ra_Few a 20
   have hd:(l.drop i).all (fun a=>fewI a 20)=bif fewI a 20 then (l.drop (i+1)).all (fun a=>fewI a 20) else false:=by
    obtain⟨q1,q2⟩:=List.getElem?_eq_some_iff.1 ha
    rw[List.drop_eq_getElem_cons q1,q2,List.all_cons]
    cases fewI a 20<;>rfl
   rw[hd] at hs
   generalize fewI a 20=b at hF hs
   refine⟨_,_,rfl,idx_map ha,rfl,?_⟩
   (try conv=>whnf);repeat' (first|(apply And.intro<;>try conv=>whnf)|(intro h;try conv=>whnf)|(refine PureFn.dy hF rfl ?_;try conv=>whnf)|fail)
   ·have hb:b=false:=by simpa using (show (!b)=true from h)
    rw[hb,cond_false] at hs
    exact le_bool (by rw[smallI,hs];rfl)
   ·have hb:b=true:=by simpa using (show (!b)=false from h)
    rw[hb,cond_true] at hs
    exact⟨⟨i+1,hi',hs⟩,by show l.length-(i+1)<l.length-i;omega,(by refine Wk.of ?_ ?_ rfl rfl rfl<;>repeat' (first|exact trivial|exact WkD.same _|refine WkD.int ?_|refine⟨?_,?_⟩|(refine wrapA ?_ ?_ ?_;(focus simp;done);(focus (try dsimp only);omega);(focus (try dsimp only);omega))|fail))⟩
  ·have hi':i=l.length:=by have:=ge_dec (m:=(l.map Act.pv).length) h (by simpa using hi);simpa using this
   subst hi'
   rw[List.drop_length] at hs
   exact⟨⟨(),hs⟩,(by exact Wk.sm rfl rfl rfl rfl rfl)⟩
 rintro⟨_,hs⟩
 try conv=>whnf
 refine le_bool ?_
 rw[smallI,hs,e1];rfl
theorem few_smx {a:Act} (hf:Fit a) (h:fewI a 20=true):SmX a:=by
 obtain⟨_,_,k3,_,k5⟩:=few_ok h
 exact⟨hf,by omega,fun x hx=>by have:=(k5 x hx).1;omega⟩
def bisAt (m:Mo) (x y:Act×Int) (w:Nat):Bool:=bif bisE (atI m w x.1 x.2).1 (atI m w x.1 x.2).2.1 (atI m w y.1 y.2).1 (atI m w y.1 y.2).2.1 != 0 then false else bisB (atI m w x.1 x.2).1 (atI m w y.1 y.2).1 (atI m w x.1 x.2).2.1.toNat (atI m w y.1 y.2).2.1.toNat
theorem noMo_fit:FitM noMo:=⟨fun s hs=>(by cases hs),fun r hr=>(by cases hr)⟩
theorem at_fit {m:Mo} {w:Int} {a:Act} {e:Int}:FitM (atI m w a e).1:=by
 unfold atI
 cases h1:((updI m a).2.2 != 0) with
 |true=>exact noMo_fit
 |false =>
  cases badW m w with
  |true=>exact noMo_fit
  |false =>
   cases badEv a e with
   |true=>exact noMo_fit
   |false =>
    rw[cond_false,cond_false,cond_false]
    split
    ·exact noMo_fit
    ·obtain⟨k1,_,k3,k4,k5⟩:=updI_ok (m:=m) (a:=a) (by simpa using h1)
     rw[k3]
     obtain⟨⟨n,hM⟩,_⟩:=moaI_ok k1
     exact (prod_ok hM k4 k5).fit
theorem cdif_dif (m:Mo) (x y:Act×Int) (hf:FitM m) (hSx:SmX x.1) (hSy:SmX y.1):PureFn Tryz.prog 14 [m.pv,evP x,evP y] (difP (difI m x y (bisAt m x y))) :=
 cp_Differ m x y hf hSx hSy _ fun _ _ _ _ _=>⟨_,bs_Bisimilar _ _ _ _ at_fit at_fit⟩
theorem ple_app {l l' r:List PV} (h:PLe (.agg l) (.agg l')):PLe (.agg (l++r)) (.agg (l'++r)):=by
 cases h with
 |refl=>exact .refl _
 |agg _ _ hl h =>
  refine .agg _ _ (by simp[hl]) fun i p q hp hq => ?_
  by_cases hi:i<l.length
  ·rw[List.getElem?_append_left hi] at hp
   rw[List.getElem?_append_left (by omega)] at hq
   exact h i p q hp hq
  ·rw[List.getElem?_append_right (by omega)] at hp
   rw[List.getElem?_append_right (by omega),← hl,hp] at hq
   cases hq
   exact .refl _
theorem u_event:∃ fs:Array Field,Tryz.prog.underlying 31=some (.struct fs)∧fs.toList.map (·.type)=[29,3]:=⟨_,rfl,by kernel_rfl⟩
theorem arg_event {n:Nat} {p:PV} (h:TyA Tryz.prog (n+8) 31 p):∃ x:Act×Int,PLe p (evP x)∧Fit x.1:=by
 obtain⟨cs,h,rfl⟩:=h
 obtain⟨fs,hu,hf⟩:=u_event
 have hm:mkE Tryz.prog 31 cs=.agg cs:=by simp only[mkE,kindT,hu]
 obtain⟨a,b,r1,rfl,h1,hb,m1⟩:=fs_cons hf (tyS (n:=n+7) hu h)
 obtain⟨c,d,r2,rfl,h2,hd,m2⟩:=fs_cons m1 hb
 have:=fs_nil m2 hd
 subst this
 obtain⟨A,hA,hF⟩:=arg_act (n:=n) ⟨a,h1,rfl⟩
 obtain⟨i,rfl,_⟩:=int_of h2
 obtain⟨fs2,hu2,_⟩:=u_act
 have hm2:mkE Tryz.prog 29 a=.agg a:=by simp only[mkE,kindT,hu2]
 rw[hm2] at hA
 refine⟨(A,i),?_,hF⟩
 rw[hm]
 exact ple_app (r:=[.int .i64 i]) hA
end Go.Proofs.YtejbieopeicgkaaGreatDoor
