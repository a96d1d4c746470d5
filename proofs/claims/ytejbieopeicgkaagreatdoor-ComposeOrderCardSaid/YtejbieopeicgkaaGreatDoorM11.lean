/- Parts of the proof, one after the other: Action models one after the other: the product with their composition (plain). Action models one after the other: the product with their composition is the product of products (plain). Action models one after the other: the assignments of a pair of events walked. Action models one after the other: the assignments of a pair of events walked, out of the insertion's contract. slices.Insert at assignments: the library's text walked, over rows of two cells. slices.Insert at assignments: its contract over own arrays. Products one after the other: the program walked. The law TopComposedActions walked. -/
import Derived.WalkKit
import Derived.Lib.Walk
import Derived.Lib.SliceRun
import Derived.Lib.JoinLaws
import Derived.Lib.AppendZeros
import Derived.Lib.AppendZerosOnto
import Derived.Lib.Overlaps
import Derived.Laws.Externs
import Derived.Laws.CopyRow
import Derived.Laws.NewBlocks
import Derived.OwnWalk
import Derived.Shelf.RegionOpenPlain
import Derived.Test.YtejbieopeicgkaaGreatDoorM10
set_option maxRecDepth 100000
set_option maxHeartbeats 4000000
namespace Go.Proofs.YtejbieopeicgkaaGreatDoor
open Go Go.Dv
def lexP (x y:Nat×Nat):Prop:=x.1<y.1∨(x.1=y.1∧x.2<y.2)
theorem lex_asym (x y:Nat×Nat) (h:lexP x y):¬ lexP y x:=by
 unfold lexP at *;omega
theorem sorted_eq {α:Type} {R:α→α→Prop} (ha:∀ x y,R x y→¬ R y x):∀ {a b:List α},a.Pairwise R→b.Pairwise R→(∀ x,x∈a↔x∈b)→a=b
 | [],[],_,_,_=>rfl
 | [],y::s,_,_,h=>absurd ((h y).2 (by simp)) (by simp)
 |x::r,[],_,_,h=>absurd ((h x).1 (by simp)) (by simp)
 |x::r,y::s,h1,h2,h=>by
  rw[List.pairwise_cons] at h1 h2
  have hxy:x=y:=by
   have a1:=(h x).1 (by simp)
   have a2:=(h y).2 (by simp)
   rcases List.mem_cons.1 a1 with e|e
   ·exact e
   ·rcases List.mem_cons.1 a2 with e2|e2
    ·exact e2.symm
    ·exact absurd (h2.1 x e) (ha _ _ (h1.1 y e2))
  subst hxy
  congr 1
  refine sorted_eq ha h1.2 h2.2 fun z=>⟨fun hz => ?_,fun hz => ?_⟩
  ·rcases List.mem_cons.1 ((h z).1 (List.mem_cons_of_mem _ hz)) with e|e
   ·subst e;exact absurd (h1.1 z hz) fun q=>ha _ _ q q
   ·exact e
  ·rcases List.mem_cons.1 ((h z).2 (List.mem_cons_of_mem _ hz)) with e|e
   ·subst e;exact absurd (h2.1 z hz) fun q=>ha _ _ q q
   ·exact e
theorem pairsE_asc {p:Nat→Nat} {w:Nat}:∀ e,(pairsE p w e).Pairwise lexP
 |0=>.nil
 |e+1=>by
  rw[pairsE]
  cases (p e).testBit w with
  |false=>exact pairsE_asc e
  |true =>
   rw[cond_true,List.pairwise_append]
   refine⟨pairsE_asc e,List.pairwise_singleton _ _,fun a ha b hb => ?_⟩
   rw[List.mem_singleton.1 hb]
   obtain⟨h1,h2,_⟩:=pairsE_mem.1 ha
   exact .inr ⟨h1,h2⟩
theorem pairsW_asc {p:Nat→Nat} {k:Nat}:∀ n,(pairsW p k n).Pairwise lexP
 |0=>.nil
 |n+1=>by
  rw[pairsW,List.pairwise_append]
  refine⟨pairsW_asc n,pairsE_asc k,fun a ha b hb => ?_⟩
  have h1:=(pairsW_mem.1 ha).1
  have h2:=(pairsE_mem.1 hb).1
  exact .inl (by omega)
theorem joinN_bit {x y m:Nat} (hy:y<2^m) {e f:Nat} (hf:f<m):∀ g,(joinN x y m g).testBit (e*m+f)=(decide (e<g) && (x.testBit e && y.testBit f))
 |0=>by rw[joinN,Nat.zero_testBit];simp
 |g+1=>by
  have ih:=joinN_bit hy hf (e:=e) (x:=x) g
  have key:(y*2^(g*m)).testBit (e*m+f)=(decide (e=g) && y.testBit f):=by
   rw[Nat.testBit_mul_two_pow]
   rcases Nat.lt_trichotomy e g with q|q|q
   ·have h1:(e+1)*m≤g*m:=Nat.mul_le_mul_right _ q
    rw[Nat.succ_mul] at h1
    rw[decide_eq_false (show ¬ g*m≤e*m+f by omega),decide_eq_false (show ¬ e=g by omega),Bool.false_and,Bool.false_and]
   ·subst q
    rw[decide_eq_true (show e*m≤e*m+f by omega),decide_eq_true rfl,show e*m+f-e*m=f by omega]
   ·have h1:(g+1)*m≤e*m:=Nat.mul_le_mul_right _ q
    rw[Nat.succ_mul] at h1
    rw[decide_eq_false (show ¬ e=g by omega),Nat.testBit_lt_two_pow (Nat.lt_of_lt_of_le hy (Nat.pow_le_pow_right (by decide) (by omega)))]
    simp
  have hd:e≠g→decide (e<g+1)=decide (e<g):=fun q=>by simp only[decide_eq_decide];omega
  rw[joinN]
  cases hx:x.testBit g with
  |false =>
   rw[cond_false,ih]
   by_cases q:e=g
   ·subst q;rw[hx];simp
   ·rw[hd q]
  |true =>
   rw[cond_true,Nat.testBit_or,ih,key]
   by_cases q:e=g
   ·subst q;rw[hx];simp
   ·rw[decide_eq_false q,hd q];simp
theorem pair_ix {n k e f:Nat} (he:e<n) (hf:f<k):e*k+f<n*k:=by
 have:=Nat.mul_le_mul_right k (Nat.succ_le_of_lt he)
 rw[Nat.succ_mul] at this;omega
theorem ix_pair {n k q:Nat} (h:q<n*k):∃ e f,e<n∧f<k∧q=e*k+f:=by
 have hk:0<k:=by
  rcases Nat.eq_zero_or_pos k with rfl|h0
  ·simp at h
  ·exact h0
 refine⟨q / k,q % k,?_,Nat.mod_lt _ hk,?_⟩
 ·rw[Nat.div_lt_iff_lt_mul hk];exact h
 ·rw[Nat.mul_comm];exact (Nat.div_add_mod q k).symm
theorem rowC_bit {r s:List Nat} {n k e f e' f':Nat} (he:e<n) (hf:f<k) (he':e'<n) (hf':f'<k) (hs:s.getD f 0<2^k) :
  ((rowC r s n k).getD (e*k+f) 0).testBit (e'*k+f')=((r.getD e 0).testBit e' && (s.getD f 0).testBit f'):=by
 have h1:(rowC r s n k).getD (e*k+f) 0=joinN (r.getD e 0) (s.getD f 0) k n:=by
  rw[List.getD_eq_getElem?_getD,rowC,List.getElem?_map,prs_get he hf];rfl
 rw[h1,joinN_bit hs hf',decide_eq_true he',Bool.true_and]
theorem rowC_lt {r s:List Nat} {n k:Nat} (hs:∀ x,x∈s→x<2^k):∀ x,x∈rowC r s n k→x<2^(n*k):=fun x hx=>by
 obtain⟨q,_,rfl⟩:=List.mem_map.1 hx
 exact joinN_lt (getD_lt2 hs _) n
theorem chgs_cons {A F:Int} {x:Asg} {r:List Asg} {lo:Int}:chgs A F (x::r) lo=0↔(0≤x.fact∧x.fact<F)∧lo<x.fact∧statI A F x.to=0∧chgs A F r x.fact=0:=by
 rw[chgs]
 by_cases h1:x.fact<0
 ·rw[decide_eq_true h1]
  refine⟨fun h=>absurd (show (2:Int)=0 from h) (by decide),fun h => ?_⟩
  have:=h.1.1;omega
 by_cases h2:x.fact≥F
 ·rw[decide_eq_false h1,decide_eq_true h2]
  refine⟨fun h=>absurd (show (2:Int)=0 from h) (by decide),fun h => ?_⟩
  have:=h.1.2;omega
 rw[decide_eq_false h1,decide_eq_false h2]
 by_cases h3:x.fact≤lo
 ·rw[decide_eq_true h3]
  refine⟨fun h=>absurd (show (9:Int)=0 from h) (by decide),fun h => ?_⟩
  have:=h.2.1;omega
 rw[decide_eq_false h3]
 by_cases h4:statI A F x.to=0
 ·rw[h4]
  exact⟨fun h=>⟨⟨by omega,by omega⟩,by omega,rfl,h⟩,fun h=>h.2.2.2⟩
 ·rw[show (statI A F x.to != 0)=true by simpa using h4]
  exact⟨fun h=>absurd h h4,fun h=>absurd h.2.2.1 h4⟩
theorem chgs_asc {A F:Int}:∀ {l:List Asg} {lo:Int},chgs A F l lo=0→l.Pairwise (fun x y=>x.fact<y.fact)∧∀ x,x∈l→lo<x.fact∧0≤x.fact∧x.fact<F∧statI A F x.to=0
 | [],_,_=>⟨.nil,fun x hx=>by cases hx⟩
 |y::r,lo,h=>by
  obtain⟨⟨h1,h2⟩,h3,h4,h5⟩:=chgs_cons.1 h
  obtain⟨g1,g2⟩:=chgs_asc h5
  refine⟨List.pairwise_cons.2 ⟨fun z hz=>(g2 z hz).1,g1⟩,fun x hx => ?_⟩
  rcases List.mem_cons.1 hx with rfl|hx
  ·exact⟨h3,h1,h2,h4⟩
  ·obtain⟨q1,q2⟩:=g2 x hx
   exact⟨by omega,q2⟩
theorem chgs_ins {A F:Int} {x:Asg} (hx:0≤x.fact∧x.fact<F) (hs:statI A F x.to=0):∀ {l:List Asg} {lo:Int},chgs A F l lo=0→lo<x.fact→chgs A F (insA l x) lo=0
 | [],lo,_,hl=>chgs_cons.2 ⟨hx,hl,hs,rfl⟩
 |y::r,lo,h,hl=>by
  obtain⟨h1,h2,h3,h4⟩:=chgs_cons.1 h
  rw[insA]
  by_cases q1:y.fact<x.fact
  ·rw[decide_eq_true q1,cond_true]
   exact chgs_cons.2 ⟨h1,h2,h3,chgs_ins hx hs h4 q1⟩
  ·rw[decide_eq_false q1,cond_false]
   by_cases q2:y.fact=x.fact
   ·rw[decide_eq_true q2,cond_true]
    exact chgs_cons.2 ⟨h1,h2,hs,h4⟩
   ·rw[decide_eq_false q2,cond_false]
    exact chgs_cons.2 ⟨hx,hl,hs,chgs_cons.2 ⟨h1,by omega,h3,h4⟩⟩
theorem chgs_comp {A F:Nat}:∀ {l:List Asg} {lo:Int},chgs A F l lo=0→chgs A F (compA l) lo=0
 | [],_,_=>rfl
 |y::r,lo,h=>by
  obtain⟨h1,h2,h3,h4⟩:=chgs_cons.1 h
  exact chgs_cons.2 ⟨h1,h2,stat_comp h3,chgs_comp h4⟩
theorem valL_ins {i:Int} {x:Asg}:∀ {l:List Asg},valL i (insA l x)=bif x.fact==i then comp x.to else valL i l
 | []=>rfl
 |y::r=>by
  rw[insA]
  by_cases h1:y.fact<x.fact
  ·rw[decide_eq_true h1,cond_true,valL,valL_ins,valL]
   by_cases e:x.fact=i
   ·rw[show (y.fact==i)=false by simp;omega];rfl
   ·rw[show (x.fact==i)=false by simpa using e];rfl
  ·rw[decide_eq_false h1,cond_false]
   by_cases h2:y.fact=x.fact
   ·rw[decide_eq_true h2,cond_true,valL,valL,h2]
    cases (x.fact==i)<;>rfl
   ·rw[decide_eq_false h2,cond_false];rfl
theorem valL_comp {i:Int}:∀ {l:List Asg},(∀ x,x∈l→check x.to=0)→valL i (compA l)=valL i l
 | [],_=>rfl
 |y::r,h=>by
  show (bif y.fact==i then comp (comp y.to) else valL i (compA r))=bif y.fact==i then comp y.to else valL i r
  rw[comp_comp (h y (by simp)),valL_comp fun x hx=>h x (List.mem_cons_of_mem _ hx)]
theorem addE_cons {a:Act} {e:Nat} {out:List Asg} {x:Asg} {r:List Asg}:addE a e out (x::r)=match aftE a e x.to with
  |.error c=>.error c
  |.ok to=>addE a e (insA out ⟨x.fact,to⟩) r:=rfl
theorem addE_not {a:Act} {e:Nat} {i:Int}:∀ (s out l:List Asg),addE a e out s=.ok l→(∀ x,x∈s→x.fact≠i)→valL i l=valL i out:=by
 intro s
 induction s with
 |nil=>intro out l h _;cases h;rfl
 |cons z s ih =>
  intro out l h hn
  rw[addE_cons] at h
  cases hz:aftE a e z.to with
  |error c=>rw[hz] at h;cases h
  |ok t2 =>
   rw[hz] at h
   have hzi:((⟨z.fact,t2⟩:Asg).fact==i)=false:=by
    have:=hn z (by simp)
    simpa using this
   rw[ih _ _ h fun x hx=>hn x (List.mem_cons_of_mem _ hx),valL_ins,hzi];rfl
theorem addE_val {a:Act} {e:Nat} {i:Int}:∀ (s out l:List Asg),addE a e out s=.ok l→s.Pairwise (fun x y=>x.fact<y.fact) →
  (∃ x to,x∈s∧aftE a e x.to=.ok to∧valL i l=comp to∧valL i s=comp x.to)∨(valL i l=valL i out∧valL i s=buildL (nI 3 i) []):=by
 intro s
 induction s with
 |nil =>
  intro out l h _
  cases h
  exact .inr ⟨rfl,rfl⟩
 |cons y r ih =>
  intro out l h hp
  have hp2:=List.pairwise_cons.1 hp
  rw[addE_cons] at h
  cases hy:aftE a e y.to with
  |error c=>rw[hy] at h;cases h
  |ok to =>
   rw[hy] at h
   have h:addE a e (insA out ⟨y.fact,to⟩) r=.ok l:=h
   by_cases q:y.fact=i
   ·have hb:(y.fact==i)=true:=by simpa using q
    have hb':((⟨y.fact,to⟩:Asg).fact==i)=true:=hb
    refine .inl ⟨y,to,by simp,hy,?_,by rw[valL,hb];rfl⟩
    rw[addE_not r _ _ h fun x hx=>by have:=hp2.1 x hx;omega,valL_ins,hb'];rfl
   ·have hb:(y.fact==i)=false:=by simpa using q
    have hb':((⟨y.fact,to⟩:Asg).fact==i)=false:=hb
    rcases ih _ _ h hp2.2 with⟨x,t,hx,ha,hv,hs⟩|⟨hv,hs⟩
    ·exact .inl ⟨x,t,List.mem_cons_of_mem _ hx,ha,hv,by rw[valL,hb,cond_false,hs]⟩
    ·exact .inr ⟨by rw[hv,valL_ins,hb'];rfl,by rw[valL,hb,cond_false,hs]⟩
theorem aftE_inv {a:Act} {e:Nat} {f g:List Nd} (h:aftE a e f=.ok g):check f=0∧e<a.pre.length∧(and64 (frags f:Nat) 8 != 0)=false∧Can g∧root g=aftT a (root f) e:=by
 have h0:aftI a e f=(g,0):=by
  unfold aftE at h
  generalize aftI a e f=X at h
  obtain⟨z,c⟩:=X
  by_cases q:c=0
  ·subst q;cases h;rfl
  ·have h:(bif c != 0 then Except.error c else Except.ok z)=Except.ok g:=h
   rw[show (c != 0)=true by simpa using q] at h;cases h
 have h2:=congrArg Prod.snd h0
 unfold aftI at h0 h2
 have h2:(bif chkI a != 0 then (([]:List Nd),chkI a) else bif check f != 0 then ([],check f) else bif badEv a e then ([],6)
  else bif (bif !stB f then true else and64 (frags f:Nat) 8 != 0) then ([],10) else bif !fits f (min (a.rel.length:Int) 4) 8 then ([],2) else aftF a (e:Int).toNat (comp f)).2=0:=h2
 by_cases q1:¬ (chkI a=0)
 ·rw[show (chkI a != 0)=true by simpa using q1] at h2;exact absurd h2 q1
 have q1:=Classical.not_not.1 q1
 rw[q1] at h0 h2
 by_cases q2:¬ (check f=0)
 ·rw[show (check f != 0)=true by simpa using q2] at h2;exact absurd h2 q2
 have q2:=Classical.not_not.1 q2
 rw[q2] at h0 h2
 cases q3:badEv a e with
 |true=>rw[q3] at h2;exact absurd (show (6:Int)=0 from h2) (by decide)
 |false =>
  rw[q3] at h0 h2
  cases q4:(bif !stB f then true else and64 (frags f:Nat) 8 != 0) with
  |true=>rw[q4] at h2;exact absurd (show (10:Int)=0 from h2) (by decide)
  |false =>
   rw[q4] at h0 h2
   cases q5:fits f (min (a.rel.length:Int) 4) 8 with
   |false=>rw[q5] at h2;exact absurd (show (2:Int)=0 from h2) (by decide)
   |true =>
    rw[q5] at h0 h2
    have h0:aftF a (e:Int).toNat (comp f)=(g,0):=h0
    rw[Int.toNat_natCast] at h0
    obtain⟨k,hk,he⟩:=badEv_no q3
    obtain rfl:e=k:=by omega
    obtain⟨g1,g2⟩:=aftF_tree he (comp_okl f) (comp_pos q2) (by rw[h0])
    rw[h0] at g1 g2
    rw[root_comp q2] at g2
    exact⟨q2,he,(or_ff' q4).2,g1,g2⟩
theorem frags_comp {f:List Nd} (h:check f=0):frags (comp f)=frags f:=by
 rw[frags,comp_comp h];rfl
theorem aft_stat {a:Act} {A F e:Nat} (hF:F≤8) (hA:actI a A F=0) {f g:List Nd} (hf:statI A F f=0) (h:aftE a e f=.ok g):Can g∧root g=aftT a (root f) e∧statI A F g=0∧frT A F (root f)∧root f≠.none∧swT (root f):=by
 obtain⟨h1,h2,h3,h4,h5⟩:=aftE_inv h
 have hQ:=all_stat hf
 have hc:=comp_can h1
 have h41:A≤4:=by
  have h6:=(actI_ok hA).ags
  have:=(actI_ok hA).agn
  omega
 have hq:allT (rgQ (stM A F)) (root (comp f))=true:=by rw[root_comp h1];exact hQ
 have h6:=can_fr h41 hc hq (by rw[frags_comp h1];exact h3)
 have h7:=can_sw hc hq
 rw[root_comp h1] at h6 h7
 exact⟨h4,h5,stat_all h4 (by rw[h5];exact aftT_all (stM_clo A F) (act_Q hF hA) _ hQ e),h6,h7.1,h7.2⟩
structure Cmp (a b c:Act):Prop where
 a0:aloneI a=0
 b0:aloneI b=0
 rl:a.rel.length=b.rel.length
 n8:a.pre.length*b.pre.length≤8
 len:c.pre.length=a.pre.length*b.pre.length
 plen:c.post.length=a.pre.length*b.pre.length
 rel:c.rel=relsC a b
 cell:∀ e f,e<a.pre.length→f<b.pre.length→∃ g,aftE a e (b.pre.getD f [])=.ok g∧c.pre.getD (e*b.pre.length+f) []=buildL (n0 5) [a.pre.getD e [],g]∧buildL (n0 5) [a.pre.getD e [],g]≠[]∧asgE a e (b.post.getD f [])=.ok (c.post.getD (e*b.pre.length+f) [])
theorem cell_inv {a b:Act} {e f:Nat} {p:List Nd} {l:List Asg} (h:cellE a b (e,f)=.ok (p,l)):∃ g,aftE a e (b.pre.getD f [])=.ok g∧p=buildL (n0 5) [a.pre.getD e [],g]∧buildL (n0 5) [a.pre.getD e [],g]≠[]∧asgE a e (b.post.getD f [])=.ok l:=by
 rw[cellE_eq rfl rfl rfl] at h
 cases hg:aftE a e (b.pre.getD f []) with
 |error c=>rw[hg] at h;cases h
 |ok g =>
  rw[hg] at h
  have h:(bif (buildL (n0 5) [a.pre.getD e [],g]).isEmpty then Except.error 8 else match asgE a e (b.post.getD f []) with
   |.error c=>.error c
   |.ok l=>.ok (buildL (n0 5) [a.pre.getD e [],g],l))=Except.ok (p,l):=h
  cases hq:(buildL (n0 5) [a.pre.getD e [],g]).isEmpty with
  |true=>rw[hq] at h;cases h
  |false =>
   rw[hq,cond_false] at h
   cases hl:asgE a e (b.post.getD f []) with
   |error c=>rw[hl] at h;cases h
   |ok l' =>
    rw[hl] at h
    cases h
    exact⟨g,rfl,rfl,fun q=>(by rw[q] at hq;cases hq),rfl⟩
theorem cmp_of {a b c:Act} (h:composeI a b=(c,0)):Cmp a b c:=by
 have h2:=congrArg Prod.snd h
 unfold composeI at h h2
 by_cases q1:¬ (aloneI a=0)
 ·rw[show (aloneI a != 0)=true by simpa using q1] at h2;exact absurd h2 q1
 have q1:=Classical.not_not.1 q1
 rw[q1] at h h2
 by_cases q2:¬ (aloneI b=0)
 ·rw[show (aloneI b != 0)=true by simpa using q2] at h2;exact absurd h2 q2
 have q2:=Classical.not_not.1 q2
 rw[q2] at h h2
 by_cases q3:¬ (a.rel.length=b.rel.length)
 ·rw[show ((a.rel.length:Int) != (b.rel.length:Int))=true by simp;omega] at h2
  exact absurd (show (1:Int)=0 from h2) (by decide)
 have q3:=Classical.not_not.1 q3
 rw[show ((a.rel.length:Int) != (b.rel.length:Int))=false by simp;omega] at h h2
 by_cases q4:(a.pre.length:Int)*(b.pre.length:Int)>8
 ·rw[decide_eq_true q4] at h2
  exact absurd (show (8:Int)=0 from h2) (by decide)
 rw[decide_eq_false q4] at h h2
 have q4:a.pre.length*b.pre.length≤8:=by
  have:((a.pre.length*b.pre.length:Nat):Int)=(a.pre.length:Int)*(b.pre.length:Int):=by simp
  omega
 cases hr:runE (cellE a b) (prs a.pre.length b.pre.length) with
 |error d =>
  rw[hr] at h
  have h:(noAct,d)=(c,0):=h
  cases h
  exfalso
  have key:∀ (l:List (Nat×Nat)),runE (cellE a b) l≠.error 0:=by
   intro l
   induction l with
   |nil=>intro q;cases q
   |cons x r ih =>
    intro q
    rw[runE] at q
    cases hx:cellE a b x with
    |error d =>
     rw[hx] at q
     cases q
     obtain⟨e,f⟩:=x
     rw[cellE_eq rfl rfl rfl] at hx
     have aft0:∀ v,aftE a e v≠.error 0:=by
      intro v q
      unfold aftE at q
      generalize aftI a e v=X at q
      obtain⟨z,d⟩:=X
      by_cases q5:d=0
      ·subst q5;cases q
      ·have q:(bif d != 0 then Except.error d else Except.ok z)=(Except.error 0:Except Int (List Nd)):=q
       rw[show (d != 0)=true by simpa using q5] at q
       cases q
       exact q5 rfl
     cases hg:aftE a e (b.pre.getD f []) with
     |error d=>rw[hg] at hx;cases hx;exact aft0 _ hg
     |ok g =>
      rw[hg] at hx
      have hx:(bif (buildL (n0 5) [a.pre.getD e [],g]).isEmpty then Except.error 8 else match asgE a e (b.post.getD f []) with
       |.error c=>.error c
       |.ok l=>.ok (buildL (n0 5) [a.pre.getD e [],g],l))=Except.error 0:=hx
      cases hq:(buildL (n0 5) [a.pre.getD e [],g]).isEmpty with
      |true=>rw[hq] at hx;cases hx
      |false =>
       rw[hq,cond_false] at hx
       have add0:∀ (s out:List Asg),addE a e out s≠.error 0:=by
        intro s
        induction s with
        |nil=>intro out q;cases q
        |cons y s ih =>
         intro out q
         rw[addE_cons] at q
         cases hy:aftE a e y.to with
         |error d=>rw[hy] at q;cases q;exact aft0 _ hy
         |ok to=>rw[hy] at q;exact ih _ q
       cases hl:asgE a e (b.post.getD f []) with
       |error d=>rw[hl] at hx;cases hx;exact add0 _ _ hl
       |ok l'=>rw[hl] at hx;cases hx
    |ok y =>
     rw[hx] at q
     simp only at q
     cases hr2:runE (cellE a b) r with
     |error d=>rw[hr2] at q;cases q;exact ih hr2
     |ok l=>rw[hr2] at q;cases q
  exact key _ hr
 |ok l =>
  rw[hr] at h
  have h:((⟨l.map (·.1),l.map (·.2),relsC a b⟩:Act),(0:Int))=(c,0):=h
  cases h
  have hl:=runE_len hr
  rw[prs_len] at hl
  refine⟨q1,q2,q3,q4,by simpa using hl,by simpa using hl,rfl,fun e f he hf => ?_⟩
  obtain⟨⟨p,q⟩,g1,g2⟩:=runE_get hr (prs_get he hf)
  obtain⟨g,k1,k2,k3,k4⟩:=cell_inv g2
  have e1:(l.map (·.1)).getD (e*b.pre.length+f) []=p:=by rw[List.getD_eq_getElem?_getD,List.getElem?_map,g1];rfl
  have e2:(l.map (·.2)).getD (e*b.pre.length+f) []=q:=by rw[List.getD_eq_getElem?_getD,List.getElem?_map,g1];rfl
  exact⟨g,k1,by show (l.map (·.1)).getD _ []=_;rw[e1,k2],k3,by show asgE a e _=.ok ((l.map (·.2)).getD _ []);rw[e2];exact k4⟩
theorem addE_chgs {a:Act} {A F e:Nat} (hF:F≤8) (hA:actI a A F=0):∀ {s out l:List Asg},addE a e out s=.ok l→chgs A F out (-1)=0→(∀ x,x∈s→0≤x.fact∧x.fact<F∧statI A F x.to=0)→chgs A F l (-1)=0
 | [],out,l,h,ho,_=>by cases h;exact ho
 |y::r,out,l,h,ho,hs=>by
  rw[addE_cons] at h
  obtain⟨h1,h2,h3⟩:=hs y (by simp)
  cases hy:aftE a e y.to with
  |error c=>rw[hy] at h;cases h
  |ok to =>
   rw[hy] at h
   exact addE_chgs hF hA h (chgs_ins (x:=⟨y.fact,to⟩) ⟨h1,h2⟩ (aft_stat hF hA h3 hy).2.2.1 ho (by show (-1:Int)<y.fact;omega)) fun x hx=>hs x (List.mem_cons_of_mem _ hx)
theorem act_mk {a:Act} {A F:Nat} (hA:A≤4) (hF:F≤8) (h1:1≤a.pre.length) (h8:a.pre.length≤8) (hp:a.post.length=a.pre.length) (hr:a.rel.length=A) (hrows:∀ r,r∈a.rel→r.length=a.pre.length)
  (hb:∀ r,r∈a.rel→∀ s,s∈r→s<2^a.pre.length) (hs:∀ f,f∈a.pre→statI A F f=0) (hc:∀ l,l∈a.post→chgs A F l (-1)=0):actI a A F=0:=by
 have hrb:rowsBad a.rel a.pre.length=false:=by
  rw[rowsBad,List.any_eq_false]
  intro r h
  rw[hrows r h];simp
 have hbb:bitsBad a.rel a.pre.length=false:=by
  rw[bitsBad,List.any_eq_false]
  intro r h hh
  obtain⟨s,hs,hd⟩:=List.any_eq_true.1 hh
  have:=len64_lt.2 (hb r h s hs)
  have:=of_decide_eq_true hd
  omega
 have hsh:shapeI a A=0:=by
  unfold shapeI
  rw[hp,hrb,hbb,hr,decide_eq_false (by omega),decide_eq_false (by omega)]
  simp
 rw[actI,decide_eq_false (show ¬ (A:Int)<0 by omega),decide_eq_false (show ¬ (A:Int)>4 by omega),decide_eq_false (show ¬ (F:Int)<0 by omega),decide_eq_false (show ¬ (F:Int)>8 by omega),hsh]
 exact evs_zero hs hc
theorem act_ag {a:Act} {A F:Nat} (h:actI a A F=0):a.rel.length=A∧A≤4:=by
 have h1:=(actI_ok h).ags
 have h2:=(actI_ok h).agn
 omega
theorem pre_stat {a:Act} {A F e:Nat} (h:actI a A F=0) (he:e<a.pre.length):statI A F (a.pre.getD e [])=0 :=
 (evs_all (actI_ok h).ev).1 _ (List.mem_iff_getElem?.2 ⟨e,getD_mem he (d:=[])⟩)
theorem post_chgs {a:Act} {A F e:Nat} (h:actI a A F=0) (he:e<a.pre.length):chgs A F (a.post.getD e []) (-1)=0:=(evs_all (actI_ok h).ev).2 e he
section
variable {a b c:Act}
theorem cmp_act {A F:Nat} (h:Cmp a b c) (hF:F≤8) (hA:actI a A F=0) (hB:actI b A F=0):actI c A F=0:=by
 obtain⟨r1,r2⟩:=act_ag hA
 have oA:=actI_ok hA
 have oB:=actI_ok hB
 have a1:=oA.n1
 have b1:=oB.n1
 have hn8:=h.n8
 have hpos:1≤a.pre.length*b.pre.length:=Nat.mul_pos a1 b1
 have hl:=h.len
 refine act_mk r2 hF (by omega) (by omega) (by rw[h.plen,hl]) ?_ (fun r hr => ?_) (fun r hr s hs => ?_) (fun p hp => ?_) (fun l hl2 => ?_)
 ·rw[h.rel,relsC,List.length_map,List.length_range,r1]
 ·rw[h.rel] at hr
  obtain⟨i,_,rfl⟩:=List.mem_map.1 hr
  rw[rowC,List.length_map,prs_len,hl]
 ·rw[h.rel] at hr
  obtain⟨i,hi,rfl⟩:=List.mem_map.1 hr
  have hi:=List.mem_range.1 hi
  rw[hl]
  exact rowC_lt (oB.bits _ (List.mem_iff_getElem?.2 ⟨i,getD_mem (by rw[← h.rl];exact hi) (d:=[])⟩)) s hs
 ·obtain⟨q,hq,rfl⟩:=List.mem_iff_getElem.1 hp
  obtain⟨e,f,he,hf,hqe⟩:=ix_pair (show q<a.pre.length*b.pre.length by omega)
  obtain⟨g,k1,k2,k3,_⟩:=h.cell e f he hf
  have hpq:c.pre[q]=buildL (n0 5) [a.pre.getD e [],g]:=by
   rw[← k2,← hqe,List.getD_eq_getElem?_getD,List.getElem?_eq_getElem hq];rfl
  rw[hpq]
  obtain⟨_,_,hC,hT⟩:=two_inv (op:=5) (by simp) k3
  refine stat_all hC ?_
  rw[hT,allT,Bool.and_eq_true,Bool.and_eq_true]
  exact⟨⟨(stM_clo A F).an,all_stat (pre_stat hA he)⟩,all_stat (aft_stat hF hA (pre_stat hB hf) k1).2.2.1⟩
 ·obtain⟨q,hq,rfl⟩:=List.mem_iff_getElem.1 hl2
  obtain⟨e,f,he,hf,hqe⟩:=ix_pair (show q<a.pre.length*b.pre.length by rw[← h.plen];exact hq)
  obtain⟨g,_,_,_,k4⟩:=h.cell e f he hf
  have hpq:c.post[q]=c.post.getD (e*b.pre.length+f) []:=by
   rw[← hqe,List.getD_eq_getElem?_getD,List.getElem?_eq_getElem hq];rfl
  rw[hpq]
  exact addE_chgs hF hA k4 (chgs_comp (post_chgs hA he)) fun x hx=>by
   obtain⟨_,q2,q3,q4⟩:=(chgs_asc (post_chgs hB hf)).2 x hx
   exact⟨q2,q3,q4⟩
variable {m:Mo} {n:Nat}
theorem valI_eq {e i:Nat} (h:moaI m a=0) (he:e<a.pre.length) (hi:i<m.val.length):(valI a e i).1=valL i (a.post.getD e []):=by
 obtain⟨⟨k,hM⟩,hA⟩:=moaI_ok h
 have h1:=(act_alone hM.fa hA).1
 have hF:=hM.fa
 have h2:badEv a (e:Int)=false:=by
  unfold badEv
  rw[decide_eq_false (by omega),decide_eq_false (by omega)];rfl
 have h3:badF (i:Int)=false:=by
  unfold badF
  rw[decide_eq_false (by omega),decide_eq_false (by omega)];rfl
 rw[valI,h1,h2,h3];rfl
theorem poss_vl (hM:OkM m n) (hA:actI a m.rel.length m.val.length=0) {e:Nat} (he:e<a.pre.length):possP m a e=vlT m n (root (a.pre.getD e [])):=by
 rw[possP,holds_of hM (pre_stat hA he) rfl]
theorem valu_vl (hM:OkM m n) (hA:actI a m.rel.length m.val.length=0) {e i:Nat} (he:e<a.pre.length) (hi:i<m.val.length):valuP m a e i=vlT m n (root (valL i (a.post.getD e []))):=by
 have hmo:moaI m a=0:=by rw[moaI,ok_moI hM];exact hA
 have hs:=valI_fit hmo he hi
 rw[valI_eq hmo he hi] at hs
 rw[valuP,valI_eq hmo he hi,holds_of hM hs rfl]
theorem pairs_mem (hM:OkM m n) {w e:Nat}:(w,e)∈pairsL m a↔w<n∧e<a.pre.length∧(possP m a e).testBit w=true:=by
 rw[pairsL,hM.nn,Int.toNat_natCast]
 exact pairsW_mem
theorem pr_of (hM:OkM m n) (hA:actI a m.rel.length m.val.length=0) (h1:1≤(pairsL m a).length) (h64:(pairsL m a).length≤64):Pr m n a (pairsL m a):=⟨hM,hA,fun _ _=>pairs_mem hM,h1,h64⟩
section
variable (h:Cmp a b c) (hA:actI a m.rel.length m.val.length=0) (hB:actI b m.rel.length m.val.length=0)
include h hA hB in
theorem cmp_poss (hM:OkM m n) {e f:Nat} (he:e<a.pre.length) (hf:f<b.pre.length):∃ g,aftE a e (b.pre.getD f [])=.ok g∧possP m c (e*b.pre.length+f)=possP m a e&&&vlT m n (root g):=by
 obtain⟨g,k1,k2,k3,_⟩:=h.cell e f he hf
 obtain⟨_,_,_,hT⟩:=two_inv (op:=5) (by simp) k3
 refine⟨g,k1,?_⟩
 rw[poss_vl hM (cmp_act h hM.fa hA hB) (by rw[h.len];exact pair_ix he hf),k2,hT,vlT,vl5,poss_vl hM hA he]
variable (hP:Pr m n a (pairsL m a))
include hP in
theorem aft_at {e:Nat} {v g:List Nd} (hv:statI m.rel.length m.val.length v=0) (hg:aftE a e v=.ok g) {k w:Nat} (hk:(pairsL m a)[k]? = some (w,e)):(vlT (prodM m a (pairsL m a)) (pairsL m a).length (root v)).testBit k=(vlT m n (root g)).testBit w:=by
 obtain⟨_,h2,_,h4,_,h6⟩:=aft_stat hP.okm.fa hP.act hv hg
 rw[h2]
 exact aft_ag hP (root v) h6 h4 k w e hk
theorem prod_lens:(prodM m a (pairsL m a)).rel.length=m.rel.length∧(prodM m a (pairsL m a)).val.length=m.val.length:=by simp[prodM]
include h hB hP in
theorem cmp_key {k w e f:Nat} (hk:(pairsL m a)[k]? = some (w,e)) (hf:f<b.pre.length):(possP m c (e*b.pre.length+f)).testBit w=(possP (prodM m a (pairsL m a)) b f).testBit k:=by
 obtain⟨_,_,he,hw⟩:=pr_at hP hk
 obtain⟨g,k1,k2⟩:=cmp_poss h hP.act hB hP.okm he hf
 have hB':actI b (prodM m a (pairsL m a)).rel.length (prodM m a (pairsL m a)).val.length=0:=by rw[prod_lens.1,prod_lens.2];exact hB
 rw[k2,Nat.testBit_and,hw,Bool.true_and,poss_vl hP.okp hB' hf,aft_at hP (pre_stat hB hf) k1 hk]
def phiP (l:List (Nat×Nat)) (k:Nat) (x:Nat×Nat):Nat×Nat:=((l.getD x.1 (0,0)).1,(l.getD x.1 (0,0)).2*k+x.2)
include h hB hP in
theorem cmp_pairs:pairsL m c=(pairsL (prodM m a (pairsL m a)) b).map (phiP (pairsL m a) b.pre.length):=by
 have hM:=hP.okm
 have hM1:=hP.okp
 have hasc:(pairsL m a).Pairwise lexP:=pairsW_asc _
 refine sorted_eq lex_asym (pairsW_asc _) ?_ ?_
 ·rw[List.pairwise_map]
  refine List.Pairwise.imp_of_mem (fun {x y} hx hy hxy => ?_) (pairsW_asc (p:=possP (prodM m a (pairsL m a)) b) (k:=b.pre.length) (prodM m a (pairsL m a)).n.toNat)
  obtain⟨k,f⟩:=x
  obtain⟨k',f'⟩:=y
  obtain⟨x1,x2,_⟩:=(pairs_mem hM1).1 hx
  obtain⟨y1,y2,_⟩:=(pairs_mem hM1).1 hy
  show lexP ((_:Nat),_) ((_:Nat),_)
  rcases hxy with q|⟨q1,q2⟩
  ·have q:k<k':=q
   have h1:=getD_mem x1 (d:=(0,0))
   have h2:=getD_mem y1 (d:=(0,0))
   have h3:lexP ((pairsL m a).getD k (0,0)) ((pairsL m a).getD k' (0,0)):=by
    rw[List.pairwise_iff_getElem] at hasc
    have:=hasc k k' x1 y1 q
    rw[List.getElem?_eq_getElem x1] at h1
    rw[List.getElem?_eq_getElem y1] at h2
    rw[← Option.some.inj h1,← Option.some.inj h2]
    exact this
   rcases h3 with g|⟨g1,g2⟩
   ·exact .inl g
   ·refine .inr ⟨g1,?_⟩
    have:=pair_ix (n:=((pairsL m a).getD k' (0,0)).2) (k:=b.pre.length) g2 x2
    show ((pairsL m a).getD k (0,0)).2*b.pre.length+f<((pairsL m a).getD k' (0,0)).2*b.pre.length+f'
    omega
  ·have q1:k=k':=q1
   have q2:f<f':=q2
   subst q1
   exact .inr ⟨rfl,by show ((pairsL m a).getD k (0,0)).2*b.pre.length+f<((pairsL m a).getD k (0,0)).2*b.pre.length+f';omega⟩
 ·rintro⟨w,q⟩
  rw[List.mem_map]
  constructor
  ·intro hx
   obtain⟨h1,h2,h3⟩:=(pairs_mem hM).1 hx
   rw[h.len] at h2
   obtain⟨e,f,he,hf,rfl⟩:=ix_pair h2
   obtain⟨g,k1,k2⟩:=cmp_poss h hP.act hB hM he hf
   have h4:=h3
   rw[k2,Nat.testBit_and,Bool.and_eq_true] at h4
   obtain⟨k,hk⟩:=List.mem_iff_getElem?.1 ((pairs_mem hM).2 ⟨h1,he,h4.1⟩)
   refine⟨(k,f),(pairs_mem hM1).2 ⟨(pr_at hP hk).1,hf,by rw[← cmp_key h hB hP hk hf];exact h3⟩,?_⟩
   rw[phiP,getD_ofX hk]
  ·rintro⟨⟨k,f⟩,hx,hxe⟩
   obtain⟨h1,h2,h3⟩:=(pairs_mem hM1).1 hx
   have hk:=getD_mem h1 (d:=(0,0))
   generalize hy:(pairsL m a).getD k (0,0)=y at hk
   obtain⟨w',e⟩:=y
   rw[phiP,show ((k,f):Nat×Nat).1=k from rfl,hy] at hxe
   obtain⟨rfl,rfl⟩:=Prod.mk.inj hxe
   obtain⟨_,g1,g2,_⟩:=pr_at hP hk
   exact (pairs_mem hM).2 ⟨g1,by rw[h.len];exact pair_ix g2 h2,by rw[cmp_key h hB hP hk h2];exact h3⟩
include h hB hP in
theorem cmp_val {k w e f i:Nat} (hk:(pairsL m a)[k]? = some (w,e)) (hf:f<b.pre.length) (hi:i<m.val.length):(valuP m c (e*b.pre.length+f) i).testBit w=(valuP (prodM m a (pairsL m a)) b f i).testBit k:=by
 obtain⟨hkl,hw,he,_⟩:=pr_at hP hk
 obtain⟨g,_,_,_,k4⟩:=h.cell e f he hf
 have hM:=hP.okm
 have hA:=hP.act
 have hC:=cmp_act h hM.fa hA hB
 have hB':actI b (prodM m a (pairsL m a)).rel.length (prodM m a (pairsL m a)).val.length=0:=by rw[prod_lens.1,prod_lens.2];exact hB
 have hi':i<(prodM m a (pairsL m a)).val.length:=by rw[prod_lens.2];exact hi
 obtain⟨b1,b2⟩:=chgs_asc (post_chgs hB hf)
 obtain⟨a1,a2⟩:=chgs_asc (post_chgs hA he)
 rw[valu_vl hM hC (by rw[h.len];exact pair_ix he hf) hi,valu_vl hP.okp hB' hf hi']
 rcases addE_val (i:=(i:Int)) _ _ _ k4 b1 with⟨x,to,hx,hto,v1,v2⟩|⟨v1,v2⟩
 ·have hs:=(b2 x hx).2.2.2
  have ht:=(aft_stat hM.fa hA hs hto).1.check
  rw[v1,v2,root_comp ht,root_comp (statM_iff.1 hs).1]
  exact (aft_at hP hs hto hk).symm
 ·rw[v1,v2,valL_comp fun x hx=>(statM_iff.1 (a2 x hx).2.2.2).1,← valu_vl hM hA he hi]
  have h1:=holds_fact hP.okp hi'
  have hs:statI (prodM m a (pairsL m a)).rel.length (prodM m a (pairsL m a)).val.length (buildL (nI 3 (i:Int)) [])=0:=stat_fact hi' (by rw[prod_lens.2];exact hM.fa)
  rw[holds_of hP.okp hs rfl] at h1
  have h1:=congrArg Prod.fst h1
  simp only at h1
  rw[h1]
  show (valuP m a e i).testBit w=(((List.range m.val.length).map (valP m a (pairsL m a))).getD i 0).testBit k
  rw[getD_map_range hi,valP,maskOf_bit,decide_eq_true hkl,Bool.true_and,getD_ofX hk]
include h hB hP in
theorem cmp_sees {k w e f k' w' e' f' i:Nat} (hk:(pairsL m a)[k]? = some (w,e)) (hf:f<b.pre.length) (hk':(pairsL m a)[k']? = some (w',e')) (hf':f'<b.pre.length) (hi:i<m.rel.length) :
  seesP (m.rel.getD i []) (c.rel.getD i []) (w,e*b.pre.length+f) (w',e'*b.pre.length+f')=seesP ((prodM m a (pairsL m a)).rel.getD i []) (b.rel.getD i []) (k,f) (k',f'):=by
 obtain⟨_,_,he,_⟩:=pr_at hP hk
 obtain⟨_,_,he',_⟩:=pr_at hP hk'
 have hra:i<a.rel.length:=by rw[hP.rl];exact hi
 have hrc:c.rel.getD i []=rowC (a.rel.getD i []) (b.rel.getD i []) a.pre.length b.pre.length:=by
  rw[h.rel,relsC];exact getD_map_range hra
 have hbb:(b.rel.getD i []).getD f 0<2^b.pre.length:=getD_lt2 ((actI_ok hB).bits _ (List.mem_iff_getElem?.2 ⟨i,getD_mem (by rw[← h.rl];exact hra) (d:=[])⟩)) f
 rw[Bool.eq_iff_iff,seesP_iff,seesP_iff,hrc]
 simp only
 rw[rowC_bit he hf he' hf' hbb,Bool.and_eq_true,pr_row hP i k w e hk k']
 constructor
 ·rintro⟨h1,h2,h3⟩
  exact⟨⟨w',e',hk',h1,h2⟩,h3⟩
 ·rintro⟨⟨v,d,q,h1,h2⟩,h3⟩
  rw[hk'] at q
  obtain⟨rfl,rfl⟩:=Prod.mk.inj (Option.some.inj q)
  exact⟨h1,h2,h3⟩
include h hB hP in
theorem cmp_prod:prodM m c (pairsL m c)=prodM (prodM m a (pairsL m a)) b (pairsL (prodM m a (pairsL m a)) b):=by
 have hpr:=cmp_pairs h hB hP
 have hM1:=hP.okp
 have hmem:∀ x,x∈pairsL (prodM m a (pairsL m a)) b→(pairsL m a)[x.1]? = some (((pairsL m a).getD x.1 (0,0)).1,((pairsL m a).getD x.1 (0,0)).2)∧x.2<b.pre.length:=fun ⟨k,f⟩ hx=>by
  obtain⟨h1,h2,_⟩:=(pairs_mem hM1).1 hx
  exact⟨getD_mem h1,h2⟩
 have hll:(pairsL m c).length=(pairsL (prodM m a (pairsL m a)) b).length:=by rw[hpr,List.length_map]
 have hget:∀ k,k<(pairsL (prodM m a (pairsL m a)) b).length→(pairsL m c).getD k (0,0)=phiP (pairsL m a) b.pre.length ((pairsL (prodM m a (pairsL m a)) b).getD k (0,0)):=fun k hk=>by
  rw[hpr,List.getD_eq_getElem?_getD,List.getElem?_map,getD_mem hk (d:=(0,0))];rfl
 obtain⟨p1,p2⟩:=prod_lens (m:=m) (a:=a)
 show Mo.mk ((pairsL m c).length:Int) ((List.range m.val.length).map (valP m c (pairsL m c))) ((List.range m.rel.length).map (relP m c (pairsL m c)))=Mo.mk _ ((List.range (prodM m a (pairsL m a)).val.length).map _) ((List.range (prodM m a (pairsL m a)).rel.length).map _)
 rw[p1,p2,hll]
 congr 1
 ·apply List.map_congr_left
  intro i hi
  have hi:=List.mem_range.1 hi
  rw[valP,valP,hll]
  refine maskOf_congr fun k hk => ?_
  rw[hget k hk]
  obtain⟨g1,g2⟩:=hmem _ (List.mem_iff_getElem?.2 ⟨k,getD_mem hk (d:=(0,0))⟩)
  exact cmp_val h hB hP g1 g2 hi
 ·apply List.map_congr_left
  intro i hi
  have hi:=List.mem_range.1 hi
  rw[relP,relP]
  generalize hl2:pairsL (prodM m a (pairsL m a)) b=l2 at hpr hmem hll hget
  rw[show (pairsL m c).map (rowP (m.rel.getD i []) (c.rel.getD i []) (pairsL m c))=(l2.map (phiP (pairsL m a) b.pre.length)).map (rowP (m.rel.getD i []) (c.rel.getD i []) (pairsL m c)) by rw[← hpr],List.map_map]
  apply List.map_congr_left
  intro x hx
  obtain⟨g1,g2⟩:=hmem x hx
  show rowP _ _ (pairsL m c) (phiP (pairsL m a) b.pre.length x)=rowP _ _ l2 x
  rw[rowP,rowP,hll]
  refine maskOf_congr fun k hk => ?_
  rw[hget k hk]
  obtain⟨g3,g4⟩:=hmem _ (List.mem_iff_getElem?.2 ⟨k,getD_mem hk (d:=(0,0))⟩)
  exact cmp_sees h hB hP g1 g2 g3 g4 hi
end
theorem upd_eq (h:moaI m a=0):updI m a=bif ((pairsL m a).length:Int)==0 then (noMo,[],11) else bif decide (((pairsL m a).length:Int)>64) then (noMo,[],8) else (prodM m a (pairsL m a),pairsL m a,0):=by
 rw[updI,worldsI,h]
 cases q:(((pairsL m a).length:Int)==0) with
 |true=>rfl
 |false=>rfl
def thenI (x:Mo×Int) (b:Act):Mo×Int:=bif x.2 != 0 then (noMo,x.2) else ((updI x.1 b).1,(updI x.1 b).2.2)
def updE (m:Mo) (a:Act):Mo×Int:=((updI m a).1,(updI m a).2.2)
theorem updE_eq (h:moaI m a=0):updE m a=bif ((pairsL m a).length:Int)==0 then (noMo,11) else bif decide (((pairsL m a).length:Int)>64) then (noMo,8) else (prodM m a (pairsL m a),0):=by
 rw[updE,upd_eq h]
 generalize prodM m a (pairsL m a)=p
 generalize pairsL m a=l
 cases ((l.length:Int)==0) with
 |true=>rfl
 |false=>cases (decide ((l.length:Int)>64))<;>rfl
theorem thenI_err {x:Mo×Int} {b:Act} (h:(x.2 != 0)=true):thenI x b=(noMo,x.2):=by rw[thenI,h];rfl
theorem thenI_ok {x:Mo×Int} {b:Act} (h:(x.2 != 0)=false):thenI x b=updE x.1 b:=by rw[thenI,h];rfl
theorem cmp_upd (h:Cmp a b c) (hM:OkM m n) (hA:actI a m.rel.length m.val.length=0) (hB:actI b m.rel.length m.val.length=0) (h8:(updE m a).2≠8):updE m c=thenI (updE m a) b:=by
 have hC:=cmp_act h hM.fa hA hB
 have m1:moaI m a=0:=by rw[moaI,ok_moI hM];exact hA
 have m2:moaI m c=0:=by rw[moaI,ok_moI hM];exact hC
 have u1:=updE_eq m1
 have u2:=updE_eq m2
 by_cases q0:(pairsL m a).length=0
 ·have e0:(pairsL m c).length=0:=by
   have hnil:=List.eq_nil_of_length_eq_zero q0
   rw[List.length_eq_zero_iff]
   apply List.eq_nil_iff_forall_not_mem.2
   rintro⟨w,q⟩ hx
   obtain⟨h1,h2,h3⟩:=(pairs_mem hM).1 hx
   rw[h.len] at h2
   obtain⟨e,f,he,hf,rfl⟩:=ix_pair h2
   obtain⟨g,_,k2⟩:=cmp_poss h hA hB hM he hf
   rw[k2,Nat.testBit_and,Bool.and_eq_true] at h3
   have:=(pairs_mem hM).2 ⟨h1,he,h3.1⟩
   rw[hnil] at this
   cases this
  rw[q0,show (((0:Nat):Int)==0)=true from rfl,cond_true] at u1
  rw[e0,show (((0:Nat):Int)==0)=true from rfl,cond_true] at u2
  rw[u1,u2,thenI_err (show ((11:Int) != 0)=true from rfl)]
 ·have b0:(((pairsL m a).length:Int)==0)=false:=by simpa using q0
  rw[b0,cond_false] at u1
  by_cases q1:(pairsL m a).length>64
  ·exfalso
   apply h8
   rw[u1,decide_eq_true (show ((pairsL m a).length:Int)>64 by omega),cond_true]
  ·have hP:=pr_of hM hA (by omega) (by omega)
   rw[decide_eq_false (show ¬ ((pairsL m a).length:Int)>64 by omega),cond_false] at u1
   have m3:moaI (prodM m a (pairsL m a)) b=0:=by rw[moaI,ok_moI hP.okp,prod_lens.1,prod_lens.2];exact hB
   have u3:=updE_eq m3
   have hll:(pairsL m c).length=(pairsL (prodM m a (pairsL m a)) b).length:=by rw[cmp_pairs h hB hP,List.length_map]
   rw[cmp_prod h hB hP,hll] at u2
   rw[u1,u2,thenI_ok (show ((0:Int) != 0)=false from rfl),u3]
def seqE:Mo×Int→List Act→Mo×Int
 |x,[]=>x
 |x,b::r=>bif x.2 != 0 then (noMo,x.2) else seqE (updE x.1 b) r
theorem seqE_err {x:Mo×Int} (hx:x.2≠0→x.1=noMo) (h:x.2≠0):∀ l,seqE x l=(noMo,x.2)
 | []=>by rw[seqE,← hx h]
 |b::r=>by rw[seqE,show (x.2 != 0)=true by simpa using h];rfl
theorem updE_no (m:Mo) (a:Act) (h:(updE m a).2≠0):(updE m a).1=noMo:=by
 unfold updE updI at *
 cases q:((worldsI m a).2 != 0) with
 |true=>rfl
 |false =>
  rw[q] at h
  cases q2:decide (((worldsI m a).1.length:Int)>64) with
  |true=>rfl
  |false=>rw[q2] at h;exact absurd rfl h
theorem seqF_seqE:∀ (l:List Act) (k:Mo) (ps:List (List Nat)),((seqF k ps l).1,(seqF k ps l).2.2)=seqE (k,0) l
 | [],_,_=>rfl
 |b::r,k,ps=>by
  rw[seqF,seqE]
  show _=seqE (updE k b) r
  by_cases q:(updI k b).2.2=0
  ·rw[show ((updI k b).2.2 != 0)=false by simpa using q,cond_false,seqF_seqE r,updE,q]
  ·rw[seqE_err (updE_no k b) q r,show ((updI k b).2.2 != 0)=true by simpa using q];rfl
theorem seqI_seqE (hM:OkM m n) (l:List Act):((seqI m l).1,(seqI m l).2.2)=seqE (m,0) l:=by
 rw[seqI,ok_moI hM]
 exact seqF_seqE l m _
theorem fold_upd (hM:OkM m n):∀ (l:List Act) (c d:Act),foldC c l=(d,0)→actI c m.rel.length m.val.length=0→(∀ b,b∈l→actI b m.rel.length m.val.length=0) →
  (seqE (updE m c) l).2=8∨updE m d=seqE (updE m c) l
 | [],c,d,h,_,_=>by cases h;exact .inr rfl
 |b::r,c,d,h,hc,hb=>by
  rw[foldC] at h
  by_cases q:(composeI c b).2=0
  ·rw[show ((composeI c b).2 != 0)=false by simpa using q] at h
   have h:foldC (composeI c b).1 r=(d,0):=h
   have hC:=cmp_of (Prod.ext rfl q:composeI c b=((composeI c b).1,0))
   have hB:=hb b (by simp)
   by_cases h8:(updE m c).2=8
   ·left
    rw[seqE_err (updE_no m c) (by rw[h8];decide),h8]
   ·have e:=cmp_upd hC hM hc hB h8
    have ih:=fold_upd hM r _ d h (cmp_act hC hM.fa hc hB) fun x hx=>hb x (List.mem_cons_of_mem _ hx)
    have e2:seqE (updE m (composeI c b).1) r=seqE (updE m c) (b::r):=by
     rw[e,seqE,thenI]
     by_cases q2:(updE m c).2=0
     ·rw[show ((updE m c).2 != 0)=false by simpa using q2];rfl
     ·rw[show ((updE m c).2 != 0)=true by simpa using q2,cond_true,cond_true]
      exact seqE_err (x:=(noMo,(updE m c).2)) (fun _=>rfl) q2 r
    rw[e2] at ih
    exact ih
  ·rw[show ((composeI c b).2 != 0)=true by simpa using q] at h
   exact absurd (congrArg Prod.snd h) q
end
def HZ (a:Act) (l:List Asg):List (Nat×DObj):=[(0,.var (cellsA a)),(1,.arr 2 (l.map Asg.pv))]
theorem cp_compactD {M:Nat→Prop} {w0:W0} (a:Act) (l:List Asg) (hl:l.length≤1000) (base:Nat) (_hb:Nat.ble base 2=true) (K:DV→DH→Prop) (hK:K (.buf 1 ((compA l).map Asg.pv).length) ⟨2,0,base,objsOf (HZ a (compA l))⟩) :
  DC Tryz.prog M w0 85 [.pv (postPV l)] ⟨1,0,base,objsOf [(0,.var (cellsA a))]⟩ K:=by
 refine DC.weaken (DC.intro mixed (fn:=Tryz.f85) rfl rfl rfl ?_)
 try conv=>whnf
 refine⟨{ i:Nat // i≤l.length },fun i=>[(3,.buf 1 ((compA (l.take i.1)).map Asg.pv).length),(6,.pv (.sl (l.map Asg.pv))),(7,.pv (i64 (l.map Asg.pv).length)),(8,.pv (i64 i.1))],fun _=>2,fun i=>HZ a (compA (l.take i.1)),fun i=>l.length-i.1,⟨⟨0,Nat.zero_le _⟩,(by refine Wk.of ?_ ?_ rfl rfl rfl<;>repeat' (first|exact trivial|exact WkD.same _|exact WkO.same _ _ rfl|exact WkD.new' rfl rfl rfl|exact WkO.new _ _ rfl|exact rfl|refine⟨?_,?_⟩|fail))⟩,?_⟩
 rintro⟨i,hi⟩
 (try conv=>whnf);repeat' (first|(apply And.intro<;>try conv=>whnf)|(intro h;try conv=>whnf)|(apply infoT;rfl)|fail)
 ·have hi':i<l.length:=by simpa using lt_dec h
  obtain⟨x,hx⟩:∃ x,l[i]? = some x:=⟨_,List.getElem?_eq_getElem hi'⟩
  have hvsl:((compA (l.take i)).map Asg.pv).length≤1000:=by simp[compA];omega
  have er:(compA (l.take i)).map Asg.pv++[.agg [.int .i64 x.fact,fpv (comp x.to)]]=(compA (l.take (i+1))).map Asg.pv:=by
   rw[compA,compA,List.take_add_one,hx,List.map_append,List.map_append];rfl
  refine⟨_,_,rfl,idx_map hx,rfl,?_⟩
  try conv=>whnf
  refine⟨Plan.lin 0 10,[],by kernel_rfl,?_⟩
  (try conv=>whnf);repeat' (first|(apply And.intro<;>try conv=>whnf)|(apply cellsI;rfl)|(apply szI;rfl)|(refine⟨_,(by (conv=>whnf);exact fm_Compact _),rfl,?_⟩;try conv=>whnf)|fail)
  ·exact app_big (n:=1000) hvsl (by decide)
  ·refine⟨⟨i+1,hi'⟩,by show l.length-(i+1)<l.length-i;omega,?_⟩
   (refine Wk.of ?_ ?_ rfl rfl rfl<;>repeat' (first|exact trivial|exact WkD.same _|exact WkO.same _ _ rfl|exact WkD.eq (congrArg (fun z:List PV=>DV.buf _ z.length) er)|exact WkO.same _ _ (congrArg (fun z=>some (DObj.arr _ z)) er)|refine WkD.int ?_|refine⟨?_,?_⟩|(refine wrapA ?_ ?_ ?_;(focus simp;done);(focus (try dsimp only);omega);(focus (try dsimp only);omega))|fail))
 ·have hi':i=l.length:=by have:=ge_dec (m:=(l.map Asg.pv).length) h (by simpa using hi);simpa using this
  subst hi'
  refine⟨.buf 1 ((compA (l.take l.length)).map Asg.pv).length,2,HZ a (compA (l.take l.length)),(by refine Wk.of ?_ ?_ rfl rfl rfl<;>repeat' (first|exact trivial|exact WkD.same _|exact WkO.same _ _ rfl|refine⟨?_,?_⟩|fail)),?_⟩
  rw[List.take_length]
  exact hK
def HY (a:Act) (l:List Asg) (x:Asg):List (Nat×DObj):=[(0,.var (cellsA a)),(1,.arr 2 (l.map Asg.pv)),(2,.var [.pv (.int .i64 x.fact),.pv (fpv x.to)])]
theorem asg_cmp (x:Asg) (t:Int):PureFn Tryz.prog 112 [x.pv,.int .i64 t] (.int .i64 (IntKind.wrap .i64 (x.fact-t))):=by
 refine PureFn.intro mixed (fn:=Tryz.f112) rfl rfl rfl fun M w0 => ?_
 try conv=>whnf
 exact .refl _
def plcA (l:List Asg) (t:Int):Nat:=(l.takeWhile fun x=>decide (x.fact<t)).length
theorem plc_le (l:List Asg) (t:Int):plcA l t≤l.length:=(List.takeWhile_sublist _).length_le
theorem plc_of {t:Int}:∀ {l:List Asg} {i:Nat},i≤l.length→(∀ k x,k<i→l[k]? = some x→x.fact<t)→(∀ x,l[i]? = some x→t≤x.fact)→plcA l t=i
 | [],i,hi,_,_=>by
  have:i=0:=by simpa using hi
  subst this;rfl
 |y::r,0,_,_,h2=>by
  have:=h2 y rfl
  rw[plcA,List.takeWhile_cons,decide_eq_false (by omega)];rfl
 |y::r,i+1,hi,h1,h2=>by
  have h0:=h1 0 y (by omega) rfl
  have ih:=plc_of (l:=r) (i:=i) (by simpa using hi) (fun k x hk hx=>h1 (k+1) x (by omega) (by simpa using hx)) (fun x hx=>h2 x (by simpa using hx))
  rw[plcA,List.takeWhile_cons,decide_eq_true h0]
  show (List.takeWhile _ r).length+1=i+1
  rw[← ih,plcA]
def fndA (l:List Asg) (t:Int):Bool:=match l[plcA l t]? with
 |some x=>x.fact==t
 |none=>false
structure AscA (l:List Asg):Prop where
 asc:l.Pairwise (fun x y=>x.fact<y.fact)
 lo:∀ x,x∈l→0≤x.fact∧x.fact<8
theorem AscA.lt {l:List Asg} (h:AscA l) {i j:Nat} {x y:Asg} (hij:i<j) (hx:l[i]? = some x) (hy:l[j]? = some y):x.fact<y.fact:=by
 have:=h.asc
 rw[List.pairwise_iff_getElem] at this
 obtain⟨a1,a2⟩:=List.getElem?_eq_some_iff.1 hx
 obtain⟨b1,b2⟩:=List.getElem?_eq_some_iff.1 hy
 rw[← a2,← b2]
 exact this i j a1 b1 hij
theorem halfA {i j:Nat} (h1:i≤1000) (h2:j≤1000):IntKind.wrap .i64 ((IntKind.wrap .u64 (IntKind.wrap .i64 ((i:Int)+(j:Int)))).fdiv 2)=(((i+j) / 2:Nat):Int):=by
 have e1:IntKind.wrap .i64 ((i:Int)+(j:Int))=(i:Int)+(j:Int):=Go.Dv.wrap_small (by omega) (by omega)
 have e2:IntKind.wrap .u64 ((i:Int)+(j:Int))=(i:Int)+(j:Int):=wrapU (by omega) (by omega)
 rw[e1,e2]
 have:((i:Int)+(j:Int)).fdiv 2=(((i+j) / 2:Nat):Int):=by
  rw[Int.fdiv_eq_ediv_of_nonneg _ (by decide)];omega
 rw[this,Go.Dv.wrap_small (by omega) (by omega)]
theorem asg_search {M:Nat→Prop} {w0:W0} (a:Act) (l:List Asg) (x:Asg) (t:Int) (hA:AscA l) (h8:l.length≤8) (ht:0≤t∧t<8) (base:Nat) (_hb:Nat.ble base 3=true) (K:DV→DH→Prop)
  (hK:K (.tup [.pv (i64 (plcA l t)),.pv (.bool (fndA l t))]) ⟨3,0,base,objsOf (HY a l x)⟩) :
  DC Tryz.prog M w0 111 [.buf 1 (l.map Asg.pv).length,.pv (.int .i64 t),.clo 112 [] []] ⟨3,0,base,objsOf (HY a l x)⟩ K:=by
 have e0:((l.map Asg.pv).length:Int)=(l.length:Int):=by simp
 refine DC.weaken (DC.introC [5,8] mixed (fn:=Tryz.f111) rfl rfl rfl ?_)
 try conv=>whnf
 refine⟨Unit,fun _=>[(0,.buf 1 (l.map Asg.pv).length),(1,.pv (.int .i64 t)),(2,.clo 112 [] []),(8,.pv (i64 (l.map Asg.pv).length)),(9,.pv (i64 (plcA l t)))],fun _=>3,fun _=>HY a l x,?_,?_⟩
 ·try conv=>whnf
  refine⟨{ q:Nat×Nat // q.1≤q.2∧q.2≤l.length∧(∀ k y,k<q.1→l[k]? = some y→y.fact<t)∧∀ k y,q.2≤k→l[k]? = some y→t≤y.fact },fun q=>[(0,.buf 1 (l.map Asg.pv).length),(1,.pv (.int .i64 t)),(2,.clo 112 [] []),(8,.pv (i64 (l.map Asg.pv).length)),(9,.pv (i64 q.1.1)),(10,.pv (i64 q.1.2))],fun _=>3,fun _=>HY a l x,fun q=>q.1.2-q.1.1,⟨⟨(0,l.length),Nat.zero_le _,Nat.le_refl _,fun k y h=>absurd h (Nat.not_lt_zero k),fun k y h hy=>absurd (List.getElem?_eq_some_iff.1 hy).1 (Nat.not_lt.2 h)⟩,?_⟩,?_⟩
  ·(refine Wk.of ?_ ?_ rfl rfl rfl<;>repeat' (first|exact trivial|exact WkD.same _|exact WkO.same _ _ rfl|refine WkD.int ?_|refine⟨?_,?_⟩|fail))
   exact e0
  rintro⟨⟨i,j⟩,hij,hj,h1,h2⟩
  simp only at hij hj h1 h2
  (try conv=>whnf);repeat' (first|(apply And.intro<;>try conv=>whnf)|(intro h;try conv=>whnf)|fail)
  ·have hlt:i<j:=by simpa using lt_dec h
   refine⟨Unit,fun _=>[(0,.buf 1 (l.map Asg.pv).length),(1,.pv (.int .i64 t)),(2,.clo 112 [] []),(8,.pv (i64 (l.map Asg.pv).length)),(9,.pv (i64 i)),(10,.pv (i64 j)),(11,.pv (i64 ((i+j) / 2)))],fun _=>3,fun _=>HY a l x,?_,?_⟩
   ·(try conv=>whnf);repeat' (first|(apply And.intro<;>try conv=>whnf)|fail)
    ·exact (by decide:(0:Int)≤1)
    refine⟨(),?_⟩
    (refine Wk.of ?_ ?_ rfl rfl rfl<;>repeat' (first|exact trivial|exact WkD.same _|exact WkO.same _ _ rfl|refine WkD.int ?_|refine⟨?_,?_⟩|fail))
    exact halfA (i:=i) (j:=j) (by omega) (by omega)
   rintro⟨⟩
   obtain⟨b1,b2⟩:i≤(i+j) / 2∧(i+j) / 2<j:=by omega
   generalize (i+j) / 2=c at b1 b2
   obtain⟨y,hy⟩:∃ y,l[c]? = some y:=⟨_,List.getElem?_eq_getElem (by omega)⟩
   have hC:=asg_cmp y t
   have hyb:=hA.lo y (List.mem_iff_getElem?.2 ⟨c,hy⟩)
   rw[Go.Dv.wrap_small (by omega) (by omega)] at hC
   have hix:=idx_map (g:=Asg.pv) hy
   have hcl:c<(l.map Asg.pv).length:=by rw[List.length_map];omega
   (try conv=>whnf);repeat' (first|(apply And.intro<;>try conv=>whnf)|(intro h;try conv=>whnf)|(apply ex2;(focus with_reducible assumption);try conv=>whnf)|(refine PureFn.dcq (f:=112) rfl ?_;try conv=>whnf)|(refine⟨_,rfl,(by with_reducible assumption),?_⟩;try conv=>whnf)|(refine⟨_,_,hC,?_,?_⟩;(focus first|(refine⟨?_,?_,trivial⟩<;>first|exact PLe.refl _|exact PLe.nil)|exact trivial);try conv=>whnf)|fail)
   ·have hyt:y.fact<t:=by
     have:=of_decide_eq_true (show decide (y.fact-t<0)=true from h)
     omega
    refine⟨⟨(c+1,j),by show c+1≤j;omega,hj,fun k z hk hz => ?_,h2⟩,by show j-(c+1)<j-i;omega,(by refine Wk.of ?_ ?_ rfl rfl rfl<;>repeat' (first|exact trivial|exact WkD.same _|exact WkO.same _ _ rfl|refine WkD.int ?_|refine⟨?_,?_⟩|(refine wrapA ?_ ?_ ?_;(focus simp;done);(focus (try dsimp only);omega);(focus (try dsimp only);omega))|fail))⟩
    have hk:k<c+1:=hk
    by_cases e:k=c
    ·subst e
     rw[hy] at hz
     cases hz
     exact hyt
    ·have:=hA.lt (show k<c by omega) hz hy
     omega
   ·have hyt:t≤y.fact:=by
     have:=of_decide_eq_false (show decide (y.fact-t<0)=false from h)
     omega
    refine⟨⟨(i,c),b1,by show c≤l.length;omega,h1,fun k z hk hz => ?_⟩,by show c-i<j-i;omega,(by refine Wk.of ?_ ?_ rfl rfl rfl<;>repeat' (first|exact trivial|exact WkD.same _|exact WkO.same _ _ rfl|refine⟨?_,?_⟩|fail))⟩
    have hk:c≤k:=hk
    by_cases e:k=c
    ·subst e
     rw[hy] at hz
     cases hz
     exact hyt
    ·have:=hA.lt (show c<k by omega) hy hz
     omega
  ·have hge:j≤i:=by have:=of_decide_eq_false (show decide ((i:Int)<(j:Int))=false from h);omega
   have hp:plcA l t=i:=plc_of (by omega) h1 fun y hy=>h2 i y hge hy
   refine⟨(),?_⟩
   (refine Wk.of ?_ ?_ rfl rfl rfl<;>repeat' (first|exact trivial|exact WkD.same _|exact WkO.same _ _ rfl|refine WkD.int ?_|refine⟨?_,?_⟩|fail))
   exact congrArg (fun z:Nat=>(z:Int)) hp.symm
 rintro⟨⟩
 have hpl:=plc_le l t
 by_cases hlt:plcA l t<l.length
 ·obtain⟨y,hy⟩:∃ y,l[plcA l t]? = some y:=⟨_,List.getElem?_eq_getElem hlt⟩
  have hC:=asg_cmp y t
  have hyb:=hA.lo y (List.mem_iff_getElem?.2 ⟨_,hy⟩)
  rw[Go.Dv.wrap_small (by omega) (by omega)] at hC
  have hf:fndA l t=(y.fact==t):=by rw[fndA,hy]
  rw[hf] at hK
  generalize plcA l t=c at hlt hy hpl hK
  have hix:=idx_map (g:=Asg.pv) hy
  have hcl:c<(l.map Asg.pv).length:=by rw[List.length_map];omega
  (try conv=>whnf);repeat' (first|(apply And.intro<;>try conv=>whnf)|(intro h;try conv=>whnf)|apply True.intro|(apply WhenQ.mk;(try conv=>whnf);rotate_left;(try conv=>whnf);rotate_right)|with_reducible assumption|(apply ex2;(focus with_reducible assumption);try conv=>whnf)|(refine PureFn.dcq (f:=112) rfl ?_;try conv=>whnf)|(refine⟨_,rfl,(by with_reducible assumption),?_⟩;try conv=>whnf)|(refine⟨_,_,hC,?_,?_⟩;(focus first|(refine⟨?_,?_,trivial⟩<;>first|exact PLe.refl _|exact PLe.nil)|exact trivial);try conv=>whnf)|fail)
  refine⟨.tup [.pv (i64 c),.pv (.bool (y.fact==t))],3,HY a l x,?_,hK⟩
  (refine Wk.of ?_ ?_ rfl rfl rfl<;>repeat' (first|exact trivial|exact WkO.same _ _ rfl|refine⟨?_,?_⟩|fail))
  refine WkD.eq ?_
  show DV.tup [.pv (i64 c),.pv (.bool (bif decide ((c:Int)<((l.map Asg.pv).length:Int)) then (y.fact-t==0) else false))]=_
  have hb:(y.fact-t==0)=(y.fact==t):=by rw[Bool.eq_iff_iff];simp;omega
  rw[decide_eq_true (by omega),cond_true,hb]
 ·have f1:decide (((plcA l t:Nat):Int)<((l.map Asg.pv).length:Int))=false:=by rw[e0];exact decide_eq_false (by omega)
  (try conv=>whnf);repeat' (first|(apply And.intro<;>try conv=>whnf)|(intro h;first|with_reducible exact tf h (by assumption)|try conv=>whnf)|(apply whenOff;(focus with_reducible assumption);try conv=>whnf)|fail)
  refine⟨.tup [.pv (i64 (plcA l t)),.pv (.bool (fndA l t))],3,HY a l x,?_,hK⟩
  (refine Wk.of ?_ ?_ rfl rfl rfl<;>repeat' (first|exact trivial|exact WkO.same _ _ rfl|refine⟨?_,?_⟩|fail))
  refine WkD.eq ?_
  show DV.tup [.pv (i64 (plcA l t)),.pv (.bool (bif decide (((plcA l t:Nat):Int)<((l.map Asg.pv).length:Int)) then _ else false))]=_
  rw[f1,cond_false,fndA,List.getElem?_eq_none (by omega)]
theorem asc_len:∀ {l:List Asg} {lo:Int},l.Pairwise (fun x y=>x.fact<y.fact)→(∀ x,x∈l→lo≤x.fact∧x.fact<8)→lo≤8→(l.length:Int)≤8-lo
 | [],lo,_,_,h=>by simp;omega
 |y::r,lo,hp,hb,h=>by
  obtain⟨h1,h2⟩:=List.pairwise_cons.1 hp
  obtain⟨b1,b2⟩:=hb y (by simp)
  have:=asc_len (l:=r) (lo:=y.fact+1) h2 (fun x hx=>⟨by have:=h1 x hx;omega,(hb x (List.mem_cons_of_mem _ hx)).2⟩) (by omega)
  rw[List.length_cons]
  omega
theorem AscA.len {l:List Asg} (h:AscA l):l.length≤8:=by
 have:=asc_len (lo:=0) h.asc h.lo (by decide)
 omega
theorem insA_mem {y:Asg}:∀ {l:List Asg} {x:Asg},x∈insA l y→x.fact=y.fact∨x∈l
 | [],x,h=>by
  rw[List.mem_singleton.1 (show x∈[y] from h)]
  exact .inl rfl
 |z::r,x,h=>by
  rw[insA] at h
  by_cases h1:z.fact<y.fact
  ·rw[decide_eq_true h1,cond_true] at h
   rcases List.mem_cons.1 h with rfl|h
   ·exact .inr (by simp)
   ·rcases insA_mem h with e|e
    ·exact .inl e
    ·exact .inr (List.mem_cons_of_mem _ e)
  ·rw[decide_eq_false h1,cond_false] at h
   by_cases h2:z.fact=y.fact
   ·rw[decide_eq_true h2,cond_true] at h
    rcases List.mem_cons.1 h with rfl|h
    ·exact .inl h2
    ·exact .inr (List.mem_cons_of_mem _ h)
   ·rw[decide_eq_false h2,cond_false] at h
    rcases List.mem_cons.1 h with rfl|h
    ·exact .inl rfl
    ·exact .inr h
theorem insA_asc {y:Asg}:∀ {l:List Asg},l.Pairwise (fun x y=>x.fact<y.fact)→(insA l y).Pairwise (fun x y=>x.fact<y.fact)
 | [],_=>List.pairwise_singleton _ _
 |z::r,h=>by
  obtain⟨g1,g2⟩:=List.pairwise_cons.1 h
  rw[insA]
  by_cases h1:z.fact<y.fact
  ·rw[decide_eq_true h1,cond_true]
   refine List.pairwise_cons.2 ⟨fun x hx => ?_,insA_asc g2⟩
   rcases insA_mem hx with e|e
   ·omega
   ·exact g1 x e
  ·rw[decide_eq_false h1,cond_false]
   by_cases h2:z.fact=y.fact
   ·rw[decide_eq_true h2,cond_true]
    exact List.pairwise_cons.2 ⟨fun x hx=>g1 x hx,g2⟩
   ·rw[decide_eq_false h2,cond_false]
    refine List.pairwise_cons.2 ⟨fun x hx => ?_,h⟩
    rcases List.mem_cons.1 hx with rfl|hx
    ·omega
    ·have:=g1 x hx;omega
theorem AscA.ins {l:List Asg} (h:AscA l) {y:Asg} (hy:0≤y.fact∧y.fact<8):AscA (insA l y) :=
 ⟨insA_asc h.asc,fun x hx=>by
  rcases insA_mem hx with e|e
  ·rw[e];exact hy
  ·exact h.lo x e⟩
theorem plc_cons {z:Asg} {r:List Asg} {t:Int} (h:z.fact<t):plcA (z::r) t=plcA r t+1:=by
 rw[plcA,List.takeWhile_cons,decide_eq_true h];rfl
theorem plc_zero {z:Asg} {r:List Asg} {t:Int} (h:¬ z.fact<t):plcA (z::r) t=0:=by
 rw[plcA,List.takeWhile_cons,decide_eq_false h];rfl
theorem insA_eq {y:Asg}:∀ {l:List Asg},insA l y=bif fndA l y.fact then l.set (plcA l y.fact) ⟨y.fact,y.to⟩ else l.take (plcA l y.fact)++y::l.drop (plcA l y.fact)
 | []=>rfl
 |z::r=>by
  rw[insA]
  by_cases h1:z.fact<y.fact
  ·have hf:fndA (z::r) y.fact=fndA r y.fact:=by rw[fndA,fndA,plc_cons h1];rfl
   rw[decide_eq_true h1,cond_true,insA_eq,hf,plc_cons h1]
   cases fndA r y.fact with
   |true=>rfl
   |false=>rfl
  ·rw[decide_eq_false h1,cond_false]
   have hf:fndA (z::r) y.fact=(z.fact==y.fact):=by rw[fndA,plc_zero h1];rfl
   rw[hf,plc_zero h1]
   by_cases h2:z.fact=y.fact
   ·rw[decide_eq_true h2,show (z.fact==y.fact)=true by simpa using h2,cond_true,cond_true,h2];rfl
   ·rw[decide_eq_false h2,show (z.fact==y.fact)=false by simpa using h2,cond_false,cond_false];rfl
def InsOk (M:Nat→Prop) (w0:W0):Prop:=∀ (a:Act) (l:List Asg) (x y:Asg) (i base:Nat) (K:DV→DH→Prop),i≤l.length→l.length≤8 →
 K (.buf 1 ((l.take i++y::l.drop i).map Asg.pv).length) ⟨3,0,base,objsOf (HY a (l.take i++y::l.drop i) x)⟩ →
 DC Tryz.prog M w0 113 [.buf 1 (l.map Asg.pv).length,.pv (i64 i),.pv (.sl [y.pv])] ⟨3,0,base,objsOf (HY a l x)⟩ K
theorem addE_drop {a:Act} {e k:Nat} {s:List Asg} {x:Asg} {out:List Asg} (hx:s[k]? = some x):addE a e out (s.drop k)=match aftE a e x.to with
  |.error c=>.error c
  |.ok to=>addE a e (insA out ⟨x.fact,to⟩) (s.drop (k+1)):=by
 obtain⟨h1,h2⟩:=List.getElem?_eq_some_iff.1 hx
 rw[List.drop_eq_getElem_cons h1,h2];rfl
theorem cp_assignments (a:Act) (e:Nat) (s:List Asg) (hS:SmX a) (hI:∀ M w0,InsOk M w0) (he:e<a.post.length) (hA:AscA (a.post.getD e [])) (hs:AscA s):PanFn Tryz.prog 71 [a.pv,i64 e,postPV s] (toE postPV (asgE a e s)):=by
 obtain⟨q,hq⟩:∃ y,a.post[e]? = some y:=⟨_,List.getElem?_eq_getElem he⟩
 have hqd:a.post.getD e []=q:=by rw[List.getD_eq_getElem?_getD,hq];rfl
 obtain⟨R,hR⟩:∃ R,R=asgE a e s:=⟨_,rfl⟩
 rw[← hR]
 rw[asgE,hqd] at hR
 rw[hqd] at hA
 have hAc:AscA (compA q):=by
  refine⟨?_,fun x hx => ?_⟩
  ·rw[compA,List.pairwise_map];exact hA.asc
  ·obtain⟨z,hz,rfl⟩:=List.mem_map.1 hx
   exact hA.lo z hz
 have hix:=idx_map (g:=postPV) hq
 have hql:=hA.len
 have hsl:=hs.len
 refine PanFn.introC [6,7] mixed (fn:=Tryz.f71) rfl rfl rfl fun M w => ?_
 (try conv=>whnf);repeat' (first|(apply And.intro<;>try conv=>whnf)|(apply infoT;rfl)|(refine⟨_,_,rfl,idx_map (by with_reducible assumption),rfl,?_⟩;try conv=>whnf)|fail)
 refine DC.wkIn (args':=[.pv (postPV q)]) (nx:=1) (Hl:=[(0,.var (cellsA a))]) (cp_compactD a q (by omega) _ rfl _ ?_) (by refine Wk.of ?_ ?_ rfl rfl rfl<;>repeat' (first|exact trivial|exact WkO.same _ _ rfl|refine⟨?_,?_⟩|fail)) (Nat.le_refl 1) ⟨.same _,trivial⟩ rfl
 try conv=>whnf
 refine⟨{ p:Nat×List Asg // p.1≤s.length∧AscA p.2∧R=addE a e p.2 (s.drop p.1) },fun p=>[(1,.pv (i64 e)),(3,.ref 0 0),(7,.buf 1 (p.1.2.map Asg.pv).length),(19,.pv (postPV s)),(20,.pv (i64 (s.map Asg.pv).length)),(21,.pv (i64 p.1.1))],fun _=>2,fun p=>HZ a p.1.2,fun p=>s.length-p.1.1,⟨⟨(0,compA q),Nat.zero_le _,hAc,hR⟩,(by refine Wk.of ?_ ?_ rfl rfl rfl<;>repeat' (first|exact trivial|exact WkD.same _|exact WkO.same _ _ rfl|refine⟨?_,?_⟩|fail))⟩,?_⟩
 rintro⟨⟨k,out⟩,hk,hO,hRk⟩
 have hRk:R=addE a e out (s.drop k):=hRk
 have hOl:out.length≤8:=hO.len
 clear hR
 (try conv=>whnf);repeat' (first|(apply And.intro<;>try conv=>whnf)|(intro h;try conv=>whnf)|(apply infoT;rfl)|(apply bleI;rfl)|fail)
 ·have hk':k<s.length:=by simpa using lt_dec h
  obtain⟨x,hx⟩:∃ y,s[k]? = some y:=⟨_,List.getElem?_eq_getElem hk'⟩
  have hxb:=hs.lo x (List.mem_iff_getElem?.2 ⟨_,hx⟩)
  have hAf:=cp_after a e x.to hS
  have hdr:=addE_drop (a:=a) (e:=e) (out:=out) hx
  rw[← hRk] at hdr
  refine⟨_,_,rfl,idx_map hx,rfl,?_⟩
  try conv=>whnf
  refine⟨{ to:List Nd // aftE a e x.to=.ok to },fun to=>[(1,.pv (i64 e)),(3,.ref 0 0),(7,.buf 1 (out.map Asg.pv).length),(9,.ref 2 0),(10,.pv (fpv to.1)),(19,.pv (postPV s)),(20,.pv (i64 (s.map Asg.pv).length)),(21,.pv (i64 k))],fun _=>3,fun _=>HY a out x,?_,?_⟩
  ·try conv=>whnf
   cases haf:aftE a e x.to with
   |error c =>
    rw[haf] at hAf hdr
    refine PanFn.dcq hAf ?_
    (try conv=>whnf);repeat' (first|(apply And.intro<;>try conv=>whnf)|apply True.intro|fail)
    iterate 3 exact .refl _
    rw[hdr];rfl
   |ok to =>
    rw[haf] at hAf hdr
    refine PanFn.dcq hAf ?_
    (try conv=>whnf);repeat' (first|(apply And.intro<;>try conv=>whnf)|apply True.intro|fail)
    iterate 3 exact .refl _
    exact⟨⟨to,rfl⟩,(by refine Wk.of ?_ ?_ rfl rfl rfl<;>repeat' (first|exact trivial|exact WkD.same _|exact WkO.same _ _ rfl|refine⟨?_,?_⟩|fail))⟩
  rintro⟨to,hto⟩
  rw[hto] at hdr
  have hdr:R=addE a e (insA out ⟨x.fact,to⟩) (s.drop (k+1)):=hdr
  have hins:=insA_eq (y:=⟨x.fact,to⟩) (l:=out)
  have hOi:=hO.ins (y:=⟨x.fact,to⟩) hxb
  refine⟨{ q:Nat×Bool // q.1=plcA out x.fact∧q.2=fndA out x.fact },fun q=>[(1,.pv (i64 e)),(3,.ref 0 0),(7,.buf 1 (out.map Asg.pv).length),(9,.ref 2 0),(10,.pv (fpv to)),(11,.pv (i64 q.1.1)),(12,.pv (.bool q.1.2)),(19,.pv (postPV s)),(20,.pv (i64 (s.map Asg.pv).length)),(21,.pv (i64 k))],fun _=>3,fun _=>HY a out x,?_,?_⟩
  ·try conv=>whnf
   refine DC.wkIn (args':=[.buf 1 (out.map Asg.pv).length,.pv (.int .i64 x.fact),.clo 112 [] []]) (nx:=3) (Hl:=HY a out x) (asg_search a out x x.fact hO hOl hxb _ rfl _ ?_) (by refine Wk.of ?_ ?_ rfl rfl rfl<;>repeat' (first|exact trivial|exact WkO.same _ _ rfl|refine⟨?_,?_⟩|fail)) (Nat.le_refl 3) ⟨.same _,.same _,.same _,trivial⟩ rfl
   try conv=>whnf
   exact⟨⟨(plcA out x.fact,fndA out x.fact),rfl,rfl⟩,(by refine Wk.of ?_ ?_ rfl rfl rfl<;>repeat' (first|exact trivial|exact WkD.same _|exact WkO.same _ _ rfl|refine⟨?_,?_⟩|fail))⟩
  rintro⟨⟨p,fb⟩,hp,hfb⟩
  have hp:p=plcA out x.fact:=hp
  have hfb:fb=fndA out x.fact:=hfb
  have hpl:=plc_le out x.fact
  have hins:insA out ⟨x.fact,to⟩=bif fb then out.set p ⟨x.fact,to⟩ else out.take p++⟨x.fact,to⟩::out.drop p:=by rw[hins,← hp,← hfb]
  rw[← hp] at hpl
  cases fb with
  |true =>
   obtain⟨z,hz,hzf⟩:∃ z,out[p]? = some z∧z.fact=x.fact:=by
    rw[fndA,← hp] at hfb
    cases hz:out[p]? with
    |none=>rw[hz] at hfb;cases hfb
    |some z=>rw[hz] at hfb;exact⟨z,rfl,by simpa using hfb.symm⟩
   have hpl':p<(out.map Asg.pv).length:=by rw[List.length_map];exact (List.getElem?_eq_some_iff.1 hz).1
   have hix:=idx_map (g:=Asg.pv) hz
   have er:(out.map Asg.pv).set p (.agg [.int .i64 z.fact,fpv to])=(insA out ⟨x.fact,to⟩).map Asg.pv:=by
    rw[hins,cond_true,List.map_set,hzf];rfl
   have hlen:(out.map Asg.pv).length=((insA out ⟨x.fact,to⟩).map Asg.pv).length:=by rw[← er,List.length_set]
   (try conv=>whnf);repeat' (first|(apply And.intro<;>try conv=>whnf)|(intro h;first|with_reducible exact tf0 h|try conv=>whnf)|(apply ex2;(focus with_reducible assumption);try conv=>whnf)|(refine⟨_,rfl,(by with_reducible assumption),?_⟩;try conv=>whnf)|fail)
   ·exact hpl'
   ·exact Nat.le_refl 2
   ·refine⟨⟨(k+1,insA out ⟨x.fact,to⟩),hk',hOi,hdr⟩,by show s.length-(k+1)<s.length-k;omega,?_⟩
    (refine Wk.of ?_ ?_ rfl rfl rfl<;>repeat' (first|exact trivial|exact WkD.same _|exact WkO.same _ _ rfl|exact WkO.same _ _ (congrArg (fun z=>some (DObj.arr _ z)) er)|refine WkD.int ?_|refine⟨?_,?_⟩|(refine wrapA ?_ ?_ ?_;(focus simp;done);(focus (try dsimp only);omega);(focus (try dsimp only);omega))|fail))
    exact WkD.eq (congrArg (DV.buf 1) hlen)
  |false =>
   have er:insA out ⟨x.fact,to⟩=out.take p++⟨x.fact,to⟩::out.drop p:=hins
   (try conv=>whnf);repeat' (first|(apply And.intro<;>try conv=>whnf)|(intro h;first|with_reducible exact ft0 h|try conv=>whnf)|(apply cellsI;rfl)|fail)
   refine DC.wkIn (args':=[.buf 1 (out.map Asg.pv).length,.pv (i64 p),.pv (.sl [Asg.pv ⟨x.fact,to⟩])]) (nx:=3) (Hl:=HY a out x) (hI _ _ a out x ⟨x.fact,to⟩ p _ _ hpl hOl ?_) (by refine Wk.of ?_ ?_ rfl rfl rfl<;>repeat' (first|exact trivial|exact WkO.same _ _ rfl|refine⟨?_,?_⟩|fail)) (Nat.le_refl 3) ⟨.same _,.same _,.same _,trivial⟩ rfl
   rw[← er]
   try conv=>whnf
   refine⟨⟨(k+1,insA out ⟨x.fact,to⟩),hk',hOi,hdr⟩,by show s.length-(k+1)<s.length-k;omega,(by refine Wk.of ?_ ?_ rfl rfl rfl<;>repeat' (first|exact trivial|exact WkD.same _|exact WkO.same _ _ rfl|refine WkD.int ?_|refine⟨?_,?_⟩|(refine wrapA ?_ ?_ ?_;(focus simp;done);(focus (try dsimp only);omega);(focus (try dsimp only);omega))|fail))⟩
 ·have hk':k=s.length:=by have:=ge_dec (m:=(s.map Asg.pv).length) h (by simpa using hk);simpa using this
  subst hk'
  rw[List.drop_length] at hRk
  have hR2:R=.ok out:=by rw[hRk];rfl
  refine⟨.sl (out.map Asg.pv),?_,.refl _⟩
  rw[show toE postPV R=toE postPV (.ok out) from congrArg _ hR2];rfl
set_option maxHeartbeats 8000000
open Go Go.Dv Go.RowKit Go.Lib
theorem run_copy_row2 {P:Program} (w:World) (dT sT ty elem:TypeId) (g o dLen dCap:Nat) (a:Addr) (sLen sCap k:Nat) (cur:Array Value) (t:TypeId) (cs:List Value)
  (hu:P.underlying dT=some (.slice elem)) (hs:(P.info? elem).map (·.size)=some 2)
  (hg:w.heap[g]? = some (.cells cur t (0,0))) (hk:k=Nat.min sLen dLen) (hn:cs.length=k*2)
  (hsrc:∀ j v,cs[j]? = some v→w.cell? (a.add j)=some v) (hfit:o+cs.length≤cur.size) (h1:∀ v∈cs,v.oneCell'=true) :
  (Builtin.copy_ #[dT,sT] ty #[.slice (some ⟨g,o,none⟩) dLen dCap,.slice (some a) sLen sCap]).run P w =
   .ok (goInt k) (w.setRow g (cur.toList.take o++cs++cur.toList.drop (o+cs.length)).toArray):=by
 have hl:=run_loadCells_list (P:=P) w a cs hsrc
 have hst:=run_storeCells_at P g o t cs 0 cur w hg (by simpa using hfit) h1
 cases hq:P.info? elem with
 |none=>simp[hq] at hs
 |some i =>
  have hi:i.size=2:=by simpa [hq] using hs
  simp[Builtin.copy_,run_underlying hu,Builtin.lenOf,Builtin.firstCells,sizeOf,typeInfo,hq,hi,← hn,← hk,hl,hst]
theorem run_overlaps_own {P:Program} (w:World) (tS tR e:TypeId) (ht:P.underlying tS=some (.slice e)) (size:Nat) (hz:∀ w,(Go.sizeOf e).run P w=.ok size w)
  (a b:Addr) (la ca lb cb:Nat) (hne:a.block≠b.block) (tA tB:TypeId) (kA kB:Nat) (hkA:kA≠0)
  (hsa:w.shape? a.block=some (tA,kA)) (hsb:w.shape? b.block=some (tB,kB)) (hkB:kB≠0)
  (hfb:w.frozen? b=false) (hfe:w.frozen? { block:=b.block,off:=kB }=false) :
  (Extern.SlicesOverlaps.overlaps #[tS,tS] #[tR] #[.slice (some a) la ca,.slice (some b) lb cb]).run P w=.ok (.bool false) w:=by
 have hnb:(a.block != b.block)=true:=by simpa using hne
 have hnb':(a.block==b.block)=false:=by simpa using hne
 change Sem.run P (α:=Value) (do
  let some t:=(#[tS,tS]:Array TypeId)[0]? |stuck "slices.overlaps: no parameter types"
  let .slice elem ← underlying t|stuck "slices.overlaps: slice type expected"
  let size ← sizeOf elem
  match (some a:Option Addr),(some b:Option Addr) with
  |some a,some b =>
   if la=0∨lb=0∨size=0 then pure (Value.bool false)
   else if a.block != b.block && (← frozen a) && (← frozen b) then unsupported .addressObserved
   else do
    if a.block != b.block then do
     noView a;noView b
     if ← mayBeOne a b then return Value.bool ((← choose (.extern "sameAddr.stringBytes" 2))==1)
    pure (Value.bool (a.block==b.block && a.off<b.off+lb*size && b.off<a.off+la*size))
  |_,_=>pure (Value.bool false)) w=_
 by_cases h0:la=0∨lb=0∨size=0
 ·simp[run_underlying ht,hz,h0]
 ·cases kB with
  |zero=>exact absurd rfl hkB
  |succ kB =>
   cases kA with
   |zero=>exact absurd rfl hkA
   |succ kA =>
    simp[run_underlying ht,hz,h0,hnb,hnb',frozen,noView,viewAt,mayBeOne,stringish,shape,Sem.run,hsa,hsb,hfb,hfe]
theorem step_copy_run {P:Program} {ops:Array Oper} {o:Oper} {a:Go.Act} {w:World} {K:Go.Act→World→Prop} {Q:Exit→Go.Act→World→Prop} {E:Prop}
  (hg:o.guard=none) (d x:Operand) (dT sT:TypeId) (hop:o.op=Op.call { callee:=Callee.builtin Builtin.copy,args := #[d,x],argTypes := #[dT,sT] })
  (v u:Value) (hd:a.eval d=v) (hx:a.eval x=u) {v':Value} {w':World} (hr:(Builtin.copy_ #[dT,sT] o.type #[v,u]).run P w=.ok v' w') (hK:K (a.put o.dst v') w') :
  if Region.wanted o (yielded ops a.tmps)=true then Oper.wp P o a w K Q else E:=by
 have hw:Region.wanted o (yielded ops a.tmps)=true:=by simp[Region.wanted,hg]
 rw[if_pos hw]
 unfold Oper.wp
 simp[execOp,hop,resolve,invoke,builtin,hd,hx,hr,Result.andThen]
 exact hK
theorem wpList_copy_run {P:Program} (w:World) {ops:Array Oper} {rest:List Oper} {o:Oper} {a:Go.Act} {Q:Exit→Go.Act→World→Prop} (hgd:o.guard=none) (d s:Operand) (t t':TypeId)
  (ho:o.op=.call { callee:=.builtin .copy,args := #[d,s],argTypes := #[t,t'] }) (v u:Value) (hd:a.eval d=v) (hs:a.eval s=u) {v':Value} {w':World}
  (hr:(Builtin.copy_ #[t,t'] o.type #[v,u]).run P w=.ok v' w') (h:wpList P ops Q rest (a.put o.dst v') w'):wpList P ops Q (o::rest) a w :=
 wpList_plain hgd fun _ hK=>by
  unfold Oper.wp execOp
  simp only[ho,resolve,invoke,builtin,Sem.run_bind,Sem.run_pure,Result.andThen_ok,List.map_toArray,List.map_cons,List.map_nil,hd,hs,hr]
  exact hK _ _ h
theorem und55:Tryz.prog.underlying 55=some (.slice 109):=by kernel_rfl
theorem siz109:(Tryz.prog.info? 109).map (·.size)=some 2:=by kernel_rfl
theorem size109:∀ w,(Go.sizeOf 109).run Tryz.prog w=.ok 2 w:=fun w=>by
 have h:=siz109
 cases hq:Tryz.prog.info? 109 with
 |none=>rw[hq] at h;cases h
 |some i =>
  have hi:i.size=2:=by simpa [hq] using h
  simp[sizeOf,typeInfo,hq,hi]
theorem ov_run (w:World) (g vb voff vc i lb cb:Nat) (cur:Array Value) (ty:TypeId) (y0:Value) (hvb:vb≠g) (hg:w.heap[g]? = some (.cells cur ty (0,0))) (hcc:cur.size≠0) (hy0:w.cell? ⟨vb,voff,none⟩=some y0) :
  (callFunc 147 #[.slice (some ⟨vb,voff,none⟩) 1 vc,.slice (some ⟨g,i,none⟩) lb cb]).run Tryz.prog w=.ok (.value (.bool false)) w:=by
 obtain⟨tA,kA,hsa,hkA⟩:∃ tA kA,w.shape? vb=some (tA,kA)∧kA≠0:=by
  unfold World.cell? at hy0
  unfold World.shape?
  cases hb:w.heap[vb]? with
  |none=>rw[hb] at hy0;cases hy0
  |some ob =>
   rw[hb] at hy0
   cases ob with
   |cells c e f =>
    refine⟨e,c.size,rfl,fun q => ?_⟩
    simp at hy0
    have:=Array.getElem?_eq_some_iff.1 hy0
    obtain⟨h1,_⟩:=this
    omega
   |_=>cases hy0
 rw[run_callFunc_extern Tryz.func147 (by kernel_rfl) (by kernel_rfl) (by kernel_rfl) (e:=Extern.SlicesOverlaps.overlaps #[55,55] #[4]) (by kernel_rfl),
  run_overlaps_own w 55 4 109 und55 2 size109 ⟨vb,voff,none⟩ ⟨g,i,none⟩ 1 vc lb cb hvb tA ty kA cur.size hkA hsa (by simp[World.shape?,hg]) hcc (by simp[World.frozen?,hg]) (by simp[World.frozen?,hg])]
 rfl
theorem cells_run {w:World} {g o:Nat} {cur:Array Value} {ty:TypeId} (hg:w.heap[g]? = some (.cells cur ty (0,0))) {k:Nat}:∀ (j:Nat) v,((cur.toList.drop o).take k)[j]? = some v→w.cell? ((⟨g,o,none⟩:Addr).add j)=some v:=fun j v hj=>by
 rw[Addr.add_lit]
 rw[List.getElem?_take] at hj
 split at hj
 ·rw[List.getElem?_drop] at hj
  simp[World.cell?,hg]
  simpa using hj
 ·cases hj
def rowS (cur:Array Value) (i n:Nat):Array Value:=(cur.toList.take ((i+1)*2)++(cur.toList.drop (i*2)).take ((n-i)*2)++cur.toList.drop ((i+1)*2+((cur.toList.drop (i*2)).take ((n-i)*2)).length)).toArray
def rowN2 (cur:Array Value) (i:Nat) (y0 y1:Value):Array Value:=(cur.toList.take (i*2)++[y0,y1]++cur.toList.drop (i*2+[y0,y1].length)).toArray
theorem rowS_size {cur:Array Value} {i n:Nat} (hi:i<n) (hc:(n+1)*2≤cur.size):(rowS cur i n).size=cur.size:=by
 simp[rowS];omega
theorem ins_shift (w:World) (g n cap i vb voff vc:Nat) (cur:Array Value) (ty:TypeId) (y0 y1:Value) (hi:i<n) (hn:n≤1000) (hroom:n+1≤cap) (hvb:vb≠g) (hg:w.heap[g]? = some (.cells cur ty (0,0))) (hcc:cap*2≤cur.size)
  (hy0:w.cell? ⟨vb,voff,none⟩=some y0) (hy1:w.cell? ⟨vb,voff+1,none⟩=some y1) (h10:y0.oneCell'=true) (h11:y1.oneCell'=true) (h1c:∀ v∈(cur.toList.drop (i*2)).take ((n-i)*2),v.oneCell'=true) :
  Calls Tryz.prog 113 #[.slice (some ⟨g,0,none⟩) n cap,.int .i64 i,.slice (some ⟨vb,voff,none⟩) 1 vc] w fun e w' =>
   e=.returned (.slice (some ⟨g,0,none⟩) (n+1) cap)∧w'=(w.drew.setRow g (rowS cur i n)).setRow g (rowN2 (rowS cur i n) i y0 y1):=by
 have hov:=fun lb cb=>ov_run w g vb voff vc ((i+1)*2) lb cb cur ty y0 hvb hg (by omega) hy0
 have hcp1:∀ ty' dc sc,(Builtin.copy_ #[55,55] ty' #[.slice (some ⟨g,(i+1)*2,none⟩) (n-i) dc,.slice (some ⟨g,i*2,none⟩) (n+1-i) sc]).run Tryz.prog w.drew=.ok (goInt ((n-i:Nat):Int)) (w.drew.setRow g (rowS cur i n)):=fun ty' dc sc =>
  run_copy_row2 w.drew 55 55 ty' 109 g ((i+1)*2) (n-i) dc ⟨g,i*2,none⟩ (n+1-i) sc (n-i) cur ty _ und55 siz109 hg (by simp only[Nat.min_def];split<;>omega) (by simp;omega) (cells_run (w:=w.drew) hg) (by simp;omega) h1c
 obtain⟨W1,hW1⟩:∃ W1,w.drew.setRow g (rowS cur i n)=W1:=⟨_,rfl⟩
 have hg1:W1.heap[g]? = some (.cells (rowS cur i n) ty (0,0)):=by rw[← hW1];exact setRow_heap w.drew g cur _ ty _ hg
 have hoth:∀ j,W1.cell? ⟨vb,j,none⟩=w.cell? ⟨vb,j,none⟩:=fun j=>by
  rw[← hW1]
  unfold World.cell?
  rw[setRow_other w.drew g _ _ hvb];rfl
 have hcp2:∀ ty' dc,(Builtin.copy_ #[55,55] ty' #[.slice (some ⟨g,i*2,none⟩) (n+1-i) dc,.slice (some ⟨vb,voff,none⟩) 1 vc]).run Tryz.prog W1=.ok (goInt ((1:Nat):Int)) (W1.setRow g (rowN2 (rowS cur i n) i y0 y1)):=fun ty' dc =>
  run_copy_row2 W1 55 55 ty' 109 g (i*2) (n+1-i) dc ⟨vb,voff,none⟩ 1 vc 1 (rowS cur i n) ty [y0,y1] und55 siz109 hg1 (by simp only[Nat.min_def];split<;>omega) rfl (fun j v hj=>by
   rw[Addr.add_lit,hoth]
   match j,hj with
   |0,hj=>cases hj;exact hy0
   |1,hj=>cases hj;exact hy1
   |j+2,hj=>simp at hj) (by rw[rowS_size hi (by omega)];simp;omega) (fun v hv=>by
   rcases List.mem_cons.1 hv with rfl|hv
   ·exact h10
   ·rw[List.mem_singleton.1 hv];exact h11)
 rw[hW1] at hcp1 ⊢
 have mixed:Tryz.prog.follows .mixedOrders=true:=mixed
 have hw1:IntKind.i64.wrap ((i:Int)+1)=(i:Int)+1:=by rw[IntKind.wrap_i64];omega
 have hb1:(0:Int)≤(i:Int)+1:=by omega
 have hin:i≤n:=by omega
 have htn:((i:Int)+1).toNat=i+1:=by omega
 have hb2:¬ (cap=i+1):=by omega
 have hb3:(i:Int)≤(n:Int)+1:=by omega
 have hb4:¬ (cap=i):=by omega
 go_enter Tryz.func113,Tryz.ntmps113
 go_wp2_with (simp only[hov])
 go_region_law_o (refine step_copy_run rfl _ _ 55 55 rfl _ _ (by simp[Act.eval,Act.put]) (by simp[Act.eval,Act.put]) (hcp1 _ _ _) ?_)
 go_wp2_with (at_builtin;refine wpList_copy_run _ rfl _ _ 55 55 rfl _ _ rfl rfl (hcp2 _ _) ?_)
 go_ret
 exact⟨rfl,rfl⟩
def zv109:Value:=.agg #[.int .i64 0,.slice none 0 0]
theorem inf109:∃ i,Tryz.prog.info? 109=some i∧i.zero=some zv109∧i.size=2∧i.bytes=32:=by
 have h:(Tryz.prog.info? 109).map (fun i=>(i.zero,i.size,i.bytes))=some (some zv109,2,32):=by kernel_rfl
 cases hq:Tryz.prog.info? 109 with
 |none=>rw[hq] at h;cases h
 |some i =>
  rw[hq] at h
  simp only[Option.map_some,Option.some.injEq,Prod.mk.injEq] at h
  exact⟨i,rfl,h.1,h.2.1,h.2.2⟩
theorem lit_cells {P:Program} {w:World} {vb voff vc:Nat} {y0 y1:Value} (hy0:w.cell? ⟨vb,voff,none⟩=some y0) (hy1:w.cell? ⟨vb,voff+1,none⟩=some y1):(Builtin.firstCells 2 1 (.slice (some ⟨vb,voff,none⟩) 1 vc)).run P w=.ok #[y0,y1] w :=
 run_firstCells_some (P:=P) (w:=w) 2 1 ⟨vb,voff,none⟩ 1 vc [y0,y1] rfl fun j v hj=>by
  rw[Addr.add_lit]
  match j,hj with
  |0,hj=>cases hj;exact hy0
  |1,hj=>cases hj;exact hy1
  |j+2,hj=>simp at hj
theorem ins_end (w:World) (g n cap vb voff vc:Nat) (cur:Array Value) (ty:TypeId) (y0 y1:Value) (hroom:n+1≤cap) (hg:w.heap[g]? = some (.cells cur ty (0,0))) (hcc:cap*2≤cur.size)
  (hy0:w.cell? ⟨vb,voff,none⟩=some y0) (hy1:w.cell? ⟨vb,voff+1,none⟩=some y1) (h10:y0.oneCell'=true) (h11:y1.oneCell'=true) :
  Calls Tryz.prog 113 #[.slice (some ⟨g,0,none⟩) n cap,.int .i64 n,.slice (some ⟨vb,voff,none⟩) 1 vc] w fun e w' =>
   e=.returned (.slice (some ⟨g,0,none⟩) (n+1) cap)∧w'=w.setRow g (rowN2 cur n y0 y1):=by
 obtain⟨i0,hi0,hz0,hzs,hzb⟩:=inf109
 have hrun:∀ ty',(Builtin.append_ #[55,55] ty' #[.slice (some ⟨g,0,none⟩) n cap,.slice (some ⟨vb,voff,none⟩) 1 vc]).run Tryz.prog w=.ok (.slice (some ⟨g,0,none⟩) (n+1) cap) (w.setRow g (rowN2 cur n y0 y1)):=fun ty' =>
  run_append_here (P:=Tryz.prog) (w:=w) 55 55 ty' 109 i0 und55 109 und55 hi0 (some ⟨g,0,none⟩) n cap 1 (.slice (some ⟨vb,voff,none⟩) 1 vc) #[y0,y1] rfl (by rw[hzs];exact lit_cells hy0 hy1) hroom _ (by
   rw[hzs]
   show (storeCells ((⟨g,0,none⟩:Addr).add (n*2)) [y0,y1]).run Tryz.prog w=_
   rw[Addr.add_lit,Nat.zero_add]
   have:=run_storeCells_at Tryz.prog g (n*2) ty [y0,y1] 0 cur w hg (by simp;omega) (fun v hv=>by
    rcases List.mem_cons.1 hv with rfl|hv
    ·exact h10
    ·rw[List.mem_singleton.1 hv];exact h11)
   simpa [rowN2] using this)
 go_enter Tryz.func113,Tryz.ntmps113
 go_wp2_with (at_builtin;refine Lib.wpList_append_run _ rfl _ _ _ _ rfl _ _ rfl rfl _ _ (hrun _) ?_)
 all_goals (go_ret;exact⟨rfl,rfl⟩)
theorem ins_endg (w:World) (ad:Option Addr) (n cap vb voff vc:Nat) (olds:List Value) (y0 y1:Value) (hn:n≤1000) (hcap:cap<n+1) (hnc:n≤cap)
  (hold:∀ W:World,W.heap=w.heap→(Builtin.firstCells 2 n (.slice ad n cap)).run Tryz.prog W=.ok olds.toArray W)
  (hy0:w.cell? ⟨vb,voff,none⟩=some y0) (hy1:w.cell? ⟨vb,voff+1,none⟩=some y1) :
  Calls Tryz.prog 113 #[.slice ad n cap,.int .i64 n,.slice (some ⟨vb,voff,none⟩) 1 vc] w fun e w' =>
   e=.returned (.slice (some ⟨w.heap.size,0,none⟩) (n+1) (grownCap w (n+1) cap 109))∧w'=w.drew.alloc (.cells (olds.toArray ++ #[y0,y1]++Builtin.zeroCells zv109.cells (grownCap w (n+1) cap 109-(n+1))) 109):=by
 obtain⟨i0,hi0,hz0,hzs,hzb⟩:=inf109
 have hrun:∀ ty',(Builtin.append_ #[55,55] ty' #[.slice ad n cap,.slice (some ⟨vb,voff,none⟩) 1 vc]).run Tryz.prog w=_:=fun ty' =>
  run_append_more (P:=Tryz.prog) (w:=w) 55 55 ty' 109 i0 zv109 und55 109 und55 hi0 hz0 ad n cap 1 (.slice (some ⟨vb,voff,none⟩) 1 vc) olds.toArray #[y0,y1] rfl (by rw[hzs];exact hold w.drew rfl) (by rw[hzs];exact lit_cells (w:=w.drew) hy0 hy1) hcap (by omega) (by rw[hzb];exact growslice_fits hcap (by omega))
 generalize olds.toArray ++ #[y0,y1]++Builtin.zeroCells zv109.cells (grownCap w (n+1) cap 109-(n+1))=Z at hrun ⊢
 go_enter Tryz.func113,Tryz.ntmps113
 cases ad with
 |none =>
  go_wp2_with (at_builtin;refine Lib.wpList_append_run _ rfl _ _ _ _ rfl _ _ rfl rfl _ _ (hrun _) ?_)
  all_goals (go_ret;exact⟨rfl,rfl⟩)
 |some a =>
  obtain⟨ab,ao,asp⟩:=a
  go_wp2_with (at_builtin;refine Lib.wpList_append_run _ rfl _ _ _ _ rfl _ _ rfl rfl _ _ (hrun _) ?_)
  all_goals (go_ret;exact⟨rfl,rfl⟩)
theorem zc_size (k:Nat):(Builtin.zeroCells zv109.cells k).size=k*2:=by
 rw[size_zeroCells];rfl
theorem ins_grow (w:World) (g n cap i vb voff vc:Nat) (cur:Array Value) (ty:TypeId) (y0 y1:Value) (hi:i<n) (hn:n≤1000) (hcap:cap<n+1) (hnc:n≤cap) (hg:w.heap[g]? = some (.cells cur ty (0,0))) (hcc:cap*2≤cur.size)
  (hvs:vb<w.heap.size) (hy0:w.cell? ⟨vb,voff,none⟩=some y0) (hy1:w.cell? ⟨vb,voff+1,none⟩=some y1) (h10:y0.oneCell'=true) (h11:y1.oneCell'=true) (h1c:∀ v∈(cur.toList.drop (i*2)).take ((n-i)*2),v.oneCell'=true) :
  Calls Tryz.prog 113 #[.slice (some ⟨g,0,none⟩) n cap,.int .i64 i,.slice (some ⟨vb,voff,none⟩) 1 vc] w fun e w' =>
   e=.returned (.slice (some ⟨w.heap.size,0,none⟩) (n+1) (grownCap w (n+1) cap 109))∧∃ (Z:Array Value) (W:World),(n+1)*2≤Z.size∧Z.size=grownCap w (n+1) cap 109*2∧Z.toList.take (i*2)=cur.toList.take (i*2) ∧
    W=(w.alloc (.cells Z 109)).drew∧w'=((W.setRow w.heap.size (rowN2 Z i y0 y1)).drew).setRow w.heap.size ((rowN2 Z i y0 y1).toList.take ((i+1)*2)++(cur.toList.drop (i*2)).take ((n-i)*2)++(rowN2 Z i y0 y1).toList.drop ((i+1)*2+((cur.toList.drop (i*2)).take ((n-i)*2)).length)).toArray:=by
 obtain⟨i0,hi0,hz0,hzs,hzb⟩:=inf109
 have hgb:g<w.heap.size:=by
  apply Classical.byContradiction
  intro q
  rw[Array.getElem?_eq_none (by omega)] at hg
  cases hg
 have hrz:∀ ty',(Builtin.append_ #[55,3] ty' #[.slice (some ⟨g,0,none⟩) i cap,.int .i64 ((n:Int)+1-(i:Int))]).run Tryz.prog w =
   .ok (.slice (some ⟨w.heap.size,0,none⟩) (n+1) (grownCap w (n+1) cap 109)) (w.drew.alloc (.cells ((cur.toList.take (i*2)).toArray++Builtin.zeroCells zv109.cells (n+1-i)++Builtin.zeroCells zv109.cells (grownCap w (n+1) cap 109-(n+1))) 109)):=fun ty'=>by
  have hik:i+(n+1-i)=n+1:=by omega
  have h:=Lib.run_append_grow_zeros (P:=Tryz.prog) w 55 3 ty' 109 i0 zv109 .i64 .i64 und55 (by kernel_rfl) hi0 hz0 (some ⟨g,0,none⟩) i cap (cur.toList.take (i*2)) (by
   rw[hzs]
   refine run_firstCells_some (P:=Tryz.prog) (w:=w.drew) 2 i ⟨g,0,none⟩ i cap (cur.toList.take (i*2)) (by simp;omega) fun j v hj => ?_
   have:=cells_run (w:=w.drew) (g:=g) (o:=0) (cur:=cur) hg (k:=i*2) j v (by rw[List.drop_zero];exact hj)
   exact this) (n+1-i) (by omega) (by omega) (by omega) (by omega) (by rw[hzb];omega) (by rw[hzb,hik];exact growslice_fits hcap (by omega))
  rw[hik] at h
  rw[show (n:Int)+1-(i:Int)=((n+1-i:Nat):Int) by omega]
  exact h
 have hG:=grown_ge (w:=w) (n+1) cap 109
 obtain⟨Z,hZ⟩:∃ Z,(cur.toList.take (i*2)).toArray++Builtin.zeroCells zv109.cells (n+1-i)++Builtin.zeroCells zv109.cells (grownCap w (n+1) cap 109-(n+1))=Z:=⟨_,rfl⟩
 have hZ1:Z.size=grownCap w (n+1) cap 109*2:=by
  rw[← hZ]
  simp[zc_size]
  omega
 have hZ2:Z.toList.take (i*2)=cur.toList.take (i*2):=by
  rw[← hZ]
  simp only[Array.toList_append,List.append_assoc]
  rw[List.take_append_of_le_length (by simp;omega),List.take_take,Nat.min_self]
 rw[hZ] at hrz
 generalize grownCap w (n+1) cap 109=G at hrz hG hZ1 ⊢
 obtain⟨S,hS⟩:∃ S,w.heap.size=S:=⟨_,rfl⟩
 rw[hS] at hrz ⊢ hgb hvs
 have hgS:∀ (W:World) (R:Array Value),W.heap=((w.drew.alloc (.cells Z 109)).setRow S R).heap→W.heap[S]? = some (.cells R 109 (0,0))∧(∀ b,b<S→W.heap[b]? = w.heap[b]?):=fun W R hW=>by
  rw[hW]
  have h0:(w.drew.alloc (.cells Z 109)).heap[S]? = some (.cells Z 109 (0,0)):=by rw[← hS];exact heap_push_new w.drew _
  refine⟨setRow_heap _ S Z R _ _ h0,fun b hb => ?_⟩
  rw[setRow_other _ _ _ _ (by omega)]
  exact heap_push_old w.drew _ (by rw[← hS] at hb;exact hb)
 have hZ3:(n+1)*2≤Z.size:=by omega
 have hN:(rowN2 Z i y0 y1).size=Z.size:=by simp[rowN2];omega
 have hcpA:∀ (W:World),W.heap=((w.drew.alloc (.cells Z 109)).setRow S Z).heap→∀ ty' dc,(Builtin.copy_ #[55,55] ty' #[.slice (some ⟨S,i*2,none⟩) (n+1-i) dc,.slice (some ⟨vb,voff,none⟩) 1 vc]).run Tryz.prog W=.ok (goInt ((1:Nat):Int)) (W.setRow S (rowN2 Z i y0 y1)):=fun W hW ty' dc=>by
  obtain⟨k1,k2⟩:=hgS W Z hW
  refine run_copy_row2 W 55 55 ty' 109 S (i*2) (n+1-i) dc ⟨vb,voff,none⟩ 1 vc 1 Z _ [y0,y1] und55 siz109 k1 (by simp only[Nat.min_def];split<;>omega) rfl (fun j v hj => ?_) (by simp;omega) (fun v hv=>by
   rcases List.mem_cons.1 hv with rfl|hv
   ·exact h10
   ·rw[List.mem_singleton.1 hv];exact h11)
  rw[Addr.add_lit]
  have hc:∀ j,W.cell? ⟨vb,j,none⟩=w.cell? ⟨vb,j,none⟩:=fun j=>by
   unfold World.cell?
   rw[k2 vb hvs]
  rw[hc]
  match j,hj with
  |0,hj=>cases hj;exact hy0
  |1,hj=>cases hj;exact hy1
  |j+2,hj=>simp at hj
 have hcpB:∀ (W:World),W.heap=((w.drew.alloc (.cells Z 109)).setRow S (rowN2 Z i y0 y1)).heap→∀ ty' dc sc,(Builtin.copy_ #[55,55] ty' #[.slice (some ⟨S,(i+1)*2,none⟩) (n-i) dc,.slice (some ⟨g,i*2,none⟩) (n-i) sc]).run Tryz.prog W=.ok (goInt ((n-i:Nat):Int)) (W.setRow S ((rowN2 Z i y0 y1).toList.take ((i+1)*2)++(cur.toList.drop (i*2)).take ((n-i)*2)++(rowN2 Z i y0 y1).toList.drop ((i+1)*2+((cur.toList.drop (i*2)).take ((n-i)*2)).length)).toArray):=fun W hW ty' dc sc=>by
  obtain⟨k1,k2⟩:=hgS W _ hW
  refine run_copy_row2 W 55 55 ty' 109 S ((i+1)*2) (n-i) dc ⟨g,i*2,none⟩ (n-i) sc (n-i) (rowN2 Z i y0 y1) _ _ und55 siz109 k1 (by simp) (by simp;omega) (cells_run (by rw[k2 g hgb];exact hg)) (by rw[hN];simp;omega) h1c
 obtain⟨R2,hR2⟩:∃ R2,((rowN2 Z i y0 y1).toList.take ((i+1)*2)++(cur.toList.drop (i*2)).take ((n-i)*2)++(rowN2 Z i y0 y1).toList.drop ((i+1)*2+((cur.toList.drop (i*2)).take ((n-i)*2)).length)).toArray=R2:=⟨_,rfl⟩
 rw[hR2] at hcpB
 have h0:((w.drew.alloc (.cells Z 109)).setRow S Z).heap=(w.drew.alloc (.cells Z 109)).heap:=by
  rw[setRow_self _ _ _ _ _ (by rw[← hS];exact heap_push_new w.drew _)]
 rw[h0] at hcpA
 clear hZ hgS h0
 have hw1:IntKind.i64.wrap ((i:Int)+1)=(i:Int)+1:=by rw[IntKind.wrap_i64];omega
 have hb1:(0:Int)≤(i:Int)+1:=by omega
 have hin:i≤n:=by omega
 have htn:((i:Int)+1).toNat=i+1:=by omega
 have hb3:(i:Int)≤(n:Int):=by omega
 have hz3:(cap:Int)<(n:Int)+1:=by omega
 have hci:¬ (cap=i):=by omega
 have hGi:¬ (G=i):=by omega
 have hGim:¬ (G=i+1):=by omega
 have mixed:Tryz.prog.follows .mixedOrders=true:=mixed
 go_enter Tryz.func113,Tryz.ntmps113
 have hcpA1:=hcpA (w.alloc (.cells Z 109)).drew rfl
 obtain⟨W1,hW1⟩:∃ W1,(w.alloc (.cells Z 109)).drew.setRow S (rowN2 Z i y0 y1)=W1:=⟨_,rfl⟩
 have hcpB1:=hcpB W1.drew (by rw[← hW1];rfl)
 rw[hW1] at hcpA1
 clear hcpA hcpB
 go_wp2_with (at_builtin;refine Lib.wpList_append_run _ rfl _ _ _ _ rfl _ _ rfl rfl _ _ (hrz _) ?_)
 go_region_law_o (refine step_copy_run rfl _ _ 55 55 rfl _ _ (by simp[Act.eval,Act.put]) (by simp[Act.eval,Act.put]) (hcpB1 _ _ _) ?_)
 go_wp2
 go_ret
 exact⟨rfl,Z,_,hZ3,hZ1,hZ2,rfl,by rw[hR2,hW1]⟩
set_option maxHeartbeats 4000000
def InsPost (w w':World) (g n cap:Nat) (new:List Value) (e:Ending):Prop :=
 ∃ g' cap' row ty' rest,e=.returned (.slice (some ⟨g',0,none⟩) (n+1) cap')∧w'.heap[g']? = some (.cells row ty' (0,0))∧row.toList=new++rest∧n+1≤cap'∧cap'*2≤row.size ∧
  w'.os=w.os∧w'.tape=w.tape∧w'.output=w.output∧w.heap.size≤w'.heap.size ∧
  ((g'=g∧cap'=cap∧∀ b,b≠g→w'.heap[b]? = w.heap[b]?)∨(w.heap.size≤g'∧∀ b,b<w.heap.size→w'.heap[b]? = w.heap[b]?))
def newL (A:List Value) (i n:Nat) (y0 y1:Value):List Value:=A.take (i*2)++[y0,y1]++(A.drop (i*2)).take ((n-i)*2)
theorem rowN2_list {R:Array Value} {i:Nat} {y0 y1:Value}:(rowN2 R i y0 y1).toList=R.toList.take (i*2)++[y0,y1]++R.toList.drop (i*2+2):=rfl
theorem shift_list {cur:Array Value} {i n:Nat} {y0 y1:Value} (hi:i<n) (hc:(n+1)*2≤cur.size):∃ rest,(rowN2 (rowS cur i n) i y0 y1).toList=newL cur.toList i n y0 y1++rest:=by
 have hl:cur.toList.length=cur.size:=Array.length_toList
 rw[rowN2_list,rowS,newL]
 generalize cur.toList=A at hl
 refine⟨A.drop ((i+1)*2+((A.drop (i*2)).take ((n-i)*2)).length),?_⟩
 have h1:(A.take ((i+1)*2)).length=(i+1)*2:=by rw[List.length_take];omega
 simp only
 rw[List.append_assoc (A.take ((i+1)*2)),List.take_append_of_le_length (by omega),List.take_take,Nat.min_eq_left (by omega),List.drop_append_of_le_length (by omega),show (A.take ((i+1)*2)).drop (i*2+2)=[] from List.drop_eq_nil_of_le (by omega)]
 simp
theorem grow_list {cur Z:Array Value} {i n:Nat} {y0 y1:Value} (hi:i<n) (hZ:(n+1)*2≤Z.size) (h:Z.toList.take (i*2)=cur.toList.take (i*2)):∃ rest,((rowN2 Z i y0 y1).toList.take ((i+1)*2)++(cur.toList.drop (i*2)).take ((n-i)*2)++(rowN2 Z i y0 y1).toList.drop ((i+1)*2+((cur.toList.drop (i*2)).take ((n-i)*2)).length))=newL cur.toList i n y0 y1++rest:=by
 refine⟨(rowN2 Z i y0 y1).toList.drop ((i+1)*2+((cur.toList.drop (i*2)).take ((n-i)*2)).length),?_⟩
 rw[newL]
 congr 2
 rw[rowN2_list,← h]
 have hl:Z.toList.length=Z.size:=Array.length_toList
 have h1:(Z.toList.take (i*2)++[y0,y1]).length=(i+1)*2:=by
  rw[List.length_append,List.length_take]
  show min (i*2) Z.toList.length+2=_
  omega
 rw[List.take_append_of_le_length (by omega),List.take_of_length_le (by omega)]
theorem ins_own (w:World) (g n cap i vb voff vc:Nat) (cur:Array Value) (ty:TypeId) (y0 y1:Value) (hi:i≤n) (hn:n≤1000) (hnc:n≤cap) (hvb:vb≠g) (hg:w.heap[g]? = some (.cells cur ty (0,0))) (hcc:cap*2≤cur.size)
  (hvs:vb<w.heap.size) (hy0:w.cell? ⟨vb,voff,none⟩=some y0) (hy1:w.cell? ⟨vb,voff+1,none⟩=some y1) (h10:y0.oneCell'=true) (h11:y1.oneCell'=true) (h1c:∀ v∈(cur.toList.drop (i*2)).take ((n-i)*2),v.oneCell'=true) :
  Calls Tryz.prog 113 #[.slice (some ⟨g,0,none⟩) n cap,.int .i64 i,.slice (some ⟨vb,voff,none⟩) 1 vc] w fun e w'=>InsPost w w' g n cap (newL cur.toList i n y0 y1) e:=by
 by_cases hin:i<n
 ·by_cases hroom:n+1≤cap
  ·refine (ins_shift w g n cap i vb voff vc cur ty y0 y1 hin hn hroom hvb hg hcc hy0 hy1 h10 h11 h1c).mono fun e w' h => ?_
   obtain⟨rfl,rfl⟩:=h
   obtain⟨rest,hr⟩:=shift_list (y0:=y0) (y1:=y1) hin (show (n+1)*2≤cur.size by omega)
   have hg1:=setRow_heap w.drew g cur (rowS cur i n) ty _ hg
   refine⟨g,cap,_,ty,rest,rfl,setRow_heap _ g _ _ ty _ hg1,hr,hroom,?_,rfl,rfl,rfl,by simp,.inl ⟨rfl,rfl,fun b hb => ?_⟩⟩
   ·simp[rowN2,rowS];omega
   ·rw[setRow_other _ _ _ _ hb,setRow_other _ _ _ _ hb];rfl
  ·refine (ins_grow w g n cap i vb voff vc cur ty y0 y1 hin hn (by omega) hnc hg hcc hvs hy0 hy1 h10 h11 h1c).mono fun e w' h => ?_
   obtain⟨rfl,Z,W,h1,h2,h3,rfl,rfl⟩:=h
   obtain⟨rest,hr⟩:=grow_list (y0:=y0) (y1:=y1) hin h1 h3
   have hG:=grown_ge (w:=w) (n+1) cap 109
   have hg0:((w.alloc (.cells Z 109)).drew).heap[w.heap.size]? = some (.cells Z 109 (0,0)):=heap_push_new w _
   have hg1:=setRow_heap _ w.heap.size Z (rowN2 Z i y0 y1) _ _ hg0
   refine⟨w.heap.size,_,_,_,rest,rfl,setRow_heap _ _ _ _ _ _ hg1,hr,hG,?_,rfl,rfl,rfl,?_,.inr ⟨Nat.le_refl _,fun b hb => ?_⟩⟩
   ·have hl:=congrArg List.length hr
    simp[rowN2] at hl ⊢
    omega
   ·simp
   ·rw[setRow_other _ _ _ _ (by omega)]
    show (((w.alloc (.cells Z 109)).drew).setRow w.heap.size (rowN2 Z i y0 y1)).heap[b]? = _
    rw[setRow_other _ _ _ _ (by omega)]
    exact heap_push_old w _ hb
 ·obtain rfl:i=n:=by omega
  have hnew:newL cur.toList i i y0 y1=cur.toList.take (i*2)++[y0,y1]:=by rw[newL,Nat.sub_self,Nat.zero_mul,List.take_zero,List.append_nil]
  rw[hnew]
  by_cases hroom:i+1≤cap
  ·refine (ins_end w g i cap vb voff vc cur ty y0 y1 hroom hg hcc hy0 hy1 h10 h11).mono fun e w' h => ?_
   obtain⟨rfl,rfl⟩:=h
   refine⟨g,cap,_,ty,_,rfl,setRow_heap w g cur _ ty _ hg,rowN2_list,hroom,?_,rfl,rfl,rfl,by simp,.inl ⟨rfl,rfl,fun b hb=>setRow_other _ _ _ _ hb⟩⟩
   simp[rowN2];omega
  ·refine (ins_endg w (some ⟨g,0,none⟩) i cap vb voff vc (cur.toList.take (i*2)) y0 y1 hn (by omega) hnc (fun W hW=>run_firstCells_some (P:=Tryz.prog) (w:=W) 2 i ⟨g,0,none⟩ i cap _ (by simp;omega) fun j v hj => ?_) hy0 hy1).mono fun e w' h => ?_
   ·exact cells_run (w:=W) (g:=g) (o:=0) (cur:=cur) (by rw[hW];exact hg) (k:=i*2) j v (by rw[List.drop_zero];exact hj)
   ·obtain⟨rfl,rfl⟩:=h
    have hG:=grown_ge (w:=w) (i+1) cap 109
    refine⟨w.heap.size,_,_,_,_,rfl,heap_push_new w.drew _,by simp only[Array.toList_append];rfl,hG,?_,rfl,rfl,rfl,by simp,.inr ⟨Nat.le_refl _,fun b hb=>heap_push_old w.drew _ hb⟩⟩
    simp[zc_size];omega
theorem ins_none (w:World) (g:Nat) (ad:Option Addr) (vb voff vc:Nat) (y0 y1:Value) (hy0:w.cell? ⟨vb,voff,none⟩=some y0) (hy1:w.cell? ⟨vb,voff+1,none⟩=some y1) :
  Calls Tryz.prog 113 #[.slice ad 0 0,.int .i64 (0:Nat),.slice (some ⟨vb,voff,none⟩) 1 vc] w fun e w'=>InsPost w w' g 0 0 [y0,y1] e:=by
 refine (ins_endg w ad 0 0 vb voff vc [] y0 y1 (by decide) (by decide) (by decide) (fun W hW => ?_) hy0 hy1).mono fun e w' h => ?_
 ·cases ad with
  |none=>exact run_firstCells_none (P:=Tryz.prog) (w:=W) 2 0 0 0
  |some a=>exact run_firstCells_some (P:=Tryz.prog) (w:=W) 2 0 a 0 0 [] rfl fun j v hj=>by simp at hj
 ·obtain⟨rfl,rfl⟩:=h
  have hG:=grown_ge (w:=w) (0+1) 0 109
  refine⟨w.heap.size,_,_,_,_,rfl,heap_push_new w.drew _,by simp only[Array.toList_append];rfl,hG,?_,rfl,rfl,rfl,by simp,.inr ⟨Nat.le_refl _,fun b hb=>heap_push_old w.drew _ hb⟩⟩
  simp[zc_size];omega
theorem new_cells {es:List PV} {A:List Value} {y:PV} {i:Nat} {y0 y1:Value} {R:PV→Value→Prop} (hi:i≤es.length) (hA:es.length*2≤A.length) (hes:∀ p,p∈es→p.cells.length=2)
  (hr:∀ (k:Nat) p (j:Nat) q,es[k]? = some p→p.cells[j]? = some q→∃ v,A[k*2+j]? = some v∧R q v) (hyl:y.cells.length=2) (hy0:∀ q,y.cells[0]? = some q→R q y0) (hy1:∀ q,y.cells[1]? = some q→R q y1) :
  ∀ (k:Nat) p (j:Nat) q,(es.take i++y::es.drop i)[k]? = some p→p.cells[j]? = some q→∃ v,(newL A i es.length y0 y1)[k*2+j]? = some v∧R q v:=by
 intro k p j q hp hq
 have l1:(A.take (i*2)).length=i*2:=by rw[List.length_take];omega
 have lt:(es.take i).length=i:=by rw[List.length_take];omega
 have hj:j<2:=by
  have hpl:p.cells.length=2:=by
   rcases List.mem_append.1 (List.mem_iff_getElem?.2 ⟨k,hp⟩) with h|h
   ·exact hes p (List.mem_of_mem_take h)
   ·rcases List.mem_cons.1 h with rfl|h
    ·exact hyl
    ·exact hes p (List.mem_of_mem_drop h)
  rw[← hpl]
  exact (List.getElem?_eq_some_iff.1 hq).1
 rw[newL,List.append_assoc]
 rcases Nat.lt_trichotomy k i with h|h|h
 ·rw[List.getElem?_append_left (by omega),List.getElem?_take,if_pos h] at hp
  obtain⟨v,h1,h2⟩:=hr k p j q hp hq
  refine⟨v,?_,h2⟩
  rw[List.getElem?_append_left (by omega),List.getElem?_take,if_pos (by omega)]
  exact h1
 ·subst h
  rw[List.getElem?_append_right (by omega),lt,Nat.sub_self] at hp
  cases hp
  rw[List.getElem?_append_right (by omega),l1,show k*2+j-k*2=j by omega]
  match j,hj with
  |0,_=>exact⟨y0,rfl,hy0 q hq⟩
  |1,_=>exact⟨y1,rfl,hy1 q hq⟩
 ·rw[List.getElem?_append_right (by omega),lt] at hp
  obtain⟨d,rfl⟩:∃ d,k=i+1+d:=⟨k-(i+1),by omega⟩
  rw[show i+1+d-i=d+1 by omega,List.getElem?_cons_succ,List.getElem?_drop] at hp
  obtain⟨v,h1,h2⟩:=hr (i+d) p j q hp hq
  have hlt:i+d<es.length:=(List.getElem?_eq_some_iff.1 hp).1
  refine⟨v,?_,h2⟩
  rw[List.getElem?_append_right (by omega),l1,List.getElem?_append_right (by simp;omega)]
  simp only[List.length_cons,List.length_nil]
  rw[show (i+1+d)*2+j-i*2-(0+1+1)=d*2+j by omega,List.getElem?_take,if_pos (by omega),List.getElem?_drop,show i*2+(d*2+j)=(i+d)*2+j by omega]
  exact h1
theorem ins_DC {M:Nat→Prop} {w0:W0} {L:DH} {K:DV→DH→Prop} (k i:Nat) (es:List PV) (y:PV) (hk:L.get k=some (.arr 2 es)) (hi:i≤es.length) (h8:es.length≤900) (hlo:L.lo≤k) (hyl:y.cells.length=2) (hyo:y.cells.all PV.one=true) (heo:∀ p,p∈es→p.cells.all PV.one=true)
  (hK:K (.buf k (es.length+1)) (L.put k (.arr 2 (es.take i++y::es.drop i)))) :
  DC Tryz.prog M w0 113 [.buf k es.length,.pv (i64 i),.pv (.sl [y])] L K:=by
 refine DC.mk ⟨by kernel_rfl,fun μ w vs hr hu hrel => ?_⟩
 obtain⟨v0,v1,v2,rfl⟩:∃ v0 v1 v2,vs=[v0,v1,v2]:=by
  have:=hrel.1
  match vs,this with
  | [a,b,c],_=>exact⟨a,b,c,rfl⟩
 have r0:=hrel.2 0 _ v0 rfl rfl
 have r1:=hrel.2 1 _ v1 rfl rfl
 have r2:=hrel.2 2 _ v2 rfl rfl
 have hkn:=(hr.keys k _ hk).1
 have hbuf:bufVal (μ k) es.length v0:=by
  cases r0 with
  |buf _ _ _ g1 g2 g3=>exact (g2 _ es hk).2 rfl
 obtain rfl:v1=.int .i64 (i:Nat):=by
  cases r1 with
  |pv _ _ h=>cases h;rfl
 obtain⟨vb,voff,vc,val,rfl,hvT,hvs,hvc,hvr⟩:∃ vb voff vc,∃ val:Nat→Value,v2=.slice (some ⟨vb,voff,none⟩) 1 vc∧¬ Tot M μ L vb∧vb<w.heap.size∧(∀ j q,y.cells[j]? = some q→w.cell? ⟨vb,voff+j,none⟩=some (val j))∧∀ j q,y.cells[j]? = some q→RelP (Tot M μ L) w q (val j):=by
  cases r2 with
  |pv _ _ h =>
   generalize hlx:PV.sl [y]=pl at h
   cases h with
   |e0 a c=>cases hlx
   |sl b off sz cap l val g1 g2 g3 g4 g5 g6 =>
    cases hlx
    refine⟨b,off,cap,val 0,rfl,g1,g2,fun j q hq => ?_,fun j q hq=>g6 0 y j q rfl hq⟩
    have:=g5 0 y j q rfl hq
    rw[Nat.zero_mul,Nat.add_zero] at this
    exact this
   |_=>cases hlx
 obtain⟨q0,hq0⟩:∃ q,y.cells[0]? = some q:=⟨_,List.getElem?_eq_getElem (by omega)⟩
 obtain⟨q1,hq1⟩:∃ q,y.cells[1]? = some q:=⟨_,List.getElem?_eq_getElem (by omega)⟩
 have c0:=hvc 0 q0 hq0
 have c1:=hvc 1 q1 hq1
 have p0:=hvr 0 q0 hq0
 have p1:=hvr 1 q1 hq1
 have o0:=one_valP p0 (List.all_eq_true.1 hyo q0 (List.mem_iff_getElem?.2 ⟨0,hq0⟩))
 have o1:=one_valP p1 (List.all_eq_true.1 hyo q1 (List.mem_iff_getElem?.2 ⟨1,hq1⟩))
 rw[Nat.add_zero] at c0
 have hecl:∀ p,p∈es→p.cells.length=2:=fun p hp=>by
  obtain⟨j,hj⟩:=List.mem_iff_getElem?.1 hp
  exact (arr_cells hr hk hj).2.1
 have hacl:∀ p,p∈es.take i++y::es.drop i→p.cells.length=2:=fun p hp=>by
  rcases List.mem_append.1 hp with h|h
  ·exact hecl p (List.mem_of_mem_take h)
  ·rcases List.mem_cons.1 h with rfl|h
   ·exact hyl
   ·exact hecl p (List.mem_of_mem_drop h)
 have hlen:(es.take i++y::es.drop i).length=es.length+1:=by simp;omega
 have fin:∀ (A:List Value) (e:Ending) (w':World),es.length*2≤A.length→(∀ (k:Nat) p (j:Nat) q,es[k]? = some p→p.cells[j]? = some q→∃ v,A[k*2+j]? = some v∧RelP (Tot M μ L) w q v) →
   InsPost w w' (μ k).blk es.length (μ k).cap (newL A i es.length (val 0) (val 1)) e→Go.Dv.Fin M w0 μ L w K e w':=by
  intro A e w' hA hrA hp
  obtain⟨g',cap',row,ty',rest,rfl,hg',hrow,hcap,hsz,hos,htape,hout,hsize,hcase⟩:=hp
  have hgs:g'<w'.heap.size:=by
   apply Classical.byContradiction
   intro q
   rw[Array.getElem?_eq_none (by omega)] at hg'
   cases hg'
  have hlk:g'=(μ k).blk∧cap'=(μ k).cap→(μ k).cap≠0:=fun h=>by omega
  have hliv:(μ k).cap≠0→liveAt (μ k) (.arr 2 es):=fun h=>h
  obtain⟨hs,hr'⟩:=hr.upd (L':=L.put k (.arr 2 (es.take i++y::es.drop i))) (w':=w') k (.arr 2 (es.take i++y::es.drop i)) ⟨g',cap'⟩ (DH.put_same L k _) (fun j hj=>DH.put_ne L _ hj) (Nat.le_refl _) rfl rfl hkn rfl hos htape hout hsize
   (fun b hb hW=>by
    rcases hcase with⟨e1,e2,h⟩|⟨_,h⟩
    ·exact h b fun e=>hW ⟨k,_,hlo,hk,hliv (hlk ⟨e1,e2⟩),e.symm⟩
    ·exact h b hb)
   (fun j o hj hjo hl=>by
    rcases hcase with⟨e1,e2,h⟩|⟨_,h⟩
    ·exact h _ fun e=>hj (hr.inj j o k _ hjo hl hk (hliv (hlk ⟨e1,e2⟩)) e)
    ·exact h _ (hr.live j o hjo hl).1)
   (fun _=>by
    rcases hcase with⟨e1,e2,_⟩|⟨h,_⟩
    ·exact .inl ⟨hkn,⟨_,hk,hliv (hlk ⟨e1,e2⟩)⟩,e1⟩
    ·exact .inr ⟨h,hgs⟩)
   (fun _=>⟨(fun _ e=>by cases e),(fun _ e=>by cases e),(fun _ _ e=>by
    cases e
    exact⟨es,hk,.inl (by rw[hlen];omega)⟩),(fun _ e=>by cases e)⟩)
   (fun hs=>by
    refine .inr ⟨row,ty',by rw[updμ_same];show cap'≠0;omega,by rw[updμ_same];exact hg',by rw[updμ_same,hlen];exact hcap,by rw[updμ_same];exact hsz,hacl,fun k' p j q hp hq => ?_⟩
    obtain⟨v,h1,h2⟩:=new_cells (R:=RelP (Tot M μ L) w) hi hA hecl hrA hyl (fun q hq=>by rw[hq0] at hq;cases hq;exact p0) (fun q hq=>by rw[hq1] at hq;cases hq;exact p1) k' p j q hp hq
    refine⟨v,?_,h2.stp hs⟩
    rw[← Array.getElem?_toList,hrow,List.getElem?_append_left (List.getElem?_eq_some_iff.1 h1).1]
    exact h1)
  refine .inl ⟨_,rfl,_,_,_,hK,hr',?_,?_,hs⟩
  ·refine .buf _ _ _ ⟨_,_,rfl,fun _=>rfl⟩ (fun sz' es' hk' => ?_) (fun es' hk' => ?_)
   ·rw[DH.put_same] at hk'
    cases hk'
    refine⟨by rw[hlen];exact Nat.le_refl _,fun _ => ?_⟩
    rw[updμ_same]
    exact .inr ⟨by show cap'≠0;omega,rfl⟩
   ·rw[DH.put_same] at hk';cases hk'
  ·simpa [DV.under,DH.put,Nat.blt_eq] using hkn
 rcases hbuf with⟨hc0,h0,ad,rfl⟩|⟨hc0,rfl⟩
 ·have hes:es=[]:=List.length_eq_zero_iff.1 h0
  subst hes
  obtain rfl:i=0:=by simpa using hi
  refine (ins_none w (μ k).blk ad vb voff vc (val 0) (val 1) c0 c1).mono fun e w' h=>fin [] e w' (by simp) (fun k p j q hp _=>by simp at hp) ?_
  rw[hc0]
  exact h
 ·rcases hr.obj k _ hk with⟨g0,_⟩|⟨cur,ty,g0,g1,g2,g3,g4,g5⟩
  ·exact absurd g0 hc0
  ·have hvb:vb≠(μ k).blk:=fun e=>hvT (e▸.inr ⟨k,_,hk,hc0,rfl⟩)
   refine (ins_own w (μ k).blk es.length (μ k).cap i vb voff vc cur ty (val 0) (val 1) hi (by omega) g2 hvb g1 g3 hvs c0 c1 o0 o1 fun v hv => ?_).mono fun e w' h=>fin cur.toList e w' (by
    have h1:=Nat.mul_le_mul_right 2 g2
    have h2:cur.toList.length=cur.size:=Array.length_toList
    rw[h2]
    exact Nat.le_trans h1 g3) (fun k p j q hp hq=>by
    obtain⟨v,h1,h2⟩:=g5 k p j q hp hq
    exact⟨v,by simpa using h1,h2⟩) h
   obtain⟨m,hm⟩:=List.mem_iff_getElem?.1 hv
   rw[List.getElem?_take] at hm
   split at hm
   ·rw[List.getElem?_drop] at hm
    have hml:(i*2+m) / 2<es.length:=by omega
    have hp:es[(i*2+m) / 2]? = some es[(i*2+m) / 2]:=List.getElem?_eq_getElem hml
    have hpl:=g4 _ (List.getElem_mem hml)
    have hq:(es[(i*2+m) / 2]).cells[(i*2+m) % 2]? = some ((es[(i*2+m) / 2]).cells[(i*2+m) % 2]'(by omega)):=List.getElem?_eq_getElem (by omega)
    obtain⟨u,h1,h2⟩:=g5 _ _ _ _ hp hq
    rw[show (i*2+m) / 2*2+(i*2+m) % 2=i*2+m by omega] at h1
    rw[Array.getElem?_toList,h1] at hm
    cases hm
    exact one_valP h2 (List.all_eq_true.1 (heo _ (List.getElem_mem hml)) _ (List.getElem_mem _))
   ·cases hm
theorem ins_ok (M:Nat→Prop) (w0:W0):InsOk M w0:=by
 intro a l x y i base K hi h8 hK
 have hK:K (.buf 1 ((l.take i++y::l.drop i).map Asg.pv).length) ((⟨3,0,base,objsOf (HY a l x)⟩:DH).put 1 (.arr 2 ((l.map Asg.pv).take i++y.pv::(l.map Asg.pv).drop i))):=by
  have e:(l.map Asg.pv).take i++y.pv::(l.map Asg.pv).drop i=(l.take i++y::l.drop i).map Asg.pv:=by rw[List.map_append,List.map_cons,List.map_take,List.map_drop]
  rw[e]
  have:((⟨3,0,base,objsOf (HY a l x)⟩:DH).put 1 (.arr 2 ((l.take i++y::l.drop i).map Asg.pv)))=⟨3,0,base,objsOf (HY a (l.take i++y::l.drop i) x)⟩:=by
   simp only[DH.put,DH.mk.injEq,true_and]
   funext k
   match k with
   |0=>rfl
   |1=>rfl
   |2=>rfl
   |k+3=>rfl
  rw[this]
  exact hK
 have hl:((l.take i++y::l.drop i).map Asg.pv).length=(l.map Asg.pv).length+1:=by simp;omega
 rw[hl] at hK
 refine ins_DC 1 i (l.map Asg.pv) y.pv rfl (by rw[List.length_map];exact hi) (by rw[List.length_map];omega) (Nat.zero_le _) rfl rfl (fun p hp => ?_) hK
 obtain⟨z,_,rfl⟩:=List.mem_map.1 hp
 rfl
set_option maxHeartbeats 8000000
def seqEnd:Plan:=.one 10 (.one 11 (.one 12 (.one 13 .done)))
def seqPlan:Plan:=.one 0 (.one 1 (.one 2 (.one 3 (.one 4 (.one 5 (.two 6 (.one 7 (.one 8 (.one 9 seqEnd))) 7 (.two 6 (.one 8 (.one 9 seqEnd)) 8 (.one 9 (.one 6 seqEnd)))))))))
theorem startP_succ (w:Nat):(startP w).map natsPV++[.sl [i64 w]]=(startP (w+1)).map natsPV:=by
 rw[startP,startP,List.range_succ,List.map_append,List.map_append];rfl
theorem long_succ {ps:List (List Nat)} {l:List (Nat×Nat)} {j:Nat} {q:Nat×Nat} (h:l[j]? = some q):(longP ps (l.take j)).map natsPV++[.sl ((ps.getD q.1 []).map i64++[i64 q.2])]=(longP ps (l.take (j+1))).map natsPV:=by
 rw[longP,longP,List.take_add_one,h,List.map_append,List.map_append]
 congr 1
 show[PV.sl _]=[natsPV (ps.getD q.1 []++[q.2])]
 rw[natsPV,List.map_append];rfl
structure SeqInv (m:Mo) (l:List Act) (j:Nat) (n:Mo) (ps:List (List Nat)):Prop where
 fit:FitM n
 res:seqI m l=seqF n ps (l.drop j)
 le:j≤l.length
 good:moI m=0→SeqOk n ps∧∀ p,p∈ps→p.length≤j+1
 bad:moI m≠0→n=m∧j=0
theorem SeqInv.start {m:Mo} {l:List Act} (hf:FitM m) (hnil:l=[]→moI m=0) {K:Nat} (hK:∀ k,OkM m k→k=K) (h64:K≤64):SeqInv m l 0 m (startP K):=by
 refine⟨hf,?_,Nat.zero_le _,fun h0 => ?_,fun _=>⟨rfl,rfl⟩⟩
 ·rw[List.drop_zero]
  by_cases h0:moI m=0
  ·obtain⟨k,hM⟩:=moI_ok h0
   have:=hK k hM
   rw[seqI,h0,hM.nn,this];rfl
  ·cases l with
   |nil=>exact absurd (hnil rfl) h0
   |cons a r=>rw[seq_bad h0,seqI,show (moI m != 0)=true by simpa using h0];rfl
 ·have hl:(startP K).length=K:=by simp[startP]
  have h1:∀ p,p∈startP K→p.length=1:=fun p hp=>by
   obtain⟨w,_,rfl⟩:=List.mem_map.1 hp;rfl
  refine⟨⟨hf,fun k hk=>by rw[hl,hK k hk];exact Nat.le_refl _,fun p hp e => ?_,by omega,fun p hp=>by rw[h1 p hp];omega⟩,fun p hp=>by rw[h1 p hp];omega⟩
  have:=h1 p hp
  rw[e] at this;cases this
theorem drop_at {α:Type} {l:List α} {j:Nat} {a:α} (h:l[j]? = some a):l.drop j=a::l.drop (j+1):=by
 obtain⟨hj,e⟩:=List.getElem?_eq_some_iff.1 h
 rw[List.drop_eq_getElem_cons hj,e]
theorem SeqInv.stop {m:Mo} {l:List Act} {j:Nat} {n:Mo} {ps:List (List Nat)} (h:SeqInv m l j n ps) {a:Act} (ha:l[j]? = some a) (he:((updI n a).2.2 != 0)=true):seqI m l=(noMo,[],(updI n a).2.2):=by
 rw[h.res,drop_at ha,seqF,he];rfl
theorem SeqInv.step {m:Mo} {l:List Act} {j:Nat} {n:Mo} {ps:List (List Nat)} (h:SeqInv m l j n ps) {a:Act} (ha:l[j]? = some a) (he:((updI n a).2.2 != 0)=false) (h4:l.length≤400):moI m=0∧SeqInv m l (j+1) (updI n a).1 (longP ps (updI n a).2.1):=by
 have h0:(updI n a).2.2=0:=by simpa using he
 have hj:=(List.getElem?_eq_some_iff.1 ha).1
 have hm:moI m=0:=by
  refine Decidable.byContradiction fun hb => ?_
  obtain⟨rfl,_⟩:=h.bad hb
  rw[upd_bad hb] at h0
  exact hb h0
 obtain⟨hS,hp⟩:=h.good hm
 have hN:=hS.next h0 fun p hq=>by have:=hp p hq;omega
 refine⟨hm,hN.fit,?_,by omega,fun _=>⟨hN,fun p hq => ?_⟩,fun hb=>absurd hm hb⟩
 ·rw[h.res,drop_at ha,seqF,he];rfl
 ·obtain⟨q,hq',rfl⟩:=List.mem_map.1 hq
  obtain⟨k,h1,_,_,h5⟩:=upd_parts h0
  have hlt:=h5 q hq'
  have:=hS.len k h1
  have hmm:ps.getD q.1 []∈ps:=by
   rw[List.getD_eq_getElem?_getD,List.getElem?_eq_getElem (show q.1<ps.length by omega)]
   exact List.getElem_mem _
  have:=hp _ hmm
  rw[List.length_append];simp only[List.length_singleton];omega
theorem SeqInv.fin {m:Mo} {l:List Act} {j:Nat} {n:Mo} {ps:List (List Nat)} (h:SeqInv m l j n ps) (hj:j=l.length):seqI m l=(n,ps,0):=by
 rw[h.res,hj,List.drop_length];rfl
theorem pr_Sequence (m:Mo) (l:List Act) (hf:FitM m) (hv:m.val.length≤20) (hr:m.rel.length≤10) (hrr:∀ r,r∈m.rel→r.length≤1000) (hl:l.length≤400) (hfa:∀ a,a∈l→Fit a) (hla:∀ a,a∈l→a.rel.length≤1000) (hpa:∀ a,a∈l→∀ x,x∈a.post→x.length≤1000) :
  PureFn Tryz.prog 25 [m.pv,.sl (l.map Act.pv)] (seqPV (seqI m l)):=by
 have hC:=md_Check m hf
 have e1:((l.map Act.pv).length:Int)=(l.length:Int):=by simp
 have hVC:=sl_CloneP m.val (by omega)
 obtain⟨K,qK⟩:∃ K:Nat,max (0:Int) (min m.n 64)=(K:Int):=⟨(max (0:Int) (min m.n 64)).toNat,by omega⟩
 have hK64:K≤64:=by omega
 have hKn:∀ k,OkM m k→k=K:=fun k hk=>by
  have:=hk.nn
  have:=hk.n64
  have:=hk.n1
  omega
 refine PureFn.introC [5,11,17,21,28,29] mixed (fn:=Tryz.f25) rfl rfl rfl fun M w0 => ?_
 try conv=>whnf
 refine⟨{ _x:Unit // l=[]→moI m=0 },fun _=>[(1,.pv (.sl (l.map Act.pv))),(2,.ref 0 0),(4,.ref 1 0)],fun _=>2,fun _=>[(0,.var (cellsM m)),(1,.var cells0)],?_,?_⟩
 ·(try conv=>whnf);repeat' (first|(apply And.intro<;>try conv=>whnf)|(intro h;try conv=>whnf)|(refine PureFn.dcq (f:=40) rfl ?_;try conv=>whnf)|(refine⟨_,_,hC,?_,?_⟩;(focus first|(refine⟨?_,trivial⟩<;>first|exact PLe.refl _|exact PLe.nil)|exact trivial);try conv=>whnf)|fail)
  ·rw[seqI,h];exact le_seq _
  ·exact⟨⟨(),fun _=>by simpa using h⟩,(by refine Wk.of ?_ ?_ rfl rfl rfl<;>repeat' (first|exact trivial|exact WkD.same _|exact WkO.same _ _ rfl|refine⟨?_,?_⟩|fail))⟩
  ·exact⟨⟨(),fun e=>by subst e;simp at h⟩,(by refine Wk.of ?_ ?_ rfl rfl rfl<;>repeat' (first|exact trivial|exact WkD.same _|exact WkO.same _ _ rfl|refine⟨?_,?_⟩|fail))⟩
 rintro⟨_,hnil⟩
 try conv=>whnf
 refine⟨Plan.lin 0 8,[7],by kernel_rfl,?_⟩
 (try conv=>whnf);repeat' (first|(refine⟨_,(by (conv=>whnf);exact hVC),rfl,?_⟩;try conv=>whnf)|fail)
 refine⟨Unit,fun _=>[(1,.pv (.sl (l.map Act.pv))),(2,.ref 0 0),(4,.ref 1 0),(8,.ref 2 0)],fun _=>3,fun _=>[(0,.var (cellsM m)),(1,.var cells0),(2,.var [.pv (.int .i64 m.n),.pv (rowPV m.val),.pv (.sl ((m.rel.take m.rel.length).map rowPV))])],?_,?_⟩
 ·refine⟨{ i:Nat // i≤m.rel.length },fun i=>[(1,.pv (.sl (l.map Act.pv))),(2,.ref 0 0),(4,.ref 1 0),(8,.ref 2 0),(37,.pv (.sl (m.rel.map rowPV))),(38,.pv (i64 (m.rel.map rowPV).length)),(39,.pv (i64 i.1))],fun _=>4,fun i=>[(0,.var (cellsM m)),(1,.var cells0),(2,.var [.pv (.int .i64 m.n),.pv (rowPV m.val),.buf 3 ((m.rel.take i.1).map rowPV).length]),(3,.arr 1 ((m.rel.take i.1).map rowPV))],fun i=>m.rel.length-i.1,⟨⟨0,Nat.zero_le _⟩,(by refine Wk.of ?_ ?_ rfl rfl rfl<;>repeat' (first|exact trivial|exact WkD.same _|exact WkO.same _ _ rfl|exact WkD.new' rfl rfl rfl|exact WkO.new _ _ rfl|refine WkO.vars rfl ?_|exact rfl|refine⟨?_,?_⟩|fail))⟩,?_⟩
  rintro⟨i,hi⟩
  have hlR:((m.rel.map rowPV).length:Int)=(m.rel.length:Int):=by simp
  (try conv=>whnf);repeat' (first|(apply And.intro<;>try conv=>whnf)|(intro h;try conv=>whnf)|(apply infoT;rfl)|fail)
  ·have hi':i<m.rel.length:=by simpa using lt_dec h
   obtain⟨r,hx⟩:∃ y,m.rel[i]? = some y:=⟨_,List.getElem?_eq_getElem hi'⟩
   have hRC:=sl_CloneP r (hrr r (List.mem_iff_getElem?.2 ⟨_,hx⟩))
   have hvsl:((m.rel.take i).map rowPV).length≤1000:=by simp;omega
   have er:(m.rel.take i).map rowPV++[rowPV r]=(m.rel.take (i+1)).map rowPV:=(take_map (f:=rowPV) hx).symm
   refine⟨_,_,rfl,idx_map hx,rfl,?_⟩
   try conv=>whnf
   refine⟨Plan.lin 0 8,[5,7],by kernel_rfl,?_⟩
   (try conv=>whnf);repeat' (first|(apply And.intro<;>try conv=>whnf)|(apply cellsI;rfl)|(apply szI;rfl)|(refine⟨_,(by (conv=>whnf);exact hRC),rfl,?_⟩;try conv=>whnf)|fail)
   ·exact app_big (n:=1000) hvsl (by decide)
   ·refine⟨⟨i+1,hi'⟩,by show m.rel.length-(i+1)<m.rel.length-i;omega,?_⟩
    (refine Wk.of ?_ ?_ rfl rfl rfl<;>repeat' (first|exact trivial|exact WkD.same _|exact WkO.same _ _ rfl|exact WkD.eq (congrArg (fun z:List PV=>DV.buf _ z.length) er)|exact WkO.same _ _ (congrArg (fun z=>some (DObj.arr _ z)) er)|refine WkD.int ?_|refine WkO.vars rfl ?_|refine⟨?_,?_⟩|(refine wrapA ?_ ?_ ?_;(focus simp;done);(focus (try dsimp only);omega);(focus (try dsimp only);omega))|fail))
  ·have hi':i=m.rel.length:=by have:=ge_dec (m:=(m.rel.map rowPV).length) h (by simpa using hi);simpa using this
   subst hi'
   exact⟨(),(by refine Wk.of ?_ ?_ rfl rfl rfl<;>repeat' (first|exact trivial|exact WkD.same _|exact WkO.same _ _ rfl|exact WkD.fz _ _ _ rfl (Or.inl ⟨_,rfl⟩) rfl|refine WkO.vars rfl ?_|refine⟨?_,?_⟩|fail))⟩
 rintro _
 generalize hR:m.rel.take m.rel.length=R
 obtain rfl:R=m.rel:=by rw[← hR,List.take_length]
 clear hR
 refine⟨Unit,fun _=>[(1,.pv (.sl (l.map Act.pv))),(4,.ref 1 0),(8,.ref 2 0),(11,.pv (hisPV (startP K)))],fun _=>3,fun _=>[(1,.var cells0),(2,.var (cellsM m))],?_,?_⟩
 ·try conv=>whnf
  refine⟨{ i:Nat // i≤K },fun i=>[(1,.pv (.sl (l.map Act.pv))),(4,.ref 1 0),(8,.ref 2 0),(11,.buf 3 ((startP i.1).map natsPV).length),(54,.pv (i64 K)),(55,.pv (i64 i.1))],fun _=>4,fun i=>[(1,.var cells0),(2,.var (cellsM m)),(3,.arr 1 ((startP i.1).map natsPV))],fun i=>K-i.1,⟨⟨0,Nat.zero_le _⟩,?_⟩,?_⟩
  ·(refine Wk.of ?_ ?_ rfl rfl rfl<;>repeat' (first|exact trivial|exact WkD.same _|exact WkO.same _ _ rfl|refine WkD.int ?_|exact WkD.new' rfl rfl rfl|exact WkO.new _ _ rfl|exact rfl|refine⟨?_,?_⟩|fail))
   exact qK
  rintro⟨i,hi⟩
  (try conv=>whnf);repeat' (first|(apply And.intro<;>try conv=>whnf)|(intro h;try conv=>whnf)|(apply cellsI;rfl)|(apply szI;rfl)|fail)
  ·have hi':i<K:=by simpa using lt_dec h
   have hvsl:((startP i).map natsPV).length≤1000:=by simp[startP];omega
   exact app_big (n:=1000) hvsl (by decide)
  ·have hi':i<K:=by simpa using lt_dec h
   have er:=startP_succ i
   ·refine⟨⟨i+1,hi'⟩,by show K-(i+1)<K-i;omega,?_⟩
    (refine Wk.of ?_ ?_ rfl rfl rfl<;>repeat' (first|exact trivial|exact WkD.same _|exact WkO.same _ _ rfl|exact WkD.eq (congrArg (fun z:List PV=>DV.buf _ z.length) er)|exact WkO.same _ _ (congrArg (fun z=>some (DObj.arr _ z)) er)|refine WkD.int ?_|refine⟨?_,?_⟩|(refine wrapA ?_ ?_ ?_;(focus simp;done);(focus (try dsimp only);omega);(focus (try dsimp only);omega))|fail))
  ·have hi':i=K:=ge_dec h hi
   subst hi'
   exact⟨(),(by refine Wk.of ?_ ?_ rfl rfl rfl<;>repeat' (first|exact trivial|exact WkD.same _|exact WkO.same _ _ rfl|exact WkD.fz _ _ _ rfl (Or.inl ⟨_,rfl⟩) rfl|refine⟨?_,?_⟩|fail))⟩
 rintro _
 have hst:=SeqInv.start hf hnil hKn hK64
 try conv=>whnf
 refine⟨{ x:Nat×Mo×List (List Nat) // SeqInv m l x.1 x.2.1 x.2.2 },fun x=>[(4,.ref 1 0),(8,.ref 2 0),(11,.pv (hisPV x.1.2.2)),(64,.pv (.sl (l.map Act.pv))),(65,.pv (i64 (l.map Act.pv).length)),(66,.pv (i64 x.1.1))],fun _=>3,fun x=>[(1,.var cells0),(2,.var (cellsM x.1.2.1))],fun x=>l.length-x.1.1,⟨⟨(0,m,startP K),hst⟩,(by refine Wk.of ?_ ?_ rfl rfl rfl<;>repeat' (first|exact trivial|exact WkD.same _|exact WkO.same _ _ rfl|refine⟨?_,?_⟩|fail))⟩,?_⟩
 rintro⟨⟨j,n,ps⟩,hI⟩
 (try conv=>whnf);repeat' (first|(apply And.intro<;>try conv=>whnf)|(intro h;try conv=>whnf)|(apply infoT;rfl)|fail)
 ·have hj:j<l.length:=by simpa using lt_dec h
  obtain⟨a,ha⟩:∃ a,l[j]? = some a:=⟨_,List.getElem?_eq_getElem hj⟩
  have haM:=List.mem_iff_getElem?.2 ⟨_,ha⟩
  have hU:=pr_Update n a hI.fit (hfa a haM) (hla a haM) (hpa a haM)
  have hst:=hI.step ha
  have hso:=hI.stop ha
  have hpt:=upd_parts (n:=n) (a:=a)
  have hlen:=updI_len n a
  have hgd:=hI.good
  obtain⟨n',prs,e,hX⟩:∃ n' prs e,updI n a=(n',prs,e):=⟨_,_,_,rfl⟩
  rw[hX] at hU hst hso hpt hlen
  refine⟨_,_,rfl,idx_map ha,rfl,?_⟩
  try conv=>whnf
  refine⟨Unit,fun _=>[(4,.ref 1 0),(8,.ref 2 0),(11,.pv (hisPV ps)),(64,.pv (.sl (l.map Act.pv))),(65,.pv (i64 (l.map Act.pv).length)),(66,.pv (i64 j)),(15,.ref 4 0),(16,.pv (.sl (prs.map pairPV))),(17,.pv (.int .i64 e))],fun _=>5,fun _=>[(1,.var cells0),(2,.var (cellsM n)),(4,.var (cellsM n'))],?_,?_⟩
  ·(try conv=>whnf);repeat' (first|(refine PureFn.dcq (f:=18) rfl ?_;try conv=>whnf)|(refine⟨_,_,hU,?_,?_⟩;(focus first|(refine⟨?_,?_,trivial⟩<;>first|exact PLe.refl _|exact PLe.nil)|exact trivial);try conv=>whnf)|fail)
   exact⟨(),(by refine Wk.of ?_ ?_ rfl rfl rfl<;>repeat' (first|exact trivial|exact WkD.same _|exact WkO.same _ _ rfl|refine⟨?_,?_⟩|fail))⟩
  rintro _
  (try conv=>whnf);repeat' (first|(apply And.intro<;>try conv=>whnf)|(intro h;try conv=>whnf)|fail)
  ·rw[hso h];exact le_seq e
  obtain⟨hm0,hnx⟩:=hst h hl
  obtain⟨k,hk1,hk2,hk3,hk4⟩:=hpt (by simpa using h)
  obtain⟨hS,hsh⟩:=hgd hm0
  have hkl:=hS.len k hk1
  have hlen:prs.length≤64:=hlen
  refine⟨Unit,fun _=>[(4,.ref 1 0),(8,.ref 2 0),(11,.pv (hisPV ps)),(64,.pv (.sl (l.map Act.pv))),(65,.pv (i64 (l.map Act.pv).length)),(66,.pv (i64 j)),(15,.ref 4 0),(18,.pv (hisPV (longP ps (prs.take prs.length))))],fun _=>5,fun _=>[(1,.var cells0),(2,.var (cellsM n)),(4,.var (cellsM n'))],?_,?_⟩
  ·refine⟨{ i:Nat // i≤prs.length },fun i=>[(4,.ref 1 0),(8,.ref 2 0),(11,.pv (hisPV ps)),(64,.pv (.sl (l.map Act.pv))),(65,.pv (i64 (l.map Act.pv).length)),(66,.pv (i64 j)),(15,.ref 4 0),(18,.buf 5 ((longP ps (prs.take i.1)).map natsPV).length),(81,.pv (.sl (prs.map pairPV))),(82,.pv (i64 (prs.map pairPV).length)),(83,.pv (i64 i.1))],fun _=>6,fun i=>[(1,.var cells0),(2,.var (cellsM n)),(4,.var (cellsM n')),(5,.arr 1 ((longP ps (prs.take i.1)).map natsPV))],fun i=>prs.length-i.1,⟨⟨0,Nat.zero_le _⟩,(by refine Wk.of ?_ ?_ rfl rfl rfl<;>repeat' (first|exact trivial|exact WkD.same _|exact WkO.same _ _ rfl|exact WkD.new' rfl rfl rfl|exact WkO.new _ _ rfl|exact rfl|refine⟨?_,?_⟩|fail))⟩,?_⟩
   rintro⟨i,hi⟩
   (try conv=>whnf);repeat' (first|(apply And.intro<;>try conv=>whnf)|(intro h;try conv=>whnf)|fail)
   ·have hi':i<prs.length:=by simpa using lt_dec h
    obtain⟨q,hq⟩:∃ q,prs[i]? = some q:=⟨_,List.getElem?_eq_getElem hi'⟩
    have hq1:q.1<ps.length:=Nat.lt_of_lt_of_le (hk4 q (List.mem_iff_getElem?.2 ⟨_,hq⟩)) hkl
    have hm:ps.getD q.1 []∈ps:=by
     rw[List.getD_eq_getElem?_getD,List.getElem?_eq_getElem hq1]
     exact List.getElem_mem _
    have hgq:ps[q.1]? = some (ps.getD q.1 []):=by rw[List.getD_eq_getElem?_getD,List.getElem?_eq_getElem hq1];rfl
    have hne:=hS.ne _ hm
    have hsm:(ps.getD q.1 []).length≤j+1:=hsh _ hm
    have el:=long_succ (ps:=ps) hq
    have hvsl:((longP ps (prs.take i)).map natsPV).length≤1000:=by simp[longP];omega
    have hvs2:((ps.getD q.1 []).map i64).length≤1000:=by rw[List.length_map];omega
    have hix:=idx_map (g:=natsPV) hgq
    have hixp:=idx_map (g:=pairPV) hq
    generalize ps.getD q.1 []=pq at *
    refine⟨Unit,fun _=>[(4,.ref 1 0),(8,.ref 2 0),(11,.pv (hisPV ps)),(64,.pv (.sl (l.map Act.pv))),(65,.pv (i64 (l.map Act.pv).length)),(66,.pv (i64 j)),(15,.ref 4 0),(18,.buf 5 ((longP ps (prs.take (i+1))).map natsPV).length),(81,.pv (.sl (prs.map pairPV))),(82,.pv (i64 (prs.map pairPV).length)),(83,.pv (i64 i))],fun _=>6,fun _=>[(1,.var cells0),(2,.var (cellsM n)),(4,.var (cellsM n')),(5,.arr 1 ((longP ps (prs.take (i+1))).map natsPV))],?_,?_⟩
    ·(try conv=>whnf);repeat' (first|(apply And.intro<;>try conv=>whnf)|(apply infoT;rfl)|(refine⟨_,_,rfl,idx_map (by with_reducible assumption),rfl,?_⟩;try conv=>whnf)|fail)
     refine⟨seqPlan,[6,10,11,12],by kernel_rfl,?_⟩
     (try conv=>whnf);repeat' (first|(apply And.intro<;>try conv=>whnf)|(apply infoT;rfl)|(apply cellsI;rfl)|(refine⟨_,_,rfl,idx_map (by with_reducible assumption),rfl,?_⟩;try conv=>whnf)|fail)
     all_goals (refine sl_CloneI pq hne (by omega) _ _ ?_;(try conv=>whnf);repeat' (first|(apply And.intro<;>try conv=>whnf)|(apply bleI;rfl)|(apply cellsI;rfl)|(apply szI;rfl)|fail))
     all_goals first|exact app_big (n:=1000) hvs2 (by decide)|exact app_big (n:=1000) hvsl (by decide)|(refine⟨(),?_⟩;(refine Wk.of ?_ ?_ rfl rfl rfl<;>repeat' (first|exact trivial|exact WkD.same _|exact WkO.same _ _ rfl|exact WkD.eq (congrArg (fun z:List PV=>DV.buf _ z.length) el)|exact WkO.same _ _ (congrArg (fun z=>some (DObj.arr _ z)) el)|refine⟨?_,?_⟩|fail)))
    rintro _
    try conv=>whnf
    exact⟨⟨i+1,hi'⟩,by show prs.length-(i+1)<prs.length-i;omega,(by refine Wk.of ?_ ?_ rfl rfl rfl<;>repeat' (first|exact trivial|exact WkD.same _|exact WkO.same _ _ rfl|refine WkD.int ?_|refine⟨?_,?_⟩|(refine wrapA ?_ ?_ ?_;(focus simp;done);(focus (try dsimp only);omega);(focus (try dsimp only);omega))|fail))⟩
   ·have hi':i=prs.length:=by have:=ge_dec (m:=(prs.map pairPV).length) h (by simpa using hi);simpa using this
    subst hi'
    exact⟨(),(by refine Wk.of ?_ ?_ rfl rfl rfl<;>repeat' (first|exact trivial|exact WkD.same _|exact WkO.same _ _ rfl|exact WkD.fz _ _ _ rfl (Or.inl ⟨_,rfl⟩) rfl|refine⟨?_,?_⟩|fail))⟩
  rintro _
  generalize hR:prs.take prs.length=R
  obtain rfl:R=prs:=by rw[← hR,List.take_length]
  clear hR
  try conv=>whnf
  exact⟨⟨(j+1,n',longP ps R),hnx⟩,by show l.length-(j+1)<l.length-j;omega,(by refine Wk.of ?_ ?_ rfl rfl rfl<;>repeat' (first|exact trivial|exact WkD.same _|exact WkO.same _ _ rfl|refine WkD.int ?_|refine⟨?_,?_⟩|(refine wrapA ?_ ?_ ?_;(focus simp;done);(focus (try dsimp only);omega);(focus (try dsimp only);omega))|fail))⟩
 ·have hj:j=l.length:=by have:=ge_dec (m:=(l.map Act.pv).length) h (by simpa using hI.le);simpa using this
  rw[hI.fin hj]
  exact .refl _
theorem smx_alone {a:Act} (h:aloneI a=0):SmX a:=by
 have hO:=actI_ok h
 refine⟨fun r hr s hs => ?_,by have:=hO.agn;omega,fun l hl => ?_⟩
 ·exact Nat.lt_of_lt_of_le (hO.bits r hr s hs) (Nat.pow_le_pow_right (by decide) (by have:=hO.n8;omega))
 ·obtain⟨e,he,rfl⟩:=List.mem_iff_getElem.1 hl
  have h1:=chgs_asc ((evs_all hO.ev).2 e (by rw[← hO.post];exact he))
  rw[List.getD_eq_getElem?_getD,List.getElem?_eq_getElem he] at h1
  have h2:AscA a.post[e]:=⟨h1.1,fun x hx=>⟨(h1.2 x hx).2.1,(h1.2 x hx).2.2.1⟩⟩
  have:=h2.len
  omega
theorem asc_of {a:Act} (h:aloneI a=0) {e:Nat} (he:e<a.pre.length):AscA (a.post.getD e []):=by
 have h1:=chgs_asc ((evs_all (actI_ok h).ev).2 e he)
 exact⟨h1.1,fun x hx=>⟨(h1.2 x hx).2.1,(h1.2 x hx).2.2.1⟩⟩
theorem compose_dc (a b:Act) (hSa:SmX a) (hSb:SmX b):PureFn Tryz.prog 23 [a.pv,b.pv] (pairA (composeI a b)) :=
 cp_Compose a b hSa hSb fun ha hb e f he hf=>cp_assignments a e (b.post.getD f []) hSa ins_ok (by rw[(actI_ok ha).post];exact he) (asc_of ha he) (asc_of hb hf)
theorem cmp_alone {a b c:Act} (h:Cmp a b c):aloneI c=0:=by
 have h1:c.rel.length=a.rel.length:=by rw[h.rel,relsC,List.length_map,List.length_range]
 have hb:actI b a.rel.length (8:Nat)=0:=by rw[h.rl];exact h.b0
 have:=cmp_act (A:=a.rel.length) (F:=8) h (by decide) h.a0 hb
 rw[aloneI,h1]
 exact this
theorem fewM_szs {m:Mo} {k:Int} (h:fewM m k=true):m.val.length≤20∧m.rel.length≤10∧∀ r,r∈m.rel→r.length≤1000:=by
 unfold fewM at h
 cases hb:fewB m k with
 |true=>rw[hb] at h;cases h
 |false =>
  rw[hb] at h
  have h2:(m.rel.any fun r=>decide ((r.length:Int)>70))=false:=by simpa using h
  unfold fewB at hb
  cases q0:(bif decide (m.n>k) then decide (m.n≤64) else false) with
  |true=>rw[q0] at hb;cases hb
  |false =>
   cases q1:decide ((m.val.length:Int)>20) with
   |true=>rw[q0,q1] at hb;cases hb
   |false =>
    rw[q0,q1] at hb
    have q2:decide ((m.rel.length:Int)>10)=false:=hb
    have:=of_decide_eq_false q1
    have:=of_decide_eq_false q2
    refine⟨by omega,by omega,fun r hr => ?_⟩
    have:=List.any_eq_false.1 h2 r hr
    have:=of_decide_eq_false (show decide ((r.length:Int)>70)=false by simpa using this)
    omega
theorem upd_szs {m:Mo} {a:Act}:(updI m a).1.val.length≤1000∧(updI m a).1.rel.length≤1000∧∀ r,r∈(updI m a).1.rel→r.length≤1000:=by
 have h0:noMo.val.length≤1000∧noMo.rel.length≤1000∧∀ r,r∈noMo.rel→r.length≤1000:=⟨by decide,by decide,by intro r hr;cases hr⟩
 by_cases hk:(worldsI m a).2=0
 ·obtain⟨k1,k2,k3⟩:=worldsI_ok hk
  obtain⟨⟨n,hM⟩,hA⟩:=moaI_ok k1
  unfold updI
  rw[hk,k2]
  cases hq:decide (((pairsL m a).length:Int)>64) with
  |true=>exact h0
  |false =>
   have:=of_decide_eq_false hq
   have hP:=prod_ok (a:=a) hM k3 (by omega)
   have h1:=hP.fa
   have h2:=hP.ag
   have h3:=hP.n64
   exact⟨show (prodM m a (pairsL m a)).val.length≤1000 by omega,show (prodM m a (pairsL m a)).rel.length≤1000 by omega,fun r hr=>by rw[hP.rows r hr];omega⟩
 ·have hb:((worldsI m a).2 != 0)=true:=by simpa using hk
  unfold updI
  rw[hb];exact h0
end Go.Proofs.YtejbieopeicgkaaGreatDoor
