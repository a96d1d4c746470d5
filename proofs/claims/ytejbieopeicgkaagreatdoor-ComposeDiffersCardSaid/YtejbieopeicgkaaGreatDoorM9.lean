/- Parts of the proof, one after the other: The layer Dv, part 24: objects whose numbers are not literals; own arrays lent to calls. Reductions of announcements: the program walked. Reductions of announcements: operands, announce, Announced of the program walked. Reductions of events and of whole formulas: what they are (plain). Reductions of events: the table of the program; events, each, know walked. Reductions of events: know and body of the program walked. Reductions of events: after and After of the program walked. Reductions: what the nodes of a reduction are (plain). Reductions of events: After of the program walked. The layer Dv, part 25: functions that may panic; a deferred call that recovers. -/
import Derived.Recover
import Derived.Test.YtejbieopeicgkaaGreatDoorM8
namespace Go.Dv
section
variable {P:Program} {M:Nat->Prop} {w0:W0}
theorem whenOff {c:Bool} {A B:DV->Prop} (hc:c=false) (h2:B (.pv (.bool false))):WhenQ (fun d=>c=true->A d) B :=
 WhenQ.mk (d:=.pv (.bool false)) (fun h=>by rw[hc] at h;cases h) h2
theorem get_eq {L:DH} {k:Nat} {o:Option DObj} (h:L.get k=o):L.get k=o:=h
theorem merge_same {L:DH} {ρ σ:Nat->Nat} {p:Nat->Bool} {L':DH} (h:∀ k,p k=true->(L'.get (σ k)).map (DObj.ren ρ)=L.get k):L.mergeR ρ σ p L'=L:=by
 unfold DH.mergeR
 cases L with
 |mk next lo base get =>
  simp only[DH.mk.injEq,true_and]
  funext k
  cases hk:p k with
  |true=>exact h k hk
  |false=>rfl
theorem DC.lend {f:FuncId} {rest:List DV} {L:DH} {K:DV->DH->Prop} {k n sz:Nat} {es:List PV} {q:DV} (hg:L.get k=some (.arr sz es)) (h0:L.lo=0) (hk:k<L.next) (hr:∀ σ,DV.rens σ rest=rest) (hrk:∀ p,DV.keyss p rest=true) (hru:DV.unders 1 rest=true) (hq:∀ ρ,q.ren ρ=q)
  (h:∀ M (K':DV->DH->Prop),K' q ⟨1,0,1,objsOf [(0,.arr sz es)]⟩->DC P M w0.no f (.buf 0 n::rest) ⟨1,0,1,objsOf [(0,.arr sz es)]⟩ K') (hK:K q L):DC P M w0 f (.buf k n::rest) L K:=by
 have hkk:Nat.beq k k=true:=Nat.beq_refl k;refine DC.ren (H:=⟨1,0,1,objsOf [(0,.arr sz es)]⟩) (fun _=>k) (fun _=>0) (fun j=>Nat.beq j k) (fun j hj=>⟨hkk,?_,hk⟩) (fun j hj=>⟨Nat.zero_lt_one,(Nat.eq_of_beq_eq_true hj).symm⟩) (fun j hj => ?_) (fun j o hj ho => ?_) (fun j hj => ?_) rfl h0 (Nat.le_refl 1) (fun j o ho => ?_) ?_ ?_ fun M' => ?_
 ·have:j<1:=hj
  show 0=j
  omega
 ·have:j<1:=hj;have:j=0:=by omega
  subst this
  show some (DObj.arr sz es)=(L.get k).map _
  rw[hg];rfl
 ·rw[hg] at ho;obtain rfl:=Option.some.inj ho;rfl
 ·have:1<=j:=hj
  show (bif Nat.beq j 0 then _ else none)=none
  have:Nat.beq j 0=false:=by
   cases hb:Nat.beq j 0 with
   |false=>rfl
   |true=>have:=Nat.eq_of_beq_eq_true hb;omega
  rw[this];rfl
 ·have:j=0/\o=.arr sz es:=by
   have ho:(bif Nat.beq j 0 then some (DObj.arr sz es) else none)=some o:=ho
   cases hb:Nat.beq j 0 with
   |false=>rw[hb] at ho;cases ho
   |true=>rw[hb] at ho;exact⟨Nat.eq_of_beq_eq_true hb,(Option.some.inj ho).symm⟩
  obtain⟨rfl,rfl⟩:=this;rfl
 ·show (Nat.beq k k && DV.keyss _ rest)=true
  rw[hkk,hrk];rfl
 ·show (Nat.blt 0 1 && DV.unders 1 (DV.rens _ rest))=true
  rw[hr,hru];rfl
 ·show DC P M' w0.no f (.buf 0 n::DV.rens _ rest) _ _
  rw[hr];refine h M' _ ⟨rfl,?_⟩;rw[hq,merge_same]
  ·exact hK
  ·intro j hj;have:=Nat.eq_of_beq_eq_true hj;subst this
   show (some (DObj.arr sz es)).map _=L.get j
   rw[hg];rfl
theorem Wk.ofN (f:Nat) {e:Env} {L:DH} {E:List (Nat×DV)} {nx:Nat} {H:List (Nat×DObj)} (h1:wkE e L H E) (h2:wkH L H (H.take f)) (h3:wkU nx E (H.take f)=true) (h4:Nat.ble L.lo nx=true) (h5:Nat.ble L.base nx=true)
  (ht:∀ q,q∈H.drop f->(L.get q.1=some q.2\/(L.get q.1=none/\L.next<=q.1/\∃ sz,q.2=.arr sz []))/\q.1<nx/\q.2.under nx=true):Wk e L E nx H:=by
 have hs:∀ q,q∈H->q∈H.take f\/q∈H.drop f:=fun q hq=>by
  rw[<- List.take_append_drop f H] at hq;exact List.mem_append.1 hq
 have hU:∀ q,q∈E->q.2.under nx=true:=by
  simp only[wkU,Bool.and_eq_true,List.all_eq_true] at h3;exact fun q hq=>h3.1 q hq
 have hV:∀ q,q∈H.take f->Nat.blt q.1 nx=true/\q.2.under nx=true:=by
  simp only[wkU,Bool.and_eq_true,List.all_eq_true] at h3;exact fun q hq=>h3.2 q hq
 have g1:∀ (l:List (Nat×DV)),wkE e L H l->∀ q,q∈l->WkD L H (e q.1) q.2:=by
  intro l
  induction l with
  |nil=>intro _ q hq;simp at hq
  |cons x r ih =>
   intro h q hq
   rcases List.mem_cons.1 hq with rfl|hq
   ·exact h.1
   ·exact ih h.2 q hq
 have g2:∀ (l:List (Nat×DObj)),wkH L H l->∀ q,q∈l->WkO L H q.1 q.2/\(L.get q.1=none->L.next<=q.1):=by
  intro l
  induction l with
  |nil=>intro _ q hq;simp at hq
  |cons x r ih =>
   intro h q hq
   rcases List.mem_cons.1 hq with rfl|hq
   ·refine⟨h.1,fun hn => ?_⟩;have:=h.2.1;rw[hn] at this;simpa using this
   ·exact ih h.2.2 q hq
 refine⟨fun q hq=>g1 E h1 q hq,fun q hq => ?_,hU,fun q hq => ?_,by simpa using h4,by simpa using h5,fun q hq hn => ?_⟩
 ·rcases hs q hq with h|h
  ·exact (g2 _ h2 q h).1
  ·rcases (ht q h).1 with h|⟨hn,_,sz,e⟩
   ·exact .same _ _ h
   ·rw[e];exact .new _ sz hn
 ·rcases hs q hq with h|h
  ·exact hV q h
  ·exact⟨by rw[Nat.blt_eq];exact (ht q h).2.1,(ht q h).2.2⟩
 ·rcases hs q hq with h|h
  ·exact (g2 _ h2 q h).2 hn
  ·rcases (ht q h).1 with h|⟨_,h,_⟩
   ·rw[h] at hn;cases hn
   ·exact h
theorem Wk.ofP {e:Env} {L:DH} {E:List (Nat×DV)} {nx:Nat} {H:List (Nat×DObj)} (h1:wkE e L H E) (h3:wkU nx E []=true) (h4:Nat.ble L.lo nx=true) (h5:Nat.ble L.base nx=true)
  (ht:∀ q,q∈H->WkO L H q.1 q.2/\(L.get q.1=none->L.next<=q.1)/\q.1<nx/\q.2.under nx=true):Wk e L E nx H:=by
 have hU:∀ q,q∈E->q.2.under nx=true:=by
  simp only[wkU,Bool.and_eq_true,List.all_eq_true] at h3;exact fun q hq=>h3.1 q hq
 have g1:∀ (l:List (Nat×DV)),wkE e L H l->∀ q,q∈l->WkD L H (e q.1) q.2:=by
  intro l
  induction l with
  |nil=>intro _ q hq;simp at hq
  |cons x r ih =>
   intro h q hq
   rcases List.mem_cons.1 hq with rfl|hq
   ·exact h.1
   ·exact ih h.2 q hq
 exact⟨fun q hq=>g1 E h1 q hq,fun q hq=>(ht q hq).1,hU,fun q hq=>⟨by rw[Nat.blt_eq];exact (ht q hq).2.2.1,(ht q hq).2.2.2⟩,by simpa using h4,by simpa using h5,fun q hq=>(ht q hq).2.1⟩
theorem DC.callS {f:FuncId} {args:List DV} {L:DH} {K:DV->DH->Prop} {q:DV} (n:Nat) (Hl:List (Nat×DObj)) (hag:∀ k,k<n->objsOf Hl k=L.get k) (hu:∀ q,q∈Hl->q.1<n/\q.2.under n=true) (hnx:Nat.ble n L.next=true) (hlo:Nat.ble L.lo n=true) (hargs:DV.unders n args=true)
  (h:∀ M (K':DV->DH->Prop),K' q ⟨n,L.lo,n,objsOf Hl⟩->DC P M w0.no f args ⟨n,L.lo,n,objsOf Hl⟩ K') (hK:K q L):DC P M w0 f args L K:=by
 refine DC.frame (H:=⟨n,L.lo,n,objsOf Hl⟩) hag (fun k hk => ?_) (by simpa using hnx) rfl (by simpa using hlo) (Nat.le_refl n) (fun k o hk=>(hu _ (objsOf_mem hk)).2) hargs fun M'=>h M' _ ⟨rfl,?_⟩
 ·cases hg:objsOf Hl k with
  |none=>exact hg
  |some o =>
   have:=(hu _ (objsOf_mem hg)).1;simp only at hk this;omega
 ·have e:L.merge ⟨n,L.lo,n,objsOf Hl⟩ n=L:=by
   cases L with
   |mk next lo base get =>
    simp only[DH.merge,DH.mk.injEq,true_and]
    funext k
    cases hk:Nat.blt k n with
    |true=>exact hag k (by simpa using hk)
    |false=>rfl
  exact e.symm▸hK
theorem DC.lendV {f:FuncId} {p:PV} {L:DH} {K:DV->DH->Prop} {k:Nat} {cs:List DV} {q:DV} (hg:L.get k=some (.var cs)) (h0:L.lo=0) (hk:k<L.next) (hr:∀ σ,DV.rens σ cs=cs) (hrk:∀ p,DV.keyss p cs=true) (hru:DV.unders 1 cs=true) (hq:∀ ρ,q.ren ρ=q)
  (h:∀ M (K':DV->DH->Prop),K' q ⟨1,0,1,objsOf [(0,.var cs)]⟩->DC P M w0.no f [.pv p,.ref 0 0] ⟨1,0,1,objsOf [(0,.var cs)]⟩ K') (hK:K q L):DC P M w0 f [.pv p,.ref k 0] L K:=by
 have hkk:Nat.beq k k=true:=Nat.beq_refl k;refine DC.ren (H:=⟨1,0,1,objsOf [(0,.var cs)]⟩) (fun _=>k) (fun _=>0) (fun j=>Nat.beq j k) (fun j hj=>⟨hkk,?_,hk⟩) (fun j hj=>⟨Nat.zero_lt_one,(Nat.eq_of_beq_eq_true hj).symm⟩) (fun j hj => ?_) (fun j o hj ho => ?_) (fun j hj => ?_) rfl h0 (Nat.le_refl 1) (fun j o ho => ?_) ?_ rfl fun M' => ?_
 ·have:j<1:=hj
  show 0=j
  omega
 ·have:j<1:=hj;have:j=0:=by omega
  subst this
  show some (DObj.var cs)=(L.get k).map _
  rw[hg]
  show _=some (DObj.var (DV.rens _ cs))
  rw[hr]
 ·rw[hg] at ho;obtain rfl:=Option.some.inj ho;exact hrk _
 ·have:1<=j:=hj
  show (bif Nat.beq j 0 then _ else none)=none
  have:Nat.beq j 0=false:=by
   cases hb:Nat.beq j 0 with
   |false=>rfl
   |true=>have:=Nat.eq_of_beq_eq_true hb;omega
  rw[this];rfl
 ·have:j=0/\o=.var cs:=by
   have ho:(bif Nat.beq j 0 then some (DObj.var cs) else none)=some o:=ho
   cases hb:Nat.beq j 0 with
   |false=>rw[hb] at ho;cases ho
   |true=>rw[hb] at ho;exact⟨Nat.eq_of_beq_eq_true hb,(Option.some.inj ho).symm⟩
  obtain⟨rfl,rfl⟩:=this;exact hru
 ·show (true && (Nat.beq k k && true))=true
  rw[hkk];rfl
 ·refine h M' _ ⟨rfl,?_⟩;rw[hq,merge_same]
  ·exact hK
  ·intro j hj;have:=Nat.eq_of_beq_eq_true hj;subst this
   show (some (DObj.var cs)).map _=L.get j
   rw[hg]
   show some (DObj.var (DV.rens _ cs))=_
   rw[hr]
theorem PureFn.res {f:FuncId} {ps:List PV} {p q:PV} (h:PureFn P f ps p) (hle:PLe p q):PureFn P f ps q :=
 PureFn.mk ⟨h.elim.1,fun M w vs hG hM hrel=>(h.elim.2 M w vs hG hM hrel).mono fun _ _ ⟨v,he,hv,hb⟩=>⟨v,he,hle.rel hv,hb⟩⟩
end
end Go.Dv
set_option maxRecDepth 100000
set_option maxHeartbeats 4000000
namespace Go.Proofs.YtejbieopeicgkaaGreatDoor
open Go Go.Dv
theorem red_apply0 (x:Nd) (X Y:List Nd) (hx:1<=x.op/\x.op<=13):PureFn Tryz.prog 155 [x.pv,fpv X,fpv Y] (npv (apN x X Y)):=by
 obtain⟨z,hz⟩:∃ z,apN x X Y=z:=⟨_,rfl⟩;rw[hz];unfold apN at hz;have c1:=fn_True;have c2:=fn_False;have c3:=fn_Fact x.i;have c4:=fn_Not X;have c5:=fn_And X Y;have c6:=fn_Or X Y;have c7:=fn_Imp X Y;have c8:=fn_Iff X Y;have c9:=fn_Know x.i X;have c10:=fn_Poss x.i X;have c11:=fn_Every x.g X;have c12:=fn_Dist x.g X;have c13:=fn_Common x.g X Y;have e1:x.op=1->q0d (n0 1) []=z:=fun e=>by rw[<- hz,e];exact build_one _
 have e2:x.op=2->q0d (n0 2) []=z:=fun e=>by rw[<- hz,e];exact build_one _
 have e3:x.op=3->q0d (nI 3 x.i) []=z:=fun e=>by rw[<- hz,e];exact build_one _
 have e4:x.op=4->q0d (n0 4) [X]=z:=fun e=>by rw[<- hz,e];exact build_un _ _ rfl rfl rfl
 have e5:x.op=5->q0d (n0 5) [X,Y]=z:=fun e=>by rw[<- hz,e];exact build_bin _ _ _ rfl rfl
 have e6:x.op=6->q0d (n0 6) [X,Y]=z:=fun e=>by rw[<- hz,e];exact build_bin _ _ _ rfl rfl
 have e7:x.op=7->q0d (n0 7) [X,Y]=z:=fun e=>by rw[<- hz,e];exact build_bin _ _ _ rfl rfl
 have e8:x.op=8->q0d (n0 8) [X,Y]=z:=fun e=>by rw[<- hz,e];exact build_bin _ _ _ rfl rfl
 have e9:x.op=9->q0d (nI 9 x.i) [X]=z:=fun e=>by rw[<- hz,e];exact build_un _ _ rfl rfl rfl
 have e10:x.op=10->q0d (nI 10 x.i) [X]=z:=fun e=>by rw[<- hz,e];exact build_un _ _ rfl rfl rfl
 have e11:x.op=11->q0d (nG 11 x.g) [X]=z:=fun e=>by rw[<- hz,e];exact build_un _ _ rfl rfl rfl
 have e12:x.op=12->q0d (nG 12 x.g) [X]=z:=fun e=>by rw[<- hz,e];exact build_un _ _ rfl rfl rfl
 have e13:x.op=13->q0d (nG 13 x.g) [X,Y]=z:=fun e=>by rw[<- hz,e];exact build_bin _ _ _ rfl rfl
 have d1:=fun e=>e1 e▸c1
 have d2:=fun e=>e2 e▸c2
 have d3:=fun e=>e3 e▸c3
 have d4:=fun e=>e4 e▸c4
 have d5:=fun e=>e5 e▸c5
 have d6:=fun e=>e6 e▸c6
 have d7:=fun e=>e7 e▸c7
 have d8:=fun e=>e8 e▸c8
 have d9:=fun e=>e9 e▸c9
 have d10:=fun e=>e10 e▸c10
 have d11:=fun e=>e11 e▸c11
 have d12:=fun e=>e12 e▸c12
 have d13:=fun e=>e13 e▸c13
 clear c1 c2 c3 c4 c5 c6 c7 c8 c9 c10 c11 c12 c13 e1 e2 e3 e4 e5 e6 e7 e8 e9 e10 e11 e12 e13 hz;refine PureFn.intro mixed (fn:=Tryz.f155) rfl rfl rfl fun M w0 => ?_
 cases z with
 |nil =>
  (try conv=>whnf);repeat' (first|((first|apply And.intro|intro h)<;>try conv=>whnf)|(refine PureFn.dcq (f:=36) rfl ?_;try conv=>whnf)|(refine PureFn.dcq (f:=53) rfl ?_;try conv=>whnf)|(refine PureFn.dcq (f:=83) rfl ?_;try conv=>whnf)|(refine PureFn.dcq (f:=37) rfl ?_;try conv=>whnf)|(refine PureFn.dcq (f:=32) rfl ?_;try conv=>whnf)|(refine PureFn.dcq (f:=186) rfl ?_;try conv=>whnf)|(refine PureFn.dcq (f:=34) rfl ?_;try conv=>whnf)|(refine PureFn.dcq (f:=187) rfl ?_;try conv=>whnf)|(refine PureFn.dcq (f:=188) rfl ?_;try conv=>whnf)|(refine PureFn.dcq (f:=153) rfl ?_;try conv=>whnf)|(refine PureFn.dcq (f:=189) rfl ?_;try conv=>whnf)|(refine PureFn.dcq (f:=190) rfl ?_;try conv=>whnf)|(refine PureFn.dcq (f:=154) rfl ?_;try conv=>whnf)|(refine⟨_,_,d1 ?_,?_,?_⟩;rotate_left 1;(focus first|(refine⟨trivial⟩<;>first|exact PLe.refl _|exact PLe.nil)|exact trivial);try conv=>whnf)|(refine⟨_,_,d2 ?_,?_,?_⟩;rotate_left 1;(focus first|(refine⟨trivial⟩<;>first|exact PLe.refl _|exact PLe.nil)|exact trivial);try conv=>whnf)|(refine⟨_,_,d3 ?_,?_,?_⟩;rotate_left 1;(focus refine⟨?_,trivial⟩<;>first|exact PLe.refl _|exact PLe.nil);try conv=>whnf)|(refine⟨_,_,d4 ?_,?_,?_⟩;rotate_left 1;(focus refine⟨?_,trivial⟩<;>first|exact PLe.refl _|exact PLe.nil);try conv=>whnf)|(refine⟨_,_,d5 ?_,?_,?_⟩;rotate_left 1;(focus refine⟨?_,?_,trivial⟩<;>first|exact PLe.refl _|exact PLe.nil);try conv=>whnf)|(refine⟨_,_,d6 ?_,?_,?_⟩;rotate_left 1;(focus refine⟨?_,?_,trivial⟩<;>first|exact PLe.refl _|exact PLe.nil);try conv=>whnf)|(refine⟨_,_,d7 ?_,?_,?_⟩;rotate_left 1;(focus refine⟨?_,?_,trivial⟩<;>first|exact PLe.refl _|exact PLe.nil);try conv=>whnf)|(refine⟨_,_,d8 ?_,?_,?_⟩;rotate_left 1;(focus refine⟨?_,?_,trivial⟩<;>first|exact PLe.refl _|exact PLe.nil);try conv=>whnf)|(refine⟨_,_,d9 ?_,?_,?_⟩;rotate_left 1;(focus refine⟨?_,?_,trivial⟩<;>first|exact PLe.refl _|exact PLe.nil);try conv=>whnf)|(refine⟨_,_,d10 ?_,?_,?_⟩;rotate_left 1;(focus refine⟨?_,?_,trivial⟩<;>first|exact PLe.refl _|exact PLe.nil);try conv=>whnf)|(refine⟨_,_,d11 ?_,?_,?_⟩;rotate_left 1;(focus refine⟨?_,?_,trivial⟩<;>first|exact PLe.refl _|exact PLe.nil);try conv=>whnf)|(refine⟨_,_,d12 ?_,?_,?_⟩;rotate_left 1;(focus refine⟨?_,?_,trivial⟩<;>first|exact PLe.refl _|exact PLe.nil);try conv=>whnf)|(refine⟨_,_,d13 ?_,?_,?_⟩;rotate_left 1;(focus refine⟨?_,?_,?_,trivial⟩<;>first|exact PLe.refl _|exact PLe.nil);try conv=>whnf)|fail)
  all_goals first
   |exact .refl _
   |exact eq_of_beq (by with_reducible assumption)
   |(simp only[beq_eq_false_iff_ne,ne_eq] at *;omega)
 |cons a r =>
  (try conv=>whnf);repeat' (first|((first|apply And.intro|intro h)<;>try conv=>whnf)|(refine PureFn.dcq (f:=36) rfl ?_;try conv=>whnf)|(refine PureFn.dcq (f:=53) rfl ?_;try conv=>whnf)|(refine PureFn.dcq (f:=83) rfl ?_;try conv=>whnf)|(refine PureFn.dcq (f:=37) rfl ?_;try conv=>whnf)|(refine PureFn.dcq (f:=32) rfl ?_;try conv=>whnf)|(refine PureFn.dcq (f:=186) rfl ?_;try conv=>whnf)|(refine PureFn.dcq (f:=34) rfl ?_;try conv=>whnf)|(refine PureFn.dcq (f:=187) rfl ?_;try conv=>whnf)|(refine PureFn.dcq (f:=188) rfl ?_;try conv=>whnf)|(refine PureFn.dcq (f:=153) rfl ?_;try conv=>whnf)|(refine PureFn.dcq (f:=189) rfl ?_;try conv=>whnf)|(refine PureFn.dcq (f:=190) rfl ?_;try conv=>whnf)|(refine PureFn.dcq (f:=154) rfl ?_;try conv=>whnf)|(refine⟨_,_,d1 ?_,?_,?_⟩;rotate_left 1;(focus first|(refine⟨trivial⟩<;>first|exact PLe.refl _|exact PLe.nil)|exact trivial);try conv=>whnf)|(refine⟨_,_,d2 ?_,?_,?_⟩;rotate_left 1;(focus first|(refine⟨trivial⟩<;>first|exact PLe.refl _|exact PLe.nil)|exact trivial);try conv=>whnf)|(refine⟨_,_,d3 ?_,?_,?_⟩;rotate_left 1;(focus refine⟨?_,trivial⟩<;>first|exact PLe.refl _|exact PLe.nil);try conv=>whnf)|(refine⟨_,_,d4 ?_,?_,?_⟩;rotate_left 1;(focus refine⟨?_,trivial⟩<;>first|exact PLe.refl _|exact PLe.nil);try conv=>whnf)|(refine⟨_,_,d5 ?_,?_,?_⟩;rotate_left 1;(focus refine⟨?_,?_,trivial⟩<;>first|exact PLe.refl _|exact PLe.nil);try conv=>whnf)|(refine⟨_,_,d6 ?_,?_,?_⟩;rotate_left 1;(focus refine⟨?_,?_,trivial⟩<;>first|exact PLe.refl _|exact PLe.nil);try conv=>whnf)|(refine⟨_,_,d7 ?_,?_,?_⟩;rotate_left 1;(focus refine⟨?_,?_,trivial⟩<;>first|exact PLe.refl _|exact PLe.nil);try conv=>whnf)|(refine⟨_,_,d8 ?_,?_,?_⟩;rotate_left 1;(focus refine⟨?_,?_,trivial⟩<;>first|exact PLe.refl _|exact PLe.nil);try conv=>whnf)|(refine⟨_,_,d9 ?_,?_,?_⟩;rotate_left 1;(focus refine⟨?_,?_,trivial⟩<;>first|exact PLe.refl _|exact PLe.nil);try conv=>whnf)|(refine⟨_,_,d10 ?_,?_,?_⟩;rotate_left 1;(focus refine⟨?_,?_,trivial⟩<;>first|exact PLe.refl _|exact PLe.nil);try conv=>whnf)|(refine⟨_,_,d11 ?_,?_,?_⟩;rotate_left 1;(focus refine⟨?_,?_,trivial⟩<;>first|exact PLe.refl _|exact PLe.nil);try conv=>whnf)|(refine⟨_,_,d12 ?_,?_,?_⟩;rotate_left 1;(focus refine⟨?_,?_,trivial⟩<;>first|exact PLe.refl _|exact PLe.nil);try conv=>whnf)|(refine⟨_,_,d13 ?_,?_,?_⟩;rotate_left 1;(focus refine⟨?_,?_,?_,trivial⟩<;>first|exact PLe.refl _|exact PLe.nil);try conv=>whnf)|fail)
  all_goals first
   |exact .refl _
   |exact eq_of_beq (by with_reducible assumption)
   |(simp only[beq_eq_false_iff_ne,ne_eq] at *;omega)
theorem red_apply (x:Nd) (X Y:List Nd) (hx:1<=x.op/\x.op<=13):PureFn Tryz.prog 155 [x.pv,fpv X,fpv Y] (fpv (apN x X Y)):=(red_apply0 x X Y hx).res (npv_le _)
theorem opn_idx {x:Nd} {n:Nat} (h:OkNd x n) (h0:n≠0):(∃ k:Nat,x.x=k/\k<n/\x.x.toNat=k)/\∃ k:Nat,x.y=k/\k<n/\x.y.toNat=k:=by
 constructor
 ·cases hu:q0n x.op with
  |true=>have:=h.x hu;exact⟨x.x.toNat,by omega,by omega,rfl⟩
  |false=>have:=h.nox hu;exact⟨0,by omega,by omega,by omega⟩
 ·cases hu:q0o x.op with
  |true=>have:=h.y hu;exact⟨x.y.toNat,by omega,by omega,rfl⟩
  |false=>have:=h.noy hu;exact⟨0,by omega,by omega,by omega⟩
theorem fget {l:List (List Nd)} {k:Nat} (h:k<l.length):(l.map fpv)[k]? = some (fpv (l.getD k [])):=by
 rw[List.getElem?_map,q0f h (d:=[])];rfl
theorem op_own (x:Nd) (l:List (List Nd)) (hk:OkNd x l.length) (M:Nat->Prop) (w0:W0) (base:Nat) (K:DV->DH->Prop)
  (hK0:l=[]->K (.tup [.pv .nil,.pv .nil]) ⟨1,0,base,objsOf [(0,.arr 1 (l.map fpv))]⟩) (hK:l≠[]->K (.tup [.pv (fpv (l.getD x.x.toNat [])),.pv (fpv (l.getD x.y.toNat []))]) ⟨1,0,base,objsOf [(0,.arr 1 (l.map fpv))]⟩) :
  DC Tryz.prog M w0 118 [.buf 0 (l.map fpv).length,.agg x.dvs] ⟨1,0,base,objsOf [(0,.arr 1 (l.map fpv))]⟩ K:=by
 refine DC.weaken (DC.intro mixed (fn:=Tryz.f118) rfl rfl rfl ?_)
 (try conv=>whnf);repeat' (first|((first|apply And.intro|intro h)<;>try conv=>whnf)|(refine q0w (by kernel_rfl) ?_;try conv=>whnf)|fail)
 ·have hl:l=[]:=by
   have:(((l.map fpv).length:Nat):Int)=0:=by simpa using h
   rw[List.length_map] at this;exact List.eq_nil_of_length_eq_zero (by omega)
  exact⟨.tup [.pv .nil,.pv .nil],1,[(0,.arr 1 (l.map fpv))],(by exact Wk.s rfl),hK0 hl⟩
 ·have hl:l.length≠0:=by
   intro e;rw[List.length_map,e] at h;exact absurd h (by decide)
  have hlm:(l.map fpv).length=l.length:=List.length_map _;obtain⟨⟨a,a1,a2,a3⟩,hb⟩:=opn_idx hk hl;have hK:=hK (by rintro rfl;exact hl rfl);refine⟨a,a1,by omega,?_⟩
  (try conv=>whnf);repeat' (first|(apply And.intro<;>try conv=>whnf))
  refine⟨_,fget a2,?_⟩
  (try conv=>whnf);repeat' (first|(apply And.intro<;>try conv=>whnf))
  obtain⟨b,b1,b2,b3⟩:=hb;rw[a3,b3] at hK;refine⟨b,b1,by omega,?_⟩
  (try conv=>whnf);repeat' (first|(apply And.intro<;>try conv=>whnf))
  refine⟨_,fget b2,?_⟩
  try conv=>whnf
  exact⟨.tup [.pv (fpv (l.getD a [])),.pv (fpv (l.getD b []))],1,[(0,.arr 1 (l.map fpv))],(by exact Wk.s rfl),hK⟩
theorem red_static (f:List Nd):PureFn Tryz.prog 87 [fpv f] (.bool (z0v (y0e f:Nat) 15==0)):=by
 refine PureFn.intro mixed (fn:=Tryz.f87) rfl rfl rfl fun M w0 => ?_
 (try conv=>whnf);repeat' (first|(refine PureFn.dcq (f:=104) rfl ?_;try conv=>whnf)|(refine⟨_,_,fm_Frags ?_,?_,?_⟩;rotate_left 1;(focus refine⟨?_,trivial⟩<;>first|exact PLe.refl _|exact PLe.nil);try conv=>whnf)|fail)
 exact .refl _
theorem map_snoc {l:List (List Nd)} {z:List Nd}:l.map fpv++[fpv z]=(l++[z]).map fpv:=by rw[List.map_append];rfl
theorem redE_yes {α:Type} {d:α} {h:Nd->α->α->α×Int} {c:List Nd} {l:List α} {i:Nat} {x:Nd} {z:α} {e:Int} (hx:c[i]? = some x) (hz:h x (l.getD x.x.toNat d) (l.getD x.y.toNat d)=(z,e)) (h0:e=0) :
  redE d h (c.drop i) l=redE d h (c.drop (i+1)) (l++[z]):=by rw[redE_drop hx,hz,h0];rfl
theorem redE_no {α:Type} {d:α} {h:Nd->α->α->α×Int} {c:List Nd} {l:List α} {i:Nat} {x:Nd} {z:α} {e:Int} (hx:c[i]? = some x) (hz:h x (l.getD x.x.toNat d) (l.getD x.y.toNat d)=(z,e)) (h0:(e != 0)=true) :
  redE d h (c.drop i) l=([],e):=by rw[redE_drop hx,hz];show (bif e != 0 then _ else _)=_;rw[h0];rfl
theorem le_pairF {a b:List Nd×Int} (h:a=b):PLe (pairF a) (pairF b):=h▸.refl _
def stB (f:List Nd):Bool:=z0v (y0e f:Nat) 15==0
theorem stB_ops {f:List Nd} (h:stB f=true):∀ x,x∈q0u f->x.op<=13:=fun x hx=>by
 have hfr:y0e f<2^62:=Nat.lt_of_lt_of_le (frags_lt f) (by decide);have h1:y0e f<16:=(frag_low hfr).1 (by simpa [stB] using h);have h2:fragN x<=y0e f:=orN_le hx;obtain⟨k,hk⟩:=okl_mem (z0h f) hx;have ho:=hk.op;have key:∀ op:Nat,op<22->(frag (op:Int)).toNat<16->op<=13:=by decide
 have:=key x.op.toNat (by omega) (by rw[show ((x.op.toNat:Nat):Int)=x.op by omega];show fragN x<16;omega);omega
theorem allW_is:∀ n:Nat,n<9->allW n=2^n-1:=by decide +kernel
def tL:List Nd:=q0d (n0 1) []
def fL:List Nd:=q0d (n0 2) []
def conA (l:List (List Nd)):List Nd:=joinL 5 tL l
def disA (l:List (List Nd)):List Nd:=joinL 6 fL l
def sees (a:Act) (i e:Nat):List Nat:=evsL ((a.rel.getD i []).getD e 0) a.pre.length
def meetL (a:Act) (g:Int):List Nat:=togL (fun x y=>x&&&y) a g (allW a.pre.length)
def grpL (a:Act) (g:Int):List Nat:=(List.range a.rel.length).filter fun j=>and64 (shr64 g j) 1==1
def knoL (a:Act) (i e:Nat) (X:List (List Nd)):List Nd:=conA ((sees a i e).map fun d=>q0d (nI 9 i) [X.getD d []])
def evBod (a:Act) (e:Nat) (x:Nd) (X Y:List (List Nd)):List Nd :=
 bif x.op==3 then (valI a e x.i).1
 else bif x.op==9 then knoL a x.i.toNat e X
 else bif x.op==10 then disA ((sees a x.i.toNat e).map fun d=>q0d (nI 10 x.i) [conL (a.pre.getD d []) (X.getD d [])])
 else bif x.op==11 then conA ((grpL a x.g).map fun j=>knoL a j e X)
 else bif x.op==12 then conA ((evsL ((meetL a x.g).getD e 0) a.pre.length).map fun d=>q0d (nG 12 x.g) [X.getD d []])
 else apN x (X.getD e []) (Y.getD e [])
def evRow (a:Act) (x:Nd) (X Y:List (List Nd)):List (List Nd):=(List.range a.pre.length).map fun e=>impL (a.pre.getD e []) (evBod a e x X Y)
def evHd (a:Act) (x:Nd) (X Y:List (List Nd)):List (List Nd)×Int:=(evRow a x X Y,bif (evRow a x X Y).any List.isEmpty then 8 else 0)
def aftF (a:Act) (ev:Nat) (c:List Nd):List Nd×Int :=
 bif (redE [] (evHd a) c []).2 != 0 then ([],(redE [] (evHd a) c []).2) else (((redE [] (evHd a) c []).1.getD ((redE [] (evHd a) c []).1.length-1) []).getD ev [],0)
theorem evs_lt {s n d:Nat} (h:d∈evsL s n):d<n:=List.mem_range.1 (List.mem_filter.1 h).1
theorem any_empty {l:List (List Nd)}:l.any List.isEmpty=false↔∀ z,z∈l->z≠[]:=by
 rw[List.any_eq_false];constructor
 ·intro h z hz e;subst e;exact h _ hz rfl
 ·intro h z hz e;exact h z hz (List.isEmpty_iff.1 e)
def tabC (n:Nat) (len:Nat->Nat):List DV:=(List.range n).map fun e=>.buf (e+8) (len e)
def tabO (n:Nat) (col:Nat->List PV):List (Nat×DObj):=(List.range n).map fun e=>(e+8,.arr 1 (col e))
def tabD (a:Act) (n:Nat):List DV:=q0c a++[.vbuf 1 n]
def HT (a:Act) (n:Nat) (len:Nat->Nat) (col:Nat->List PV):List (Nat×DObj):=(0,.var (q0c a))::(1,.var (tabC n len))::(2,.var (tabD a n))::tabO n col
theorem tabC_get {n e:Nat} {len:Nat->Nat} (h:e<n):(tabC n len)[e]? = some (.buf (e+8) (len e)):=by
 rw[tabC,List.getElem?_map,List.getElem?_range h];rfl
theorem tabC_len (n:Nat) (len:Nat->Nat):(tabC n len).length=n:=by simp[tabC]
theorem z0s {a b:Nat} (h:a≠b):Nat.beq a b=false:=by
 cases hb:Nat.beq a b with
 |false=>rfl
 |true=>exact absurd (Nat.eq_of_beq_eq_true hb) h
theorem objs_app:∀ (l:List Nat) (f:Nat->DObj) (e:Nat),e∈l->objsOf (l.map fun e=>(e+8,f e)) (e+8)=some (f e)
 |x::r,f,e,h=>by
  rw[List.map_cons]
  show (bif Nat.beq (e+8) (x+8) then some (f x) else objsOf (r.map fun e=>(e+8,f e)) (e+8))=_
  by_cases q:e=x
  ·rw[q,Nat.beq_refl];rfl
  ·rw[z0s (by omega),cond_false];exact objs_app r f e (by rcases List.mem_cons.1 h with h|h;exact absurd h q;exact h)
theorem tabO_get {n e:Nat} {col:Nat->List PV} (h:e<n):objsOf (tabO n col) (e+8)=some (.arr 1 (col e)):=objs_app _ _ e (List.mem_range.2 h)
theorem HT_get {a:Act} {n e:Nat} {len:Nat->Nat} {col:Nat->List PV} (h:e<n):objsOf (HT a n len col) (e+8)=some (.arr 1 (col e)):=tabO_get h
theorem objs_no:∀ (l:List Nat) (f:Nat->DObj) (k:Nat),(∀ e,e∈l->e+8≠k)->objsOf (l.map fun e=>(e+8,f e)) k=none
 | [],_,_,_=>rfl
 |x::r,f,k,h=>by
  rw[List.map_cons]
  show (bif Nat.beq k (x+8) then some (f x) else objsOf (r.map fun e=>(e+8,f e)) k)=none
  rw[z0s (fun e=>h x (by simp) e.symm),cond_false];exact objs_no r f k fun e he=>h e (List.mem_cons_of_mem _ he)
theorem tabO_no {n k:Nat} {col:Nat->List PV} (hn:n<=8) (hk:16<=k):objsOf (tabO n col) k=none:=objs_no _ _ k fun e he=>by
 have:=List.mem_range.1 he;omega
def colP (T:List (List (List Nd))) (e:Nat):List PV:=(T.map fun r=>r.getD e []).map fpv
theorem colP_len (T:List (List (List Nd))) (e:Nat):(colP T e).length=T.length:=by simp[colP]
theorem colP_get {T:List (List (List Nd))} {e j:Nat} (h:j<T.length):(colP T e)[j]? = some (fpv ((T.getD j []).getD e [])):=by
 rw[colP,List.map_map,List.getElem?_map,q0f h (d:=[])];rfl
theorem evs8 {s n:Nat} (hs:s<2^n) (hn:n<=8):evsL s 8=evsL s n:=by
 have:∀ d,evsL s (n+d)=evsL s n:=fun d=>by
  induction d with
  |zero=>rfl
  |succ d ih =>
   rw[show n+(d+1)=(n+d)+1 by omega,evsL_succ,ih];have:s.testBit (n+d)=false:=Nat.testBit_lt_two_pow (Nat.lt_of_lt_of_le hs (Nat.pow_le_pow_right (by decide) (by omega)));rw[this];rfl
 have:=this (8-n)
 rwa [show n+(8-n)=8 by omega] at this
theorem evs_le (s i:Nat):(evsL s i).length<=i:=Nat.le_trans (List.length_filter_le _ _) (by simp)
def intsP (l:List Nat):PV:=.sl (l.map i64)
theorem rd_events (s:Nat) (hs:s<2^64):PureFn Tryz.prog 217 [u64 s] (intsP (evsL s 8)):=by
 refine PureFn.intro mixed (fn:=Tryz.f217) rfl rfl rfl fun M w0 => ?_
 try conv=>whnf
 refine⟨{ i:Nat // i<=8 },fun i=>[(0,.pv (u64 s)),(3,.buf 0 ((evsL s i.1).map i64).length),(5,.pv (i64 i.1))],fun _=>1,fun i=>[(0,.arr 1 ((evsL s i.1).map i64))],fun i=>8-i.1,⟨⟨0,Nat.zero_le _⟩,(by refine Wk.of ?_ ?_ rfl rfl rfl<;>repeat' (first|exact trivial|exact WkD.same _|exact WkD.new' rfl rfl rfl|exact WkO.new _ _ rfl|exact rfl|refine⟨?_,?_⟩|fail))⟩,?_⟩;rintro⟨i,hi⟩;have hle:=evs_le s i
 (try conv=>whnf);repeat' (first|((first|apply And.intro|intro h)<;>try conv=>whnf)|(apply bleI;rfl)|(apply q0p;rfl)|(apply szI;rfl))
 ·exact Int.natCast_nonneg _
 ·show ((evsL s i).map i64).length+1<=4294967296
  rw[List.length_map];omega
 ·rename_i h8;have hi':i<8:=by have:=of_decide_eq_true (show decide ((i:Int)<8)=true from h8);omega
  have hb:s.testBit i=true:=by
   have h2:(andU (shrU s i) 1==1)=true:=h
   rwa [bit_one hs (by omega)] at h2
  have hsn:=evsL_succ s i;rw[hb,cond_true] at hsn;have hm:(evsL s i).map i64++[i64 i]=(evsL s (i+1)).map i64:=by rw[hsn,List.map_append];rfl
  refine⟨⟨i+1,hi'⟩,by show 8-(i+1)<8-i;omega,?_⟩
  (refine Wk.of ?_ ?_ rfl rfl rfl<;>repeat' (first|exact trivial|exact WkD.same _|exact WkD.eq (congrArg (fun z:List PV=>DV.buf _ z.length) hm)|exact WkO.same _ _ (congrArg (fun z=>some (DObj.arr _ z)) hm)|refine WkD.int ?_|refine⟨?_,?_⟩|(apply q0h;(focus simp;done);all_goals (try dsimp only);omega)|fail))
 ·rename_i h8;have hi':i<8:=by have:=of_decide_eq_true (show decide ((i:Int)<8)=true from h8);omega
  have hb:s.testBit i=false:=by
   have h2:(andU (shrU s i) 1==1)=false:=h
   rwa [bit_one hs (by omega)] at h2
  have hsn:=evsL_succ s i;rw[hb,cond_false] at hsn;have hm:=congrArg (fun l:List Nat=>l.map i64) hsn.symm;refine⟨⟨i+1,hi'⟩,by show 8-(i+1)<8-i;omega,?_⟩
  (refine Wk.of ?_ ?_ rfl rfl rfl<;>repeat' (first|exact trivial|exact WkD.same _|exact WkD.eq (congrArg (fun z:List PV=>DV.buf _ z.length) hm)|exact WkO.same _ _ (congrArg (fun z=>some (DObj.arr _ z)) hm)|refine WkD.int ?_|refine⟨?_,?_⟩|(apply q0h;(focus simp;done);all_goals (try dsimp only);omega)|fail))
 ·have hi':i=8:=by have:=of_decide_eq_false (show decide ((i:Int)<8)=false from h);omega
  subst hi';exact .refl _
theorem lt8 {s n:Nat} (hs:s<2^n) (hn:n<=8):s<2^64:=Nat.lt_of_lt_of_le hs (Nat.pow_le_pow_right (by decide) (by omega))
theorem clo_know (i:Int) (f:List Nd) (M:Nat->Prop) (w0:W0) (K:DV->DH->Prop) (hK:K (.pv (fpv (q0d (nI 9 i) [f]))) ⟨1,0,1,objsOf [(0,.var [.pv (.int .i64 i)])]⟩) :
  DC Tryz.prog M w0 232 [.pv (fpv f),.ref 0 0] ⟨1,0,1,objsOf [(0,.var [.pv (.int .i64 i)])]⟩ K:=by
 refine DC.weaken (DC.intro mixed (fn:=Tryz.f232) rfl rfl rfl ?_)
 (try conv=>whnf);repeat' (first|(refine PureFn.dcq (f:=188) rfl ?_;try conv=>whnf)|(refine⟨_,_,fm_Know ?_ ?_,?_,?_⟩;rotate_left 2;(focus refine⟨?_,?_,trivial⟩<;>first|exact PLe.refl _|exact PLe.nil);try conv=>whnf)|fail)
 exact⟨.pv (fpv (q0d (nI 9 i) [f])),1,[(0,.var [.pv (.int .i64 i)])],(by exact Wk.s rfl),hK⟩
theorem clo_dist (x:Nd) (f:List Nd) (M:Nat->Prop) (w0:W0) (K:DV->DH->Prop) (hK:K (.pv (fpv (q0d (nG 12 x.g) [f]))) ⟨1,0,1,objsOf [(0,.var x.dvs)]⟩) :
  DC Tryz.prog M w0 222 [.pv (fpv f),.ref 0 0] ⟨1,0,1,objsOf [(0,.var x.dvs)]⟩ K:=by
 refine DC.weaken (DC.intro mixed (fn:=Tryz.f222) rfl rfl rfl ?_)
 (try conv=>whnf);repeat' (first|(refine PureFn.dcq (f:=190) rfl ?_;try conv=>whnf)|(refine⟨_,_,fm_Dist ?_ ?_,?_,?_⟩;rotate_left 2;(focus refine⟨?_,?_,trivial⟩<;>first|exact PLe.refl _|exact PLe.nil);try conv=>whnf)|fail)
 exact⟨.pv (fpv (q0d (nG 12 x.g) [f])),1,[(0,.var x.dvs)],(by exact Wk.s rfl),hK⟩
theorem HT_in {a:Act} {n nx:Nat} {len:Nat->Nat} {col:Nat->List PV} (hn:n<=8) (hnx:16<=nx):∀ q,q∈HT a n len col->q.1<nx/\q.2.under nx=true:=fun q hq=>by
 rcases List.mem_cons.1 hq with rfl|hq
 ·exact⟨by show 0<nx;omega,rfl⟩
 rcases List.mem_cons.1 hq with rfl|hq
 ·refine⟨by show 1<nx;omega,unders_mem.2 fun d hd => ?_⟩;obtain⟨e,he,rfl⟩:=List.mem_map.1 hd;have he:=List.mem_range.1 he
  show Nat.blt (e+8) nx=true
  rw[Nat.blt_eq];omega
 rcases List.mem_cons.1 hq with rfl|hq
 ·refine⟨by show 2<nx;omega,?_⟩
  show (true && (true && (true && (Nat.blt 1 nx && true))))=true
  rw[show Nat.blt 1 nx=true by rw[Nat.blt_eq];omega];rfl
 obtain⟨e,he,rfl⟩:=List.mem_map.1 hq;have he:=List.mem_range.1 he;exact⟨by show e+8<nx;omega,rfl⟩
theorem HT_all {a:Act} {n nx:Nat} {len:Nat->Nat} {col:Nat->List PV} {g:Nat->Option DObj} {L:DH} (hn:n<=8) (hnx:16<=nx) (h0:g 0=some (.var (q0c a))) (h1:g 1=some (.var (tabC n len))) (h2:g 2=some (.var (tabD a n))) (h:∀ e,e<n->g (e+8)=some (.arr 1 (col e))) :
  ∀ q,q∈HT a n len col->(g q.1=some q.2\/(g q.1=none/\L.next<=q.1/\∃ sz,q.2=.arr sz []))/\q.1<nx/\q.2.under nx=true:=fun q hq=>by
 refine⟨.inl ?_,HT_in hn hnx q hq⟩
 rcases List.mem_cons.1 hq with rfl|hq
 ·exact h0
 rcases List.mem_cons.1 hq with rfl|hq
 ·exact h1
 rcases List.mem_cons.1 hq with rfl|hq
 ·exact h2
 obtain⟨e,he,rfl⟩:=List.mem_map.1 hq;exact h e (List.mem_range.1 he)
theorem tak_map {α β:Type} {f:α->β} {l:List α} {i:Nat} {x:α} (h:l[i]? = some x):(l.take (i+1)).map f=(l.take i).map f++[f x]:=by
 obtain⟨h1,h2⟩:=List.getElem?_eq_some_iff.1 h;rw[List.take_succ_eq_append_getElem h1,List.map_append,h2];rfl
def lenP (T:List (List (List Nd))) (e:Nat):Nat:=(colP T e).length
def HX (a:Act) (T:List (List (List Nd))):List (Nat×DObj):=HT a a.pre.length (lenP T) (colP T)
theorem each_kno (a:Act) (hn:a.pre.length<=8) (ag:Int) (T:List (List (List Nd))) (s j:Nat) (hs:s<2^a.pre.length) (hj:j<T.length) (M:Nat->Prop) (w0:W0) (base:Nat) (K:DV->DH->Prop)
  (hK:K (.pv (fpv (conA ((evsL s a.pre.length).map fun d=>q0d (nI 9 ag) [(T.getD j []).getD d []])))) ⟨17,0,base,objsOf ((16,.var [.pv (.int .i64 ag)])::HX a T)⟩) :
  DC Tryz.prog M w0 220 [.ref 2 0,.pv (u64 s),.pv (i64 j),.clo 232 [] [.ref 16 0]] ⟨17,0,base,objsOf ((16,.var [.pv (.int .i64 ag)])::HX a T)⟩ K:=by
 refine DC.weaken (DC.intro mixed (fn:=Tryz.f220) rfl rfl rfl ?_);have hE:=rd_events s (lt8 hs hn);rw[evs8 hs hn] at hE;have hle:=evs_le s a.pre.length;have hlt:∀ d,d∈evsL s a.pre.length->d<a.pre.length:=fun d hd=>evs_lt hd
 generalize evsL s a.pre.length=dl at hE hle hlt hK
 (try conv=>whnf);repeat' (first|(refine PureFn.dy hE rfl ?_;try conv=>whnf)|fail)
 refine⟨{ i:Nat // i<=dl.length },fun i=>[(0,.ref 2 0),(2,.pv (i64 j)),(3,.clo 232 [] [.ref 16 0]),(9,.buf 17 (((dl.take i.1).map fun d=>q0d (nI 9 ag) [(T.getD j []).getD d []]).map fpv).length),(13,.pv (intsP dl)),(14,.pv (i64 (dl.map i64).length)),(15,.pv (i64 i.1))],fun _=>18,
  fun i=>(17,.arr 1 (((dl.take i.1).map fun d=>q0d (nI 9 ag) [(T.getD j []).getD d []]).map fpv))::(16,.var [.pv (.int .i64 ag)])::HX a T,fun i=>dl.length-i.1,⟨⟨0,Nat.zero_le _⟩,?_⟩,?_⟩
 ·have h17:objsOf (HX a T) 17=none:=tabO_no hn (by decide)
  (refine Wk.ofN 2 ?_ ?_ rfl rfl rfl ?_<;>repeat' (first|exact trivial|exact WkD.same _|exact WkO.same _ _ rfl|refine⟨?_,?_⟩|fail))
  ·exact WkD.new' h17 rfl rfl
  ·exact WkO.new _ _ h17
  ·show (match objsOf (HX a T) 17 with|some _=>True|none=>Nat.ble 17 17=true)
   rw[h17];rfl
  ·refine HT_all (g:=_) hn ?_ ?_ ?_ ?_ fun e he => ?_
   ·exact Nat.le_of_ble_eq_true rfl
   ·exact rfl
   ·exact rfl
   ·exact rfl
   ·show (bif Nat.beq (e+8) 16 then _ else objsOf (HX a T) (e+8))=_
    rw[z0s (by omega),cond_false];exact HT_get he
 ·rintro⟨i,hi⟩
  (try conv=>whnf);repeat' (first|((first|apply And.intro|intro h)<;>try conv=>whnf)|(apply q0i;rfl))
  ·have hi':i<dl.length:=by simpa using q0j h
   obtain⟨d,hd⟩:∃ d,dl[i]? = some d:=⟨_,List.getElem?_eq_getElem hi'⟩;have hdn:=hlt d (List.mem_of_getElem? hd)
   (try conv=>whnf);repeat' (first|(apply And.intro<;>try conv=>whnf)|(apply q0i;rfl)|(refine⟨_,_,rfl,q0a (by with_reducible assumption),rfl,?_⟩;try conv=>whnf)|fail)
   ·exact rfl
   refine⟨d,rfl,hdn,?_⟩
   try conv=>whnf
   rw[tabC_get hdn];have hcg:=colP_get (T:=T) (e:=d) hj;have hcl:=colP_len T d
   have hget:objsOf ((17,.arr 1 (((dl.take i).map fun d=>q0d (nI 9 ag) [(T.getD j []).getD d []]).map fpv))::(16,.var [.pv (.int .i64 ag)])::HX a T) (d+8)=some (.arr 1 (colP T d)):=by
    show (bif Nat.beq (d+8) 17 then _ else (bif Nat.beq (d+8) 16 then _ else objsOf (HX a T) (d+8)))=_
    rw[z0s (by omega),z0s (by omega),cond_false,cond_false];exact HT_get hdn
   try conv=>whnf
   rw[get_eq (k:=d+8) (o:=some (.arr 1 (colP T d))) ?_]
   (try conv=>whnf);repeat' (first|(apply And.intro<;>try conv=>whnf)|with_reducible assumption)
   ·exact rfl
   refine⟨j,rfl,(show j<(colP T d).length by omega),?_⟩
   try conv=>whnf
   rw[get_eq (k:=d+8) (o:=some (.arr 1 (colP T d))) ?_]
   (try conv=>whnf);repeat' (first|(apply And.intro<;>try conv=>whnf)|with_reducible assumption|(apply ex2;(focus with_reducible assumption);try conv=>whnf)|fail)
   ·exact rfl
   refine DC.lendV (q:=.pv (fpv (q0d (nI 9 ag) [(T.getD j []).getD d []]))) rfl rfl (Nat.le_of_ble_eq_true rfl) (fun _=>rfl) (fun _=>rfl) rfl (fun _=>rfl) (fun M' K' hK'=>clo_know ag _ M' _ K' hK') ?_
   (try conv=>whnf);repeat' (first|(apply And.intro<;>try conv=>whnf)|(apply q0p;rfl)|(apply szI;rfl))
   ·show (((dl.take i).map fun d=>q0d (nI 9 ag) [(T.getD j []).getD d []]).map fpv).length+1<=4294967296
    rw[List.length_map,List.length_map,List.length_take];omega
   ·have hm:((dl.take i).map fun d=>q0d (nI 9 ag) [(T.getD j []).getD d []]).map fpv++[fpv (q0d (nI 9 ag) [(T.getD j []).getD d []])]=((dl.take (i+1)).map fun d=>q0d (nI 9 ag) [(T.getD j []).getD d []]).map fpv:=by
     rw[tak_map hd,List.map_append];rfl
    refine⟨⟨i+1,hi'⟩,by show dl.length-(i+1)<dl.length-i;omega,?_⟩
    (refine Wk.ofN 2 ?_ ?_ rfl rfl rfl ?_<;>repeat' (first|exact trivial|exact WkD.same _|exact WkO.same _ _ rfl|exact WkD.eq (congrArg (fun z:List PV=>DV.buf _ z.length) hm)|exact WkO.same _ _ (congrArg (fun z=>some (DObj.arr _ z)) hm)|refine WkD.int ?_|refine⟨?_,?_⟩|(apply q0h;(focus simp;done);all_goals (try dsimp only);omega)|fail))
    refine HT_all (g:=_) hn ?_ ?_ ?_ ?_ fun e he => ?_
    ·exact Nat.le_of_ble_eq_true rfl
    ·exact rfl
    ·exact rfl
    ·exact rfl
    ·show (bif Nat.beq (e+8) 17 then _ else (bif Nat.beq (e+8) 17 then _ else (bif Nat.beq (e+8) 16 then _ else objsOf (HX a T) (e+8))))=_
     rw[z0s (by omega),z0s (by omega),cond_false,cond_false,cond_false];exact HT_get he
  ·have hi':i=dl.length:=by have:=q0k (m:=(dl.map i64).length) h (by simpa using hi);simpa using this
   subst hi'
   have hA:PureFn Tryz.prog 219 [.sl (((dl.take dl.length).map fun d=>q0d (nI 9 ag) [(T.getD j []).getD d []]).map fpv)] (fpv (conA (dl.map fun d=>q0d (nI 9 ag) [(T.getD j []).getD d []]))):=by
    rw[List.take_length];exact fm_All _ (by rw[List.length_map];omega)
   (try conv=>whnf);repeat' (first|(apply And.intro<;>try conv=>whnf)|(apply bleI;rfl)|(refine PureFn.dcq (f:=219) rfl ?_;try conv=>whnf)|(refine⟨_,_,hA,?_,?_⟩;(focus refine⟨?_,trivial⟩<;>first|exact PLe.refl _|exact PLe.nil);try conv=>whnf)|fail)
   refine⟨.pv (fpv (conA (dl.map fun d=>q0d (nI 9 ag) [(T.getD j []).getD d []]))),17,(16,.var [.pv (.int .i64 ag)])::HX a T,?_,hK⟩
   (refine Wk.ofN 1 ?_ ?_ rfl rfl rfl ?_<;>repeat' (first|exact trivial|exact WkD.same _|exact WkO.same _ _ rfl|refine⟨?_,?_⟩|fail))
   refine HT_all (g:=_) hn ?_ ?_ ?_ ?_ fun e he => ?_
   ·exact Nat.le_of_ble_eq_true rfl
   ·exact rfl
   ·exact rfl
   ·exact rfl
   ·show (bif Nat.beq (e+8) 17 then _ else (bif Nat.beq (e+8) 17 then _ else (bif Nat.beq (e+8) 16 then _ else objsOf (HX a T) (e+8))))=_
    rw[z0s (by omega),z0s (by omega),cond_false,cond_false,cond_false];exact HT_get he
theorem each_dis (a:Act) (hn:a.pre.length<=8) (x:Nd) (T:List (List (List Nd))) (s j:Nat) (hs:s<2^a.pre.length) (hj:j<T.length) (M:Nat->Prop) (w0:W0) (base:Nat) (K:DV->DH->Prop)
  (hK:K (.pv (fpv (conA ((evsL s a.pre.length).map fun d=>q0d (nG 12 x.g) [(T.getD j []).getD d []])))) ⟨17,0,base,objsOf ((16,.var x.dvs)::HX a T)⟩) :
  DC Tryz.prog M w0 220 [.ref 2 0,.pv (u64 s),.pv (i64 j),.clo 222 [] [.ref 16 0]] ⟨17,0,base,objsOf ((16,.var x.dvs)::HX a T)⟩ K:=by
 refine DC.weaken (DC.intro mixed (fn:=Tryz.f220) rfl rfl rfl ?_);have hE:=rd_events s (lt8 hs hn);rw[evs8 hs hn] at hE;have hle:=evs_le s a.pre.length;have hlt:∀ d,d∈evsL s a.pre.length->d<a.pre.length:=fun d hd=>evs_lt hd
 generalize evsL s a.pre.length=dl at hE hle hlt hK
 (try conv=>whnf);repeat' (first|(refine PureFn.dy hE rfl ?_;try conv=>whnf)|fail)
 refine⟨{ i:Nat // i<=dl.length },fun i=>[(0,.ref 2 0),(2,.pv (i64 j)),(3,.clo 222 [] [.ref 16 0]),(9,.buf 17 (((dl.take i.1).map fun d=>q0d (nG 12 x.g) [(T.getD j []).getD d []]).map fpv).length),(13,.pv (intsP dl)),(14,.pv (i64 (dl.map i64).length)),(15,.pv (i64 i.1))],fun _=>18,
  fun i=>(17,.arr 1 (((dl.take i.1).map fun d=>q0d (nG 12 x.g) [(T.getD j []).getD d []]).map fpv))::(16,.var x.dvs)::HX a T,fun i=>dl.length-i.1,⟨⟨0,Nat.zero_le _⟩,?_⟩,?_⟩
 ·have h17:objsOf (HX a T) 17=none:=tabO_no hn (by decide)
  (refine Wk.ofN 2 ?_ ?_ rfl rfl rfl ?_<;>repeat' (first|exact trivial|exact WkD.same _|exact WkO.same _ _ rfl|refine⟨?_,?_⟩|fail))
  ·exact WkD.new' h17 rfl rfl
  ·exact WkO.new _ _ h17
  ·show (match objsOf (HX a T) 17 with|some _=>True|none=>Nat.ble 17 17=true)
   rw[h17];rfl
  ·refine HT_all (g:=_) hn ?_ ?_ ?_ ?_ fun e he => ?_
   ·exact Nat.le_of_ble_eq_true rfl
   ·exact rfl
   ·exact rfl
   ·exact rfl
   ·show (bif Nat.beq (e+8) 16 then _ else objsOf (HX a T) (e+8))=_
    rw[z0s (by omega),cond_false];exact HT_get he
 ·rintro⟨i,hi⟩
  (try conv=>whnf);repeat' (first|((first|apply And.intro|intro h)<;>try conv=>whnf)|(apply q0i;rfl))
  ·have hi':i<dl.length:=by simpa using q0j h
   obtain⟨d,hd⟩:∃ d,dl[i]? = some d:=⟨_,List.getElem?_eq_getElem hi'⟩;have hdn:=hlt d (List.mem_of_getElem? hd)
   (try conv=>whnf);repeat' (first|(apply And.intro<;>try conv=>whnf)|(apply q0i;rfl)|(refine⟨_,_,rfl,q0a (by with_reducible assumption),rfl,?_⟩;try conv=>whnf)|fail)
   ·exact rfl
   refine⟨d,rfl,hdn,?_⟩
   try conv=>whnf
   rw[tabC_get hdn];have hcg:=colP_get (T:=T) (e:=d) hj;have hcl:=colP_len T d
   have hget:objsOf ((17,.arr 1 (((dl.take i).map fun d=>q0d (nG 12 x.g) [(T.getD j []).getD d []]).map fpv))::(16,.var x.dvs)::HX a T) (d+8)=some (.arr 1 (colP T d)):=by
    show (bif Nat.beq (d+8) 17 then _ else (bif Nat.beq (d+8) 16 then _ else objsOf (HX a T) (d+8)))=_
    rw[z0s (by omega),z0s (by omega),cond_false,cond_false];exact HT_get hdn
   try conv=>whnf
   rw[get_eq (k:=d+8) (o:=some (.arr 1 (colP T d))) ?_]
   (try conv=>whnf);repeat' (first|(apply And.intro<;>try conv=>whnf)|with_reducible assumption)
   ·exact rfl
   refine⟨j,rfl,(show j<(colP T d).length by omega),?_⟩
   try conv=>whnf
   rw[get_eq (k:=d+8) (o:=some (.arr 1 (colP T d))) ?_]
   (try conv=>whnf);repeat' (first|(apply And.intro<;>try conv=>whnf)|with_reducible assumption|(apply ex2;(focus with_reducible assumption);try conv=>whnf)|fail)
   ·exact rfl
   refine DC.lendV (q:=.pv (fpv (q0d (nG 12 x.g) [(T.getD j []).getD d []]))) rfl rfl (Nat.le_of_ble_eq_true rfl) (fun _=>rfl) (fun _=>rfl) rfl (fun _=>rfl) (fun M' K' hK'=>clo_dist x _ M' _ K' hK') ?_
   (try conv=>whnf);repeat' (first|(apply And.intro<;>try conv=>whnf)|(apply q0p;rfl)|(apply szI;rfl))
   ·show (((dl.take i).map fun d=>q0d (nG 12 x.g) [(T.getD j []).getD d []]).map fpv).length+1<=4294967296
    rw[List.length_map,List.length_map,List.length_take];omega
   ·have hm:((dl.take i).map fun d=>q0d (nG 12 x.g) [(T.getD j []).getD d []]).map fpv++[fpv (q0d (nG 12 x.g) [(T.getD j []).getD d []])]=((dl.take (i+1)).map fun d=>q0d (nG 12 x.g) [(T.getD j []).getD d []]).map fpv:=by
     rw[tak_map hd,List.map_append];rfl
    refine⟨⟨i+1,hi'⟩,by show dl.length-(i+1)<dl.length-i;omega,?_⟩
    (refine Wk.ofN 2 ?_ ?_ rfl rfl rfl ?_<;>repeat' (first|exact trivial|exact WkD.same _|exact WkO.same _ _ rfl|exact WkD.eq (congrArg (fun z:List PV=>DV.buf _ z.length) hm)|exact WkO.same _ _ (congrArg (fun z=>some (DObj.arr _ z)) hm)|refine WkD.int ?_|refine⟨?_,?_⟩|(apply q0h;(focus simp;done);all_goals (try dsimp only);omega)|fail))
    refine HT_all (g:=_) hn ?_ ?_ ?_ ?_ fun e he => ?_
    ·exact Nat.le_of_ble_eq_true rfl
    ·exact rfl
    ·exact rfl
    ·exact rfl
    ·show (bif Nat.beq (e+8) 17 then _ else (bif Nat.beq (e+8) 17 then _ else (bif Nat.beq (e+8) 16 then _ else objsOf (HX a T) (e+8))))=_
     rw[z0s (by omega),z0s (by omega),cond_false,cond_false,cond_false];exact HT_get he
  ·have hi':i=dl.length:=by have:=q0k (m:=(dl.map i64).length) h (by simpa using hi);simpa using this
   subst hi'
   have hA:PureFn Tryz.prog 219 [.sl (((dl.take dl.length).map fun d=>q0d (nG 12 x.g) [(T.getD j []).getD d []]).map fpv)] (fpv (conA (dl.map fun d=>q0d (nG 12 x.g) [(T.getD j []).getD d []]))):=by
    rw[List.take_length];exact fm_All _ (by rw[List.length_map];omega)
   (try conv=>whnf);repeat' (first|(apply And.intro<;>try conv=>whnf)|(apply bleI;rfl)|(refine PureFn.dcq (f:=219) rfl ?_;try conv=>whnf)|(refine⟨_,_,hA,?_,?_⟩;(focus refine⟨?_,trivial⟩<;>first|exact PLe.refl _|exact PLe.nil);try conv=>whnf)|fail)
   refine⟨.pv (fpv (conA (dl.map fun d=>q0d (nG 12 x.g) [(T.getD j []).getD d []]))),17,(16,.var x.dvs)::HX a T,?_,hK⟩
   (refine Wk.ofN 1 ?_ ?_ rfl rfl rfl ?_<;>repeat' (first|exact trivial|exact WkD.same _|exact WkO.same _ _ rfl|refine⟨?_,?_⟩|fail))
   refine HT_all (g:=_) hn ?_ ?_ ?_ ?_ fun e he => ?_
   ·exact Nat.le_of_ble_eq_true rfl
   ·exact rfl
   ·exact rfl
   ·exact rfl
   ·show (bif Nat.beq (e+8) 17 then _ else (bif Nat.beq (e+8) 17 then _ else (bif Nat.beq (e+8) 16 then _ else objsOf (HX a T) (e+8))))=_
    rw[z0s (by omega),z0s (by omega),cond_false,cond_false,cond_false];exact HT_get he
theorem HX_up {a:Act} (hn:a.pre.length<=8) {T:List (List (List Nd))} {o:DObj} (ho:o.under 17=true):∀ q,q∈(16,o)::HX a T->q.1<17/\q.2.under 17=true:=fun q hq=>by
 rcases List.mem_cons.1 hq with rfl|hq
 ·exact⟨by show 16<17;omega,ho⟩
 ·exact HT_in hn (by decide) q hq
theorem know_dc (a:Act) (hn:a.pre.length<=8) (hR:Rel a.rel a.pre.length) (T:List (List (List Nd))) (ag e j:Nat) (hag:ag<a.rel.length) (he:e<a.pre.length) (hj:j<T.length) (M:Nat->Prop) (w0:W0) (base:Nat) (K:DV->DH->Prop)
  (hK:K (.pv (fpv (knoL a ag e (T.getD j [])))) ⟨16,0,base,objsOf (HX a T)⟩):DC Tryz.prog M w0 216 [.ref 2 0,.pv (i64 ag),.pv (i64 e),.pv (i64 j)] ⟨16,0,base,objsOf (HX a T)⟩ K:=by
 refine DC.weaken (DC.intro mixed (fn:=Tryz.f216) rfl rfl rfl ?_);have h1:a.rel[ag]? = some (a.rel.getD ag []):=q0f hag;have h2:(a.rel.getD ag [])[e]? = some ((a.rel.getD ag []).getD e 0):=q0f (by rw[hR.1 _ (List.mem_of_getElem? h1)];exact he);have hs:(a.rel.getD ag []).getD e 0<2^a.pre.length:=hR.2 _ (List.mem_of_getElem? h1) _ (List.mem_of_getElem? h2);have hkn:knoL a ag e (T.getD j [])=conA ((evsL ((a.rel.getD ag []).getD e 0) a.pre.length).map fun d=>q0d (nI 9 ag) [(T.getD j []).getD d []]):=rfl;rw[hkn] at hK;generalize a.rel.getD ag []=r at h1 h2 hs hK;generalize r.getD e 0=s at h2 hs hK
 try conv=>whnf
 refine⟨Plan.lin 0 16,[14],by kernel_rfl,?_⟩
 (try conv=>whnf);repeat' (first|(apply And.intro<;>try conv=>whnf)|(apply q0i;rfl)|(refine⟨_,_,rfl,q0a (by with_reducible assumption),rfl,?_⟩;try conv=>whnf)|fail)
 refine DC.callS 17 ((16,.var [.pv (.int .i64 ag)])::HX a T) (fun k _=>rfl) (HX_up hn rfl) rfl rfl rfl (fun M' K' hK'=>each_kno a hn ag T s j hs hj M' _ 17 K' hK') ?_
 try conv=>whnf
 refine⟨_,16,HX a T,?_,hK⟩
 (refine Wk.ofN 0 ?_ ?_ rfl rfl rfl ?_<;>repeat' (first|exact trivial|exact WkD.same _|refine⟨?_,?_⟩|fail))
 refine HT_all (g:=_) hn ?_ ?_ ?_ ?_ fun e he => ?_
 ·exact Nat.le_of_ble_eq_true rfl
 ·exact rfl
 ·exact rfl
 ·exact rfl
 ·show (bif Nat.beq (e+8) 16 then _ else objsOf (HX a T) (e+8))=_
  rw[z0s (by omega),cond_false];exact HT_get he
theorem HX_back {a:Act} (hn:a.pre.length<=8) {T:List (List (List Nd))} {g:Nat->Option DObj} {L:DH} (h:∀ k,k<16->g k=objsOf (HX a T) k) :
  ∀ q,q∈HX a T->(g q.1=some q.2\/(g q.1=none/\L.next<=q.1/\∃ sz,q.2=.arr sz []))/\q.1<16/\q.2.under 16=true :=
 HT_all (g:=g) hn (Nat.le_refl 16) ((h 0 (by omega)).trans rfl) ((h 1 (by omega)).trans rfl) ((h 2 (by omega)).trans rfl) fun e he=>(h (e+8) (by omega)).trans (HT_get he)
theorem HX_mid {a:Act} (hn:a.pre.length<=8) {T:List (List (List Nd))} {g:Nat->Option DObj} {L:DH} (h:∀ k,k<16->g k=objsOf (HX a T) k) :
  ∀ q,q∈HX a T->(g q.1=some q.2\/(g q.1=none/\L.next<=q.1/\∃ sz,q.2=.arr sz []))/\q.1<18/\q.2.under 18=true :=
 HT_all (g:=g) hn (by decide) ((h 0 (by omega)).trans rfl) ((h 1 (by omega)).trans rfl) ((h 2 (by omega)).trans rfl) fun e he=>(h (e+8) (by omega)).trans (HT_get he)
theorem push_lt {k:Nat} {o:DObj} {g:Nat->Option DObj} (h:k<16):(bif Nat.beq k 16 then some o else g k)=g k:=by rw[z0s (by omega)];rfl
theorem push_lt2 {k:Nat} {o o':DObj} {g:Nat->Option DObj} (h:k<16):(bif Nat.beq k 17 then some o' else bif Nat.beq k 16 then some o else g k)=g k:=by rw[z0s (by omega),z0s (by omega)];rfl
theorem push_lt3 {k:Nat} {o o' o'':DObj} {g:Nat->Option DObj} (h:k<16):(bif Nat.beq k 17 then some o'' else bif Nat.beq k 17 then some o' else bif Nat.beq k 16 then some o else g k)=g k:=by rw[z0s (by omega),z0s (by omega)];rfl
def grpP (g:Int) (i:Nat):List Nat:=(List.range i).filter fun j=>and64 (shr64 g j) 1==1
theorem grpP_succ (g:Int) (i:Nat):grpP g (i+1)=bif and64 (shr64 g i) 1==1 then grpP g i++[i] else grpP g i:=by
 unfold grpP;rw[List.range_succ,List.filter_append]
 cases h:(and64 (shr64 g i) 1==1) with
 |true=>simp[h]
 |false=>simp[h]
theorem grpP_len (g:Int) (i:Nat):(grpP g i).length<=i:=Nat.le_trans (List.length_filter_le _ _) (by simp)
theorem join_le {rel:List (List Nat)} {g:Int} {first e:Nat}:∀ i,z0d (fun x y=>x&&&y) rel g first e i<=first
 |0=>Nat.le_refl _
 |i+1=>by
  rw[z0d]
  cases (and64 (shr64 g i) 1==1) with
  |true=>exact Nat.le_trans Nat.and_le_left (join_le i)
  |false=>exact join_le i
theorem meet_at {a:Act} {g:Int} (hn:a.pre.length<=8) (hb:badGr a g=false) {e:Nat} (he:e<a.pre.length):(togL (fun x y=>x&&&y) a g (allW (a.pre.map fpv).length))[e]? = some ((meetL a g).getD e 0)/\(meetL a g).getD e 0<2^a.pre.length:=by
 rw[List.length_map];have h1:e<(meetL a g).length:=by rw[meetL,togL,hb];simpa using he
 refine⟨q0f h1,?_⟩
 have h2:(meetL a g).getD e 0=z0d (fun x y=>x&&&y) a.rel g (allW a.pre.length) e a.rel.length:=by
  rw[meetL,togL,hb,cond_false,List.getD_eq_getElem?_getD,List.getElem?_map,List.getElem?_range he];rfl
 rw[h2];have:=join_le (rel:=a.rel) (g:=g) (first:=allW a.pre.length) (e:=e) a.rel.length;rw[allW_is _ (by omega)] at this |-;have:=Nat.two_pow_pos a.pre.length;omega
theorem ok_nats {x:Nd} {n:Int} (h:OkNd x n):0<=x.x/\0<=x.y/\0<=x.i:=by
 refine⟨?_,?_,?_⟩
 ·cases hu:q0n x.op with
  |true=>exact (h.x hu).1
  |false=>rw[h.nox hu];exact Int.le_refl 0
 ·cases hu:q0o x.op with
  |true=>exact (h.y hu).1
  |false=>rw[h.noy hu];exact Int.le_refl 0
 ·by_cases h3:x.op=3
  ·exact (h.fact h3).1
  ·by_cases h17:x.op=17
   ·exact (h.act h17).1
   ·cases ha:z0r x.op with
    |true=>exact (h.agent ha).1
    |false=>rw[h.noi h3 ha h17];exact Int.le_refl 0
theorem col_at {T:List (List (List Nd))} {e j:Nat}:(T.map fun r=>r.getD e []).getD j []=(T.getD j []).getD e []:=by
 rw[List.getD_eq_getElem?_getD,List.getElem?_map,List.getD_eq_getElem?_getD (l:=T)]
 cases T[j]? <;> simp
theorem bf_no {a b:Int} {α:Type} {p q:α} (h:(a==b)=false):(bif a==b then p else q)=q:=by rw[h];rfl
theorem bf_yes {a b:Int} {α:Type} {p q:α} (h:(a==b)=true):(bif a==b then p else q)=p:=by rw[h];rfl
theorem body_dc (a:Act) (fc:Int) (hA:OkA a a.rel.length fc) (hf:Fit a) (hl:a.rel.length<=1000) (hp:∀ l,l∈a.post->l.length<=1000) (T:List (List (List Nd))) (hT:T.length<=200) (e:Nat) (he:e<a.pre.length) (x:Nd) (hk:OkNd x T.length) (hop:x.op<=12)
  (hi:x.op=9\/x.op=10->x.i.toNat<a.rel.length) (hg:x.op=12->badGr a x.g=false) (M:Nat->Prop) (w0:W0) (base:Nat) (K:DV->DH->Prop)
  (hK:K (.pv (fpv (evBod a e x (T.getD x.x.toNat []) (T.getD x.y.toNat [])))) ⟨16,0,base,objsOf (HX a T)⟩) :
  DC Tryz.prog M w0 184 [.ref 2 0,.pv (i64 e),.agg x.dvs] ⟨16,0,base,objsOf (HX a T)⟩ K:=by
 have hn:=hA.n8;have hR:Rel a.rel a.pre.length:=⟨hA.rows,hA.bits⟩;obtain⟨n1,n2,n3⟩:=ok_nats hk;have hpos:=hk.op;have hjx:=hk.x;have hidx:=fun h=>opn_idx hk h
 obtain⟨op,i,e',g,xx,yy⟩:=x;simp only at n1 n2 n3 hpos hjx hop hi hg hK hidx;obtain⟨ag,rfl⟩:∃ k:Nat,i=k:=⟨i.toNat,by omega⟩;obtain⟨j,rfl⟩:∃ k:Nat,xx=k:=⟨xx.toNat,by omega⟩;obtain⟨jy,rfl⟩:∃ k:Nat,yy=k:=⟨yy.toNat,by omega⟩;simp only[Int.toNat_natCast] at hi hK hidx;refine DC.weaken (DC.intro mixed (fn:=Tryz.f184) rfl rfl rfl ?_);have hV:=ac_Value a e ag hf hl hp;have hM:=ac_Meet a g hf hl hp;unfold evBod at hK;simp only at hK
 (try conv=>whnf);repeat' (first|((first|apply And.intro|intro h)<;>try conv=>whnf))
 ·refine⟨Plan.lin 0 13,[],by kernel_rfl,?_⟩
  (try conv=>whnf);repeat' (first|(refine⟨_,(by (conv=>whnf);exact hV),rfl,?_⟩;try conv=>whnf)|fail)
  rw[bf_yes h] at hK;refine⟨_,16,HX a T,?_,hK⟩
  (refine Wk.ofN 0 ?_ ?_ rfl rfl rfl ?_<;>repeat' (first|exact trivial|exact WkD.same _|refine⟨?_,?_⟩|fail))
  exact HX_back hn fun k hk=>push_lt hk
 ·rename_i h3;rw[bf_no h3,bf_yes h] at hK;have h9:op=9:=by simpa using h
  have hj:j<T.length:=by have:=hjx (by rw[h9];rfl);omega
  refine DC.callS 16 (HX a T) (fun k hk=>(push_lt hk).symm) (fun q hq=>HT_in hn (Nat.le_refl 16) q hq) rfl rfl rfl (fun M' K' hK'=>know_dc a hn hR T ag e j (hi (.inl h9)) he hj M' _ 16 K' hK') ?_
  try conv=>whnf
  rw[Int.toNat_natCast] at hK;refine⟨_,16,HX a T,?_,hK⟩
  (refine Wk.ofN 0 ?_ ?_ rfl rfl rfl ?_<;>repeat' (first|exact trivial|exact WkD.same _|refine⟨?_,?_⟩|fail))
  exact HX_back hn fun k hk=>push_lt hk
 ·rename_i h3 h9;rw[bf_no h3,bf_no h9,bf_yes h] at hK;have h10:op=10:=by simpa using h
  have hj:j<T.length:=by have:=hjx (by rw[h10];rfl);omega
  have hag:=hi (.inr h10);have r1:a.rel[ag]? = some (a.rel.getD ag []):=q0f hag;have r2:(a.rel.getD ag [])[e]? = some ((a.rel.getD ag []).getD e 0):=q0f (by rw[hR.1 _ (List.mem_of_getElem? r1)];exact he);have hs:(a.rel.getD ag []).getD e 0<2^a.pre.length:=hR.2 _ (List.mem_of_getElem? r1) _ (List.mem_of_getElem? r2);rw[Int.toNat_natCast,sees] at hK;generalize a.rel.getD ag []=r at r1 r2 hs hK;generalize r.getD e 0=s at r2 hs hK;have hE:=rd_events s (lt8 hs hn);rw[evs8 hs hn] at hE;have hle:=evs_le s a.pre.length;have hlt:∀ d,d∈evsL s a.pre.length->d<a.pre.length:=fun d hd=>evs_lt hd
  generalize evsL s a.pre.length=dl at hE hle hlt hK;refine⟨Plan.lin 0 15,[],by kernel_rfl,?_⟩
  (try conv=>whnf);repeat' (first|(apply And.intro<;>try conv=>whnf)|(apply q0i;rfl)|(refine⟨_,_,rfl,q0a (by with_reducible assumption),rfl,?_⟩;try conv=>whnf)|(refine⟨_,(by (conv=>whnf);exact hE),rfl,?_⟩;try conv=>whnf)|fail)
  refine⟨{ i:Nat // i<=dl.length },fun i=>[(0,.ref 2 0),(5,.ref 16 0),(9,.buf 17 (((dl.take i.1).map fun d=>q0d (nI 10 ag) [conL (a.pre.getD d []) ((T.getD j []).getD d [])]).map fpv).length),(55,.pv (intsP dl)),(56,.pv (i64 (dl.map i64).length)),(57,.pv (i64 i.1))],fun _=>18,
   fun i=>(17,.arr 1 (((dl.take i.1).map fun d=>q0d (nI 10 ag) [conL (a.pre.getD d []) ((T.getD j []).getD d [])]).map fpv))::(16,.var (Nd.dvs ⟨op,ag,e',g,j,jy⟩))::HX a T,fun i=>dl.length-i.1,⟨⟨0,Nat.zero_le _⟩,?_⟩,?_⟩
  ·have h17:objsOf (HX a T) 17=none:=tabO_no hn (by decide)
   (refine Wk.ofN 2 ?_ ?_ rfl rfl rfl ?_<;>repeat' (first|exact trivial|exact WkD.same _|exact WkO.same _ _ rfl|refine⟨?_,?_⟩|fail))
   ·exact WkD.new' h17 rfl rfl
   ·exact WkO.new _ _ h17
   ·show (match objsOf (HX a T) 17 with|some _=>True|none=>Nat.ble 17 17=true)
    rw[h17];rfl
   ·exact HX_mid hn fun k hk=>push_lt hk
  rintro⟨i,hi⟩
  (try conv=>whnf);repeat' (first|((first|apply And.intro|intro h)<;>try conv=>whnf)|(apply q0i;rfl))
  ·have hi':i<dl.length:=by simpa using q0j h
   obtain⟨d,hd⟩:∃ d,dl[i]? = some d:=⟨_,List.getElem?_eq_getElem hi'⟩;have hdn:=hlt d (List.mem_of_getElem? hd);have hpre:a.pre[d]? = some (a.pre.getD d []):=q0f hdn;have hcg:=colP_get (T:=T) (e:=d) hj;have hcl:=colP_len T d
   have hget:objsOf ((17,.arr 1 (((dl.take i).map fun d=>q0d (nI 10 ag) [conL (a.pre.getD d []) ((T.getD j []).getD d [])]).map fpv))::(16,.var (Nd.dvs ⟨op,ag,e',g,j,jy⟩))::HX a T) (d+8)=some (.arr 1 (colP T d)):=by
    show (bif Nat.beq (d+8) 17 then _ else (bif Nat.beq (d+8) 16 then _ else objsOf (HX a T) (d+8)))=_
    rw[z0s (by omega),z0s (by omega),cond_false,cond_false];exact HT_get hdn
   (try conv=>whnf);repeat' (first|(refine⟨_,_,rfl,q0a (by with_reducible assumption),rfl,?_⟩;try conv=>whnf)|fail)
   refine⟨Plan.lin 0 27,[],by kernel_rfl,?_⟩
   (try conv=>whnf);repeat' (first|(apply And.intro<;>try conv=>whnf)|(apply q0i;rfl)|(refine⟨_,_,rfl,q0a (by with_reducible assumption),rfl,?_⟩;try conv=>whnf)|fail)
   ·exact rfl
   refine⟨d,rfl,hdn,?_⟩
   try conv=>whnf
   rw[tabC_get hdn]
   try conv=>whnf
   rw[get_eq (k:=d+8) (o:=some (.arr 1 (colP T d))) ?_]
   (try conv=>whnf);repeat' (first|(apply And.intro<;>try conv=>whnf)|with_reducible assumption)
   ·exact rfl
   refine⟨j,rfl,(show j<(colP T d).length by omega),?_⟩
   try conv=>whnf
   rw[get_eq (k:=d+8) (o:=some (.arr 1 (colP T d))) ?_]
   (try conv=>whnf);repeat' (first|(apply And.intro<;>try conv=>whnf)|(apply q0p;rfl)|(apply szI;rfl)|with_reducible assumption|(apply ex2;(focus with_reducible assumption);try conv=>whnf)|(refine⟨_,(by (conv=>whnf);exact fm_And _ _),rfl,?_⟩;try conv=>whnf)|(refine⟨_,(by (conv=>whnf);exact fm_Poss _ _),rfl,?_⟩;try conv=>whnf)|fail)
   ·exact rfl
   ·show (((dl.take i).map fun d=>q0d (nI 10 ag) [conL (a.pre.getD d []) ((T.getD j []).getD d [])]).map fpv).length+1<=4294967296
    rw[List.length_map,List.length_map,List.length_take];omega
   ·have hm:((dl.take i).map fun d=>q0d (nI 10 ag) [conL (a.pre.getD d []) ((T.getD j []).getD d [])]).map fpv++[fpv (q0d (nI 10 ag) [q0d (n0 5) [a.pre.getD d [],(T.getD j []).getD d []]])]=((dl.take (i+1)).map fun d=>q0d (nI 10 ag) [conL (a.pre.getD d []) ((T.getD j []).getD d [])]).map fpv:=by
     rw[tak_map hd,List.map_append];rfl
    refine⟨⟨i+1,hi'⟩,by show dl.length-(i+1)<dl.length-i;omega,?_⟩
    (refine Wk.ofN 2 ?_ ?_ rfl rfl rfl ?_<;>repeat' (first|exact trivial|exact WkD.same _|exact WkO.same _ _ rfl|exact WkD.eq (congrArg (fun z:List PV=>DV.buf _ z.length) hm)|exact WkO.same _ _ (congrArg (fun z=>some (DObj.arr _ z)) hm)|refine WkD.int ?_|refine⟨?_,?_⟩|(apply q0h;(focus simp;done);all_goals (try dsimp only);omega)|fail))
    exact HX_mid hn fun k hk=>push_lt3 hk
  ·have hi':i=dl.length:=by have:=q0k (m:=(dl.map i64).length) h (by simpa using hi);simpa using this
   subst hi'
   have hA:PureFn Tryz.prog 218 [.sl (((dl.take dl.length).map fun d=>q0d (nI 10 ag) [conL (a.pre.getD d []) ((T.getD j []).getD d [])]).map fpv)] (fpv (disA (dl.map fun d=>q0d (nI 10 ag) [conL (a.pre.getD d []) ((T.getD j []).getD d [])]))):=by
    rw[List.take_length];exact fm_Any _ (by rw[List.length_map];omega)
   (try conv=>whnf);repeat' (first|(apply And.intro<;>try conv=>whnf)|(apply bleI;rfl)|(refine PureFn.dcq (f:=218) rfl ?_;try conv=>whnf)|(refine⟨_,_,hA,?_,?_⟩;(focus refine⟨?_,trivial⟩<;>first|exact PLe.refl _|exact PLe.nil);try conv=>whnf)|fail)
   refine⟨_,16,HX a T,?_,hK⟩
   (refine Wk.ofN 0 ?_ ?_ rfl rfl rfl ?_<;>repeat' (first|exact trivial|exact WkD.same _|refine⟨?_,?_⟩|fail))
   exact HX_back hn fun k hk=>push_lt3 hk
 ·rename_i h3 h9 h10;rw[bf_no h3,bf_no h9,bf_no h10,bf_yes h] at hK;have h11:op=11:=by simpa using h
  have hj:j<T.length:=by have:=hjx (by rw[h11];rfl);omega
  have hK:K (.pv (fpv (conA ((grpP g a.rel.length).map fun b=>knoL a b e (T.getD j []))))) ⟨16,0,base,objsOf (HX a T)⟩:=hK;have hra:=hA.agn
  refine⟨{ i:Nat // i<=a.rel.length },fun i=>[(0,.ref 2 0),(1,.pv (i64 e)),(5,.ref 16 0),(12,.buf 17 (((grpP g i.1).map fun b=>knoL a b e (T.getD j [])).map fpv).length),(97,.pv (i64 (a.rel.map q0b).length)),(98,.pv (i64 i.1))],fun _=>18,
   fun i=>(17,.arr 1 (((grpP g i.1).map fun b=>knoL a b e (T.getD j [])).map fpv))::(16,.var (Nd.dvs ⟨op,ag,e',g,j,jy⟩))::HX a T,fun i=>a.rel.length-i.1,⟨⟨0,Nat.zero_le _⟩,?_⟩,?_⟩
  ·have h17:objsOf (HX a T) 17=none:=tabO_no hn (by decide)
   (refine Wk.ofN 2 ?_ ?_ rfl rfl rfl ?_<;>repeat' (first|exact trivial|exact WkD.same _|exact WkO.same _ _ rfl|refine⟨?_,?_⟩|fail))
   ·exact WkD.new' h17 rfl rfl
   ·exact WkO.new _ _ h17
   ·show (match objsOf (HX a T) 17 with|some _=>True|none=>Nat.ble 17 17=true)
    rw[h17];rfl
   ·exact HX_mid hn fun k hk=>push_lt hk
  rintro⟨i,hi⟩;have hgs:=grpP_succ g i;have hgl:=grpP_len g i
  (try conv=>whnf);repeat' (first|((first|apply And.intro|intro h)<;>try conv=>whnf))
  ·exact Int.natCast_nonneg _
  ·rename_i hlt;have hi':i<a.rel.length:=by simpa using q0j hlt
   rw[show (and64 (shr64 g i) 1==1)=true from h,cond_true] at hgs;refine DC.callS 16 (HX a T) (fun k hk=>(push_lt2 hk).symm) (fun q hq=>HT_in hn (Nat.le_refl 16) q hq) rfl rfl rfl (fun M' K' hK'=>know_dc a hn hR T i e j hi' he hj M' _ 16 K' hK') ?_
   (try conv=>whnf);repeat' (first|(apply And.intro<;>try conv=>whnf)|(apply q0p;rfl)|(apply szI;rfl))
   ·show (((grpP g i).map fun b=>knoL a b e (T.getD j [])).map fpv).length+1<=4294967296
    rw[List.length_map,List.length_map];omega
   ·have hm:((grpP g i).map fun b=>knoL a b e (T.getD j [])).map fpv++[fpv (knoL a i e (T.getD j []))]=((grpP g (i+1)).map fun b=>knoL a b e (T.getD j [])).map fpv:=by
     rw[hgs,List.map_append,List.map_append];rfl
    refine⟨⟨i+1,hi'⟩,by show a.rel.length-(i+1)<a.rel.length-i;omega,?_⟩
    (refine Wk.ofN 2 ?_ ?_ rfl rfl rfl ?_<;>repeat' (first|exact trivial|exact WkD.same _|exact WkO.same _ _ rfl|exact WkD.eq (congrArg (fun z:List PV=>DV.buf _ z.length) hm)|exact WkO.same _ _ (congrArg (fun z=>some (DObj.arr _ z)) hm)|refine WkD.int ?_|refine⟨?_,?_⟩|(apply q0h;(focus simp;done);all_goals (try dsimp only);omega)|fail))
    exact HX_mid hn fun k hk=>push_lt3 hk
  ·rename_i hlt;have hi':i<a.rel.length:=by simpa using q0j hlt
   rw[show (and64 (shr64 g i) 1==1)=false from h,cond_false] at hgs;have hm:((grpP g i).map fun b=>knoL a b e (T.getD j [])).map fpv=((grpP g (i+1)).map fun b=>knoL a b e (T.getD j [])).map fpv:=by rw[hgs]
   refine⟨⟨i+1,hi'⟩,by show a.rel.length-(i+1)<a.rel.length-i;omega,?_⟩
   (refine Wk.ofN 2 ?_ ?_ rfl rfl rfl ?_<;>repeat' (first|exact trivial|exact WkD.same _|exact WkO.same _ _ rfl|exact WkD.eq (congrArg (fun z:List PV=>DV.buf _ z.length) hm)|exact WkO.same _ _ (congrArg (fun z=>some (DObj.arr _ z)) hm)|refine WkD.int ?_|refine⟨?_,?_⟩|(apply q0h;(focus simp;done);all_goals (try dsimp only);omega)|fail))
   exact HX_mid hn fun k hk=>push_lt2 hk
  ·have hi':i=a.rel.length:=by have:=q0k (m:=(a.rel.map q0b).length) h (by simpa using hi);simpa using this
   subst hi';have hAl:=fm_All ((grpP g a.rel.length).map fun b=>knoL a b e (T.getD j [])) (by rw[List.length_map];omega)
   (try conv=>whnf);repeat' (first|(apply And.intro<;>try conv=>whnf)|(apply bleI;rfl)|(refine PureFn.dcq (f:=219) rfl ?_;try conv=>whnf)|(refine⟨_,_,hAl,?_,?_⟩;(focus refine⟨?_,trivial⟩<;>first|exact PLe.refl _|exact PLe.nil);try conv=>whnf)|fail)
   refine⟨_,16,HX a T,?_,hK⟩
   (refine Wk.ofN 0 ?_ ?_ rfl rfl rfl ?_<;>repeat' (first|exact trivial|exact WkD.same _|refine⟨?_,?_⟩|fail))
   exact HX_back hn fun k hk=>push_lt3 hk
 ·rename_i h3 h9 h10 h11;rw[bf_no h3,bf_no h9,bf_no h10,bf_no h11,bf_yes h] at hK;have h12:op=12:=by simpa using h
  have hj:j<T.length:=by have:=hjx (by rw[h12];rfl);omega
  obtain⟨m1,m2⟩:=meet_at hn (hg h12) he;refine⟨Plan.lin 0 16,[14],by kernel_rfl,?_⟩
  (try conv=>whnf);repeat' (first|(apply And.intro<;>try conv=>whnf)|(apply q0i;rfl)|(refine⟨_,_,rfl,q0a (by with_reducible assumption),rfl,?_⟩;try conv=>whnf)|(refine⟨_,(by (conv=>whnf);exact hM),rfl,?_⟩;try conv=>whnf)|fail)
  refine DC.callS 17 ((16,.var (Nd.dvs ⟨op,ag,e',g,j,jy⟩))::HX a T) (fun k _=>rfl) (HX_up hn rfl) rfl rfl rfl (fun M' K' hK'=>each_dis a hn ⟨op,ag,e',g,j,jy⟩ T ((meetL a g).getD e 0) j m2 hj M' _ 17 K' hK') ?_
  try conv=>whnf
  refine⟨_,16,HX a T,?_,hK⟩
  (refine Wk.ofN 0 ?_ ?_ rfl rfl rfl ?_<;>repeat' (first|exact trivial|exact WkD.same _|refine⟨?_,?_⟩|fail))
  exact HX_back hn fun k hk=>push_lt hk
 ·rename_i h3 h9 h10 h11;rw[bf_no h3,bf_no h9,bf_no h10,bf_no h11,bf_no h] at hK;have hget:objsOf (HX a T) (e+8)=some (.arr 1 (colP T e)):=HT_get he;have hAp:=red_apply ⟨op,ag,e',g,j,jy⟩ ((T.getD j []).getD e []) ((T.getD jy []).getD e []) ⟨hpos.1,(show op<=13 by omega)⟩;refine⟨Plan.lin 0 14,[8],by kernel_rfl,?_⟩
  (try conv=>whnf);repeat' (first|(apply And.intro<;>try conv=>whnf)|(apply q0i;rfl))
  ·exact rfl
  refine⟨e,rfl,he,?_⟩
  try conv=>whnf
  rw[tabC_get he]
  try conv=>whnf
  have hg2:(bif Nat.beq (e+8) 16 then some (DObj.var (Nd.dvs ⟨op,ag,e',g,j,jy⟩)) else objsOf (HX a T) (e+8))=some (.arr 1 (colP T e)):=by
   rw[z0s (by omega),cond_false];exact hget
  by_cases hT0:T=[]
  ·subst hT0;refine DC.lend (k:=e+8) (sz:=1) (es:=colP [] e) (q:=.tup [.pv .nil,.pv .nil]) hg2 rfl (show e+8<17 by omega) (fun _=>rfl) (fun _=>rfl) rfl (fun _=>rfl) (fun M' K' hK'=>op_own ⟨op,ag,e',g,j,jy⟩ [] hk M' _ 1 K' (fun _=>hK') (fun h=>absurd rfl h)) ?_
   (try conv=>whnf);repeat' (first|(refine PureFn.dcq (f:=155) rfl ?_;try conv=>whnf)|(refine⟨_,_,hAp,?_,?_⟩;(focus refine⟨?_,?_,?_,trivial⟩<;>first|exact PLe.refl _|exact PLe.nil);try conv=>whnf)|fail)
   refine⟨_,16,HX a [],?_,hK⟩
   (refine Wk.ofN 0 ?_ ?_ rfl rfl rfl ?_<;>repeat' (first|exact trivial|exact WkD.same _|refine⟨?_,?_⟩|fail))
   exact HX_back hn fun k hk=>push_lt hk
  ·have hOp:∀ (M':Nat->Prop) (K':DV->DH->Prop),K' (.tup [.pv (fpv ((T.getD j []).getD e [])),.pv (fpv ((T.getD jy []).getD e []))]) ⟨1,0,1,objsOf [(0,.arr 1 (colP T e))]⟩ ->
     DC Tryz.prog M' w0.no 118 [.buf 0 (lenP T e),.agg (Nd.dvs ⟨op,ag,e',g,j,jy⟩)] ⟨1,0,1,objsOf [(0,.arr 1 (colP T e))]⟩ K':=fun M' K' hK'=>by
    refine op_own ⟨op,ag,e',g,j,jy⟩ (T.map fun r:List (List Nd)=>r.getD e []) (by rw[List.length_map];exact hk) M' _ 1 K' (fun h=>absurd (List.map_eq_nil_iff.1 h) hT0) fun _ => ?_
    simp only[Int.toNat_natCast,col_at];exact hK'
   refine DC.lend (k:=e+8) (sz:=1) (es:=colP T e) (q:=.tup [.pv (fpv ((T.getD j []).getD e [])),.pv (fpv ((T.getD jy []).getD e []))]) hg2 rfl (show e+8<17 by omega) (fun _=>rfl) (fun _=>rfl) rfl (fun _=>rfl) hOp ?_
   (try conv=>whnf);repeat' (first|(refine PureFn.dy hAp rfl ?_;try conv=>whnf)|fail)
   refine⟨_,16,HX a T,?_,hK⟩
   (refine Wk.ofN 0 ?_ ?_ rfl rfl rfl ?_<;>repeat' (first|exact trivial|exact WkD.same _|refine⟨?_,?_⟩|fail))
   exact HX_back hn fun k hk=>push_lt hk
theorem push_lt2' {k:Nat} {o o':DObj} {g:Nat->Option DObj} (h:k<16):(bif Nat.beq k 16 then some o' else bif Nat.beq k 16 then some o else g k)=g k:=by rw[z0s (by omega)];rfl
theorem HX_start {a:Act} {N:Nat} (hN:N=a.pre.length) (hn:a.pre.length<=8) {L:DH} (h0:L.get 0=some (.var (q0c a))) (h1:L.get 1=some (.var (List.replicate N (.pv .nil)))) (h2:L.get 2=some (.var (tabD a N))) (hno:∀ k,3<=k->L.get k=none) (hnx:L.next<=8) :
  ∀ q,q∈HX a []->WkO L (HX a []) q.1 q.2/\(L.get q.1=none->L.next<=q.1)/\q.1<16/\q.2.under 16=true:=fun q hq=>by
 subst hN;refine⟨?_,?_,HT_in hn (Nat.le_refl 16) q hq⟩
 ·rcases List.mem_cons.1 hq with rfl|hq
  ·exact .same _ _ h0
  rcases List.mem_cons.1 hq with rfl|hq
  ·refine .var 1 _ _ h1 (by rw[tabC_len,List.length_replicate]) fun i d d' hd hd' => ?_
   have hi:i<a.pre.length:=by
    have:=(List.getElem?_eq_some_iff.1 hd).1;simpa using this
   rw[List.getElem?_replicate,if_pos hi] at hd;rw[tabC_get hi] at hd';obtain rfl:=Option.some.inj hd;obtain rfl:=Option.some.inj hd';exact .new _ (i+8) 1 (.inl rfl) (hno _ (by omega)) (HT_get (len:=lenP []) (col:=colP []) hi)
  rcases List.mem_cons.1 hq with rfl|hq
  ·exact .same _ _ h2
  obtain⟨e,he,rfl⟩:=List.mem_map.1 hq;exact .new _ 1 (hno _ (by show 3<=e+8;omega))
 ·rcases List.mem_cons.1 hq with rfl|hq
  ·intro h;rw[h0] at h;cases h
  rcases List.mem_cons.1 hq with rfl|hq
  ·intro h;rw[h1] at h;cases h
  rcases List.mem_cons.1 hq with rfl|hq
  ·intro h;rw[h2] at h;cases h
  obtain⟨e,he,rfl⟩:=List.mem_map.1 hq;intro _
  show L.next<=e+8
  omega
def colM (T:List (List (List Nd))) (row:List (List Nd)) (e e':Nat):List PV:=if e'<e then colP (T++[row]) e' else colP T e'
def lenM (T:List (List (List Nd))) (row:List (List Nd)) (e e':Nat):Nat:=(colM T row e e').length
theorem HT_congr {a:Act} {n:Nat} {len len':Nat->Nat} {col col':Nat->List PV} (h1:∀ e,e<n->len e=len' e) (h2:∀ e,e<n->col e=col' e):HT a n len col=HT a n len' col':=by
 have e1:tabC n len=tabC n len':=List.map_congr_left fun e he=>by rw[h1 e (List.mem_range.1 he)]
 have e2:tabO n col=tabO n col':=List.map_congr_left fun e he=>by rw[h2 e (List.mem_range.1 he)]
 rw[HT,HT,e1,e2]
theorem col_snoc {T:List (List (List Nd))} {row:List (List Nd)} {e:Nat}:colP T e++[fpv (row.getD e [])]=colP (T++[row]) e:=by
 simp[colP]
theorem ble_s {e c b:Nat} (hc:c=1) (h:e+1<=b):Nat.ble (e+c) b=true:=by rw[hc,Nat.ble_eq];exact h
theorem tabC_put {n e m:Nat} {len len':Nat->Nat} (he:e<n) (h1:len' e=m) (h2:∀ e',e'≠e->len' e'=len e'):splice (tabC n len) e [.buf (e+8) m]=tabC n len':=by
 have hs:splice (tabC n len) e [.buf (e+8) m]=(tabC n len).set e (.buf (e+8) m):=by
  rw[splice,List.set_eq_take_append_cons_drop,if_pos (by rw[tabC_len];exact he)];simp
 rw[hs];apply List.ext_getElem?;intro i;rw[List.getElem?_set]
 by_cases q:e=i
 ·subst q;rw[if_pos rfl,if_pos (by rw[tabC_len];exact he),tabC_get he,h1]
 ·rw[if_neg q]
  by_cases hi:i<n
  ·rw[tabC_get hi,tabC_get hi,h2 i (fun e=>q e.symm)]
  ·rw[List.getElem?_eq_none (by rw[tabC_len];omega),List.getElem?_eq_none (by rw[tabC_len];omega)]
theorem colM_yes {T:List (List (List Nd))} {row:List (List Nd)} {e:Nat}:colM T row (e+1) e=colP T e++[fpv (row.getD e [])]:=by
 rw[colM,if_pos (Nat.lt_succ_self e),col_snoc]
theorem colM_no {T:List (List (List Nd))} {row:List (List Nd)} {e e':Nat} (h:e'≠e):colM T row (e+1) e'=colM T row e e':=by
 unfold colM
 by_cases q:e'<e
 ·rw[if_pos q,if_pos (by omega)]
 ·rw[if_neg q,if_neg (by omega)]
theorem HT_mid {a:Act} {n nx:Nat} (hn:n<=8) (hnx:16<=nx) {len:Nat->Nat} {col:Nat->List PV} {g:Nat->Option DObj} {L:DH} (h:∀ k,k<16->g k=objsOf (HT a n len col) k) :
  ∀ q,q∈HT a n len col->(g q.1=some q.2\/(g q.1=none/\L.next<=q.1/\∃ sz,q.2=.arr sz []))/\q.1<nx/\q.2.under nx=true :=
 HT_all (g:=g) hn hnx ((h 0 (by omega)).trans rfl) ((h 1 (by omega)).trans rfl) ((h 2 (by omega)).trans rfl) fun e he=>(h (e+8) (by omega)).trans (HT_get he)
theorem evHd_no {a:Act} {x:Nd} {X Y:List (List Nd)} {e:Nat} (he:e<a.pre.length) (h:impL (a.pre.getD e []) (evBod a e x X Y)=[]):evHd a x X Y=(evRow a x X Y,8):=by
 rw[evHd];have:(evRow a x X Y).any List.isEmpty=true:=List.any_eq_true.2 ⟨_,List.mem_map.2 ⟨e,List.mem_range.2 he,rfl⟩,by rw[h];rfl⟩;rw[this];rfl
theorem evHd_yes {a:Act} {x:Nd} {X Y:List (List Nd)} (h:∀ e,e<a.pre.length->impL (a.pre.getD e []) (evBod a e x X Y)≠[]):evHd a x X Y=(evRow a x X Y,0):=by
 rw[evHd]
 have:(evRow a x X Y).any List.isEmpty=false:=any_empty.2 fun z hz=>by
  obtain⟨e,he,rfl⟩:=List.mem_map.1 hz;exact h e (List.mem_range.1 he)
 rw[this];rfl
theorem row_take {a:Act} {x:Nd} {X Y:List (List Nd)} {e:Nat} (he:e<a.pre.length):((evRow a x X Y).take e).map fpv++[fpv (impL (a.pre.getD e []) (evBod a e x X Y))]=((evRow a x X Y).take (e+1)).map fpv:=by
 have h:(evRow a x X Y)[e]? = some (impL (a.pre.getD e []) (evBod a e x X Y)):=by rw[evRow,List.getElem?_map,List.getElem?_range he];rfl
 rw[tak_map h]
theorem row_len (a:Act) (x:Nd) (X Y:List (List Nd)):(evRow a x X Y).length=a.pre.length:=by simp[evRow]
theorem red_after (a:Act) (fc:Int) (hA:OkA a a.rel.length fc) (hf:Fit a) (hl:a.rel.length<=1000) (hp:∀ l,l∈a.post->l.length<=1000) (ev:Nat) (hev:ev<a.pre.length) (f:List Nd) (hcf:z0b f=0)
  (hop:∀ x,x∈q0u f->x.op<=12/\(x.op=9\/x.op=10->x.i.toNat<a.rel.length)/\(x.op=12->badGr a x.g=false)):PureFn Tryz.prog 146 [a.pv,i64 ev,fpv f] (pairF (aftF a ev (q0u f))):=by
 refine PureFn.introC [2,10,18] mixed (fn:=Tryz.f146) rfl rfl rfl fun M w0 => ?_
 have hn:=hA.n8;have hlen:=comp_len f;have hpos:=comp_pos hcf;have hokl:=z0h f;have h1n:=hA.n1;have hN:((a.pre.map fpv).length:Int).toNat=a.pre.length:=by simp
 try conv=>whnf
 refine⟨Unit,fun _=>[(1,.pv (i64 ev)),(2,.pv (fpv f)),(3,.ref 0 0),(8,.ref 2 0)],fun _=>16,fun _=>HX a [],?_,?_⟩
 ·try conv=>whnf
  refine⟨.one 1 (.one 2 (.one 3 (.two 0 (.one 4 (.one 5 (.one 6 (.one 7 .done)))) 4 (.one 0 (.one 5 (.one 6 (.one 7 .done))))))),[4],by kernel_rfl,?_⟩
  (try conv=>whnf);repeat' (first|(apply And.intro<;>try conv=>whnf)|(apply Or.inr;refine⟨rfl,?_,rfl,?_⟩;try conv=>whnf)|fail)
  all_goals first
   |rfl
   |exact (show (0:Int)<=((a.pre.map fpv).length:Int) from Int.natCast_nonneg _)
   |exact (show ((a.pre.map fpv).length:Int)<=(big:Nat) by rw[List.length_map];unfold big;omega)
   |exact (show (0:Int)<((a.pre.map fpv).length:Int) by rw[List.length_map];omega)
   |skip
  all_goals (refine⟨(),Wk.ofP ⟨.same _,.same _,.same _,.same _,trivial⟩ rfl rfl rfl (HX_start hN hn rfl rfl rfl (fun k hk => ?_) (show 3<=8 by decide))⟩;show (bif Nat.beq k 2 then _ else bif Nat.beq k 1 then _ else bif Nat.beq k 0 then _ else none)=none;rw[z0s (by omega),z0s (by omega),z0s (by omega)];rfl)
 rintro⟨⟩
 (try conv=>whnf);repeat' (first|(refine PureFn.dcq (f:=68) rfl ?_;try conv=>whnf)|(refine⟨_,_,fm_Compact ?_,?_,?_⟩;rotate_left 1;(focus refine⟨?_,trivial⟩<;>first|exact PLe.refl _|exact PLe.nil);try conv=>whnf)|fail)
 unfold aftF;generalize q0u f=c at *
 refine⟨{ q:Nat×List (List (List Nd)) // q.1<=c.length/\q.2.length=q.1/\redE [] (evHd a) c []=redE [] (evHd a) (c.drop q.1) q.2 },fun q=>[(1,.pv (i64 ev)),(3,.ref 0 0),(8,.ref 2 0),(25,.pv (fpv c)),(26,.pv (i64 (c.map Nd.pv).length)),(27,.pv (i64 q.1.1))],fun _=>16,fun q=>HX a q.1.2,fun q=>c.length-q.1.1,
  ⟨⟨(0,[]),Nat.zero_le _,rfl,rfl⟩,?_⟩,?_⟩
 ·(refine Wk.ofN 0 ?_ ?_ rfl rfl rfl ?_<;>repeat' (first|exact trivial|exact WkD.same _|refine⟨?_,?_⟩|fail))
  exact HX_back hn fun k hk=>rfl
 rintro⟨⟨i,T⟩,hi,hl,he⟩;simp only at hi hl he
 (try conv=>whnf);repeat' (first|((first|apply And.intro|intro h)<;>try conv=>whnf)|(apply q0i;rfl))
 ·have hi':i<c.length:=by simpa using h
  obtain⟨x,hx⟩:∃ x,c[i]? = some x:=⟨_,List.getElem?_eq_getElem hi'⟩;have ok:=hokl i x hx;obtain⟨o1,o2,o3⟩:=hop x (List.mem_iff_getElem?.2 ⟨i,hx⟩);have hT:T.length<=200:=by omega
  obtain⟨X,hX⟩:∃ X,T.getD x.x.toNat []=X:=⟨_,rfl⟩;obtain⟨Y,hY⟩:∃ Y,T.getD x.y.toNat []=Y:=⟨_,rfl⟩;have hrl:=row_len a x X Y
  (try conv=>whnf);repeat' (first|(refine⟨_,_,rfl,q0a (by with_reducible assumption),rfl,?_⟩;try conv=>whnf)|fail)
  refine⟨{ e:Nat // e<=a.pre.length/\∀ e',e'<e->impL (a.pre.getD e' []) (evBod a e' x X Y)≠[] },fun e=>[(1,.pv (i64 ev)),(3,.ref 0 0),(8,.ref 2 0),(10,.ref 16 0),(11,.buf 17 (((evRow a x X Y).take e.1).map fpv).length),(25,.pv (fpv c)),(26,.pv (i64 (c.map Nd.pv).length)),(27,.pv (i64 i)),(33,.pv (i64 (a.pre.map fpv).length)),(34,.pv (i64 e.1))],fun _=>18,
   fun e=>(17,.arr 1 (((evRow a x X Y).take e.1).map fpv))::(16,.var x.dvs)::HX a T,fun e=>a.pre.length-e.1,⟨⟨0,Nat.zero_le _,fun e' h=>by omega⟩,?_⟩,?_⟩
  ·have h17:objsOf (HX a T) 17=none:=tabO_no hn (by decide)
   (refine Wk.ofN 2 ?_ ?_ rfl rfl rfl ?_<;>repeat' (first|exact trivial|exact WkD.same _|exact WkO.same _ _ rfl|refine⟨?_,?_⟩|fail))
   ·exact WkD.new' h17 rfl rfl
   ·exact WkO.new _ _ h17
   ·show (match objsOf (HX a T) 17 with|some _=>True|none=>Nat.ble 17 17=true)
    rw[h17];rfl
   ·exact HX_mid hn fun k hk=>push_lt2' hk
  rintro⟨e,hie,hne⟩
  (try conv=>whnf);repeat' (first|((first|apply And.intro|intro h)<;>try conv=>whnf))
  ·have hie':e<a.pre.length:=by simpa using q0j h
   have hpre:a.pre[e]? = some (a.pre.getD e []):=q0f hie';obtain⟨z,hz⟩:∃ z,impL (a.pre.getD e []) (evBod a e x X Y)=z:=⟨_,rfl⟩;have hI:PureFn Tryz.prog 34 [fpv (a.pre.getD e []),fpv (evBod a e x X Y)] (npv z):=hz▸fn_Imp _ _;have hrt:=row_take (a:=a) (x:=x) (X:=X) (Y:=Y) hie';rw[hz] at hrt
   have hB:∀ (M':Nat->Prop) (K':DV->DH->Prop),K' (.pv (fpv (evBod a e x X Y))) ⟨16,0,16,objsOf (HX a T)⟩->DC Tryz.prog M' w0.no 184 [.ref 2 0,.pv (i64 e),.agg x.dvs] ⟨16,0,16,objsOf (HX a T)⟩ K':=fun M' K' hK' =>
    body_dc a fc hA hf ‹a.rel.length<=1000› hp T hT e hie' x (by rw[hl];exact ok) o1 o2 o3 M' _ 16 K' (by rw[hX,hY];exact hK')
   cases z with
   |nil =>
    refine⟨Unit,fun _=>[(13,.pv .nil)],fun _=>18,fun _=>[],?_,?_⟩
    ·refine⟨.one 2 (.one 5 (.one 6 (.one 7 (.two 0 (.two 1 (.two 3 (.two 4 (.one 8 (.one 9 (.one 10 .done))) 8 (.one 4 (.one 9 (.one 10 .done)))) 8 (.one 3 (.one 4 (.one 9 (.one 10 .done))))) 8 (.one 1 (.one 3 (.one 4 (.one 9 (.one 10 .done)))))) 8 (.one 0 (.one 1 (.one 3 (.one 4 (.one 9 (.one 10 .done)))))))))),[8],by kernel_rfl,?_⟩
     (try conv=>whnf);repeat' (first|(apply And.intro<;>try conv=>whnf)|(apply q0i;rfl)|(refine⟨_,_,rfl,q0a (by with_reducible assumption),rfl,?_⟩;try conv=>whnf)|fail)
     all_goals (refine DC.callS 16 (HX a T) (fun k hk=>(push_lt2 hk).symm) (fun q hq=>HT_in hn (Nat.le_refl 16) q hq) rfl rfl rfl hB ?_)
     all_goals ((try conv=>whnf);repeat' (first|(apply And.intro<;>try conv=>whnf)|(apply q0i;rfl)|(refine⟨_,_,rfl,q0a (by with_reducible assumption),rfl,?_⟩;try conv=>whnf)|(refine⟨_,(by (conv=>whnf);exact hI),rfl,?_⟩;try conv=>whnf)|fail))
     all_goals exact⟨(),(by exact Wk.s rfl)⟩
    rintro⟨⟩
    (try conv=>whnf);repeat' (first|(apply And.intro<;>try conv=>whnf)|(intro h;first|with_reducible exact tf0 h|try conv=>whnf))
    have hno:=redE_no (e:=8) hx (by rw[hX,hY];exact evHd_no hie' hz) rfl;rw[he,hno];exact le_nilF _
   |cons z1 zr =>
    refine⟨Unit,fun _=>[(1,.pv (i64 ev)),(3,.ref 0 0),(8,.ref 2 0),(10,.ref 16 0),(11,.buf 17 (((evRow a x X Y).take e).map fpv).length),(13,.pv (fpv (z1::zr))),(25,.pv (fpv c)),(26,.pv (i64 (c.map Nd.pv).length)),(27,.pv (i64 i)),(33,.pv (i64 (a.pre.map fpv).length)),(34,.pv (i64 e))],fun _=>18,
     fun _=>(17,.arr 1 (((evRow a x X Y).take e).map fpv))::(16,.var x.dvs)::HX a T,?_,?_⟩
    ·refine⟨.one 2 (.one 5 (.one 6 (.one 7 (.two 0 (.two 1 (.two 3 (.two 4 (.one 8 (.one 9 (.one 10 .done))) 8 (.one 4 (.one 9 (.one 10 .done)))) 8 (.one 3 (.one 4 (.one 9 (.one 10 .done))))) 8 (.one 1 (.one 3 (.one 4 (.one 9 (.one 10 .done)))))) 8 (.one 0 (.one 1 (.one 3 (.one 4 (.one 9 (.one 10 .done)))))))))),[8],by kernel_rfl,?_⟩
     (try conv=>whnf);repeat' (first|(apply And.intro<;>try conv=>whnf)|(apply q0i;rfl)|(refine⟨_,_,rfl,q0a (by with_reducible assumption),rfl,?_⟩;try conv=>whnf)|fail)
     all_goals (refine DC.callS 16 (HX a T) (fun k hk=>(push_lt2 hk).symm) (fun q hq=>HT_in hn (Nat.le_refl 16) q hq) rfl rfl rfl hB ?_)
     all_goals ((try conv=>whnf);repeat' (first|(apply And.intro<;>try conv=>whnf)|(apply q0i;rfl)|(refine⟨_,_,rfl,q0a (by with_reducible assumption),rfl,?_⟩;try conv=>whnf)|(refine⟨_,(by (conv=>whnf);exact hI),rfl,?_⟩;try conv=>whnf)|fail))
     all_goals (refine⟨(),?_⟩;(refine Wk.ofN 2 ?_ ?_ rfl rfl rfl ?_<;>repeat' (first|exact trivial|exact WkD.same _|exact WkO.same _ _ rfl|refine⟨?_,?_⟩|fail));exact HX_mid hn fun k hk=>push_lt2 hk)
    rintro⟨⟩
    (try conv=>whnf);repeat' (first|(apply And.intro<;>try conv=>whnf)|(intro h;first|with_reducible exact ft0 h|try conv=>whnf)|(apply q0p;rfl)|(apply szI;rfl))
    ·show (((evRow a x X Y).take e).map fpv).length+1<=4294967296
     rw[List.length_map,List.length_take];omega
    ·refine⟨⟨e+1,hie',fun e' he' => ?_⟩,by show a.pre.length-(e+1)<a.pre.length-e;omega,?_⟩
     ·by_cases q:e'=e
      ·rw[q,hz];exact List.cons_ne_nil _ _
      ·exact hne e' (by omega)
     ·(refine Wk.ofN 2 ?_ ?_ rfl rfl rfl ?_<;>repeat' (first|exact trivial|exact WkD.same _|exact WkO.same _ _ rfl|exact WkD.eq (congrArg (fun z:List PV=>DV.buf _ z.length) hrt)|exact WkO.same _ _ (congrArg (fun z=>some (DObj.arr _ z)) hrt)|refine WkD.int ?_|refine⟨?_,?_⟩|(apply q0h;(focus simp;done);all_goals (try dsimp only);omega)|fail))
      exact HX_mid hn fun k hk=>push_lt3 hk
  ·have hie':e=a.pre.length:=by have:=q0k (m:=(a.pre.map fpv).length) h (by simpa using hie);simpa using this
   subst hie'
   have hh:evHd a x (T.getD x.x.toNat []) (T.getD x.y.toNat [])=(evRow a x X Y,0):=by
    rw[hX,hY];exact evHd_yes hne
   have hyes:=redE_yes (z:=evRow a x X Y) (e:=0) hx hh rfl;have htk:((evRow a x X Y).take a.pre.length).map fpv=(evRow a x X Y).map fpv:=by rw[<- hrl,List.take_length]
   obtain⟨row,hrow⟩:∃ row,evRow a x X Y=row:=⟨_,rfl⟩;rw[hrow] at hrl htk hyes;rw[hrow]
   try conv=>whnf
   refine⟨{ e:Nat // e<=a.pre.length },fun e=>[(1,.pv (i64 ev)),(3,.ref 0 0),(8,.ref 2 0),(25,.pv (fpv c)),(26,.pv (i64 (c.map Nd.pv).length)),(27,.pv (i64 i)),(54,.pv (.sl (row.map fpv))),(55,.pv (i64 a.pre.length)),(56,.pv (i64 e.1))],fun _=>18,
    fun e=>HT a a.pre.length (lenM T row e.1) (colM T row e.1),fun e=>a.pre.length-e.1,⟨⟨0,Nat.zero_le _⟩,?_⟩,?_⟩
   ·have h0:HT a a.pre.length (lenM T row 0) (colM T row 0)=HX a T:=HT_congr (fun e _=>by simp[lenM,lenP,colM]) (fun e _=>by simp[colM])
    show Wk _ _ _ _ (HT a a.pre.length (lenM T row 0) (colM T row 0))
    rw[h0];have h17:objsOf (HX a T) 17=none:=tabO_no hn (by decide)
    (refine Wk.ofN 0 ?_ ?_ rfl rfl rfl ?_<;>repeat' (first|exact trivial|exact WkD.same _|refine WkD.int ?_|refine⟨?_,?_⟩|fail))
    ·refine WkD.fz 17 _ _ h17 (.inl ⟨1,?_⟩) (by rw[htk]);exact congrArg (fun z=>some (DObj.arr 1 z)) htk
    ·show (((row.take a.pre.length).map fpv).length:Int)=_
     rw[htk,List.length_map,hrl]
    ·exact HX_mid hn fun k hk=>push_lt2 hk
   rintro⟨e,hie⟩
   (try conv=>whnf);repeat' (first|((first|apply And.intro|intro h)<;>try conv=>whnf))
   ·have hie':e<a.pre.length:=by
     have h2:decide ((e:Int)<((a.pre.length:Nat):Int))=true:=h;have:=of_decide_eq_true h2;omega
    have hr:row[e]? = some (row.getD e []):=q0f (by omega);have hce:colM T row e e=colP T e:=by simp[colM]
    have hget:objsOf (HT a a.pre.length (lenM T row e) (colM T row e)) (e+8)=some (.arr 1 (colP T e)):=by rw[HT_get hie',hce]
    have hle:lenM T row e e=(colP T e).length:=by rw[lenM,hce]
    have hel:e+1<=(tabC a.pre.length (lenM T row e)).length:=by rw[tabC_len];exact hie'
    have hcl:=colP_len T e
    have hnew:∀ (e':Nat),e'<a.pre.length->∀ o:DObj,(bif Nat.beq (e'+8) 1 then some o else bif Nat.beq (e'+8) (e+8) then some (DObj.arr 1 (colP T e++[fpv (row.getD e [])])) else objsOf (HT a a.pre.length (lenM T row e) (colM T row e)) (e'+8))=some (.arr 1 (colM T row (e+1) e')):=fun e' he' o=>by
     rw[z0s (by omega),cond_false]
     by_cases q:e'=e
     ·rw[q,Nat.beq_refl,cond_true,colM_yes]
     ·rw[z0s (by omega),cond_false,HT_get he',colM_no q]
    refine⟨Unit,fun _=>[(1,.pv (i64 ev)),(3,.ref 0 0),(8,.ref 2 0),(25,.pv (fpv c)),(26,.pv (i64 (c.map Nd.pv).length)),(27,.pv (i64 i)),(54,.pv (.sl (row.map fpv))),(55,.pv (i64 a.pre.length)),(56,.pv (i64 e))],fun _=>18,fun _=>HT a a.pre.length (lenM T row (e+1)) (colM T row (e+1)),?_,?_⟩
    ·(try conv=>whnf);repeat' (first|(apply And.intro<;>try conv=>whnf)|(apply q0i;rfl)|(refine⟨_,_,rfl,q0a (by with_reducible assumption),rfl,?_⟩;try conv=>whnf)|fail)
     refine⟨.one 0 (.one 4 (.one 5 (.one 6 (.one 7 (.one 8 (.one 9 (.one 10 (.one 11 (.one 12 (.one 13 (.two 1 (.two 2 (.two 3 (.one 14 (.one 15 (.one 16 .done))) 14 (.one 3 (.one 15 (.one 16 .done)))) 14 (.one 2 (.one 3 (.one 15 (.one 16 .done))))) 14 (.one 1 (.one 2 (.one 3 (.one 15 (.one 16 .done)))))))))))))))),[14,16],by kernel_rfl,?_⟩
     (try conv=>whnf);repeat' (first|(apply And.intro<;>try conv=>whnf)|(apply q0i;rfl))
     ·exact rfl
     refine⟨e,rfl,hie',?_⟩
     try conv=>whnf
     rw[tabC_get hie']
     (try conv=>whnf);repeat' (first|(apply And.intro<;>try conv=>whnf)|(apply q0p;rfl)|(apply szI;rfl))
     all_goals (rw[get_eq (k:=e+8) (o:=some (.arr 1 (colP T e))) hget])
     all_goals ((try conv=>whnf);repeat' (first|(apply And.intro<;>try conv=>whnf)|(apply q0i;rfl)|(apply q0p;rfl)|with_reducible assumption))
     all_goals first
      |exact (show (colP T e).length+1<=4294967296 by omega)
      |exact rfl
      |skip
     all_goals (refine⟨e,rfl,hie',?_⟩;try conv=>whnf)
     all_goals (rw[ble_s (e:=e) (b:=(tabC a.pre.length (lenM T row e)).length) ?_ hel])
     all_goals (try conv=>whnf)
     all_goals first
      |rfl
      |(refine⟨(),?_⟩;(refine Wk.ofN 0 ?_ ?_ rfl rfl rfl ?_<;>repeat' (first|exact trivial|exact WkD.same _|refine⟨?_,?_⟩|fail));refine HT_all (g:=_) hn (by decide) rfl ?_ rfl fun e' he' => ?_)
     all_goals first
      |exact congrArg (fun z=>some (DObj.var z)) (tabC_put (m:=(colP T e++[fpv (row.getD e [])]).length) hie' (by rw[lenM,colM_yes]) (fun e' h=>by rw[lenM,lenM,colM_no h]))
      |exact hnew e' he' .gone
    rintro⟨⟩
    try conv=>whnf
    refine⟨⟨e+1,hie'⟩,by show a.pre.length-(e+1)<a.pre.length-e;omega,?_⟩
    (refine Wk.ofN 0 ?_ ?_ rfl rfl rfl ?_<;>repeat' (first|exact trivial|exact WkD.same _|refine WkD.int ?_|refine⟨?_,?_⟩|(apply q0h;(focus simp;done);all_goals (try dsimp only);omega)|fail))
    exact HT_mid hn (show 16<=18 by decide) fun k hk=>rfl
   ·have hie':e=a.pre.length:=by
     have h2:decide ((e:Int)<((a.pre.length:Nat):Int))=false:=h;have:=of_decide_eq_false h2;omega
    subst hie';have hF:HT a a.pre.length (lenM T row a.pre.length) (colM T row a.pre.length)=HX a (T++[row]):=HT_congr (fun e he=>by rw[lenM,lenP,colM,if_pos he]) (fun e he=>by rw[colM,if_pos he]);refine⟨⟨(i+1,T++[row]),hi',by simp[hl],by rw[he,hyes]⟩,by show c.length-(i+1)<c.length-i;omega,?_⟩
    (refine Wk.ofN 0 ?_ ?_ rfl rfl rfl ?_<;>repeat' (first|exact trivial|exact WkD.same _|refine WkD.int ?_|refine⟨?_,?_⟩|(apply q0h;(focus simp;done);all_goals (try dsimp only);omega)|fail))
    exact HX_back hn fun k hk=>congrFun (congrArg objsOf hF) k
 ·exact rfl
 ·skip
  have hget:objsOf (HX a T) (ev+8)=some (.arr 1 (colP T ev)):=HT_get hev;have hcl:=colP_len T ev;have hi':i=c.length:=by have:=q0k (m:=(c.map Nd.pv).length) h (by simpa using hi);simpa using this
  subst hi';rw[redE_end] at he;refine⟨ev,rfl,hev,?_⟩
  try conv=>whnf
  rw[tabC_get hev]
  try conv=>whnf
  rw[get_eq (k:=ev+8) (o:=some (.arr 1 (colP T ev))) ?_]
  (try conv=>whnf);repeat' (first|(apply And.intro<;>try conv=>whnf)|with_reducible assumption)
  ·exact rfl
  have hw:IntKind.wrap .i64 ((lenP T ev:Int)-1)=((T.length-1:Nat):Int):=by
   rw[lenP,hcl];exact q0h (by omega) (by omega) (by omega)
  refine⟨T.length-1,hw,(show T.length-1<(colP T ev).length by omega),?_⟩
  try conv=>whnf
  rw[get_eq (k:=ev+8) (o:=some (.arr 1 (colP T ev))) ?_]
  (try conv=>whnf);repeat' (first|(apply And.intro<;>try conv=>whnf)|with_reducible assumption)
  ·exact rfl
  refine⟨_,colP_get (show T.length-1<T.length by omega),?_⟩
  try conv=>whnf
  exact le_pairF (a:=((T.getD (T.length-1) []).getD ev [],0)) (by rw[he];rfl)
structure Clo (Q:Int->Int->Int->Int->Bool):Prop where
 tt:Q 1 0 0 0=true
 ff:Q 2 0 0 0=true
 an:Q 5 0 0 0=true
 oo:Q 6 0 0 0=true
 im:Q 7 0 0 0=true
 kn:∀ i e g,Q 9 i e g=true->Q 9 ((i.toNat:Nat):Int) 0 0=true
 po:∀ i e g,Q 10 i e g=true->Q 10 i 0 0=true
 di:∀ i e g,Q 12 i e g=true->Q 12 0 0 g=true
 ev:∀ i e g (j:Nat),Q 11 i e g=true->(and64 (shr64 g j) 1==1)=true->j<4->Q 9 (j:Int) 0 0=true
section
variable {Q:Int->Int->Int->Int->Bool} (hQ:Clo Q)
end
theorem stM_iff {A F:Nat} {op i e g:Int}:stM A F op i e g=true↔(fragN ⟨op,i,e,g,0,0⟩<16/\agN ⟨op,i,e,g,0,0⟩<2^A)/\factN ⟨op,i,e,g,0,0⟩<2^F:=by
 simp only[stM,Bool.and_eq_true,decide_eq_true_eq]
structure SmX (a:Act):Prop where
 fit:Fit a
 rel:a.rel.length<=1000
 post:∀ l,l∈a.post->l.length<=1000
def chkI (a:Act):Int:=actI a (min (a.rel.length:Int) 4) 8
theorem chk_ok {a:Act} (h:chkI a=0):OkA a a.rel.length 8/\actI a a.rel.length 8=0/\a.rel.length<=4/\min (a.rel.length:Int) 4=(a.rel.length:Int):=by
 have hO:=actI_ok h;have h1:=hO.ags;have h2:=hO.agn;have h3:min (a.rel.length:Int) 4=(a.rel.length:Int):=h1;refine⟨?_,?_,h2,h3⟩
 ·rw[h3] at hO;exact hO
 ·rw[chkI,h3] at h;exact h
theorem nd_fit {A F:Nat} {x:Nd} {k:Int} (hk:OkNd x k) (hs:stM A F x.op x.i x.e x.g=true) (hA:A<=4):x.op<=13/\(x.op=9\/x.op=10->x.i.toNat<A)/\(x.op=12->1<=x.g/\x.g<shl64 1 (A:Int)):=by
 obtain⟨⟨h1,h2⟩,_⟩:=stM_iff.1 hs;have ho:=hk.op;refine⟨?_,fun h => ?_,fun h => ?_⟩
 ·have key:∀ op:Nat,op<22->(frag (op:Int)).toNat<16->op<=13:=by decide
  have:=key x.op.toNat (by omega) (by rw[show ((x.op.toNat:Nat):Int)=x.op by omega];exact h1);omega
 ·have h2:agN x<2^A:=h2;rw[agN,show z0r x.op=true by rcases h with h|h<;>rw[h]<;>rfl,cond_true] at h2;exact (Nat.pow_lt_pow_iff_right (by decide:1<2)).1 h2
 ·have h2:agN x<2^A:=h2;rw[agN,show z0r x.op=false by rw[h];rfl,cond_false] at h2;have:=hk.group (by rw[h];rfl);rw[shl_n hA];omega
theorem orN_mm {m:Nd->Nat}:∀ {c:List Nd} {y:Nd},y∈c->m y |||orN m c=orN m c
 |x::r,y,h=>by
  rw[orN_cons]
  rcases List.mem_cons.1 h with rfl|h
  ·rw[<- Nat.or_assoc,Nat.or_self]
  ·rw[<- Nat.or_assoc,Nat.or_comm (m y),Nat.or_assoc,orN_mm h]
theorem no_13 {f:List Nd} (h:(and64 (y0e f:Nat) 8 != 0)=false):∀ x,x∈q0u f->x.op≠13:=fun x hx e=>by
 have hfr:y0e f<2^62:=Nat.lt_of_lt_of_le (frags_lt f) (by decide);have h0:and64 (y0e f:Nat) ((8:Nat):Int)=0:=by simpa using h
 rw[and64_nat hfr (by decide)] at h0;have h0:y0e f&&&8=0:=by omega
 have hin:fragN x |||y0e f=y0e f:=orN_mm hx
 have h8:fragN x=8:=by rw[fragN,e];rfl
 have:(y0e f).testBit 3=true:=by rw[<- hin,Nat.testBit_or,h8];rfl
 have h3:(y0e f&&&8).testBit 3=true:=by rw[Nat.testBit_and,this];rfl
 rw[h0] at h3;exact absurd h3 (by decide)
theorem grp_ok {a:Act} {g:Int} (h:actI a a.rel.length 8=0) (hg:1<=g/\g<shl64 1 (a.rel.length:Int)):badGr a g=false:=by
 rw[badGr,show q0v a=actI a a.rel.length 8 from rfl,h,decide_eq_false (by omega),decide_eq_false (by omega)];rfl
def AftOk (a:Act) (f:List Nd):Prop:=∀ x,x∈q0u f->x.op<=12/\(x.op=9\/x.op=10->x.i.toNat<a.rel.length)/\(x.op=12->badGr a x.g=false)
theorem aft_ok {a:Act} {f:List Nd} {F:Nat} (ha:actI a a.rel.length 8=0) (h4:a.rel.length<=4) (hs:∀ x,x∈q0u f->stM a.rel.length F x.op x.i x.e x.g=true) (hc:(and64 (y0e f:Nat) 8 != 0)=false):AftOk a f:=fun x hx=>by
 obtain⟨k,hk⟩:=okl_mem (z0h f) hx;obtain⟨h1,h2,h3⟩:=nd_fit hk (hs x hx) h4;have:=no_13 hc x hx;exact⟨by omega,h2,fun h=>grp_ok ha (h3 h)⟩
def aftI (a:Act) (ev:Int) (f:List Nd):List Nd×Int :=
 bif chkI a != 0 then ([],chkI a) else bif z0b f != 0 then ([],z0b f) else bif z0p a ev then ([],6)
 else bif (bif !stB f then true else and64 (y0e f:Nat) 8 != 0) then ([],10) else bif !fits f (min (a.rel.length:Int) 4) 8 then ([],2) else aftF a ev.toNat (q0u f)
theorem statI_of {f:List Nd} {A F:Int} (h1:z0b f=0) (h2:stB f=true) (h3:fits f A F=true):z0i A F f=0:=by
 rw[z0i,h1,show (z0v (y0e f:Nat) 15 != 0)=false by
                                  have:z0v (y0e f:Nat) 15=0:=by simpa [stB] using h2
                                  rw[this];rfl,h3];rfl
theorem red_After (a:Act) (ev:Int) (f:List Nd) (hS:SmX a):PureFn Tryz.prog 110 [a.pv,.int .i64 ev,fpv f] (pairF (aftI a ev f)):=by
 have e1:((a.rel.map q0b).length:Int)=(a.rel.length:Int):=by simp
 have e2:((a.pre.map fpv).length:Int)=(a.pre.length:Int):=by simp
 have hC:=ac_Check a (min ((a.rel.map q0b).length:Int) 4) 8 hS.fit hS.rel hS.post;have hCe:actI a (min ((a.rel.map q0b).length:Int) 4) 8=chkI a:=by rw[e1];rfl
 rw[hCe] at hC;have hF:=fm_Fits f (min ((a.rel.map q0b).length:Int) 4) 8;have hFe:fits f (min ((a.rel.map q0b).length:Int) 4) 8=fits f (min (a.rel.length:Int) 4) 8:=by rw[e1]
 rw[hFe] at hF;have hAf:=fun (ev:Nat) hA hev hcf hop=>red_after a 8 hA hS.fit hS.rel hS.post ev hev f hcf hop
 refine PureFn.intro mixed (fn:=Tryz.f110) rfl rfl rfl fun M w0 => ?_
 (try conv=>whnf);repeat' (first|((first|apply And.intro|intro h)<;>try conv=>whnf)|apply True.intro|(apply WhenQ.mk;(try conv=>whnf);rotate_left;(try conv=>whnf);rotate_right)|with_reducible assumption|(apply q0x;with_reducible assumption)|(refine PureFn.dy hC rfl ?_;try conv=>whnf)|(refine PureFn.dcq (f:=86) rfl ?_;try conv=>whnf)|(refine PureFn.dcq (f:=87) rfl ?_;try conv=>whnf)|(refine PureFn.dcq (f:=104) rfl ?_;try conv=>whnf)|(refine⟨_,_,fm_Check ?_,?_,?_⟩;rotate_left 1;(focus refine⟨?_,trivial⟩<;>first|exact PLe.refl _|exact PLe.nil);try conv=>whnf)|(refine⟨_,_,red_static ?_,?_,?_⟩;rotate_left 1;(focus refine⟨?_,trivial⟩<;>first|exact PLe.refl _|exact PLe.nil);try conv=>whnf)|(refine⟨_,_,fm_Frags ?_,?_,?_⟩;rotate_left 1;(focus refine⟨?_,trivial⟩<;>first|exact PLe.refl _|exact PLe.nil);try conv=>whnf)|fail)
 ·rw[aftI,show (chkI a != 0)=true from h];exact le_nilF _
 ·rename_i h1;rw[aftI,show (chkI a != 0)=false from h1,show (z0b f != 0)=true from h];exact le_nilF _
 ·rename_i h1 h2;have hb:z0p a ev=true:=by rw[z0p,<- e2];exact h
  rw[aftI,show (chkI a != 0)=false from h1,show (z0b f != 0)=false from h2,hb];exact le_nilF _
 ·rename_i h1 h2 h3;have hb:z0p a ev=false:=by rw[z0p,<- e2];exact h3
  rw[aftI,show (chkI a != 0)=false from h1,show (z0b f != 0)=false from h2,hb,show (bif !stB f then true else and64 (y0e f:Nat) 8 != 0)=true from h];exact le_nilF _
 ·rename_i h1 h2 h3;have hb:z0p a ev=false:=by rw[z0p,<- e2];exact h3
  have hst:(bif !stB f then true else and64 (y0e f:Nat) 8 != 0)=false:=h
  have hI:∀ b,(!fits f (min (a.rel.length:Int) 4) 8)=b->aftI a ev f=bif b then ([],2) else aftF a ev.toNat (q0u f):=fun b hb2=>by
   rw[aftI,show (chkI a != 0)=false from h1,show (z0b f != 0)=false from h2,hb,hst,hb2];rfl
  obtain⟨k,rfl,hk⟩:=badEv_no hb;have hck:chkI a=0:=by simpa using h1
  have hcf:z0b f=0:=by simpa using h2
  obtain⟨c1,c2,c3,c4⟩:=chk_ok hck
  have hsb:stB f=true:=by
   cases q:stB f with
   |true=>rfl
   |false=>rw[q] at hst;cases hst
  have hc13:(and64 (y0e f:Nat) 8 != 0)=false:=by rw[hsb] at hst;exact hst
  cases hq:(!fits f (min (a.rel.length:Int) 4) 8) with
  |true =>
   have hft:fits f (min (a.rel.length:Int) 4) 8=false:=by simpa using hq
   rw[hft] at hF
   (try conv=>whnf);repeat' (first|(apply And.intro<;>try conv=>whnf)|(intro h;first|with_reducible exact nf0 h|try conv=>whnf)|(refine PureFn.dy hF rfl ?_;try conv=>whnf)|fail)
   rw[hI _ hq];exact le_nilF _
  |false =>
   have hft:fits f (min (a.rel.length:Int) 4) 8=true:=by simpa using hq
   rw[hft] at hF;have hs:z0i (a.rel.length:Nat) (8:Nat) f=0:=statI_of hcf hsb (by rw[c4] at hft;exact hft);have hA:=hAf k c1 hk hcf (aft_ok c2 c3 (statM_iff.1 hs).2 hc13)
   (try conv=>whnf);repeat' (first|(apply And.intro<;>try conv=>whnf)|(intro h;first|with_reducible exact nt0 h|try conv=>whnf)|(refine PureFn.dy hF rfl ?_;try conv=>whnf)|(refine PureFn.dy hA rfl ?_;try conv=>whnf)|fail)
   rw[hI _ hq,Int.toNat_natCast];exact .refl _
end Go.Proofs.YtejbieopeicgkaaGreatDoor
namespace Go.Dv
open Go.RowKit (Below)
section
variable {P:Program}
def PanE (M:Nat->Prop) (r:Except Value PV) (e:Ending) (w':World):Prop :=
 match r with
 |.ok p=>∃ v,e=.returned v/\RelP M w' p v
 |.error x=>e=.panicked [{ v:=x,recovered:=false }]
@[irreducible] def PanFn (P:Program) (f:FuncId) (ps:List PV) (r:Except Value PV):Prop :=
 q0y P f=true/\∀ (M:Nat->Prop) (w:World) (vs:List Value),Glb w->(∀ b,M b->b<w.heap.size)->RelPs M w ps vs ->
  Calls P f ⟨vs⟩ w fun e w'=>Below w.heap.size w w'/\PanE M r e w'
theorem PanFn.elim {f:FuncId} {ps:List PV} {r:Except Value PV} (h:PanFn P f ps r):q0y P f=true/\∀ (M:Nat->Prop) (w:World) (vs:List Value),Glb w->(∀ b,M b->b<w.heap.size)->RelPs M w ps vs ->
  Calls P f ⟨vs⟩ w fun e w'=>Below w.heap.size w w'/\PanE M r e w':=by
 unfold PanFn at h;exact h
theorem PanFn.mk {f:FuncId} {ps:List PV} {r:Except Value PV} (h:q0y P f=true/\∀ (M:Nat->Prop) (w:World) (vs:List Value),Glb w->(∀ b,M b->b<w.heap.size)->RelPs M w ps vs ->
  Calls P f ⟨vs⟩ w fun e w'=>Below w.heap.size w w'/\PanE M r e w'):PanFn P f ps r:=by
 unfold PanFn;exact h
theorem PureFn.pan {f:FuncId} {ps:List PV} {p:PV} (h:PureFn P f ps p):PanFn P f ps (.ok p) :=
 PanFn.mk ⟨h.elim.1,fun M w vs hG hM hrel=>(h.elim.2 M w vs hG hM hrel).mono fun _ _ ⟨v,he,hv,hb⟩=>⟨hb,v,he,hv⟩⟩
theorem PanFn.introC (C:List Nat) (hm:P.follows .mixedOrders=true) {f:FuncId} {fn:Func} {c:Code} {ps:List PV} {r:Except Value PV} (hf:P.funcs[f]? = some fn) (hb:fn.body=some c) (hc:q0y P f=true)
  (h:∀ (M:Nat->Prop) (w:World),vc P M ⟨w,fun v _=>r=.error v⟩ ⟨fn.ntmps,0⟩ C 0 0 c (retQ P fn fun d L'=>frz d { L' with base:=0 } (fun q _=>∃ p,r=.ok p/\PLe q p)) (argEnv (ps.map PV.dv) 0) noHeap) (hC:memB C rangeId=false:=by rfl):PanFn P f ps r:=by
 refine PanFn.mk ⟨hc,fun M w vs hG hM hrel => ?_⟩;have hdc:DC P M ⟨w,fun v _=>r=.error v⟩ f (ps.map PV.dv) noHeap (fun d L'=>frz d L' (fun q _=>∃ p,r=.ok p/\PLe q p)):=DC.introC (L:=noHeap) C hm hf hb hc (h M w) hC;have hr:HR M ⟨w,fun v _=>r=.error v⟩ (fun _=>⟨0,0⟩) noHeap w:=⟨Below.refl _ _,hM,fun k o hk=>(by cases hk),fun k o hk=>(by cases hk),fun k o k' o' hk=>(by cases hk),fun k o hk=>(by cases hk),Nat.le_refl _,Nat.le_refl _,hG⟩
 have hT:∀ b,Tot M (fun _=>⟨0,0⟩) noHeap b->M b:=fun b hb=>by
  rcases hb with hb|⟨k,o,hk,_⟩
  ·exact hb
  ·cases hk
 have hrel':RelPs (Tot M (fun _=>⟨0,0⟩) noHeap) w ps vs:=⟨hrel.1,fun i p v hp hv=>(hrel.2 i p v hp hv).sub hT⟩
 have nw:∀ b,¬ Wbl (fun _=>⟨0,0⟩) noHeap b:=by
  rintro b ⟨k,o,_,hk,_⟩
  cases hk
 refine (hdc.elim.2 _ w vs hr (unders_dv _ ps) hrel'.dv).mono ?_;rintro e w' (⟨v,he,μ',d,L',hK,hr',hv,hu,hs⟩|⟨v,he,μ',L',hX,_,hs⟩)
 ·obtain⟨q,L2,⟨p,hp,hq⟩,hr2,_,h4⟩:=frz_rel d L' v _ hr' hv hu hK;subst hp;exact⟨⟨hs.os,hs.tape,hs.output,hs.size,fun b hb=>hs.same b hb (nw b)⟩,v,he,hq.rel (h4.sub fun b hb=>.inl hb)⟩
 ·have hX:r=.error v:=hX;subst hX;exact⟨⟨hs.os,hs.tape,hs.output,hs.size,fun b hb=>hs.same b hb (nw b)⟩,he⟩
theorem PanFn.dcq {M:Nat->Prop} {w0:W0} {f:FuncId} {args:List DV} {L:DH} {K:DV->DH->Prop} {ps:List PV} {r:Except Value PV} (h:PanFn P f ps r) (hk:frzs args L fun qs L'=>PLes qs ps/\match r with|.ok p=>K p.dv L'|.error v=>w0.X v L'):DC P M w0 f args L K:=by
 refine DC.mk ⟨h.elim.1,fun μ w vs hr hu ⟨hl,hrel⟩ => ?_⟩;obtain⟨qs,L',⟨hle,hK⟩,hr',hs,hql,hqs⟩:=frzs_rel args L vs _ hr hl hrel hu hk;refine (h.elim.2 (Tot M μ L') w vs (hr'.glb.ext hr'.ext) (fun b hb=>Tot.lt hr' hb) (hle.rel ⟨hql,hqs⟩)).mono ?_;rintro e w' ⟨hbl,he⟩;obtain⟨hs2,hr2⟩:=hr'.more hbl
 cases r with
 |ok p =>
  obtain⟨v,rfl,hv⟩:=he;exact .inl ⟨v,rfl,μ,p.dv,L',hK,hr2,dv_rel hv,dv_under _ _,hs.trans hs2⟩
 |error x=>exact .inr ⟨x,he,μ,L',hK,hr2,hs.trans hs2⟩
def endQ (P:Program) (M:Nat->Prop) (w:World) (gn:Func) (c:Code) (a b:DV) (t2 t3:Nat) (v:Value) (L:DH) (K:DH->Prop):Prop :=
 vc P M ⟨w,fun _ _=>False⟩ ⟨gn.ntmps,0⟩ [] L.lo L.next c (fun x _ L'=>match x with|.normal=>K { L' with base:=L.base }|.ret=>K { L' with base:=L.base }|_=>False)
  (upd (upd (argEnv [a,b] 0) (some t3) (.raw v)) (some t2) (.raw v)) { L with base:=L.next }
theorem hr_base {M:Nat->Prop} {w1 w2:W0} (hw:w1.w=w2.w) {L:DH} (b:Nat) (hb:b<=L.next) {μ:Nat->Loc} {w:World} (h:HR M w1 μ L w):HR M w2 μ { L with base:=b } w :=
 (⟨h.ext,h.mlt,h.keys,h.live,h.inj,fun k o hk=>by
   have:=h.obj k o hk
   cases o with
   |var cs =>
    obtain⟨vs,ty,q1,q2,q3⟩:=this;exact⟨vs,ty,q1,q2,fun i d v hi hv=>(q3 i d v hi hv).base b⟩
   |arr=>exact this
   |fz=>exact this
   |gone=>trivial
   |mp=>exact this,hb,h.lob,h.glb⟩:HR M w1 μ { L with base:=b } w).same hw
theorem sim_args {M:Nat->Prop} {w1:W0} {F:Fx} {N:NB} {μ:Nat->Loc} {L:DH} {w:World} {vs:List Value} {args:List DV} (n:Nat) (hF:Mks F [] w) (hN:N.b=0) (hn:N.n=n) (hr:HR M w1 μ L w) (hu:DV.unders L.next args=true) (hrel:RelVs (Tot M μ L) w μ L args vs) :
  Sim F M w1 N μ (argEnv args 0) L { tmps:=⟨vs⟩++Array.replicate (n-(⟨vs⟩:Array Value).size) undef,defers:=[] } w:=by
 refine⟨hr,fun t => ?_,fun t => ?_,hF,by rw[hn];simp;omega,fun t ht=>absurd ht (by omega)⟩
 ·rw[(argEnv_get args 0 t).2 (Nat.zero_le _),Nat.sub_zero]
  cases ha:args[t]? with
  |none=>exact .any _
  |some d =>
   have hlt:=z0a ha;have hvt:vs[t]? = some (vs[t]'(by have:=hrel.1;omega)):=List.getElem?_eq_getElem (by have:=hrel.1;omega)
   have:(⟨vs⟩++Array.replicate (n-(⟨vs⟩:Array Value).size) undef).getD t undef=vs[t]'(by have:=hrel.1;omega):=by
    rw[Array.getD_eq_getD_getElem?,Array.getElem?_append_left (by have:=hrel.1;simp;omega)];simp[hvt]
   rw[this];exact hrel.2 t d _ ha hvt
 ·rw[(argEnv_get args 0 t).2 (Nat.zero_le _),Nat.sub_zero]
  cases ha:args[t]? with
  |none=>rfl
  |some d=>exact unders_iff.1 hu t d ha
theorem stp_base {L L':DH} {μ μ':Nat->Loc} {w w':World} (b:Nat) (hs:Stp { L with base:=b } μ w L' μ' w'):Stp L μ w { L' with base:=L.base } μ' w' :=
 ⟨⟨hs.evo.var,hs.evo.mp,hs.evo.arr,hs.evo.fz⟩,hs.os,hs.tape,hs.output,hs.size,hs.same,hs.blk,hs.next,hs.lo,rfl⟩
theorem cloD {g:FuncId} {gn:Func} {j:Nat} {o0 o1:Oper} {c:Code} {cl:Call} {t2 t3:Nat} {M:Nat->Prop} {w0:W0} {μ:Nat->Loc} {L:DH} {w:World} {va vb:Value} {a b:DV} {K:DH->Prop} {v:Value} {u:FrameMode}
  (hm:P.follows .mixedOrders=true) (hf:P.funcs[g]? = some gn) (hb:gn.body=some (.seq (.region j #[o0,o1] false) c))
  (h0:o0.op=.call cl) (hcl:cl.callee=.builtin .recover) (hg0:o0.guard=none) (hd0:o0.dst=some t3)
  (h1:o1.op=.assign (.tmp t3)) (hg1:o1.guard=none) (hd1:o1.dst=some t2) (hn2:t2<gn.ntmps) (hn3:t3<gn.ntmps) (hres:gn.results = #[])
  (hu:(u=.returning/\v=.nilIface)\/u=.panicking [{ v:=v,recovered:=false }])
  (hr:HR M w0 μ L w) (ha:RelV (Tot M μ L) w μ L a va) (hbv:RelV (Tot M μ L) w μ L b vb) (hua:a.under L.next=true) (hub:b.under L.next=true)
  (hv:endQ P M w0.w gn c a b t2 t3 v L K) :
  CallsD P g #[va,vb] u w fun e u' w'=>(∃ x,e=.returned x)/\settle u'=.returning/\∃ μ' L',K L'/\HR M w0 μ' L' w'/\Stp L μ w L' μ' w':=by
 refine callsD_of_wpS hf hb fun c₀ cs hc=>wpS_seq (wpS_region ?_)
 obtain⟨u1,hu1,hset⟩:∃ u1,(match recoverD (c₀::cs) with|some (x,cs')=>x=v/\cs'={ c₀ with mode:=u1 }::cs|none=>v=.nilIface/\c₀::cs={ c₀ with mode:=u1 }::cs)/\settle u1=.returning:=by
  rcases hu with⟨hu,hv⟩|hu
  ·subst hu;refine⟨.returning,?_,rfl⟩;have:recoverD (c₀::cs)=none:=by simp[recoverD,hc]
   rw[this];exact⟨hv,by rw[<- hc]⟩
  ·subst hu;refine⟨.panicking [{ v:=v,recovered:=true }],?_,rfl⟩;have:recoverD (c₀::cs)=some (v,{ c₀ with mode:=.panicking [{ v:=v,recovered:=true }] }::cs):=by simp[recoverD,hc]
   rw[this];exact⟨rfl,rfl⟩
 have r0:∀ a:Act,(execOp a.eval o0).run P w=.ok .recover w:=fun a=>by rw[run_bi h0 hcl];rfl
 have r1:∀ a:Act,(execOp a.eval o1).run P w=.ok (.value (a.eval (.tmp t3))) w:=fun a=>by simp only[execOp,h1];rfl
 have hwan:∀ (o:Oper) (y:Nat->Option Bool),o.guard=none->Region.wanted o y=true:=fun o y h=>by unfold Region.wanted;rw[h]
 have hrel:RelVs (Tot M μ L) w μ { L with base:=L.next } [a,b] [va,vb]:=⟨rfl,fun i d x hd hx=>by
  match i,hd,hx with
  |0,hd,hx=>simp only[List.getElem?_cons_zero,Option.some.injEq] at hd hx;subst hd;subst hx;exact ha.base L.next
  |1,hd,hx=>simp only[List.getElem?_cons_succ,List.getElem?_cons_zero,Option.some.injEq] at hd hx;subst hd;subst hx;exact hbv.base L.next
  |i+2,hd,hx=>simp at hd⟩
 have hr1:HR M ⟨w0.w,fun _ _=>False⟩ μ { L with base:=L.next } w:=hr_base (w1:=w0) (by rfl) L.next (Nat.le_refl _) hr;have hrefl:Stp { L with base:=L.next } μ w { L with base:=L.next } μ w:=Stp.refl _ μ w fun k o hk=>(hr.keys k o hk).1
 have s0:Sim ⟨[],fun _=>undef,none⟩ M ⟨w0.w,fun _ _=>False⟩ ⟨gn.ntmps,0⟩ μ (argEnv [a,b] 0) { L with base:=L.next } { tmps := #[va,vb]++Array.replicate (gn.ntmps-(#[va,vb]:Array Value).size) undef,defers:=[] } w :=
  sim_args (vs:=[va,vb]) gn.ntmps rfl rfl rfl hr1 (by simp only[DV.unders,hua,hub,Bool.and_true]) hrel
 have s1:=s0.step (dst:=some t3) (d:=.raw v) (v:=v) hrefl hr1 (.raw v) rfl (by simp[okDst,hn3]);have s2:=s1.step (dst:=some t2) (d:=.raw v) (v:=v) hrefl hr1 (.raw v) rfl (by simp[okDst,hn2]);have hrun:=wpIn_wide.1 (vc_sound (P:=P) (M:=M) (w0:=⟨w0.w,fun _ _=>False⟩) (N:=⟨gn.ntmps,0⟩) hm [] c none ⟨[],fun _=>undef,none⟩ L.lo L.next { L with base:=L.next } μ w (Nat.le_refl _) (fun hh=>by cases hh) _ _ _ μ _ w hv s2 hrefl rfl rfl);generalize ({ tmps := #[va,vb]++Array.replicate (gn.ntmps-(#[va,vb]:Array Value).size) undef,defers:=[] }:Act)=A at s0 s1 s2 hrun |-
 have hev:(A.put (some t3) v).eval (.tmp t3)=v:=by
  show (A.put (some t3) v).tmps.getD t3 undef=v
  rw[getD_put A t3 t3 v (Nat.lt_of_lt_of_le hn3 s0.size),if_pos rfl]
 have go:c.wpS P (bodyPostS P gn c₀ cs fun e u' w'=>(∃ x,e=.returned x)/\settle u'=.returning/\∃ μ' L',K L'/\HR M w0 μ' L' w'/\Stp L μ w L' μ' w') ((A.put (some t3) v).put (some t2) v) ({ c₀ with mode:=u1 }::cs) w:=by
  refine wpS_of_wp (wp_mono hrun ?_)
  have fin:∀ a' w' μ' e' L',Sim ⟨[],fun _=>undef,none⟩ M ⟨w0.w,fun _ _=>False⟩ ⟨gn.ntmps,0⟩ μ' e' L' a' w'->Stp { L with base:=L.next } μ w L' μ' w'->K { L' with base:=L.base } ->
    a'.defers=[]/\∃ u',{ c₀ with mode:=u1 }::cs={ c₀ with mode:=u' }::cs/\∃ x,(results gn a'.tmps).run P w'=.ok x w'/\(∃ y,(Ending.returned x)=.returned y)/\settle u'=.returning/\∃ μ' L',K L'/\HR M w0 μ' L' w'/\Stp L μ w L' μ' w':=by
   intro a' w' μ' e' L' h' hs' hK;refine⟨h'.defers,u1,rfl,.tuple #[],?_,⟨_,rfl⟩,hset,μ',_,hK,hr_base (w1:=⟨w0.w,fun _ _=>False⟩) (by rfl) L.base (Nat.le_trans hr.base hs'.next) h'.hr,stp_base _ hs'⟩;simp[results,hres]
  intro x a' w' hz
  cases x with
  |normal =>
   obtain⟨μ',e',L',h',hs',_,_,hq⟩:=hz;exact fin a' w' μ' e' L' h' hs' hq
  |ret =>
   obtain⟨μ',e',L',h',hs',_,_,hq⟩:=hz;exact fin a' w' μ' e' L' h' hs' hq
  |panic ch =>
   obtain⟨_,_,_,_,_,_,h1,_⟩:=hz;exact h1.elim
  |_ =>
   obtain⟨μ',e',L',h',hs',_,_,hq⟩:=hz;exact hq.elim
 show wpOpsS P #[o0,o1] _ [0,1] _ _ _
 simp only[wpOpsS,List.getElem?_toArray,List.getElem?_cons_zero,List.getElem?_cons_succ,hwan o0 _ hg0,hwan o1 _ hg1,r0,r1,if_true,Oper.upon,hd0,hd1]
 cases hrec:recoverD (c₀::cs) with
 |none =>
  rw[hrec] at hu1;obtain⟨e1,e2⟩:=hu1;simp only;rw[<- e1,hev,e2];exact go
 |some q =>
  obtain⟨x,cs'⟩:=q;rw[hrec] at hu1;obtain⟨e1,e2⟩:=hu1;simp only;subst e1;rw[hev,e2];exact go
theorem stp_re {L L':DH} {μ μ':Nat->Loc} {w w':World} (b:Nat) (hs:Stp L μ w L' μ' w'):Stp { L with base:=b } μ w { L' with base:=b } μ' w' :=
 ⟨⟨hs.evo.var,hs.evo.mp,hs.evo.arr,hs.evo.fz⟩,hs.os,hs.tape,hs.output,hs.size,hs.same,hs.blk,hs.next,hs.lo,rfl⟩
def two (dx dy:DV) (x y:Nat):Env:=fun t=>bif Nat.beq t x then dx else bif Nat.beq t y then dy else .any
def endR (P:Program) (M:Nat->Prop) (w:World) (fn gn:Func) (c:Code) (dx dy:DV) (x y t2 t3 b0:Nat) (K:DV->DH->Prop) (v:Value) (L:DH):Prop :=
 endQ P M w gn c dx dy t2 t3 v L fun L3=>resV P (two dx dy x y) L3 fn.results.toList fun ds=>match ds with|[d]=>K d { L3 with base:=b0 }|ds=>K (.tup ds) { L3 with base:=b0 }
theorem DC.introD {M:Nat->Prop} {w0:W0} (C:List Nat) (B:Nat) (hm:P.follows .mixedOrders=true) {f g:FuncId} {fn gn:Func} {r0 rest c:Code} {id j:Nat} {o0 o1 p0 p1:Oper} {cd cl:Call} {x y tc t2 t3:Nat} {args:List DV} {L:DH} {K:DV->DH->Prop}
  (hf:P.funcs[f]? = some fn) (hb:fn.body=some (.seq r0 (.seq (.region id #[o0,o1] false) rest))) (hc:q0y P f=true)
  (h0:o0.op=.makeFunc (.func g) #[] #[.tmp x,.tmp y]) (g0:o0.guard=none) (d0:o0.dst=some tc) (htc:tc<fn.ntmps) (hB:B<=tc) (hx:x<B) (hy:y<B)
  (h1:o1.op=.defer cd) (hcd:cd.callee=.value (.tmp tc)) (had:cd.args = #[]) (g1:o1.guard=none) (d1:o1.dst=none)
  (hgf:P.funcs[g]? = some gn) (hgb:gn.body=some (.seq (.region j #[p0,p1] false) c)) (hgc:q0y P g=true)
  (k0:p0.op=.call cl) (hcl:cl.callee=.builtin .recover) (e0:p0.guard=none) (f0:p0.dst=some t3)
  (k1:p1.op=.assign (.tmp t3)) (e1:p1.guard=none) (f1:p1.dst=some t2) (hn2:t2<gn.ntmps) (hn3:t3<gn.ntmps) (hres:gn.results = #[])
  (h:vc P M ⟨w0.w,fun _ _=>False⟩ ⟨fn.ntmps,0⟩ C L.lo L.next r0 (fun q e L1=>match q with
   |.normal=>∃ (nb:Nat) (dx dy:DV),L1.next=nb/\e x=dx/\e y=dy/\vc P M ⟨w0.w,endR P M w0.w fn gn c dx dy x y t2 t3 L.base K⟩ ⟨fn.ntmps,B⟩ C L.lo nb rest (fun q _ L2=>match q with
    |.normal=>endR P M w0.w fn gn c dx dy x y t2 t3 L.base K .nilIface L2
    |.ret=>endR P M w0.w fn gn c dx dy x y t2 t3 L.base K .nilIface L2
    |_=>False) (upd e (some tc) (.clo g [] [dx,dy])) { L1 with base:=nb }
   |_=>False) (argEnv args 0) { L with base:=L.next }) (hC:memB C rangeId=false:=by rfl):DC P M w0 f args L K:=by
 refine DC.mk ⟨hc,fun μ w vs hr hu hrel => ?_⟩;refine calls_of_wp_defers hf hb (wp_seq ?_);have hr0:HR M ⟨w0.w,fun _ _=>False⟩ μ { L with base:=L.next } w:=hr_base (w1:=w0) (by rfl) L.next (Nat.le_refl _) hr;have hrel0:RelVs (Tot M μ L) w μ { L with base:=L.next } args vs:=⟨hrel.1,fun i d v hd hv=>(hrel.2 i d v hd hv).base L.next⟩;have s0:Sim ⟨[],fun _=>undef,none⟩ M ⟨w0.w,fun _ _=>False⟩ ⟨fn.ntmps,0⟩ μ (argEnv args 0) { L with base:=L.next } { tmps:=⟨vs⟩++Array.replicate (fn.ntmps-(⟨vs⟩:Array Value).size) undef,defers:=[] } w:=sim_args fn.ntmps rfl rfl rfl hr0 hu hrel0;have hrefl:Stp { L with base:=L.next } μ w { L with base:=L.next } μ w:=Stp.refl _ μ w fun k o hk=>(hr.keys k o hk).1
 have hA:=wpIn_wide.1 (vc_sound (P:=P) (M:=M) (w0:=⟨w0.w,fun _ _=>False⟩) (N:=⟨fn.ntmps,0⟩) hm C r0 none ⟨[],fun _=>undef,none⟩ L.lo L.next { L with base:=L.next } μ w (Nat.le_refl _) (fun hh=>by rw[hC] at hh;cases hh) _ _ _ μ _ w h s0 hrefl rfl rfl);refine wp_mono hA ?_;clear hA s0 hrefl;have hwan:∀ (o:Oper) (y:Nat->Option Bool),o.guard=none->Region.wanted o y=true:=fun o y h=>by unfold Region.wanted;rw[h]
 intro q a1 w1 hz
 cases q with
 |normal =>
  obtain⟨μ1,e,L1,s1,st1,lo1,b1,nb,dx,dy,rfl,rfl,rfl,hq⟩:=hz;refine wp_seq (wp_region ?_);have hvx:=s1.env x;have hvy:=s1.env y;have hux:=s1.und x;have huy:=s1.und y;obtain⟨vx,hvxe⟩:∃ v,a1.tmps.getD x undef=v:=⟨_,rfl⟩;obtain⟨vy,hvye⟩:∃ v,a1.tmps.getD y undef=v:=⟨_,rfl⟩;rw[hvxe] at hvx;rw[hvye] at hvy;have htl:tc<a1.tmps.size:=Nat.lt_of_lt_of_le htc s1.size;obtain⟨vf,hvf⟩:∃ vf,vf=Value.func (.func g) #[] #[vx,vy]:=⟨_,rfl⟩
  have r0':(execOp a1.eval o0).run P w1=.ok (.value vf) w1:=by
   have ex:a1.eval (.tmp x)=vx:=hvxe;have ey:a1.eval (.tmp y)=vy:=hvye;simp[execOp,h0,Instr.makeFunc,ex,ey,hvf]
  have htcv:(a1.put (some tc) vf).eval (.tmp tc)=vf:=by
   show (a1.put (some tc) vf).tmps.getD tc undef=vf
   rw[getD_put a1 tc tc vf htl,if_pos rfl]
  have r1':(execOp (a1.put (some tc) vf).eval o1).run P w1=.ok (.defer { target:=.fn (.func g) #[vx,vy],args := #[] }) w1:=by
   have e9:(a1.put (some tc) vf).eval (.tmp tc)=.func (.func g) #[] #[vx,vy]:=htcv.trans hvf;simp[execOp,h1,resolve,hcd,had,Deferred.ofValue,e9]
  have hst1:Stp L μ w { L1 with base:=L.base } μ1 w1:=stp_base _ st1;have hrL1:HR M ⟨w0.w,endR P M w0.w fn gn c (e x) (e y) x y t2 t3 L.base K⟩ μ1 { L1 with base:=L1.next } w1:=hr_base (w1:=⟨w0.w,fun _ _=>False⟩) (by rfl) L1.next (Nat.le_refl _) s1.hr;have hrefl1:Stp { L1 with base:=L1.next } μ1 w1 { L1 with base:=L1.next } μ1 w1:=Stp.refl _ μ1 w1 fun k o hk=>(s1.hr.keys k o hk).1
  have hclo:RelV (Tot M μ1 L1) w1 μ1 L1 (.clo g [] [e x,e y]) vf:=by
   rw[hvf];refine .clo g [] [e x,e y] [] [vx,vy] rfl rfl (fun i d v hd _=>by simp at hd) (fun i d v hd hv => ?_)
   match i,hd,hv with
   |0,hd,hv=>simp only[List.getElem?_cons_zero,Option.some.injEq] at hd hv;subst hd;subst hv;exact hvx
   |1,hd,hv=>simp only[List.getElem?_cons_succ,List.getElem?_cons_zero,Option.some.injEq] at hd hv;subst hd;subst hv;exact hvy
   |i+2,hd,hv=>simp at hd
  have s2:=s1.step (dst:=some tc) (d:=.clo g [] [e x,e y]) (v:=vf) (Stp.refl L1 μ1 w1 fun k o hk=>(s1.hr.keys k o hk).1) s1.hr hclo (by simp only[DV.under,DV.unders,hux,huy,Bool.and_true]) (by simp[okDst,htc])
  have s3:Sim ⟨[{ target:=.fn (.func g) #[vx,vy],args := #[] }],fun t=>a1.tmps.getD t undef,none⟩ M ⟨w0.w,endR P M w0.w fn gn c (e x) (e y) x y t2 t3 L.base K⟩ ⟨fn.ntmps,B⟩ μ1 (upd e (some tc) (.clo g [] [e x,e y])) { L1 with base:=L1.next }
    ({ a1.put (some tc) vf with defers:={ target:=.fn (.func g) #[vx,vy],args := #[] }::(a1.put (some tc) vf).defers }) w1:=by
   refine⟨hrL1,fun t=>(s2.env t).base _,fun t=>s2.und t,?_,s2.size,fun t ht => ?_⟩
   ·show _::a1.defers=_
    rw[show a1.defers=[] from s1.defers]
   ·show (a1.put (some tc) vf).tmps.getD t undef=_
    rw[getD_put a1 tc t vf htl,if_neg (by have ht:t<B:=ht;omega)]
  have hrun:=wpIn_wide.1 (vc_sound (P:=P) (M:=M) hm C rest none _ L.lo L1.next { L1 with base:=L1.next } μ1 w1 (Nat.le_refl _) (fun hh=>by rw[hC] at hh;cases hh) _ _ _ μ1 _ w1 hq s3 hrefl1 lo1 rfl)
  have fin:∀ (a':Act) (w2:World) (μ2:Nat->Loc) (L2:DH) (u:FrameMode) (v:Value),((u=.returning/\v=.nilIface)\/u=.panicking [{ v:=v,recovered:=false }]) ->
    a'.defers=[{ target:=.fn (.func g) #[vx,vy],args := #[] }]->(∀ t,t<B->a'.tmps.getD t undef=a1.tmps.getD t undef)->endR P M w0.w fn gn c (e x) (e y) x y t2 t3 L.base K v L2 ->
    HR M ⟨w0.w,endR P M w0.w fn gn c (e x) (e y) x y t2 t3 L.base K⟩ μ2 L2 w2->Stp { L1 with base:=L1.next } μ1 w1 L2 μ2 w2->Leaves P fn a'.tmps (Fin M w0 μ L w K) a'.defers u w2:=by
   intro a' w2 μ2 L2 u v hu2 hd hfix hE hr2 st2;rw[hd];have hx2:=(hvx.base L1.next).stp st2 hux;have hy2:=(hvy.base L1.next).stp st2 huy;have hux2:=DV.under_mono st2.next _ hux;have huy2:=DV.under_mono st2.next _ huy
   have hinv:(invoke (.fn (.func g) #[vx,vy]) #[]).run P w2=.ok (.enter g #[vx,vy]) w2:=by
    unfold q0y at hgc;rw[hgf] at hgc;simp only[Bool.and_eq_true,Bool.not_eq_true'] at hgc;have q2:gn.body.isNone=false:=by rw[hgb];rfl
    simp only[invoke,callFunc,Sem.run_bind,run_program,Result.andThen_ok,hgf,hgc.1,q2,Bool.false_eq_true,if_false,Sem.run_pure];rfl
   have hne:u≠.run:=by
    rcases hu2 with⟨h,_⟩|h<;>rw[h]<;>intro h<;>cases h
   refine leaves_cons hne hinv ((cloD hm hgf hgb k0 hcl e0 f0 k1 e1 f1 hn2 hn3 hres hu2 hr2 hx2 hy2 hux2 huy2 hE).mono ?_);rintro en u' w3 ⟨⟨z,rfl⟩,hset,μ3,L3,hR,hr3,st3⟩
   show Leaves P fn a'.tmps _ [] (settle u') w3
   rw[hset];have hx3:=hx2.stp st3 hux2;have hy3:=hy2.stp st3 huy2;have hux3:=DV.under_mono st3.next _ hux2;have huy3:=DV.under_mono st3.next _ huy2
   have hS:Sim ⟨a'.defers,fun _=>undef,none⟩ M w0 ⟨0,0⟩ μ3 (two (e x) (e y) x y) L3 a' w3:=by
    refine⟨hr3.same rfl,fun t => ?_,fun t => ?_,rfl,Nat.zero_le _,fun t ht=>absurd ht (Nat.not_lt_zero t)⟩
    ·unfold two
     cases ht:Nat.beq t x with
     |true=>rw[Nat.eq_of_beq_eq_true ht,hfix x hx,hvxe];exact hx3
     |false =>
      cases ht':Nat.beq t y with
      |true=>rw[Nat.eq_of_beq_eq_true ht',hfix y hy,hvye];exact hy3
      |false=>exact .any _
    ·unfold two
     cases ht:Nat.beq t x with
     |true=>exact hux3
     |false =>
      cases ht':Nat.beq t y with
      |true=>exact huy3
      |false=>rfl
   obtain⟨d,v',q1,q2,q3,q4⟩:=results_run (K:=fun d L'=>K d { L' with base:=L.base }) hS hR;have st4:Stp { { L1 with base:=L1.next } with base:=L.base } μ1 w1 { L3 with base:=L.base } μ3 w3:=stp_re L.base (st2.trans st3);have hfin:Stp L μ w { L3 with base:=L.base } μ3 w3:=hst1.trans st4;have hrf:HR M w0 μ3 { L3 with base:=L.base } w3:=hr_base (L:=L3) (w1:=⟨w0.w,endR P M w0.w fn gn c (e x) (e y) x y t2 t3 L.base K⟩) (by rfl) L.base (Nat.le_trans hr.base hfin.next) hr3;exact⟨v',q2,.inl ⟨v',rfl,μ3,d,{ L3 with base:=L.base },q1,hrf,q3.base L.base,q4,hfin⟩⟩
  show wpOps P #[o0,o1] _ [0,1] _ _
  simp only[wpOps,List.getElem?_toArray,List.getElem?_cons_zero,List.getElem?_cons_succ,hwan o0 _ g0,hwan o1 _ g1,if_true];refine .inl ?_;unfold Oper.wp;rw[r0'];simp only[Oper.upon,d0];rw[r1'];simp only[d1];refine .inl ?_
  show Code.wp P rest _ _ _
  refine wp_mono hrun ?_;intro q a' w2 hz
  cases q with
  |normal =>
   obtain⟨μ2,e2,L2,h2,st2,_,_,hE⟩:=hz;exact fin a' w2 μ2 L2 _ _ (.inl ⟨rfl,rfl⟩) h2.defers h2.fix hE h2.hr st2
  |ret =>
   obtain⟨μ2,e2,L2,h2,st2,_,_,hE⟩:=hz;exact fin a' w2 μ2 L2 _ _ (.inl ⟨rfl,rfl⟩) h2.defers h2.fix hE h2.hr st2
  |panic ch =>
   obtain⟨hd,hfix,v,μ2,L2,rfl,hX,hr2,st2⟩:=hz;exact fin a' w2 μ2 L2 _ v (.inr rfl) (hd rfl) hfix hX hr2 st2
  |_ =>
   obtain⟨μ2,e2,L2,h2,st2,_,_,hE⟩:=hz;exact hE.elim
 |panic ch =>
  obtain⟨_,_,_,_,_,_,h1,_⟩:=hz;exact h1.elim
 |_ =>
  obtain⟨μ2,e2,L2,h2,st2,_,_,hE⟩:=hz;exact hE.elim
theorem PureFn.ofDC {f:FuncId} {ps:List PV} {p:PV} (hc:q0y P f=true) (h:∀ (M:Nat->Prop) (w:World),DC P M ⟨w,fun _ _=>False⟩ f (ps.map PV.dv) noHeap fun d L'=>frz d L' fun q _=>PLe q p):PureFn P f ps p:=by
 refine PureFn.mk ⟨hc,fun M w vs hG hM hrel => ?_⟩;have hr:HR M ⟨w,fun _ _=>False⟩ (fun _=>⟨0,0⟩) noHeap w:=⟨Below.refl _ _,hM,fun k o hk=>(by cases hk),fun k o hk=>(by cases hk),fun k o k' o' hk=>(by cases hk),fun k o hk=>(by cases hk),Nat.le_refl _,Nat.le_refl _,hG⟩
 have hT:∀ b,Tot M (fun _=>⟨0,0⟩) noHeap b->M b:=fun b hb=>by
  rcases hb with hb|⟨k,o,hk,_⟩
  ·exact hb
  ·cases hk
 have hrel':RelPs (Tot M (fun _=>⟨0,0⟩) noHeap) w ps vs:=⟨hrel.1,fun i p v hp hv=>(hrel.2 i p v hp hv).sub hT⟩;refine ((h M w).elim.2 _ w vs hr (unders_dv _ ps) hrel'.dv).mono ?_;rintro e w' (⟨v,he,μ',d,L',hK,hr',hv,hu,hs⟩|⟨v,_,μ',L',hX,_⟩)
 case inr=>exact hX.elim
 refine⟨v,he,?_,⟨hs.os,hs.tape,hs.output,hs.size,fun b hb=>hs.same b hb ?_⟩⟩
 ·obtain⟨q,L2,hq,hr2,_,h4⟩:=frz_rel d L' v _ hr' hv hu hK;exact hq.rel (h4.sub fun b hb=>.inl hb)
 ·rintro⟨k,o,_,hk,_⟩
  cases hk
def Plan.ofL:List Nat->Plan
 | []=>.done
 |i::r=>.one i (Plan.ofL r)
theorem ExtV.put {L:DH} {k:Nat} {o:DObj} (h:∀ cs,L.get k=some (.var cs)->False):ExtV L (L.put k o):=by
 intro j cs hj
 by_cases e:j=k
 ·subst e;exact absurd hj (h cs)
 ·rw[DH.put_ne L o e];exact hj
end
end Go.Dv
