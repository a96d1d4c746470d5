/- Parts of the proof, one after the other: Formulas: Sub, Compact, Size of both sides. Formulas: equality and order of both sides. Formulas: the canonical list is without error; depth, fragments, facts, agents (plain). Formulas: fragments, facts, agents of both sides. Formulas: Fits of both sides. Formulas: build. Formulas: constructors, Subs. Formulas: the canonical list depends on the tree alone (plain). Formulas: canonical lists and constructors by their trees (plain). Formulas: the examples of the laws. Formulas: All and Any of both sides; the law FormulaJoins walked. Belief sets: bits of numbers, sets of valuations (plain). Belief sets: distances (plain). Belief sets: the value of a formula at a valuation (plain). Formulas: the law FormulaBuilds walked. Formulas: a canonical list is what its last node's constructor makes of its operands (plain). Formulas: the value of a formula by its tree; small formulas (plain). Action models: their values; errors, relations and models of usual messages (plain). Messages: errors and perceptions of the program walked. Messages: Change of the program walked; Public and Skip of action models. Messages: Look of the program walked. Messages: the comparisons of action models with themselves, walked. Action models: errors (plain). -/
import Derived.Test.YtejbieopeicgkaaGreatDoorM4
set_option maxRecDepth 100000
set_option maxHeartbeats 4000000
namespace Go.Proofs.YtejbieopeicgkaaGreatDoor
open Go Go.Dv
theorem fm_Sub (f:List Nd) (node:Int):PureFn Tryz.prog 109 [fpv f,.int .i64 node] (fpv (sub f node)):=by
 refine PureFn.intro mixed (fn:=Tryz.f109) rfl rfl rfl fun M w0 => ?_
 (try conv=>whnf);repeat' (first|(apply And.intro<;>try conv=>whnf)|(intro h;try conv=>whnf)|apply True.intro|(apply WhenQ.mk;(try conv=>whnf);rotate_left;(try conv=>whnf);rotate_right)|with_reducible assumption|(apply not_of;with_reducible assumption)|(refine PureFn.dcq (f:=86) rfl ?_;try conv=>whnf)|(refine⟨_,_,fm_Check ?_,?_,?_⟩;rotate_left 1;(focus first|(refine⟨?_,trivial⟩<;>first|exact PLe.refl _|exact PLe.nil)|exact trivial);try conv=>whnf)|fail)
 ·rw[sub_no h];exact .nil
 ·obtain⟨hc,k,rfl,hk,hs⟩:=sub_yes h
  have hcomp:=fm_compact f k (check_wf hc) hk (by have:=(check_ok hc).2.1;omega)
  (try conv=>whnf);repeat' (first|(refine PureFn.dy hcomp rfl ?_;try conv=>whnf)|fail)
  rw[hs];exact .refl _
theorem comp_wrap (f:List Nd):sub f (IntKind.wrap .i64 (((f.map Nd.pv).length:Int)-1))=comp f:=by
 rw[List.length_map]
 by_cases h:f.length≤200
 ·rw[wrap_small (by omega) (by omega)];rfl
 ·have hc:(check f != 0)=true:=by
   cases hb:(check f != 0) with
   |true=>rfl
   |false=>exact absurd (check_ok (by simpa using hb)).2.1 h
  rw[comp,sub,sub,hc];rfl
theorem fm_Compact (f:List Nd):PureFn Tryz.prog 68 [fpv f] (fpv (comp f)):=by
 refine PureFn.intro mixed (fn:=Tryz.f68) rfl rfl rfl fun M w0 => ?_
 (try conv=>whnf);repeat' (first|(refine PureFn.dcq (f:=109) rfl ?_;try conv=>whnf)|(refine⟨_,_,fm_Sub ?_ ?_,?_,?_⟩;rotate_left 2;(focus first|(refine⟨?_,?_,trivial⟩<;>first|exact PLe.refl _|exact PLe.nil)|exact trivial);try conv=>whnf)|fail)
 exact comp_wrap f▸.refl _
def flds (n:Nd):List Int:=[n.op,n.i,n.e,n.g,n.x,n.y]
theorem take_eq {a b:List Nd} {i:Nat} (h:a.take i=b.take i) (hl:a.length=b.length) (hi:i<a.length):(a[i]=b[i]'(by omega)→a.take (i+1)=b.take (i+1))∧(¬ a[i]=b[i]'(by omega)→¬ a=b):=by
 refine⟨fun e => ?_,fun e q=>e (by subst q;rfl)⟩
 rw[List.take_succ_eq_append_getElem hi,List.take_succ_eq_append_getElem (by omega),h,e]
theorem ref_Equal (a b:List Nd) (ha:a.length≤1000000):PureFn Tryz.prog 67 [fpv a,fpv b] (.bool (decide (a=b))):=by
 refine PureFn.intro mixed (fn:=Tryz.f67) rfl rfl rfl fun M w0 => ?_
 (try conv=>whnf);repeat' (first|(apply And.intro<;>try conv=>whnf)|(intro h;try conv=>whnf)|fail)
 ·refine le_bool ?_
  have:¬ a.length=b.length:=by simp at h;omega
  exact (decide_eq_false fun e=>this (by rw[e])).symm
 ·have hl:a.length=b.length:=by simp at h;omega
  refine⟨{ i:Nat // i≤a.length∧a.take i=b.take i },fun i=>[(0,.pv (fpv a)),(1,.pv (fpv b)),(5,.pv (.int .i64 (i.1:Nat)))],fun _=>0,fun _=>[],fun i=>a.length-i.1,
   ⟨⟨0,Nat.zero_le _,rfl⟩,(by exact Wk.sm rfl rfl rfl rfl rfl)⟩,?_⟩
  rintro⟨i,hi,he⟩
  (try conv=>whnf);repeat' (first|(apply And.intro<;>try conv=>whnf)|(intro h;try conv=>whnf)|(apply infoT;rfl)|(refine lin_plan (by kernel_rfl) ?_;try conv=>whnf)|fail)
  ·have hi':i<a.length:=by simpa using h
   have hn:a[i]? = some a[i]:=List.getElem?_eq_getElem hi'
   have hm:b[i]? = some (b[i]'(by omega)):=List.getElem?_eq_getElem (by omega)
   obtain⟨t1,t2⟩:=take_eq he hl hi'
   (try conv=>whnf);repeat' (first|(apply And.intro<;>try conv=>whnf)|(intro h;try conv=>whnf)|(apply infoT;rfl)|(apply fitI;rfl)|(apply guardI;kernel_rfl)|(refine⟨_,_,rfl,idx_map (by with_reducible assumption),rfl,?_⟩;try conv=>whnf)|fail)
   ·refine le_bool ?_
    have hx:¬ a[i]=b[i]'(by omega):=by have:=(congrArg not (eqPVs_nd a[i] (b[i]'(by omega)))).symm.trans h;simpa using this
    exact (decide_eq_false (t2 hx)).symm
   ·have hx:a[i]=b[i]'(by omega):=by have:=(congrArg not (eqPVs_nd a[i] (b[i]'(by omega)))).symm.trans h;simpa using this
    exact⟨⟨i+1,hi',t1 hx⟩,by show a.length-(i+1)<a.length-i;omega,(by refine Wk.of ?_ ?_ rfl rfl rfl<;>repeat' (first|exact trivial|exact WkD.same _|refine WkD.int ?_|refine⟨?_,?_⟩|(refine wrapA ?_ ?_ ?_;(focus simp;done);(focus (try dsimp only);omega);(focus (try dsimp only);omega))|fail))⟩
  ·have hi':¬ i<a.length:=by simpa using h
   refine le_bool ?_
   rw[List.take_of_length_le (by omega),List.take_of_length_le (by omega)] at he
   exact (decide_eq_true he).symm
theorem sl_Equal (a b:List Nd) (ha:a.length≤1000000):PureFn Tryz.prog 90 [fpv a,fpv b] (.bool (decide (a=b))):=by
 refine PureFn.intro mixed (fn:=Tryz.f90) rfl rfl rfl fun M w0 => ?_
 (try conv=>whnf);repeat' (first|(apply And.intro<;>try conv=>whnf)|(intro h;try conv=>whnf)|fail)
 ·refine le_bool ?_
  have:¬ a.length=b.length:=by simp at h;omega
  exact (decide_eq_false fun e=>this (by rw[e])).symm
 ·have hl:a.length=b.length:=by simp at h;omega
  refine⟨{ i:Nat // i≤a.length∧a.take i=b.take i },fun i=>[(0,.pv (fpv a)),(1,.pv (fpv b)),(12,.pv (.int .i64 (a.map Nd.pv).length)),(13,.pv (.int .i64 (i.1:Nat)))],fun _=>0,fun _=>[],fun i=>a.length-i.1,
   ⟨⟨0,Nat.zero_le _,rfl⟩,(by exact Wk.sm rfl rfl rfl rfl rfl)⟩,?_⟩
  rintro⟨i,hi,he⟩
  (try conv=>whnf);repeat' (first|(apply And.intro<;>try conv=>whnf)|(intro h;try conv=>whnf)|(apply infoT;rfl)|(refine lin_plan (by kernel_rfl) ?_;try conv=>whnf)|fail)
  ·have hi':i<a.length:=by simpa using h
   have hn:a[i]? = some a[i]:=List.getElem?_eq_getElem hi'
   have hm:b[i]? = some (b[i]'(by omega)):=List.getElem?_eq_getElem (by omega)
   obtain⟨t1,t2⟩:=take_eq he hl hi'
   (try conv=>whnf);repeat' (first|(apply And.intro<;>try conv=>whnf)|(intro h;try conv=>whnf)|(apply infoT;rfl)|(apply fitI;rfl)|(apply guardI;kernel_rfl)|(refine⟨_,_,rfl,idx_map (by with_reducible assumption),rfl,?_⟩;try conv=>whnf)|fail)
   ·refine le_bool ?_
    have hx:¬ a[i]=b[i]'(by omega):=by have:=(congrArg not (eqPVs_nd a[i] (b[i]'(by omega)))).symm.trans h;simpa using this
    exact (decide_eq_false (t2 hx)).symm
   ·have hx:a[i]=b[i]'(by omega):=by have:=(congrArg not (eqPVs_nd a[i] (b[i]'(by omega)))).symm.trans h;simpa using this
    exact⟨⟨i+1,hi',t1 hx⟩,by show a.length-(i+1)<a.length-i;omega,(by refine Wk.of ?_ ?_ rfl rfl rfl<;>repeat' (first|exact trivial|exact WkD.same _|refine WkD.int ?_|refine⟨?_,?_⟩|(refine wrapA ?_ ?_ ?_;(focus simp;done);(focus (try dsimp only);omega);(focus (try dsimp only);omega))|fail))⟩
  ·have hi':¬ i<a.length:=by simpa using h
   refine le_bool ?_
   rw[List.take_of_length_le (by omega),List.take_of_length_le (by omega)] at he
   exact (decide_eq_true he).symm
theorem canon_len {f:List Nd} (hwf:Wf f) {i:Nat} (hi:i<f.length):(canon f i).length≤f.length:=by
 have:=(fin_keep hwf (i+1) i ([],[]) (by omega) hi).2 (by show 0+cnt [] f.length≤f.length;rw[cnt_nil];omega)
 unfold canon
 omega
theorem sub_len (f:List Nd) (node:Int):(sub f node).length≤200:=by
 cases h:(bif bif check f != 0 then true else decide (node<0) then true else decide (node≥((f.map Nd.pv).length:Int))) with
 |true=>rw[sub_no h];simp
 |false =>
  obtain⟨hc,k,rfl,hk,hs⟩:=sub_yes h
  rw[hs]
  have:=canon_len (check_wf hc) hk
  have:=(check_ok hc).2.1
  omega
theorem comp_len (f:List Nd):(comp f).length≤200:=sub_len f _
def same (a b:List Nd):Bool:=bif bif check a==0 then check b==0 else false then decide (comp a=comp b) else false
theorem fm_Same (a b:List Nd):PureFn Tryz.prog 33 [fpv a,fpv b] (.bool (same a b)):=by
 refine PureFn.intro mixed (fn:=Tryz.f33) rfl rfl rfl fun M w0 => ?_
 have hEq:=sl_Equal (comp a) (comp b) (by have:=comp_len a;omega)
 (try conv=>whnf);repeat' (first|(apply And.intro<;>try conv=>whnf)|(intro h;try conv=>whnf)|apply True.intro|(apply WhenQ.mk;(try conv=>whnf);rotate_left;(try conv=>whnf);rotate_right)|with_reducible assumption|(refine PureFn.dy hEq rfl ?_;try conv=>whnf)|(refine PureFn.dcq (f:=86) rfl ?_;try conv=>whnf)|(refine PureFn.dcq (f:=68) rfl ?_;try conv=>whnf)|(refine⟨_,_,fm_Check ?_,?_,?_⟩;rotate_left 1;(focus first|(refine⟨?_,trivial⟩<;>first|exact PLe.refl _|exact PLe.nil)|exact trivial);try conv=>whnf)|(refine⟨_,_,fm_Compact ?_,?_,?_⟩;rotate_left 1;(focus first|(refine⟨?_,trivial⟩<;>first|exact PLe.refl _|exact PLe.nil)|exact trivial);try conv=>whnf)|fail)
 all_goals exact PLe.refl _
def Okl (f:List Nd):Prop:=∀ (i:Nat) x,f[i]? = some x→OkNd x (i:Int)
theorem Okl.wf {f:List Nd} (h:Okl f):Wf f:=fun i x hx=>⟨(h i x hx).x,(h i x hx).y⟩
def DsOk (s:List Nd×List (Nat×Nat)):Prop:=∀ j v,look j s.2=some v→v<s.1.length
theorem idx_some {x:Nd}:∀ {out:List Nd} {i k:Nat},idx x out i=some k→i≤k∧out[k-i]? = some x
 | [],i,k,h=>by simp[idx] at h
 |n::r,i,k,h=>by
  simp only[idx] at h
  by_cases e:n=x
  ·rw[if_pos e] at h
   simp at h;subst h;subst e
   simp
  ·rw[if_neg e] at h
   obtain⟨h1,h2⟩:=idx_some h
   refine⟨by omega,?_⟩
   rw[show k-i=(k-(i+1))+1 by omega]
   simpa using h2
theorem putN_spec (out:List Nd) (x:Nd):(putN out x).2[(putN out x).1]? = some x∧(putN out x).1<(putN out x).2.length∧∃ t,(putN out x).2=out++t∧∀ y,y∈t→y=x:=by
 unfold putN
 cases h:idx x out 0 with
 |some k =>
  obtain⟨_,h2⟩:=idx_some h
  simp only[Nat.sub_zero] at h2
  exact⟨h2,(List.getElem?_eq_some_iff.1 h2).1,[],by simp,by simp⟩
 |none=>exact⟨by simp,by simp,[x],rfl,by simp⟩
theorem putN_ok {out:List Nd} {x:Nd} (ho:Okl out) (hx:OkNd x out.length):Okl (putN out x).2:=by
 unfold putN
 cases h:idx x out 0 with
 |some k=>exact ho
 |none =>
  intro i y hy
  simp only at hy
  rcases Nat.lt_or_ge i out.length with hl|hl
  ·rw[List.getElem?_append_left hl] at hy;exact ho i y hy
  ·rw[List.getElem?_append_right hl] at hy
   have:i=out.length:=by
    have:=(List.getElem?_eq_some_iff.1 hy).1
    simp at this;omega
   subst this
   simp at hy;subst hy;exact hx
def ndZ (x:Nd) (a b:Nat):Nd:=ndB x.op (ndA x a) b
theorem ndZ_op (x:Nd) (a b:Nat):(ndZ x a b).op=x.op:=by unfold ndZ ndB ndA;cases usesX x.op<;>cases usesY x.op<;>rfl
theorem ndZ_i (x:Nd) (a b:Nat):(ndZ x a b).i=x.i:=by unfold ndZ ndB ndA;cases usesX x.op<;>cases usesY x.op<;>rfl
theorem ndZ_e (x:Nd) (a b:Nat):(ndZ x a b).e=x.e:=by unfold ndZ ndB ndA;cases usesX x.op<;>cases usesY x.op<;>rfl
theorem ndZ_g (x:Nd) (a b:Nat):(ndZ x a b).g=x.g:=by unfold ndZ ndB ndA;cases usesX x.op<;>cases usesY x.op<;>rfl
theorem ndZ_x (x:Nd) (a b:Nat):(ndZ x a b).x=bif usesX x.op then (a:Int) else x.x:=by unfold ndZ ndB ndA;cases usesX x.op<;>cases usesY x.op<;>rfl
theorem ndZ_y (x:Nd) (a b:Nat):(ndZ x a b).y=bif usesY x.op then (b:Int) else x.y:=by unfold ndZ ndB ndA;cases usesX x.op<;>cases usesY x.op<;>rfl
theorem ndZ_ok {x:Nd} {i:Int} {a b n:Nat} (h:OkNd x i) (ha:usesX x.op=true→a<n) (hb:usesY x.op=true→b<n):OkNd (ndZ x a b) n:=by
 constructor
 ·rw[ndZ_op];exact h.op
 ·rw[ndZ_op,ndZ_x];intro u;rw[u];have:=ha u;simp only[cond_true];omega
 ·rw[ndZ_op,ndZ_x];intro u;rw[u];exact h.nox u
 ·rw[ndZ_op,ndZ_y];intro u;rw[u];have:=hb u;simp only[cond_true];omega
 ·rw[ndZ_op,ndZ_y];intro u;rw[u];exact h.noy u
 ·rw[ndZ_op,ndZ_i];exact h.fact
 ·rw[ndZ_op,ndZ_i];exact h.agent
 ·rw[ndZ_op,ndZ_i,ndZ_e];exact h.act
 ·rw[ndZ_op,ndZ_i];exact h.noi
 ·rw[ndZ_op,ndZ_e];exact h.noe
 ·rw[ndZ_op,ndZ_g];exact h.group
 ·rw[ndZ_op,ndZ_g];exact h.nog
structure FinOk (s t:List Nd×List (Nat×Nat)) (k:Nat):Prop where
 ok:Okl t.1
 ds:DsOk t
 lt:k<t.1.length
 ext:∃ u,t.1=s.1++u
theorem fin_ok {f:List Nd} (hf:Okl f):∀ (n i:Nat) (s:List Nd×List (Nat×Nat)),i<n→i<f.length→Okl s.1→DsOk s→FinOk s (fin f n i s).2 (fin f n i s).1
 |0,i,s,h,_,_,_=>by omega
 |n+1,i,s,hin,hif,ho,hd=>by
  cases hl:look i s.2 with
  |some k=>simp only[fin,hl];exact⟨ho,hd,hd i k hl,[],by simp⟩
  |none =>
   have hn:f[i]? = some f[i]:=List.getElem?_eq_getElem hif
   generalize hx:f[i]=x at hn
   have hok:=hf i x hn
   rw[fin_none hl hn]
   have hA:Okl (opA f n x s).2.1∧DsOk (opA f n x s).2∧(usesX x.op=true→(opA f n x s).1<(opA f n x s).2.1.length)∧∃ u,(opA f n x s).2.1=s.1++u:=by
    unfold opA
    cases hu:usesX x.op with
    |false=>exact⟨ho,hd,(fun h=>by cases h),[],by simp⟩
    |true =>
     have:=hok.x hu
     have q:=fin_ok hf n x.x.toNat s (by omega) (by omega) ho hd
     exact⟨q.ok,q.ds,fun _=>q.lt,q.ext⟩
   generalize opA f n x s=A at hA ⊢
   obtain⟨a1,a2,a3,ua,a4⟩:=hA
   have hB:Okl (opB f n x A.2).2.1∧DsOk (opB f n x A.2).2∧(usesY x.op=true→(opB f n x A.2).1<(opB f n x A.2).2.1.length)∧∃ u,(opB f n x A.2).2.1=A.2.1++u:=by
    unfold opB
    cases hu:usesY x.op with
    |false=>exact⟨a1,a2,(fun h=>by cases h),[],by simp⟩
    |true =>
     have:=hok.y hu
     have q:=fin_ok hf n x.y.toNat A.2 (by omega) (by omega) a1 a2
     exact⟨q.ok,q.ds,fun _=>q.lt,q.ext⟩
   generalize opB f n x A.2=B at hB ⊢
   obtain⟨b1,b2,b3,ub,b4⟩:=hB
   have hz:OkNd (ndZ x A.1 B.1) B.2.1.length:=ndZ_ok hok (fun u=>by have:=a3 u;rw[b4,List.length_append];omega) b3
   change FinOk s ((putN B.2.1 (ndZ x A.1 B.1)).2,dput i (putN B.2.1 (ndZ x A.1 B.1)).1 B.2.2) (putN B.2.1 (ndZ x A.1 B.1)).1
   obtain⟨p1,p2,t,p3,_⟩:=putN_spec B.2.1 (ndZ x A.1 B.1)
   refine⟨putN_ok b1 hz,?_,p2,ua++ub++t,by simp only;rw[p3,b4,a4];simp[List.append_assoc]⟩
   intro j v hv
   simp only[look_dput] at hv
   by_cases e:j=i
   ·rw[if_pos e] at hv;simp at hv;subst hv;exact p2
   ·rw[if_neg e] at hv
    have:=b2 j v hv
    simp only
    rw[p3,List.length_append];omega
theorem canon_ok {f:List Nd} (hf:Okl f) {i:Nat} (hi:i<f.length):Okl (canon f i)∧1≤(canon f i).length:=by
 have q:=fin_ok hf (i+1) i ([],[]) (by omega) hi (fun j x h=>by simp at h) (fun j v h=>by simp[look] at h)
 exact⟨q.ok,by have:=q.lt;unfold canon;omega⟩
theorem check_okl {f:List Nd} (h:check f=0):Okl f:=fun i x hx=>nodeErr_ok.1 ((check_ok h).2.2 i x hx)
theorem okl_check {f:List Nd} (h:Okl f) (h1:1≤f.length) (h2:f.length≤200):check f=0:=by
 have e1:((f.length:Int)==0)=false:=by simp;intro e;subst e;simp at h1
 have e2:decide ((f.length:Int)>200)=false:=by simp;omega
 rw[check,e1,e2]
 have:∀ (l:List Nd) (s:Nat),(∀ (i:Nat) x,l[i]? = some x→nodeErr x ((s+i:Nat):Int)=0)→firstErr l s=0:=by
  intro l
  induction l with
  |nil=>intro s _;rfl
  |cons n r ih =>
   intro s hs
   have h0:nodeErr n s=0:=by simpa using hs 0 n rfl
   simp only[firstErr,h0]
   exact ih (s+1) fun i x hx=>by
    have:=hs (i+1) x (by simpa using hx)
    rw[show s+1+i=s+(i+1) by omega];exact this
 exact this f 0 fun i x hx=>nodeErr_ok.2 (by simpa using h i x hx)
theorem sub_okl (f:List Nd) (node:Int):Okl (sub f node):=by
 cases h:(bif bif check f != 0 then true else decide (node<0) then true else decide (node≥((f.map Nd.pv).length:Int))) with
 |true=>rw[sub_no h];intro i x hx;simp at hx
 |false =>
  obtain⟨hc,k,rfl,hk,hs⟩:=sub_yes h
  rw[hs]
  exact (canon_ok (check_okl hc) hk).1
theorem comp_okl (f:List Nd):Okl (comp f):=sub_okl f _
theorem comp_eq {f:List Nd} (h:check f=0):comp f=canon f (f.length-1):=by
 have:=(check_ok h).1
 have e1:(check f != 0)=false:=by rw[h];rfl
 have e2:decide (((f.length:Int)-1)<0)=false:=by simp;omega
 have e3:decide (((f.length:Int)-1)≥(f.length:Int))=false:=by simp;omega
 rw[comp,sub,e1,e2,e3]
 exact congrArg (canon f) (by omega)
theorem comp_pos {f:List Nd} (h:check f=0):1≤(comp f).length:=by
 rw[comp_eq h]
 have:=(check_ok h).1
 exact (canon_ok (check_okl h) (by omega)).2
theorem comp_check {f:List Nd} (h:check f=0):check (comp f)=0:=okl_check (comp_okl f) (comp_pos h) (comp_len f)
def orN (m:Nd→Nat) (c:List Nd):Nat:=c.foldl (fun a x=>a |||m x) 0
theorem foldl_or (m:Nd→Nat):∀ (c:List Nd) (a:Nat),c.foldl (fun a x=>a |||m x) a=a |||orN m c
 | [],a=>by simp[orN]
 |x::r,a=>by
  simp only[orN,List.foldl_cons]
  rw[foldl_or m r,foldl_or m r,Nat.zero_or,Nat.or_assoc]
theorem orN_cons (m:Nd→Nat) (x:Nd) (r:List Nd):orN m (x::r)=m x |||orN m r:=by
 rw[orN,List.foldl_cons,foldl_or,Nat.zero_or]
theorem orN_take {m:Nd→Nat} {c:List Nd} {i:Nat} (h:i<c.length):orN m (c.take (i+1))=orN m (c.take i) |||m c[i]:=by
 rw[List.take_succ_eq_append_getElem h,orN,List.foldl_append,foldl_or]
 rw[orN_cons];simp only[orN,List.foldl_nil,Nat.or_zero]
theorem orN_lt {m:Nd→Nat} {k:Nat}:∀ {c:List Nd},(∀ x,x∈c→m x<2^k)→orN m c<2^k
 | [],_=>Nat.two_pow_pos k
 |x::r,h=>by
  rw[orN_cons]
  exact Nat.or_lt_two_pow (h x (by simp)) (orN_lt fun y hy=>h y (by simp[hy]))
def fragN (x:Nd):Nat:=(frag x.op).toNat
def factN (x:Nd):Nat:=bif x.op==3 then 2^x.i.toNat else 0
def agN (x:Nd):Nat:=bif isAgent x.op then 2^x.i.toNat else x.g.toNat
def frags (f:List Nd):Nat:=orN fragN (comp f)
def facts (f:List Nd):Nat:=orN factN (comp f)
def agents (f:List Nd):Nat:=orN agN (comp f)
theorem okl_mem {f:List Nd} (h:Okl f) {x:Nd} (hx:x∈f):∃ i:Nat,OkNd x i:=by
 obtain⟨i,hi,rfl⟩:=List.mem_iff_getElem.1 hx
 exact⟨i,h i _ (List.getElem?_eq_getElem hi)⟩
theorem fragN_lt {x:Nd} {k:Int} (h:OkNd x k):fragN x<2^9∧frag x.op=(fragN x:Int):=by
 have ho:=h.op
 have key:∀ op:Nat,op<22→(frag (op:Int)).toNat<512∧frag (op:Int)=((frag (op:Int)).toNat:Int):=by decide
 have:=key x.op.toNat (by omega)
 rw[show ((x.op.toNat:Nat):Int)=x.op by omega] at this
 exact this
theorem pow_lt {i:Int} {a k:Nat} (h1:0≤i) (h2:i<a) (hk:a≤k):2^i.toNat<2^k:=Nat.pow_lt_pow_right (by decide) (by omega)
theorem factN_lt {x:Nd} {k:Int} (h:OkNd x k):factN x<2^8:=by
 unfold factN
 cases hb:(x.op==3) with
 |false=>show 0<2^8;decide
 |true=>have:=h.fact (by simpa using hb);exact pow_lt (a:=8) this.1 this.2 (by decide)
theorem agN_lt {x:Nd} {k:Int} (h:OkNd x k):agN x<2^4:=by
 unfold agN
 cases hb:isAgent x.op with
 |true=>have:=h.agent hb;exact pow_lt (a:=4) this.1 this.2 (by decide)
 |false =>
  cases hg:isGroup x.op with
  |true=>have:=h.group hg;show x.g.toNat<16;omega
  |false=>have:=h.nog hg;show x.g.toNat<16;omega
theorem frags_lt (f:List Nd):frags f<2^9:=orN_lt fun x hx=>by obtain⟨i,hi⟩:=okl_mem (comp_okl f) hx;exact (fragN_lt hi).1
theorem facts_lt (f:List Nd):facts f<2^8:=orN_lt fun x hx=>by obtain⟨i,hi⟩:=okl_mem (comp_okl f) hx;exact factN_lt hi
theorem agents_lt (f:List Nd):agents f<2^4:=orN_lt fun x hx=>by obtain⟨i,hi⟩:=okl_mem (comp_okl f) hx;exact agN_lt hi
def or64 (a b:Int):Int:=IntKind.wrap .i64 ((BitVec.ofInt (IntKind.bits .i64) a |||BitVec.ofInt (IntKind.bits .i64) b).toNat:Int)
theorem or64_nat {a b:Nat} (ha:a<2^62) (hb:b<2^62):or64 a b=((a |||b:Nat):Int):=by
 unfold or64
 have e1:BitVec.ofInt (IntKind.bits .i64) (a:Int)=BitVec.ofNat 64 a:=BitVec.ofInt_natCast 64 a
 have e2:BitVec.ofInt (IntKind.bits .i64) (b:Int)=BitVec.ofNat 64 b:=BitVec.ofInt_natCast 64 b
 have ho:a |||b<2^62:=Nat.or_lt_two_pow ha hb
 have h1:(BitVec.ofInt (IntKind.bits .i64) (a:Int) |||BitVec.ofInt (IntKind.bits .i64) (b:Int)).toNat=a |||b:=by
  rw[e1,e2]
  refine (BitVec.toNat_or (BitVec.ofNat 64 a) (BitVec.ofNat 64 b)).trans ?_
  rw[BitVec.toNat_ofNat,BitVec.toNat_ofNat,Nat.mod_eq_of_lt (by omega),Nat.mod_eq_of_lt (by omega)]
 rw[h1]
 exact wrap_small (by omega) (by omega)
def shl64 (a b:Int):Int:=IntKind.wrap .i64 (a*2^(min b.toNat (IntKind.bits .i64)))
theorem shl64_one {i:Int} (h1:0≤i) (h2:i<62):shl64 1 i=((2^i.toNat:Nat):Int):=by
 unfold shl64
 rw[show min i.toNat (IntKind.bits .i64)=i.toNat from Nat.min_eq_left (by show i.toNat≤64;omega),Int.one_mul]
 have:2^i.toNat<2^62:=Nat.pow_lt_pow_right (by decide) (by omega)
 have e:((2:Int)^i.toNat)=((2^i.toNat:Nat):Int):=by simp
 rw[e]
 generalize 2^i.toNat=m at *
 exact wrap_small (by omega) (by omega)
def shr64 (a b:Int):Int:=a.fdiv (2^(min b.toNat (IntKind.bits .i64)))
theorem shr64_nat (a k:Nat) (hk:k≤64):shr64 a k=((a >>> k:Nat):Int):=by
 unfold shr64
 rw[show min ((k:Int)).toNat (IntKind.bits .i64)=k from Nat.min_eq_left hk,Nat.shiftRight_eq_div_pow]
 rw[show ((2:Int)^k)=((2^k:Nat):Int) by simp,Int.fdiv_eq_ediv_of_nonneg _ (Int.natCast_nonneg _)]
 rfl
theorem le_or {a b:Nat} (ha:a<2^62) (hb:b<2^62) {c:Int} (h:c=((a |||b:Nat):Int)):or64 a b=c:=(or64_nat ha hb).trans h.symm
def usesP (op:Int):PV:=.agg [.bool (usesX op),.bool (usesY op),.bool (op==3),.bool (isAgent op),.bool (isGroup op),.bool (op==17),.int .i64 (frag op)]
theorem fm_union (fid:Nat) (m:Nd→Nat) (hcb:callable Tryz.prog fid=true) (hm:∀ x (k:Int),OkNd x k→PureFn Tryz.prog fid [x.pv,usesP x.op] (.int .i64 (m x))) (hb:∀ x (k:Int),OkNd x k→m x<2^9) (f:List Nd) (M:Nat→Prop) (w0:W0) :
  DC Tryz.prog M w0 136 [.pv (fpv f),.clo fid [] []] noHeap fun d L'=>frz d L' fun q _=>PLe q (.int .i64 (orN m (comp f):Nat)):=by
 refine DC.intro mixed (fn:=Tryz.f136) rfl rfl rfl ?_
 have hlen:=comp_len f
 (try conv=>whnf);repeat' (first|(refine PureFn.dcq (f:=68) rfl ?_;try conv=>whnf)|(refine⟨_,_,fm_Compact ?_,?_,?_⟩;rotate_left 1;(focus first|(refine⟨?_,trivial⟩<;>first|exact PLe.refl _|exact PLe.nil)|exact trivial);try conv=>whnf)|fail)
 refine⟨{ i:Nat // i≤(comp f).length },fun i=>[(1,.clo fid [] []),(5,.pv (.int .i64 (orN m ((comp f).take i.1):Nat))),(11,.pv (fpv (comp f))),(12,.pv (.int .i64 ((comp f).map Nd.pv).length)),(13,.pv (.int .i64 (i.1:Nat)))],fun _=>0,
  fun i=>[],fun i=>(comp f).length-i.1,⟨⟨0,Nat.zero_le _⟩,(by exact Wk.sm rfl rfl rfl rfl rfl)⟩,?_⟩
 rintro⟨i,hi⟩
 (try conv=>whnf);repeat' (first|(apply And.intro<;>try conv=>whnf)|(intro h;try conv=>whnf)|(apply infoT;rfl)|fail)
 ·have hi':i<(comp f).length:=by simpa using h
  have hn:(comp f)[i]? = some (comp f)[i]:=List.getElem?_eq_getElem hi'
  have hok:=comp_okl f i _ hn
  have hmx:=hm _ _ hok
  have hbx:=hb _ _ hok
  have htk:=orN_take (m:=m) hi'
  have hbt:orN m ((comp f).take i)<2^9:=orN_lt fun x hx=>by obtain⟨k,hk⟩:=okl_mem (comp_okl f) (List.mem_of_mem_take hx);exact hb x k hk
  (try conv=>whnf);repeat' (first|(refine⟨_,_,rfl,idx_map (by with_reducible assumption),rfl,?_⟩;try conv=>whnf)|(refine PureFn.dcq (f:=120) rfl ?_;try conv=>whnf)|(refine⟨_,_,fm_uses ?_,?_,?_⟩;rotate_left 1;(focus first|(refine⟨?_,trivial⟩<;>first|exact PLe.refl _|exact PLe.nil)|exact trivial);try conv=>whnf)|fail)
  refine PureFn.dcq hcb ?_
  refine⟨_,_,hmx,⟨.refl _,.refl _,trivial⟩,?_⟩
  try conv=>whnf
  refine⟨⟨i+1,hi'⟩,by show (comp f).length-(i+1)<(comp f).length-i;omega,?_⟩
  (refine Wk.of ?_ ?_ rfl rfl rfl<;>repeat' (first|exact trivial|exact WkD.same _|refine WkD.int ?_|refine⟨?_,?_⟩|(refine wrapA ?_ ?_ ?_;(focus simp;done);(focus (try dsimp only);omega);(focus (try dsimp only);omega))|fail))
  exact le_or (Nat.lt_of_lt_of_le hbt (by decide)) (Nat.lt_of_lt_of_le hbx (by decide)) (by rw[htk])
 ·have hi':i=(comp f).length:=by simp at h;omega
  subst hi'
  exact le_int (by rw[List.take_length])
theorem fm_frag1 (x:Nd) (k:Int) (hok:OkNd x k):PureFn Tryz.prog 137 [x.pv,usesP x.op] (.int .i64 (fragN x)):=by
 refine PureFn.intro mixed (fn:=Tryz.f137) rfl rfl rfl fun M w0 => ?_
 try conv=>whnf
 exact le_int (fragN_lt hok).2
theorem fm_fact1 (x:Nd) (k:Int) (hok:OkNd x k):PureFn Tryz.prog 176 [x.pv,usesP x.op] (.int .i64 (factN x)):=by
 refine PureFn.intro mixed (fn:=Tryz.f176) rfl rfl rfl fun M w0 => ?_
 (try conv=>whnf);repeat' (first|(apply And.intro<;>try conv=>whnf)|(intro h;try conv=>whnf)|fail)
 ·have:=hok.fact (by simpa using h)
  exact this.1
 ·have:=hok.fact (by simpa using h)
  refine le_int ((shl64_one this.1 (by omega)).trans ?_)
  rw[factN,h];rfl
 ·refine le_int ?_
  rw[factN,h];rfl
theorem fm_agent1 (x:Nd) (k:Int) (hok:OkNd x k):PureFn Tryz.prog 175 [x.pv,usesP x.op] (.int .i64 (agN x)):=by
 refine PureFn.intro mixed (fn:=Tryz.f175) rfl rfl rfl fun M w0 => ?_
 (try conv=>whnf);repeat' (first|(apply And.intro<;>try conv=>whnf)|(intro h;try conv=>whnf)|fail)
 ·have:=hok.agent h
  exact this.1
 ·have:=hok.agent h
  refine le_int ((shl64_one this.1 (by omega)).trans ?_)
  rw[agN,h];rfl
 ·refine le_int ?_
  rw[agN,h]
  show x.g=(x.g.toNat:Int)
  cases hg:isGroup x.op with
  |true=>have:=hok.group hg;omega
  |false=>have:=hok.nog hg;omega
theorem fm_Frags (f:List Nd):PureFn Tryz.prog 104 [fpv f] (.int .i64 (frags f)):=by
 refine PureFn.intro mixed (fn:=Tryz.f104) rfl rfl rfl fun M w0 => ?_
 try conv=>whnf
 refine DC.alone (p:=.int .i64 (orN fragN (comp f):Nat)) rfl (fun M w0=>fm_union 137 fragN rfl fm_frag1 (fun _ _ h=>(fragN_lt h).1) f M w0) ?_
 try conv=>whnf
 exact le_int rfl
theorem fm_Facts (f:List Nd):PureFn Tryz.prog 140 [fpv f] (.int .i64 (facts f)):=by
 refine PureFn.intro mixed (fn:=Tryz.f140) rfl rfl rfl fun M w0 => ?_
 try conv=>whnf
 refine DC.alone (p:=.int .i64 (orN factN (comp f):Nat)) rfl (fun M w0=>fm_union 176 factN rfl fm_fact1 (fun _ _ h=>Nat.lt_of_lt_of_le (factN_lt h) (by decide)) f M w0) ?_
 try conv=>whnf
 exact le_int rfl
theorem fm_Agents (f:List Nd):PureFn Tryz.prog 139 [fpv f] (.int .i64 (agents f)):=by
 refine PureFn.intro mixed (fn:=Tryz.f139) rfl rfl rfl fun M w0 => ?_
 try conv=>whnf
 refine DC.alone (p:=.int .i64 (orN agN (comp f):Nat)) rfl (fun M w0=>fm_union 175 agN rfl fm_agent1 (fun _ _ h=>Nat.lt_of_lt_of_le (agN_lt h) (by decide)) f M w0) ?_
 try conv=>whnf
 exact le_int rfl
theorem fb (x:Nd) (k:Int) (h:OkNd x k):fragN x<2^9:=(fragN_lt h).1
theorem tb (x:Nd) (k:Int) (h:OkNd x k):factN x<2^9:=Nat.lt_of_lt_of_le (factN_lt h) (by decide)
theorem up {a:Nat} (h:a<2^9):a<2^62:=Nat.lt_of_lt_of_le h (by decide)
def belowB (mask n:Int):Bool:=bif decide (n≥31) then true else shr64 mask (max n 0)==0
def fits (f:List Nd) (a n:Int):Bool:=bif bif check f==0 then belowB (agents f) a else false then belowB (facts f) n else false
theorem below_iff {mask k:Nat} (hm:mask<2^k) (hk:k≤31) (n:Int):belowB mask n=true↔∀ j:Nat,j<k→(mask >>> j) % 2=1→(j:Int)<n:=by
 unfold belowB
 by_cases hn:n≥31
 ·simp only[hn,decide_true,cond_true,true_iff]
  intro j hj _;omega
 ·have e:decide (n≥31)=false:=by simpa using hn
  rw[e,cond_false]
  obtain⟨m,hmm⟩:∃ m:Nat,max n 0=(m:Int):=⟨(max n 0).toNat,by omega⟩
  rw[hmm,shr64_nat _ _ (by omega)]
  have e2:(((mask >>> m:Nat):Int)==0)=true↔mask >>> m=0:=by rw[beq_iff_eq];exact Int.natCast_eq_zero
  rw[e2]
  have tb:∀ j,(mask >>> j) % 2=1↔mask.testBit j=true:=by
   intro j;rw[Nat.testBit_eq_decide_div_mod_eq,Nat.shiftRight_eq_div_pow];simp
  constructor
  ·intro h0 j _ hb
   rcases Nat.lt_or_ge j m with h|h
   ·omega
   ·have:mask >>> j=0:=by rw[show j=m+(j-m) by omega,Nat.shiftRight_add,h0,Nat.zero_shiftRight]
    rw[this] at hb;simp at hb
  ·intro h
   refine Nat.eq_of_testBit_eq fun i => ?_
   rw[Nat.testBit_shiftRight,Nat.zero_testBit]
   rcases Nat.lt_or_ge (m+i) k with hlt|hge
   ·cases hb:mask.testBit (m+i) with
    |false=>rfl
    |true=>have:=h (m+i) hlt ((tb _).2 hb);omega
   ·exact Nat.testBit_lt_two_pow (Nat.lt_of_lt_of_le hm (Nat.pow_le_pow_right (by decide) hge))
theorem fm_below (mask n:Int):PureFn Tryz.prog 138 [.int .i64 mask,.int .i64 n] (.bool (belowB mask n)):=by
 refine PureFn.intro mixed (fn:=Tryz.f138) rfl rfl rfl fun M w0 => ?_
 (try conv=>whnf);repeat' (first|(apply And.intro<;>try conv=>whnf)|(intro h;try conv=>whnf)|apply True.intro|(apply WhenQ.mk;(try conv=>whnf);rotate_left;(try conv=>whnf);rotate_right)|with_reducible assumption|(apply not_of;with_reducible assumption)|fail)
 ·show 0≤max n 0
  omega
 ·exact .refl _
theorem fm_Fits (f:List Nd) (a n:Int):PureFn Tryz.prog 105 [fpv f,.int .i64 a,.int .i64 n] (.bool (fits f a n)):=by
 refine PureFn.intro mixed (fn:=Tryz.f105) rfl rfl rfl fun M w0 => ?_
 (try conv=>whnf);repeat' (first|(apply And.intro<;>try conv=>whnf)|(intro h;try conv=>whnf)|apply True.intro|(apply WhenQ.mk;(try conv=>whnf);rotate_left;(try conv=>whnf);rotate_right)|with_reducible assumption|(refine PureFn.dcq (f:=86) rfl ?_;try conv=>whnf)|(refine PureFn.dcq (f:=139) rfl ?_;try conv=>whnf)|(refine PureFn.dcq (f:=140) rfl ?_;try conv=>whnf)|(refine PureFn.dcq (f:=138) rfl ?_;try conv=>whnf)|(refine⟨_,_,fm_Check ?_,?_,?_⟩;rotate_left 1;(focus first|(refine⟨?_,trivial⟩<;>first|exact PLe.refl _|exact PLe.nil)|exact trivial);try conv=>whnf)|(refine⟨_,_,fm_Agents ?_,?_,?_⟩;rotate_left 1;(focus first|(refine⟨?_,trivial⟩<;>first|exact PLe.refl _|exact PLe.nil)|exact trivial);try conv=>whnf)|(refine⟨_,_,fm_Facts ?_,?_,?_⟩;rotate_left 1;(focus first|(refine⟨?_,trivial⟩<;>first|exact PLe.refl _|exact PLe.nil)|exact trivial);try conv=>whnf)|(refine⟨_,_,fm_below ?_ ?_,?_,?_⟩;rotate_left 2;(focus first|(refine⟨?_,?_,trivial⟩<;>first|exact PLe.refl _|exact PLe.nil)|exact trivial);try conv=>whnf)|fail)
 exact .refl _
def shX (k:Nat) (n:Nd):Nd:=bif usesX n.op then { n with x:=n.x+k } else n
def shN (k:Nat) (n:Nd):Nd:=bif usesY n.op then { shX k n with y:=n.y+k } else shX k n
def bstep (k:Nat) (s:Nd×List Nd) (o:List Nd):Nd×List Nd :=
 (bif (k:Int)==0 then { s.1 with x:=((s.2++(comp o).map (shN s.2.length)).length:Int)-1 } else { s.1 with y:=((s.2++(comp o).map (shN s.2.length)).length:Int)-1 },s.2++(comp o).map (shN s.2.length))
def bfold:Nat→List (List Nd)→Nd×List Nd→Option (Nd×List Nd)
 |_,[],s=>some s
 |k,o::r,s=>bif check o != 0 then none else bfold (k+1) r (bstep k s o)
def bfin (s:Nd×List Nd):List Nd :=
 bif nodeErr s.1 s.2.length != 0 then [] else bif decide (((canon (s.2++[s.1]) s.2.length).length:Int)>200) then [] else canon (s.2++[s.1]) s.2.length
def buildL (x:Nd) (l:List (List Nd)):List Nd:=match bfold 0 l (x,[]) with|none=>[]|some s=>bfin s
theorem shX_y (k:Nat) (n:Nd):(shX k n).y=n.y:=by unfold shX;cases usesX n.op<;>rfl
theorem sh_ok {n:Nd} {i:Int} {k:Nat} (h:OkNd n i):OkNd (shN k n) (k+i):=by
 have e1:(shN k n).op=n.op:=by unfold shN shX;cases usesX n.op<;>cases usesY n.op<;>rfl
 have e2:(shN k n).i=n.i:=by unfold shN shX;cases usesX n.op<;>cases usesY n.op<;>rfl
 have e3:(shN k n).e=n.e:=by unfold shN shX;cases usesX n.op<;>cases usesY n.op<;>rfl
 have e4:(shN k n).g=n.g:=by unfold shN shX;cases usesX n.op<;>cases usesY n.op<;>rfl
 have e5:(shN k n).x=bif usesX n.op then n.x+k else n.x:=by unfold shN shX;cases usesX n.op<;>cases usesY n.op<;>rfl
 have e6:(shN k n).y=bif usesY n.op then n.y+k else n.y:=by unfold shN shX;cases usesX n.op<;>cases usesY n.op<;>rfl
 constructor
 ·rw[e1];exact h.op
 ·rw[e1,e5];intro u;rw[u];have:=h.x u;simp only[cond_true];omega
 ·rw[e1,e5];intro u;rw[u];exact h.nox u
 ·rw[e1,e6];intro u;rw[u];have:=h.y u;simp only[cond_true];omega
 ·rw[e1,e6];intro u;rw[u];exact h.noy u
 ·rw[e1,e2];exact h.fact
 ·rw[e1,e2];exact h.agent
 ·rw[e1,e2,e3];exact h.act
 ·rw[e1,e2];exact h.noi
 ·rw[e1,e3];exact h.noe
 ·rw[e1,e4];exact h.group
 ·rw[e1,e4];exact h.nog
theorem okl_append {F c:List Nd} (hF:Okl F) (hc:Okl c):Okl (F++c.map (shN F.length)):=by
 intro i x hx
 rcases Nat.lt_or_ge i F.length with h|h
 ·rw[List.getElem?_append_left h] at hx;exact hF i x hx
 ·rw[List.getElem?_append_right h,List.getElem?_map] at hx
  cases hy:c[i-F.length]? with
  |none=>rw[hy] at hx;simp at hx
  |some y =>
   rw[hy] at hx;simp at hx;subst hx
   have:=sh_ok (k:=F.length) (hc _ y hy)
   rwa [show ((F.length:Int)+((i-F.length:Nat):Int))=(i:Int) by omega] at this
theorem okl_snoc {F:List Nd} {x:Nd} (hF:Okl F) (hx:OkNd x F.length):Okl (F++[x]):=by
 intro i y hy
 rcases Nat.lt_or_ge i F.length with h|h
 ·rw[List.getElem?_append_left h] at hy;exact hF i y hy
 ·rw[List.getElem?_append_right h] at hy
  have:i=F.length:=by
   have:=(List.getElem?_eq_some_iff.1 hy).1
   simp at this;omega
  subst this
  simp at hy;subst hy;exact hx
def shL (F c:List Nd) (j:Nat):List PV:=F.map Nd.pv++(c.take j).map fun n=>(shN F.length n).pv
theorem shL_zero (F c:List Nd):F.map Nd.pv=shL F c 0:=by simp[shL]
theorem shL_succ {F c:List Nd} {j:Nat} (h:j<c.length):shL F c j++[(shN F.length c[j]).pv]=shL F c (j+1):=by
 simp only[shL]
 rw[List.take_succ_eq_append_getElem h,List.map_append,List.append_assoc];rfl
theorem shL_end (F c:List Nd):shL F c c.length=(F++c.map (shN F.length)).map Nd.pv:=by
 simp[shL,List.map_append,List.map_map,Function.comp_def]
theorem shL_len {F c:List Nd} {j:Nat} (h:j≤c.length):(shL F c j).length=F.length+j:=by
 simp only[shL,List.length_append,List.length_map,List.length_take];omega
theorem bstep_t {k:Nat} {y:Nd} {F o:List Nd} (h:((k:Int)==0)=true):bstep k (y,F) o=({ y with x:=((F++(comp o).map (shN F.length)).length:Int)-1 },F++(comp o).map (shN F.length)):=by rw[bstep,h];rfl
theorem bstep_f {k:Nat} {y:Nd} {F o:List Nd} (h:((k:Int)==0)=false):bstep k (y,F) o=({ y with y:=((F++(comp o).map (shN F.length)).length:Int)-1 },F++(comp o).map (shN F.length)):=by rw[bstep,h];rfl
def npv (f:List Nd):PV:=match f with
 | []=>.nil
 |_::_=>fpv f
theorem npv_ge {f:List Nd} (h:f≠[]):PLe (fpv f) (npv f):=by
 cases f with
 |nil=>exact absurd rfl h
 |cons a r=>exact .refl _
theorem npv_le (f:List Nd):PLe (npv f) (fpv f):=by
 cases f with
 |nil=>exact .nil
 |cons a r=>exact .refl _
theorem fm_buildN (x:Nd) (l:List (List Nd)) (hl:l.length≤2):PureFn Tryz.prog 89 [x.pv,.sl (l.map fpv)] (npv (buildL x l)):=by
 refine PureFn.introC [14,16] mixed (fn:=Tryz.f89) rfl rfl rfl fun M w0 => ?_
 try conv=>whnf
 refine⟨{ q:Nat×Nd×List Nd // q.1≤l.length∧bfold 0 l (x,[])=bfold q.1 (l.drop q.1) q.2∧Okl q.2.2∧q.2.2.length≤200*q.1 },
  fun q=>[(2,.ref 0 0),(5,.buf 1 (q.1.2.2.map Nd.pv).length),(14,.pv (.sl (l.map fpv))),(15,.pv (.int .i64 (l.map fpv).length)),(16,.pv (.int .i64 (q.1.1:Nat)))],fun _=>2,
  fun q=>[(0,.var q.1.2.1.dvs),(1,.arr 6 (q.1.2.2.map Nd.pv))],fun q=>l.length-q.1.1,⟨⟨(0,x,[]),Nat.zero_le _,rfl,(fun i x h=>by simp at h),Nat.zero_le _⟩,(by refine Wk.of ?_ ?_ rfl rfl rfl<;>repeat' (first|exact trivial|exact WkD.same _|exact WkO.same _ _ rfl|exact WkD.new' rfl rfl rfl|exact WkO.new _ _ rfl|exact rfl|refine⟨?_,?_⟩|fail))⟩,?_⟩
 rintro⟨⟨k,y,F⟩,hk,he,hF,hFl⟩
 simp only at hk he hF hFl
 (try conv=>whnf);repeat' (first|(apply And.intro<;>try conv=>whnf)|(intro h;try conv=>whnf)|(apply infoT;rfl)|fail)
 ·have hk':k<l.length:=by simpa using h
  obtain⟨o,ho⟩:∃ o,l[k]? = some o:=⟨_,List.getElem?_eq_getElem hk'⟩
  have hd:l.drop k=o::l.drop (k+1):=by
   rw[List.drop_eq_getElem_cons hk']
   rw[List.getElem?_eq_getElem hk'] at ho
   rw[Option.some.inj ho]
  rw[hd] at he
  have hol:=comp_len o
  (try conv=>whnf);repeat' (first|(apply And.intro<;>try conv=>whnf)|(intro h;try conv=>whnf)|(refine⟨_,_,rfl,idx_map (by with_reducible assumption),rfl,?_⟩;try conv=>whnf)|(refine PureFn.dcq (f:=86) rfl ?_;try conv=>whnf)|(refine PureFn.dcq (f:=68) rfl ?_;try conv=>whnf)|(refine⟨_,_,fm_Check ?_,?_,?_⟩;rotate_left 1;(focus first|(refine⟨?_,trivial⟩<;>first|exact PLe.refl _|exact PLe.nil)|exact trivial);try conv=>whnf)|(refine⟨_,_,fm_Compact ?_,?_,?_⟩;rotate_left 1;(focus first|(refine⟨?_,trivial⟩<;>first|exact PLe.refl _|exact PLe.nil)|exact trivial);try conv=>whnf)|fail)
  ·have hb:bfold 0 l (x,[])=none:=by rw[he];simp only[bfold,h];rfl
   have:buildL x l=[]:=by rw[buildL,hb]
   rw[this];exact .refl _
  ·have hb:bfold 0 l (x,[])=bfold (k+1) (l.drop (k+1)) (bstep k (y,F) o):=by rw[he];simp only[bfold,h];rfl
   have hz:=shL_zero F (comp o)
   refine⟨{ j:Nat // j≤(comp o).length },fun j=>[(2,.ref 0 0),(5,.buf 1 (shL F (comp o) j.1).length),(6,.pv (.int .i64 (k:Nat))),(8,.pv (.int .i64 (F.map Nd.pv).length)),(14,.pv (.sl (l.map fpv))),(15,.pv (.int .i64 (l.map fpv).length)),(16,.pv (.int .i64 (k:Nat))),(27,.pv (fpv (comp o))),(28,.pv (.int .i64 ((comp o).map Nd.pv).length)),(29,.pv (.int .i64 (j.1:Nat)))],fun _=>2,
    fun j=>[(0,.var y.dvs),(1,.arr 6 (shL F (comp o) j.1))],fun j=>(comp o).length-j.1,⟨⟨0,Nat.zero_le _⟩,(by refine Wk.of ?_ ?_ rfl rfl rfl<;>repeat' (first|exact trivial|exact WkD.same _|exact WkO.same _ _ rfl|exact WkD.eq (congrArg (fun z:List PV=>DV.buf _ z.length) hz)|exact WkO.same _ _ (congrArg (fun z=>some (DObj.arr _ z)) hz)|refine⟨?_,?_⟩|fail))⟩,?_⟩
   rintro⟨j,hj⟩
   (try conv=>whnf);repeat' (first|(apply And.intro<;>try conv=>whnf)|(intro h;try conv=>whnf)|(apply infoT;rfl)|fail)
   ·have hj':j<(comp o).length:=by simpa using h
    have hn:(comp o)[j]? = some (comp o)[j]:=List.getElem?_eq_getElem hj'
    have hs:=shL_succ (F:=F) hj'
    have hok:=comp_okl o j _ hn
    generalize (comp o)[j]=n at hn hs hok
    (try conv=>whnf);repeat' (first|(refine⟨_,_,rfl,idx_map (by with_reducible assumption),rfl,?_⟩;try conv=>whnf)|(refine PureFn.dcq (f:=120) rfl ?_;try conv=>whnf)|(refine⟨_,_,fm_uses ?_,?_,?_⟩;rotate_left 1;(focus first|(refine⟨?_,trivial⟩<;>first|exact PLe.refl _|exact PLe.nil)|exact trivial);try conv=>whnf)|fail)
    refine⟨{ z:Nd // z=shX F.length n },fun z=>[(2,.ref 0 0),(5,.buf 1 (shL F (comp o) j).length),(6,.pv (.int .i64 (k:Nat))),(8,.pv (.int .i64 (F.map Nd.pv).length)),(14,.pv (.sl (l.map fpv))),(15,.pv (.int .i64 (l.map fpv).length)),(16,.pv (.int .i64 (k:Nat))),(27,.pv (fpv (comp o))),(28,.pv (.int .i64 ((comp o).map Nd.pv).length)),(29,.pv (.int .i64 (j:Nat))),(10,.ref 2 0),(11,.ref 3 0)],fun _=>4,
     fun z=>[(0,.var y.dvs),(1,.arr 6 (shL F (comp o) j)),(2,.var z.1.dvs),(3,.var (usesDvs n.op))],?_,?_⟩
    ·(try conv=>whnf);repeat' (first|(apply And.intro<;>try conv=>whnf)|(intro h;try conv=>whnf)|fail)
     ·have:=hok.x h
      refine⟨⟨{ n with x:=n.x+F.length },by rw[shX,h];rfl⟩,?_⟩
      (refine Wk.of ?_ ?_ rfl rfl rfl<;>repeat' (first|exact trivial|exact WkD.same _|exact WkO.same _ _ rfl|refine WkD.int ?_|refine WkO.vars rfl ?_|refine⟨?_,?_⟩|fail))
      exact wrapA (by simp) (by rw[List.length_map];omega) (by rw[List.length_map];omega)
     ·exact⟨⟨n,by rw[shX,h];rfl⟩,(by exact Wk.sm rfl rfl rfl rfl rfl)⟩
    ·rintro⟨z,rfl⟩
     try conv=>whnf
     refine⟨{ z:Nd // z=shN F.length n },fun z=>[(2,.ref 0 0),(5,.buf 1 (shL F (comp o) j).length),(6,.pv (.int .i64 (k:Nat))),(8,.pv (.int .i64 (F.map Nd.pv).length)),(14,.pv (.sl (l.map fpv))),(15,.pv (.int .i64 (l.map fpv).length)),(16,.pv (.int .i64 (k:Nat))),(27,.pv (fpv (comp o))),(28,.pv (.int .i64 ((comp o).map Nd.pv).length)),(29,.pv (.int .i64 (j:Nat))),(10,.ref 2 0)],fun _=>3,
      fun z=>[(0,.var y.dvs),(1,.arr 6 (shL F (comp o) j)),(2,.var z.1.dvs)],?_,?_⟩
     ·(try conv=>whnf);repeat' (first|(apply And.intro<;>try conv=>whnf)|(intro h;try conv=>whnf)|fail)
      ·have:=hok.y h
       refine⟨⟨{ shX F.length n with y:=n.y+F.length },by rw[shN,h];rfl⟩,?_⟩
       (refine Wk.of ?_ ?_ rfl rfl rfl<;>repeat' (first|exact trivial|exact WkD.same _|exact WkO.same _ _ rfl|refine WkD.int ?_|refine WkO.vars rfl ?_|refine⟨?_,?_⟩|fail))
       refine (congrArg (fun v=>IntKind.wrap .i64 (v+((F.map Nd.pv).length:Int))) (shX_y F.length n)).trans ?_
       exact wrapA (by simp) (by rw[List.length_map];omega) (by rw[List.length_map];omega)
      ·exact⟨⟨shX F.length n,by rw[shN,h];rfl⟩,(by exact Wk.sm rfl rfl rfl rfl rfl)⟩
     ·rintro⟨z,rfl⟩
      (try conv=>whnf);repeat' (first|(apply And.intro<;>try conv=>whnf)|(apply cellsI;rfl)|(apply szI;rfl)|fail)
      ·show (shL F (comp o) j).length+1≤4294967296
       rw[shL_len hj];omega
      ·exact⟨⟨j+1,hj'⟩,by show (comp o).length-(j+1)<(comp o).length-j;omega,(by refine Wk.of ?_ ?_ rfl rfl rfl<;>repeat' (first|exact trivial|exact WkD.same _|exact WkO.same _ _ rfl|exact WkD.eq (congrArg (fun z:List PV=>DV.buf _ z.length) hs)|exact WkO.same _ _ (congrArg (fun z=>some (DObj.arr _ z)) hs)|refine WkD.int ?_|refine⟨?_,?_⟩|(refine wrapA ?_ ?_ ?_;(focus simp;done);(focus (try dsimp only);omega);(focus (try dsimp only);omega))|fail))⟩
   ·have hs:=bstep_t (y:=y) (F:=F) (o:=o) h
    have hj':j=(comp o).length:=by simp at *;omega
    subst hj'
    have hse:=shL_end F (comp o)
    rw[hs] at hb
    have hG:=okl_append hF (comp_okl o)
    have hGl:(F++(comp o).map (shN F.length)).length≤200*(k+1):=by rw[List.length_append,List.length_map];omega
    generalize (F++(comp o).map (shN F.length))=G at hse hb hG hGl
    have hGn:((shL F (comp o) (comp o).length).length:Int)=G.length:=by rw[hse,List.length_map]
    refine⟨⟨(k+1,{ y with x:=(G.length:Int)-1 },G),hk',hb,hG,hGl⟩,by show l.length-(k+1)<l.length-k;omega,?_⟩
    (refine Wk.of ?_ ?_ rfl rfl rfl<;>repeat' (first|exact trivial|exact WkD.same _|exact WkD.eq (congrArg (fun z:List PV=>DV.buf _ z.length) hse)|exact WkO.same _ _ (congrArg (fun z=>some (DObj.arr _ z)) hse)|refine WkD.int ?_|refine WkO.vars rfl ?_|refine⟨?_,?_⟩|(refine wrapA ?_ ?_ ?_;(focus simp;done);(focus (try dsimp only);omega);(focus (try dsimp only);omega))|fail))
    exact (congrArg (fun z:Int=>IntKind.wrap .i64 (z-1)) hGn).trans (wrapA rfl (by omega) (by omega))
   ·have hs:=bstep_f (y:=y) (F:=F) (o:=o) h
    have hj':j=(comp o).length:=by simp at *;omega
    subst hj'
    have hse:=shL_end F (comp o)
    rw[hs] at hb
    have hG:=okl_append hF (comp_okl o)
    have hGl:(F++(comp o).map (shN F.length)).length≤200*(k+1):=by rw[List.length_append,List.length_map];omega
    generalize (F++(comp o).map (shN F.length))=G at hse hb hG hGl
    have hGn:((shL F (comp o) (comp o).length).length:Int)=G.length:=by rw[hse,List.length_map]
    refine⟨⟨(k+1,{ y with y:=(G.length:Int)-1 },G),hk',hb,hG,hGl⟩,by show l.length-(k+1)<l.length-k;omega,?_⟩
    (refine Wk.of ?_ ?_ rfl rfl rfl<;>repeat' (first|exact trivial|exact WkD.same _|exact WkD.eq (congrArg (fun z:List PV=>DV.buf _ z.length) hse)|exact WkO.same _ _ (congrArg (fun z=>some (DObj.arr _ z)) hse)|refine WkD.int ?_|refine WkO.vars rfl ?_|refine⟨?_,?_⟩|(refine wrapA ?_ ?_ ?_;(focus simp;done);(focus (try dsimp only);omega);(focus (try dsimp only);omega))|fail))
    exact (congrArg (fun z:Int=>IntKind.wrap .i64 (z-1)) hGn).trans (wrapA rfl (by omega) (by omega))
 ·have hk':k=l.length:=by simp at *;omega
  subst hk'
  rw[List.drop_length] at he
  have hbl:buildL x l=bfin (y,F):=by rw[buildL,he];rfl
  rw[hbl]
  rw[bfin]
  simp only
  have hne:=fm_nodeError y (F.map Nd.pv).length
  have hFl':F.length≤400:=by omega
  (try conv=>whnf);repeat' (first|(apply And.intro<;>try conv=>whnf)|(intro h;try conv=>whnf)|(apply cellsI;rfl)|(apply szI;rfl)|(refine PureFn.dy hne rfl ?_;try conv=>whnf)|fail)
  ·rw[List.length_map] at h
   rw[h];exact .refl _
  ·show (F.map Nd.pv).length+1≤4294967296
   rw[List.length_map];omega
  ·rw[List.length_map] at h
   have hok:OkNd y F.length:=nodeErr_ok.1 (by simpa using h)
   have hcp:PureFn Tryz.prog 121 [.sl (F.map Nd.pv++[y.pv]),.int .i64 ((F.map Nd.pv).length:Int)] (fpv (canon (F++[y]) F.length)):=by
    have:=fm_compact (F++[y]) F.length (okl_snoc hF hok).wf (by simp) (by simp;omega)
    rw[show fpv (F++[y])=.sl (F.map Nd.pv++[y.pv]) from congrArg PV.sl List.map_append] at this
    rw[List.length_map];exact this
   rw[h]
   (try conv=>whnf);repeat' (first|(apply And.intro<;>try conv=>whnf)|(intro h;try conv=>whnf)|(apply bleI;rfl)|(refine PureFn.dcq (f:=121) rfl ?_;try conv=>whnf)|(refine⟨_,_,hcp,?_,?_⟩;(focus first|(refine⟨?_,?_,trivial⟩<;>first|exact PLe.refl _|exact PLe.nil)|exact trivial);try conv=>whnf)|fail)
   ·rw[List.length_map] at h
    rw[h];exact .refl _
   ·rw[List.length_map] at h
    rw[h];exact npv_ge (by intro e;have:=(canon_ok (okl_snoc hF hok) (show F.length<(F++[y]).length by simp)).2;rw[e] at this;simp at this)
theorem fm_build (x:Nd) (l:List (List Nd)) (hl:l.length≤2):PureFn Tryz.prog 89 [x.pv,.sl (l.map fpv)] (fpv (buildL x l)) :=
 have h:=fm_buildN x l hl
 PureFn.mk ⟨h.elim.1,fun M w vs hG hM hrel=>(h.elim.2 M w vs hG hM hrel).mono fun _ _ ⟨v,he,hv,hb⟩=>⟨v,he,(npv_le (buildL x l)).rel hv,hb⟩⟩
def n0 (op:Int):Nd:=⟨op,0,0,0,0,0⟩
def nI (op i:Int):Nd:=⟨op,i,0,0,0,0⟩
def nG (op g:Int):Nd:=⟨op,0,0,g,0,0⟩
theorem fm_True:PureFn Tryz.prog 36 [] (fpv (buildL (n0 1) [])):=by
 refine PureFn.intro mixed (fn:=Tryz.f36) rfl rfl rfl fun M w0 => ?_
 have hb:=fm_build (n0 1) [] (by simp)
 (try conv=>whnf);repeat' (first|(refine PureFn.dcq (f:=89) rfl ?_;try conv=>whnf)|(refine⟨_,_,hb,?_,?_⟩;(focus first|(refine⟨?_,?_,trivial⟩<;>first|exact PLe.refl _|exact PLe.nil)|exact trivial);try conv=>whnf)|fail)
 exact .refl _
theorem fm_False:PureFn Tryz.prog 53 [] (fpv (buildL (n0 2) [])):=by
 refine PureFn.intro mixed (fn:=Tryz.f53) rfl rfl rfl fun M w0 => ?_
 have hb:=fm_build (n0 2) [] (by simp)
 (try conv=>whnf);repeat' (first|(refine PureFn.dcq (f:=89) rfl ?_;try conv=>whnf)|(refine⟨_,_,hb,?_,?_⟩;(focus first|(refine⟨?_,?_,trivial⟩<;>first|exact PLe.refl _|exact PLe.nil)|exact trivial);try conv=>whnf)|fail)
 exact .refl _
theorem fm_Fact (i:Int):PureFn Tryz.prog 83 [.int .i64 i] (fpv (buildL (nI 3 i) [])):=by
 refine PureFn.intro mixed (fn:=Tryz.f83) rfl rfl rfl fun M w0 => ?_
 have hb:=fm_build (nI 3 i) [] (by simp)
 (try conv=>whnf);repeat' (first|(refine PureFn.dcq (f:=89) rfl ?_;try conv=>whnf)|(refine⟨_,_,hb,?_,?_⟩;(focus first|(refine⟨?_,?_,trivial⟩<;>first|exact PLe.refl _|exact PLe.nil)|exact trivial);try conv=>whnf)|fail)
 exact .refl _
theorem fm_Not (f:List Nd):PureFn Tryz.prog 37 [fpv f] (fpv (buildL (n0 4) [f])):=by
 refine PureFn.intro mixed (fn:=Tryz.f37) rfl rfl rfl fun M w0 => ?_
 have hb:=fm_build (n0 4) [f] (by simp)
 (try conv=>whnf);repeat' (first|(apply And.intro<;>try conv=>whnf)|(apply cellsI;rfl)|(refine PureFn.dy hb rfl ?_;try conv=>whnf)|fail)
 exact .refl _
theorem fm_And (f:List Nd) (g:List Nd):PureFn Tryz.prog 32 [fpv f,fpv g] (fpv (buildL (n0 5) [f,g])):=by
 refine PureFn.intro mixed (fn:=Tryz.f32) rfl rfl rfl fun M w0 => ?_
 have hb:=fm_build (n0 5) [f,g] (by simp)
 (try conv=>whnf);repeat' (first|(apply And.intro<;>try conv=>whnf)|(apply cellsI;rfl)|(refine PureFn.dy hb rfl ?_;try conv=>whnf)|fail)
 exact .refl _
theorem fm_Or (f:List Nd) (g:List Nd):PureFn Tryz.prog 186 [fpv f,fpv g] (fpv (buildL (n0 6) [f,g])):=by
 refine PureFn.intro mixed (fn:=Tryz.f186) rfl rfl rfl fun M w0 => ?_
 have hb:=fm_build (n0 6) [f,g] (by simp)
 (try conv=>whnf);repeat' (first|(apply And.intro<;>try conv=>whnf)|(apply cellsI;rfl)|(refine PureFn.dy hb rfl ?_;try conv=>whnf)|fail)
 exact .refl _
theorem fm_Imp (f:List Nd) (g:List Nd):PureFn Tryz.prog 34 [fpv f,fpv g] (fpv (buildL (n0 7) [f,g])):=by
 refine PureFn.intro mixed (fn:=Tryz.f34) rfl rfl rfl fun M w0 => ?_
 have hb:=fm_build (n0 7) [f,g] (by simp)
 (try conv=>whnf);repeat' (first|(apply And.intro<;>try conv=>whnf)|(apply cellsI;rfl)|(refine PureFn.dy hb rfl ?_;try conv=>whnf)|fail)
 exact .refl _
theorem fm_Iff (f:List Nd) (g:List Nd):PureFn Tryz.prog 187 [fpv f,fpv g] (fpv (buildL (n0 8) [f,g])):=by
 refine PureFn.intro mixed (fn:=Tryz.f187) rfl rfl rfl fun M w0 => ?_
 have hb:=fm_build (n0 8) [f,g] (by simp)
 (try conv=>whnf);repeat' (first|(apply And.intro<;>try conv=>whnf)|(apply cellsI;rfl)|(refine PureFn.dy hb rfl ?_;try conv=>whnf)|fail)
 exact .refl _
theorem fm_Know (i:Int) (f:List Nd):PureFn Tryz.prog 188 [.int .i64 i,fpv f] (fpv (buildL (nI 9 i) [f])):=by
 refine PureFn.intro mixed (fn:=Tryz.f188) rfl rfl rfl fun M w0 => ?_
 have hb:=fm_build (nI 9 i) [f] (by simp)
 (try conv=>whnf);repeat' (first|(apply And.intro<;>try conv=>whnf)|(apply cellsI;rfl)|(refine PureFn.dy hb rfl ?_;try conv=>whnf)|fail)
 exact .refl _
theorem fm_Poss (i:Int) (f:List Nd):PureFn Tryz.prog 153 [.int .i64 i,fpv f] (fpv (buildL (nI 10 i) [f])):=by
 refine PureFn.intro mixed (fn:=Tryz.f153) rfl rfl rfl fun M w0 => ?_
 have hb:=fm_build (nI 10 i) [f] (by simp)
 (try conv=>whnf);repeat' (first|(apply And.intro<;>try conv=>whnf)|(apply cellsI;rfl)|(refine PureFn.dy hb rfl ?_;try conv=>whnf)|fail)
 exact .refl _
theorem fm_Every (i:Int) (f:List Nd):PureFn Tryz.prog 189 [.int .i64 i,fpv f] (fpv (buildL (nG 11 i) [f])):=by
 refine PureFn.intro mixed (fn:=Tryz.f189) rfl rfl rfl fun M w0 => ?_
 have hb:=fm_build (nG 11 i) [f] (by simp)
 (try conv=>whnf);repeat' (first|(apply And.intro<;>try conv=>whnf)|(apply cellsI;rfl)|(refine PureFn.dy hb rfl ?_;try conv=>whnf)|fail)
 exact .refl _
theorem fm_Dist (i:Int) (f:List Nd):PureFn Tryz.prog 190 [.int .i64 i,fpv f] (fpv (buildL (nG 12 i) [f])):=by
 refine PureFn.intro mixed (fn:=Tryz.f190) rfl rfl rfl fun M w0 => ?_
 have hb:=fm_build (nG 12 i) [f] (by simp)
 (try conv=>whnf);repeat' (first|(apply And.intro<;>try conv=>whnf)|(apply cellsI;rfl)|(refine PureFn.dy hb rfl ?_;try conv=>whnf)|fail)
 exact .refl _
theorem fm_Common (i:Int) (f:List Nd) (g:List Nd):PureFn Tryz.prog 154 [.int .i64 i,fpv f,fpv g] (fpv (buildL (nG 13 i) [f,g])):=by
 refine PureFn.intro mixed (fn:=Tryz.f154) rfl rfl rfl fun M w0 => ?_
 have hb:=fm_build (nG 13 i) [f,g] (by simp)
 (try conv=>whnf);repeat' (first|(apply And.intro<;>try conv=>whnf)|(apply cellsI;rfl)|(refine PureFn.dy hb rfl ?_;try conv=>whnf)|fail)
 exact .refl _
theorem take_eqL {a b:List (List Nd)} {i:Nat} (h:a.take i=b.take i) (hl:a.length=b.length) (hi:i<a.length):(a[i]=b[i]'(by omega)→a.take (i+1)=b.take (i+1))∧(¬ a[i]=b[i]'(by omega)→¬ a=b):=by
 refine⟨fun e => ?_,fun e q=>e (by subst q;rfl)⟩
 rw[List.take_succ_eq_append_getElem hi,List.take_succ_eq_append_getElem (by omega),h,e]
theorem ref_SameLists (a b:List (List Nd)) (ha:a.length≤1000000) (hb:∀ f,f∈a→f.length≤1000000):PureFn Tryz.prog 65 [.sl (a.map fpv),.sl (b.map fpv)] (.bool (decide (a=b))):=by
 refine PureFn.intro mixed (fn:=Tryz.f65) rfl rfl rfl fun M w0 => ?_
 (try conv=>whnf);repeat' (first|(apply And.intro<;>try conv=>whnf)|(intro h;try conv=>whnf)|fail)
 ·refine le_bool ?_
  have:¬ a.length=b.length:=by simp at h;omega
  exact (decide_eq_false fun e=>this (by rw[e])).symm
 ·have hl:a.length=b.length:=by simp at h;omega
  refine⟨{ i:Nat // i≤a.length∧a.take i=b.take i },fun i=>[(0,.pv (.sl (a.map fpv))),(1,.pv (.sl (b.map fpv))),(5,.pv (.int .i64 (i.1:Nat)))],fun _=>0,fun _=>[],fun i=>a.length-i.1,
   ⟨⟨0,Nat.zero_le _,rfl⟩,(by exact Wk.sm rfl rfl rfl rfl rfl)⟩,?_⟩
  rintro⟨i,hi,he⟩
  (try conv=>whnf);repeat' (first|(apply And.intro<;>try conv=>whnf)|(intro h;try conv=>whnf)|(apply infoT;rfl)|(refine lin_plan (by kernel_rfl) ?_;try conv=>whnf)|fail)
  ·have hi':i<a.length:=by simpa using h
   have hn:a[i]? = some a[i]:=List.getElem?_eq_getElem hi'
   have hm:b[i]? = some (b[i]'(by omega)):=List.getElem?_eq_getElem (by omega)
   obtain⟨t1,t2⟩:=take_eqL he hl hi'
   have hEq:=ref_Equal a[i] (b[i]'(by omega)) (hb _ (List.getElem_mem hi'))
   (try conv=>whnf);repeat' (first|(apply And.intro<;>try conv=>whnf)|(intro h;try conv=>whnf)|(apply infoT;rfl)|(refine⟨_,_,rfl,idx_map (by with_reducible assumption),rfl,?_⟩;try conv=>whnf)|(refine⟨_,(by (conv=>whnf);exact hEq),rfl,?_⟩;try conv=>whnf)|fail)
   ·have hx:¬ a[i]=b[i]'(by omega):=by simpa using h
    exact le_bool (decide_eq_false (t2 hx)).symm
   ·have hx:a[i]=b[i]'(by omega):=by simpa using h
    exact⟨⟨i+1,hi',t1 hx⟩,by show a.length-(i+1)<a.length-i;omega,(by refine Wk.of ?_ ?_ rfl rfl rfl<;>repeat' (first|exact trivial|exact WkD.same _|refine WkD.int ?_|refine⟨?_,?_⟩|(refine wrapA ?_ ?_ ?_;(focus simp;done);(focus (try dsimp only);omega);(focus (try dsimp only);omega))|fail))⟩
  ·have hi':¬ i<a.length:=by simpa using h
   refine le_bool ?_
   rw[List.take_of_length_le (by omega),List.take_of_length_le (by omega)] at he
   exact (decide_eq_true he).symm
inductive Tr where
 |none
 |nd (op i e g:Int) (x y:Tr)
 deriving DecidableEq
def trn (f:List Nd):Nat→Nat→Tr
 |0,_=>.none
 |n+1,i=>match f[i]? with
  |none=>.none
  |some x=>.nd x.op x.i x.e x.g (bif usesX x.op then trn f n x.x.toNat else .none) (bif usesY x.op then trn f n x.y.toNat else .none)
def tree (f:List Nd) (i:Nat):Tr:=trn f (i+1) i
def finT:Tr→List Nd→Nat×List Nd
 |.none,out=>(0,out)
 |.nd op i e g a b,out=>putN (finT b (finT a out).2).2 ⟨op,i,e,g,((finT a out).1:Int),((finT b (finT a out).2).1:Int)⟩
def Tr.size:Tr→Nat
 |.none=>0
 |.nd _ _ _ _ a b=>a.size+b.size+1
theorem trn_fuel {f:List Nd} (hf:Okl f):∀ (n m i:Nat),i<n→i<m→trn f n i=trn f m i
 |0,_,i,h,_=>by omega
 |_+1,0,i,_,h=>by omega
 |n+1,m+1,i,hn,hm=>by
  simp only[trn]
  cases hx:f[i]? with
  |none=>rfl
  |some x =>
   have ok:=hf i x hx
   simp only
   have e1:(bif usesX x.op then trn f n x.x.toNat else .none)=(bif usesX x.op then trn f m x.x.toNat else .none):=by
    cases hu:usesX x.op with
    |false=>rfl
    |true=>have:=ok.x hu;exact trn_fuel hf n m x.x.toNat (by omega) (by omega)
   have e2:(bif usesY x.op then trn f n x.y.toNat else .none)=(bif usesY x.op then trn f m x.y.toNat else .none):=by
    cases hu:usesY x.op with
    |false=>rfl
    |true=>have:=ok.y hu;exact trn_fuel hf n m x.y.toNat (by omega) (by omega)
   rw[e1,e2]
theorem trn_succ {f:List Nd} {n i:Nat} {x:Nd} (hx:f[i]? = some x):trn f (n+1) i=.nd x.op x.i x.e x.g (bif usesX x.op then trn f n x.x.toNat else .none) (bif usesY x.op then trn f n x.y.toNat else .none):=by
 simp only[trn,hx]
theorem tree_nd {f:List Nd} (hf:Okl f) {i:Nat} {x:Nd} (hx:f[i]? = some x) :
  tree f i=.nd x.op x.i x.e x.g (bif usesX x.op then tree f x.x.toNat else .none) (bif usesY x.op then tree f x.y.toNat else .none):=by
 have ok:=hf i x hx
 have e0:tree f i=_:=trn_succ (n:=i) hx
 rw[e0]
 unfold tree
 have e1:(bif usesX x.op then trn f i x.x.toNat else .none)=(bif usesX x.op then trn f (x.x.toNat+1) x.x.toNat else .none):=by
  cases hu:usesX x.op with
  |false=>rfl
  |true=>have:=ok.x hu;exact trn_fuel hf _ _ _ (by omega) (by omega)
 have e2:(bif usesY x.op then trn f i x.y.toNat else .none)=(bif usesY x.op then trn f (x.y.toNat+1) x.y.toNat else .none):=by
  cases hu:usesY x.op with
  |false=>rfl
  |true=>have:=ok.y hu;exact trn_fuel hf _ _ _ (by omega) (by omega)
 rw[e1,e2]
theorem trn_append (f t:List Nd) (hf:Okl f):∀ (n i:Nat),i<f.length→trn (f++t) n i=trn f n i
 |0,_,_=>rfl
 |n+1,i,hi=>by
  simp only[trn]
  rw[List.getElem?_append_left hi,List.getElem?_eq_getElem hi]
  have ok:=hf i _ (List.getElem?_eq_getElem hi)
  generalize f[i]=x at ok
  simp only
  have e1:(bif usesX x.op then trn (f++t) n x.x.toNat else .none)=(bif usesX x.op then trn f n x.x.toNat else .none):=by
   cases hu:usesX x.op with
   |false=>rfl
   |true=>have:=ok.x hu;exact trn_append f t hf n x.x.toNat (by omega)
  have e2:(bif usesY x.op then trn (f++t) n x.y.toNat else .none)=(bif usesY x.op then trn f n x.y.toNat else .none):=by
   cases hu:usesY x.op with
   |false=>rfl
   |true=>have:=ok.y hu;exact trn_append f t hf n x.y.toNat (by omega)
  rw[e1,e2]
theorem tree_append {f t:List Nd} (hf:Okl f) {i:Nat} (hi:i<f.length):tree (f++t) i=tree f i:=trn_append f t hf _ _ hi
theorem idx_none {x:Nd}:∀ {out:List Nd} {i:Nat},idx x out i=none↔x∉out
 | [],i=>by simp[idx]
 |n::r,i=>by
  simp only[idx,List.mem_cons,not_or]
  by_cases e:n=x
  ·rw[if_pos e];subst e;simp
  ·rw[if_neg e,idx_none]
   exact⟨fun h=>⟨fun q=>e q.symm,h⟩,fun h=>h.2⟩
theorem idx_of {x:Nd} {out:List Nd} (hn:out.Nodup) {v:Nat} (hv:out[v]? = some x):idx x out 0=some v:=by
 cases h:idx x out 0 with
 |none=>exact absurd (List.mem_iff_getElem?.2 ⟨v,hv⟩) (idx_none.1 h)
 |some k =>
  have h2:=(idx_some h).2
  simp only[Nat.sub_zero] at h2
  obtain⟨l1,e1⟩:=List.getElem?_eq_some_iff.1 h2
  obtain⟨l2,e2⟩:=List.getElem?_eq_some_iff.1 hv
  rw[(List.getElem_inj hn).1 (e1.trans e2.symm)]
theorem putN_nodup {out:List Nd} {x:Nd} (hn:out.Nodup):(putN out x).2.Nodup:=by
 unfold putN
 cases h:idx x out 0 with
 |some k=>exact hn
 |none =>
  have:=idx_none.1 h
  simp only
  rw[List.nodup_append]
  refine⟨hn,by simp,fun a ha b hb => ?_⟩
  simp at hb;subst hb
  intro e;subst e;exact this ha
theorem finT_old {out:List Nd} (ho:Okl out) (hn:out.Nodup):∀ (t:Tr) (v:Nat),v<out.length→tree out v=t→finT t out=(v,out)
 |.none,v,hv,ht=>by
  rw[tree_nd ho (List.getElem?_eq_getElem hv)] at ht
  cases ht
 |.nd op i e g a b,v,hv,ht=>by
  have hx:out[v]? = some out[v]:=List.getElem?_eq_getElem hv
  have ok:=ho v _ hx
  rw[tree_nd ho hx] at ht
  generalize hxx:out[v]=x at hx ok ht
  simp only[Tr.nd.injEq] at ht
  obtain⟨h1,h2,h3,h4,ha,hb⟩:=ht
  have fa:finT a out=(x.x.toNat,out):=by
   cases hu:usesX x.op with
   |false=>rw[hu] at ha;subst ha;rw[ok.nox hu];rfl
   |true =>
    rw[hu] at ha
    have:=ok.x hu
    exact finT_old ho hn a x.x.toNat (by omega) ha
  have fb:finT b out=(x.y.toNat,out):=by
   cases hu:usesY x.op with
   |false=>rw[hu] at hb;subst hb;rw[ok.noy hu];rfl
   |true =>
    rw[hu] at hb
    have:=ok.y hu
    exact finT_old ho hn b x.y.toNat (by omega) hb
  have hz:(⟨op,i,e,g,((finT a out).1:Int),((finT b (finT a out).2).1:Int)⟩:Nd)=x:=by
   rw[fa];simp only;rw[fb]
   have p1:0≤x.x:=by cases hu:usesX x.op with
    |false=>rw[ok.nox hu];exact Int.le_refl 0
    |true=>exact (ok.x hu).1
   have p2:0≤x.y:=by cases hu:usesY x.op with
    |false=>rw[ok.noy hu];exact Int.le_refl 0
    |true=>exact (ok.y hu).1
   cases x
   simp only at h1 h2 h3 h4 p1 p2
   subst h1;subst h2;subst h3;subst h4
   simp only[Nd.mk.injEq,true_and]
   exact⟨by omega,by omega⟩
  simp only[finT]
  rw[hz,fa];simp only;rw[fb];simp only
  rw[putN,idx_of hn hx]
structure InvT (f:List Nd) (s:List Nd×List (Nat×Nat)):Prop where
 ok:Okl s.1
 nodup:s.1.Nodup
 ds:∀ j v,look j s.2=some v→v<s.1.length∧tree s.1 v=tree f j
structure FinTr (f:List Nd) (s t:List Nd×List (Nat×Nat)) (k:Nat) (T:Tr):Prop where
 inv:InvT f t
 lt:k<t.1.length
 val:tree t.1 k=T
 ext:∃ u,t.1=s.1++u
 eq:finT T s.1=(k,t.1)
theorem fin_tree {f:List Nd} (hf:Okl f):∀ (n i:Nat) (s:List Nd×List (Nat×Nat)),i<n→i<f.length→InvT f s→FinTr f s (fin f n i s).2 (fin f n i s).1 (tree f i)
 |0,i,s,h,_,_=>by omega
 |n+1,i,s,hin,hif,hs=>by
  cases hl:look i s.2 with
  |some k =>
   simp only[fin,hl]
   obtain⟨h1,h2⟩:=hs.ds i k hl
   exact⟨hs,h1,h2,⟨[],by simp⟩,finT_old hs.ok hs.nodup _ k h1 h2⟩
  |none =>
   have hn:f[i]? = some f[i]:=List.getElem?_eq_getElem hif
   generalize hx:f[i]=x at hn
   have hok:=hf i x hn
   rw[fin_none hl hn,tree_nd hf hn]
   have hA:InvT f (opA f n x s).2∧(usesX x.op=true→(opA f n x s).1<(opA f n x s).2.1.length∧tree (opA f n x s).2.1 (opA f n x s).1=tree f x.x.toNat)∧(∃ u,(opA f n x s).2.1=s.1++u) ∧
     finT (bif usesX x.op then tree f x.x.toNat else .none) s.1=((opA f n x s).1,(opA f n x s).2.1):=by
    unfold opA
    cases hu:usesX x.op with
    |false=>exact⟨hs,(fun h=>by cases h),⟨[],by simp⟩,rfl⟩
    |true =>
     have:=hok.x hu
     have q:=fin_tree hf n x.x.toNat s (by omega) (by omega) hs
     exact⟨q.inv,fun _=>⟨q.lt,q.val⟩,q.ext,q.eq⟩
   generalize opA f n x s=A at hA ⊢
   obtain⟨a1,a2,⟨ua,a3⟩,a4⟩:=hA
   have hB:InvT f (opB f n x A.2).2∧(usesY x.op=true→(opB f n x A.2).1<(opB f n x A.2).2.1.length∧tree (opB f n x A.2).2.1 (opB f n x A.2).1=tree f x.y.toNat)∧(∃ u,(opB f n x A.2).2.1=A.2.1++u) ∧
     finT (bif usesY x.op then tree f x.y.toNat else .none) A.2.1=((opB f n x A.2).1,(opB f n x A.2).2.1):=by
    unfold opB
    cases hu:usesY x.op with
    |false=>exact⟨a1,(fun h=>by cases h),⟨[],by simp⟩,rfl⟩
    |true =>
     have:=hok.y hu
     have q:=fin_tree hf n x.y.toNat A.2 (by omega) (by omega) a1
     exact⟨q.inv,fun _=>⟨q.lt,q.val⟩,q.ext,q.eq⟩
   generalize opB f n x A.2=B at hB ⊢
   obtain⟨b1,b2,⟨ub,b3⟩,b4⟩:=hB
   have hz:OkNd (ndZ x A.1 B.1) B.2.1.length:=ndZ_ok hok (fun u=>by have:=(a2 u).1;rw[b3,List.length_append];omega) (fun u=>(b2 u).1)
   change FinTr f s ((putN B.2.1 (ndZ x A.1 B.1)).2,dput i (putN B.2.1 (ndZ x A.1 B.1)).1 B.2.2) (putN B.2.1 (ndZ x A.1 B.1)).1 _
   obtain⟨p1,p2,t,p3,_⟩:=putN_spec B.2.1 (ndZ x A.1 B.1)
   have pok:=putN_ok b1.ok hz
   have hval:tree (putN B.2.1 (ndZ x A.1 B.1)).2 (putN B.2.1 (ndZ x A.1 B.1)).1=.nd x.op x.i x.e x.g (bif usesX x.op then tree f x.x.toNat else .none) (bif usesY x.op then tree f x.y.toNat else .none):=by
    rw[tree_nd pok p1,ndZ_op,ndZ_i,ndZ_e,ndZ_g,ndZ_x,ndZ_y]
    congr 1
    ·cases hu:usesX x.op with
     |false=>rfl
     |true =>
      have:=a2 hu
      simp only[cond_true,Int.toNat_natCast]
      rw[p3,tree_append b1.ok (by rw[b3,List.length_append];omega),b3,tree_append a1.ok this.1]
      exact this.2
    ·cases hu:usesY x.op with
     |false=>rfl
     |true =>
      have:=b2 hu
      simp only[cond_true,Int.toNat_natCast]
      rw[p3,tree_append b1.ok this.1]
      exact this.2
   refine⟨⟨pok,putN_nodup b1.nodup,fun j v hv => ?_⟩,p2,hval,⟨ua++ub++t,by simp only;rw[p3,b3,a3];simp[List.append_assoc]⟩,?_⟩
   ·simp only[look_dput] at hv
    by_cases e:j=i
    ·rw[if_pos e] at hv;simp at hv;subst hv;subst e
     exact⟨p2,by rw[tree_nd hf hn];exact hval⟩
    ·rw[if_neg e] at hv
     obtain⟨g1,g2⟩:=b1.ds j v hv
     simp only
     refine⟨by rw[p3,List.length_append];omega,?_⟩
     rw[p3,tree_append b1.ok g1];exact g2
   ·simp only[finT]
    rw[a4];simp only;rw[b4];simp only
    have e:(⟨x.op,x.i,x.e,x.g,(A.1:Int),(B.1:Int)⟩:Nd)=ndZ x A.1 B.1:=by
     have q1:usesX x.op=false→(A.1:Int)=x.x:=fun u=>by
      rw[u] at a4
      have:A.1=0:=(congrArg Prod.fst a4).symm
      rw[this,hok.nox u];rfl
     have q2:usesY x.op=false→(B.1:Int)=x.y:=fun u=>by
      rw[u] at b4
      have:B.1=0:=(congrArg Prod.fst b4).symm
      rw[this,hok.noy u];rfl
     unfold ndZ ndB ndA
     cases u1:usesX x.op<;>cases u2:usesY x.op<;>cases x<;>simp_all
    rw[e]
theorem invT_nil (f:List Nd):InvT f ([],[]):=⟨fun i x h=>by simp at h,List.nodup_nil,fun j v h=>by simp[look] at h⟩
theorem canon_tree {f:List Nd} (hf:Okl f) {i:Nat} (hi:i<f.length):canon f i=(finT (tree f i) []).2:=by
 have q:=fin_tree hf (i+1) i ([],[]) (by omega) hi (invT_nil f)
 rw[q.eq];rfl
theorem canon_nodup {f:List Nd} (hf:Okl f) {i:Nat} (hi:i<f.length):(canon f i).Nodup:=(fin_tree hf (i+1) i ([],[]) (by omega) hi (invT_nil f)).inv.nodup
theorem opA_tree {f:List Nd} (hf:Okl f) {n i:Nat} {x:Nd} (hx:f[i]? = some x) (hin:i<n+1) (hif:i<f.length) {s:List Nd×List (Nat×Nat)} (hs:InvT f s) :
  InvT f (opA f n x s).2∧(usesX x.op=true→FinTr f s (opA f n x s).2 (opA f n x s).1 (tree f x.x.toNat))∧∃ u,(opA f n x s).2.1=s.1++u:=by
 have hok:=hf i x hx
 unfold opA
 cases hu:usesX x.op with
 |false=>exact⟨hs,(fun h=>by cases h),⟨[],by simp⟩⟩
 |true =>
  have:=hok.x hu
  have q:=fin_tree hf n x.x.toNat s (by omega) (by omega) hs
  exact⟨q.inv,fun _=>q,q.ext⟩
theorem opB_tree {f:List Nd} (hf:Okl f) {n i:Nat} {x:Nd} (hx:f[i]? = some x) (hin:i<n+1) (hif:i<f.length) {s:List Nd×List (Nat×Nat)} (hs:InvT f s) :
  InvT f (opB f n x s).2∧(usesY x.op=true→FinTr f s (opB f n x s).2 (opB f n x s).1 (tree f x.y.toNat))∧∃ u,(opB f n x s).2.1=s.1++u:=by
 have hok:=hf i x hx
 unfold opB
 cases hu:usesY x.op with
 |false=>exact⟨hs,(fun h=>by cases h),⟨[],by simp⟩⟩
 |true =>
  have:=hok.y hu
  have q:=fin_tree hf n x.y.toNat s (by omega) (by omega) hs
  exact⟨q.inv,fun _=>q,q.ext⟩
theorem fin_size {f:List Nd} (hf:Okl f):∀ (n i:Nat) (s:List Nd×List (Nat×Nat)),i<n→i<f.length→InvT f s →
  ∀ v,s.1.length≤v→v<(fin f n i s).2.1.length→(tree (fin f n i s).2.1 v).size≤(tree f i).size∧(v≠(fin f n i s).1→(tree (fin f n i s).2.1 v).size<(tree f i).size)
 |0,i,s,h,_,_=>by omega
 |n+1,i,s,hin,hif,hs=>by
  intro v hv1 hv2
  have q:=fin_tree hf (n+1) i s hin hif hs
  cases hl:look i s.2 with
  |some k=>simp only[fin,hl] at hv2;omega
  |none =>
   have hn:f[i]? = some f[i]:=List.getElem?_eq_getElem hif
   generalize hx:f[i]=x at hn
   have hok:=hf i x hn
   have hsz:(tree f i).size=(bif usesX x.op then tree f x.x.toNat else .none).size+(bif usesY x.op then tree f x.y.toNat else .none).size+1:=by rw[tree_nd hf hn];rfl
   obtain⟨a1,a2,ua,a3⟩:=opA_tree hf hn hin hif hs
   obtain⟨b1,b2,ub,b3⟩:=opB_tree hf hn hin hif a1
   have sA:∀ v,s.1.length≤v→v<(opA f n x s).2.1.length→(tree (opA f n x s).2.1 v).size<(tree f i).size:=by
    intro v h1 h2
    cases hu:usesX x.op with
    |false=>rw[opA,hu] at h2;simp only[cond_false] at h2;omega
    |true =>
     have:=hok.x hu
     have e:opA f n x s=fin f n x.x.toNat s:=by rw[opA,hu];rfl
     rw[e] at h2 ⊢
     have:=(fin_size hf n x.x.toNat s (by omega) (by omega) hs v h1 h2).1
     rw[hsz,hu];simp only[cond_true];omega
   have sB:∀ v,(opA f n x s).2.1.length≤v→v<(opB f n x (opA f n x s).2).2.1.length→(tree (opB f n x (opA f n x s).2).2.1 v).size<(tree f i).size:=by
    intro v h1 h2
    cases hu:usesY x.op with
    |false=>rw[opB,hu] at h2;simp only[cond_false] at h2;omega
    |true =>
     have:=hok.y hu
     have e:opB f n x (opA f n x s).2=fin f n x.y.toNat (opA f n x s).2:=by rw[opB,hu];rfl
     rw[e] at h2 ⊢
     have:=(fin_size hf n x.y.toNat (opA f n x s).2 (by omega) (by omega) a1 v h1 h2).1
     rw[hsz,hu];simp only[cond_true];omega
   have hval:=q.val
   have hok':=q.inv.ok
   rw[fin_none hl hn] at hv2 hval hok' ⊢
   generalize opA f n x s=A at *
   generalize opB f n x A.2=B at *
   obtain⟨p1,p2,t,p3,p4⟩:=putN_spec B.2.1 (ndB x.op (ndA x A.1) B.1)
   simp only at hv2 hval hok' ⊢
   rcases Nat.lt_or_ge v B.2.1.length with hlt|hge
   ·have e:tree (putN B.2.1 (ndB x.op (ndA x A.1) B.1)).2 v=tree B.2.1 v:=by rw[p3,tree_append b1.ok hlt]
    rw[e]
    have:(tree B.2.1 v).size<(tree f i).size:=by
     rcases Nat.lt_or_ge v A.2.1.length with h1|h1
     ·rw[b3,tree_append a1.ok h1];exact sA v hv1 h1
     ·exact sB v h1 hlt
    exact⟨by omega,fun _=>this⟩
   ·have hvk:v=(putN B.2.1 (ndB x.op (ndA x A.1) B.1)).1:=by
     unfold putN at hv2 ⊢
     cases h:idx (ndB x.op (ndA x A.1) B.1) B.2.1 0 with
     |some k=>rw[h] at hv2;simp only at hv2;omega
     |none=>rw[h] at hv2;simp at hv2;simp only;omega
    rw[hvk,hval]
    exact⟨Nat.le_refl _,fun h=>absurd rfl h⟩
theorem kid_size {f:List Nd} (hf:Okl f) {n i:Nat} {x:Nd} (hn:f[i]? = some x) (hin:i<n+1) (hif:i<f.length) {s:List Nd×List (Nat×Nat)} (hs:InvT f s) :
  ∀ v,s.1.length≤v→v<(opB f n x (opA f n x s).2).2.1.length→(tree (opB f n x (opA f n x s).2).2.1 v).size<(tree f i).size:=by
 have hok:=hf i x hn
 have hsz:(tree f i).size=(bif usesX x.op then tree f x.x.toNat else .none).size+(bif usesY x.op then tree f x.y.toNat else .none).size+1:=by rw[tree_nd hf hn];rfl
 obtain⟨a1,a2,ua,a3⟩:=opA_tree hf hn hin hif hs
 obtain⟨b1,b2,ub,b3⟩:=opB_tree hf hn hin hif a1
 intro v hv1 hlt
 rcases Nat.lt_or_ge v (opA f n x s).2.1.length with h1|h1
 ·rw[b3,tree_append a1.ok h1]
  cases hu:usesX x.op with
  |false=>rw[opA,hu] at h1;simp only[cond_false] at h1;omega
  |true =>
   have:=hok.x hu
   have e:opA f n x s=fin f n x.x.toNat s:=by rw[opA,hu];rfl
   rw[e] at h1 ⊢
   have:=(fin_size hf n x.x.toNat s (by omega) (by omega) hs v hv1 h1).1
   rw[hsz,hu];simp only[cond_true];omega
 ·cases hu:usesY x.op with
  |false=>rw[opB,hu] at hlt;simp only[cond_false] at hlt;omega
  |true =>
   have:=hok.y hu
   have e:opB f n x (opA f n x s).2=fin f n x.y.toNat (opA f n x s).2:=by rw[opB,hu];rfl
   rw[e] at hlt ⊢
   have:=(fin_size hf n x.y.toNat (opA f n x s).2 (by omega) (by omega) a1 v h1 hlt).1
   rw[hsz,hu];simp only[cond_true];omega
theorem canon_root {f:List Nd} (hf:Okl f) {i:Nat} (hi:i<f.length):(canon f i).length≠0∧tree (canon f i) ((canon f i).length-1)=tree f i:=by
 have q:=fin_tree hf (i+1) i ([],[]) (by omega) hi (invT_nil f)
 have hs:=fin_size hf (i+1) i ([],[]) (by omega) hi (invT_nil f)
 have hlt:=q.lt
 have hval:=q.val
 have hok:=q.inv.ok
 refine⟨by unfold canon;omega,?_⟩
 have hlast:(fin f (i+1) i ([],[])).1=(canon f i).length-1:=by
  have hn:f[i]? = some f[i]:=List.getElem?_eq_getElem hi
  generalize hx:f[i]=x at hn
  obtain⟨a1,_,_⟩:=opA_tree hf hn (by omega) hi (invT_nil f) (n:=i)
  obtain⟨b1,_,_⟩:=opB_tree hf hn (by omega) hi a1 (n:=i)
  have hkid:=kid_size hf hn (by omega) hi (invT_nil f) (n:=i)
  unfold canon
  rw[fin_none (f:=f) (n:=i) (s:=([],[])) rfl hn] at hval ⊢
  simp only at hval ⊢
  generalize opA f i x ([],[])=A at *
  generalize opB f i x A.2=B at *
  obtain⟨p1,p2,t,p3,_⟩:=putN_spec B.2.1 (ndB x.op (ndA x A.1) B.1)
  cases h:idx (ndB x.op (ndA x A.1) B.1) B.2.1 0 with
  |none=>unfold putN;rw[h];simp
  |some k =>
   exfalso
   have hp:putN B.2.1 (ndB x.op (ndA x A.1) B.1)=(k,B.2.1):=by unfold putN;rw[h]
   rw[hp] at hval p2
   simp only at hval p2
   have:=hkid k (Nat.zero_le _) p2
   rw[hval] at this
   omega
 unfold canon at hlast ⊢
 rw[← hlast];exact hval
def root (f:List Nd):Tr:=tree f (f.length-1)
theorem comp_root {f:List Nd} (h:check f=0):comp f=(finT (root f) []).2:=by
 rw[comp_eq h]
 have:=(check_ok h).1
 exact canon_tree (check_okl h) (by omega)
theorem root_comp {f:List Nd} (h:check f=0):root (comp f)=root f:=by
 have:=(check_ok h).1
 unfold root
 rw[comp_eq h]
 exact (canon_root (check_okl h) (by omega)).2
theorem comp_eq_iff {a b:List Nd} (ha:check a=0) (hb:check b=0):comp a=comp b↔root a=root b:=by
 constructor
 ·intro h;rw[← root_comp ha,← root_comp hb,h]
 ·intro h;rw[comp_root ha,comp_root hb,h]
theorem comp_comp {f:List Nd} (h:check f=0):comp (comp f)=comp f:=(comp_eq_iff (comp_check h) h).2 (root_comp h)
theorem trn_shift {A B:List Nd} (hA:Okl A) (hB:Okl B):∀ (n j:Nat),j<B.length→trn (A++B.map (shN A.length)) n (A.length+j)=trn B n j
 |0,_,_=>rfl
 |n+1,j,hj=>by
  simp only[trn]
  have hx:B[j]? = some B[j]:=List.getElem?_eq_getElem hj
  have ok:=hB j _ hx
  rw[List.getElem?_append_right (by omega),Nat.add_sub_cancel_left,List.getElem?_map,hx]
  generalize B[j]=x at ok
  simp only[Option.map_some]
  have e1:(shN A.length x).op=x.op:=by unfold shN shX;cases usesX x.op<;>cases usesY x.op<;>rfl
  have e2:(shN A.length x).i=x.i:=by unfold shN shX;cases usesX x.op<;>cases usesY x.op<;>rfl
  have e3:(shN A.length x).e=x.e:=by unfold shN shX;cases usesX x.op<;>cases usesY x.op<;>rfl
  have e4:(shN A.length x).g=x.g:=by unfold shN shX;cases usesX x.op<;>cases usesY x.op<;>rfl
  have e5:(shN A.length x).x=bif usesX x.op then x.x+A.length else x.x:=by unfold shN shX;cases usesX x.op<;>cases usesY x.op<;>rfl
  have e6:(shN A.length x).y=bif usesY x.op then x.y+A.length else x.y:=by unfold shN shX;cases usesX x.op<;>cases usesY x.op<;>rfl
  rw[e1,e2,e3,e4,e5,e6]
  congr 1
  ·cases hu:usesX x.op with
   |false=>rfl
   |true =>
    have:=ok.x hu
    simp only[cond_true]
    rw[show (x.x+(A.length:Int)).toNat=A.length+x.x.toNat by omega]
    exact trn_shift hA hB n x.x.toNat (by omega)
  ·cases hu:usesY x.op with
   |false=>rfl
   |true =>
    have:=ok.y hu
    simp only[cond_true]
    rw[show (x.y+(A.length:Int)).toNat=A.length+x.y.toNat by omega]
    exact trn_shift hA hB n x.y.toNat (by omega)
theorem tree_shift {A B:List Nd} (hA:Okl A) (hB:Okl B) {j:Nat} (hj:j<B.length):tree (A++B.map (shN A.length)) (A.length+j)=tree B j:=by
 unfold tree
 rw[trn_shift hA hB _ j hj]
 exact trn_fuel hB _ _ _ (by omega) (by omega)
def shortL (g:List Nd):List Nd:=bif decide ((g.length:Int)>401) then [] else bif decide (((canon g (g.length-1)).length:Int)>200) then [] else canon g (g.length-1)
def oneL (x:Nd):List Nd:=bif nodeErr x 0 != 0 then [] else [x]
def unL (x:Nd) (f:List Nd):List Nd :=
 bif check f != 0 then [] else bif nodeErr { x with x:=(f.length:Int)-1 } f.length != 0 then [] else shortL (f++[{ x with x:=(f.length:Int)-1 }])
def binN (x:Nd) (f g:List Nd):Nd:={ x with x:=(f.length:Int)-1,y:=((f++g.map (shN f.length)).length:Int)-1 }
def binL (x:Nd) (f g:List Nd):List Nd :=
 bif bif check f != 0 then true else check g != 0 then [] else bif nodeErr (binN x f g) (f++g.map (shN f.length)).length != 0 then [] else shortL (f++g.map (shN f.length)++[binN x f g])
theorem shN_zero (n:Nd):shN 0 n=n:=by
 unfold shN shX
 cases usesX n.op<;>cases usesY n.op<;>cases n<;>simp
theorem map_shN_zero (c:List Nd):c.map (shN 0)=c:=by
 rw[List.map_congr_left (g:=id) (fun n _=>shN_zero n),List.map_id]
theorem canon_snoc {F:List Nd} {x:Nd} (hF:Okl F) (hx:OkNd x F.length):canon (F++[x]) F.length=(finT (.nd x.op x.i x.e x.g (bif usesX x.op then tree F x.x.toNat else .none) (bif usesY x.op then tree F x.y.toNat else .none)) []).2:=by
 have hok:=okl_snoc hF hx
 rw[canon_tree hok (by simp),tree_nd hok (x:=x) (by simp)]
 have e1:(bif usesX x.op then tree (F++[x]) x.x.toNat else .none)=(bif usesX x.op then tree F x.x.toNat else .none):=by
  cases hu:usesX x.op with
  |false=>rfl
  |true=>have:=hx.x hu;exact tree_append hF (by omega)
 have e2:(bif usesY x.op then tree (F++[x]) x.y.toNat else .none)=(bif usesY x.op then tree F x.y.toNat else .none):=by
  cases hu:usesY x.op with
  |false=>rfl
  |true=>have:=hx.y hu;exact tree_append hF (by omega)
 rw[e1,e2]
theorem ne_of_iff {a b:Int} (h:a=0↔b=0):(a != 0)=(b != 0):=by
 rw[Bool.eq_iff_iff];simp only[bne_iff_ne,ne_eq,h]
theorem build_one (x:Nd):buildL x []=oneL x:=by
 rw[buildL,bfold];simp only[bfin,oneL,List.length_nil,List.nil_append]
 show (bif nodeErr x ((0:Nat):Int) != 0 then [] else _)=_
 cases h:(nodeErr x ((0:Nat):Int) != 0) with
 |true=>rfl
 |false =>
  have ok:OkNd x ((0:Nat):Int):=nodeErr_ok.1 (by simpa using h)
  have ux:usesX x.op=false:=by cases hu:usesX x.op with
   |false=>rfl
   |true=>have:=ok.x hu;omega
  have uy:usesY x.op=false:=by cases hu:usesY x.op with
   |false=>rfl
   |true=>have:=ok.y hu;omega
  have hc:canon [x] 0=[x]:=by
   have:=canon_snoc (F:=[]) (x:=x) (fun i y hy=>by simp at hy) ok
   simp only[List.nil_append,List.length_nil] at this
   rw[this,ux,uy]
   simp only[cond_false,finT,putN,idx,List.nil_append,List.length_nil]
   have e1:=ok.nox ux
   have e2:=ok.noy uy
   cases x
   simp only at e1 e2
   subst e1;subst e2;rfl
  show (bif decide (((canon [x] 0).length:Int)>200) then [] else canon [x] 0)=[x]
  simp only[hc];rfl
theorem OkNd.re {x y:Nd} {a b:Int} (h:OkNd x a) (h1:y.op=x.op) (h2:y.i=x.i) (h3:y.e=x.e) (h4:y.g=x.g) (h5:usesX x.op=true→0≤y.x∧y.x<b) (h6:usesX x.op=false→y.x=0) (h7:usesY x.op=true→0≤y.y∧y.y<b) (h8:usesY x.op=false→y.y=0):OkNd y b:=by
 constructor<;>simp only[h1,h2,h3,h4]
 ·exact h.op
 ·exact h5
 ·exact h6
 ·exact h7
 ·exact h8
 ·exact h.fact
 ·exact h.agent
 ·exact h.act
 ·exact h.noi
 ·exact h.noe
 ·exact h.group
 ·exact h.nog
theorem short_snoc {F:List Nd} {x:Nd} (hl:F.length≤400):shortL (F++[x])=bif decide (((canon (F++[x]) F.length).length:Int)>200) then [] else canon (F++[x]) F.length:=by
 have e1:decide (((F++[x]).length:Int)>401)=false:=by simp;omega
 have e2:(F++[x]).length-1=F.length:=by simp
 rw[shortL,e1,e2];rfl
theorem bfin_eq (x:Nd) (F:List Nd):bfin (x,F)=bif nodeErr x F.length != 0 then [] else bif decide (((canon (F++[x]) F.length).length:Int)>200) then [] else canon (F++[x]) F.length:=rfl
theorem build_un (x:Nd) (f:List Nd) (hx:usesX x.op=true) (hy:usesY x.op=false) (hxy:x.y=0):buildL x [f]=unL x f:=by
 rw[buildL]
 simp only[bfold]
 cases hc:(check f != 0) with
 |true=>simp only[unL,hc,cond_true]
 |false =>
  have hc0:check f=0:=by simpa using hc
  obtain⟨l1,l2,_⟩:=check_ok hc0
  have c1:=comp_pos hc0
  have c2:=comp_len f
  have s0:bstep 0 (x,[]) f=({ x with x:=((comp f).length:Int)-1 },comp f):=by
   rw[bstep_t rfl];simp only[List.nil_append,List.length_nil,map_shN_zero]
  simp only[unL,hc,cond_false,s0,bfin_eq]
  have hne:(nodeErr { x with x:=((comp f).length:Int)-1 } (comp f).length != 0)=(nodeErr { x with x:=(f.length:Int)-1 } f.length != 0):=ne_of_iff (by
   rw[nodeErr_ok,nodeErr_ok]
   constructor
   ·intro h;exact h.re rfl rfl rfl rfl (fun _=>⟨by simp only;omega,by simp only;omega⟩) (fun u=>by rw[hx] at u;cases u) (fun u=>by rw[hy] at u;cases u) (fun _=>hxy)
   ·intro h;exact h.re rfl rfl rfl rfl (fun _=>⟨by simp only;omega,by simp only;omega⟩) (fun u=>by rw[hx] at u;cases u) (fun u=>by rw[hy] at u;cases u) (fun _=>hxy))
  rw[hne]
  cases hn:(nodeErr { x with x:=(f.length:Int)-1 } f.length != 0) with
  |true=>rfl
  |false =>
   have ok2:OkNd { x with x:=(f.length:Int)-1 } f.length:=nodeErr_ok.1 (by simpa using hn)
   have ok1:OkNd { x with x:=((comp f).length:Int)-1 } (comp f).length:=nodeErr_ok.1 (by rw[hn] at hne;simpa using hne)
   simp only[cond_false]
   rw[short_snoc (by omega)]
   have e1:=canon_snoc (comp_okl f) ok1
   have e2:=canon_snoc (check_okl hc0) ok2
   have hr:=root_comp hc0
   unfold root at hr
   simp only[hx,hy,cond_true,cond_false] at e1 e2
   rw[show (((comp f).length:Int)-1).toNat=(comp f).length-1 by omega] at e1
   rw[show ((f.length:Int)-1).toNat=f.length-1 by omega,← hr] at e2
   rw[e1,e2]
theorem bin_last {A B:List Nd} (hA:Okl A) (hB:Okl B) (h1:1≤A.length) (h2:1≤B.length):tree (A++B.map (shN A.length)) (A.length-1)=root A∧tree (A++B.map (shN A.length)) ((A++B.map (shN A.length)).length-1)=root B:=by
 refine⟨tree_append hA (by omega),?_⟩
 have e:(A++B.map (shN A.length)).length-1=A.length+(B.length-1):=by rw[List.length_append,List.length_map];omega
 rw[e]
 exact tree_shift hA hB (by omega)
theorem build_bin (x:Nd) (f g:List Nd) (hx:usesX x.op=true) (hy:usesY x.op=true):buildL x [f,g]=binL x f g:=by
 rw[buildL]
 simp only[bfold]
 cases hc:(check f != 0) with
 |true=>simp only[binL,hc,cond_true]
 |false =>
  cases hd:(check g != 0) with
  |true=>simp only[binL,hc,hd,cond_true,cond_false]
  |false =>
   have hc0:check f=0:=by simpa using hc
   have hd0:check g=0:=by simpa using hd
   obtain⟨l1,l2,_⟩:=check_ok hc0
   obtain⟨m1,m2,_⟩:=check_ok hd0
   have c1:=comp_pos hc0
   have c2:=comp_len f
   have d1:=comp_pos hd0
   have d2:=comp_len g
   obtain⟨F,hF⟩:∃ F,F=comp f++(comp g).map (shN (comp f).length):=⟨_,rfl⟩
   obtain⟨L,hL⟩:∃ L,L=f++g.map (shN f.length):=⟨_,rfl⟩
   have hFl:F.length=(comp f).length+(comp g).length:=by rw[hF,List.length_append,List.length_map]
   have hLl:L.length=f.length+g.length:=by rw[hL,List.length_append,List.length_map]
   have hFo:Okl F:=hF▸okl_append (comp_okl f) (comp_okl g)
   have hLo:Okl L:=hL▸okl_append (check_okl hc0) (check_okl hd0)
   have hstep:bstep (0+1) (bstep 0 (x,[]) f) g=({ x with x:=((comp f).length:Int)-1,y:=(F.length:Int)-1 },F):=by
    have s0:bstep 0 (x,[]) f=({ x with x:=((comp f).length:Int)-1 },comp f):=by
     rw[bstep_t rfl];simp only[List.nil_append,List.length_nil,map_shN_zero]
    rw[s0,bstep_f rfl,← hF]
   simp only[binL,hc,hd,cond_false,hstep,bfin_eq]
   rw[show binN x f g={ x with x:=(f.length:Int)-1,y:=(L.length:Int)-1 } by rw[binN,← hL],← hL]
   have hne:(nodeErr { x with x:=((comp f).length:Int)-1,y:=(F.length:Int)-1 } F.length != 0)=(nodeErr { x with x:=(f.length:Int)-1,y:=(L.length:Int)-1 } L.length != 0):=ne_of_iff (by
    rw[nodeErr_ok,nodeErr_ok]
    constructor
    ·intro h;exact h.re rfl rfl rfl rfl (fun _=>⟨by simp only;omega,by simp only;omega⟩) (fun u=>by rw[hx] at u;cases u) (fun _=>⟨by simp only;omega,by simp only;omega⟩) (fun u=>by rw[hy] at u;cases u)
    ·intro h;exact h.re rfl rfl rfl rfl (fun _=>⟨by simp only;omega,by simp only;omega⟩) (fun u=>by rw[hx] at u;cases u) (fun _=>⟨by simp only;omega,by simp only;omega⟩) (fun u=>by rw[hy] at u;cases u))
   rw[hne]
   cases hn:(nodeErr { x with x:=(f.length:Int)-1,y:=(L.length:Int)-1 } L.length != 0) with
   |true=>rfl
   |false =>
    have ok2:OkNd { x with x:=(f.length:Int)-1,y:=(L.length:Int)-1 } L.length:=nodeErr_ok.1 (by simpa using hn)
    have ok1:OkNd { x with x:=((comp f).length:Int)-1,y:=(F.length:Int)-1 } F.length:=nodeErr_ok.1 (by rw[hn] at hne;simpa using hne)
    simp only[cond_false]
    rw[short_snoc (by omega)]
    have e1:=canon_snoc hFo ok1
    have e2:=canon_snoc hLo ok2
    obtain⟨t1,t2⟩:=bin_last (comp_okl f) (comp_okl g) c1 d1
    obtain⟨u1,u2⟩:=bin_last (check_okl hc0) (check_okl hd0) l1 m1
    rw[← hF] at t1 t2
    rw[← hL] at u1 u2
    rw[root_comp hc0] at t1
    rw[root_comp hd0] at t2
    simp only[hx,hy,cond_true] at e1 e2
    rw[show (((comp f).length:Int)-1).toNat=(comp f).length-1 by omega,show ((F.length:Int)-1).toNat=F.length-1 by omega,t1,t2] at e1
    rw[show ((f.length:Int)-1).toNat=f.length-1 by omega,show ((L.length:Int)-1).toNat=L.length-1 by omega,u1,u2] at e2
    rw[e1,e2]
def aF:List Nd:=[⟨3,1,0,0,0,0⟩,⟨3,0,0,0,0,0⟩,⟨3,1,0,0,0,0⟩,⟨5,0,0,0,0,1⟩,⟨9,0,0,0,3,0⟩,⟨6,0,0,0,4,2⟩]
def aC:List Nd:=[⟨3,1,0,0,0,0⟩,⟨3,0,0,0,0,0⟩,⟨5,0,0,0,0,1⟩,⟨9,0,0,0,2,0⟩,⟨6,0,0,0,3,0⟩]
def aB:List Nd:=buildL (n0 6) [buildL (nI 9 0) [buildL (n0 5) [buildL (nI 3 1) [],buildL (nI 3 0) []]],buildL (nI 3 1) []]
example:comp aF=aC:=by kernel_rfl
example:aB=aC:=by kernel_rfl
theorem buildL_len (x:Nd) (l:List (List Nd)):(buildL x l).length≤200:=by
 unfold buildL
 split
 ·simp
 ·rename_i s _
  unfold bfin
  cases h1:(nodeErr s.1 s.2.length != 0) with
  |true=>simp
  |false =>
   cases h2:decide (((canon (s.2++[s.1]) s.2.length).length:Int)>200) with
   |true=>simp
   |false=>simp only[cond_false];simp at h2;omega
theorem _root_.Go.Dv.PureFn.to {P:Program} {f:FuncId} {ps:List PV} {p q:PV} (h:PureFn P f ps p) (e:p=q):PureFn P f ps q:=e▸h
def joinL (op:Int) (em:List Nd):List (List Nd)→List Nd
 | []=>em
 |f::r=>r.foldl (fun a g=>buildL (n0 op) [a,g]) (comp f)
theorem fold_take {α β:Type} (h:β→α→β) (z:β) (r:List α) {i:Nat} (hi:i<r.length):(r.take (i+1)).foldl h z=h ((r.take i).foldl h z) r[i]:=by
 rw[List.take_succ_eq_append_getElem hi,List.foldl_append];rfl
theorem cells_fpv (l:List (List Nd)):cellsAll 1 (l.map fpv)=true:=by
 simp[cellsAll,fpv,PV.cells,PV.one]
theorem le_fp {a b:List Nd} (h:a=b):PLe (fpv a) (fpv b):=h▸.refl _
theorem fm_join (fid:Nat) (op:Int) (hcb:callable Tryz.prog fid=true) (hw:∀ a b,PureFn Tryz.prog fid [fpv a,fpv b] (fpv (buildL (n0 op) [a,b]))) (l:List (List Nd)) (em:List Nd) (hl:l.length≤1000) (M:Nat→Prop) (w0:W0) :
  DC Tryz.prog M w0 233 [.pv (.sl (l.map fpv)),.pv (fpv em),.clo fid [] []] noHeap fun d L'=>frz d L' fun q _=>PLe q (fpv (joinL op em l)):=by
 refine DC.intro mixed (fn:=Tryz.f233) rfl rfl rfl ?_
 cases l with
 |nil =>
  (try conv=>whnf);repeat' (first|(apply And.intro<;>try conv=>whnf)|(intro h;try conv=>whnf)|(apply infoT;rfl)|fail)
  ·exact .refl _
  ·exact absurd h (by simp)
 |cons f r =>
  have h0:(f::r)[0]? = some f:=rfl
  have hR:((((f::r).map fpv).drop 1).take (((f::r).map fpv).length-1))=r.map fpv:=by simp;exact List.take_of_length_le (by simp)
  simp only[List.length_cons] at hl
  (try conv=>whnf);repeat' (first|(apply And.intro<;>try conv=>whnf)|(intro h;try conv=>whnf)|(apply infoT;rfl)|(refine⟨_,_,rfl,idx_map (by with_reducible assumption),rfl,?_⟩;try conv=>whnf)|(refine PureFn.dcq (f:=68) rfl ?_;try conv=>whnf)|(refine⟨_,_,fm_Compact ?_,?_,?_⟩;rotate_left 1;(focus first|(refine⟨?_,trivial⟩<;>first|exact PLe.refl _|exact PLe.nil)|exact trivial);try conv=>whnf)|fail)
  ·exact absurd h (by simp;omega)
  ·exact cells_fpv _
  ·refine⟨1,((f::r).map fpv).length,rfl,rfl,by simp,Nat.le_refl _,?_⟩
   try conv=>whnf
   refine⟨{ i:Nat // i≤r.length },fun i=>[(2,.clo fid [] []),(7,.pv (fpv ((r.take i.1).foldl (fun a g=>buildL (n0 op) [a,g]) (comp f)))),(19,.pv (.sl (r.map fpv))),(20,.pv (.int .i64 (r.map fpv).length)),(21,.pv (.int .i64 (i.1:Nat)))],fun _=>0,fun _=>[],fun i=>r.length-i.1,⟨⟨0,Nat.zero_le _⟩,?_⟩,?_⟩
   ·(refine Wk.of ?_ ?_ rfl rfl rfl<;>repeat' (first|exact trivial|exact WkD.same _|refine WkD.int ?_|refine⟨?_,?_⟩|fail))
    ·exact WkD.eq (congrArg (fun z=>DV.pv (PV.sl z)) hR)
    all_goals exact congrArg (fun z:List PV=>(z.length:Int)) hR
   ·rintro⟨i,hi⟩
    (try conv=>whnf);repeat' (first|(apply And.intro<;>try conv=>whnf)|(intro h;try conv=>whnf)|(apply infoT;rfl)|fail)
    ·have hi':i<r.length:=by simp at h;omega
     have hn:r[i]? = some r[i]:=List.getElem?_eq_getElem hi'
     have hf:=fold_take (fun a g=>buildL (n0 op) [a,g]) (comp f) r hi'
     (try conv=>whnf);repeat' (first|(refine⟨_,_,rfl,idx_map (by with_reducible assumption),rfl,?_⟩;try conv=>whnf)|fail)
     refine PureFn.dcq hcb ?_
     conv=>whnf
     refine⟨_,_,hw _ _,⟨.refl _,.refl _,trivial⟩,?_⟩
     try conv=>whnf
     refine⟨⟨i+1,hi'⟩,by show r.length-(i+1)<r.length-i;omega,?_⟩
     (refine Wk.of ?_ ?_ rfl rfl rfl<;>repeat' (first|exact trivial|exact WkD.same _|refine WkD.int ?_|refine⟨?_,?_⟩|(refine wrapA ?_ ?_ ?_;(focus simp;done);(focus (try dsimp only);omega);(focus (try dsimp only);omega))|fail))
     exact WkD.eq (congrArg (fun z=>DV.pv (fpv z)) hf.symm)
    ·have hi':i=r.length:=by simp at h;omega
     subst hi'
     exact le_fp (by rw[List.take_length];rfl)
theorem fm_All (l:List (List Nd)) (hl:l.length≤1000):PureFn Tryz.prog 219 [.sl (l.map fpv)] (fpv (joinL 5 (buildL (n0 1) []) l)):=by
 refine PureFn.intro mixed (fn:=Tryz.f219) rfl rfl rfl fun M w0 => ?_
 (try conv=>whnf);repeat' (first|(refine PureFn.dy fm_True rfl ?_;try conv=>whnf)|fail)
 refine DC.alone (p:=fpv (joinL 5 (buildL (n0 1) []) l)) rfl (fun M w0=>fm_join 32 5 rfl (fun a b=>fm_And a b) l _ hl M w0) ?_
 try conv=>whnf
 exact .refl _
theorem fm_Any (l:List (List Nd)) (hl:l.length≤1000):PureFn Tryz.prog 218 [.sl (l.map fpv)] (fpv (joinL 6 (buildL (n0 2) []) l)):=by
 refine PureFn.intro mixed (fn:=Tryz.f218) rfl rfl rfl fun M w0 => ?_
 (try conv=>whnf);repeat' (first|(refine PureFn.dy fm_False rfl ?_;try conv=>whnf)|fail)
 refine DC.alone (p:=fpv (joinL 6 (buildL (n0 2) []) l)) rfl (fun M w0=>fm_join 186 6 rfl (fun a b=>fm_Or a b) l _ hl M w0) ?_
 try conv=>whnf
 exact .refl _
theorem lt_dec {i m:Nat} (h:decide ((i:Int)<(m:Int))=true):i<m:=by simpa using h
theorem ge_dec {i m:Nat} (h:decide ((i:Int)<(m:Int))=false) (hi:i≤m):i=m:=by simp at h;omega
def u64 (n:Nat):PV:=.int .u64 (n:Int)
def i64 (n:Nat):PV:=.int .i64 (n:Int)
theorem wrapU {a:Int} (h0:0≤a) (h:a<18446744073709551616):IntKind.wrap .u64 a=a:=by
 have e:IntKind.wrap .u64 a=a % 18446744073709551616:=rfl
 rw[e];exact Int.emod_eq_of_lt h0 h
theorem ofInt_nat (a:Nat):BitVec.ofInt 64 (a:Int)=BitVec.ofNat 64 a:=BitVec.ofInt_natCast 64 a
theorem ofNat_toNat {a:Nat} (h:a<2^64):(BitVec.ofNat 64 a).toNat=a:=by rw[BitVec.toNat_ofNat,Nat.mod_eq_of_lt h]
def andU (a b:Int):Int:=IntKind.wrap .u64 ((BitVec.ofInt (IntKind.bits .u64) a&&&BitVec.ofInt (IntKind.bits .u64) b).toNat:Int)
def orU (a b:Int):Int:=IntKind.wrap .u64 ((BitVec.ofInt (IntKind.bits .u64) a |||BitVec.ofInt (IntKind.bits .u64) b).toNat:Int)
def andNotU (a b:Int):Int:=IntKind.wrap .u64 ((BitVec.ofInt (IntKind.bits .u64) a &&& ~~~BitVec.ofInt (IntKind.bits .u64) b).toNat:Int)
def shrU (a b:Int):Int:=a.fdiv (2^(min b.toNat (IntKind.bits .u64)))
def shlU (a b:Int):Int:=IntKind.wrap .u64 (a*2^(min b.toNat (IntKind.bits .u64)))
theorem andU_nat {a b:Nat} (ha:a<2^64) (hb:b<2^64):andU a b=((a&&&b:Nat):Int):=by
 have h:a&&&b<2^64:=Nat.lt_of_le_of_lt Nat.and_le_left ha
 unfold andU
 show IntKind.wrap .u64 ((BitVec.ofInt 64 (a:Int)&&&BitVec.ofInt 64 (b:Int)).toNat:Int)=_
 rw[ofInt_nat,ofInt_nat,BitVec.toNat_and,ofNat_toNat ha,ofNat_toNat hb]
 exact wrapU (by omega) (by omega)
theorem orU_nat {a b:Nat} (ha:a<2^64) (hb:b<2^64):orU a b=((a |||b:Nat):Int):=by
 have h:a |||b<2^64:=Nat.or_lt_two_pow ha hb
 unfold orU
 show IntKind.wrap .u64 ((BitVec.ofInt 64 (a:Int) |||BitVec.ofInt 64 (b:Int)).toNat:Int)=_
 rw[ofInt_nat,ofInt_nat,BitVec.toNat_or,ofNat_toNat ha,ofNat_toNat hb]
 exact wrapU (by omega) (by omega)
theorem shrU_nat (a k:Nat) (hk:k≤64):shrU a k=((a >>> k:Nat):Int):=by
 unfold shrU
 rw[show min ((k:Int)).toNat (IntKind.bits .u64)=k from Nat.min_eq_left hk,Nat.shiftRight_eq_div_pow]
 rw[show ((2:Int)^k)=((2^k:Nat):Int) by simp,Int.fdiv_eq_ediv_of_nonneg _ (Int.natCast_nonneg _)]
 rfl
theorem shlU_one {k:Nat} (hk:k<64):shlU 1 k=((2^k:Nat):Int):=by
 unfold shlU
 rw[show min ((k:Int)).toNat (IntKind.bits .u64)=k from Nat.min_eq_left (by show k≤64;omega),Int.one_mul]
 have:2^k<2^64:=Nat.pow_lt_pow_right (by decide) hk
 have e:((2:Int)^k)=((2^k:Nat):Int):=by simp
 rw[e]
 generalize 2^k=m at *
 exact wrapU (by omega) (by omega)
theorem bit_and (s v:Nat) (hs:s<2^64) (hv:v<64):andU (shrU s v) 1=if s.testBit v then 1 else 0:=by
 rw[shrU_nat _ _ (by omega)]
 have h1:s >>> v<2^64:=Nat.lt_of_le_of_lt (Nat.shiftRight_le s v) hs
 have:=andU_nat (a:=s >>> v) (b:=1) h1 (by decide)
 rw[show ((1:Nat):Int)=1 from rfl] at this
 rw[this,Nat.and_one_is_mod,Nat.testBit,Nat.and_comm,Nat.and_one_is_mod]
 have:s >>> v % 2=0∨s >>> v % 2=1:=by omega
 rcases this with h|h<;>rw[h]<;>rfl
theorem bit_one {s v:Nat} (hs:s<2^64) (hv:v<64):(andU (shrU s v) 1==1)=s.testBit v:=by
 rw[bit_and s v hs hv];cases s.testBit v<;>rfl
theorem bit_zero {s v:Nat} (hs:s<2^64) (hv:v<64):(andU (shrU s v) 1==0)=!s.testBit v:=by
 rw[bit_and s v hs hv];cases s.testBit v<;>rfl
theorem testBit_mod (s v:Nat):s.testBit v=decide (s >>> v % 2=1):=by
 rw[Nat.testBit,Nat.and_comm,Nat.and_one_is_mod]
 have:s >>> v % 2=0∨s >>> v % 2=1:=by omega
 rcases this with h|h<;>rw[h]<;>rfl
def and64 (a b:Int):Int:=IntKind.wrap .i64 ((BitVec.ofInt (IntKind.bits .i64) a&&&BitVec.ofInt (IntKind.bits .i64) b).toNat:Int)
theorem and64_nat {a b:Nat} (ha:a<2^62) (hb:b<2^62):and64 a b=((a&&&b:Nat):Int):=by
 have h:a&&&b<2^62:=Nat.lt_of_le_of_lt Nat.and_le_left ha
 unfold and64
 show IntKind.wrap .i64 ((BitVec.ofInt 64 (a:Int)&&&BitVec.ofInt 64 (b:Int)).toNat:Int)=_
 rw[ofInt_nat,ofInt_nat,BitVec.toNat_and,ofNat_toNat (by omega),ofNat_toNat (by omega)]
 exact wrap_small (by omega) (by omega)
theorem bit64_and {s v:Nat} (hs:s<2^62) (hv:v≤64):and64 (shr64 s v) 1=if s.testBit v then 1 else 0:=by
 rw[shr64_nat _ _ hv]
 have h1:s >>> v<2^62:=Nat.lt_of_le_of_lt (Nat.shiftRight_le s v) hs
 have:=and64_nat (a:=s >>> v) (b:=1) h1 (by decide)
 rw[show ((1:Nat):Int)=1 from rfl] at this
 rw[this,Nat.and_one_is_mod,testBit_mod]
 have:s >>> v % 2=0∨s >>> v % 2=1:=by omega
 rcases this with h|h<;>rw[h]<;>rfl
def maskOf (q:Nat→Bool):Nat→Nat
 |0=>0
 |m+1=>bif q m then maskOf q m |||2^m else maskOf q m
theorem maskOf_bit (q:Nat→Bool) (j:Nat):∀ m,(maskOf q m).testBit j=(decide (j<m) && q j)
 |0=>by simp[maskOf]
 |m+1=>by
  rw[maskOf]
  cases hq:q m with
  |false =>
   simp only[cond_false]
   rw[maskOf_bit q j m]
   by_cases h:j<m
   ·simp[h,Nat.lt_succ_of_lt h]
   ·by_cases e:j=m
    ·subst e;simp[hq]
    ·have:¬ j<m+1:=by omega
     simp[h,this]
  |true =>
   simp only[cond_true]
   rw[Nat.testBit_or,maskOf_bit q j m,Nat.testBit_two_pow]
   by_cases h:j<m
   ·have:¬ m=j:=by omega
    simp[h,Nat.lt_succ_of_lt h,this]
   ·by_cases e:j=m
    ·subst e;simp[hq]
    ·have:¬ j<m+1:=by omega
     have h2:¬ m=j:=by omega
     simp[h,this,h2]
theorem maskOf_lt (q:Nat→Bool) (m:Nat):maskOf q m<2^m:=by
 apply Nat.lt_pow_two_of_testBit
 intro i hi
 rw[maskOf_bit]
 simp[Nat.not_lt.2 hi]
theorem maskOf_congr {q r:Nat→Bool}:∀ {m:Nat},(∀ j,j<m→q j=r j)→maskOf q m=maskOf r m
 |0,_=>rfl
 |m+1,h=>by rw[maskOf,maskOf,h m (by omega),maskOf_congr fun j hj=>h j (by omega)]
theorem or_ff' {a b:Bool} (h:(bif a then true else b)=false):a=false∧b=false:=by cases a<;>simp_all
theorem shl_n {n:Nat} (hn:n≤4):shl64 1 (n:Int)=((2^n:Nat):Int):=shl64_one (by omega) (by omega)
theorem ex3 {α:Type} {A B C:α→Prop} {m:α} (h1:A m) (h2:B m) (h3:C m):∃ m,A m∧B m∧C m:=⟨m,h1,h2,h3⟩
theorem ex2 {α:Type} {A B:α→Prop} {m:α} (h1:A m) (h2:B m):∃ m,A m∧B m:=⟨m,h1,h2⟩
def evO (op:Int) (f a b:Bool):Bool :=
 bif op==1 then true else bif op==3 then f else bif op==4 then !a else bif op==5 then (bif a then b else false) else bif op==6 then (bif a then true else b) else bif op==7 then (bif !a then true else b) else bif op==8 then a==b else false
def evN (l:List Bool) (x:Nd) (v:Nat):Bool:=evO x.op (v.testBit x.i.toNat) (l.getD x.x.toNat false) (l.getD x.y.toNat false)
def evs (c:List Nd) (v:Nat):List Bool:=c.foldl (fun l x=>l++[evN l x v]) []
def holds (c:List Nd) (v:Nat):Bool:=(evs c v).getD (c.length-1) false
def useI (k:Int):Bool:=bif bif bif bif bif k==3 then true else k==9 then true else k==10 then true else k==14 then true else k==15 then true else k==17
def useG (k:Int):Bool:=bif bif k==11 then true else k==12 then true else k==13
def wantN (k i e g:Int):Nd:=⟨k,bif useI k then i else 0,bif k==17 then e else 0,bif useG k then g else 0,0,0⟩
def wantL (k i e g:Int) (F G:List Nd):List Nd:=bif usesY k then binL (wantN k i e g) F G else bif usesX k then unL (wantN k i e g) F else oneL (wantN k i e g)
theorem shortL_len (g:List Nd):(shortL g).length≤200:=by
 unfold shortL
 cases decide ((g.length:Int)>401) with
 |true=>simp
 |false =>
  cases h2:decide (((canon g (g.length-1)).length:Int)>200) with
  |true=>simp
  |false=>simp only[cond_false];simp at h2;omega
theorem wantL_len (k i e g:Int) (F G:List Nd):(wantL k i e g F G).length≤200:=by
 unfold wantL
 cases usesY k with
 |true =>
  simp only[cond_true];unfold binL
  cases (bif check F != 0 then true else check G != 0) with
  |true=>simp
  |false =>
   cases (nodeErr (binN (wantN k i e g) F G) (F++G.map (shN F.length)).length != 0) with
   |true=>simp
   |false=>exact shortL_len _
 |false =>
  cases usesX k with
  |true =>
   simp only[cond_true,cond_false];unfold unL
   cases (check F != 0) with
   |true=>simp
   |false =>
    cases (nodeErr { wantN k i e g with x:=(F.length:Int)-1 } F.length != 0) with
    |true=>simp
    |false=>exact shortL_len _
  |false =>
   simp only[cond_false];unfold oneL
   cases (nodeErr (wantN k i e g) 0 != 0) with
   |true=>simp
   |false=>simp
structure Can (s:List Nd):Prop where
 ok:Okl s
 pos:1≤s.length
 len:s.length≤200
 fix:(finT (root s) []).2=s
theorem Can.check {s:List Nd} (h:Can s):check s=0:=okl_check h.ok h.pos h.len
theorem canon_can {f:List Nd} (hf:Okl f) (hl:f.length≤200) {i:Nat} (hi:i<f.length):Can (canon f i):=by
 obtain⟨h1,h2⟩:=canon_ok hf hi
 refine⟨h1,h2,by have:=canon_len hf.wf hi;omega,?_⟩
 have hr:=(canon_root hf hi).2
 unfold root
 rw[hr,← canon_tree hf hi]
theorem can_comp {s:List Nd} (h:Can s):comp s=s:=by rw[comp_root h.check,h.fix]
theorem want_nd {x:Nd} {k:Int} (h:OkNd x k):wantN x.op x.i x.e x.g={ x with x:=0,y:=0 }:=by
 have e1:(bif useI x.op then x.i else 0)=x.i:=by
  cases hu:useI x.op with
  |true=>rfl
  |false =>
   have:=h.noi (by intro e;rw[e] at hu;cases hu) (by
    have ho:=h.op
    have key:∀ n:Nat,n<22→useI (n:Int)=false→isAgent (n:Int)=false:=by decide
    have:=key x.op.toNat (by omega)
    rw[show ((x.op.toNat:Nat):Int)=x.op by omega] at this
    exact this hu) (by intro e;rw[e] at hu;cases hu)
   rw[this];rfl
 have e2:(bif x.op==17 then x.e else 0)=x.e:=by
  cases hu:(x.op==17) with
  |true=>rfl
  |false=>rw[h.noe (by simpa using hu)];rfl
 have e3:(bif useG x.op then x.g else 0)=x.g:=by
  cases hu:useG x.op with
  |true=>rfl
  |false =>
   have ho:=h.op
   have key:∀ n:Nat,n<22→useG (n:Int)=false→isGroup (n:Int)=false:=by decide
   have:=key x.op.toNat (by omega)
   rw[show ((x.op.toNat:Nat):Int)=x.op by omega] at this
   rw[h.nog (this hu)];rfl
 unfold wantN
 rw[e1,e2,e3]
theorem y_of_x {op:Int} (h:usesY op=true):usesX op=true:=by
 unfold usesX
 unfold usesY at h
 simp at h ⊢
 omega
theorem sub_can {s:List Nd} (h:Can s) {j:Nat} (hj:j<s.length):sub s j=canon s j:=by
 have e1:(Go.Proofs.YtejbieopeicgkaaGreatDoor.check s != 0)=false:=by rw[h.check];rfl
 have e2:decide ((j:Int)<0)=false:=by simp
 have e3:decide ((j:Int)≥(s.length:Int))=false:=by simp;omega
 rw[sub,e1,e2,e3];rfl
theorem one3 {i:Nat} (hi:i<8):buildL (nI 3 i) []=[nI 3 i]∧check [nI 3 i]=0:=by
 have:i=0∨i=1∨i=2∨i=3∨i=4∨i=5∨i=6∨i=7:=by omega
 rw[build_one]
 rcases this with rfl|rfl|rfl|rfl|rfl|rfl|rfl|rfl<;>exact⟨rfl,rfl⟩
structure Asg where
 fact:Int
 to:List Nd
structure Act where
 pre:List (List Nd)
 post:List (List Asg)
 rel:List (List Nat)
def Asg.pv (a:Asg):PV:=.agg [.int .i64 a.fact,fpv a.to]
def rowPV (r:List Nat):PV:=.sl (r.map u64)
def postPV (l:List Asg):PV:=.sl (l.map Asg.pv)
def Act.pv (a:Act):PV:=.agg [.sl (a.pre.map fpv),.sl (a.post.map postPV),.sl (a.rel.map rowPV)]
def noAct:Act:=⟨[],[],[]⟩
def pairA (x:Act×Int):PV:=.tup [x.1.pv,.int .i64 x.2]
theorem PLe.sls {l l':List PV} (h:PLes l l'):PLe (.sl l) (.sl l'):=by
 have h1:∀ {l l':List PV},PLes l l'→l.length=l'.length∧∀ (i:Nat) p q,l[i]? = some p→l'[i]? = some q→PLe p q:=by
  intro l
  induction l with
  |nil=>intro l' h;cases l' with
   |nil=>exact⟨rfl,fun i p q hp=>by simp at hp⟩
   |cons=>exact h.elim
  |cons a r ih=>intro l' h;cases l' with
   |nil=>exact h.elim
   |cons b s =>
    obtain⟨e,k⟩:=ih h.2
    refine⟨by simp[e],fun i p q hp hq => ?_⟩
    cases i with
    |zero=>simp at hp hq;subst hp;subst hq;exact h.1
    |succ i=>exact k i p q (by simpa using hp) (by simpa using hq)
 exact .sl _ _ (h1 h).1 (h1 h).2
theorem PLe.aggs {l l':List PV} (h:PLes l l'):PLe (.agg l) (.agg l'):=by
 have:=PLe.sls h
 cases this with
 |refl=>exact .refl _
 |sl _ _ h1 h2=>exact .agg _ _ h1 h2
theorem PLe.tups {l l':List PV} (h:PLes l l'):PLe (.tup l) (.tup l'):=by
 have:=PLe.sls h
 cases this with
 |refl=>exact .refl _
 |sl _ _ h1 h2=>exact .tup _ _ h1 h2
theorem le_noAct (e:Int):PLe (.tup [.agg [.nil,.nil,.nil],.int .i64 e]) (pairA (noAct,e)):=PLe.tups ⟨PLe.aggs ⟨.nil,.nil,.nil,trivial⟩,.refl _,trivial⟩
def nand64' (a b:Int):Int:=IntKind.wrap .i64 ((BitVec.ofInt (IntKind.bits .i64) a &&& ~~~BitVec.ofInt (IntKind.bits .i64) b).toNat:Int)
def statI (ag:Int) (n:Int) (f:List Nd):Int:=bif check f != 0 then check f else bif nand64' (frags f:Nat) 15 != 0 then 10 else bif !fits f ag n then 2 else 0
def badAg (ag:Int):Bool:=bif decide (ag<0) then true else decide (ag>4)
def badF (fact:Int):Bool:=bif decide (fact<0) then true else decide (fact≥8)
theorem badAg_no {ag:Int} (h:badAg ag=false):∃ n:Nat,ag=n∧n≤4:=by
 unfold badAg at h
 by_cases h1:ag<0
 ·rw[decide_eq_true h1] at h;cases h
 ·by_cases h2:ag>4
  ·rw[decide_eq_false h1,decide_eq_true h2] at h;cases h
  ·exact⟨ag.toNat,by omega,by omega⟩
theorem statI_ok {ag n:Int} {f:List Nd} (h:statI ag n f=0):check f=0∧nand64' (frags f:Nat) 15=0∧fits f ag n=true:=by
 unfold statI at h
 cases h1:(check f != 0) with
 |true=>rw[h1] at h;simp only[cond_true] at h;rw[h] at h1;cases h1
 |false =>
  rw[h1] at h
  cases h2:(nand64' (frags f:Nat) 15 != 0) with
  |true=>rw[h2] at h;cases h
  |false =>
   rw[h2] at h
   cases h3:fits f ag n with
   |false=>rw[h3] at h;cases h
   |true=>exact⟨by simpa using h1,by simpa using h2,rfl⟩
theorem any_take {α:Type} {p:α→Bool} {l:List α} {i:Nat} (hi:i<l.length) (h:(l.take i).any p=false) (h2:p l[i]=false):(l.take (i+1)).any p=false:=by
 rw[List.take_succ_eq_append_getElem hi,List.any_append,h];simp[h2]
theorem any_at {α:Type} {p:α→Bool} {l:List α} {i:Nat} (hi:i<l.length) (h2:p l[i]=true):l.any p=true:=List.any_eq_true.2 ⟨l[i],List.getElem_mem hi,h2⟩
theorem ac_static (f:List Nd) (ag n:Int):PureFn Tryz.prog 49 [fpv f,.int .i64 ag,.int .i64 n] (.int .i64 (statI ag n f)):=by
 refine PureFn.intro mixed (fn:=Tryz.f49) rfl rfl rfl fun M w0 => ?_
 (try conv=>whnf);repeat' (first|(apply And.intro<;>try conv=>whnf)|(intro h;try conv=>whnf)|(refine PureFn.dcq (f:=86) rfl ?_;try conv=>whnf)|(refine PureFn.dcq (f:=104) rfl ?_;try conv=>whnf)|(refine PureFn.dcq (f:=105) rfl ?_;try conv=>whnf)|(refine⟨_,_,fm_Check ?_,?_,?_⟩;rotate_left 1;(focus first|(refine⟨?_,trivial⟩<;>first|exact PLe.refl _|exact PLe.nil)|exact trivial);try conv=>whnf)|(refine⟨_,_,fm_Frags ?_,?_,?_⟩;rotate_left 1;(focus first|(refine⟨?_,trivial⟩<;>first|exact PLe.refl _|exact PLe.nil)|exact trivial);try conv=>whnf)|(refine⟨_,_,fm_Fits ?_ ?_ ?_,?_,?_⟩;rotate_left 3;(focus first|(refine⟨?_,?_,?_,trivial⟩<;>first|exact PLe.refl _|exact PLe.nil)|exact trivial);try conv=>whnf)|fail)
 ·refine le_int ?_
  rw[statI,h];rfl
 ·rename_i h1
  refine le_int ?_
  rw[statI,h1,show (nand64' (frags f:Nat) 15 != 0)=true from h];rfl
 ·rename_i h2 h1
  refine le_int ?_
  rw[statI,h2,show (nand64' (frags f:Nat) 15 != 0)=false from h1,h];rfl
 ·rename_i h2 h1
  refine le_int ?_
  rw[statI,h2,show (nand64' (frags f:Nat) 15 != 0)=false from h1,h];rfl
def onesL (n:Nat):List (List Nat):=List.replicate n [1]
def pubI (ag:Int) (f:List Nd):Act×Int:=bif badAg ag then (noAct,2) else bif statI ag 8 f != 0 then (noAct,statI ag 8 f) else (⟨[comp f],[[]],onesL ag.toNat⟩,0)
theorem onesL_succ (n:Nat):(onesL n).map rowPV++[.sl [.int .u64 1]]=(onesL (n+1)).map rowPV:=by
 simp only[onesL,List.replicate_succ',List.map_append];rfl
theorem ac_Public (ag:Int) (f:List Nd):PureFn Tryz.prog 22 [.int .i64 ag,fpv f] (pairA (pubI ag f)):=by
 refine PureFn.introC [11] mixed (fn:=Tryz.f22) rfl rfl rfl fun M w0 => ?_
 have hS:=ac_static f ag 8
 have hC:=fm_Compact f
 (try conv=>whnf);repeat' (first|(apply And.intro<;>try conv=>whnf)|(intro h;try conv=>whnf)|apply True.intro|(apply cellsI;rfl)|(apply WhenQ.mk;(try conv=>whnf);rotate_left;(try conv=>whnf);rotate_right)|with_reducible assumption|(apply not_of;with_reducible assumption)|(refine PureFn.dy hS rfl ?_;try conv=>whnf)|(refine PureFn.dy hC rfl ?_;try conv=>whnf)|fail)
 ·rw[pubI,show badAg ag=true from h];exact le_noAct _
 ·rename_i h1
  rw[pubI,show badAg ag=false from h1,h];exact le_noAct _
 rename_i h1
 rw[pubI,show badAg ag=false from h1,h]
 obtain⟨n,rfl,hn⟩:=badAg_no (show badAg ag=false from h1)
 refine⟨Unit,fun _=>[(4,.ref 0 0),(7,.ref 1 0)],fun _=>3,fun _=>[(0,.var [.pv .nil,.pv .nil,.pv .nil]),(1,.var [.pv (.sl [fpv (comp f)]),.pv (.sl [.nil]),.pv (.sl ((onesL n).map rowPV))])],?_,?_⟩
 ·try conv=>whnf
  refine⟨{ i:Nat // i≤n },fun i=>[(4,.ref 0 0),(7,.ref 1 0),(27,.pv (i64 n)),(28,.pv (i64 i.1))],fun _=>3,fun i=>[(0,.var [.pv .nil,.pv .nil,.pv .nil]),(1,.var [.pv (.sl [fpv (comp f)]),.pv (.sl [.nil]),.buf 2 ((onesL i.1).map rowPV).length]),(2,.arr 1 ((onesL i.1).map rowPV))],fun i=>n-i.1,⟨⟨0,Nat.zero_le _⟩,(by refine Wk.of ?_ ?_ rfl rfl rfl<;>repeat' (first|exact trivial|exact WkD.same _|exact WkO.same _ _ rfl|exact WkD.new' rfl rfl rfl|exact WkO.new _ _ rfl|refine WkO.vars rfl ?_|exact rfl|refine⟨?_,?_⟩|fail))⟩,?_⟩
  rintro⟨i,hi⟩
  (try conv=>whnf);repeat' (first|(apply And.intro<;>try conv=>whnf)|(intro h;try conv=>whnf)|(apply cellsI;rfl)|(apply szI;rfl)|fail)
  ·show ((onesL i).map rowPV).length+1≤4294967296
   rw[List.length_map,onesL,List.length_replicate];omega
  ·have hi':i<n:=lt_dec h
   have er:=onesL_succ i
   refine⟨⟨i+1,hi'⟩,by show n-(i+1)<n-i;omega,?_⟩
   (refine Wk.of ?_ ?_ rfl rfl rfl<;>repeat' (first|exact trivial|exact WkD.same _|exact WkO.same _ _ rfl|exact WkD.eq (congrArg (fun z:List PV=>DV.buf _ z.length) er)|exact WkO.same _ _ (congrArg (fun z=>some (DObj.arr _ z)) er)|refine WkD.int ?_|refine WkO.vars rfl ?_|refine⟨?_,?_⟩|(refine wrapA ?_ ?_ ?_;(focus simp;done);(focus (try dsimp only);omega);(focus (try dsimp only);omega))|fail))
  ·have hi':i=n:=ge_dec h hi
   subst hi'
   exact⟨(),(by refine Wk.of ?_ ?_ rfl rfl rfl<;>repeat' (first|exact trivial|exact WkD.same _|exact WkO.same _ _ rfl|exact WkD.fz _ _ _ rfl (Or.inl ⟨_,rfl⟩) rfl|refine WkO.vars rfl ?_|refine⟨?_,?_⟩|fail))⟩
 rintro⟨⟩
 try conv=>whnf
 exact PLe.tups ⟨PLe.aggs ⟨.refl _,PLe.sls ⟨.nil,trivial⟩,.refl _,trivial⟩,.refl _,trivial⟩
theorem ac_Skip (ag:Int):PureFn Tryz.prog 38 [.int .i64 ag] (pairA (pubI ag (buildL (n0 1) []))):=by
 have hP:=ac_Public ag (buildL (n0 1) [])
 generalize pubI ag (buildL (n0 1) [])=X at hP
 refine PureFn.intro mixed (fn:=Tryz.f38) rfl rfl rfl fun M w0 => ?_
 (try conv=>whnf);repeat' (first|(refine PureFn.dy fm_True rfl ?_;try conv=>whnf)|(refine PureFn.dy hP rfl ?_;try conv=>whnf)|fail)
 exact .refl _
theorem bit64_one {s v:Nat} (hs:s<2^62) (hv:v≤64):(and64 (shr64 s v) 1==1)=s.testBit v:=by
 rw[bit64_and hs hv];cases s.testBit v<;>rfl
theorem nand_eq {a b:Nat} (ha:a<2^62):nand64' a b=((a ^^^ (a&&&b):Nat):Int):=by
 have hlt:a ^^^ (a&&&b)<2^62:=Nat.xor_lt_two_pow ha (Nat.lt_of_le_of_lt Nat.and_le_left ha)
 unfold nand64'
 show IntKind.wrap .i64 ((BitVec.ofInt 64 (a:Int) &&& ~~~BitVec.ofInt 64 (b:Int)).toNat:Int)=_
 rw[ofInt_nat,ofInt_nat]
 have h2:(BitVec.ofNat 64 a &&& ~~~BitVec.ofNat 64 b).toNat=a ^^^ (a&&&b):=by
  apply Nat.eq_of_testBit_eq
  intro i
  rw[BitVec.testBit_toNat,BitVec.getLsbD_and,BitVec.getLsbD_not,BitVec.getLsbD_ofNat,BitVec.getLsbD_ofNat,Nat.testBit_xor,Nat.testBit_and]
  by_cases hi:i<64
  ·simp only[hi,decide_true,Bool.true_and];cases a.testBit i<;>cases b.testBit i<;>rfl
  ·have:a.testBit i=false:=Nat.testBit_lt_two_pow (Nat.lt_of_lt_of_le (show a<2^64 by omega) (Nat.pow_le_pow_right (by decide) (by omega)))
   simp[hi,this]
 rw[h2,wrap_small (by omega) (by omega)]
def subM (s m:Nat):Bool:=s&&&m==s
theorem nand_zero {a b:Nat} (ha:a<2^62):(nand64' a b==0)=subM a b:=by
 rw[nand_eq ha,subM,Bool.eq_iff_iff,beq_iff_eq,beq_iff_eq]
 constructor
 ·intro h
  have h0:a ^^^ (a&&&b)=0:=by omega
  have h4:(a ^^^ (a&&&b)) ^^^ (a&&&b)=a:=by rw[Nat.xor_assoc,Nat.xor_self,Nat.xor_zero]
  rw[h0,Nat.zero_xor] at h4;exact h4
 ·intro h
  rw[h,Nat.xor_self];rfl
theorem app_big {l:List PV} {n:Nat} {p:PV} (h:l.length≤n) (hn:n≤1000):l.length+[p].length≤big:=by
 show l.length+1≤4294967296;omega
structure Small (a:Act):Prop where
 pre:∀ f,f∈a.pre→f.length≤200
 post:∀ l,l∈a.post→l.length≤100∧∀ x,x∈l→x.to.length≤200
 n1:a.pre.length≤1000
 n2:a.post.length≤1000
 n3:a.rel.length≤1000∧∀ r,r∈a.rel→r.length≤1000
def cellsA (a:Act):List DV:=[.pv (.sl (a.pre.map fpv)),.pv (.sl (a.post.map postPV)),.pv (.sl (a.rel.map rowPV))]
theorem cells_u64 (l:List Nat):cellsAll 1 (l.map u64)=true:=by simp[cellsAll,u64,PV.cells,PV.one]
def len64 (x:Nat):Nat:=if x=0 then 0 else Nat.log2 x+1
theorem len64_lt {x k:Nat}:len64 x≤k↔x<2^k:=by
 unfold len64
 by_cases h:x=0
 ·subst h;simp[Nat.two_pow_pos]
 ·rw[if_neg h,← Nat.log2_lt h];omega
theorem len64_shift {x k:Nat} (h:2^k≤x):len64 x=k+len64 (x >>> k):=by
 have key:∀ j,len64 x≤k+j↔len64 (x >>> k)≤j:=fun j=>by
  rw[len64_lt,len64_lt,Nat.shiftRight_eq_div_pow,Nat.div_lt_iff_lt_mul (Nat.two_pow_pos k),Nat.pow_add,Nat.mul_comm]
 have h1:k<len64 x:=by
  rcases Nat.lt_or_ge k (len64 x) with q|q
  ·exact q
  ·have q2:len64 x≤k:=q
   rw[len64_lt] at q2;omega
 have h2:=(key (len64 x-k)).1 (by omega)
 have h3:=(key (len64 (x >>> k))).2 (Nat.le_refl _)
 omega
def chgs (ag n:Int):List Asg→Int→Int
 | [],_=>0
 |x::r,last=>bif (bif decide (x.fact<0) then true else decide (x.fact≥n)) then 2 else bif decide (x.fact≤last) then 9 else bif statI ag n x.to != 0 then statI ag n x.to else chgs ag n r x.fact
def evs' (ag n:Int):List (List Nd)→List (List Asg)→Int
 | [],_=>0
 |f::r,post=>bif statI ag n f != 0 then statI ag n f else bif chgs ag n (post.headD []) (-1) != 0 then chgs ag n (post.headD []) (-1) else evs' ag n r post.tail
def rowsBad (rel:List (List Nat)) (n:Nat):Bool:=rel.any fun r=>((r.length:Int) != (n:Int))
def bitsBad (rel:List (List Nat)) (n:Nat):Bool:=rel.any fun r=>r.any fun s=>decide ((len64 s:Int)>(n:Int))
def shapeI (a:Act) (ag:Int):Int :=
 bif (bif decide ((a.pre.length:Int)<1) then true else decide ((a.pre.length:Int)>8)) then 2 else
 bif (bif (bif (a.post.length:Int) != (a.pre.length:Int) then true else (a.rel.length:Int) != ag) then true else rowsBad a.rel a.pre.length) then 3 else bif bitsBad a.rel a.pre.length then 2 else 0
def actI (a:Act) (ag n:Int):Int :=
 bif (bif bif bif decide (ag<0) then true else decide (ag>4) then true else decide (n<0) then true else decide (n>8)) then 2 else bif shapeI a ag != 0 then shapeI a ag else evs' ag n a.pre a.post
def aloneI (a:Act):Int:=actI a (a.rel.length:Int) 8
theorem shapeI_ok {a:Act} {ag:Int} (h:shapeI a ag=0):1≤a.pre.length∧a.pre.length≤8∧a.post.length=a.pre.length∧(a.rel.length:Int)=ag∧rowsBad a.rel a.pre.length=false∧bitsBad a.rel a.pre.length=false:=by
 unfold shapeI at h
 cases h1:(bif decide ((a.pre.length:Int)<1) then true else decide ((a.pre.length:Int)>8)) with
 |true=>rw[h1] at h;cases h
 |false =>
  rw[h1] at h
  cases h2:(bif (bif (a.post.length:Int) != (a.pre.length:Int) then true else (a.rel.length:Int) != ag) then true else rowsBad a.rel a.pre.length) with
  |true=>rw[h2] at h;cases h
  |false =>
   rw[h2] at h
   cases h3:bitsBad a.rel a.pre.length with
   |true=>rw[h3] at h;cases h
   |false =>
    cases h4:((a.post.length:Int) != (a.pre.length:Int)) with
    |true=>rw[h4] at h2;cases h2
    |false =>
     rw[h4] at h2
     cases h5:((a.rel.length:Int) != ag) with
     |true=>rw[h5] at h2;cases h2
     |false =>
      rw[h5] at h2
      by_cases h6:(a.pre.length:Int)<1
      ·rw[decide_eq_true h6] at h1;cases h1
      ·rw[decide_eq_false h6] at h1
       by_cases h7:(a.pre.length:Int)>8
       ·rw[decide_eq_true h7] at h1;cases h1
       ·have h8:(a.post.length:Int)=a.pre.length:=by simpa using h4
        exact⟨by omega,by omega,by omega,by simpa using h5,h2,rfl⟩
theorem rows_ok {rel:List (List Nat)} {n:Nat} (h:rowsBad rel n=false):∀ r,r∈rel→r.length=n:=by
 intro r hr
 have:=List.any_eq_false.1 h r hr
 have h2:((r.length:Int) != (n:Int))=false:=by simpa using this
 have h3:(r.length:Int)=(n:Int):=by simpa using h2
 omega
theorem bits_ok {rel:List (List Nat)} {n:Nat} (h:bitsBad rel n=false):∀ r,r∈rel→∀ s,s∈r→s<2^n:=by
 intro r hr s hs
 have h1:=List.any_eq_false.1 h r hr
 rw[← len64_lt]
 rcases Nat.lt_or_ge n (len64 s) with q|q
 ·exact absurd (List.any_eq_true.2 ⟨s,hs,decide_eq_true (by omega)⟩) h1
 ·exact q
structure OkA (a:Act) (ag n:Int):Prop where
 ags:ag=(a.rel.length:Int)
 agn:a.rel.length≤4
 n1:1≤a.pre.length
 n8:a.pre.length≤8
 post:a.post.length=a.pre.length
 rows:∀ r,r∈a.rel→r.length=a.pre.length
 bits:∀ r,r∈a.rel→∀ s,s∈r→s<2^a.pre.length
 ev:evs' ag n a.pre a.post=0
theorem actI_ok {a:Act} {ag n:Int} (h:actI a ag n=0):OkA a ag n:=by
 unfold actI at h
 cases h1:(bif bif bif decide (ag<0) then true else decide (ag>4) then true else decide (n<0) then true else decide (n>8)) with
 |true=>rw[h1] at h;cases h
 |false =>
  rw[h1] at h
  cases h2:(shapeI a ag != 0) with
  |true=>rw[h2] at h;simp only[cond_false,cond_true] at h;rw[h] at h2;cases h2
  |false =>
   rw[h2] at h
   obtain⟨s1,s2,s3,s4,s5,s6⟩:=shapeI_ok (a:=a) (ag:=ag) (by simpa using h2)
   have h4:¬ ag>4:=by
    intro hh
    by_cases h5:ag<0
    ·omega
    ·rw[decide_eq_false h5,decide_eq_true hh] at h1;cases h1
   exact⟨s4.symm,by omega,s1,s2,s3,rows_ok s5,bits_ok s6,h⟩
theorem evs_drop {ag n:Int} {pre:List (List Nd)} {post:List (List Asg)} {i:Nat} (h:i<pre.length) (h2:i<post.length) :
  evs' ag n (pre.drop i) (post.drop i)=bif statI ag n pre[i] != 0 then statI ag n pre[i] else bif chgs ag n post[i] (-1) != 0 then chgs ag n post[i] (-1) else evs' ag n (pre.drop (i+1)) (post.drop (i+1)):=by
 rw[List.drop_eq_getElem_cons h,List.drop_eq_getElem_cons h2];rfl
theorem chgs_drop {ag n last:Int} {l:List Asg} {i:Nat} (h:i<l.length) :
  chgs ag n (l.drop i) last=bif (bif decide (l[i].fact<0) then true else decide (l[i].fact≥n)) then 2 else bif decide (l[i].fact≤last) then 9 else bif statI ag n l[i].to != 0 then statI ag n l[i].to else chgs ag n (l.drop (i+1)) l[i].fact:=by
 rw[List.drop_eq_getElem_cons h];rfl
def Fit (a:Act):Prop:=∀ r,r∈a.rel→∀ s,s∈r→s<2^64
end Go.Proofs.YtejbieopeicgkaaGreatDoor
