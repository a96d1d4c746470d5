/- Parts of the proof, one after the other: The layer Dv, part 21: helps of the walk. Formulas: put and finish of the reference. Formulas: Sub, Compact, Size of both sides. Formulas: Sub, Compact, Size of both sides. Formulas: equality and order of both sides. Formulas: the canonical list is without error; depth, fragments, facts, agents (plain). Formulas: fragments, facts, agents of both sides. Formulas: Fits of both sides. Formulas: build. Formulas: constructors, Subs. Formulas: the canonical list depends on the tree alone (plain). Formulas: canonical lists and constructors by their trees (plain). Formulas: One, Unary, Binary, short of the reference. Formulas: the examples of the laws. Formulas: All and Any of both sides; the law FormulaJoins walked. Belief sets: bits of numbers, sets of valuations (plain). -/
import Derived.Test.YtejbieopeicgkaaGreatDoorM4
namespace Go.Dv
theorem guardI {P:Program} {n:Nat} {t:TypeId} (h:P.eqGuardType n t=false):P.eqGuardType n t=false:=h
theorem litz {a:Int} (h:a=0) (hd:(a==0)=false):False:=by rw[h] at hd;cases hd
theorem q0w {ops:Array Oper} {X:Plan->List Nat->Prop} (h1:drawOk ops [] (Plan.lin 0 ops.size)=true) (h2:X (Plan.lin 0 ops.size) []):∃ (pl:Plan) (eff:List Nat),drawOk ops eff pl=true/\X pl eff:=⟨_,_,h1,h2⟩
theorem q0a {α β:Type} {f:List α} {g:α->β} {i:Nat} {x:α} (h:f[i]? = some x):(f.map g)[i]? = some (g x):=by simp[h]
theorem q0h {a b:Int} (h:a=b) (h1 : -9223372036854775808<=a) (h2:a<=9223372036854775807):IntKind.wrap .i64 a=b:=(wrap_small h1 h2).trans h
end Go.Dv
set_option maxRecDepth 100000
set_option maxHeartbeats 4000000
namespace Go.Proofs.YtejbieopeicgkaaGreatDoor
open Go Go.Dv
def dn (ds:List (Nat×Nat)) (k:Nat):PV:=.int .i64 (match look k ds with|some v=>(v:Int)|none => -1)
def dnl (ds:List (Nat×Nat)) (n:Nat):List PV:=(List.range n).map (dn ds)
def Hr (out:List Nd) (dl:List PV):List (Nat×DObj):=[(0,.var [.buf 1 (out.map Nd.pv).length,.buf 2 dl.length]),(1,.arr 6 (out.map Nd.pv)),(2,.arr 1 dl)]
theorem idx_drop {x:Nd} {out:List Nd} {i:Nat} (h:i<out.length):idx x (out.drop i) i=if out[i]=x then some i else idx x (out.drop (i+1)) (i+1):=by
 rw[List.drop_eq_getElem_cons h];rfl
theorem eqPVs_nd (a b:Nd):eqPVs [.int .i64 a.op,.int .i64 a.i,.int .i64 a.e,.int .i64 a.g,.int .i64 a.x,.int .i64 a.y] [.int .i64 b.op,.int .i64 b.i,.int .i64 b.e,.int .i64 b.g,.int .i64 b.x,.int .i64 b.y]=decide (a=b):=by
 cases a;cases b
 simp only[eqPVs,eqPV,Nd.mk.injEq,Bool.and_true];rw[Bool.eq_iff_iff];simp
theorem put_dc (out:List Nd) (dl:List PV) (x:Nd) (hN:out.length<=1000000) (M:Nat->Prop) (w0:W0) (base:Nat) (K:DV->DH->Prop)
  (hK:K (.pv (.int .i64 ((putN out x).1:Int))) ⟨3,0,base,objsOf (Hr (putN out x).2 dl)⟩):DC Tryz.prog M w0 238 [.ref 0 0,.agg x.dvs] ⟨3,0,base,objsOf (Hr out dl)⟩ K:=by
 refine DC.weaken (DC.intro mixed (fn:=Tryz.f238) rfl rfl rfl ?_)
 try conv=>whnf
 refine⟨{ i:Nat // i<=out.length/\idx x out 0=idx x (out.drop i) i },fun i=>[(0,.ref 0 0),(3,.ref 3 0),(5,.pv (.int .i64 (i.1:Nat)))],fun _=>4,fun _=>Hr out dl++[(3,.var x.dvs)],fun i=>out.length-i.1,
  ⟨⟨0,Nat.zero_le _,rfl⟩,(by exact Wk.s rfl)⟩,?_⟩
 rintro⟨i,hi,he⟩
 (try conv=>whnf);repeat' (first|((first|apply And.intro|intro h)<;>try conv=>whnf)|(apply q0p;rfl)|(apply szI;rfl)|(refine q0w (by kernel_rfl) ?_;try conv=>whnf)|fail)
 ·have hi':i<out.length:=by simpa using h
  have hn:out[i]? = some out[i]:=List.getElem?_eq_getElem hi';have hd:=idx_drop (x:=x) hi';refine⟨i,rfl,by simpa using hi',?_⟩
  (try conv=>whnf);repeat' (first|(apply And.intro<;>try conv=>whnf))
  refine⟨(out[i]).pv,by simp[hn],?_⟩
  (try conv=>whnf);repeat' (first|((first|apply And.intro|intro h)<;>try conv=>whnf)|(apply fitI;rfl)|(apply guardI;kernel_rfl)|fail)
  ·have hx:out[i]=x:=by have:=(eqPVs_nd out[i] x).symm.trans h;simpa using this
   have hp:putN out x=(i,out):=by
    have:idx x out 0=some i:=by rw[he,hd,if_pos hx]
    rw[putN,this]
   rw[hp] at hK;exact⟨.pv (.int .i64 (i:Int)),3,Hr out dl,(by exact Wk.s rfl),hK⟩
  ·have hx:¬ out[i]=x:=by have:=(eqPVs_nd out[i] x).symm.trans h;simpa using this
   refine⟨⟨i+1,hi',by rw[he,hd,if_neg hx]⟩,by show out.length-(i+1)<out.length-i;omega,(by refine Wk.of ?_ ?_ rfl rfl rfl<;>repeat' (first|exact trivial|exact WkD.same _|exact WkO.same _ _ rfl|refine WkD.int ?_|refine⟨?_,?_⟩|(apply q0h;(focus simp;done);all_goals (try dsimp only);omega)|fail))⟩
 ·show (out.map Nd.pv).length+1<=4294967296
  rw[List.length_map];omega
 ·have hi':¬ i<out.length:=by simpa using h
  have hp:putN out x=(out.length,out++[x]):=by
   have:idx x out 0=none:=by rw[he,List.drop_eq_nil_of_le (by omega)];rfl
   rw[putN,this]
  rw[hp] at hK;refine⟨.pv (.int .i64 (out.length:Int)),3,Hr (out++[x]) dl,Wk.of ⟨WkD.int ?_,trivial⟩ ⟨WkO.vars rfl ⟨WkD.eq ?_,.same _,trivial⟩,trivial,WkO.same _ _ ?_,trivial,.same _ _ rfl,trivial,trivial⟩ rfl rfl rfl,hK⟩
  ·refine (congrArg (fun n:Nat=>IntKind.wrap .i64 ((n:Int)-1)) (by simp:_=out.length+1)).trans (q0h ?_ ?_ ?_)<;>omega
  ·exact congrArg (DV.buf 1) (by simp)
  ·exact congrArg (fun z=>some (DObj.arr 6 z)) (List.map_append (f:=Nd.pv) (l₁:=out) (l₂:=[x])).symm
theorem dnl_get {ds:List (Nat×Nat)} {n i:Nat} (h:i<n):(dnl ds n)[i]? = some (dn ds i):=by
 simp only[dnl,List.getElem?_map,List.getElem?_range h];rfl
theorem dnl_len (ds:List (Nat×Nat)) (n:Nat):(dnl ds n).length=n:=by simp[dnl]
theorem dnl_set (ds:List (Nat×Nat)) (n i k:Nat):(dnl ds n).set i (.int .i64 (k:Int))=dnl (dput i k ds) n:=by
 refine List.ext_getElem? fun j => ?_
 rw[List.getElem?_set]
 by_cases hj:j<n
 ·rw[dnl_get hj,dnl_get hj,dnl_len]
  by_cases e:i=j
  ·subst e;rw[if_pos rfl,if_pos hj,dn,look_dput,if_pos rfl]
  ·rw[if_neg e,dn,dn,look_dput,if_neg (Ne.symm e)]
 ·have h1:(dnl ds n)[j]? = none:=List.getElem?_eq_none (by rw[dnl_len];omega);have h2:(dnl (dput i k ds) n)[j]? = none:=List.getElem?_eq_none (by rw[dnl_len];omega);rw[h1,h2,dnl_len]
  by_cases e:i=j
  ·rw[if_pos e,if_neg (by omega)]
  ·rw[if_neg e]
def endP:Plan:=.one 8 (.one 9 .done)
def finPlan:Plan:=.one 0 (.one 4 (.one 5 (.one 6 (.two 1 (.two 2 (.two 3 (.one 7 endP) 7 (.one 3 endP)) 7 (.one 2 (.one 3 endP))) 7 (.one 1 (.one 2 (.one 3 endP)))))))
theorem rfin_dc (f:List Nd) (hwf:Wf f) (hN:f.length<=1000000):∀ (n i:Nat) (s:List Nd×List (Nat×Nat)),i<n->i<f.length->s.1.length+cnt s.2 f.length<=f.length ->
  ∀ (M:Nat->Prop) (w0:W0) (base:Nat) (K:DV->DH->Prop),K (.pv (.int .i64 ((fin f n i s).1:Int))) ⟨3,0,base,objsOf (Hr (fin f n i s).2.1 (dnl (fin f n i s).2.2 f.length))⟩ ->
   DC Tryz.prog M w0 231 [.pv (fpv f),.pv (.int .i64 (i:Int)),.ref 0 0] ⟨3,0,base,objsOf (Hr s.1 (dnl s.2 f.length))⟩ K:=by
 intro n
 induction n with
 |zero=>intro i s h;omega
 |succ n ih =>
  intro i s hin hif hb M w0 base K hK;obtain⟨out,ds⟩:=s;refine DC.weaken (DC.introC [6,8,9] mixed (fn:=Tryz.f231) rfl rfl rfl ?_);have hlt:∀ ds,i<(dnl ds f.length).length:=fun ds=>by rw[dnl_len];exact hif
  have hget:=dnl_get (ds:=ds) hif
  cases hl:look i ds with
  |some k =>
   have hfin:fin f (n+1) i (out,ds)=(k,out,ds):=by simp only[fin,hl]
   have hdn:dn ds i=.int .i64 (k:Int):=by simp only[dn,hl]
   rw[hfin] at hK;rw[hdn] at hget
   (try conv=>whnf);repeat' (first|(apply And.intro<;>try conv=>whnf))
   refine⟨i,rfl,hlt _,?_⟩
   (try conv=>whnf);repeat' (first|(apply And.intro<;>try conv=>whnf))
   refine⟨_,hget,?_⟩
   (try conv=>whnf);repeat' (first|((first|apply And.intro|intro h)<;>try conv=>whnf)|(apply q0i;rfl))
   ·refine⟨i,rfl,hlt _,?_⟩
    (try conv=>whnf);repeat' (first|(apply And.intro<;>try conv=>whnf))
    refine⟨_,hget,?_⟩
    try conv=>whnf
    exact⟨_,3,Hr out (dnl ds f.length),(by exact Wk.s rfl),hK⟩
   ·exact absurd h (by simp)
  |none =>
   have hn:f[i]? = some f[i]:=List.getElem?_eq_getElem hif;obtain⟨x,hx⟩:∃ x,x=f[i]:=⟨_,rfl⟩;rw[<- hx] at hn;have hdn:dn ds i=.int .i64 (-1):=by simp only[dn,hl]
   rw[hdn] at hget;obtain⟨hfx,hfy⟩:=hwf i x hn;have kA:=opA_keep hwf hn hin hif (out,ds);have kB:=opB_keep hwf hn hin hif (opA f n x (out,ds)).2;have hfin:=fin_none (f:=f) (n:=n) (i:=i) (s:=(out,ds)) hl hn;rw[hfin] at hK;obtain⟨A,hA⟩:∃ A,A=opA f n x (out,ds):=⟨_,rfl⟩;rw[<- hA] at hK kA kB;obtain⟨B,hB⟩:∃ B,B=opB f n x A.2:=⟨_,rfl⟩;rw[<- hB] at hK kB;have hK':K (.pv (.int .i64 ((putN B.2.1 (ndB x.op (ndA x A.1) B.1)).1:Int))) ⟨3,0,base,objsOf (Hr (putN B.2.1 (ndB x.op (ndA x A.1) B.1)).2 (dnl (dput i (putN B.2.1 (ndB x.op (ndA x A.1) B.1)).1 B.2.2) f.length))⟩:=hK;clear hfin hK hx;have b1:=kA.2 hb;have b2:=kB.2 b1;have hlB:look i B.2.2=none:=by rw[kB.1 i (Nat.le_refl i),kA.1 i (Nat.le_refl i)];exact hl
   have hcB:=cnt_pos hlB hif
   (try conv=>whnf);repeat' (first|(apply And.intro<;>try conv=>whnf))
   refine⟨i,rfl,hlt _,?_⟩
   (try conv=>whnf);repeat' (first|(apply And.intro<;>try conv=>whnf))
   refine⟨_,hget,?_⟩
   (try conv=>whnf);repeat' (first|((first|apply And.intro|intro h)<;>try conv=>whnf)|(apply q0i;rfl)|(refine⟨_,_,rfl,q0a (by with_reducible assumption),rfl,?_⟩;try conv=>whnf)|fail)
   ·exact absurd h (by simp)
   ·try conv=>whnf
    refine⟨{ q:Nd×List Nd×List (Nat×Nat) // q.2=A.2/\q.1=ndA x A.1 },
     fun q=>[(0,.pv (fpv f)),(1,.pv (.int .i64 (i:Int))),(2,.ref 0 0),(7,.ref 3 0)],fun _=>4,
     fun q=>Hr q.1.2.1 (dnl q.1.2.2 f.length)++[(3,.var q.1.1.dvs)],?_,?_⟩
    ·(try conv=>whnf);repeat' (first|((first|apply And.intro|intro h)<;>try conv=>whnf)|(apply q0i;rfl)|(refine⟨_,_,rfl,q0a (by with_reducible assumption),rfl,?_⟩;try conv=>whnf)|(refine PureFn.dcq (f:=201) rfl ?_;try conv=>whnf)|(refine⟨_,_,ref_UsesX ?_,?_,?_⟩;rotate_left 1;(focus refine⟨?_,trivial⟩<;>first|exact PLe.refl _|exact PLe.nil);try conv=>whnf)|fail)
     ·have hx0:=hfx h;refine DC.call 3 (Hr out (dnl ds f.length)) ⟨rfl,rfl,rfl,trivial⟩ rfl rfl rfl rfl fun M' => ?_
      have hxe:x.x=((x.x.toNat:Nat):Int):=by omega
      refine (?_:DC Tryz.prog M' _ 231 [.pv (fpv f),.pv (.int .i64 x.x),.ref 0 0] ⟨3,0,3,objsOf (Hr out (dnl ds f.length))⟩ _);rw[hxe];refine ih x.x.toNat (out,ds) (by omega) (by omega) hb M' _ 3 _ ⟨rfl,?_⟩;have hAe:A=fin f n x.x.toNat (out,ds):=by rw[hA,opA,h];rfl
      rw[<- hAe]
      try conv=>whnf
      exact⟨⟨(⟨x.op,x.i,x.e,x.g,(A.1:Int),x.y⟩,A.2),rfl,by unfold ndA;rw[h];rfl⟩,(by exact Wk.s rfl)⟩
     ·have hAe:A=(0,(out,ds)):=by rw[hA,opA,h];rfl
      exact⟨⟨(x,(out,ds)),by rw[hAe],by unfold ndA;rw[h];rfl⟩,(by exact Wk.s rfl)⟩
    ·rintro⟨⟨y,out1,ds1⟩,hq1,hq2⟩;have e1:out1=A.2.1:=congrArg Prod.fst hq1;have e2:ds1=A.2.2:=congrArg Prod.snd hq1;subst e1;subst e2;have hq3:y=ndA x A.1:=hq2;have hyop:y.op=x.op:=by rw[hq3];unfold ndA;cases q0n x.op<;>rfl
     try conv=>whnf
     refine⟨{ q:Nd×List Nd×List (Nat×Nat) // q.2=B.2/\q.1=ndB x.op (ndA x A.1) B.1 },
      fun q=>[(0,.pv (fpv f)),(1,.pv (.int .i64 (i:Int))),(2,.ref 0 0),(7,.ref 3 0)],fun _=>4,
      fun q=>Hr q.1.2.1 (dnl q.1.2.2 f.length)++[(3,.var q.1.1.dvs)],?_,?_⟩
     ·(try conv=>whnf);repeat' (first|((first|apply And.intro|intro h)<;>try conv=>whnf)|(apply q0i;rfl)|(refine⟨_,_,rfl,q0a (by with_reducible assumption),rfl,?_⟩;try conv=>whnf)|(refine PureFn.dcq (f:=202) rfl ?_;try conv=>whnf)|(refine⟨_,_,ref_UsesY ?_,?_,?_⟩;rotate_left 1;(focus refine⟨?_,trivial⟩<;>first|exact PLe.refl _|exact PLe.nil);try conv=>whnf)|fail)
      ·have h:q0o x.op=true:=by rw[<- hyop];exact h
       have hy0:=hfy h;refine DC.call 3 (Hr A.2.1 (dnl A.2.2 f.length)) ⟨rfl,rfl,rfl,trivial⟩ rfl rfl rfl rfl fun M' => ?_
       have hye:x.y=((x.y.toNat:Nat):Int):=by omega
       refine (?_:DC Tryz.prog M' _ 231 [.pv (fpv f),.pv (.int .i64 x.y),.ref 0 0] ⟨3,0,3,objsOf (Hr A.2.1 (dnl A.2.2 f.length))⟩ _);rw[hye];refine ih x.y.toNat A.2 (by omega) (by omega) b1 M' _ 3 _ ⟨rfl,?_⟩;have hBe:B=fin f n x.y.toNat A.2:=by rw[hB,opB,h];rfl
       rw[<- hBe]
       try conv=>whnf
       exact⟨⟨(⟨y.op,y.i,y.e,y.g,y.x,(B.1:Int)⟩,B.2),rfl,by rw[<- hq3];unfold ndB;rw[h];rfl⟩,(by exact Wk.s rfl)⟩
      ·have h:q0o x.op=false:=by rw[<- hyop];exact h
       have hBe:B=(0,A.2):=by rw[hB,opB,h];rfl
       exact⟨⟨(y,A.2),by rw[hBe],by rw[<- hq3];unfold ndB;rw[h];rfl⟩,(by exact Wk.s rfl)⟩
     ·rintro⟨⟨z,out2,ds2⟩,hr1,hr2⟩;have e1:out2=B.2.1:=congrArg Prod.fst hr1;have e2:ds2=B.2.2:=congrArg Prod.snd hr1;subst e1;subst e2;have hr3:z=ndB x.op (ndA x A.1) B.1:=hr2;rw[<- hr3] at hK'
      try conv=>whnf
      refine⟨{ q:Nat×List Nd // q=putN B.2.1 z },fun q=>[(1,.pv (.int .i64 (i:Int))),(2,.ref 0 0)],fun _=>3,
       fun q=>Hr q.1.2 (dnl (dput i q.1.1 B.2.2) f.length),?_,?_⟩
      ·try conv=>whnf
       refine⟨finPlan,[7,9],by kernel_rfl,?_⟩
       (try conv=>whnf);repeat' (first|(apply And.intro<;>try conv=>whnf))
       all_goals
        refine DC.call 3 (Hr B.2.1 (dnl B.2.2 f.length)) ⟨rfl,rfl,rfl,trivial⟩ rfl rfl rfl rfl fun M' => ?_
        refine put_dc B.2.1 (dnl B.2.2 f.length) z (by omega) M' _ 3 _ ⟨rfl,?_⟩;obtain⟨p,hp⟩:∃ p,p=putN B.2.1 z:=⟨_,rfl⟩;rw[<- hp] at hK' |-
        (try conv=>whnf);repeat' (first|(apply And.intro<;>try conv=>whnf))
        refine⟨i,rfl,hlt _,?_⟩
        (try conv=>whnf);repeat' (first|(apply And.intro<;>try conv=>whnf))
        refine⟨_,dnl_get hif,?_⟩
        (try conv=>whnf);repeat' (first|(apply And.intro<;>try conv=>whnf)|exact Nat.le_refl 1|fail)
        ·refine⟨⟨p,rfl⟩,Wk.of ⟨.same _,.same _,trivial⟩ ⟨WkO.vars rfl ⟨.same _,WkD.eq (congrArg (DV.buf 2) ((dnl_len _ _).trans (dnl_len _ _).symm)),trivial⟩,trivial,.same _ _ rfl,trivial,.same _ _ ?_,trivial,trivial⟩ rfl rfl rfl⟩;exact congrArg (fun z=>some (DObj.arr 1 z)) (dnl_set B.2.2 f.length i p.1)
      ·rintro⟨q,rfl⟩
       (try conv=>whnf);repeat' (first|(apply And.intro<;>try conv=>whnf))
       refine⟨i,rfl,hlt _,?_⟩
       (try conv=>whnf);repeat' (first|(apply And.intro<;>try conv=>whnf))
       refine⟨_,dnl_get hif,?_⟩;have hdn:dn (dput i (putN B.2.1 z).1 B.2.2) i=.int .i64 ((putN B.2.1 z).1:Int):=by rw[dn,look_dput,if_pos rfl]
       try conv=>whnf
       ·exact⟨_,3,Hr (putN B.2.1 z).2 (dnl (dput i (putN B.2.1 z).1 B.2.2) f.length),Wk.of ⟨WkD.eq (congrArg DV.pv hdn),trivial⟩ ⟨.same _ _ rfl,trivial,.same _ _ rfl,trivial,.same _ _ rfl,trivial,trivial⟩ rfl rfl rfl,hK'⟩
theorem firstErr_zero:∀ {f:List Nd} {s:Nat},firstErr f s=0->∀ (i:Nat) x,f[i]? = some x->z0e x ((s+i:Nat):Int)=0
 | [],s,_,i,x,hx=>by simp at hx
 |n::r,s,h,i,x,hx=>by
  simp only[firstErr] at h
  cases hb:(z0e n s != 0) with
  |true=>rw[hb] at h;simp only[cond_true] at h;rw[h] at hb;simp at hb
  |false =>
   rw[hb] at h;simp only[cond_false] at h
   cases i with
   |zero=>simp at hx;subst hx;simpa using hb
   |succ i =>
    have:=firstErr_zero h i x (by simpa using hx)
    rw[show s+(i+1)=s+1+i by omega];exact this
theorem y0h {f:List Nd} (h:z0b f=0):1<=f.length/\f.length<=200/\∀ (i:Nat) x,f[i]? = some x->z0e x (i:Int)=0:=by
 unfold z0b at h
 cases h1:((f.length:Int)==0) with
 |true=>rw[h1] at h;simp at h
 |false =>
  cases h2:decide ((f.length:Int)>200) with
  |true=>rw[h1,h2] at h;simp at h
  |false =>
   rw[h1,h2] at h;simp only[cond_false] at h;refine⟨?_,?_,fun i x hx => ?_⟩
   ·have:¬ (f.length:Int)=0:=by simpa using h1
    omega
   ·have:¬ (f.length:Int)>200:=by simpa using h2
    omega
   ·have:=firstErr_zero h i x hx
    simpa using this
structure OkNd (n:Nd) (k:Int):Prop where
 op:1<=n.op/\n.op<=21
 x:q0n n.op=true->0<=n.x/\n.x<k
 nox:q0n n.op=false->n.x=0
 y:q0o n.op=true->0<=n.y/\n.y<k
 noy:q0o n.op=false->n.y=0
 fact:n.op=3->0<=n.i/\n.i<8
 agent:z0r n.op=true->0<=n.i/\n.i<4
 act:n.op=17->0<=n.i/\n.i<8/\0<=n.e/\n.e<8
 noi:n.op≠3->z0r n.op=false->n.op≠17->n.i=0
 noe:n.op≠17->n.e=0
 group:z0y n.op=true->1<=n.g/\n.g<16
 nog:z0y n.op=false->n.g=0
theorem nodeErr_ok {x:Nd} {a:Int}:z0e x a=0↔OkNd x a:=by
 have hd:∀ {c:Bool} {p q:Int},p≠0->((bif c then p else q)=0↔c=false/\q=0):=by
  intro c p q hp;cases c<;>simp[hp]
 unfold z0e;rw[hd (by decide),hd (by decide),hd (by decide),hd (by decide),hd (by decide),hd (by decide),hd (by decide)]
 cases hx:q0n x.op<;>cases hy:q0o x.op<;>cases ha:z0r x.op<;>cases hg:z0y x.op <;>
  (constructor
   ·intro h;simp only[cond_true,cond_false,Bool.not_true,Bool.not_false] at h;constructor<;>simp_all<;>(try omega)
   ·intro h;obtain⟨h1,h2,h3,h4,h5,h6,h7,h8,h9,h10,h11,h12⟩:=h
    by_cases e3:x.op=3<;>by_cases e17:x.op=17<;>simp_all<;>(try omega))
theorem check_wf {f:List Nd} (h:z0b f=0):Wf f:=fun i x hx =>
 have:=nodeErr_ok.1 ((y0h h).2.2 i x hx)
 ⟨this.x,this.y⟩
def sub (f:List Nd) (node:Int):List Nd:=bif bif bif z0b f != 0 then true else decide (node<0) then true else decide (node>=(f.length:Int)) then [] else canon f node.toNat
def q0u (f:List Nd):List Nd:=sub f ((f.length:Int)-1)
theorem sub_no {f:List Nd} {node:Int} (h:(bif bif z0b f != 0 then true else decide (node<0) then true else decide (node>=((f.map Nd.pv).length:Int)))=true):sub f node=[]:=by
 rw[List.length_map] at h;rw[sub,h];rfl
theorem sub_yes {f:List Nd} {node:Int} (h:(bif bif z0b f != 0 then true else decide (node<0) then true else decide (node>=((f.map Nd.pv).length:Int)))=false) :
  z0b f=0/\∃ k:Nat,node=k/\k<f.length/\sub f node=canon f k:=by
 rw[List.length_map] at h;have hs:sub f node=canon f node.toNat:=by rw[sub,h];rfl
 cases h1:(z0b f != 0) with
 |true=>rw[h1] at h;simp at h
 |false =>
  rw[h1] at h;have h2:¬ node<0:=by intro hh;simp[hh] at h
  have h3:¬ node>=(f.length:Int):=by intro hh;simp[h2,hh] at h
  exact⟨by simpa using h1,node.toNat,by omega,by omega,hs⟩
theorem fm_Sub (f:List Nd) (node:Int):PureFn Tryz.prog 109 [fpv f,.int .i64 node] (fpv (sub f node)):=by
 refine PureFn.intro mixed (fn:=Tryz.f109) rfl rfl rfl fun M w0 => ?_
 (try conv=>whnf);repeat' (first|((first|apply And.intro|intro h)<;>try conv=>whnf)|apply True.intro|(apply WhenQ.mk;(try conv=>whnf);rotate_left;(try conv=>whnf);rotate_right)|with_reducible assumption|(apply q0x;with_reducible assumption)|(refine PureFn.dcq (f:=86) rfl ?_;try conv=>whnf)|(refine⟨_,_,fm_Check ?_,?_,?_⟩;rotate_left 1;(focus refine⟨?_,trivial⟩<;>first|exact PLe.refl _|exact PLe.nil);try conv=>whnf)|fail)
 ·rw[sub_no h];exact .nil
 ·obtain⟨hc,k,rfl,hk,hs⟩:=sub_yes h;have hcomp:=fm_compact f k (check_wf hc) hk (by have:=(y0h hc).2.1;omega)
  (try conv=>whnf);repeat' (first|(refine PureFn.dy hcomp rfl ?_;try conv=>whnf)|fail)
  rw[hs];exact .refl _
theorem dnl_succ (i:Nat):dnl [] (i+1)=dnl [] i++[.int .i64 (-1)]:=by
 simp only[dnl,List.range_succ,List.map_append,List.map_cons,List.map_nil];rfl
theorem ref_Sub (f:List Nd) (node:Int):PureFn Tryz.prog 204 [fpv f,.int .i64 node] (fpv (sub f node)):=by
 refine PureFn.intro mixed (fn:=Tryz.f204) rfl rfl rfl fun M w0 => ?_
 (try conv=>whnf);repeat' (first|((first|apply And.intro|intro h)<;>try conv=>whnf)|apply True.intro|(apply WhenQ.mk;(try conv=>whnf);rotate_left;(try conv=>whnf);rotate_right)|with_reducible assumption|(apply q0x;with_reducible assumption)|(refine PureFn.dcq (f:=165) rfl ?_;try conv=>whnf)|(refine⟨_,_,ref_Check ?_,?_,?_⟩;rotate_left 1;(focus refine⟨?_,trivial⟩<;>first|exact PLe.refl _|exact PLe.nil);try conv=>whnf)|fail)
 ·rw[sub_no h];exact .nil
 ·obtain⟨hc,k,rfl,hk,hs⟩:=sub_yes h;have hl:=(y0h hc).2.1
  try conv=>whnf
  refine⟨{ i:Nat // i<=f.length },fun i=>[(0,.pv (fpv f)),(1,.pv (.int .i64 (k:Int))),(5,.ref 0 0),(6,.pv (.int .i64 (i.1:Nat)))],fun _=>3,fun i=>Hr [] (dnl [] i),fun i=>f.length-i.1,
   ⟨⟨0,Nat.zero_le _⟩,(by refine Wk.of ?_ ?_ rfl rfl rfl<;>repeat' (first|exact trivial|exact WkD.same _|exact WkD.new' rfl rfl rfl|exact WkO.new _ _ rfl|refine WkO.vars rfl ?_|exact rfl|refine⟨?_,?_⟩|fail))⟩,?_⟩
  rintro⟨i,hi⟩
  (try conv=>whnf);repeat' (first|((first|apply And.intro|intro h)<;>try conv=>whnf)|(apply q0p;rfl)|(apply szI;rfl))
  ·show (dnl [] i).length+1<=4294967296
   rw[dnl_len];omega
  ·have hi':i<f.length:=by simpa using h
   refine⟨⟨i+1,hi'⟩,by show f.length-(i+1)<f.length-i;omega,Wk.of ⟨.same _,.same _,.same _,WkD.int (q0h (by simp) (by dsimp only;omega) (by dsimp only;omega)),trivial⟩ ⟨WkO.vars rfl ⟨.same _,WkD.eq ?_,trivial⟩,trivial,.same _ _ rfl,trivial,.same _ _ ?_,trivial,trivial⟩ rfl rfl rfl⟩
   ·exact congrArg (DV.buf 2) (congrArg List.length (dnl_succ i).symm)
   ·exact congrArg (fun z=>some (DObj.arr 1 z)) (dnl_succ i).symm
  ·have hi':i=f.length:=by
                  have:¬ i<f.length:=by simpa using h
                  omega
   subst hi';refine rfin_dc f (check_wf hc) (by omega) (k+1) k ([],[]) (by omega) hk ?_ M w0 _ _ ?_
   ·show 0+cnt [] f.length<=f.length
    rw[cnt_nil];omega
   ·(try conv=>whnf);repeat' (first|(apply And.intro<;>try conv=>whnf)|(apply bleI;rfl))
    rw[hs];exact .refl _
theorem comp_wrap (f:List Nd):sub f (IntKind.wrap .i64 (((f.map Nd.pv).length:Int)-1))=q0u f:=by
 rw[List.length_map]
 by_cases h:f.length<=200
 ·rw[wrap_small (by omega) (by omega)];rfl
 ·have hc:(z0b f != 0)=true:=by
   cases hb:(z0b f != 0) with
   |true=>rfl
   |false=>exact absurd (y0h (by simpa using hb)).2.1 h
  rw[q0u,sub,sub,hc];rfl
theorem fm_Compact (f:List Nd):PureFn Tryz.prog 68 [fpv f] (fpv (q0u f)):=by
 refine PureFn.intro mixed (fn:=Tryz.f68) rfl rfl rfl fun M w0 => ?_
 (try conv=>whnf);repeat' (first|(refine PureFn.dcq (f:=109) rfl ?_;try conv=>whnf)|(refine⟨_,_,fm_Sub ?_ ?_,?_,?_⟩;rotate_left 2;(focus refine⟨?_,?_,trivial⟩<;>first|exact PLe.refl _|exact PLe.nil);try conv=>whnf)|fail)
 exact comp_wrap f▸.refl _
theorem ref_Compact (f:List Nd):PureFn Tryz.prog 169 [fpv f] (fpv (q0u f)):=by
 refine PureFn.intro mixed (fn:=Tryz.f169) rfl rfl rfl fun M w0 => ?_
 (try conv=>whnf);repeat' (first|(refine PureFn.dcq (f:=204) rfl ?_;try conv=>whnf)|(refine⟨_,_,ref_Sub ?_ ?_,?_,?_⟩;rotate_left 2;(focus refine⟨?_,?_,trivial⟩<;>first|exact PLe.refl _|exact PLe.nil);try conv=>whnf)|fail)
 exact comp_wrap f▸.refl _
theorem take_eq {a b:List Nd} {i:Nat} (h:a.take i=b.take i) (hl:a.length=b.length) (hi:i<a.length):(a[i]=b[i]'(by omega)->a.take (i+1)=b.take (i+1))/\(¬ a[i]=b[i]'(by omega)->¬ a=b):=by
 refine⟨fun e => ?_,fun e q=>e (by subst q;rfl)⟩;rw[List.take_succ_eq_append_getElem hi,List.take_succ_eq_append_getElem (by omega),h,e]
theorem sl_Equal (a b:List Nd) (ha:a.length<=1000000):PureFn Tryz.prog 90 [fpv a,fpv b] (.bool (decide (a=b))):=by
 refine PureFn.intro mixed (fn:=Tryz.f90) rfl rfl rfl fun M w0 => ?_
 (try conv=>whnf);repeat' (first|((first|apply And.intro|intro h)<;>try conv=>whnf))
 ·refine z0n ?_;have:¬ a.length=b.length:=by simp at h;omega
  exact (decide_eq_false fun e=>this (by rw[e])).symm
 ·have hl:a.length=b.length:=by simp at h;omega
  refine⟨{ i:Nat // i<=a.length/\a.take i=b.take i },fun i=>[(0,.pv (fpv a)),(1,.pv (fpv b)),(12,.pv (.int .i64 (a.map Nd.pv).length)),(13,.pv (.int .i64 (i.1:Nat)))],fun _=>0,fun _=>[],fun i=>a.length-i.1,
   ⟨⟨0,Nat.zero_le _,rfl⟩,(by exact Wk.s rfl)⟩,?_⟩
  rintro⟨i,hi,he⟩
  (try conv=>whnf);repeat' (first|((first|apply And.intro|intro h)<;>try conv=>whnf)|(apply q0i;rfl)|(refine q0w (by kernel_rfl) ?_;try conv=>whnf)|fail)
  ·have hi':i<a.length:=by simpa using h
   have hn:a[i]? = some a[i]:=List.getElem?_eq_getElem hi';have hm:b[i]? = some (b[i]'(by omega)):=List.getElem?_eq_getElem (by omega);obtain⟨t1,t2⟩:=take_eq he hl hi'
   (try conv=>whnf);repeat' (first|((first|apply And.intro|intro h)<;>try conv=>whnf)|(apply q0i;rfl)|(apply fitI;rfl)|(apply guardI;kernel_rfl)|(refine⟨_,_,rfl,q0a (by with_reducible assumption),rfl,?_⟩;try conv=>whnf)|fail)
   ·refine z0n ?_;have hx:¬ a[i]=b[i]'(by omega):=by have:=(congrArg not (eqPVs_nd a[i] (b[i]'(by omega)))).symm.trans h;simpa using this
    exact (decide_eq_false (t2 hx)).symm
   ·have hx:a[i]=b[i]'(by omega):=by have:=(congrArg not (eqPVs_nd a[i] (b[i]'(by omega)))).symm.trans h;simpa using this
    exact⟨⟨i+1,hi',t1 hx⟩,by show a.length-(i+1)<a.length-i;omega,(by refine Wk.of ?_ ?_ rfl rfl rfl<;>repeat' (first|exact trivial|exact WkD.same _|refine WkD.int ?_|refine⟨?_,?_⟩|(apply q0h;(focus simp;done);all_goals (try dsimp only);omega)|fail))⟩
  ·have hi':¬ i<a.length:=by simpa using h
   refine z0n ?_;rw[List.take_of_length_le (by omega),List.take_of_length_le (by omega)] at he;exact (decide_eq_true he).symm
theorem canon_len {f:List Nd} (hwf:Wf f) {i:Nat} (hi:i<f.length):(canon f i).length<=f.length:=by
 have:=(fin_keep hwf (i+1) i ([],[]) (by omega) hi).2 (by show 0+cnt [] f.length<=f.length;rw[cnt_nil];omega);unfold canon;omega
theorem sub_len (f:List Nd) (node:Int):(sub f node).length<=200:=by
 cases h:(bif bif z0b f != 0 then true else decide (node<0) then true else decide (node>=((f.map Nd.pv).length:Int))) with
 |true=>rw[sub_no h];simp
 |false =>
  obtain⟨hc,k,rfl,hk,hs⟩:=sub_yes h;rw[hs];have:=canon_len (check_wf hc) hk;have:=(y0h hc).2.1;omega
theorem comp_len (f:List Nd):(q0u f).length<=200:=sub_len f _
def same (a b:List Nd):Bool:=bif bif z0b a==0 then z0b b==0 else false then decide (q0u a=q0u b) else false
theorem fm_Same (a b:List Nd):PureFn Tryz.prog 33 [fpv a,fpv b] (.bool (same a b)):=by
 refine PureFn.intro mixed (fn:=Tryz.f33) rfl rfl rfl fun M w0 => ?_
 have hEq:=sl_Equal (q0u a) (q0u b) (by have:=comp_len a;omega)
 (try conv=>whnf);repeat' (first|((first|apply And.intro|intro h)<;>try conv=>whnf)|apply True.intro|(apply WhenQ.mk;(try conv=>whnf);rotate_left;(try conv=>whnf);rotate_right)|with_reducible assumption|(refine PureFn.dy hEq rfl ?_;try conv=>whnf)|(refine PureFn.dcq (f:=86) rfl ?_;try conv=>whnf)|(refine PureFn.dcq (f:=68) rfl ?_;try conv=>whnf)|(refine⟨_,_,fm_Check ?_,?_,?_⟩;rotate_left 1;(focus refine⟨?_,trivial⟩<;>first|exact PLe.refl _|exact PLe.nil);try conv=>whnf)|(refine⟨_,_,fm_Compact ?_,?_,?_⟩;rotate_left 1;(focus refine⟨?_,trivial⟩<;>first|exact PLe.refl _|exact PLe.nil);try conv=>whnf)|fail)
 all_goals exact PLe.refl _
def Okl (f:List Nd):Prop:=∀ (i:Nat) x,f[i]? = some x->OkNd x (i:Int)
theorem Okl.wf {f:List Nd} (h:Okl f):Wf f:=fun i x hx=>⟨(h i x hx).x,(h i x hx).y⟩
def DsOk (s:List Nd×List (Nat×Nat)):Prop:=∀ j v,look j s.2=some v->v<s.1.length
theorem idx_some {x:Nd}:∀ {out:List Nd} {i k:Nat},idx x out i=some k->i<=k/\out[k-i]? = some x
 | [],i,k,h=>by simp[idx] at h
 |n::r,i,k,h=>by
  simp only[idx] at h
  by_cases e:n=x
  ·rw[if_pos e] at h;simp at h;subst h;subst e;simp
  ·rw[if_neg e] at h;obtain⟨h1,h2⟩:=idx_some h;refine⟨by omega,?_⟩;rw[show k-i=(k-(i+1))+1 by omega];simpa using h2
theorem putN_spec (out:List Nd) (x:Nd):(putN out x).2[(putN out x).1]? = some x/\(putN out x).1<(putN out x).2.length/\∃ t,(putN out x).2=out++t/\∀ y,y∈t->y=x:=by
 unfold putN
 cases h:idx x out 0 with
 |some k =>
  obtain⟨_,h2⟩:=idx_some h;simp only[Nat.sub_zero] at h2;exact⟨h2,(List.getElem?_eq_some_iff.1 h2).1,[],by simp,by simp⟩
 |none=>exact⟨by simp,by simp,[x],rfl,by simp⟩
theorem putN_ok {out:List Nd} {x:Nd} (ho:Okl out) (hx:OkNd x out.length):Okl (putN out x).2:=by
 unfold putN
 cases h:idx x out 0 with
 |some k=>exact ho
 |none =>
  intro i y hy;simp only at hy
  rcases Nat.lt_or_ge i out.length with hl|hl
  ·rw[List.getElem?_append_left hl] at hy;exact ho i y hy
  ·rw[List.getElem?_append_right hl] at hy
   have:i=out.length:=by
    have:=(List.getElem?_eq_some_iff.1 hy).1;simp at this;omega
   subst this;simp at hy;subst hy;exact hx
def ndZ (x:Nd) (a b:Nat):Nd:=ndB x.op (ndA x a) b
theorem ndZ_op (x:Nd) (a b:Nat):(ndZ x a b).op=x.op:=by unfold ndZ ndB ndA;cases q0n x.op<;>cases q0o x.op<;>rfl
theorem ndZ_i (x:Nd) (a b:Nat):(ndZ x a b).i=x.i:=by unfold ndZ ndB ndA;cases q0n x.op<;>cases q0o x.op<;>rfl
theorem ndZ_e (x:Nd) (a b:Nat):(ndZ x a b).e=x.e:=by unfold ndZ ndB ndA;cases q0n x.op<;>cases q0o x.op<;>rfl
theorem ndZ_g (x:Nd) (a b:Nat):(ndZ x a b).g=x.g:=by unfold ndZ ndB ndA;cases q0n x.op<;>cases q0o x.op<;>rfl
theorem ndZ_x (x:Nd) (a b:Nat):(ndZ x a b).x=bif q0n x.op then (a:Int) else x.x:=by unfold ndZ ndB ndA;cases q0n x.op<;>cases q0o x.op<;>rfl
theorem ndZ_y (x:Nd) (a b:Nat):(ndZ x a b).y=bif q0o x.op then (b:Int) else x.y:=by unfold ndZ ndB ndA;cases q0n x.op<;>cases q0o x.op<;>rfl
theorem ndZ_ok {x:Nd} {i:Int} {a b n:Nat} (h:OkNd x i) (ha:q0n x.op=true->a<n) (hb:q0o x.op=true->b<n):OkNd (ndZ x a b) n:=by
 constructor
 ·rw[ndZ_op];exact h.op
 ·rw[ndZ_op,ndZ_x];intro u;rw[u];have:=ha u;simp only[cond_true];omega
 ·rw[ndZ_op,ndZ_x];intro u;rw[u];exact h.nox u
 ·rw[ndZ_op,ndZ_y];intro u;rw[u];have:=hb u;simp only[cond_true];omega
 ·rw[ndZ_op,ndZ_y];intro u;rw[u];exact h.noy u
 ·rw[ndZ_op,ndZ_i];exact h.fact
 ·rw[ndZ_op,ndZ_i];exact h.agent
 ·rw[ndZ_op,ndZ_i,ndZ_e];exact h.act
 ·rw[ndZ_op,ndZ_i];exact h.noi
 ·rw[ndZ_op,ndZ_e];exact h.noe
 ·rw[ndZ_op,ndZ_g];exact h.group
 ·rw[ndZ_op,ndZ_g];exact h.nog
structure FinOk (s t:List Nd×List (Nat×Nat)) (k:Nat):Prop where
 ok:Okl t.1
 ds:DsOk t
 lt:k<t.1.length
 ext:∃ u,t.1=s.1++u
theorem fin_ok {f:List Nd} (hf:Okl f):∀ (n i:Nat) (s:List Nd×List (Nat×Nat)),i<n->i<f.length->Okl s.1->DsOk s->FinOk s (fin f n i s).2 (fin f n i s).1
 |0,i,s,h,_,_,_=>by omega
 |n+1,i,s,hin,hif,ho,hd=>by
  cases hl:look i s.2 with
  |some k=>simp only[fin,hl];exact⟨ho,hd,hd i k hl,[],by simp⟩
  |none =>
   have hn:f[i]? = some f[i]:=List.getElem?_eq_getElem hif;generalize hx:f[i]=x at hn;have hok:=hf i x hn;rw[fin_none hl hn]
   have hA:Okl (opA f n x s).2.1/\DsOk (opA f n x s).2/\(q0n x.op=true->(opA f n x s).1<(opA f n x s).2.1.length)/\∃ u,(opA f n x s).2.1=s.1++u:=by
    unfold opA
    cases hu:q0n x.op with
    |false=>exact⟨ho,hd,(fun h=>by cases h),[],by simp⟩
    |true =>
     have:=hok.x hu;have q:=fin_ok hf n x.x.toNat s (by omega) (by omega) ho hd;exact⟨q.ok,q.ds,fun _=>q.lt,q.ext⟩
   generalize opA f n x s=A at hA |-;obtain⟨a1,a2,a3,ua,a4⟩:=hA
   have hB:Okl (opB f n x A.2).2.1/\DsOk (opB f n x A.2).2/\(q0o x.op=true->(opB f n x A.2).1<(opB f n x A.2).2.1.length)/\∃ u,(opB f n x A.2).2.1=A.2.1++u:=by
    unfold opB
    cases hu:q0o x.op with
    |false=>exact⟨a1,a2,(fun h=>by cases h),[],by simp⟩
    |true =>
     have:=hok.y hu;have q:=fin_ok hf n x.y.toNat A.2 (by omega) (by omega) a1 a2;exact⟨q.ok,q.ds,fun _=>q.lt,q.ext⟩
   generalize opB f n x A.2=B at hB |-;obtain⟨b1,b2,b3,ub,b4⟩:=hB;have hz:OkNd (ndZ x A.1 B.1) B.2.1.length:=ndZ_ok hok (fun u=>by have:=a3 u;rw[b4,List.length_append];omega) b3
   change FinOk s ((putN B.2.1 (ndZ x A.1 B.1)).2,dput i (putN B.2.1 (ndZ x A.1 B.1)).1 B.2.2) (putN B.2.1 (ndZ x A.1 B.1)).1
   obtain⟨p1,p2,t,p3,_⟩:=putN_spec B.2.1 (ndZ x A.1 B.1);refine⟨putN_ok b1 hz,?_,p2,ua++ub++t,by simp only;rw[p3,b4,a4];simp[List.append_assoc]⟩;intro j v hv;simp only[look_dput] at hv
   by_cases e:j=i
   ·rw[if_pos e] at hv;simp at hv;subst hv;exact p2
   ·rw[if_neg e] at hv;have:=b2 j v hv;simp only;rw[p3,List.length_append];omega
theorem canon_ok {f:List Nd} (hf:Okl f) {i:Nat} (hi:i<f.length):Okl (canon f i)/\1<=(canon f i).length:=by
 have q:=fin_ok hf (i+1) i ([],[]) (by omega) hi (fun j x h=>by simp at h) (fun j v h=>by simp[look] at h);exact⟨q.ok,by have:=q.lt;unfold canon;omega⟩
theorem check_okl {f:List Nd} (h:z0b f=0):Okl f:=fun i x hx=>nodeErr_ok.1 ((y0h h).2.2 i x hx)
theorem okl_check {f:List Nd} (h:Okl f) (h1:1<=f.length) (h2:f.length<=200):z0b f=0:=by
 have e1:((f.length:Int)==0)=false:=by simp;intro e;subst e;simp at h1
 have e2:decide ((f.length:Int)>200)=false:=by simp;omega
 rw[z0b,e1,e2]
 have:∀ (l:List Nd) (s:Nat),(∀ (i:Nat) x,l[i]? = some x->z0e x ((s+i:Nat):Int)=0)->firstErr l s=0:=by
  intro l
  induction l with
  |nil=>intro s _;rfl
  |cons n r ih =>
   intro s hs;have h0:z0e n s=0:=by simpa using hs 0 n rfl
   simp only[firstErr,h0]
   exact ih (s+1) fun i x hx=>by
    have:=hs (i+1) x (by simpa using hx);rw[show s+1+i=s+(i+1) by omega];exact this
 exact this f 0 fun i x hx=>nodeErr_ok.2 (by simpa using h i x hx)
theorem sub_okl (f:List Nd) (node:Int):Okl (sub f node):=by
 cases h:(bif bif z0b f != 0 then true else decide (node<0) then true else decide (node>=((f.map Nd.pv).length:Int))) with
 |true=>rw[sub_no h];intro i x hx;simp at hx
 |false =>
  obtain⟨hc,k,rfl,hk,hs⟩:=sub_yes h;rw[hs];exact (canon_ok (check_okl hc) hk).1
theorem z0h (f:List Nd):Okl (q0u f):=sub_okl f _
theorem comp_eq {f:List Nd} (h:z0b f=0):q0u f=canon f (f.length-1):=by
 have:=(y0h h).1;have e1:(z0b f != 0)=false:=by rw[h];rfl
 have e2:decide (((f.length:Int)-1)<0)=false:=by simp;omega
 have e3:decide (((f.length:Int)-1)>=(f.length:Int))=false:=by simp;omega
 rw[q0u,sub,e1,e2,e3];exact congrArg (canon f) (by omega)
theorem comp_none {f:List Nd} (h:¬ z0b f=0):q0u f=[]:=by
 have e1:(z0b f != 0)=true:=by simpa using h
 rw[q0u,sub,e1];rfl
theorem comp_pos {f:List Nd} (h:z0b f=0):1<=(q0u f).length:=by
 rw[comp_eq h];have:=(y0h h).1;exact (canon_ok (check_okl h) (by omega)).2
theorem comp_check {f:List Nd} (h:z0b f=0):z0b (q0u f)=0:=okl_check (z0h f) (comp_pos h) (comp_len f)
def orN (m:Nd->Nat) (c:List Nd):Nat:=c.foldl (fun a x=>a |||m x) 0
theorem foldl_or (m:Nd->Nat):∀ (c:List Nd) (a:Nat),c.foldl (fun a x=>a |||m x) a=a |||orN m c
 | [],a=>by simp[orN]
 |x::r,a=>by
  simp only[orN,List.foldl_cons];rw[foldl_or m r,foldl_or m r,Nat.zero_or,Nat.or_assoc]
theorem orN_cons (m:Nd->Nat) (x:Nd) (r:List Nd):orN m (x::r)=m x |||orN m r:=by
 rw[orN,List.foldl_cons,foldl_or,Nat.zero_or]
theorem orN_take {m:Nd->Nat} {c:List Nd} {i:Nat} (h:i<c.length):orN m (c.take (i+1))=orN m (c.take i) |||m c[i]:=by
 rw[List.take_succ_eq_append_getElem h,orN,List.foldl_append,foldl_or];rw[orN_cons];simp only[orN,List.foldl_nil,Nat.or_zero]
theorem orN_lt {m:Nd->Nat} {k:Nat}:∀ {c:List Nd},(∀ x,x∈c->m x<2^k)->orN m c<2^k
 | [],_=>Nat.two_pow_pos k
 |x::r,h=>by
  rw[orN_cons];exact Nat.or_lt_two_pow (h x (by simp)) (orN_lt fun y hy=>h y (by simp[hy]))
def fragN (x:Nd):Nat:=(frag x.op).toNat
def factN (x:Nd):Nat:=bif x.op==3 then 2^x.i.toNat else 0
def agN (x:Nd):Nat:=bif z0r x.op then 2^x.i.toNat else x.g.toNat
def y0e (f:List Nd):Nat:=orN fragN (q0u f)
def facts (f:List Nd):Nat:=orN factN (q0u f)
def agents (f:List Nd):Nat:=orN agN (q0u f)
theorem okl_mem {f:List Nd} (h:Okl f) {x:Nd} (hx:x∈f):∃ i:Nat,OkNd x i:=by
 obtain⟨i,hi,rfl⟩:=List.mem_iff_getElem.1 hx;exact⟨i,h i _ (List.getElem?_eq_getElem hi)⟩
theorem fragN_lt {x:Nd} {k:Int} (h:OkNd x k):fragN x<2^9/\frag x.op=(fragN x:Int):=by
 have ho:=h.op;have key:∀ op:Nat,op<22->(frag (op:Int)).toNat<512/\frag (op:Int)=((frag (op:Int)).toNat:Int):=by decide
 have:=key x.op.toNat (by omega);rw[show ((x.op.toNat:Nat):Int)=x.op by omega] at this;exact this
theorem pow_lt {i:Int} {a k:Nat} (h1:0<=i) (h2:i<a) (hk:a<=k):2^i.toNat<2^k:=Nat.pow_lt_pow_right (by decide) (by omega)
theorem factN_lt {x:Nd} {k:Int} (h:OkNd x k):factN x<2^8:=by
 unfold factN
 cases hb:(x.op==3) with
 |false=>show 0<2^8;decide
 |true=>have:=h.fact (by simpa using hb);exact pow_lt (a:=8) this.1 this.2 (by decide)
theorem agN_lt {x:Nd} {k:Int} (h:OkNd x k):agN x<2^4:=by
 unfold agN
 cases hb:z0r x.op with
 |true=>have:=h.agent hb;exact pow_lt (a:=4) this.1 this.2 (by decide)
 |false =>
  cases hg:z0y x.op with
  |true=>have:=h.group hg;show x.g.toNat<16;omega
  |false=>have:=h.nog hg;show x.g.toNat<16;omega
theorem frags_lt (f:List Nd):y0e f<2^9:=orN_lt fun x hx=>by obtain⟨i,hi⟩:=okl_mem (z0h f) hx;exact (fragN_lt hi).1
theorem facts_lt (f:List Nd):facts f<2^8:=orN_lt fun x hx=>by obtain⟨i,hi⟩:=okl_mem (z0h f) hx;exact factN_lt hi
theorem agents_lt (f:List Nd):agents f<2^4:=orN_lt fun x hx=>by obtain⟨i,hi⟩:=okl_mem (z0h f) hx;exact agN_lt hi
def or64 (a b:Int):Int:=IntKind.wrap .i64 ((BitVec.ofInt (IntKind.bits .i64) a |||BitVec.ofInt (IntKind.bits .i64) b).toNat:Int)
theorem or64_nat {a b:Nat} (ha:a<2^62) (hb:b<2^62):or64 a b=((a |||b:Nat):Int):=by
 unfold or64;have e1:BitVec.ofInt (IntKind.bits .i64) (a:Int)=BitVec.ofNat 64 a:=BitVec.ofInt_natCast 64 a;have e2:BitVec.ofInt (IntKind.bits .i64) (b:Int)=BitVec.ofNat 64 b:=BitVec.ofInt_natCast 64 b;have ho:a |||b<2^62:=Nat.or_lt_two_pow ha hb
 have h1:(BitVec.ofInt (IntKind.bits .i64) (a:Int) |||BitVec.ofInt (IntKind.bits .i64) (b:Int)).toNat=a |||b:=by
  rw[e1,e2];refine (BitVec.toNat_or (BitVec.ofNat 64 a) (BitVec.ofNat 64 b)).trans ?_;rw[BitVec.toNat_ofNat,BitVec.toNat_ofNat,Nat.mod_eq_of_lt (by omega),Nat.mod_eq_of_lt (by omega)]
 rw[h1];exact wrap_small (by omega) (by omega)
def shl64 (a b:Int):Int:=IntKind.wrap .i64 (a*2^(min b.toNat (IntKind.bits .i64)))
theorem shl64_one {i:Int} (h1:0<=i) (h2:i<62):shl64 1 i=((2^i.toNat:Nat):Int):=by
 unfold shl64;rw[show min i.toNat (IntKind.bits .i64)=i.toNat from Nat.min_eq_left (by show i.toNat<=64;omega),Int.one_mul];have:2^i.toNat<2^62:=Nat.pow_lt_pow_right (by decide) (by omega);have e:((2:Int)^i.toNat)=((2^i.toNat:Nat):Int):=by simp
 rw[e];generalize 2^i.toNat=m at *;exact wrap_small (by omega) (by omega)
def shr64 (a b:Int):Int:=a.fdiv (2^(min b.toNat (IntKind.bits .i64)))
theorem shr64_nat (a k:Nat) (hk:k<=64):shr64 a k=((a >>> k:Nat):Int):=by
 unfold shr64;rw[show min ((k:Int)).toNat (IntKind.bits .i64)=k from Nat.min_eq_left hk,Nat.shiftRight_eq_div_pow];rw[show ((2:Int)^k)=((2^k:Nat):Int) by simp,Int.fdiv_eq_ediv_of_nonneg _ (Int.natCast_nonneg _)];rfl
theorem le_or {a b:Nat} (ha:a<2^62) (hb:b<2^62) {c:Int} (h:c=((a |||b:Nat):Int)):or64 a b=c:=(or64_nat ha hb).trans h.symm
def usesP (op:Int):PV:=.agg [.bool (q0n op),.bool (q0o op),.bool (op==3),.bool (z0r op),.bool (z0y op),.bool (op==17),.int .i64 (frag op)]
theorem fm_union (fid:Nat) (m:Nd->Nat) (hcb:q0y Tryz.prog fid=true) (hm:∀ x (k:Int),OkNd x k->PureFn Tryz.prog fid [x.pv,usesP x.op] (.int .i64 (m x))) (hb:∀ x (k:Int),OkNd x k->m x<2^9) (f:List Nd) (M:Nat->Prop) (w0:W0) :
  DC Tryz.prog M w0 136 [.pv (fpv f),.clo fid [] []] noHeap fun d L'=>frz d L' fun q _=>PLe q (.int .i64 (orN m (q0u f):Nat)):=by
 refine DC.intro mixed (fn:=Tryz.f136) rfl rfl rfl ?_;have hlen:=comp_len f
 (try conv=>whnf);repeat' (first|(refine PureFn.dcq (f:=68) rfl ?_;try conv=>whnf)|(refine⟨_,_,fm_Compact ?_,?_,?_⟩;rotate_left 1;(focus refine⟨?_,trivial⟩<;>first|exact PLe.refl _|exact PLe.nil);try conv=>whnf)|fail)
 refine⟨{ i:Nat // i<=(q0u f).length },fun i=>[(1,.clo fid [] []),(5,.pv (.int .i64 (orN m ((q0u f).take i.1):Nat))),(11,.pv (fpv (q0u f))),(12,.pv (.int .i64 ((q0u f).map Nd.pv).length)),(13,.pv (.int .i64 (i.1:Nat)))],fun _=>0,
  fun i=>[],fun i=>(q0u f).length-i.1,⟨⟨0,Nat.zero_le _⟩,(by exact Wk.s rfl)⟩,?_⟩
 rintro⟨i,hi⟩
 (try conv=>whnf);repeat' (first|((first|apply And.intro|intro h)<;>try conv=>whnf)|(apply q0i;rfl))
 ·have hi':i<(q0u f).length:=by simpa using h
  have hn:(q0u f)[i]? = some (q0u f)[i]:=List.getElem?_eq_getElem hi';have hok:=z0h f i _ hn;have hmx:=hm _ _ hok;have hbx:=hb _ _ hok;have htk:=orN_take (m:=m) hi';have hbt:orN m ((q0u f).take i)<2^9:=orN_lt fun x hx=>by obtain⟨k,hk⟩:=okl_mem (z0h f) (List.mem_of_mem_take hx);exact hb x k hk
  (try conv=>whnf);repeat' (first|(refine⟨_,_,rfl,q0a (by with_reducible assumption),rfl,?_⟩;try conv=>whnf)|(refine PureFn.dcq (f:=120) rfl ?_;try conv=>whnf)|(refine⟨_,_,fm_uses ?_,?_,?_⟩;rotate_left 1;(focus refine⟨?_,trivial⟩<;>first|exact PLe.refl _|exact PLe.nil);try conv=>whnf)|fail)
  refine PureFn.dcq hcb ?_;refine⟨_,_,hmx,⟨.refl _,.refl _,trivial⟩,?_⟩
  try conv=>whnf
  refine⟨⟨i+1,hi'⟩,by show (q0u f).length-(i+1)<(q0u f).length-i;omega,?_⟩
  (refine Wk.of ?_ ?_ rfl rfl rfl<;>repeat' (first|exact trivial|exact WkD.same _|refine WkD.int ?_|refine⟨?_,?_⟩|(apply q0h;(focus simp;done);all_goals (try dsimp only);omega)|fail))
  exact le_or (Nat.lt_of_lt_of_le hbt (by decide)) (Nat.lt_of_lt_of_le hbx (by decide)) (by rw[htk])
 ·have hi':i=(q0u f).length:=by simp at h;omega
  subst hi';exact q0r (by rw[List.take_length])
theorem fm_frag1 (x:Nd) (k:Int) (hok:OkNd x k):PureFn Tryz.prog 137 [x.pv,usesP x.op] (.int .i64 (fragN x)):=by
 refine PureFn.intro mixed (fn:=Tryz.f137) rfl rfl rfl fun M w0 => ?_
 try conv=>whnf
 exact q0r (fragN_lt hok).2
theorem fm_fact1 (x:Nd) (k:Int) (hok:OkNd x k):PureFn Tryz.prog 176 [x.pv,usesP x.op] (.int .i64 (factN x)):=by
 refine PureFn.intro mixed (fn:=Tryz.f176) rfl rfl rfl fun M w0 => ?_
 (try conv=>whnf);repeat' (first|((first|apply And.intro|intro h)<;>try conv=>whnf))
 ·have:=hok.fact (by simpa using h);exact this.1
 ·have:=hok.fact (by simpa using h);refine q0r ((shl64_one this.1 (by omega)).trans ?_);rw[factN,h];rfl
 ·refine q0r ?_;rw[factN,h];rfl
theorem fm_agent1 (x:Nd) (k:Int) (hok:OkNd x k):PureFn Tryz.prog 175 [x.pv,usesP x.op] (.int .i64 (agN x)):=by
 refine PureFn.intro mixed (fn:=Tryz.f175) rfl rfl rfl fun M w0 => ?_
 (try conv=>whnf);repeat' (first|((first|apply And.intro|intro h)<;>try conv=>whnf))
 ·have:=hok.agent h;exact this.1
 ·have:=hok.agent h;refine q0r ((shl64_one this.1 (by omega)).trans ?_);rw[agN,h];rfl
 ·refine q0r ?_;rw[agN,h]
  show x.g=(x.g.toNat:Int)
  cases hg:z0y x.op with
  |true=>have:=hok.group hg;omega
  |false=>have:=hok.nog hg;omega
theorem fm_Frags (f:List Nd):PureFn Tryz.prog 104 [fpv f] (.int .i64 (y0e f)):=by
 refine PureFn.intro mixed (fn:=Tryz.f104) rfl rfl rfl fun M w0 => ?_
 try conv=>whnf
 refine DC.alone (p:=.int .i64 (orN fragN (q0u f):Nat)) rfl (fun M w0=>fm_union 137 fragN rfl fm_frag1 (fun _ _ h=>(fragN_lt h).1) f M w0) ?_
 try conv=>whnf
 exact q0r rfl
theorem fm_Facts (f:List Nd):PureFn Tryz.prog 140 [fpv f] (.int .i64 (facts f)):=by
 refine PureFn.intro mixed (fn:=Tryz.f140) rfl rfl rfl fun M w0 => ?_
 try conv=>whnf
 refine DC.alone (p:=.int .i64 (orN factN (q0u f):Nat)) rfl (fun M w0=>fm_union 176 factN rfl fm_fact1 (fun _ _ h=>Nat.lt_of_lt_of_le (factN_lt h) (by decide)) f M w0) ?_
 try conv=>whnf
 exact q0r rfl
theorem fm_Agents (f:List Nd):PureFn Tryz.prog 139 [fpv f] (.int .i64 (agents f)):=by
 refine PureFn.intro mixed (fn:=Tryz.f139) rfl rfl rfl fun M w0 => ?_
 try conv=>whnf
 refine DC.alone (p:=.int .i64 (orN agN (q0u f):Nat)) rfl (fun M w0=>fm_union 175 agN rfl fm_agent1 (fun _ _ h=>Nat.lt_of_lt_of_le (agN_lt h) (by decide)) f M w0) ?_
 try conv=>whnf
 exact q0r rfl
theorem frag_tab {op:Int} (h0:1<=op/\op<=21):(bif bif op==9 then true else op==10 then 1 else bif bif decide (op>=11) then decide (op<=17) else false then IntKind.wrap .i64 (1*2^min (IntKind.wrap .i64 (IntKind.wrap .i64 (op-11)+1)).toNat (IntKind.bits .i64)) else bif decide (op>=18) then 256 else 0)=frag op:=by
 have key:∀ n:Nat,n<22->(bif bif (n:Int)==9 then true else (n:Int)==10 then 1 else bif bif decide ((n:Int)>=11) then decide ((n:Int)<=17) else false then IntKind.wrap .i64 (1*2^min (IntKind.wrap .i64 (IntKind.wrap .i64 ((n:Int)-11)+1)).toNat (IntKind.bits .i64)) else bif decide ((n:Int)>=18) then 256 else 0)=frag (n:Int):=by decide
 have:=key op.toNat (by omega)
 rwa [show ((op.toNat:Nat):Int)=op by omega] at this
theorem ref_Frag (op:Int) (h0:1<=op/\op<=21):PureFn Tryz.prog 197 [.int .i64 op] (.int .i64 (frag op)):=by
 refine PureFn.intro mixed (fn:=Tryz.f197) rfl rfl rfl fun M w0 => ?_
 have tab:=frag_tab h0
 (try conv=>whnf);repeat' (first|((first|apply And.intro|intro h)<;>try conv=>whnf)|apply True.intro|(apply WhenQ.mk;(try conv=>whnf);rotate_left;(try conv=>whnf);rotate_right)|with_reducible assumption|(apply q0x;with_reducible assumption))
 ·exact q0r (by rw[<- tab,h];rfl)
 ·have h1:11<=op:=by
   cases hb:decide (op>=11) with
   |true=>simpa using hb
   |false=>rw[hb] at h;simp at h
  show 0<=IntKind.wrap .i64 (IntKind.wrap .i64 (op-11)+1)
  have e:IntKind.wrap .i64 (op-11)=op-11:=wrap_small (by omega) (by omega);rw[e,wrap_small (by omega) (by omega)];omega
 ·rename_i h1;exact q0r (by rw[<- tab,h1,h];rfl)
 ·rename_i h2 h1;exact q0r (by rw[<- tab,h2,h1,h];rfl)
 ·rename_i h2 h1;exact q0r (by rw[<- tab,h2,h1,h];rfl)
theorem fb (x:Nd) (k:Int) (h:OkNd x k):fragN x<2^9:=(fragN_lt h).1
theorem ab (x:Nd) (k:Int) (h:OkNd x k):agN x<2^9:=Nat.lt_of_lt_of_le (agN_lt h) (by decide)
theorem tb (x:Nd) (k:Int) (h:OkNd x k):factN x<2^9:=Nat.lt_of_lt_of_le (factN_lt h) (by decide)
theorem up {a:Nat} (h:a<2^9):a<2^62:=Nat.lt_of_lt_of_le h (by decide)
theorem ref_Frags (f:List Nd):PureFn Tryz.prog 166 [fpv f] (.int .i64 (y0e f)):=by
 refine PureFn.intro mixed (fn:=Tryz.f166) rfl rfl rfl fun M w0 => ?_
 have hlen:=comp_len f
 (try conv=>whnf);repeat' (first|(refine PureFn.dcq (f:=169) rfl ?_;try conv=>whnf)|(refine⟨_,_,ref_Compact ?_,?_,?_⟩;rotate_left 1;(focus refine⟨?_,trivial⟩<;>first|exact PLe.refl _|exact PLe.nil);try conv=>whnf)|fail)
 refine⟨{ i:Nat // i<=(q0u f).length },fun i=>[(3,.pv (fpv (q0u f))),(4,.pv (.int .i64 (orN fragN ((q0u f).take i.1):Nat))),(5,.pv (.int .i64 (i.1:Nat)))],fun _=>0,
  fun i=>[],fun i=>(q0u f).length-i.1,⟨⟨0,Nat.zero_le _⟩,(by exact Wk.s rfl)⟩,?_⟩
 rintro⟨i,hi⟩
 (try conv=>whnf);repeat' (first|((first|apply And.intro|intro h)<;>try conv=>whnf)|(apply q0i;rfl))
 ·have hi':i<(q0u f).length:=by simpa using h
  have hn:(q0u f)[i]? = some (q0u f)[i]:=List.getElem?_eq_getElem hi';have hok:=z0h f i _ hn;have htk:=orN_take (m:=fragN) hi';have hbt:orN fragN ((q0u f).take i)<2^9:=orN_lt fun x hx=>by obtain⟨k,hk⟩:=okl_mem (z0h f) (List.mem_of_mem_take hx);exact fb x k hk
  have hbx:=fb _ _ hok;generalize (q0u f)[i]=x at hn hok htk hbx;have hfr:=ref_Frag x.op hok.op;rw[(fragN_lt hok).2] at hfr
  (try conv=>whnf);repeat' (first|(refine⟨_,_,rfl,q0a (by with_reducible assumption),rfl,?_⟩;try conv=>whnf)|(refine PureFn.dy hfr rfl ?_;try conv=>whnf)|fail)
  refine⟨⟨i+1,hi'⟩,by show (q0u f).length-(i+1)<(q0u f).length-i;omega,?_⟩
  (refine Wk.of ?_ ?_ rfl rfl rfl<;>repeat' (first|exact trivial|exact WkD.same _|refine WkD.int ?_|refine⟨?_,?_⟩|(apply q0h;(focus simp;done);all_goals (try dsimp only);omega)|fail))
  exact le_or (up hbt) (up hbx) (by rw[htk])
 ·have hi':i=(q0u f).length:=by simp at *;omega
  subst hi';exact q0r (by rw[List.take_length];rfl)
theorem ref_Facts (f:List Nd):PureFn Tryz.prog 199 [fpv f] (.int .i64 (facts f)):=by
 refine PureFn.intro mixed (fn:=Tryz.f199) rfl rfl rfl fun M w0 => ?_
 have hlen:=comp_len f
 (try conv=>whnf);repeat' (first|(refine PureFn.dcq (f:=169) rfl ?_;try conv=>whnf)|(refine⟨_,_,ref_Compact ?_,?_,?_⟩;rotate_left 1;(focus refine⟨?_,trivial⟩<;>first|exact PLe.refl _|exact PLe.nil);try conv=>whnf)|fail)
 refine⟨{ i:Nat // i<=(q0u f).length },fun i=>[(3,.pv (fpv (q0u f))),(4,.pv (.int .i64 (orN factN ((q0u f).take i.1):Nat))),(5,.pv (.int .i64 (i.1:Nat)))],fun _=>0,
  fun i=>[],fun i=>(q0u f).length-i.1,⟨⟨0,Nat.zero_le _⟩,(by exact Wk.s rfl)⟩,?_⟩
 rintro⟨i,hi⟩
 (try conv=>whnf);repeat' (first|((first|apply And.intro|intro h)<;>try conv=>whnf)|(apply q0i;rfl))
 ·have hi':i<(q0u f).length:=by simpa using h
  have hn:(q0u f)[i]? = some (q0u f)[i]:=List.getElem?_eq_getElem hi';have hok:=z0h f i _ hn;have htk:=orN_take (m:=factN) hi';have hbt:orN factN ((q0u f).take i)<2^9:=orN_lt fun x hx=>by obtain⟨k,hk⟩:=okl_mem (z0h f) (List.mem_of_mem_take hx);exact tb x k hk
  have hbx:=tb _ _ hok;generalize (q0u f)[i]=x at hn hok htk hbx
  (try conv=>whnf);repeat' (first|((first|apply And.intro|intro h)<;>try conv=>whnf)|(apply q0i;rfl)|(refine⟨_,_,rfl,q0a (by with_reducible assumption),rfl,?_⟩;try conv=>whnf)|fail)
  ·have:=hok.fact (by simpa using h);exact this.1
  ·have hf:=hok.fact (by simpa using h);have e:shl64 1 x.i=(factN x:Int):=by rw[shl64_one hf.1 (by omega),factN,h];rfl
   refine⟨⟨i+1,hi'⟩,by show (q0u f).length-(i+1)<(q0u f).length-i;omega,?_⟩
   (refine Wk.of ?_ ?_ rfl rfl rfl<;>repeat' (first|exact trivial|exact WkD.same _|refine WkD.int ?_|refine⟨?_,?_⟩|(apply q0h;(focus simp;done);all_goals (try dsimp only);omega)|fail))
   exact (congrArg (or64 _) e).trans (le_or (up hbt) (up hbx) (by rw[htk]))
  ·have e:factN x=0:=by rw[factN,h];rfl
   rw[e,Nat.or_zero] at htk;refine⟨⟨i+1,hi'⟩,by show (q0u f).length-(i+1)<(q0u f).length-i;omega,?_⟩
   (refine Wk.of ?_ ?_ rfl rfl rfl<;>repeat' (first|exact trivial|exact WkD.same _|refine WkD.int ?_|refine⟨?_,?_⟩|(apply q0h;(focus simp;done);all_goals (try dsimp only);omega)|fail))
   exact congrArg Int.ofNat htk.symm
 ·have hi':i=(q0u f).length:=by simp at *;omega
  subst hi';exact q0r (by rw[List.take_length];rfl)
theorem ref_Agents (f:List Nd):PureFn Tryz.prog 198 [fpv f] (.int .i64 (agents f)):=by
 refine PureFn.intro mixed (fn:=Tryz.f198) rfl rfl rfl fun M w0 => ?_
 have hlen:=comp_len f
 (try conv=>whnf);repeat' (first|(refine PureFn.dcq (f:=169) rfl ?_;try conv=>whnf)|(refine⟨_,_,ref_Compact ?_,?_,?_⟩;rotate_left 1;(focus refine⟨?_,trivial⟩<;>first|exact PLe.refl _|exact PLe.nil);try conv=>whnf)|fail)
 refine⟨{ i:Nat // i<=(q0u f).length },fun i=>[(3,.pv (fpv (q0u f))),(4,.pv (.int .i64 (orN agN ((q0u f).take i.1):Nat))),(5,.pv (.int .i64 (i.1:Nat)))],fun _=>0,
  fun i=>[],fun i=>(q0u f).length-i.1,⟨⟨0,Nat.zero_le _⟩,(by exact Wk.s rfl)⟩,?_⟩
 rintro⟨i,hi⟩
 (try conv=>whnf);repeat' (first|((first|apply And.intro|intro h)<;>try conv=>whnf)|(apply q0i;rfl))
 ·have hi':i<(q0u f).length:=by simpa using h
  have hn:(q0u f)[i]? = some (q0u f)[i]:=List.getElem?_eq_getElem hi';have hok:=z0h f i _ hn;have htk:=orN_take (m:=agN) hi';have hbt:orN agN ((q0u f).take i)<2^9:=orN_lt fun x hx=>by obtain⟨k,hk⟩:=okl_mem (z0h f) (List.mem_of_mem_take hx);exact ab x k hk
  have hbx:=ab _ _ hok;generalize (q0u f)[i]=x at hn hok htk hbx
  (try conv=>whnf);repeat' (first|((first|apply And.intro|intro h)<;>try conv=>whnf)|(apply q0i;rfl)|(refine⟨_,_,rfl,q0a (by with_reducible assumption),rfl,?_⟩;try conv=>whnf)|(refine PureFn.dcq (f:=224) rfl ?_;try conv=>whnf)|(refine⟨_,_,ref_agent ?_,?_,?_⟩;rotate_left 1;(focus refine⟨?_,trivial⟩<;>first|exact PLe.refl _|exact PLe.nil);try conv=>whnf)|fail)
  ·have:=hok.agent h;exact this.1
  ·have hf:=hok.agent h;have e:shl64 1 x.i=(agN x:Int):=by rw[shl64_one hf.1 (by omega),agN,h];rfl
   have e2:x.g=((0:Nat):Int):=hok.nog (by unfold z0r at h;unfold z0y;simp at h |-;omega);refine⟨⟨i+1,hi'⟩,by show (q0u f).length-(i+1)<(q0u f).length-i;omega,?_⟩
   (refine Wk.of ?_ ?_ rfl rfl rfl<;>repeat' (first|exact trivial|exact WkD.same _|refine WkD.int ?_|refine⟨?_,?_⟩|(apply q0h;(focus simp;done);all_goals (try dsimp only);omega)|fail))
   refine (congrArg (fun z=>or64 (or64 _ z) x.g) e).trans ?_;refine (congrArg (fun z=>or64 z x.g) (le_or (up hbt) (up hbx) rfl)).trans ?_;rw[e2];refine le_or (Nat.or_lt_two_pow (up hbt) (up hbx)) (by decide) ?_;rw[Nat.or_zero];exact congrArg Int.ofNat htk
  ·have e:x.g=(agN x:Int):=by
    rw[agN,h]
    show x.g=(x.g.toNat:Int)
    cases hg:z0y x.op with
    |true=>have:=hok.group hg;omega
    |false=>have:=hok.nog hg;omega
   refine⟨⟨i+1,hi'⟩,by show (q0u f).length-(i+1)<(q0u f).length-i;omega,?_⟩
   (refine Wk.of ?_ ?_ rfl rfl rfl<;>repeat' (first|exact trivial|exact WkD.same _|refine WkD.int ?_|refine⟨?_,?_⟩|(apply q0h;(focus simp;done);all_goals (try dsimp only);omega)|fail))
   exact (congrArg (or64 _) e).trans (le_or (up hbt) (up hbx) (by rw[htk]))
 ·have hi':i=(q0u f).length:=by simp at *;omega
  subst hi';exact q0r (by rw[List.take_length];rfl)
def belowB (mask n:Int):Bool:=bif decide (n>=31) then true else shr64 mask (max n 0)==0
def fits (f:List Nd) (a n:Int):Bool:=bif bif z0b f==0 then belowB (agents f) a else false then belowB (facts f) n else false
theorem below_iff {mask k:Nat} (hm:mask<2^k) (hk:k<=31) (n:Int):belowB mask n=true↔∀ j:Nat,j<k->(mask >>> j) % 2=1->(j:Int)<n:=by
 unfold belowB
 by_cases hn:n>=31
 ·simp only[hn,decide_true,cond_true,true_iff];intro j hj _;omega
 ·have e:decide (n>=31)=false:=by simpa using hn
  rw[e,cond_false];obtain⟨m,hmm⟩:∃ m:Nat,max n 0=(m:Int):=⟨(max n 0).toNat,by omega⟩;rw[hmm,shr64_nat _ _ (by omega)];have e2:(((mask >>> m:Nat):Int)==0)=true↔mask >>> m=0:=by rw[beq_iff_eq];exact Int.natCast_eq_zero
  rw[e2]
  have tb:∀ j,(mask >>> j) % 2=1↔mask.testBit j=true:=by
   intro j;rw[Nat.testBit_eq_decide_div_mod_eq,Nat.shiftRight_eq_div_pow];simp
  constructor
  ·intro h0 j _ hb
   rcases Nat.lt_or_ge j m with h|h
   ·omega
   ·have:mask >>> j=0:=by rw[show j=m+(j-m) by omega,Nat.shiftRight_add,h0,Nat.zero_shiftRight]
    rw[this] at hb;simp at hb
  ·intro h;refine Nat.eq_of_testBit_eq fun i => ?_
   rw[Nat.testBit_shiftRight,Nat.zero_testBit]
   rcases Nat.lt_or_ge (m+i) k with hlt|hge
   ·cases hb:mask.testBit (m+i) with
    |false=>rfl
    |true=>have:=h (m+i) hlt ((tb _).2 hb);omega
   ·exact Nat.testBit_lt_two_pow (Nat.lt_of_lt_of_le hm (Nat.pow_le_pow_right (by decide) hge))
theorem fm_below (mask n:Int):PureFn Tryz.prog 138 [.int .i64 mask,.int .i64 n] (.bool (belowB mask n)):=by
 refine PureFn.intro mixed (fn:=Tryz.f138) rfl rfl rfl fun M w0 => ?_
 (try conv=>whnf);repeat' (first|((first|apply And.intro|intro h)<;>try conv=>whnf)|apply True.intro|(apply WhenQ.mk;(try conv=>whnf);rotate_left;(try conv=>whnf);rotate_right)|with_reducible assumption|(apply q0x;with_reducible assumption))
 ·show 0<=max n 0
  omega
 ·exact .refl _
theorem fm_Fits (f:List Nd) (a n:Int):PureFn Tryz.prog 105 [fpv f,.int .i64 a,.int .i64 n] (.bool (fits f a n)):=by
 refine PureFn.intro mixed (fn:=Tryz.f105) rfl rfl rfl fun M w0 => ?_
 (try conv=>whnf);repeat' (first|((first|apply And.intro|intro h)<;>try conv=>whnf)|apply True.intro|(apply WhenQ.mk;(try conv=>whnf);rotate_left;(try conv=>whnf);rotate_right)|with_reducible assumption|(refine PureFn.dcq (f:=86) rfl ?_;try conv=>whnf)|(refine PureFn.dcq (f:=139) rfl ?_;try conv=>whnf)|(refine PureFn.dcq (f:=140) rfl ?_;try conv=>whnf)|(refine PureFn.dcq (f:=138) rfl ?_;try conv=>whnf)|(refine⟨_,_,fm_Check ?_,?_,?_⟩;rotate_left 1;(focus refine⟨?_,trivial⟩<;>first|exact PLe.refl _|exact PLe.nil);try conv=>whnf)|(refine⟨_,_,fm_Agents ?_,?_,?_⟩;rotate_left 1;(focus refine⟨?_,trivial⟩<;>first|exact PLe.refl _|exact PLe.nil);try conv=>whnf)|(refine⟨_,_,fm_Facts ?_,?_,?_⟩;rotate_left 1;(focus refine⟨?_,trivial⟩<;>first|exact PLe.refl _|exact PLe.nil);try conv=>whnf)|(refine⟨_,_,fm_below ?_ ?_,?_,?_⟩;rotate_left 2;(focus refine⟨?_,?_,trivial⟩<;>first|exact PLe.refl _|exact PLe.nil);try conv=>whnf)|fail)
 exact .refl _
theorem bit_test {m i:Nat} {a:Int} (hi:i<31):(bif (shr64 (m:Int) (i:Int)).tmod 2==1 then decide ((i:Int)>=a) else false)=decide ((m >>> i) % 2=1/\¬ (i:Int)<a):=by
 rw[shr64_nat _ _ (by omega)]
 have e:(((m >>> i:Nat):Int).tmod 2==1)=decide ((m >>> i) % 2=1):=by
  rw[Int.tmod_eq_emod_of_nonneg (Int.natCast_nonneg _),Bool.eq_iff_iff];rw[beq_iff_eq,decide_eq_true_iff,show (((m >>> i:Nat):Int) % 2)=((m >>> i % 2:Nat):Int) from rfl];omega
 rw[e]
 cases h:decide ((m >>> i) % 2=1)<;>simp_all
theorem ref_Fits (f:List Nd) (a n:Int):PureFn Tryz.prog 167 [fpv f,.int .i64 a,.int .i64 n] (.bool (fits f a n)):=by
 refine PureFn.intro mixed (fn:=Tryz.f167) rfl rfl rfl fun M w0 => ?_
 (try conv=>whnf);repeat' (first|((first|apply And.intro|intro h)<;>try conv=>whnf)|(refine PureFn.dcq (f:=165) rfl ?_;try conv=>whnf)|(refine⟨_,_,ref_Check ?_,?_,?_⟩;rotate_left 1;(focus refine⟨?_,trivial⟩<;>first|exact PLe.refl _|exact PLe.nil);try conv=>whnf)|fail)
 ·have hc:(z0b f==0)=false:=by simpa [bne] using h
  exact z0n (by rw[fits,hc];rfl)
 ·have hc:(z0b f==0)=true:=by simpa [bne] using h
  have fe:fits f a n=(belowB (agents f) a && belowB (facts f) n):=by rw[fits,hc];cases belowB (agents f) a<;>rfl
  have ba:=below_iff (agents_lt f) (by decide) a;have bn:=below_iff (facts_lt f) (by decide) n
  refine⟨{ i:Nat // i<=4/\∀ j:Nat,j<i->(agents f >>> j) % 2=1->(j:Int)<a },fun i=>[(0,.pv (fpv f)),(1,.pv (.int .i64 a)),(2,.pv (.int .i64 n)),(7,.pv (.int .i64 (i.1:Nat)))],fun _=>0,
   fun i=>[],fun i=>4-i.1,⟨⟨0,Nat.zero_le _,fun j hj=>absurd hj (Nat.not_lt_zero j)⟩,(by exact Wk.s rfl)⟩,?_⟩
  rintro⟨i,hi,hinv⟩
  (try conv=>whnf);repeat' (first|(apply And.intro<;>try conv=>whnf)|(intro h;first|exact litz h rfl|try conv=>whnf)|apply True.intro|(apply WhenQ.mk;(try conv=>whnf);rotate_left;(try conv=>whnf);rotate_right)|with_reducible assumption|(refine PureFn.dcq (f:=198) rfl ?_;try conv=>whnf)|(refine⟨_,_,ref_Agents ?_,?_,?_⟩;rotate_left 1;(focus refine⟨?_,trivial⟩<;>first|exact PLe.refl _|exact PLe.nil);try conv=>whnf)|fail)
  ·have hi':i<4:=by simp at h;omega
   exact Int.natCast_nonneg i
  ·rename_i hlt;have hi':i<4:=by simp at hlt;omega
   have h2:=(bit_test (m:=agents f) (i:=i) (a:=a) (by omega)).symm.trans h;have h3:=of_decide_eq_true h2;refine z0n ?_
   cases hb:belowB (agents f) a with
   |false=>rw[fe,hb];rfl
   |true=>exact absurd (ba.1 hb i hi' h3.1) h3.2
  ·rename_i hlt;have hi':i<4:=by simp at hlt;omega
   have h2:=(bit_test (m:=agents f) (i:=i) (a:=a) (by omega)).symm.trans h;have h3:=of_decide_eq_false h2;refine⟨⟨i+1,hi',fun j hj hb => ?_⟩,by show 4-(i+1)<4-i;omega,(by refine Wk.of ?_ ?_ rfl rfl rfl<;>repeat' (first|exact trivial|exact WkD.same _|refine WkD.int ?_|refine⟨?_,?_⟩|(apply q0h;(focus simp;done);all_goals (try dsimp only);omega)|fail))⟩
   by_cases e:j=i
   ·subst e
    by_cases hh:(j:Int)<a
    ·exact hh
    ·exact absurd ⟨hb,hh⟩ h3
   ·exact hinv j (by omega) hb
  ·have hi':i=4:=by simp at *;omega
   subst hi';have hA:belowB (agents f) a=true:=ba.2 hinv;rw[hA,Bool.true_and] at fe
   refine⟨{ i:Nat // i<=8/\∀ j:Nat,j<i->(facts f >>> j) % 2=1->(j:Int)<n },fun i=>[(0,.pv (fpv f)),(1,.pv (.int .i64 a)),(2,.pv (.int .i64 n)),(8,.pv (.int .i64 (i.1:Nat)))],fun _=>0,
    fun i=>[],fun i=>8-i.1,⟨⟨0,Nat.zero_le _,fun j hj=>absurd hj (Nat.not_lt_zero j)⟩,(by exact Wk.s rfl)⟩,?_⟩
   rintro⟨i,hi,hinv⟩
   (try conv=>whnf);repeat' (first|(apply And.intro<;>try conv=>whnf)|(intro h;first|exact litz h rfl|try conv=>whnf)|apply True.intro|(apply WhenQ.mk;(try conv=>whnf);rotate_left;(try conv=>whnf);rotate_right)|with_reducible assumption|(refine PureFn.dcq (f:=199) rfl ?_;try conv=>whnf)|(refine⟨_,_,ref_Facts ?_,?_,?_⟩;rotate_left 1;(focus refine⟨?_,trivial⟩<;>first|exact PLe.refl _|exact PLe.nil);try conv=>whnf)|fail)
   ·exact Int.natCast_nonneg i
   ·rename_i hlt;have hi':i<8:=by simp at hlt;omega
    have h2:=(bit_test (m:=facts f) (i:=i) (a:=n) (by omega)).symm.trans h;have h3:=of_decide_eq_true h2;refine z0n ?_
    cases hb:belowB (facts f) n with
    |false=>rw[fe,hb]
    |true=>exact absurd (bn.1 hb i hi' h3.1) h3.2
   ·rename_i hlt;have hi':i<8:=by simp at hlt;omega
    have h2:=(bit_test (m:=facts f) (i:=i) (a:=n) (by omega)).symm.trans h;have h3:=of_decide_eq_false h2;refine⟨⟨i+1,hi',fun j hj hb => ?_⟩,by show 8-(i+1)<8-i;omega,(by refine Wk.of ?_ ?_ rfl rfl rfl<;>repeat' (first|exact trivial|exact WkD.same _|refine WkD.int ?_|refine⟨?_,?_⟩|(apply q0h;(focus simp;done);all_goals (try dsimp only);omega)|fail))⟩
    by_cases e:j=i
    ·subst e
     by_cases hh:(j:Int)<n
     ·exact hh
     ·exact absurd ⟨hb,hh⟩ h3
    ·exact hinv j (by omega) hb
   ·have hi':i=8:=by simp at *;omega
    subst hi';exact z0n (by rw[fe,bn.2 hinv])
def shX (k:Nat) (n:Nd):Nd:=bif q0n n.op then { n with x:=n.x+k } else n
def shN (k:Nat) (n:Nd):Nd:=bif q0o n.op then { shX k n with y:=n.y+k } else shX k n
def bstep (k:Nat) (s:Nd×List Nd) (o:List Nd):Nd×List Nd :=
 (bif (k:Int)==0 then { s.1 with x:=((s.2++(q0u o).map (shN s.2.length)).length:Int)-1 } else { s.1 with y:=((s.2++(q0u o).map (shN s.2.length)).length:Int)-1 },s.2++(q0u o).map (shN s.2.length))
def bfold:Nat->List (List Nd)->Nd×List Nd->Option (Nd×List Nd)
 |_,[],s=>some s
 |k,o::r,s=>bif z0b o != 0 then none else bfold (k+1) r (bstep k s o)
def bfin (s:Nd×List Nd):List Nd :=
 bif z0e s.1 s.2.length != 0 then [] else bif decide (((canon (s.2++[s.1]) s.2.length).length:Int)>200) then [] else canon (s.2++[s.1]) s.2.length
def q0d (x:Nd) (l:List (List Nd)):List Nd:=match bfold 0 l (x,[]) with|none=>[]|some s=>bfin s
theorem shX_y (k:Nat) (n:Nd):(shX k n).y=n.y:=by unfold shX;cases q0n n.op<;>rfl
theorem sh_ok {n:Nd} {i:Int} {k:Nat} (h:OkNd n i):OkNd (shN k n) (k+i):=by
 have e1:(shN k n).op=n.op:=by unfold shN shX;cases q0n n.op<;>cases q0o n.op<;>rfl
 have e2:(shN k n).i=n.i:=by unfold shN shX;cases q0n n.op<;>cases q0o n.op<;>rfl
 have e3:(shN k n).e=n.e:=by unfold shN shX;cases q0n n.op<;>cases q0o n.op<;>rfl
 have e4:(shN k n).g=n.g:=by unfold shN shX;cases q0n n.op<;>cases q0o n.op<;>rfl
 have e5:(shN k n).x=bif q0n n.op then n.x+k else n.x:=by unfold shN shX;cases q0n n.op<;>cases q0o n.op<;>rfl
 have e6:(shN k n).y=bif q0o n.op then n.y+k else n.y:=by unfold shN shX;cases q0n n.op<;>cases q0o n.op<;>rfl
 constructor
 ·rw[e1];exact h.op
 ·rw[e1,e5];intro u;rw[u];have:=h.x u;simp only[cond_true];omega
 ·rw[e1,e5];intro u;rw[u];exact h.nox u
 ·rw[e1,e6];intro u;rw[u];have:=h.y u;simp only[cond_true];omega
 ·rw[e1,e6];intro u;rw[u];exact h.noy u
 ·rw[e1,e2];exact h.fact
 ·rw[e1,e2];exact h.agent
 ·rw[e1,e2,e3];exact h.act
 ·rw[e1,e2];exact h.noi
 ·rw[e1,e3];exact h.noe
 ·rw[e1,e4];exact h.group
 ·rw[e1,e4];exact h.nog
theorem okl_append {F c:List Nd} (hF:Okl F) (hc:Okl c):Okl (F++c.map (shN F.length)):=by
 intro i x hx
 rcases Nat.lt_or_ge i F.length with h|h
 ·rw[List.getElem?_append_left h] at hx;exact hF i x hx
 ·rw[List.getElem?_append_right h,List.getElem?_map] at hx
  cases hy:c[i-F.length]? with
  |none=>rw[hy] at hx;simp at hx
  |some y =>
   rw[hy] at hx;simp at hx;subst hx;have:=sh_ok (k:=F.length) (hc _ y hy)
   rwa [show ((F.length:Int)+((i-F.length:Nat):Int))=(i:Int) by omega] at this
theorem okl_snoc {F:List Nd} {x:Nd} (hF:Okl F) (hx:OkNd x F.length):Okl (F++[x]):=by
 intro i y hy
 rcases Nat.lt_or_ge i F.length with h|h
 ·rw[List.getElem?_append_left h] at hy;exact hF i y hy
 ·rw[List.getElem?_append_right h] at hy
  have:i=F.length:=by
   have:=(List.getElem?_eq_some_iff.1 hy).1;simp at this;omega
  subst this;simp at hy;subst hy;exact hx
def shL (F c:List Nd) (j:Nat):List PV:=F.map Nd.pv++(c.take j).map fun n=>(shN F.length n).pv
theorem shL_zero (F c:List Nd):F.map Nd.pv=shL F c 0:=by simp[shL]
theorem shL_succ {F c:List Nd} {j:Nat} (h:j<c.length):shL F c j++[(shN F.length c[j]).pv]=shL F c (j+1):=by
 simp only[shL];rw[List.take_succ_eq_append_getElem h,List.map_append,List.append_assoc];rfl
theorem shL_end (F c:List Nd):shL F c c.length=(F++c.map (shN F.length)).map Nd.pv:=by
 simp[shL,List.map_append,List.map_map,Function.comp_def]
theorem shL_len {F c:List Nd} {j:Nat} (h:j<=c.length):(shL F c j).length=F.length+j:=by
 simp only[shL,List.length_append,List.length_map,List.length_take];omega
theorem bstep_t {k:Nat} {y:Nd} {F o:List Nd} (h:((k:Int)==0)=true):bstep k (y,F) o=({ y with x:=((F++(q0u o).map (shN F.length)).length:Int)-1 },F++(q0u o).map (shN F.length)):=by rw[bstep,h];rfl
theorem bstep_f {k:Nat} {y:Nd} {F o:List Nd} (h:((k:Int)==0)=false):bstep k (y,F) o=({ y with y:=((F++(q0u o).map (shN F.length)).length:Int)-1 },F++(q0u o).map (shN F.length)):=by rw[bstep,h];rfl
def npv (f:List Nd):PV:=match f with
 | []=>.nil
 |_::_=>fpv f
theorem npv_ge {f:List Nd} (h:f≠[]):PLe (fpv f) (npv f):=by
 cases f with
 |nil=>exact absurd rfl h
 |cons a r=>exact .refl _
theorem npv_le (f:List Nd):PLe (npv f) (fpv f):=by
 cases f with
 |nil=>exact .nil
 |cons a r=>exact .refl _
theorem y0g (x:Nd) (l:List (List Nd)) (hl:l.length<=2):PureFn Tryz.prog 89 [x.pv,.sl (l.map fpv)] (npv (q0d x l)):=by
 refine PureFn.introC [14,16] mixed (fn:=Tryz.f89) rfl rfl rfl fun M w0 => ?_
 try conv=>whnf
 refine⟨{ q:Nat×Nd×List Nd // q.1<=l.length/\bfold 0 l (x,[])=bfold q.1 (l.drop q.1) q.2/\Okl q.2.2/\q.2.2.length<=200*q.1 },
  fun q=>[(2,.ref 0 0),(5,.buf 1 (q.1.2.2.map Nd.pv).length),(14,.pv (.sl (l.map fpv))),(15,.pv (.int .i64 (l.map fpv).length)),(16,.pv (.int .i64 (q.1.1:Nat)))],fun _=>2,
  fun q=>[(0,.var q.1.2.1.dvs),(1,.arr 6 (q.1.2.2.map Nd.pv))],fun q=>l.length-q.1.1,⟨⟨(0,x,[]),Nat.zero_le _,rfl,(fun i x h=>by simp at h),Nat.zero_le _⟩,(by refine Wk.of ?_ ?_ rfl rfl rfl<;>repeat' (first|exact trivial|exact WkD.same _|exact WkO.same _ _ rfl|exact WkD.new' rfl rfl rfl|exact WkO.new _ _ rfl|exact rfl|refine⟨?_,?_⟩|fail))⟩,?_⟩
 rintro⟨⟨k,y,F⟩,hk,he,hF,hFl⟩;simp only at hk he hF hFl
 (try conv=>whnf);repeat' (first|((first|apply And.intro|intro h)<;>try conv=>whnf)|(apply q0i;rfl))
 ·have hk':k<l.length:=by simpa using h
  obtain⟨o,ho⟩:∃ o,l[k]? = some o:=⟨_,List.getElem?_eq_getElem hk'⟩
  have hd:l.drop k=o::l.drop (k+1):=by
   rw[List.drop_eq_getElem_cons hk'];rw[List.getElem?_eq_getElem hk'] at ho;rw[Option.some.inj ho]
  rw[hd] at he;have hol:=comp_len o
  (try conv=>whnf);repeat' (first|((first|apply And.intro|refine⟨_,_,rfl,q0a (by with_reducible assumption),rfl,?_⟩|intro h)<;>try conv=>whnf)|(refine PureFn.dcq (f:=86) rfl ?_;try conv=>whnf)|(refine PureFn.dcq (f:=68) rfl ?_;try conv=>whnf)|(refine⟨_,_,fm_Check ?_,?_,?_⟩;rotate_left 1;(focus refine⟨?_,trivial⟩<;>first|exact PLe.refl _|exact PLe.nil);try conv=>whnf)|(refine⟨_,_,fm_Compact ?_,?_,?_⟩;rotate_left 1;(focus refine⟨?_,trivial⟩<;>first|exact PLe.refl _|exact PLe.nil);try conv=>whnf)|fail)
  ·have hb:bfold 0 l (x,[])=none:=by rw[he];simp only[bfold,h];rfl
   have:q0d x l=[]:=by rw[q0d,hb]
   rw[this];exact .refl _
  ·have hb:bfold 0 l (x,[])=bfold (k+1) (l.drop (k+1)) (bstep k (y,F) o):=by rw[he];simp only[bfold,h];rfl
   have hz:=shL_zero F (q0u o)
   refine⟨{ j:Nat // j<=(q0u o).length },fun j=>[(2,.ref 0 0),(5,.buf 1 (shL F (q0u o) j.1).length),(6,.pv (.int .i64 (k:Nat))),(8,.pv (.int .i64 (F.map Nd.pv).length)),(14,.pv (.sl (l.map fpv))),(15,.pv (.int .i64 (l.map fpv).length)),(16,.pv (.int .i64 (k:Nat))),(27,.pv (fpv (q0u o))),(28,.pv (.int .i64 ((q0u o).map Nd.pv).length)),(29,.pv (.int .i64 (j.1:Nat)))],fun _=>2,
    fun j=>[(0,.var y.dvs),(1,.arr 6 (shL F (q0u o) j.1))],fun j=>(q0u o).length-j.1,⟨⟨0,Nat.zero_le _⟩,(by refine Wk.of ?_ ?_ rfl rfl rfl<;>repeat' (first|exact trivial|exact WkD.same _|exact WkO.same _ _ rfl|exact WkD.eq (congrArg (fun z:List PV=>DV.buf _ z.length) hz)|exact WkO.same _ _ (congrArg (fun z=>some (DObj.arr _ z)) hz)|refine⟨?_,?_⟩|fail))⟩,?_⟩
   rintro⟨j,hj⟩
   (try conv=>whnf);repeat' (first|((first|apply And.intro|intro h)<;>try conv=>whnf)|(apply q0i;rfl))
   ·have hj':j<(q0u o).length:=by simpa using h
    have hn:(q0u o)[j]? = some (q0u o)[j]:=List.getElem?_eq_getElem hj';have hs:=shL_succ (F:=F) hj';have hok:=z0h o j _ hn;generalize (q0u o)[j]=n at hn hs hok
    (try conv=>whnf);repeat' (first|(refine⟨_,_,rfl,q0a (by with_reducible assumption),rfl,?_⟩;try conv=>whnf)|(refine PureFn.dcq (f:=120) rfl ?_;try conv=>whnf)|(refine⟨_,_,fm_uses ?_,?_,?_⟩;rotate_left 1;(focus refine⟨?_,trivial⟩<;>first|exact PLe.refl _|exact PLe.nil);try conv=>whnf)|fail)
    refine⟨{ z:Nd // z=shX F.length n },fun z=>[(2,.ref 0 0),(5,.buf 1 (shL F (q0u o) j).length),(6,.pv (.int .i64 (k:Nat))),(8,.pv (.int .i64 (F.map Nd.pv).length)),(14,.pv (.sl (l.map fpv))),(15,.pv (.int .i64 (l.map fpv).length)),(16,.pv (.int .i64 (k:Nat))),(27,.pv (fpv (q0u o))),(28,.pv (.int .i64 ((q0u o).map Nd.pv).length)),(29,.pv (.int .i64 (j:Nat))),(10,.ref 2 0),(11,.ref 3 0)],fun _=>4,
     fun z=>[(0,.var y.dvs),(1,.arr 6 (shL F (q0u o) j)),(2,.var z.1.dvs),(3,.var (usesDvs n.op))],?_,?_⟩
    ·(try conv=>whnf);repeat' (first|((first|apply And.intro|intro h)<;>try conv=>whnf))
     ·have:=hok.x h;refine⟨⟨{ n with x:=n.x+F.length },by rw[shX,h];rfl⟩,?_⟩
      (refine Wk.of ?_ ?_ rfl rfl rfl<;>repeat' (first|exact trivial|exact WkD.same _|exact WkO.same _ _ rfl|refine WkD.int ?_|refine WkO.vars rfl ?_|refine⟨?_,?_⟩|fail))
      exact q0h (by simp) (by rw[List.length_map];omega) (by rw[List.length_map];omega)
     ·exact⟨⟨n,by rw[shX,h];rfl⟩,(by exact Wk.s rfl)⟩
    ·rintro⟨z,rfl⟩
     try conv=>whnf
     refine⟨{ z:Nd // z=shN F.length n },fun z=>[(2,.ref 0 0),(5,.buf 1 (shL F (q0u o) j).length),(6,.pv (.int .i64 (k:Nat))),(8,.pv (.int .i64 (F.map Nd.pv).length)),(14,.pv (.sl (l.map fpv))),(15,.pv (.int .i64 (l.map fpv).length)),(16,.pv (.int .i64 (k:Nat))),(27,.pv (fpv (q0u o))),(28,.pv (.int .i64 ((q0u o).map Nd.pv).length)),(29,.pv (.int .i64 (j:Nat))),(10,.ref 2 0)],fun _=>3,
      fun z=>[(0,.var y.dvs),(1,.arr 6 (shL F (q0u o) j)),(2,.var z.1.dvs)],?_,?_⟩
     ·(try conv=>whnf);repeat' (first|((first|apply And.intro|intro h)<;>try conv=>whnf))
      ·have:=hok.y h;refine⟨⟨{ shX F.length n with y:=n.y+F.length },by rw[shN,h];rfl⟩,?_⟩
       (refine Wk.of ?_ ?_ rfl rfl rfl<;>repeat' (first|exact trivial|exact WkD.same _|exact WkO.same _ _ rfl|refine WkD.int ?_|refine WkO.vars rfl ?_|refine⟨?_,?_⟩|fail))
       refine (congrArg (fun v=>IntKind.wrap .i64 (v+((F.map Nd.pv).length:Int))) (shX_y F.length n)).trans ?_;exact q0h (by simp) (by rw[List.length_map];omega) (by rw[List.length_map];omega)
      ·exact⟨⟨shX F.length n,by rw[shN,h];rfl⟩,(by exact Wk.s rfl)⟩
     ·rintro⟨z,rfl⟩
      (try conv=>whnf);repeat' (first|(apply And.intro<;>try conv=>whnf)|(apply q0p;rfl)|(apply szI;rfl))
      ·show (shL F (q0u o) j).length+1<=4294967296
       rw[shL_len hj];omega
      ·exact⟨⟨j+1,hj'⟩,by show (q0u o).length-(j+1)<(q0u o).length-j;omega,(by refine Wk.of ?_ ?_ rfl rfl rfl<;>repeat' (first|exact trivial|exact WkD.same _|exact WkO.same _ _ rfl|exact WkD.eq (congrArg (fun z:List PV=>DV.buf _ z.length) hs)|exact WkO.same _ _ (congrArg (fun z=>some (DObj.arr _ z)) hs)|refine WkD.int ?_|refine⟨?_,?_⟩|(apply q0h;(focus simp;done);all_goals (try dsimp only);omega)|fail))⟩
   ·have hs:=bstep_t (y:=y) (F:=F) (o:=o) h;have hj':j=(q0u o).length:=by simp at *;omega
    subst hj';have hse:=shL_end F (q0u o);rw[hs] at hb;have hG:=okl_append hF (z0h o);have hGl:(F++(q0u o).map (shN F.length)).length<=200*(k+1):=by rw[List.length_append,List.length_map];omega
    generalize (F++(q0u o).map (shN F.length))=G at hse hb hG hGl;have hGn:((shL F (q0u o) (q0u o).length).length:Int)=G.length:=by rw[hse,List.length_map]
    refine⟨⟨(k+1,{ y with x:=(G.length:Int)-1 },G),hk',hb,hG,hGl⟩,by show l.length-(k+1)<l.length-k;omega,?_⟩
    (refine Wk.of ?_ ?_ rfl rfl rfl<;>repeat' (first|exact trivial|exact WkD.same _|exact WkD.eq (congrArg (fun z:List PV=>DV.buf _ z.length) hse)|exact WkO.same _ _ (congrArg (fun z=>some (DObj.arr _ z)) hse)|refine WkD.int ?_|refine WkO.vars rfl ?_|refine⟨?_,?_⟩|(apply q0h;(focus simp;done);all_goals (try dsimp only);omega)|fail))
    exact (congrArg (fun z:Int=>IntKind.wrap .i64 (z-1)) hGn).trans (q0h rfl (by omega) (by omega))
   ·have hs:=bstep_f (y:=y) (F:=F) (o:=o) h;have hj':j=(q0u o).length:=by simp at *;omega
    subst hj';have hse:=shL_end F (q0u o);rw[hs] at hb;have hG:=okl_append hF (z0h o);have hGl:(F++(q0u o).map (shN F.length)).length<=200*(k+1):=by rw[List.length_append,List.length_map];omega
    generalize (F++(q0u o).map (shN F.length))=G at hse hb hG hGl;have hGn:((shL F (q0u o) (q0u o).length).length:Int)=G.length:=by rw[hse,List.length_map]
    refine⟨⟨(k+1,{ y with y:=(G.length:Int)-1 },G),hk',hb,hG,hGl⟩,by show l.length-(k+1)<l.length-k;omega,?_⟩
    (refine Wk.of ?_ ?_ rfl rfl rfl<;>repeat' (first|exact trivial|exact WkD.same _|exact WkD.eq (congrArg (fun z:List PV=>DV.buf _ z.length) hse)|exact WkO.same _ _ (congrArg (fun z=>some (DObj.arr _ z)) hse)|refine WkD.int ?_|refine WkO.vars rfl ?_|refine⟨?_,?_⟩|(apply q0h;(focus simp;done);all_goals (try dsimp only);omega)|fail))
    exact (congrArg (fun z:Int=>IntKind.wrap .i64 (z-1)) hGn).trans (q0h rfl (by omega) (by omega))
 ·have hk':k=l.length:=by simp at *;omega
  subst hk';rw[List.drop_length] at he;have hbl:q0d x l=bfin (y,F):=by rw[q0d,he];rfl
  rw[hbl];rw[bfin];simp only;have hne:=fm_nodeError y (F.map Nd.pv).length;have hFl':F.length<=400:=by omega
  (try conv=>whnf);repeat' (first|((first|apply And.intro|intro h)<;>try conv=>whnf)|(apply q0p;rfl)|(apply szI;rfl)|(refine PureFn.dy hne rfl ?_;try conv=>whnf)|fail)
  ·rw[List.length_map] at h;rw[h];exact .refl _
  ·show (F.map Nd.pv).length+1<=4294967296
   rw[List.length_map];omega
  ·rw[List.length_map] at h;have hok:OkNd y F.length:=nodeErr_ok.1 (by simpa using h)
   have hcp:PureFn Tryz.prog 121 [.sl (F.map Nd.pv++[y.pv]),.int .i64 ((F.map Nd.pv).length:Int)] (fpv (canon (F++[y]) F.length)):=by
    have:=fm_compact (F++[y]) F.length (okl_snoc hF hok).wf (by simp) (by simp;omega);rw[show fpv (F++[y])=.sl (F.map Nd.pv++[y.pv]) from congrArg PV.sl List.map_append] at this;rw[List.length_map];exact this
   rw[h]
   (try conv=>whnf);repeat' (first|((first|apply And.intro|intro h)<;>try conv=>whnf)|(apply bleI;rfl)|(refine PureFn.dcq (f:=121) rfl ?_;try conv=>whnf)|(refine⟨_,_,hcp,?_,?_⟩;(focus refine⟨?_,?_,trivial⟩<;>first|exact PLe.refl _|exact PLe.nil);try conv=>whnf)|fail)
   ·rw[List.length_map] at h;rw[h];exact .refl _
   ·rw[List.length_map] at h;rw[h];exact npv_ge (by intro e;have:=(canon_ok (okl_snoc hF hok) (show F.length<(F++[y]).length by simp)).2;rw[e] at this;simp at this)
theorem fm_build (x:Nd) (l:List (List Nd)) (hl:l.length<=2):PureFn Tryz.prog 89 [x.pv,.sl (l.map fpv)] (fpv (q0d x l)) :=
 have h:=y0g x l hl
 PureFn.mk ⟨h.elim.1,fun M w vs hG hM hrel=>(h.elim.2 M w vs hG hM hrel).mono fun _ _ ⟨v,he,hv,hb⟩=>⟨v,he,(npv_le (q0d x l)).rel hv,hb⟩⟩
def n0 (op:Int):Nd:=⟨op,0,0,0,0,0⟩
def nI (op i:Int):Nd:=⟨op,i,0,0,0,0⟩
def nG (op g:Int):Nd:=⟨op,0,0,g,0,0⟩
theorem fm_True:PureFn Tryz.prog 36 [] (fpv (q0d (n0 1) [])):=by
 refine PureFn.intro mixed (fn:=Tryz.f36) rfl rfl rfl fun M w0 => ?_
 have hb:=fm_build (n0 1) [] (by simp)
 (try conv=>whnf);repeat' (first|(refine PureFn.dcq (f:=89) rfl ?_;try conv=>whnf)|(refine⟨_,_,hb,?_,?_⟩;(focus refine⟨?_,?_,trivial⟩<;>first|exact PLe.refl _|exact PLe.nil);try conv=>whnf)|fail)
 exact .refl _
theorem fm_False:PureFn Tryz.prog 53 [] (fpv (q0d (n0 2) [])):=by
 refine PureFn.intro mixed (fn:=Tryz.f53) rfl rfl rfl fun M w0 => ?_
 have hb:=fm_build (n0 2) [] (by simp)
 (try conv=>whnf);repeat' (first|(refine PureFn.dcq (f:=89) rfl ?_;try conv=>whnf)|(refine⟨_,_,hb,?_,?_⟩;(focus refine⟨?_,?_,trivial⟩<;>first|exact PLe.refl _|exact PLe.nil);try conv=>whnf)|fail)
 exact .refl _
theorem fm_Fact (i:Int):PureFn Tryz.prog 83 [.int .i64 i] (fpv (q0d (nI 3 i) [])):=by
 refine PureFn.intro mixed (fn:=Tryz.f83) rfl rfl rfl fun M w0 => ?_
 have hb:=fm_build (nI 3 i) [] (by simp)
 (try conv=>whnf);repeat' (first|(refine PureFn.dcq (f:=89) rfl ?_;try conv=>whnf)|(refine⟨_,_,hb,?_,?_⟩;(focus refine⟨?_,?_,trivial⟩<;>first|exact PLe.refl _|exact PLe.nil);try conv=>whnf)|fail)
 exact .refl _
theorem fm_Not (f:List Nd):PureFn Tryz.prog 37 [fpv f] (fpv (q0d (n0 4) [f])):=by
 refine PureFn.intro mixed (fn:=Tryz.f37) rfl rfl rfl fun M w0 => ?_
 have hb:=fm_build (n0 4) [f] (by simp)
 (try conv=>whnf);repeat' (first|(apply And.intro<;>try conv=>whnf)|(apply q0p;rfl)|(refine PureFn.dy hb rfl ?_;try conv=>whnf)|fail)
 exact .refl _
theorem fm_And (f:List Nd) (g:List Nd):PureFn Tryz.prog 32 [fpv f,fpv g] (fpv (q0d (n0 5) [f,g])):=by
 refine PureFn.intro mixed (fn:=Tryz.f32) rfl rfl rfl fun M w0 => ?_
 have hb:=fm_build (n0 5) [f,g] (by simp)
 (try conv=>whnf);repeat' (first|(apply And.intro<;>try conv=>whnf)|(apply q0p;rfl)|(refine PureFn.dy hb rfl ?_;try conv=>whnf)|fail)
 exact .refl _
theorem fm_Or (f:List Nd) (g:List Nd):PureFn Tryz.prog 186 [fpv f,fpv g] (fpv (q0d (n0 6) [f,g])):=by
 refine PureFn.intro mixed (fn:=Tryz.f186) rfl rfl rfl fun M w0 => ?_
 have hb:=fm_build (n0 6) [f,g] (by simp)
 (try conv=>whnf);repeat' (first|(apply And.intro<;>try conv=>whnf)|(apply q0p;rfl)|(refine PureFn.dy hb rfl ?_;try conv=>whnf)|fail)
 exact .refl _
theorem fm_Imp (f:List Nd) (g:List Nd):PureFn Tryz.prog 34 [fpv f,fpv g] (fpv (q0d (n0 7) [f,g])):=by
 refine PureFn.intro mixed (fn:=Tryz.f34) rfl rfl rfl fun M w0 => ?_
 have hb:=fm_build (n0 7) [f,g] (by simp)
 (try conv=>whnf);repeat' (first|(apply And.intro<;>try conv=>whnf)|(apply q0p;rfl)|(refine PureFn.dy hb rfl ?_;try conv=>whnf)|fail)
 exact .refl _
theorem fm_Iff (f:List Nd) (g:List Nd):PureFn Tryz.prog 187 [fpv f,fpv g] (fpv (q0d (n0 8) [f,g])):=by
 refine PureFn.intro mixed (fn:=Tryz.f187) rfl rfl rfl fun M w0 => ?_
 have hb:=fm_build (n0 8) [f,g] (by simp)
 (try conv=>whnf);repeat' (first|(apply And.intro<;>try conv=>whnf)|(apply q0p;rfl)|(refine PureFn.dy hb rfl ?_;try conv=>whnf)|fail)
 exact .refl _
theorem fm_Know (i:Int) (f:List Nd):PureFn Tryz.prog 188 [.int .i64 i,fpv f] (fpv (q0d (nI 9 i) [f])):=by
 refine PureFn.intro mixed (fn:=Tryz.f188) rfl rfl rfl fun M w0 => ?_
 have hb:=fm_build (nI 9 i) [f] (by simp)
 (try conv=>whnf);repeat' (first|(apply And.intro<;>try conv=>whnf)|(apply q0p;rfl)|(refine PureFn.dy hb rfl ?_;try conv=>whnf)|fail)
 exact .refl _
theorem fm_Poss (i:Int) (f:List Nd):PureFn Tryz.prog 153 [.int .i64 i,fpv f] (fpv (q0d (nI 10 i) [f])):=by
 refine PureFn.intro mixed (fn:=Tryz.f153) rfl rfl rfl fun M w0 => ?_
 have hb:=fm_build (nI 10 i) [f] (by simp)
 (try conv=>whnf);repeat' (first|(apply And.intro<;>try conv=>whnf)|(apply q0p;rfl)|(refine PureFn.dy hb rfl ?_;try conv=>whnf)|fail)
 exact .refl _
theorem fm_Every (i:Int) (f:List Nd):PureFn Tryz.prog 189 [.int .i64 i,fpv f] (fpv (q0d (nG 11 i) [f])):=by
 refine PureFn.intro mixed (fn:=Tryz.f189) rfl rfl rfl fun M w0 => ?_
 have hb:=fm_build (nG 11 i) [f] (by simp)
 (try conv=>whnf);repeat' (first|(apply And.intro<;>try conv=>whnf)|(apply q0p;rfl)|(refine PureFn.dy hb rfl ?_;try conv=>whnf)|fail)
 exact .refl _
theorem fm_Dist (i:Int) (f:List Nd):PureFn Tryz.prog 190 [.int .i64 i,fpv f] (fpv (q0d (nG 12 i) [f])):=by
 refine PureFn.intro mixed (fn:=Tryz.f190) rfl rfl rfl fun M w0 => ?_
 have hb:=fm_build (nG 12 i) [f] (by simp)
 (try conv=>whnf);repeat' (first|(apply And.intro<;>try conv=>whnf)|(apply q0p;rfl)|(refine PureFn.dy hb rfl ?_;try conv=>whnf)|fail)
 exact .refl _
theorem fm_Common (i:Int) (f:List Nd) (g:List Nd):PureFn Tryz.prog 154 [.int .i64 i,fpv f,fpv g] (fpv (q0d (nG 13 i) [f,g])):=by
 refine PureFn.intro mixed (fn:=Tryz.f154) rfl rfl rfl fun M w0 => ?_
 have hb:=fm_build (nG 13 i) [f,g] (by simp)
 (try conv=>whnf);repeat' (first|(apply And.intro<;>try conv=>whnf)|(apply q0p;rfl)|(refine PureFn.dy hb rfl ?_;try conv=>whnf)|fail)
 exact .refl _
inductive Tr where
 |none
 |nd (op i e g:Int) (x y:Tr)
 deriving DecidableEq
def trn (f:List Nd):Nat->Nat->Tr
 |0,_=>.none
 |n+1,i=>match f[i]? with
  |none=>.none
  |some x=>.nd x.op x.i x.e x.g (bif q0n x.op then trn f n x.x.toNat else .none) (bif q0o x.op then trn f n x.y.toNat else .none)
def tree (f:List Nd) (i:Nat):Tr:=trn f (i+1) i
def finT:Tr->List Nd->Nat×List Nd
 |.none,out=>(0,out)
 |.nd op i e g a b,out=>putN (finT b (finT a out).2).2 ⟨op,i,e,g,((finT a out).1:Int),((finT b (finT a out).2).1:Int)⟩
def Tr.size:Tr->Nat
 |.none=>0
 |.nd _ _ _ _ a b=>a.size+b.size+1
theorem trn_fuel {f:List Nd} (hf:Okl f):∀ (n m i:Nat),i<n->i<m->trn f n i=trn f m i
 |0,_,i,h,_=>by omega
 |_+1,0,i,_,h=>by omega
 |n+1,m+1,i,hn,hm=>by
  simp only[trn]
  cases hx:f[i]? with
  |none=>rfl
  |some x =>
   have ok:=hf i x hx;simp only
   have e1:(bif q0n x.op then trn f n x.x.toNat else .none)=(bif q0n x.op then trn f m x.x.toNat else .none):=by
    cases hu:q0n x.op with
    |false=>rfl
    |true=>have:=ok.x hu;exact trn_fuel hf n m x.x.toNat (by omega) (by omega)
   have e2:(bif q0o x.op then trn f n x.y.toNat else .none)=(bif q0o x.op then trn f m x.y.toNat else .none):=by
    cases hu:q0o x.op with
    |false=>rfl
    |true=>have:=ok.y hu;exact trn_fuel hf n m x.y.toNat (by omega) (by omega)
   rw[e1,e2]
theorem trn_succ {f:List Nd} {n i:Nat} {x:Nd} (hx:f[i]? = some x):trn f (n+1) i=.nd x.op x.i x.e x.g (bif q0n x.op then trn f n x.x.toNat else .none) (bif q0o x.op then trn f n x.y.toNat else .none):=by
 simp only[trn,hx]
theorem tree_nd {f:List Nd} (hf:Okl f) {i:Nat} {x:Nd} (hx:f[i]? = some x) :
  tree f i=.nd x.op x.i x.e x.g (bif q0n x.op then tree f x.x.toNat else .none) (bif q0o x.op then tree f x.y.toNat else .none):=by
 have ok:=hf i x hx;have e0:tree f i=_:=trn_succ (n:=i) hx;rw[e0];unfold tree
 have e1:(bif q0n x.op then trn f i x.x.toNat else .none)=(bif q0n x.op then trn f (x.x.toNat+1) x.x.toNat else .none):=by
  cases hu:q0n x.op with
  |false=>rfl
  |true=>have:=ok.x hu;exact trn_fuel hf _ _ _ (by omega) (by omega)
 have e2:(bif q0o x.op then trn f i x.y.toNat else .none)=(bif q0o x.op then trn f (x.y.toNat+1) x.y.toNat else .none):=by
  cases hu:q0o x.op with
  |false=>rfl
  |true=>have:=ok.y hu;exact trn_fuel hf _ _ _ (by omega) (by omega)
 rw[e1,e2]
theorem trn_append (f t:List Nd) (hf:Okl f):∀ (n i:Nat),i<f.length->trn (f++t) n i=trn f n i
 |0,_,_=>rfl
 |n+1,i,hi=>by
  simp only[trn];rw[List.getElem?_append_left hi,List.getElem?_eq_getElem hi];have ok:=hf i _ (List.getElem?_eq_getElem hi);generalize f[i]=x at ok;simp only
  have e1:(bif q0n x.op then trn (f++t) n x.x.toNat else .none)=(bif q0n x.op then trn f n x.x.toNat else .none):=by
   cases hu:q0n x.op with
   |false=>rfl
   |true=>have:=ok.x hu;exact trn_append f t hf n x.x.toNat (by omega)
  have e2:(bif q0o x.op then trn (f++t) n x.y.toNat else .none)=(bif q0o x.op then trn f n x.y.toNat else .none):=by
   cases hu:q0o x.op with
   |false=>rfl
   |true=>have:=ok.y hu;exact trn_append f t hf n x.y.toNat (by omega)
  rw[e1,e2]
theorem tree_append {f t:List Nd} (hf:Okl f) {i:Nat} (hi:i<f.length):tree (f++t) i=tree f i:=trn_append f t hf _ _ hi
theorem idx_none {x:Nd}:∀ {out:List Nd} {i:Nat},idx x out i=none↔x∉out
 | [],i=>by simp[idx]
 |n::r,i=>by
  simp only[idx,List.mem_cons,not_or]
  by_cases e:n=x
  ·rw[if_pos e];subst e;simp
  ·rw[if_neg e,idx_none];exact⟨fun h=>⟨fun q=>e q.symm,h⟩,fun h=>h.2⟩
theorem idx_of {x:Nd} {out:List Nd} (hn:out.Nodup) {v:Nat} (hv:out[v]? = some x):idx x out 0=some v:=by
 cases h:idx x out 0 with
 |none=>exact absurd (List.mem_iff_getElem?.2 ⟨v,hv⟩) (idx_none.1 h)
 |some k =>
  have h2:=(idx_some h).2;simp only[Nat.sub_zero] at h2;obtain⟨l1,e1⟩:=List.getElem?_eq_some_iff.1 h2;obtain⟨l2,e2⟩:=List.getElem?_eq_some_iff.1 hv;rw[(List.getElem_inj hn).1 (e1.trans e2.symm)]
theorem putN_nodup {out:List Nd} {x:Nd} (hn:out.Nodup):(putN out x).2.Nodup:=by
 unfold putN
 cases h:idx x out 0 with
 |some k=>exact hn
 |none =>
  have:=idx_none.1 h;simp only;rw[List.nodup_append];refine⟨hn,by simp,fun a ha b hb => ?_⟩;simp at hb;subst hb;intro e;subst e;exact this ha
theorem finT_old {out:List Nd} (ho:Okl out) (hn:out.Nodup):∀ (t:Tr) (v:Nat),v<out.length->tree out v=t->finT t out=(v,out)
 |.none,v,hv,ht=>by
  rw[tree_nd ho (List.getElem?_eq_getElem hv)] at ht
  cases ht
 |.nd op i e g a b,v,hv,ht=>by
  have hx:out[v]? = some out[v]:=List.getElem?_eq_getElem hv;have ok:=ho v _ hx;rw[tree_nd ho hx] at ht;generalize hxx:out[v]=x at hx ok ht;simp only[Tr.nd.injEq] at ht;obtain⟨h1,h2,h3,h4,ha,hb⟩:=ht
  have fa:finT a out=(x.x.toNat,out):=by
   cases hu:q0n x.op with
   |false=>rw[hu] at ha;subst ha;rw[ok.nox hu];rfl
   |true =>
    rw[hu] at ha;have:=ok.x hu;exact finT_old ho hn a x.x.toNat (by omega) ha
  have fb:finT b out=(x.y.toNat,out):=by
   cases hu:q0o x.op with
   |false=>rw[hu] at hb;subst hb;rw[ok.noy hu];rfl
   |true =>
    rw[hu] at hb;have:=ok.y hu;exact finT_old ho hn b x.y.toNat (by omega) hb
  have hz:(⟨op,i,e,g,((finT a out).1:Int),((finT b (finT a out).2).1:Int)⟩:Nd)=x:=by
   rw[fa];simp only;rw[fb]
   have p1:0<=x.x:=by cases hu:q0n x.op with
    |false=>rw[ok.nox hu];exact Int.le_refl 0
    |true=>exact (ok.x hu).1
   have p2:0<=x.y:=by cases hu:q0o x.op with
    |false=>rw[ok.noy hu];exact Int.le_refl 0
    |true=>exact (ok.y hu).1
   cases x
   simp only at h1 h2 h3 h4 p1 p2;subst h1;subst h2;subst h3;subst h4;simp only[Nd.mk.injEq,true_and];exact⟨by omega,by omega⟩
  simp only[finT];rw[hz,fa];simp only;rw[fb];simp only;rw[putN,idx_of hn hx]
structure InvT (f:List Nd) (s:List Nd×List (Nat×Nat)):Prop where
 ok:Okl s.1
 nodup:s.1.Nodup
 ds:∀ j v,look j s.2=some v->v<s.1.length/\tree s.1 v=tree f j
structure FinTr (f:List Nd) (s t:List Nd×List (Nat×Nat)) (k:Nat) (T:Tr):Prop where
 inv:InvT f t
 lt:k<t.1.length
 val:tree t.1 k=T
 ext:∃ u,t.1=s.1++u
 eq:finT T s.1=(k,t.1)
theorem fin_tree {f:List Nd} (hf:Okl f):∀ (n i:Nat) (s:List Nd×List (Nat×Nat)),i<n->i<f.length->InvT f s->FinTr f s (fin f n i s).2 (fin f n i s).1 (tree f i)
 |0,i,s,h,_,_=>by omega
 |n+1,i,s,hin,hif,hs=>by
  cases hl:look i s.2 with
  |some k =>
   simp only[fin,hl];obtain⟨h1,h2⟩:=hs.ds i k hl;exact⟨hs,h1,h2,⟨[],by simp⟩,finT_old hs.ok hs.nodup _ k h1 h2⟩
  |none =>
   have hn:f[i]? = some f[i]:=List.getElem?_eq_getElem hif;generalize hx:f[i]=x at hn;have hok:=hf i x hn;rw[fin_none hl hn,tree_nd hf hn]
   have hA:InvT f (opA f n x s).2/\(q0n x.op=true->(opA f n x s).1<(opA f n x s).2.1.length/\tree (opA f n x s).2.1 (opA f n x s).1=tree f x.x.toNat)/\(∃ u,(opA f n x s).2.1=s.1++u) /\
     finT (bif q0n x.op then tree f x.x.toNat else .none) s.1=((opA f n x s).1,(opA f n x s).2.1):=by
    unfold opA
    cases hu:q0n x.op with
    |false=>exact⟨hs,(fun h=>by cases h),⟨[],by simp⟩,rfl⟩
    |true =>
     have:=hok.x hu;have q:=fin_tree hf n x.x.toNat s (by omega) (by omega) hs;exact⟨q.inv,fun _=>⟨q.lt,q.val⟩,q.ext,q.eq⟩
   generalize opA f n x s=A at hA |-;obtain⟨a1,a2,⟨ua,a3⟩,a4⟩:=hA
   have hB:InvT f (opB f n x A.2).2/\(q0o x.op=true->(opB f n x A.2).1<(opB f n x A.2).2.1.length/\tree (opB f n x A.2).2.1 (opB f n x A.2).1=tree f x.y.toNat)/\(∃ u,(opB f n x A.2).2.1=A.2.1++u) /\
     finT (bif q0o x.op then tree f x.y.toNat else .none) A.2.1=((opB f n x A.2).1,(opB f n x A.2).2.1):=by
    unfold opB
    cases hu:q0o x.op with
    |false=>exact⟨a1,(fun h=>by cases h),⟨[],by simp⟩,rfl⟩
    |true =>
     have:=hok.y hu;have q:=fin_tree hf n x.y.toNat A.2 (by omega) (by omega) a1;exact⟨q.inv,fun _=>⟨q.lt,q.val⟩,q.ext,q.eq⟩
   generalize opB f n x A.2=B at hB |-;obtain⟨b1,b2,⟨ub,b3⟩,b4⟩:=hB;have hz:OkNd (ndZ x A.1 B.1) B.2.1.length:=ndZ_ok hok (fun u=>by have:=(a2 u).1;rw[b3,List.length_append];omega) (fun u=>(b2 u).1)
   change FinTr f s ((putN B.2.1 (ndZ x A.1 B.1)).2,dput i (putN B.2.1 (ndZ x A.1 B.1)).1 B.2.2) (putN B.2.1 (ndZ x A.1 B.1)).1 _
   obtain⟨p1,p2,t,p3,_⟩:=putN_spec B.2.1 (ndZ x A.1 B.1);have pok:=putN_ok b1.ok hz
   have hval:tree (putN B.2.1 (ndZ x A.1 B.1)).2 (putN B.2.1 (ndZ x A.1 B.1)).1=.nd x.op x.i x.e x.g (bif q0n x.op then tree f x.x.toNat else .none) (bif q0o x.op then tree f x.y.toNat else .none):=by
    rw[tree_nd pok p1,ndZ_op,ndZ_i,ndZ_e,ndZ_g,ndZ_x,ndZ_y]
    congr 1
    ·cases hu:q0n x.op with
     |false=>rfl
     |true =>
      have:=a2 hu;simp only[cond_true,Int.toNat_natCast];rw[p3,tree_append b1.ok (by rw[b3,List.length_append];omega),b3,tree_append a1.ok this.1];exact this.2
    ·cases hu:q0o x.op with
     |false=>rfl
     |true =>
      have:=b2 hu;simp only[cond_true,Int.toNat_natCast];rw[p3,tree_append b1.ok this.1];exact this.2
   refine⟨⟨pok,putN_nodup b1.nodup,fun j v hv => ?_⟩,p2,hval,⟨ua++ub++t,by simp only;rw[p3,b3,a3];simp[List.append_assoc]⟩,?_⟩
   ·simp only[look_dput] at hv
    by_cases e:j=i
    ·rw[if_pos e] at hv;simp at hv;subst hv;subst e;exact⟨p2,by rw[tree_nd hf hn];exact hval⟩
    ·rw[if_neg e] at hv;obtain⟨g1,g2⟩:=b1.ds j v hv;simp only;refine⟨by rw[p3,List.length_append];omega,?_⟩;rw[p3,tree_append b1.ok g1];exact g2
   ·simp only[finT];rw[a4];simp only;rw[b4];simp only
    have e:(⟨x.op,x.i,x.e,x.g,(A.1:Int),(B.1:Int)⟩:Nd)=ndZ x A.1 B.1:=by
     have q1:q0n x.op=false->(A.1:Int)=x.x:=fun u=>by
      rw[u] at a4;have:A.1=0:=(congrArg Prod.fst a4).symm;rw[this,hok.nox u];rfl
     have q2:q0o x.op=false->(B.1:Int)=x.y:=fun u=>by
      rw[u] at b4;have:B.1=0:=(congrArg Prod.fst b4).symm;rw[this,hok.noy u];rfl
     unfold ndZ ndB ndA
     cases u1:q0n x.op<;>cases u2:q0o x.op<;>cases x<;>simp_all
    rw[e]
theorem invT_nil (f:List Nd):InvT f ([],[]):=⟨fun i x h=>by simp at h,List.nodup_nil,fun j v h=>by simp[look] at h⟩
theorem canon_tree {f:List Nd} (hf:Okl f) {i:Nat} (hi:i<f.length):canon f i=(finT (tree f i) []).2:=by
 have q:=fin_tree hf (i+1) i ([],[]) (by omega) hi (invT_nil f);rw[q.eq];rfl
theorem opA_tree {f:List Nd} (hf:Okl f) {n i:Nat} {x:Nd} (hx:f[i]? = some x) (hin:i<n+1) (hif:i<f.length) {s:List Nd×List (Nat×Nat)} (hs:InvT f s) :
  InvT f (opA f n x s).2/\(q0n x.op=true->FinTr f s (opA f n x s).2 (opA f n x s).1 (tree f x.x.toNat))/\∃ u,(opA f n x s).2.1=s.1++u:=by
 have hok:=hf i x hx;unfold opA
 cases hu:q0n x.op with
 |false=>exact⟨hs,(fun h=>by cases h),⟨[],by simp⟩⟩
 |true =>
  have:=hok.x hu;have q:=fin_tree hf n x.x.toNat s (by omega) (by omega) hs;exact⟨q.inv,fun _=>q,q.ext⟩
theorem opB_tree {f:List Nd} (hf:Okl f) {n i:Nat} {x:Nd} (hx:f[i]? = some x) (hin:i<n+1) (hif:i<f.length) {s:List Nd×List (Nat×Nat)} (hs:InvT f s) :
  InvT f (opB f n x s).2/\(q0o x.op=true->FinTr f s (opB f n x s).2 (opB f n x s).1 (tree f x.y.toNat))/\∃ u,(opB f n x s).2.1=s.1++u:=by
 have hok:=hf i x hx;unfold opB
 cases hu:q0o x.op with
 |false=>exact⟨hs,(fun h=>by cases h),⟨[],by simp⟩⟩
 |true =>
  have:=hok.y hu;have q:=fin_tree hf n x.y.toNat s (by omega) (by omega) hs;exact⟨q.inv,fun _=>q,q.ext⟩
theorem fin_size {f:List Nd} (hf:Okl f):∀ (n i:Nat) (s:List Nd×List (Nat×Nat)),i<n->i<f.length->InvT f s ->
  ∀ v,s.1.length<=v->v<(fin f n i s).2.1.length->(tree (fin f n i s).2.1 v).size<=(tree f i).size/\(v≠(fin f n i s).1->(tree (fin f n i s).2.1 v).size<(tree f i).size)
 |0,i,s,h,_,_=>by omega
 |n+1,i,s,hin,hif,hs=>by
  intro v hv1 hv2;have q:=fin_tree hf (n+1) i s hin hif hs
  cases hl:look i s.2 with
  |some k=>simp only[fin,hl] at hv2;omega
  |none =>
   have hn:f[i]? = some f[i]:=List.getElem?_eq_getElem hif;generalize hx:f[i]=x at hn;have hok:=hf i x hn;have hsz:(tree f i).size=(bif q0n x.op then tree f x.x.toNat else .none).size+(bif q0o x.op then tree f x.y.toNat else .none).size+1:=by rw[tree_nd hf hn];rfl
   obtain⟨a1,a2,ua,a3⟩:=opA_tree hf hn hin hif hs;obtain⟨b1,b2,ub,b3⟩:=opB_tree hf hn hin hif a1
   have sA:∀ v,s.1.length<=v->v<(opA f n x s).2.1.length->(tree (opA f n x s).2.1 v).size<(tree f i).size:=by
    intro v h1 h2
    cases hu:q0n x.op with
    |false=>rw[opA,hu] at h2;simp only[cond_false] at h2;omega
    |true =>
     have:=hok.x hu;have e:opA f n x s=fin f n x.x.toNat s:=by rw[opA,hu];rfl
     rw[e] at h2 |-;have:=(fin_size hf n x.x.toNat s (by omega) (by omega) hs v h1 h2).1;rw[hsz,hu];simp only[cond_true];omega
   have sB:∀ v,(opA f n x s).2.1.length<=v->v<(opB f n x (opA f n x s).2).2.1.length->(tree (opB f n x (opA f n x s).2).2.1 v).size<(tree f i).size:=by
    intro v h1 h2
    cases hu:q0o x.op with
    |false=>rw[opB,hu] at h2;simp only[cond_false] at h2;omega
    |true =>
     have:=hok.y hu;have e:opB f n x (opA f n x s).2=fin f n x.y.toNat (opA f n x s).2:=by rw[opB,hu];rfl
     rw[e] at h2 |-;have:=(fin_size hf n x.y.toNat (opA f n x s).2 (by omega) (by omega) a1 v h1 h2).1;rw[hsz,hu];simp only[cond_true];omega
   have hval:=q.val;have hok':=q.inv.ok;rw[fin_none hl hn] at hv2 hval hok' |-;generalize opA f n x s=A at *;generalize opB f n x A.2=B at *;obtain⟨p1,p2,t,p3,p4⟩:=putN_spec B.2.1 (ndB x.op (ndA x A.1) B.1);simp only at hv2 hval hok' |-
   rcases Nat.lt_or_ge v B.2.1.length with hlt|hge
   ·have e:tree (putN B.2.1 (ndB x.op (ndA x A.1) B.1)).2 v=tree B.2.1 v:=by rw[p3,tree_append b1.ok hlt]
    rw[e]
    have:(tree B.2.1 v).size<(tree f i).size:=by
     rcases Nat.lt_or_ge v A.2.1.length with h1|h1
     ·rw[b3,tree_append a1.ok h1];exact sA v hv1 h1
     ·exact sB v h1 hlt
    exact⟨by omega,fun _=>this⟩
   ·have hvk:v=(putN B.2.1 (ndB x.op (ndA x A.1) B.1)).1:=by
     unfold putN at hv2 |-
     cases h:idx (ndB x.op (ndA x A.1) B.1) B.2.1 0 with
     |some k=>rw[h] at hv2;simp only at hv2;omega
     |none=>rw[h] at hv2;simp at hv2;simp only;omega
    rw[hvk,hval];exact⟨Nat.le_refl _,fun h=>absurd rfl h⟩
theorem kid_size {f:List Nd} (hf:Okl f) {n i:Nat} {x:Nd} (hn:f[i]? = some x) (hin:i<n+1) (hif:i<f.length) {s:List Nd×List (Nat×Nat)} (hs:InvT f s) :
  ∀ v,s.1.length<=v->v<(opB f n x (opA f n x s).2).2.1.length->(tree (opB f n x (opA f n x s).2).2.1 v).size<(tree f i).size:=by
 have hok:=hf i x hn;have hsz:(tree f i).size=(bif q0n x.op then tree f x.x.toNat else .none).size+(bif q0o x.op then tree f x.y.toNat else .none).size+1:=by rw[tree_nd hf hn];rfl
 obtain⟨a1,a2,ua,a3⟩:=opA_tree hf hn hin hif hs;obtain⟨b1,b2,ub,b3⟩:=opB_tree hf hn hin hif a1;intro v hv1 hlt
 rcases Nat.lt_or_ge v (opA f n x s).2.1.length with h1|h1
 ·rw[b3,tree_append a1.ok h1]
  cases hu:q0n x.op with
  |false=>rw[opA,hu] at h1;simp only[cond_false] at h1;omega
  |true =>
   have:=hok.x hu;have e:opA f n x s=fin f n x.x.toNat s:=by rw[opA,hu];rfl
   rw[e] at h1 |-;have:=(fin_size hf n x.x.toNat s (by omega) (by omega) hs v hv1 h1).1;rw[hsz,hu];simp only[cond_true];omega
 ·cases hu:q0o x.op with
  |false=>rw[opB,hu] at hlt;simp only[cond_false] at hlt;omega
  |true =>
   have:=hok.y hu;have e:opB f n x (opA f n x s).2=fin f n x.y.toNat (opA f n x s).2:=by rw[opB,hu];rfl
   rw[e] at hlt |-;have:=(fin_size hf n x.y.toNat (opA f n x s).2 (by omega) (by omega) a1 v h1 hlt).1;rw[hsz,hu];simp only[cond_true];omega
theorem canon_root {f:List Nd} (hf:Okl f) {i:Nat} (hi:i<f.length):(canon f i).length≠0/\tree (canon f i) ((canon f i).length-1)=tree f i:=by
 have q:=fin_tree hf (i+1) i ([],[]) (by omega) hi (invT_nil f);have hs:=fin_size hf (i+1) i ([],[]) (by omega) hi (invT_nil f);have hlt:=q.lt;have hval:=q.val;have hok:=q.inv.ok;refine⟨by unfold canon;omega,?_⟩
 have hlast:(fin f (i+1) i ([],[])).1=(canon f i).length-1:=by
  have hn:f[i]? = some f[i]:=List.getElem?_eq_getElem hi;generalize hx:f[i]=x at hn;obtain⟨a1,_,_⟩:=opA_tree hf hn (by omega) hi (invT_nil f) (n:=i);obtain⟨b1,_,_⟩:=opB_tree hf hn (by omega) hi a1 (n:=i);have hkid:=kid_size hf hn (by omega) hi (invT_nil f) (n:=i);unfold canon;rw[fin_none (f:=f) (n:=i) (s:=([],[])) rfl hn] at hval |-;simp only at hval |-;generalize opA f i x ([],[])=A at *;generalize opB f i x A.2=B at *;obtain⟨p1,p2,t,p3,_⟩:=putN_spec B.2.1 (ndB x.op (ndA x A.1) B.1)
  cases h:idx (ndB x.op (ndA x A.1) B.1) B.2.1 0 with
  |none=>unfold putN;rw[h];simp
  |some k =>
   exfalso;have hp:putN B.2.1 (ndB x.op (ndA x A.1) B.1)=(k,B.2.1):=by unfold putN;rw[h]
   rw[hp] at hval p2;simp only at hval p2;have:=hkid k (Nat.zero_le _) p2;rw[hval] at this;omega
 unfold canon at hlast |-;rw[<- hlast];exact hval
def root (f:List Nd):Tr:=tree f (f.length-1)
theorem comp_root {f:List Nd} (h:z0b f=0):q0u f=(finT (root f) []).2:=by
 rw[comp_eq h];have:=(y0h h).1;exact canon_tree (check_okl h) (by omega)
theorem root_comp {f:List Nd} (h:z0b f=0):root (q0u f)=root f:=by
 have:=(y0h h).1;unfold root;rw[comp_eq h];exact (canon_root (check_okl h) (by omega)).2
theorem comp_eq_iff {a b:List Nd} (ha:z0b a=0) (hb:z0b b=0):q0u a=q0u b↔root a=root b:=by
 constructor
 ·intro h;rw[<- root_comp ha,<- root_comp hb,h]
 ·intro h;rw[comp_root ha,comp_root hb,h]
theorem comp_comp {f:List Nd} (h:z0b f=0):q0u (q0u f)=q0u f:=(comp_eq_iff (comp_check h) h).2 (root_comp h)
theorem trn_shift {A B:List Nd} (hA:Okl A) (hB:Okl B):∀ (n j:Nat),j<B.length->trn (A++B.map (shN A.length)) n (A.length+j)=trn B n j
 |0,_,_=>rfl
 |n+1,j,hj=>by
  simp only[trn];have hx:B[j]? = some B[j]:=List.getElem?_eq_getElem hj;have ok:=hB j _ hx;rw[List.getElem?_append_right (by omega),Nat.add_sub_cancel_left,List.getElem?_map,hx];generalize B[j]=x at ok;simp only[Option.map_some];have e1:(shN A.length x).op=x.op:=by unfold shN shX;cases q0n x.op<;>cases q0o x.op<;>rfl
  have e2:(shN A.length x).i=x.i:=by unfold shN shX;cases q0n x.op<;>cases q0o x.op<;>rfl
  have e3:(shN A.length x).e=x.e:=by unfold shN shX;cases q0n x.op<;>cases q0o x.op<;>rfl
  have e4:(shN A.length x).g=x.g:=by unfold shN shX;cases q0n x.op<;>cases q0o x.op<;>rfl
  have e5:(shN A.length x).x=bif q0n x.op then x.x+A.length else x.x:=by unfold shN shX;cases q0n x.op<;>cases q0o x.op<;>rfl
  have e6:(shN A.length x).y=bif q0o x.op then x.y+A.length else x.y:=by unfold shN shX;cases q0n x.op<;>cases q0o x.op<;>rfl
  rw[e1,e2,e3,e4,e5,e6]
  congr 1
  ·cases hu:q0n x.op with
   |false=>rfl
   |true =>
    have:=ok.x hu;simp only[cond_true];rw[show (x.x+(A.length:Int)).toNat=A.length+x.x.toNat by omega];exact trn_shift hA hB n x.x.toNat (by omega)
  ·cases hu:q0o x.op with
   |false=>rfl
   |true =>
    have:=ok.y hu;simp only[cond_true];rw[show (x.y+(A.length:Int)).toNat=A.length+x.y.toNat by omega];exact trn_shift hA hB n x.y.toNat (by omega)
theorem tree_shift {A B:List Nd} (hA:Okl A) (hB:Okl B) {j:Nat} (hj:j<B.length):tree (A++B.map (shN A.length)) (A.length+j)=tree B j:=by
 unfold tree;rw[trn_shift hA hB _ j hj];exact trn_fuel hB _ _ _ (by omega) (by omega)
def shortL (g:List Nd):List Nd:=bif decide ((g.length:Int)>401) then [] else bif decide (((canon g (g.length-1)).length:Int)>200) then [] else canon g (g.length-1)
def oneL (x:Nd):List Nd:=bif z0e x 0 != 0 then [] else [x]
def unL (x:Nd) (f:List Nd):List Nd :=
 bif z0b f != 0 then [] else bif z0e { x with x:=(f.length:Int)-1 } f.length != 0 then [] else shortL (f++[{ x with x:=(f.length:Int)-1 }])
def binN (x:Nd) (f g:List Nd):Nd:={ x with x:=(f.length:Int)-1,y:=((f++g.map (shN f.length)).length:Int)-1 }
def binL (x:Nd) (f g:List Nd):List Nd :=
 bif bif z0b f != 0 then true else z0b g != 0 then [] else bif z0e (binN x f g) (f++g.map (shN f.length)).length != 0 then [] else shortL (f++g.map (shN f.length)++[binN x f g])
theorem shN_zero (n:Nd):shN 0 n=n:=by
 unfold shN shX
 cases q0n n.op<;>cases q0o n.op<;>cases n<;>simp
theorem map_shN_zero (c:List Nd):c.map (shN 0)=c:=by
 rw[List.map_congr_left (g:=id) (fun n _=>shN_zero n),List.map_id]
theorem canon_snoc {F:List Nd} {x:Nd} (hF:Okl F) (hx:OkNd x F.length):canon (F++[x]) F.length=(finT (.nd x.op x.i x.e x.g (bif q0n x.op then tree F x.x.toNat else .none) (bif q0o x.op then tree F x.y.toNat else .none)) []).2:=by
 have hok:=okl_snoc hF hx;rw[canon_tree hok (by simp),tree_nd hok (x:=x) (by simp)]
 have e1:(bif q0n x.op then tree (F++[x]) x.x.toNat else .none)=(bif q0n x.op then tree F x.x.toNat else .none):=by
  cases hu:q0n x.op with
  |false=>rfl
  |true=>have:=hx.x hu;exact tree_append hF (by omega)
 have e2:(bif q0o x.op then tree (F++[x]) x.y.toNat else .none)=(bif q0o x.op then tree F x.y.toNat else .none):=by
  cases hu:q0o x.op with
  |false=>rfl
  |true=>have:=hx.y hu;exact tree_append hF (by omega)
 rw[e1,e2]
theorem ne_of_iff {a b:Int} (h:a=0↔b=0):(a != 0)=(b != 0):=by
 rw[Bool.eq_iff_iff];simp only[bne_iff_ne,ne_eq,h]
theorem build_one (x:Nd):q0d x []=oneL x:=by
 rw[q0d,bfold];simp only[bfin,oneL,List.length_nil,List.nil_append]
 show (bif z0e x ((0:Nat):Int) != 0 then [] else _)=_
 cases h:(z0e x ((0:Nat):Int) != 0) with
 |true=>rfl
 |false =>
  have ok:OkNd x ((0:Nat):Int):=nodeErr_ok.1 (by simpa using h)
  have ux:q0n x.op=false:=by cases hu:q0n x.op with
   |false=>rfl
   |true=>have:=ok.x hu;omega
  have uy:q0o x.op=false:=by cases hu:q0o x.op with
   |false=>rfl
   |true=>have:=ok.y hu;omega
  have hc:canon [x] 0=[x]:=by
   have:=canon_snoc (F:=[]) (x:=x) (fun i y hy=>by simp at hy) ok;simp only[List.nil_append,List.length_nil] at this;rw[this,ux,uy];simp only[cond_false,finT,putN,idx,List.nil_append,List.length_nil];have e1:=ok.nox ux;have e2:=ok.noy uy
   cases x
   simp only at e1 e2;subst e1;subst e2;rfl
  show (bif decide (((canon [x] 0).length:Int)>200) then [] else canon [x] 0)=[x]
  simp only[hc];rfl
theorem OkNd.re {x y:Nd} {a b:Int} (h:OkNd x a) (h1:y.op=x.op) (h2:y.i=x.i) (h3:y.e=x.e) (h4:y.g=x.g) (h5:q0n x.op=true->0<=y.x/\y.x<b) (h6:q0n x.op=false->y.x=0) (h7:q0o x.op=true->0<=y.y/\y.y<b) (h8:q0o x.op=false->y.y=0):OkNd y b:=by
 constructor<;>simp only[h1,h2,h3,h4]
 ·exact h.op
 ·exact h5
 ·exact h6
 ·exact h7
 ·exact h8
 ·exact h.fact
 ·exact h.agent
 ·exact h.act
 ·exact h.noi
 ·exact h.noe
 ·exact h.group
 ·exact h.nog
theorem short_snoc {F:List Nd} {x:Nd} (hl:F.length<=400):shortL (F++[x])=bif decide (((canon (F++[x]) F.length).length:Int)>200) then [] else canon (F++[x]) F.length:=by
 have e1:decide (((F++[x]).length:Int)>401)=false:=by simp;omega
 have e2:(F++[x]).length-1=F.length:=by simp
 rw[shortL,e1,e2];rfl
theorem bfin_eq (x:Nd) (F:List Nd):bfin (x,F)=bif z0e x F.length != 0 then [] else bif decide (((canon (F++[x]) F.length).length:Int)>200) then [] else canon (F++[x]) F.length:=rfl
theorem build_un (x:Nd) (f:List Nd) (hx:q0n x.op=true) (hy:q0o x.op=false) (hxy:x.y=0):q0d x [f]=unL x f:=by
 rw[q0d];simp only[bfold]
 cases hc:(z0b f != 0) with
 |true=>simp only[unL,hc,cond_true]
 |false =>
  have hc0:z0b f=0:=by simpa using hc
  obtain⟨l1,l2,_⟩:=y0h hc0;have c1:=comp_pos hc0;have c2:=comp_len f
  have s0:bstep 0 (x,[]) f=({ x with x:=((q0u f).length:Int)-1 },q0u f):=by
   rw[bstep_t rfl];simp only[List.nil_append,List.length_nil,map_shN_zero]
  simp only[unL,hc,cond_false,s0,bfin_eq]
  have hne:(z0e { x with x:=((q0u f).length:Int)-1 } (q0u f).length != 0)=(z0e { x with x:=(f.length:Int)-1 } f.length != 0):=ne_of_iff (by
   rw[nodeErr_ok,nodeErr_ok];constructor
   ·intro h;exact h.re rfl rfl rfl rfl (fun _=>⟨by simp only;omega,by simp only;omega⟩) (fun u=>by rw[hx] at u;cases u) (fun u=>by rw[hy] at u;cases u) (fun _=>hxy)
   ·intro h;exact h.re rfl rfl rfl rfl (fun _=>⟨by simp only;omega,by simp only;omega⟩) (fun u=>by rw[hx] at u;cases u) (fun u=>by rw[hy] at u;cases u) (fun _=>hxy))
  rw[hne]
  cases hn:(z0e { x with x:=(f.length:Int)-1 } f.length != 0) with
  |true=>rfl
  |false =>
   have ok2:OkNd { x with x:=(f.length:Int)-1 } f.length:=nodeErr_ok.1 (by simpa using hn);have ok1:OkNd { x with x:=((q0u f).length:Int)-1 } (q0u f).length:=nodeErr_ok.1 (by rw[hn] at hne;simpa using hne);simp only[cond_false];rw[short_snoc (by omega)];have e1:=canon_snoc (z0h f) ok1;have e2:=canon_snoc (check_okl hc0) ok2;have hr:=root_comp hc0;unfold root at hr;simp only[hx,hy,cond_true,cond_false] at e1 e2;rw[show (((q0u f).length:Int)-1).toNat=(q0u f).length-1 by omega] at e1;rw[show ((f.length:Int)-1).toNat=f.length-1 by omega,<- hr] at e2;rw[e1,e2]
theorem bin_last {A B:List Nd} (hA:Okl A) (hB:Okl B) (h1:1<=A.length) (h2:1<=B.length):tree (A++B.map (shN A.length)) (A.length-1)=root A/\tree (A++B.map (shN A.length)) ((A++B.map (shN A.length)).length-1)=root B:=by
 refine⟨tree_append hA (by omega),?_⟩;have e:(A++B.map (shN A.length)).length-1=A.length+(B.length-1):=by rw[List.length_append,List.length_map];omega
 rw[e];exact tree_shift hA hB (by omega)
theorem build_bin (x:Nd) (f g:List Nd) (hx:q0n x.op=true) (hy:q0o x.op=true):q0d x [f,g]=binL x f g:=by
 rw[q0d];simp only[bfold]
 cases hc:(z0b f != 0) with
 |true=>simp only[binL,hc,cond_true]
 |false =>
  cases hd:(z0b g != 0) with
  |true=>simp only[binL,hc,hd,cond_true,cond_false]
  |false =>
   have hc0:z0b f=0:=by simpa using hc
   have hd0:z0b g=0:=by simpa using hd
   obtain⟨l1,l2,_⟩:=y0h hc0;obtain⟨m1,m2,_⟩:=y0h hd0;have c1:=comp_pos hc0;have c2:=comp_len f;have d1:=comp_pos hd0;have d2:=comp_len g;obtain⟨F,hF⟩:∃ F,F=q0u f++(q0u g).map (shN (q0u f).length):=⟨_,rfl⟩;obtain⟨L,hL⟩:∃ L,L=f++g.map (shN f.length):=⟨_,rfl⟩;have hFl:F.length=(q0u f).length+(q0u g).length:=by rw[hF,List.length_append,List.length_map]
   have hLl:L.length=f.length+g.length:=by rw[hL,List.length_append,List.length_map]
   have hFo:Okl F:=hF▸okl_append (z0h f) (z0h g);have hLo:Okl L:=hL▸okl_append (check_okl hc0) (check_okl hd0)
   have hstep:bstep (0+1) (bstep 0 (x,[]) f) g=({ x with x:=((q0u f).length:Int)-1,y:=(F.length:Int)-1 },F):=by
    have s0:bstep 0 (x,[]) f=({ x with x:=((q0u f).length:Int)-1 },q0u f):=by
     rw[bstep_t rfl];simp only[List.nil_append,List.length_nil,map_shN_zero]
    rw[s0,bstep_f rfl,<- hF]
   simp only[binL,hc,hd,cond_false,hstep,bfin_eq];rw[show binN x f g={ x with x:=(f.length:Int)-1,y:=(L.length:Int)-1 } by rw[binN,<- hL],<- hL]
   have hne:(z0e { x with x:=((q0u f).length:Int)-1,y:=(F.length:Int)-1 } F.length != 0)=(z0e { x with x:=(f.length:Int)-1,y:=(L.length:Int)-1 } L.length != 0):=ne_of_iff (by
    rw[nodeErr_ok,nodeErr_ok];constructor
    ·intro h;exact h.re rfl rfl rfl rfl (fun _=>⟨by simp only;omega,by simp only;omega⟩) (fun u=>by rw[hx] at u;cases u) (fun _=>⟨by simp only;omega,by simp only;omega⟩) (fun u=>by rw[hy] at u;cases u)
    ·intro h;exact h.re rfl rfl rfl rfl (fun _=>⟨by simp only;omega,by simp only;omega⟩) (fun u=>by rw[hx] at u;cases u) (fun _=>⟨by simp only;omega,by simp only;omega⟩) (fun u=>by rw[hy] at u;cases u))
   rw[hne]
   cases hn:(z0e { x with x:=(f.length:Int)-1,y:=(L.length:Int)-1 } L.length != 0) with
   |true=>rfl
   |false =>
    have ok2:OkNd { x with x:=(f.length:Int)-1,y:=(L.length:Int)-1 } L.length:=nodeErr_ok.1 (by simpa using hn);have ok1:OkNd { x with x:=((q0u f).length:Int)-1,y:=(F.length:Int)-1 } F.length:=nodeErr_ok.1 (by rw[hn] at hne;simpa using hne);simp only[cond_false];rw[short_snoc (by omega)];have e1:=canon_snoc hFo ok1;have e2:=canon_snoc hLo ok2;obtain⟨t1,t2⟩:=bin_last (z0h f) (z0h g) c1 d1;obtain⟨u1,u2⟩:=bin_last (check_okl hc0) (check_okl hd0) l1 m1;rw[<- hF] at t1 t2;rw[<- hL] at u1 u2;rw[root_comp hc0] at t1;rw[root_comp hd0] at t2;simp only[hx,hy,cond_true] at e1 e2;rw[show (((q0u f).length:Int)-1).toNat=(q0u f).length-1 by omega,show ((F.length:Int)-1).toNat=F.length-1 by omega,t1,t2] at e1;rw[show ((f.length:Int)-1).toNat=f.length-1 by omega,show ((L.length:Int)-1).toNat=L.length-1 by omega,u1,u2] at e2;rw[e1,e2]
theorem ref_One (x:Nd):PureFn Tryz.prog 205 [x.pv] (fpv (oneL x)):=by
 refine PureFn.intro mixed (fn:=Tryz.f205) rfl rfl rfl fun M w0 => ?_
 (try conv=>whnf);repeat' (first|((first|apply And.intro|intro h)<;>try conv=>whnf)|(apply q0p;rfl)|(refine PureFn.dcq (f:=196) rfl ?_;try conv=>whnf)|(refine⟨_,_,ref_node ?_ ?_,?_,?_⟩;rotate_left 2;(focus refine⟨?_,?_,trivial⟩<;>first|exact PLe.refl _|exact PLe.nil);try conv=>whnf)|fail)
 ·rw[oneL,h];exact .nil
 ·rw[oneL,h];exact .refl _
def aF:List Nd:=[⟨3,1,0,0,0,0⟩,⟨3,0,0,0,0,0⟩,⟨3,1,0,0,0,0⟩,⟨5,0,0,0,0,1⟩,⟨9,0,0,0,3,0⟩,⟨6,0,0,0,4,2⟩]
def aC:List Nd:=[⟨3,1,0,0,0,0⟩,⟨3,0,0,0,0,0⟩,⟨5,0,0,0,0,1⟩,⟨9,0,0,0,2,0⟩,⟨6,0,0,0,3,0⟩]
def aB:List Nd:=q0d (n0 6) [q0d (nI 9 0) [q0d (n0 5) [q0d (nI 3 1) [],q0d (nI 3 0) []]],q0d (nI 3 1) []]
example:q0u aF=aC:=by kernel_rfl
example:aB=aC:=by kernel_rfl
theorem buildL_len (x:Nd) (l:List (List Nd)):(q0d x l).length<=200:=by
 unfold q0d
 split
 ·simp
 ·rename_i s _;unfold bfin
  cases h1:(z0e s.1 s.2.length != 0) with
  |true=>simp
  |false =>
   cases h2:decide (((canon (s.2++[s.1]) s.2.length).length:Int)>200) with
   |true=>simp
   |false=>simp only[cond_false];simp at h2;omega
def joinL (op:Int) (em:List Nd):List (List Nd)->List Nd
 | []=>em
 |f::r=>r.foldl (fun a g=>q0d (n0 op) [a,g]) (q0u f)
theorem fold_take {α β:Type} (h:β->α->β) (z:β) (r:List α) {i:Nat} (hi:i<r.length):(r.take (i+1)).foldl h z=h ((r.take i).foldl h z) r[i]:=by
 rw[List.take_succ_eq_append_getElem hi,List.foldl_append];rfl
theorem cells_fpv (l:List (List Nd)):y0a 1 (l.map fpv)=true:=by
 simp[y0a,fpv,PV.cells,PV.one]
theorem le_fp {a b:List Nd} (h:a=b):PLe (fpv a) (fpv b):=h▸.refl _
theorem fm_join (fid:Nat) (op:Int) (hcb:q0y Tryz.prog fid=true) (hw:∀ a b,PureFn Tryz.prog fid [fpv a,fpv b] (fpv (q0d (n0 op) [a,b]))) (l:List (List Nd)) (em:List Nd) (hl:l.length<=1000) (M:Nat->Prop) (w0:W0) :
  DC Tryz.prog M w0 233 [.pv (.sl (l.map fpv)),.pv (fpv em),.clo fid [] []] noHeap fun d L'=>frz d L' fun q _=>PLe q (fpv (joinL op em l)):=by
 refine DC.intro mixed (fn:=Tryz.f233) rfl rfl rfl ?_
 cases l with
 |nil =>
  (try conv=>whnf);repeat' (first|((first|apply And.intro|intro h)<;>try conv=>whnf)|(apply q0i;rfl))
  ·exact .refl _
  ·exact absurd h (by simp)
 |cons f r =>
  have h0:(f::r)[0]? = some f:=rfl;have hR:((((f::r).map fpv).drop 1).take (((f::r).map fpv).length-1))=r.map fpv:=by simp;exact List.take_of_length_le (by simp)
  simp only[List.length_cons] at hl
  (try conv=>whnf);repeat' (first|((first|apply And.intro|intro h)<;>try conv=>whnf)|(apply q0i;rfl)|(refine⟨_,_,rfl,q0a (by with_reducible assumption),rfl,?_⟩;try conv=>whnf)|(refine PureFn.dcq (f:=68) rfl ?_;try conv=>whnf)|(refine⟨_,_,fm_Compact ?_,?_,?_⟩;rotate_left 1;(focus refine⟨?_,trivial⟩<;>first|exact PLe.refl _|exact PLe.nil);try conv=>whnf)|fail)
  ·exact absurd h (by simp;omega)
  ·exact cells_fpv _
  ·refine⟨1,((f::r).map fpv).length,rfl,rfl,by simp,Nat.le_refl _,?_⟩
   try conv=>whnf
   refine⟨{ i:Nat // i<=r.length },fun i=>[(2,.clo fid [] []),(7,.pv (fpv ((r.take i.1).foldl (fun a g=>q0d (n0 op) [a,g]) (q0u f)))),(19,.pv (.sl (r.map fpv))),(20,.pv (.int .i64 (r.map fpv).length)),(21,.pv (.int .i64 (i.1:Nat)))],fun _=>0,fun _=>[],fun i=>r.length-i.1,⟨⟨0,Nat.zero_le _⟩,?_⟩,?_⟩
   ·(refine Wk.of ?_ ?_ rfl rfl rfl<;>repeat' (first|exact trivial|exact WkD.same _|refine WkD.int ?_|refine⟨?_,?_⟩|fail))
    ·exact WkD.eq (congrArg (fun z=>DV.pv (PV.sl z)) hR)
    all_goals exact congrArg (fun z:List PV=>(z.length:Int)) hR
   ·rintro⟨i,hi⟩
    (try conv=>whnf);repeat' (first|((first|apply And.intro|intro h)<;>try conv=>whnf)|(apply q0i;rfl))
    ·have hi':i<r.length:=by simp at h;omega
     have hn:r[i]? = some r[i]:=List.getElem?_eq_getElem hi';have hf:=fold_take (fun a g=>q0d (n0 op) [a,g]) (q0u f) r hi'
     (try conv=>whnf);repeat' (first|(refine⟨_,_,rfl,q0a (by with_reducible assumption),rfl,?_⟩;try conv=>whnf)|fail)
     refine PureFn.dcq hcb ?_
     conv=>whnf
     refine⟨_,_,hw _ _,⟨.refl _,.refl _,trivial⟩,?_⟩
     try conv=>whnf
     refine⟨⟨i+1,hi'⟩,by show r.length-(i+1)<r.length-i;omega,?_⟩
     (refine Wk.of ?_ ?_ rfl rfl rfl<;>repeat' (first|exact trivial|exact WkD.same _|refine WkD.int ?_|refine⟨?_,?_⟩|(apply q0h;(focus simp;done);all_goals (try dsimp only);omega)|fail))
     exact WkD.eq (congrArg (fun z=>DV.pv (fpv z)) hf.symm)
    ·have hi':i=r.length:=by simp at h;omega
     subst hi';exact le_fp (by rw[List.take_length];rfl)
theorem fm_All (l:List (List Nd)) (hl:l.length<=1000):PureFn Tryz.prog 219 [.sl (l.map fpv)] (fpv (joinL 5 (q0d (n0 1) []) l)):=by
 refine PureFn.intro mixed (fn:=Tryz.f219) rfl rfl rfl fun M w0 => ?_
 (try conv=>whnf);repeat' (first|(refine PureFn.dy fm_True rfl ?_;try conv=>whnf)|fail)
 refine DC.alone (p:=fpv (joinL 5 (q0d (n0 1) []) l)) rfl (fun M w0=>fm_join 32 5 rfl (fun a b=>fm_And a b) l _ hl M w0) ?_
 try conv=>whnf
 exact .refl _
theorem fm_Any (l:List (List Nd)) (hl:l.length<=1000):PureFn Tryz.prog 218 [.sl (l.map fpv)] (fpv (joinL 6 (q0d (n0 2) []) l)):=by
 refine PureFn.intro mixed (fn:=Tryz.f218) rfl rfl rfl fun M w0 => ?_
 (try conv=>whnf);repeat' (first|(refine PureFn.dy fm_False rfl ?_;try conv=>whnf)|fail)
 refine DC.alone (p:=fpv (joinL 6 (q0d (n0 2) []) l)) rfl (fun M w0=>fm_join 186 6 rfl (fun a b=>fm_Or a b) l _ hl M w0) ?_
 try conv=>whnf
 exact .refl _
theorem q0j {i m:Nat} (h:decide ((i:Int)<(m:Int))=true):i<m:=by simpa using h
theorem q0k {i m:Nat} (h:decide ((i:Int)<(m:Int))=false) (hi:i<=m):i=m:=by simp at h;omega
def u64 (n:Nat):PV:=.int .u64 (n:Int)
def i64 (n:Nat):PV:=.int .i64 (n:Int)
theorem wrapU {a:Int} (h0:0<=a) (h:a<18446744073709551616):IntKind.wrap .u64 a=a:=by
 have e:IntKind.wrap .u64 a=a % 18446744073709551616:=rfl;rw[e];exact Int.emod_eq_of_lt h0 h
theorem ofInt_nat (a:Nat):BitVec.ofInt 64 (a:Int)=BitVec.ofNat 64 a:=BitVec.ofInt_natCast 64 a
theorem ofNat_toNat {a:Nat} (h:a<2^64):(BitVec.ofNat 64 a).toNat=a:=by rw[BitVec.toNat_ofNat,Nat.mod_eq_of_lt h]
def andU (a b:Int):Int:=IntKind.wrap .u64 ((BitVec.ofInt (IntKind.bits .u64) a&&&BitVec.ofInt (IntKind.bits .u64) b).toNat:Int)
def orU (a b:Int):Int:=IntKind.wrap .u64 ((BitVec.ofInt (IntKind.bits .u64) a |||BitVec.ofInt (IntKind.bits .u64) b).toNat:Int)
def z0z (a b:Int):Int:=IntKind.wrap .u64 ((BitVec.ofInt (IntKind.bits .u64) a &&& ~~~BitVec.ofInt (IntKind.bits .u64) b).toNat:Int)
def shrU (a b:Int):Int:=a.fdiv (2^(min b.toNat (IntKind.bits .u64)))
def shlU (a b:Int):Int:=IntKind.wrap .u64 (a*2^(min b.toNat (IntKind.bits .u64)))
theorem andU_nat {a b:Nat} (ha:a<2^64) (hb:b<2^64):andU a b=((a&&&b:Nat):Int):=by
 have h:a&&&b<2^64:=Nat.lt_of_le_of_lt Nat.and_le_left ha;unfold andU
 show IntKind.wrap .u64 ((BitVec.ofInt 64 (a:Int)&&&BitVec.ofInt 64 (b:Int)).toNat:Int)=_
 rw[ofInt_nat,ofInt_nat,BitVec.toNat_and,ofNat_toNat ha,ofNat_toNat hb];exact wrapU (by omega) (by omega)
theorem orU_nat {a b:Nat} (ha:a<2^64) (hb:b<2^64):orU a b=((a |||b:Nat):Int):=by
 have h:a |||b<2^64:=Nat.or_lt_two_pow ha hb
 unfold orU
 show IntKind.wrap .u64 ((BitVec.ofInt 64 (a:Int) |||BitVec.ofInt 64 (b:Int)).toNat:Int)=_
 rw[ofInt_nat,ofInt_nat,BitVec.toNat_or,ofNat_toNat ha,ofNat_toNat hb];exact wrapU (by omega) (by omega)
theorem shrU_nat (a k:Nat) (hk:k<=64):shrU a k=((a >>> k:Nat):Int):=by
 unfold shrU;rw[show min ((k:Int)).toNat (IntKind.bits .u64)=k from Nat.min_eq_left hk,Nat.shiftRight_eq_div_pow];rw[show ((2:Int)^k)=((2^k:Nat):Int) by simp,Int.fdiv_eq_ediv_of_nonneg _ (Int.natCast_nonneg _)];rfl
theorem shlU_one {k:Nat} (hk:k<64):shlU 1 k=((2^k:Nat):Int):=by
 unfold shlU;rw[show min ((k:Int)).toNat (IntKind.bits .u64)=k from Nat.min_eq_left (by show k<=64;omega),Int.one_mul];have:2^k<2^64:=Nat.pow_lt_pow_right (by decide) hk;have e:((2:Int)^k)=((2^k:Nat):Int):=by simp
 rw[e];generalize 2^k=m at *;exact wrapU (by omega) (by omega)
theorem bit_and (s v:Nat) (hs:s<2^64) (hv:v<64):andU (shrU s v) 1=if s.testBit v then 1 else 0:=by
 rw[shrU_nat _ _ (by omega)];have h1:s >>> v<2^64:=Nat.lt_of_le_of_lt (Nat.shiftRight_le s v) hs;have:=andU_nat (a:=s >>> v) (b:=1) h1 (by decide);rw[show ((1:Nat):Int)=1 from rfl] at this;rw[this,Nat.and_one_is_mod,Nat.testBit,Nat.and_comm,Nat.and_one_is_mod];have:s >>> v % 2=0\/s >>> v % 2=1:=by omega
 rcases this with h|h<;>rw[h]<;>rfl
theorem bit_one {s v:Nat} (hs:s<2^64) (hv:v<64):(andU (shrU s v) 1==1)=s.testBit v:=by
 rw[bit_and s v hs hv];cases s.testBit v<;>rfl
theorem bit_zero {s v:Nat} (hs:s<2^64) (hv:v<64):(andU (shrU s v) 1==0)=!s.testBit v:=by
 rw[bit_and s v hs hv];cases s.testBit v<;>rfl
theorem tmod_two (a:Nat):((a:Int).tmod 2)=((a % 2:Nat):Int):=by
 rw[Int.tmod_eq_emod_of_nonneg (Int.natCast_nonneg _)];rfl
theorem testBit_mod (s v:Nat):s.testBit v=decide (s >>> v % 2=1):=by
 rw[Nat.testBit,Nat.and_comm,Nat.and_one_is_mod];have:s >>> v % 2=0\/s >>> v % 2=1:=by omega
 rcases this with h|h<;>rw[h]<;>rfl
theorem bit_rem {s v:Nat} (hv:v<=64):((shrU s v).tmod 2==1)=s.testBit v:=by
 rw[shrU_nat _ _ hv,tmod_two,testBit_mod,Bool.eq_iff_iff,beq_iff_eq,decide_eq_true_iff];omega
theorem bit64_rem {s v:Nat} (hv:v<=64):((shr64 s v).tmod 2)=if s.testBit v then 1 else 0:=by
 rw[shr64_nat _ _ hv,tmod_two,testBit_mod];have:s >>> v % 2=0\/s >>> v % 2=1:=by omega
 rcases this with h|h<;>rw[h]<;>rfl
def and64 (a b:Int):Int:=IntKind.wrap .i64 ((BitVec.ofInt (IntKind.bits .i64) a&&&BitVec.ofInt (IntKind.bits .i64) b).toNat:Int)
theorem and64_nat {a b:Nat} (ha:a<2^62) (hb:b<2^62):and64 a b=((a&&&b:Nat):Int):=by
 have h:a&&&b<2^62:=Nat.lt_of_le_of_lt Nat.and_le_left ha;unfold and64
 show IntKind.wrap .i64 ((BitVec.ofInt 64 (a:Int)&&&BitVec.ofInt 64 (b:Int)).toNat:Int)=_
 rw[ofInt_nat,ofInt_nat,BitVec.toNat_and,ofNat_toNat (by omega),ofNat_toNat (by omega)];exact wrap_small (by omega) (by omega)
theorem bit64_and {s v:Nat} (hs:s<2^62) (hv:v<=64):and64 (shr64 s v) 1=if s.testBit v then 1 else 0:=by
 rw[shr64_nat _ _ hv];have h1:s >>> v<2^62:=Nat.lt_of_le_of_lt (Nat.shiftRight_le s v) hs;have:=and64_nat (a:=s >>> v) (b:=1) h1 (by decide);rw[show ((1:Nat):Int)=1 from rfl] at this;rw[this,Nat.and_one_is_mod,testBit_mod];have:s >>> v % 2=0\/s >>> v % 2=1:=by omega
 rcases this with h|h<;>rw[h]<;>rfl
def z0g (q:Nat->Bool):Nat->Nat
 |0=>0
 |m+1=>bif q m then z0g q m |||2^m else z0g q m
theorem y0f (q:Nat->Bool) (j:Nat):∀ m,(z0g q m).testBit j=(decide (j<m) && q j)
 |0=>by simp[z0g]
 |m+1=>by
  rw[z0g]
  cases hq:q m with
  |false =>
   simp only[cond_false];rw[y0f q j m]
   by_cases h:j<m
   ·simp[h,Nat.lt_succ_of_lt h]
   ·by_cases e:j=m
    ·subst e;simp[hq]
    ·have:¬ j<m+1:=by omega
     simp[h,this]
  |true =>
   simp only[cond_true];rw[Nat.testBit_or,y0f q j m,Nat.testBit_two_pow]
   by_cases h:j<m
   ·have:¬ m=j:=by omega
    simp[h,Nat.lt_succ_of_lt h,this]
   ·by_cases e:j=m
    ·subst e;simp[hq]
    ·have:¬ j<m+1:=by omega
     have h2:¬ m=j:=by omega
     simp[h,this,h2]
theorem maskOf_lt (q:Nat->Bool) (m:Nat):z0g q m<2^m:=by
 apply Nat.lt_pow_two_of_testBit;intro i hi;rw[y0f];simp[Nat.not_lt.2 hi]
theorem maskOf_congr {q r:Nat->Bool}:∀ {m:Nat},(∀ j,j<m->q j=r j)->z0g q m=z0g r m
 |0,_=>rfl
 |m+1,h=>by rw[z0g,z0g,h m (by omega),maskOf_congr fun j hj=>h j (by omega)]
end Go.Proofs.YtejbieopeicgkaaGreatDoor
