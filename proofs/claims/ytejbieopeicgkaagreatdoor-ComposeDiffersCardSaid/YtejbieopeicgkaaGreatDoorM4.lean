/- Parts of the proof, one after the other: The layer Dv, part 15: the condition is sound; contracts of functions. The layer Dv, part 18: functions that only compute. The layer Dv, part 19: a call sees only a part of the heap; what a result may be taken for. The layer Dv, part 20: what a state may be taken for, at a call. Formulas: nodes. Formulas: checks. Formulas: the canonical list (plain). Formulas: what the walk keeps. Formulas: the closure 'finish' of compact. Formulas: compact, Sub, Compact, Size. -/
import Derived.Scope
import Derived.IntWalk
import Derived.Test.YtejbieopeicgkaaGreatDoorProg
import Derived.Test.YtejbieopeicgkaaGreatDoorM3
namespace Go.Dv
open Go.RowKit (Below)
section
variable {P:Program} {M:Nat->Prop} {w0:W0} {N:NB} {F:Fx}
theorem least {p:Nat->Prop} (h:∃ n,p n):∃ n,p n/\∀ m,p m->n<=m:=by
 obtain⟨n,hn⟩:=h
 induction n using Nat.strongRecOn with
 |_ n ih =>
  by_cases hm:∃ m,m<n/\p m
  ·obtain⟨m,h1,h2⟩:=hm;exact ih m h1 h2
  ·exact⟨n,hn,fun m hp=>Nat.le_of_not_lt fun hlt=>hm ⟨m,hlt,hp⟩⟩
theorem loop_sound {c:Code} {Q:Exit->Act->World->Prop} {r:Option Nat} (R:Nat->Act->World->Prop) (round:∀ n a w,R n a w->c.wpIn (fR r) 0 P (Exit.then (fun a' w'=>∃ m,m<n/\R m a' w') Q) a w) {a:Act} {w:World} (h:∃ n,R n a w) :
  (Code.loop c).wpIn (fR r) 0 P Q a w:=by
 refine wpIn_loop (fun a w=>∃ n,R n a w) (fun a w=>open Classical in if hh:∃ n,R n a w then Classical.choose (least hh) else 0) h ?_;intro a w hI;have hl:=Classical.choose_spec (least hI);refine wpIn_mono (round (Classical.choose (least hI)) a w hl.1) ?_;intro x a' w' hx
 cases x with
 |normal =>
  obtain⟨m,hm,hR⟩:=hx;refine⟨⟨m,hR⟩,?_⟩;have hex:∃ n,R n a' w':=⟨m,hR⟩;simp only[dif_pos hI,dif_pos hex];have:=(Classical.choose_spec (least hex)).2 m hR;omega
 |_=>exact hx
theorem wpIn_scope_straight {G:Fence} {n:Nat} {c:Code} {Q:Exit->Act->World->Prop} {a:Act} {w:World} (h:c.wpIn G n P (Exit.noGoto Q) a w):(Code.scope c).wpIn G n P Q a w:=by
 intro b k cs hro hb hr;have h0:(lone (b.atR a (.code (.scope c)::k)) cs w).fenced P G:=fenced_calm hb hr rfl;have s0:step P (lone (b.atR a (.code (.scope c)::k)) cs w)=.next (lone (b.atR a (.code c::.inScope c::k)) cs w):=step_lone_go (by simp[stepG,stepG.exec,Frame.atR]);obtain⟨e,a₁,w₁,hq,harr⟩:=h b (.inScope c::k) cs hro hb hr;have s1:step P (lone (b.atR a₁ (.inScope c::k)) cs w₁)=.next (lone (b.atR a₁ k) cs w₁):=step_lone_go (by simp[stepG,stepG.exec,Frame.atR])
 cases e with
 |normal=>exact⟨.normal,a₁,w₁,hq,.head h0 s0 (StepsIn.trans harr (.one (fenced_calm hb hr rfl) s1))⟩
 |exit id =>
  have hx:exitTo id (.inScope c::k)=exitTo id k:=by simp[exitTo]
  exact⟨.exit id,a₁,w₁,hq,fun k' hk=>.head h0 s0 (harr.1 k' (by rw[hx];exact hk)),
   fun hr' hk=>let ⟨k₁,h1,h2⟩:=harr.2 hr' (by rw[hx];exact hk);⟨k₁,h1,.head h0 s0 h2⟩⟩
 |goto l=>exact hq.elim
 |ret=>exact⟨_,a₁,w₁,hq,.of_steps (.one h0 s0) harr⟩
 |panic ch=>exact⟨_,a₁,w₁,hq,.of_steps (.one h0 s0) harr⟩
 |outgrown=>exact⟨_,a₁,w₁,hq,.of_steps (.one h0 s0) harr⟩
section put
variable {w:World} {l:Nat} {o o':Obj}
theorem put_cell (hl:w.heap[l]? = some o) (hc:∀ vs ty fz,o≠.cells vs ty fz) {a:Addr} {v:Value} (h:w.cell? a=some v):(w.putObj l o').cell? a=some v:=by
 have hne:a.block≠l:=by
  intro e;unfold World.cell? at h;rw[e,hl] at h
  cases o with
  |cells vs ty fz=>exact absurd rfl (hc vs ty fz)
  |_=>cases h
 rw[World.cell?_of_block (World.putObj_heap_other hne)];exact h
theorem RelP.put {T:Nat->Prop} (hl:w.heap[l]? = some o) (hc:∀ vs ty fz,o≠.cells vs ty fz) {p:PV} {v:Value} (h:RelP T w p v):RelP T (w.putObj l o') p v:=by
 induction h with
 |int k n=>exact .int k n
 |bool b=>exact .bool b
 |str s=>exact .str s
 |nil=>exact .nil
 |e0 a c=>exact .e0 a c
 |sl b off sz cap l val h1 h2 h3 h4 h5 _ ih=>exact .sl b off sz cap l val h1 (by rw[World.putObj_size];exact h2) h3 h4 (fun i p j q hi hj=>put_cell hl hc (h5 i p j q hi hj)) ih
 |agg l vs h1 _ ih=>exact .agg l vs h1 ih
 |tup l vs h1 _ ih=>exact .tup l vs h1 ih
theorem RelV.put {T:Nat->Prop} {μ:Nat->Loc} {L:DH} (hl:w.heap[l]? = some o) (hc:∀ vs ty fz,o≠.cells vs ty fz) {d:DV} {v:Value} (h:RelV T w μ L d v):RelV T (w.putObj l o') μ L d v:=by
 induction h with
 |pv p v h=>exact .pv p v (h.put hl hc)
 |e0 a=>exact .e0 a
 |agg l vs h1 _ ih=>exact .agg l vs h1 ih
 |tup l vs h1 _ ih=>exact .tup l vs h1 ih
 |ref k c v h1 h2=>exact .ref k c v h1 h2
 |aref k n i c v h1 h2 h3=>exact .aref k n i c v h1 h2 h3
 |eptr p c b off val h1 h2 h3 h4=>exact .eptr p c b off val h1 (by rw[World.putObj_size];exact h2) (fun j q hj=>put_cell hl hc (h3 j q hj)) (fun j q hj=>(h4 j q hj).put hl hc)
 |buf k n v h1 h2 h3=>exact .buf k n v h1 h2 h3
 |mp k v h1 h2=>exact .mp k v h1 h2
 |vbuf k n v h1 h2=>exact .vbuf k n v h1 h2
 |clo f first caps fs cs h1 h2 _ _ ih1 ih2=>exact .clo f first caps fs cs h1 h2 ih1 ih2
 |when c d v _ h2 ih=>exact .when c d v ih h2
 |fnv v=>exact .fnv v
 |raw v=>exact .raw v
 |any v=>exact .any v
theorem HR.put {μ:Nat->Loc} {L:DH} (h:HR M w0 μ L w) (hl:w.heap[l]? = some o) (hc:∀ vs ty fz,o≠.cells vs ty fz) (hmp:∀ es c,o≠.map es c) (hb:w0.w.heap.size<=l):HR M w0 μ L (w.putObj l o'):=by
 have hne:∀ k x,L.get k=some x->y0c (μ k) x->(μ k).blk≠l:=fun k x hk hlv e=>by
  obtain⟨y,hy,hy2⟩:=live_obj h hk hlv;rw[e,hl] at hy;obtain rfl:=Option.some.inj hy
  rcases hy2 with⟨vs,ty,rfl⟩|⟨es,c,rfl⟩
  ·exact hc _ _ _ rfl
  ·exact hmp _ _ rfl
 refine⟨⟨h.ext.os,h.ext.tape,h.ext.output,by rw[World.putObj_size];exact h.ext.size,fun k hk=>(World.putObj_heap_other (by omega)).trans (h.ext.block k hk)⟩,fun b hb=>by rw[World.putObj_size];exact h.mlt b hb,h.keys,
  fun k x hk hlv=>by rw[World.putObj_size];exact h.live k x hk hlv,h.inj,fun k x hk => ?_,h.base,h.lob,h.glb⟩
 have hob:=h.obj k x hk
 cases x with
 |var cs =>
  obtain⟨vs,ty,h1,h2,h3⟩:=hob;exact⟨vs,ty,(World.putObj_heap_other (hne k _ hk trivial)).trans h1,h2,fun i d v hi hv=>(h3 i d v hi hv).put hl hc⟩
 |arr sz es =>
  rcases hob with h1|⟨vs,ty,h0,h1,h2,h3,h4,h5⟩
  ·exact .inl h1
  ·exact .inr ⟨vs,ty,h0,(World.putObj_heap_other (hne k _ hk h0)).trans h1,h2,h3,h4,fun i p j q hi hj=>let ⟨v,hv,hr⟩:=h5 i p j q hi hj;⟨v,hv,hr.put hl hc⟩⟩
 |fz l =>
  rcases hob with h1|⟨h1,h2,h3⟩
  ·exact .inl h1
  ·exact .inr ⟨h1,h2,h3.put hl hc⟩
 |gone=>trivial
 |mp es =>
  obtain⟨ents,clock,h1,h2,h3⟩:=hob;exact⟨ents,clock,(World.putObj_heap_other (hne k _ hk trivial)).trans h1,h2,fun i kv e hi he=>⟨(h3 i kv e hi he).1.put hl hc,(h3 i kv e hi he).2.put hl hc⟩⟩
theorem Sim.put {μ:Nat->Loc} {e:Env} {L:DH} {a:Act} (h:Sim F M w0 N μ e L a w) (hl:w.heap[l]? = some o) (hc:∀ vs ty fz,o≠.cells vs ty fz) (hmp:∀ es c,o≠.map es c) (hd:∀ ds,o≠.deferred ds) (hb:w0.w.heap.size<=l):Sim F M w0 N μ e L a (w.putObj l o') :=
 ⟨h.hr.put hl hc hmp hb,fun t=>(h.env t).put hl hc,h.und,h.defers.keep fun D hD=>(World.putObj_heap_other (fun e=>by rw[e,hl] at hD;exact hd _ (Option.some.inj hD))).trans hD,h.size,h.fix⟩
theorem Stp.put {μ0 μ:Nat->Loc} {L0 L:DH} {ws:World} (h:Stp L0 μ0 ws L μ w) (hb:ws.heap.size<=l):Stp L0 μ0 ws L μ (w.putObj l o') :=
 ⟨h.evo,h.os,h.tape,h.output,by rw[World.putObj_size];exact h.size,fun b hbs hw=>(World.putObj_heap_other (by omega)).trans (h.same b hbs hw),fun k o hk hlv=>h.blk k o hk hlv,h.next,h.lo,h.base⟩
theorem Stp.put2 {μ0 μ:Nat->Loc} {L0 L:DH} {ws:World} {x:Obj} (h:Stp L0 μ0 ws L μ w) (h1:l<ws.heap.size):Stp L0 μ0 (ws.putObj l x) L μ (w.putObj l x):=by
 have h2:l<w.heap.size:=Nat.lt_of_lt_of_le h1 h.size;refine⟨h.evo,h.os,h.tape,h.output,by rw[World.putObj_size,World.putObj_size];exact h.size,fun b hbs hw => ?_,fun k o hk hlv=>by rw[World.putObj_size];exact h.blk k o hk hlv,h.next,h.lo,h.base⟩;rw[World.putObj_size] at hbs
 by_cases e:b=l
 ·subst e;rw[World.putObj_heap_same h1,World.putObj_heap_same h2]
 ·rw[World.putObj_heap_other e,World.putObj_heap_other e];exact h.same b hbs hw
end put
theorem Stp.reb {μ μ':Nat->Loc} {L L':DH} {w w':World} (h:Stp L μ w L' μ' w') (b:Nat):Stp { L with base:=b } μ w { L' with base:=b } μ' w' :=
 ⟨⟨h.evo.var,h.evo.mp,h.evo.arr,h.evo.fz⟩,h.os,h.tape,h.output,h.size,h.same,h.blk,h.next,h.lo,rfl⟩
theorem HR.reb {μ:Nat->Loc} {L:DH} {w:World} (h:HR M w0 μ L w) (b:Nat) (hb:b<=L.next):HR M w0 μ { L with base:=b } w :=
 ⟨h.ext,h.mlt,h.keys,h.live,h.inj,fun k o hk=>by
   have:=h.obj k o hk
   cases o with
   |var cs =>
    obtain⟨vs,ty,q1,q2,q3⟩:=this;exact⟨vs,ty,q1,q2,fun i d v hi hv=>(q3 i d v hi hv).base b⟩
   |arr=>exact this
   |fz=>exact this
   |gone=>trivial
   |mp=>exact this,hb,h.lob,h.glb⟩
theorem Sim.reb {μ:Nat->Loc} {e:Env} {L:DH} {a:Act} {w:World} (h:Sim F M w0 N μ e L a w) (b:Nat) (hb:b<=L.next):Sim F M w0 N μ e { L with base:=b } a w :=
 ⟨h.hr.reb b hb,fun t=>(h.env t).base b,h.und,h.defers,h.size,h.fix⟩
theorem Sim.move {μ μ':Nat->Loc} {e:Env} {L L':DH} {a:Act} {w w':World} (h:Sim F M w0 N μ e L a w) (hs:Stp L μ w L' μ' w') (hr:HR M w0 μ' L' w'):Sim F M w0 N μ' e L' a w' :=
 ⟨hr,fun t=>(h.env t).stp hs (h.und t),fun t=>DV.under_mono hs.next _ (h.und t),h.defers.stp h.hr hs,h.size,h.fix⟩
theorem updμ_self (μ:Nat->Loc) (k:Nat):updμ μ k (μ k)=μ:=by
 funext j
 unfold updμ
 split
 ·rename_i e;rw[e]
 ·rfl
theorem HR.recell {μ:Nat->Loc} {L L':DH} {w w':World} {k:Nat} {d:DV} {v:Value} (h:HR M w0 μ L w) (hk:L.get k=some (.var [d])) (hk':L'.get k=some (.var [.raw v])) (hoth:∀ j,j≠k->L'.get j=L.get j)
  (hn:L'.next=L.next) (hlo:L'.lo=L.lo) (hbs:L'.base=L.base) (hkl:L.lo<=k) (hos:w'.os=w.os) (ht:w'.tape=w.tape) (ho:w'.output=w.output) (hsz:w'.heap.size=w.heap.size)
  (hsame:∀ b,b≠(μ k).blk->w'.heap[b]? = w.heap[b]?) (hcl:Cl w' (μ k).blk v):Stp L μ w L' μ w'/\HR M w0 μ L' w':=by
 have hkn:=(h.keys k _ hk).1
 have:=h.upd (L':=L') (w':=w') k (.var [.raw v]) (μ k) hk' hoth (by omega) hlo hbs (by omega) rfl hos ht ho (by omega) (fun b _ hW=>hsame b fun e=>hW ⟨k,_,hkl,hk,trivial,e.symm⟩)
  (fun j o hj hj2 hl2=>hsame _ fun e=>hj (h.inj j o k _ hj2 hl2 hk trivial e)) (fun _=>.inl ⟨hkn,⟨_,hk,trivial⟩,rfl⟩) (fun _=>⟨fun cs' e=>⟨[d],hk,rfl⟩,fun _ e=>(by cases e),fun _ _ e=>(by cases e),fun _ e=>by cases e⟩)
  (fun _=>by
   obtain⟨ty,h1⟩:=hcl;refine⟨#[v],ty,by rw[updμ_self];exact h1,rfl,fun i d' u hi hu => ?_⟩
   cases i with
   |zero =>
    simp only[List.getElem?_cons_zero,Option.some.injEq] at hi;have hu:v=u:=by simpa using hu
    subst hi;subst hu;exact .raw v
   |succ i=>simp at hi)
 rwa [updμ_self] at this
theorem Cl.inj {w:World} {b:Nat} {u v:Value} (h1:Cl w b u) (h2:Cl w b v):u=v:=by
 obtain⟨t1,e1⟩:=h1;obtain⟨t2,e2⟩:=h2;rw[e1] at e2;simpa using (Obj.cells.inj (Option.some.inj e2)).1
theorem Cl.set {w:World} {b:Nat} {u v:Value} (h:Cl w b u):Cl (w.setCell ⟨b,0,none⟩ v) b v:=by
 obtain⟨ty,e⟩:=h;refine⟨ty,?_⟩;obtain⟨hlt,he⟩:=Array.getElem?_eq_some_iff.1 e
 show (w.heap.modify b _)[b]? = _
 rw[Array.getElem?_eq_getElem (by rw[Array.size_modify];exact hlt),Array.getElem_modify_self,he];rfl
theorem cl_val {μ:Nat->Loc} {L:DH} {w:World} {k:Nat} {d:DV} {v:Value} (h:HR M w0 μ L w) (hk:L.get k=some (.var [d])) (hd:∀ u,RelV (Tot M μ L) w μ L d u->u=v):Cl w (μ k).blk v:=by
 obtain⟨vs,ty,h1,h2,h3⟩:=h.obj k _ hk;have h2:vs.size=1:=h2;have hv:vs[0]? = some vs[0]:=Array.getElem?_eq_getElem (by omega);have:=hd _ (h3 0 d vs[0] rfl hv);subst this;refine⟨ty,?_⟩;rw[h1]
 congr 2
 apply Array.ext
 ·simpa using h2
 ·intro i h3 h4;have:i=0:=by simp at h4;omega
  subst this;rfl
theorem cl_of {μ:Nat->Loc} {L:DH} {w:World} {k:Nat} {v:Value} (h:HR M w0 μ L w) (hk:L.get k=some (.var [.raw v])):Cl w (μ k).blk v :=
 cl_val h hk fun u hu=>by cases hu;rfl
theorem Wk.reb {e:Env} {L:DH} {E:List (Nat×DV)} {nx:Nat} {H:List (Nat×DObj)} (h:Wk e L E nx H) (b:Nat) (hb:b<=nx):Wk e { L with base:=b } E nx H:=by
 refine⟨fun q hq => ?_,fun q hq => ?_,h.under,h.undero,h.lo,hb,h.new⟩
 ·have h1:=h.env q hq;generalize q.2=d at h1 |-;generalize e q.1=d' at h1 |-
  cases h1 with
  |same=>exact .same _
  |any=>exact .any _
  |new _ k sz q1 q2 q3=>exact .new _ k sz q1 q2 q3
  |fz k n es q1 q2 q3=>exact .fz k n es q1 q2 q3
  |nil _ q1=>exact .nil _ q1
 ·have h1:=h.obj q hq;generalize q.2=d at h1
  cases h1 with
  |same _ q1=>exact .same _ _ q1
  |new sz q1=>exact .new _ sz q1
  |var cs cs' q1 q2 q3 =>
   refine .var _ cs cs' q1 q2 fun j d d' hd hd' => ?_
   cases q3 j d d' hd hd' with
   |same=>exact .same _
   |any=>exact .any _
   |new _ k sz q1 q2 q3=>exact .new _ k sz q1 q2 q3
   |fz k n es q1 q2 q3=>exact .fz k n es q1 q2 q3
   |nil _ q1=>exact .nil _ q1
  |fz sz es q1 q2=>exact .fz _ sz es q1 q2
theorem call_run {f:FuncId} (hcb:q0y P f=true) (args:Array Value) (w:World):(callFunc f args).run P w=.ok (.enter f args) w:=by
 unfold q0y at hcb
 cases hfn:P.funcs[f]? with
 |none=>simp[hfn] at hcb
 |some fn =>
  simp only[hfn,Bool.and_eq_true] at hcb;have h1:(fn.name == "runtime.NumGoroutine")=false:=by simpa using hcb.1
  have h2:fn.body.isNone=false:=by cases hb:fn.body<;>simp[hb] at hcb |-
  simp only[callFunc,Sem.run_bind,run_program,Result.andThen_ok,hfn,h1,h2,Bool.false_eq_true,if_false,Sem.run_pure]
def SndC (P:Program) (M:Nat->Prop) (w0:W0) (N:NB) (C:List Nat) (r:Option Nat) (c:Code):Prop :=
 ∀ (F:Fx) (lo base:Nat) (L0:DH) (μ0:Nat->Loc) (ws:World),L0.next<=base->(memB C rangeId=true->noRange c=true\/(r=none/\F.bd=some ws.heap.size/\∀ v L,¬ w0.X v L)) ->
  ∀ (Q:Exit->Env->DH->Prop) (e:Env) (L:DH) (μ:Nat->Loc) (a:Act) (w:World),vc P M w0 N C lo base c Q e L->Sim F M w0 N μ e L a w->Stp L0 μ0 ws L μ w->L.lo=lo->L.base=base ->
   c.wpIn (fR r) 0 P (Lift F M w0 N lo base μ0 L0 ws Q) a w
theorem objs_head (k:Nat) (o:DObj) (H:List (Nat×DObj)):objsOf ((k,o)::H) k=some o:=by simp[objsOf]
theorem objs_tail {k j:Nat} (o:DObj) (H:List (Nat×DObj)) (h:j≠k):objsOf ((k,o)::H) j=objsOf H j:=by
 have:Nat.beq j k=false:=by
  cases hb:Nat.beq j k with
  |false=>rfl
  |true=>exact absurd (Nat.eq_of_beq_eq_true hb) h
 simp[objsOf,this]
theorem range_sound {C:List Nat} {g:Operand} {ps:Array Tmp} {assign body:Code} (ihA:∀ l,SndC P M w0 N C (some l) assign) (ihB:∀ l,SndC P M w0 N C (some l) body) {lo base:Nat} {L0:DH} {μ0:Nat->Loc} {ws:World}
  (hb0:L0.next<=base) (hF:F.bd=some ws.heap.size) (hX:∀ v L,¬ w0.X v L) {Q:Exit->Env->DH->Prop} {e:Env} {L:DH} {μ:Nat->Loc} {a:Act} {w:World} (hv:vc P M w0 N C lo base (.rangeFunc g ps assign body) Q e L)
  (h:Sim F M w0 N μ e L a w) (hs:Stp L0 μ0 ws L μ w) (h1:L.lo=lo) (h2:L.base=base):(Code.rangeFunc g ps assign body).wpIn (fR none) 0 P (Lift F M w0 N lo base μ0 L0 ws Q) a w:=by
 simp only[vc] at hv
 split at hv
 case h_2=>exact hv.elim
 rename_i f k p hC hg hps;obtain⟨s,its,E,nx,H,I,hit,hcond,hwk,hI0,hround,hend⟩:=hv;simp only[Bool.and_eq_true] at hcond;obtain⟨⟨⟨⟨hnA,hnB⟩,hpN⟩,hNb⟩,hlok⟩:=hcond;have hpN:p<N.n:=by simpa [Nat.blt_eq] using hpN
 have hNb:N.b=0:=Nat.eq_of_beq_eq_true hNb;have hlok:lo<=k:=by simpa using hlok
 have hpsz:ps = #[p]:=by rw[<- hps]
 subst hpsz;subst h1;subst h2;obtain⟨hcb,hit⟩:=hit;have hgv:=h.rho.rel g;rw[hg] at hgv;generalize hga:a.eval g=gv at hgv
 cases hgv with
 |clo _ _ _ fs cs e1 e2 _ r2 =>
 match fs,e1 with
 | [],_=>match cs,e2 with
  | [cv],_ =>
  have hcv:=r2 0 (.ref k 0) cv rfl rfl
  have hkl:∃ cs0,L.get k=some (.var cs0):=by
   rcases hwk.old (objs_head k (.var [.pv (.int .u64 s)]) (H 0)) with⟨o,h1,rfl|⟨c1,c2,rfl,_⟩|⟨_,_,_,q,_⟩⟩|⟨_,_,_,q⟩
   ·exact⟨_,h1⟩
   ·exact⟨_,h1⟩
   ·cases q
   ·cases q
  obtain⟨cs0,hk0⟩:=hkl
  obtain rfl:cv=.pointer (some ⟨(μ k).blk,0,none⟩):=by
   cases hcv with
   |ref _ _ _ _ q=>exact q cs0 hk0
  have hS1:=hwk.sim h;have hT1:=hwk.stp h.hr hs (Nat.le_trans hb0 hwk.base);have hμ1:(newμ L μ k).blk=(μ k).blk:=by rw[q0s hk0]
  generalize newμ L μ=μ1 at hS1 hT1 hμ1;generalize hblk:(μ k).blk=blk at hμ1 hga
  have hc1:Cl w (μ1 k).blk (.int .u64 s):=cl_val hS1.hr (objs_head k _ _) fun u hu=>by
   cases hu with
   |pv _ _ hu=>cases hu;rfl
  obtain⟨hst1,hr1⟩:=hS1.hr.recell (L':=⟨nx,L.lo,L.base,objsOf ((k,.var [.raw (.int .u64 s)])::H 0)⟩) (w':=w) (objs_head k _ _) (objs_head k _ _) (fun j hj=>(objs_tail _ _ hj).trans (objs_tail _ _ hj).symm) rfl rfl rfl hlok rfl rfl rfl rfl (fun _ _=>rfl) hc1;have hS2:=hS1.move hst1 hr1;have hT2:=hT1.trans hst1;refine wpIn_rangeFunc ?_;intro fn hfn;obtain⟨rec,hrec⟩:∃ rec:LoopState->Option Code->Loop,rec=fun st pe=>{ state:=st,pending:=pe,fn,tmps:=a.tmps,params := #[p],assign,body,defers:=w.heap.size }:=⟨_,rfl⟩
  obtain⟨W1,hW1⟩:∃ W1,(w.alloc (.deferred (some []))).alloc (.loop (rec .ready none))=W1:=⟨_,rfl⟩
  have hL1:W1.heap[w.heap.size+1]? = some (.loop (rec .ready none)):=by
   rw[<- hW1];have:=World.alloc_heap_new (w.alloc (.deferred (some []))) (.loop (rec .ready none));rwa [World.size_alloc] at this
  have hK1:W1.heap[w.heap.size]? = some (.deferred (some [])):=by
   rw[<- hW1];exact (Below.heap_alloc _ _ _ (by simp)).trans (World.alloc_heap_new w _)
  have hbW:Below w.heap.size w W1:=by
   rw[<- hW1];exact ((Below.refl _ w).alloc (Nat.le_refl _) _).alloc (by simp) _
  obtain⟨hst3,hr3⟩:=hS2.hr.more hbW;have hS3:=hS2.move hst3 hr3;have hT3:=hT2.trans hst3;have hwsw:ws.heap.size<=w.heap.size:=hs.size;have hw0w:w0.w.heap.size<=w.heap.size:=h.hr.ext.size;obtain⟨a',ha'⟩:∃ a':Act,a'={ a with defers:=[mkD w.heap.size]++a.defers }:=⟨_,rfl⟩;have hta:a'.tmps=a.tmps:=by rw[ha']
  have hS4:Sim F M w0 N μ1 (envOf E) ⟨nx,L.lo,L.base,objsOf ((k,.var [.raw (.int .u64 s)])::H 0)⟩ a' W1:=by
   rw[ha'];refine⟨hS3.hr,hS3.env,hS3.und,?_,hS3.size,hS3.fix⟩;have hm:=hS2.defers;have hm3:=hS3.defers;unfold Mks at hm hm3 |-;rw[hF] at hm hm3 |-;obtain⟨ms,q1,q2,q3⟩:=hm;refine⟨w.heap.size::ms,by rw[q1];rfl,List.nodup_cons.2 ⟨fun hD => ?_,q2⟩,fun D hD => ?_⟩
   ·have:=(Array.getElem?_eq_some_iff.1 (q3 _ hD).1).1;omega
   ·rcases List.mem_cons.1 hD with rfl|hD
    ·exact⟨hK1,hwsw⟩
    ·have hlt:=(Array.getElem?_eq_some_iff.1 (q3 _ hD).1).1;exact⟨(hbW.block _ hlt).trans (q3 _ hD).1,(q3 _ hD).2⟩
  have hbd:Below w.heap.size w W1:=hbW
  refine⟨w.heap.size+1,[mkD w.heap.size],W1,{ target:=.fn (.func f) #[.pointer (some ⟨blk,0,none⟩)],args := #[.func (.yield (w.heap.size+1)) #[] #[]] },W1,f,
   #[.func (.yield (w.heap.size+1)) #[] #[]] ++ #[.pointer (some ⟨blk,0,none⟩)],W1,?_,?_,fun _ _=>trivial,?_,fun hh=>(by cases hh),?_⟩
  ·rw[<- hW1,hrec];exact run_enterLoop_outer _ _ _ _ _
  ·simp only[resolve,hga];simp[go_sem]
  ·simp[invoke,go_sem,call_run hcb]
  rw[<- ha']
  refine (callsIn_wide (n:=0)).2 ((hit (w.heap.size+1) blk
   (fun i W=>∃ μi v,Sim F M w0 N μi (envOf E) ⟨nx,L.lo,L.base,objsOf ((k,.var [.raw v])::H i)⟩ a' W/\Stp L0 μ0 ws ⟨nx,L.lo,L.base,objsOf ((k,.var [.raw v])::H i)⟩ μi W/\(μi k).blk=blk/\W.heap[w.heap.size+1]? = some (.loop (rec .ready none))/\I i)
   (fun W=>∃ c μ' L',Sim F M w0 N μ' (envOf E) L' a' W/\Stp L0 μ0 ws L' μ' W/\L'.lo=L.lo/\L'.base=L.base/\W.heap[w.heap.size+1]? = some (.loop (rec .done (some c)))/\((c=.ret/\Q .ret (envOf E) L')\/∃ id,c=.exit id/\Q (.exit id) (envOf E) L'))
   W1 ?_ ?_ ?_ ⟨μ1,_,hS4,hT3,hμ1,hL1,hI0⟩ (by
    obtain⟨ty,hcl⟩:=hc1;rw[hμ1] at hcl
    exact⟨ty,(hbW.block _ (Array.getElem?_eq_some_iff.1 hcl).1).trans hcl⟩)).mono ?_)
  ·rintro i W ⟨μi,v,hJ,_⟩;exact hJ.hr.glb.ext hJ.hr.ext
  ·rintro i W v v' ⟨μi,u,hJ,hT,hb,hl,hIi⟩ hc
   obtain⟨hst,hr⟩:=hJ.hr.recell (L':=⟨nx,L.lo,L.base,objsOf ((k,.var [.raw v'])::H i)⟩) (w':=W.setCell ⟨blk,0,none⟩ v') (objs_head k _ _) (objs_head k _ _) (fun j hj=>(objs_tail _ _ hj).trans (objs_tail _ _ hj).symm) rfl rfl rfl hlok rfl rfl rfl (by simp[World.setCell])
    (fun b hbb=>Below.heap_setCell _ _ _ _ (by rw[hb] at hbb;exact hbb)) (by rw[hb];exact hc.set)
   refine⟨μi,v',hJ.move hst hr,hT.trans hst,hb,?_,hIi⟩;rw[Below.heap_setCell]
   ·exact hl
   ·rintro rfl;obtain⟨ty,hc⟩:=hc;rw[hl] at hc
    cases hc
  ·rintro i x W v hx ⟨μi,u,hJ,hT,hb,hl,hIi⟩ hc
   obtain rfl:u=v:=by
    have:=cl_of hJ.hr (objs_head k (.var [.raw u]) (H i));rw[hb] at this;exact this.inj hc
   have hlt:w.heap.size+1<W.heap.size:=(Array.getElem?_eq_some_iff.1 hl).1;have hy:=run_yield (P:=P) (args := #[.int .i64 x]) hl (by rw[hrec];rfl);rw[hrec] at hy;refine⟨fn,_,assign,body,hy,roundIn_of_wpIn trivial ?_⟩;obtain⟨ar,har⟩:∃ ar:Act,ar={ tmps:=a.tmps.setIfInBounds p (.int .i64 x),defers:=[] }:=⟨_,rfl⟩;have hJr:=hJ.reb nx (Nat.le_refl nx);have hsz:=hJ.size;rw[hta] at hsz
   have hSr:Sim ⟨[],fun _=>undef,none⟩ M w0 N μi (envOf ((p,.pv (.int .i64 x))::E)) ⟨nx,L.lo,nx,objsOf ((k,.var [.raw u])::H i)⟩ ar W:=by
    refine⟨hJr.hr,fun t => ?_,fun t => ?_,by rw[har];rfl,by rw[har];simpa using hsz,fun t ht=>by omega⟩
    ·rw[har];simp only[envOf,Array.getD_eq_getD_getElem?,Array.getElem?_setIfInBounds]
     by_cases ht:t=p
     ·subst ht;simp only[Nat.beq_refl,cond_true,if_true];rw[if_pos (Nat.lt_of_lt_of_le hpN hsz)];exact .pv _ _ (.int _ _)
     ·have hbq:Nat.beq t p=false:=by
       cases hb:Nat.beq t p with
       |false=>rfl
       |true=>exact absurd (Nat.eq_of_beq_eq_true hb) ht
      rw[hbq,if_neg (fun e=>ht e.symm)];have:=hJr.env t;rw[hta,Array.getD_eq_getD_getElem?] at this;exact this
    ·simp only[envOf]
     cases Nat.beq t p with
     |true=>rfl
     |false=>exact hJr.und t
   have hrefl:Stp ⟨nx,L.lo,nx,objsOf ((k,.var [.raw u])::H i)⟩ μi W ⟨nx,L.lo,nx,objsOf ((k,.var [.raw u])::H i)⟩ μi W:=Stp.refl _ _ _ fun k o hk=>(hJr.hr.keys k o hk).1
   have hlM:∀ st pe,∀ vs ty fz,Obj.loop (rec st pe)≠.cells vs ty fz:=fun _ _ _ _ _ e=>by cases e
   have hlm:∀ st pe,∀ es c,Obj.loop (rec st pe)≠.map es c:=fun _ _ _ _ e=>by cases e
   have hld:∀ st pe,∀ ds,Obj.loop (rec st pe)≠.deferred ds:=fun _ _ _ e=>by cases e
   have hl0:w0.w.heap.size<=w.heap.size+1:=by omega
   have hls:ws.heap.size<=w.heap.size+1:=by omega
   have ha:=ihA (w.heap.size+1) ⟨[],fun _=>undef,none⟩ L.lo nx ⟨nx,L.lo,nx,objsOf ((k,.var [.raw u])::H i)⟩ μi W (Nat.le_refl nx) (fun _=>.inl hnA) _ _ _ μi ar W (hround i x u hx hIi) hSr hrefl rfl rfl;have e0:({ tmps:=(#[p].zip #[Value.int .i64 x]).foldl (fun (t:Array Value) (q:Tmp×Value)=>t.setIfInBounds q.1 q.2) a.tmps,defers:=[] }:Act)=ar:=by rw[har];simp
   rw[show Fence.wide.inRound (w.heap.size+1)=fR (some (w.heap.size+1)) from rfl];refine (show Code.wpIn _ _ _ _ _ ({ tmps:=(#[p].zip #[Value.int .i64 x]).foldl (fun (t:Array Value) (q:Tmp×Value)=>t.setIfInBounds q.1 q.2) a.tmps,defers:=[] }:Act) W from ?_);rw[e0];refine wpIn_mono ha ?_;intro z a1 w1 hz
   cases z with
   |panic ch=>obtain⟨_,_,v,_,L2,_,hx2,_⟩:=hz;exact (hX v L2 hx2).elim
   |exit id=>obtain⟨_,_,_,_,_,_,_,hq⟩:=hz;exact hq.elim
   |goto id=>obtain⟨_,_,_,_,_,_,_,hq⟩:=hz;exact hq.elim
   |ret=>obtain⟨_,_,_,_,_,_,_,hq⟩:=hz;exact hq.elim
   |outgrown=>obtain⟨_,_,_,_,_,_,_,hq⟩:=hz;exact hq.elim
   |normal =>
    obtain⟨μ2,e2,L2,hS5,hT5,g1,g2,hq⟩:=hz;have hl5:w1.heap[w.heap.size+1]? = some (.loop (rec .ready none)):=Stp.other hJr.hr hT5 hl (fun _ _ e=>by cases e) (fun _ _ e=>by cases e);have hlt5:=(Array.getElem?_eq_some_iff.1 hl5).1;refine⟨_,run_beginRound hl5 (by rw[hrec]),?_⟩;obtain⟨bz,hbz⟩:∃ bz:Obj,bz=.loop { rec .ready none with state:=.busy }:=⟨_,rfl⟩;rw[<- hbz];have hbr:bz=.loop (rec .busy none):=by rw[hbz,hrec]
    have hS6:=hS5.put (o':=bz) hl5 (hlM _ _) (hlm _ _) (hld _ _) hl0;have hT6:=hT5.put2 (l:=w.heap.size+1) (x:=bz) hlt;have hbB:=ihB (w.heap.size+1) ⟨[],fun _=>undef,none⟩ L.lo nx _ μi _ (Nat.le_refl nx) (fun _=>.inl hnB) _ _ _ μ2 a1 _ hq hS6 hT6 g1 g2;have hO:=hJ.put (o':=bz) hl (hlM _ _) (hlm _ _) (hld _ _) hl0;have hOT:=hT.put (o':=bz) hls;have hlB:(W.putObj (w.heap.size+1) bz).heap[w.heap.size+1]? = some bz:=World.putObj_heap_same hlt;refine wpIn_mono hbB ?_;intro z a3 w3 hz
    have fin:∀ (jump:Option Code) (μ3:Nat->Loc) (L3:DH),HR M w0 μ3 L3 w3->Stp ⟨nx,L.lo,nx,objsOf ((k,.var [.raw u])::H i)⟩ μi (W.putObj (w.heap.size+1) bz) L3 μ3 w3->L3.base=nx ->
      ∃ w4,(Instr.endRound (w.heap.size+1) jump).run P w3=.ok (.bool jump.isNone) w4/\w4.heap[w.heap.size+1]? = some (.loop (rec (if jump.isNone then .ready else .done) jump)) /\
       Sim F M w0 N μ3 (envOf E) { L3 with base:=L.base } a' w4/\Stp L0 μ0 ws { L3 with base:=L.base } μ3 w4/\∀ b u,Cl w3 b u->Cl w4 b u:=by
     intro jump μ3 L3 hr3 hT7 hb3;have hl7:w3.heap[w.heap.size+1]? = some bz:=Stp.other hO.hr (hT7.reb L.base) hlB (fun _ _ e=>by rw[hbr] at e;cases e) (fun _ _ e=>by rw[hbr] at e;cases e);have hlt7:=(Array.getElem?_eq_some_iff.1 hl7).1;rw[hbr] at hl7;have hR:=run_endRound (P:=P) jump hl7;have hT8:=hT7.reb L.base;have hnx:nx<=L3.next:=hT7.next;have hbx:L.base<=nx:=hwk.base;have hS8:=hO.move hT8 (hr3.reb L.base (by omega));refine⟨_,hR,?_,hS8.put hl7 (hlM _ _) (hlm _ _) (hld _ _) hl0,(hOT.trans hT8).put hls,fun b y hy => ?_⟩
     ·rw[World.putObj_heap_same hlt7,hrec]
     ·obtain⟨ty,hy⟩:=hy;refine⟨ty,(World.putObj_heap_other ?_).trans hy⟩;rintro rfl;rw[hl7] at hy;cases hy
    cases z with
    |panic ch=>obtain⟨_,_,v,_,L2,_,hx2,_⟩:=hz;exact (hX v L2 hx2).elim
    |goto id=>obtain⟨_,_,_,_,_,_,_,hq⟩:=hz;exact hq.elim
    |outgrown=>obtain⟨_,_,_,_,_,_,_,hq⟩:=hz;exact hq.elim
    |normal =>
     obtain⟨μ3,e3,L3,hS7,hT7,g3,g4,hq⟩:=hz;obtain⟨w4,f1,f2,f3,f4,f5⟩:=fin none μ3 L3 hS7.hr hT7 g4;have hwk3:Wk (envOf E) { L3 with base:=L.base } E nx ((k,.var [.raw u])::H (i+1)):=hq.2.reb L.base hwk.base;have g3':({ L3 with base:=L.base }:DH).lo=L.lo:=g3;have hS9:=hwk3.sim f3;have hT9:=hwk3.stp f3.hr f4 (Nat.le_trans hb0 hwk.base)
     have hk3:∃ cs0,L3.get k=some (.var cs0):=by
      rcases hwk3.old (objs_head k (.var [.raw u]) (H (i+1))) with⟨o,h1,rfl|⟨c1,c2,rfl,_⟩|⟨_,_,_,q,_⟩⟩|⟨_,_,_,q⟩
      ·exact⟨_,h1⟩
      ·exact⟨_,h1⟩
      ·cases q
      ·cases q
     obtain⟨cs3,hk3⟩:=hk3;have hkx:k<nx:=(hJr.hr.keys k _ (objs_head k _ _)).1;obtain⟨_,_,hm3⟩:=hT7.evo.var k cs3 hkx hk3;have hb3:(newμ { L3 with base:=L.base } μ3 k).blk=blk:=by rw[q0s (L:={ L3 with base:=L.base }) hk3,hm3,hb]
     have hhof:hOf { L3 with base:=L.base } nx ((k,.var [.raw u])::H (i+1))=⟨nx,L.lo,L.base,objsOf ((k,.var [.raw u])::H (i+1))⟩:=by rw[hOf,g3']
     rw[hhof] at hS9 hT9;refine⟨_,w4,f1,.inl ⟨rfl,⟨_,u,hS9,hT9,hb3,f2,hq.1⟩,?_⟩⟩;have:=cl_of hS9.hr (objs_head k (.var [.raw u]) (H (i+1)))
     rwa [hb3] at this
    |ret =>
     obtain⟨μ3,e3,L3,hS7,hT7,g3,g4,hq⟩:=hz;obtain⟨w4,f1,f2,f3,f4,f5⟩:=fin (some .ret) μ3 L3 hS7.hr hT7 g4;exact⟨_,w4,f1,.inr ⟨rfl,.ret,μ3,_,f3,f4,g3,rfl,f2,.inl ⟨rfl,hq⟩⟩⟩
    |exit id =>
     obtain⟨μ3,e3,L3,hS7,hT7,g3,g4,hq⟩:=hz;obtain⟨w4,f1,f2,f3,f4,f5⟩:=fin (some (.exit id)) μ3 L3 hS7.hr hT7 g4;exact⟨_,w4,f1,.inr ⟨rfl,.exit id,μ3,_,f3,f4,g3,rfl,f2,.inr ⟨id,rfl,hq⟩⟩⟩
  ·rintro e2 W2 ⟨⟨v,rfl⟩,hJ|hJx⟩
   ·obtain⟨μi,u,hJ,hT,hb,hl,hIi⟩:=hJ;have hR:=run_endLoop (P:=P) hl (by rw[hrec];simp);refine⟨_,_,hR,?_⟩;rw[hrec];exact⟨μi,envOf E,_,hJ.put (by rw[hrec] at hl;exact hl) (fun _ _ _ e=>by cases e) (fun _ _ e=>by cases e) (fun _ e=>by cases e) (by omega),hT.put (by omega),rfl,rfl,hend u hIi⟩
   ·obtain⟨c,μ',L',hJ,hT,q1,q2,hl,hc⟩:=hJx;have hR:=run_endLoop (P:=P) hl (by rw[hrec];simp);refine⟨_,_,hR,?_⟩;rw[hrec];have hS9:=hJ.put (o':=.loop { rec .done (some c) with state:=.exhausted }) hl (fun _ _ _ e=>by cases e) (fun _ _ e=>by cases e) (fun _ e=>by cases e) (by omega);have hT9:=hT.put (o':=.loop { rec .done (some c) with state:=.exhausted }) (l:=w.heap.size+1) (by omega);rw[hrec] at hS9 hT9
    rcases hc with⟨rfl,hq⟩|⟨id,rfl,hq⟩
    ·exact wpIn_ret ⟨μ',envOf E,L',hS9,hT9,q1,q2,hq⟩
    ·exact wpIn_exit ⟨μ',envOf E,L',hS9,hT9,q1,q2,hq⟩
theorem noRange_seq {x y:Code} {A:Prop} (h:noRange (.seq x y)=true\/A):(noRange x=true\/A)/\(noRange y=true\/A):=by
 rcases h with h|h
 ·simp only[noRange,Bool.and_eq_true] at h;exact⟨.inl h.1,.inl h.2⟩
 ·exact⟨.inr h,.inr h⟩
theorem vc_sound (hm:P.follows .mixedOrders=true) (C:List Nat):∀ (c:Code) (r:Option Nat),SndC P M w0 N C r c
 |.skip,r=>fun F lo base L0 μ0 ws hb0 hrg Q e L μ a w hv h hs h1 h2=>wpIn_skip ⟨μ,e,L,h,hs,h1,h2,hv⟩
 |.region id ops false,r=>fun F lo base L0 μ0 ws hb0 hrg Q e L μ a w hv h hs h1 h2=>region_sound hv h hs h1 h2
 |.region id ops true,r=>fun F lo base L0 μ0 ws hb0 hrg Q e L μ a w hv h hs h1 h2=>by
  obtain⟨pl,eff,hok,hv⟩:=hv;exact draw_sound hm hok hv h hs h1 h2
 |.seq x y,r=>fun F lo base L0 μ0 ws hb0 hrg Q e L μ a w hv h hs h1 h2=>by
  have hgx:=fun hC=>(noRange_seq (hrg hC)).1
  have hgy:=fun hC=>(noRange_seq (hrg hC)).2
  simp only[vc] at hv
  split at hv
  ·refine wpIn_seq (wpIn_mono (vc_sound hm C x r F lo base L0 μ0 ws hb0 hgx _ e L μ a w hv h hs h1 h2) ?_);intro z a' w' hz
   cases z with
   |normal =>
    obtain⟨μ',e',L',h',hs',g1,g2,hq⟩:=hz;exact vc_sound hm C y r F lo base L0 μ0 ws hb0 hgy Q e' L' μ' a' w' hq h' hs' g1 g2
   |panic ch=>exact hz
   |_ =>
    obtain⟨μ',e',L',h',hs',g1,g2,hq⟩:=hz;exact⟨μ',e',L',h',hs',g1,g2,hq⟩
  ·obtain⟨ι,E,nx,H,hv,hy⟩:=hv;refine wpIn_seq (wpIn_mono (vc_sound hm C x r F lo base L0 μ0 ws hb0 hgx _ e L μ a w hv h hs h1 h2) ?_);intro z a' w' hz
   cases z with
   |normal =>
    obtain⟨μ',e',L',h',hs',g1,g2,hq⟩:=hz;obtain⟨j,hwk⟩:=hq;subst g1;subst g2;exact vc_sound hm C y r F _ _ L0 μ0 ws hb0 hgy Q _ _ _ a' w' (hy j) (hwk.sim h') (hwk.stp h'.hr hs' (Nat.le_trans hb0 hwk.base)) rfl rfl
   |panic ch=>exact hz
   |_ =>
    obtain⟨μ',e',L',h',hs',g1,g2,hq⟩:=hz;exact⟨μ',e',L',h',hs',g1,g2,hq⟩
 |.cond c x y,r=>fun F lo base L0 μ0 ws hb0 hrg Q e L μ a w hv h hs h1 h2=>by
  have hgx:=fun hC=>(noRange_seq (x:=x) (y:=y) (hrg hC)).1
  have hgy:=fun hC=>(noRange_seq (x:=x) (y:=y) (hrg hC)).2
  simp only[vc] at hv
  split at hv
  ·rename_i b hc;have hr:=h.rho.rel c;rw[hc] at hr;refine wpIn_cond_split (pvB hr) (fun hb => ?_) (fun hb => ?_)
   ·exact vc_sound hm C x r F lo base L0 μ0 ws hb0 hgx Q e L μ a w (hv.1 hb) h hs h1 h2
   ·exact vc_sound hm C y r F lo base L0 μ0 ws hb0 hgy Q e L μ a w (hv.2 hb) h hs h1 h2
  ·exact hv.elim
 |.block id c,r=>fun F lo base L0 μ0 ws hb0 hrg Q e L μ a w hv h hs h1 h2=>by
  refine wpIn_block (wpIn_mono (vc_sound hm C c r F lo base L0 μ0 ws hb0 hrg _ e L μ a w hv h hs h1 h2) ?_);intro z a' w' hz
  cases z with
  |panic ch=>exact hz
  |exit i =>
   obtain⟨μ',e',L',h',hs',g1,g2,hq⟩:=hz;simp only[Exit.inBlock];simp only[unblk] at hq
   cases hb:Nat.beq i id with
   |true =>
    rw[hb] at hq;rw[if_pos (Nat.eq_of_beq_eq_true hb)];exact⟨μ',e',L',h',hs',g1,g2,hq⟩
   |false =>
    rw[hb] at hq;have hne:i≠id:=fun e=>by rw[e,Nat.beq_refl] at hb;cases hb
    rw[if_neg hne];exact⟨μ',e',L',h',hs',g1,g2,hq⟩
  |_ =>
   obtain⟨μ',e',L',h',hs',g1,g2,hq⟩:=hz;exact⟨μ',e',L',h',hs',g1,g2,hq⟩
 |.loop c,r=>fun F lo base L0 μ0 ws hb0 hrg Q e L μ a w hv h hs h1 h2=>by
  simp only[vc] at hv;obtain⟨ι,E,nx,H,m,⟨i0,hwk⟩,hround⟩:=hv
  have hst:∀ {e:Env} {L:DH} {μ:Nat->Loc} {a:Act} {w:World} {i:ι},Wk e L (E i) (nx i) (H i)->Sim F M w0 N μ e L a w->Stp L0 μ0 ws L μ w->L.lo=lo->L.base=base ->
    ∃ μ',Sim F M w0 N μ' (envOf (E i)) ⟨nx i,lo,base,objsOf (H i)⟩ a w/\Stp L0 μ0 ws ⟨nx i,lo,base,objsOf (H i)⟩ μ' w:=by
   intro e L μ a w i hk h hs h1 h2;subst h1;subst h2;exact⟨newμ L μ,hk.sim h,hk.stp h.hr hs (Nat.le_trans hb0 hk.base)⟩
  refine loop_sound (fun n a w=>∃ i μ',m i=n/\Sim F M w0 N μ' (envOf (E i)) ⟨nx i,lo,base,objsOf (H i)⟩ a w/\Stp L0 μ0 ws ⟨nx i,lo,base,objsOf (H i)⟩ μ' w) ?_ ?_
  ·rintro n a w ⟨i,μ',rfl,h',hs'⟩;refine wpIn_mono (vc_sound hm C c r F lo base L0 μ0 ws hb0 hrg _ _ _ μ' a w (hround i) h' hs' rfl rfl) ?_;intro z a' w' hz
   cases z with
   |normal =>
    obtain⟨μ2,e2,L2,h2,hs2,g1,g2,hq⟩:=hz;obtain⟨j,hj,hwk⟩:=hq;obtain⟨μ3,h3,hs3⟩:=hst hwk h2 hs2 g1 g2;exact⟨m j,hj,j,μ3,rfl,h3,hs3⟩
   |panic ch=>exact hz
   |_ =>
    obtain⟨μ2,e2,L2,h2,hs2,g1,g2,hq⟩:=hz;exact⟨μ2,e2,L2,h2,hs2,g1,g2,hq⟩
  ·obtain⟨μ',h',hs'⟩:=hst hwk h hs h1 h2;exact⟨m i0,i0,μ',rfl,h',hs'⟩
 |.exit id,r=>fun F lo base L0 μ0 ws hb0 hrg Q e L μ a w hv h hs h1 h2=>wpIn_exit ⟨μ,e,L,h,hs,h1,h2,hv⟩
 |.label l,r=>fun F lo base L0 μ0 ws hb0 hrg Q e L μ a w hv h hs h1 h2=>wpIn_label ⟨μ,e,L,h,hs,h1,h2,hv⟩
 |.ret,r=>fun F lo base L0 μ0 ws hb0 hrg Q e L μ a w hv h hs h1 h2=>wpIn_ret ⟨μ,e,L,h,hs,h1,h2,hv⟩
 |.rangeFunc g ps x y,r=>fun F lo base L0 μ0 ws hb0 hrg Q e L μ a w hv h hs h1 h2=>by
  have hC:memB C rangeId=true:=by
   simp only[vc] at hv
   split at hv
   ·assumption
   ·exact hv.elim
  rcases hrg hC with hn|⟨rfl,hF,hX⟩
  ·cases hn
  ·exact range_sound (fun l=>vc_sound hm C x (some l)) (fun l=>vc_sound hm C y (some l)) hb0 hF hX hv h hs h1 h2
 |.scope c,r=>fun F lo base L0 μ0 ws hb0 hrg Q e L μ a w hv h hs h1 h2=>by
  refine wpIn_scope_straight (wpIn_mono (vc_sound hm C c r F lo base L0 μ0 ws hb0 hrg _ e L μ a w hv h hs h1 h2) ?_);intro z a' w' hz
  cases z with
  |panic ch=>exact hz
  |goto l =>
   obtain⟨μ',e',L',h',hs',g1,g2,hq⟩:=hz;exact hq.elim
  |_ =>
   obtain⟨μ',e',L',h',hs',g1,g2,hq⟩:=hz;exact⟨μ',e',L',h',hs',g1,g2,hq⟩
 |.goto ..,r=>fun F lo base L0 μ0 ws hb0 hrg Q e L μ a w hv h hs h1 h2=>by simp[vc] at hv
 |.refuse ..,r=>fun F lo base L0 μ0 ws hb0 hrg Q e L μ a w hv h hs h1 h2=>by simp[vc] at hv
end
def argEnv:List DV->Nat->Env
 | [],_=>fun _=>.any
 |d::r,i=>fun u=>bif Nat.beq u i then d else argEnv r (i+1) u
def resV (P:Program) (e:Env) (L:DH):List ResultVar->(List DV->Prop)->Prop
 | [],K=>K []
 |.tmp t::r,K=>resV P e L r fun ds=>K (e t::ds)
 |.cell a t::r,K=>(match e a with
  |.ref k c=>(match L.get k with
   |some (.var cs)=>ldCells P t cs c fun d=>resV P e L r fun ds=>K (d::ds)
   |_=>False)
  |_=>False)
def resD:List DV->DV
 | [d]=>d
 |l=>.tup l
def retQ (P:Program) (fn:Func) (K:DV->DH->Prop) (x:Exit) (e:Env) (L:DH):Prop :=
 match x with
 |.normal=>resV P e L fn.results.toList fun ds=>match ds with|[d]=>K d L|ds=>K (.tup ds) L
 |.ret=>resV P e L fn.results.toList fun ds=>match ds with|[d]=>K d L|ds=>K (.tup ds) L
 |_=>False
section
variable {P:Program} {M:Nat->Prop} {w0:W0}
theorem argEnv_get:∀ (ds:List DV) (i u:Nat),(u<i->argEnv ds i u=.any)/\(i<=u->argEnv ds i u=(ds[u-i]?).getD .any)
 | [],i,u=>⟨fun _=>rfl,fun _=>by simp[argEnv]⟩
 |d::r,i,u=>by
  obtain⟨h1,h2⟩:=argEnv_get r (i+1) u;refine⟨fun h => ?_,fun h => ?_⟩
  ·have hb:Nat.beq u i=false:=by
    cases hb:Nat.beq u i with
    |false=>rfl
    |true=>have:=Nat.eq_of_beq_eq_true hb;omega
   simp only[argEnv,hb,cond_false];exact h1 (by omega)
  ·by_cases e:u=i
   ·subst e;simp[argEnv]
   ·have hb:Nat.beq u i=false:=by
     cases hb:Nat.beq u i with
     |false=>rfl
     |true=>have:=Nat.eq_of_beq_eq_true hb;omega
    simp only[argEnv,hb,cond_false];rw[h2 (by omega),show u-i=(u-(i+1))+1 by omega,List.getElem?_cons_succ]
theorem resV_run {N:NB} {F0:Fx} {μ:Nat->Loc} {e:Env} {L:DH} {a:Act} {w:World} (h:Sim F0 M w0 N μ e L a w) (g:ResultVar->Sem Value) (hg:∀ t,g (.tmp t)=pure (a.tmps.getD t undef)) (hc:∀ x t,g (.cell x t)=do loadVar t (<- asAddr (a.tmps.getD x undef))) :
  ∀ (rs:List ResultVar) (K:List DV->Prop),resV P e L rs K->∃ ds vs,K ds/\(rs.mapM g).run P w=.ok vs w/\ds.length=vs.length/\DV.unders L.next ds=true/\∀ (i:Nat) d v,ds[i]? = some d->vs[i]? = some v->RelV (Tot M μ L) w μ L d v
 | [],K,hv=>⟨[],[],hv,rfl,rfl,rfl,fun i d v hd _=>by simp at hd⟩
 |.tmp t::r,K,hv=>by
  simp only[resV] at hv;obtain⟨ds,vs,h1,h2,h3,h4,h5⟩:=resV_run h g hg hc r _ hv;refine⟨e t::ds,a.tmps.getD t undef::vs,h1,?_,by simp[h3],by simp only[DV.unders,h.und t,h4,Bool.and_self],fun i d v hd hv => ?_⟩
  ·rw[List.mapM_cons,Sem.run_bind,hg,Sem.run_pure,Result.andThen_ok,Sem.run_bind,h2,Result.andThen_ok,Sem.run_pure]
  ·cases i with
   |zero=>simp only[List.getElem?_cons_zero,Option.some.injEq] at hd hv;subst hd;subst hv;exact h.env t
   |succ i=>exact h5 i d v (by simpa using hd) (by simpa using hv)
 |.cell x t::r,K,hv=>by
  simp only[resV] at hv;have hx:=h.env x;generalize e x=dx at hv hx
  cases dx with
  |ref k c =>
   simp only at hv
   cases hk:L.get k with
   |none=>simp[hk] at hv
   |some ob =>
    cases ob with
    |var cs =>
     simp only[hk] at hv;obtain⟨vs0,ty,h1,h2,h3⟩:=h.hr.obj k _ hk;have hcu:DV.unders L.next cs=true:=(h.hr.keys k _ hk).2
     obtain⟨d,v,hr,hrel,hu,hK⟩:=load_rel (μ:=μ) (L:=L) (w:=w) (T:=Tot M μ L) hv (μ k).blk 0 (fun i=>(vs0[i]?).getD undef) (fun i d hd=>by
      have hlt:=z0a hd;have hvi:vs0[i]? = some vs0[i]:=Array.getElem?_eq_getElem (by omega)
      exact⟨by simp[World.cell?,h1,hvi],by rw[hvi];exact h3 i d _ hd hvi⟩) hcu
     obtain⟨ds,vs,g1,g2,g3,g4,g5⟩:=resV_run h g hg hc r _ hK
     have hp:a.tmps.getD x undef=.pointer (some ⟨(μ k).blk,c,none⟩):=by
      cases hx with
      |ref _ _ _ q1 q2=>exact q2 cs hk
     have hr':(loadVar t ⟨(μ k).blk,c,none⟩).run P w=.ok v w:=by simpa using hr
     refine⟨d::ds,v::vs,g1,?_,by simp[g3],by simp only[DV.unders,hu,g4,Bool.and_self],fun i d' v' hd hv => ?_⟩
     ·rw[List.mapM_cons,Sem.run_bind,hc,hp,Sem.run_bind];simp only[asAddr,Sem.run_pure,Result.andThen_ok,hr',Sem.run_bind,g2]
     ·cases i with
      |zero=>simp only[List.getElem?_cons_zero,Option.some.injEq] at hd hv;subst hd;subst hv;exact hrel
      |succ i=>exact g5 i d' v' (by simpa using hd) (by simpa using hv)
    |arr=>simp[hk] at hv
    |fz=>simp[hk] at hv
    |mp=>simp[hk] at hv
    |gone=>simp[hk] at hv
  |_=>exact hv.elim
theorem results_run {N:NB} {F0:Fx} {μ:Nat->Loc} {e:Env} {L:DH} {a:Act} {w:World} {fn:Func} {K:DV->DH->Prop} (h:Sim F0 M w0 N μ e L a w) (hv:resV P e L fn.results.toList fun ds=>match ds with|[d]=>K d L|ds=>K (.tup ds) L) :
  ∃ d v,K d L/\(results fn a.tmps).run P w=.ok v w/\RelV (Tot M μ L) w μ L d v/\d.under L.next=true:=by
 obtain⟨ds,vs,h1,h2,h3,h4,h5⟩:=resV_run h (fun
  |.tmp t=>pure (a.tmps.getD t undef)
  |.cell x t=>do loadVar t (<- asAddr (a.tmps.getD x undef))) (fun _=>rfl) (fun _ _=>rfl) _ _ hv
 have hrun:∀ v,(if h:(⟨vs⟩:Array Value).size=1 then (⟨vs⟩:Array Value)[0] else .tuple ⟨vs⟩)=v->(results fn a.tmps).run P w=.ok v w:=by
  intro v hv;unfold results;rw[Sem.run_bind,Array.mapM_eq_mapM_toList,Sem.run_map];refine (congrArg (fun r=>Result.andThen (Result.andThen r _) _) h2).trans ?_;rw[Result.andThen_ok,Result.andThen_ok,<- hv,Sem.run_pure]
 rcases ds with _|⟨d,_|⟨d2,ds⟩⟩
 ·have:vs=[]:=List.length_eq_zero_iff.1 h3.symm;subst this;exact⟨_,_,h1,hrun _ rfl,.tup [] [] rfl (fun i d v hd _=>by simp at hd),rfl⟩
 ·rcases vs with _|⟨v,_|⟨v2,vs⟩⟩
  ·simp at h3
  ·simp only[DV.unders,Bool.and_true] at h4;exact⟨_,_,h1,hrun v rfl,h5 0 d v rfl rfl,h4⟩
  ·simp at h3
 ·rcases vs with _|⟨v,_|⟨v2,vs⟩⟩
  ·simp at h3
  ·simp at h3
  ·exact⟨_,_,h1,hrun _ (dif_neg (by simp)),.tup _ _ h3 h5,by simpa only[DV.under] using h4⟩
theorem start_sim {w1:W0} {n:Nat} {μ:Nat->Loc} {w:World} {vs:List Value} {args:List DV} {L:DH} {F:Fx} (hr:HR M w0 μ L w) (hu:DV.unders L.next args=true) (hrel:RelVs (Tot M μ L) w μ L args vs) (hw:w0.w=w1.w) (hF:Mks F [] w:=by rfl) :
  Sim F M w1 ⟨n,0⟩ μ (argEnv args 0) { L with base:=L.next } { tmps:=⟨vs⟩++Array.replicate (n-(⟨vs⟩:Array Value).size) undef,defers:=[] } w:=by
 refine⟨(hr.reb L.next (Nat.le_refl _)).same hw,fun t => ?_,fun t => ?_,hF,by simp;omega,fun t ht=>absurd ht (Nat.not_lt_zero t)⟩
 ·rw[(argEnv_get args 0 t).2 (Nat.zero_le _),Nat.sub_zero]
  cases ha:args[t]? with
  |none=>exact .any _
  |some d =>
   have hlt:=z0a ha;have hvt:vs[t]? = some (vs[t]'(by have:=hrel.1;omega)):=List.getElem?_eq_getElem (by have:=hrel.1;omega)
   have:(⟨vs⟩++Array.replicate (n-(⟨vs⟩:Array Value).size) undef).getD t undef=vs[t]'(by have:=hrel.1;omega):=by
    rw[Array.getD_eq_getD_getElem?,Array.getElem?_append_left (by have:=hrel.1;simp;omega)];simp[hvt]
   rw[this];exact (hrel.2 t d _ ha hvt).base L.next
 ·rw[(argEnv_get args 0 t).2 (Nat.zero_le _),Nat.sub_zero]
  cases ha:args[t]? with
  |none=>rfl
  |some d=>exact unders_iff.1 hu t d ha
theorem DC.introC (C:List Nat) (hm:P.follows .mixedOrders=true) {f:FuncId} {fn:Func} {c:Code} {args:List DV} {L:DH} {K:DV->DH->Prop} (hf:P.funcs[f]? = some fn) (hb:fn.body=some c) (hc:q0y P f=true)
  (h:vc P M ⟨w0.w,fun v L'=>w0.X v { L' with base:=L.base }⟩ ⟨fn.ntmps,0⟩ C L.lo L.next c (retQ P fn fun d L'=>K d { L' with base:=L.base }) (argEnv args 0) { L with base:=L.next }) (hC:memB C rangeId=false:=by rfl):DC P M w0 f args L K:=by
 refine DC.mk ⟨hc,fun μ w vs hr hu hrel => ?_⟩;refine calls_of_wp hf hb ?_;have hsim:Sim ⟨[],fun _=>undef,none⟩ M ⟨w0.w,fun v L'=>w0.X v { L' with base:=L.base }⟩ ⟨fn.ntmps,0⟩ μ (argEnv args 0) { L with base:=L.next } { tmps:=⟨vs⟩++Array.replicate (fn.ntmps-(⟨vs⟩:Array Value).size) undef,defers:=[] } w:=start_sim hr hu hrel rfl;have hrefl:Stp { L with base:=L.next } μ w { L with base:=L.next } μ w:=Stp.refl _ μ w fun k o hk=>(hr.keys k o hk).1
 have:=vc_sound (P:=P) (M:=M) (w0:=⟨w0.w,fun v L'=>w0.X v { L' with base:=L.base }⟩) (N:=⟨fn.ntmps,0⟩) hm C c none ⟨[],fun _=>undef,none⟩ L.lo L.next { L with base:=L.next } μ w (Nat.le_refl _) (fun hh=>by rw[hC] at hh;cases hh) _ _ _ μ _ w h hsim hrefl rfl rfl;refine wp_mono (wpIn_wide.1 this) ?_
 have fin:∀ a' w' μ' e' L',Sim ⟨[],fun _=>undef,none⟩ M ⟨w0.w,fun v L'=>w0.X v { L' with base:=L.base }⟩ ⟨fn.ntmps,0⟩ μ' e' L' a' w'->Stp { L with base:=L.next } μ w L' μ' w'->(resV P e' L' fn.results.toList fun ds=>match ds with|[d]=>K d { L' with base:=L.base }|ds=>K (.tup ds) { L' with base:=L.base }) ->
   a'.defers=[]/\∃ v,(results fn a'.tmps).run P w'=.ok v w'/\Fin M w0 μ L w K (.returned v) w':=by
  intro a' w' μ' e' L' h' hs' hK;obtain⟨d,v,h1,h2,h3,h4⟩:=results_run (K:=fun d L'=>K d { L' with base:=L.base }) h' hK;exact⟨h'.defers,v,h2,.inl ⟨v,rfl,μ',d,_,h1,(h'.hr.reb L.base (Nat.le_trans hr.base hs'.next)).same rfl,h3.base L.base,h4,hs'.reb L.base⟩⟩
 intro x a' w' hz
 cases x with
 |normal =>
  obtain⟨μ',e',L',h',hs',g1,g2,hq⟩:=hz;exact fin a' w' μ' e' L' h' hs' hq
 |ret =>
  obtain⟨μ',e',L',h',hs',g1,g2,hq⟩:=hz;exact fin a' w' μ' e' L' h' hs' hq
 |panic ch =>
  obtain⟨hd,_,v,μ',L',rfl,h1,h2,hs'⟩:=hz;exact⟨hd rfl,.inr ⟨v,rfl,μ',_,h1,(h2.reb L.base (Nat.le_trans hr.base hs'.next)).same rfl,hs'.reb L.base⟩⟩
 |_ =>
  obtain⟨μ',e',L',h',hs',g1,g2,hq⟩:=hz;exact hq.elim
theorem leaves_marks {w1:W0} {N:NB} {F0:Fx} {μ μ0:Nat->Loc} {e:Env} {L L0:DH} {fn:Func} {ws:World} {tm:Array Value} {R:Ending->World->Prop} (hF0:F0=⟨[],F0.tm,none⟩)
  (hfin:∀ w',Sim F0 M w1 N μ e L ⟨tm,[]⟩ w'->Stp L0 μ0 ws L μ w'->∃ v,(results fn tm).run P w'=.ok v w'/\R (.returned v) w') (hw:w1.w.heap.size<=ws.heap.size):∀ (ms:List Nat) (w':World),ms.Nodup->(∀ D:Nat,D∈ms->w'.heap[D]? = some (.deferred (some []))/\ws.heap.size<=D) ->
   Sim F0 M w1 N μ e L ⟨tm,[]⟩ w'->Stp L0 μ0 ws L μ w'->LeavesInM Fence.wide 0 P fn tm R (ms.map mkD) .returning w'
 | [],w',_,_,hS,hT=>hfin w' hS hT
 |D::ms,w',hn,hh,hS,hT=>by
  obtain⟨h1,h2⟩:=hh D (List.mem_cons_self ..);obtain⟨n1,n2⟩:=List.nodup_cons.1 hn;refine⟨fun e=>(by cases e),.inl ⟨D,_,rfl,run_takeDeferred h1,?_⟩⟩;refine leaves_marks hF0 hfin hw ms _ n2 (fun D' hD'=>⟨(World.putObj_heap_other (fun e=>n1 (by rw[<- e];exact hD'))).trans (hh D' (List.mem_cons_of_mem _ hD')).1,(hh D' (List.mem_cons_of_mem _ hD')).2⟩) ?_ (hT.put h2);exact⟨hS.hr.put h1 (fun _ _ _ e=>by cases e) (fun _ _ e=>by cases e) (by omega),fun t=>(hS.env t).put h1 (fun _ _ _ e=>by cases e),hS.und,by rw[hF0];rfl,hS.size,hS.fix⟩
theorem DC.introR (hm:P.follows .mixedOrders=true) {f:FuncId} {fn:Func} {c:Code} {args:List DV} {L:DH} {K:DV->DH->Prop} (hf:P.funcs[f]? = some fn) (hb:fn.body=some c) (hc:q0y P f=true) (C:List Nat)
  (h:vc P M ⟨w0.w,fun _ _=>False⟩ ⟨fn.ntmps,0⟩ C L.lo L.next c (retQ P fn fun d L'=>K d { L' with base:=L.base }) (argEnv args 0) { L with base:=L.next }):DC P M ⟨w0.w,fun _ _=>False⟩ f args L K:=by
 refine DC.mk ⟨hc,fun μ w vs hr hu hrel => ?_⟩;refine (callsIn_wide (n:=0)).1 (callsIn_of_wp_marks hf hb trivial ?_)
 have hsim:Sim ⟨[],fun _=>undef,some w.heap.size⟩ M ⟨w0.w,fun _ _=>False⟩ ⟨fn.ntmps,0⟩ μ (argEnv args 0) { L with base:=L.next } { tmps:=⟨vs⟩++Array.replicate (fn.ntmps-(⟨vs⟩:Array Value).size) undef,defers:=[] } w :=
  start_sim hr hu hrel rfl ⟨[],rfl,List.nodup_nil,fun D hD=>by cases hD⟩
 have hrefl:Stp { L with base:=L.next } μ w { L with base:=L.next } μ w:=Stp.refl _ μ w fun k o hk=>(hr.keys k o hk).1
 have:=vc_sound (P:=P) (M:=M) (w0:=⟨w0.w,fun _ _=>False⟩) (N:=⟨fn.ntmps,0⟩) hm C c none ⟨[],fun _=>undef,some w.heap.size⟩ L.lo L.next { L with base:=L.next } μ w (Nat.le_refl _) (fun _=>.inr ⟨rfl,rfl,fun _ _ e=>e⟩) _ _ _ μ _ w h hsim hrefl rfl rfl;refine wpIn_mono this ?_
 have fin:∀ a' w' μ' e' L',Sim ⟨[],fun _=>undef,some w.heap.size⟩ M ⟨w0.w,fun _ _=>False⟩ ⟨fn.ntmps,0⟩ μ' e' L' a' w'->Stp { L with base:=L.next } μ w L' μ' w'->(resV P e' L' fn.results.toList fun ds=>match ds with|[d]=>K d { L' with base:=L.base }|ds=>K (.tup ds) { L' with base:=L.base }) ->
   LeavesInM Fence.wide 0 P fn a'.tmps (Fin M ⟨w0.w,fun _ _=>False⟩ μ L w K) a'.defers .returning w':=by
  intro a' w' μ' e' L' h' hs' hK;obtain⟨ms,q1,q2,q3⟩:=h'.defers;rw[q1,List.append_nil];refine leaves_marks (F0:=⟨[],fun _=>undef,none⟩) rfl (fun w'' hS hT => ?_) hr.ext.size ms w' q2 q3 ⟨h'.hr,h'.env,h'.und,rfl,h'.size,h'.fix⟩ hs';obtain⟨d,v,h1,h2,h3,h4⟩:=results_run (K:=fun d L'=>K d { L' with base:=L.base }) hS hK;exact⟨v,h2,.inl ⟨v,rfl,μ',d,_,h1,hS.hr.reb L.base (Nat.le_trans hr.base hT.next),h3.base L.base,h4,hT.reb L.base⟩⟩
 intro x a' w' hz
 cases x with
 |normal =>
  obtain⟨μ',e',L',h',hs',g1,g2,hq⟩:=hz;exact fin a' w' μ' e' L' h' hs' hq
 |ret =>
  obtain⟨μ',e',L',h',hs',g1,g2,hq⟩:=hz;exact fin a' w' μ' e' L' h' hs' hq
 |panic ch =>
  obtain⟨_,_,v,_,L',_,hx,_⟩:=hz;exact hx.elim
 |_ =>
  obtain⟨μ',e',L',h',hs',g1,g2,hq⟩:=hz;exact hq.elim
theorem DC.intro (hm:P.follows .mixedOrders=true) {f:FuncId} {fn:Func} {c:Code} {args:List DV} {L:DH} {K:DV->DH->Prop} (hf:P.funcs[f]? = some fn) (hb:fn.body=some c) (hc:q0y P f=true)
  (h:vc P M ⟨w0.w,fun v L'=>w0.X v { L' with base:=L.base }⟩ ⟨fn.ntmps,0⟩ [] L.lo L.next c (retQ P fn fun d L'=>K d { L' with base:=L.base }) (argEnv args 0) { L with base:=L.next }):DC P M w0 f args L K:=DC.introC [] hm hf hb hc h
end
open Go.RowKit (Below)
section
variable {P:Program}
def W0.no (w0:W0):W0:=⟨w0.w,fun _ _=>False⟩
theorem Out.same {M:Nat->Prop} {w1 w2:W0} {μ:Nat->Loc} {L:DH} {w:World} {K:DV->DH->Prop} {v:Value} {w':World} (h:Out M w1 μ L w K v w') (e:w1.w=w2.w):Out M w2 μ L w K v w':=by
 obtain⟨μ',d,L',h1,h2,h3⟩:=h;exact⟨μ',d,L',h1,h2.same e,h3⟩
theorem Fin.no {M:Nat->Prop} {w0:W0} {μ:Nat->Loc} {L:DH} {w:World} {K:DV->DH->Prop} {e:Ending} {w':World} (h:Fin M w0.no μ L w K e w'):∃ v,e=.returned v/\Out M w0 μ L w K v w':=by
 rcases h with⟨v,he,ho⟩|⟨v,_,μ',L',hX,_⟩
 ·exact⟨v,he,ho.same rfl⟩
 ·exact hX.elim
def noHeap:DH:=⟨0,0,0,fun _=>none⟩
theorem RelPs.dv {T:Nat->Prop} {w:World} {μ:Nat->Loc} {L:DH} {ps:List PV} {vs:List Value} (h:RelPs T w ps vs):RelVs T w μ L (ps.map PV.dv) vs:=by
 refine⟨by simp[h.1],fun i d v hd hv => ?_⟩;simp only[List.getElem?_map] at hd
 cases hp:ps[i]? with
 |none=>simp[hp] at hd
 |some p=>simp[hp] at hd;subst hd;exact dv_rel (h.2 i p v hp hv)
theorem unders_dv (n:Nat) (ps:List PV):DV.unders n (ps.map PV.dv)=true:=by
 rw[unders_mem];intro d hd;obtain⟨p,_,rfl⟩:=List.mem_map.1 hd;exact dv_under n p
inductive PLe:PV->PV->Prop where
 |refl (p:PV):PLe p p
 |nil:PLe .nil (.sl [])
 |agg (l l':List PV):l.length=l'.length->(∀ (i:Nat) p q,l[i]? = some p->l'[i]? = some q->PLe p q)->PLe (.agg l) (.agg l')
 |tup (l l':List PV):l.length=l'.length->(∀ (i:Nat) p q,l[i]? = some p->l'[i]? = some q->PLe p q)->PLe (.tup l) (.tup l')
 |sl (l l':List PV):l.length=l'.length->(∀ (i:Nat) p q,l[i]? = some p->l'[i]? = some q->PLe p q)->PLe (.sl l) (.sl l')
def PLes:List PV->List PV->Prop
 | [],[]=>True
 |p::ps,q::qs=>PLe p q/\PLes ps qs
 |_,_=>False
theorem PLe.rel2 {T:Nat->Prop} {w:World} {p q:PV} (h:PLe p q):(∀ {v:Value},RelP T w p v->RelP T w q v) /\
  p.cells.length=q.cells.length/\∀ (j:Nat) p' q',p.cells[j]? = some p'->q.cells[j]? = some q'->∀ {v:Value},RelP T w p' v->RelP T w q' v:=by
 have single:∀ {p q:PV},(∀ {v:Value},RelP T w p v->RelP T w q v)->([p]:List PV).length=([q]:List PV).length/\∀ (j:Nat) p' q',([p]:List PV)[j]? = some p'->([q]:List PV)[j]? = some q'->∀ {v:Value},RelP T w p' v->RelP T w q' v:=by
  intro p q h;refine⟨rfl,fun j p' q' hp hq => ?_⟩
  cases j with
  |zero=>simp at hp hq;subst hp;subst hq;exact h
  |succ j=>simp at hp
 induction h with
 |refl p=>exact⟨fun h=>h,rfl,fun j p' q' hp hq=>by rw[hp] at hq;cases hq;exact fun h=>h⟩
 |nil =>
  have:∀ {v:Value},RelP T w .nil v->RelP T w (.sl []) v:=by intro v h;cases h;exact .e0 none 0
  exact⟨this,single this⟩
 |agg l l' hl _ ih =>
  refine⟨?_,hl,fun j p' q' hp hq=>(ih j p' q' hp hq).1⟩;intro v h
  cases h with
  |agg _ vs h1 h2 =>
   refine .agg l' vs (by rw[<- hl,h1]) fun i q v hq hv => ?_
   have hi:i<l.length:=by rw[hl];exact z0a hq
   exact (ih i _ q (List.getElem?_eq_getElem hi) hq).1 (h2 i _ v (List.getElem?_eq_getElem hi) hv)
 |tup l l' hl _ ih =>
  have:∀ {v:Value},RelP T w (.tup l) v->RelP T w (.tup l') v:=by
   intro v h
   cases h with
   |tup _ vs h1 h2 =>
    refine .tup l' vs (by rw[<- hl,h1]) fun i q v hq hv => ?_
    have hi:i<l.length:=by rw[hl];exact z0a hq
    exact (ih i _ q (List.getElem?_eq_getElem hi) hq).1 (h2 i _ v (List.getElem?_eq_getElem hi) hv)
  exact⟨this,single this⟩
 |sl l l' hl _ ih =>
  have:∀ {v:Value},RelP T w (.sl l) v->RelP T w (.sl l') v:=by
   intro v h
   cases h with
   |e0 a c =>
    have:l'=[]:=List.length_eq_zero_iff.1 hl.symm;subst this;exact .e0 a c
   |sl b off sz cap _ val h1 h2 h3 h4 h5 h6 =>
    have at_:∀ {i:Nat} {q:PV},l'[i]? = some q->∃ p,l[i]? = some p/\p∈l:=by
     intro i q hq;have hi:i<l.length:=by rw[hl];exact z0a hq
     exact⟨_,List.getElem?_eq_getElem hi,List.getElem_mem hi⟩
    have cell_:∀ {i:Nat} {p q q':PV} {j:Nat},l[i]? = some p->l'[i]? = some q->q.cells[j]? = some q'->∃ p',p.cells[j]? = some p':=by
     intro i p q q' j hp hq hq';have hj:j<p.cells.length:=by rw[(ih i p q hp hq).2.1];exact z0a hq'
     exact⟨_,List.getElem?_eq_getElem hj⟩
    rw[hl];refine .sl b off sz cap l' val h1 h2 (by omega) ?_ ?_ ?_
    ·intro q hq;obtain⟨i,hi⟩:=List.mem_iff_getElem?.1 hq;obtain⟨p,hp,hm⟩:=at_ hi;rw[<- (ih i p q hp hi).2.1];exact h4 p hm
    ·intro i q j q' hq hq';obtain⟨p,hp,_⟩:=at_ hq;obtain⟨p',hp'⟩:=cell_ hp hq hq';exact h5 i p j p' hp hp'
    ·intro i q j q' hq hq';obtain⟨p,hp,_⟩:=at_ hq;obtain⟨p',hp'⟩:=cell_ hp hq hq';exact (ih i p q hp hq).2.2 j p' q' hp' hq' (h6 i p j p' hp hp')
  exact⟨this,single this⟩
theorem PLe.rel {T:Nat->Prop} {w:World} {p q:PV} (h:PLe p q) {v:Value} (hv:RelP T w p v):RelP T w q v:=h.rel2.1 hv
theorem PLes.rel {T:Nat->Prop} {w:World}:∀ {ps qs:List PV} {vs:List Value},PLes ps qs->RelPs T w ps vs->RelPs T w qs vs
 | [],[],vs,_,h=>h
 | [],_::_,vs,h,_=>h.elim
 |_::_,[],vs,h,_=>h.elim
 |p::ps,q::qs,[],_,h=>by have:=h.1;simp at this
 |p::ps,q::qs,v::vs,hle,h=>by
  have:=PLes.rel (vs:=vs) hle.2 ⟨by simpa using h.1,fun i p v hp hv=>h.2 (i+1) p v (by simpa using hp) (by simpa using hv)⟩;refine⟨by simp[this.1],fun i r u hr hu => ?_⟩
  cases i with
  |zero=>simp at hr hu;subst hr;subst hu;exact hle.1.rel (h.2 0 p v rfl rfl)
  |succ i=>exact this.2 i r u (by simpa using hr) (by simpa using hu)
theorem PureFn.le {f:FuncId} {ps qs:List PV} {p:PV} (h:PureFn P f qs p) (hle:PLes ps qs):PureFn P f ps p :=
 PureFn.mk ⟨h.elim.1,fun M w vs hG hM hrel=>h.elim.2 M w vs hG hM (hle.rel hrel)⟩
theorem PureFn.of_dc {f:FuncId} {ps:List PV} {p:PV} (hc:q0y P f=true) {M:Nat->Prop} {w:World} {vs:List Value} (hdc:DC P M ⟨w,fun _ _=>False⟩ f (ps.map PV.dv) noHeap (fun d L'=>frz d L' (fun q _=>PLe q p)))
  (hG:Glb w) (hM:∀ b,M b->b<w.heap.size) (hrel:RelPs M w ps vs):Calls P f ⟨vs⟩ w fun e w'=>∃ v,e=.returned v/\RelP M w' p v/\Below w.heap.size w w':=by
 have hr:HR M ⟨w,fun _ _=>False⟩ (fun _=>⟨0,0⟩) noHeap w:=⟨Below.refl _ _,hM,fun k o hk=>(by cases hk),fun k o hk=>(by cases hk),fun k o k' o' hk=>(by cases hk),fun k o hk=>(by cases hk),Nat.le_refl _,Nat.le_refl _,hG⟩
 have hT:∀ b,Tot M (fun _=>⟨0,0⟩) noHeap b->M b:=fun b hb=>by
  rcases hb with hb|⟨k,o,hk,_⟩
  ·exact hb
  ·cases hk
 have hrel':RelPs (Tot M (fun _=>⟨0,0⟩) noHeap) w ps vs:=⟨hrel.1,fun i p v hp hv=>(hrel.2 i p v hp hv).sub hT⟩;refine (hdc.elim.2 _ w vs hr (unders_dv _ ps) hrel'.dv).mono ?_;rintro e w' (⟨v,he,μ',d,L',hK,hr',hv,hu,hs⟩|⟨v,_,μ',L',hX,_⟩)
 case inr=>exact hX.elim
 refine⟨v,he,?_,⟨hs.os,hs.tape,hs.output,hs.size,fun b hb=>hs.same b hb ?_⟩⟩
 ·obtain⟨q,L2,hq,hr2,_,h4⟩:=frz_rel d L' v _ hr' hv hu hK;exact hq.rel (h4.sub fun b hb=>.inl hb)
 ·rintro⟨k,o,_,hk,_⟩
  cases hk
theorem PureFn.introC (C:List Nat) (hm:P.follows .mixedOrders=true) {f:FuncId} {fn:Func} {c:Code} {ps:List PV} {p:PV} (hf:P.funcs[f]? = some fn) (hb:fn.body=some c) (hc:q0y P f=true)
  (h:∀ (M:Nat->Prop) (w0:W0),vc P M w0 ⟨fn.ntmps,0⟩ C 0 0 c (retQ P fn fun d L'=>frz d { L' with base:=0 } (fun q _=>PLe q p)) (argEnv (ps.map PV.dv) 0) noHeap) (hC:memB C rangeId=false:=by rfl):PureFn P f ps p :=
 PureFn.mk ⟨hc,fun M w vs hG hM hrel=>PureFn.of_dc hc (DC.introC (L:=noHeap) C hm hf hb hc (h M ⟨w,fun _ _=>False⟩) hC) hG hM hrel⟩
theorem PureFn.intro (hm:P.follows .mixedOrders=true) {f:FuncId} {fn:Func} {c:Code} {ps:List PV} {p:PV} (hf:P.funcs[f]? = some fn) (hb:fn.body=some c) (hc:q0y P f=true)
  (h:∀ (M:Nat->Prop) (w0:W0),vc P M w0 ⟨fn.ntmps,0⟩ [] 0 0 c (retQ P fn fun d L'=>frz d { L' with base:=0 } (fun q _=>PLe q p)) (argEnv (ps.map PV.dv) 0) noHeap):PureFn P f ps p:=PureFn.introC [] hm hf hb hc h
theorem PureFn.introR (C:List Nat) (hm:P.follows .mixedOrders=true) {f:FuncId} {fn:Func} {c:Code} {ps:List PV} {p:PV} (hf:P.funcs[f]? = some fn) (hb:fn.body=some c) (hc:q0y P f=true)
  (h:∀ (M:Nat->Prop) (w0:W0),vc P M w0.no ⟨fn.ntmps,0⟩ (rangeId::C) 0 0 c (retQ P fn fun d L'=>frz d { L' with base:=0 } (fun q _=>PLe q p)) (argEnv (ps.map PV.dv) 0) noHeap):PureFn P f ps p:=by
 exact PureFn.mk ⟨hc,fun M w vs hG hM hrel=>PureFn.of_dc hc (DC.introR (L:=noHeap) (w0:=⟨w,fun _ _=>False⟩) hm hf hb hc (rangeId::C) (h M ⟨w,fun _ _=>False⟩)) hG hM hrel⟩
theorem PureFn.dc {M:Nat->Prop} {w0:W0} {f:FuncId} {args:List DV} {L:DH} {K:DV->DH->Prop} {ps:List PV} {p:PV} (h:PureFn P f ps p) (hk:frzs args L fun qs L'=>PLes qs ps/\K p.dv L'):DC P M w0 f args L K:=by
 refine DC.mk ⟨h.elim.1,fun μ w vs hr hu ⟨hl,hrel⟩ => ?_⟩;obtain⟨qs,L',⟨hle,hK⟩,hr',hs,hql,hqs⟩:=frzs_rel args L vs _ hr hl hrel hu hk;refine (h.elim.2 (Tot M μ L') w vs (hr'.glb.ext hr'.ext) (fun b hb=>Tot.lt hr' hb) (hle.rel ⟨hql,hqs⟩)).mono ?_;rintro e w' ⟨v,rfl,hv,hbl⟩;obtain⟨hs2,hr2⟩:=hr'.more hbl;exact .inl ⟨v,rfl,μ,p.dv,L',hK,hr2,dv_rel hv,dv_under _ _,hs.trans hs2⟩
theorem PureFn.dcb {M:Nat->Prop} {w0:W0} {f:FuncId} {args:List DV} {L:DH} {K:DV->DH->Prop} {ps:List PV} {p:PV} (h:PureFn P f ps p) (hf:p.flat=true) (hk:brws args L fun qs=>PLes qs ps) (hK:K p.dv L):DC P M w0 f args L K:=by
 refine DCD.dc h.elim.1 ⟨p,?_,by simp[hf],hK⟩;exact brws_mono args L _ _ (fun qs e=>h.le e) hk
end
open Go.RowKit (Below)
section
variable {P:Program} {M:Nat->Prop} {w0:W0}
theorem RelV.re {T T':Nat->Prop} {w:World} {μ μ':Nat->Loc} {L L':DH} {n:Nat} {d:DV} {v:Value} (h:RelV T w μ L d v) (hu:d.under n=true) (hT:∀ b,T' b->T b)
  (hL:∀ k,k<n->L'.get k=L.get k/\μ' k=μ k):RelV T' w μ' L' d v:=by
 induction h with
 |pv p v h=>exact .pv p v (h.sub hT)
 |e0 a=>exact .e0 a
 |agg l vs h1 _ ih=>simp only[DV.under] at hu;exact .agg l vs h1 fun i d v hi hv=>ih i d v hi hv (unders_iff.1 hu i d hi)
 |tup l vs h1 _ ih=>simp only[DV.under] at hu;exact .tup l vs h1 fun i d v hi hv=>ih i d v hi hv (unders_iff.1 hu i d hi)
 |ref k c v h1 h2 =>
  simp only[DV.under,blt_iff] at hu;obtain⟨e1,e2⟩:=hL k hu;exact .ref k c v h1 fun cs hc=>by rw[e2];exact h2 cs (by rw[<- e1];exact hc)
 |aref k m i c v h1 h2 h3 =>
  simp only[DV.under,blt_iff] at hu;obtain⟨e1,e2⟩:=hL k hu;exact .aref k m i c v h1 (fun sz es hc=>by rw[e2];exact h2 sz es (by rw[<- e1];exact hc)) (fun es hc=>by rw[e2];exact h3 es (by rw[<- e1];exact hc))
 |eptr p c b off val h1 h2 h3 h4=>exact .eptr p c b off val (fun hb=>h1 (hT b hb)) h2 h3 fun j q hj=>(h4 j q hj).sub hT
 |buf k m v h1 h2 h3 =>
  simp only[DV.under,blt_iff] at hu;obtain⟨e1,e2⟩:=hL k hu;exact .buf k m v h1 (fun sz es hc=>by rw[e2];exact h2 sz es (by rw[<- e1];exact hc)) (fun es hc=>by rw[e2];exact h3 es (by rw[<- e1];exact hc))
 |vbuf k n v h1 h2 =>
  simp only[DV.under,blt_iff] at hu;obtain⟨e1,e2⟩:=hL k hu;exact .vbuf k n v h1 fun cs hc=>by rw[e2];exact h2 cs (by rw[<- e1];exact hc)
 |mp k v h1 h2 =>
  simp only[DV.under,blt_iff] at hu;obtain⟨e1,e2⟩:=hL k hu;exact .mp k v h1 fun es hc=>by rw[e2];exact h2 es (by rw[<- e1];exact hc)
 |clo f first caps fs cs h1 h2 _ _ ih1 ih2 =>
  simp only[DV.under,Bool.and_eq_true] at hu;exact .clo f first caps fs cs h1 h2 (fun i d v hi hv=>ih1 i d v hi hv (unders_iff.1 hu.1 i d hi)) (fun i d v hi hv=>ih2 i d v hi hv (unders_iff.1 hu.2 i d hi))
 |fnv v=>exact .fnv v
 |when c d v _ h2 ih=>exact .when c d v (fun hc=>ih hc (by simpa [DV.under,hc] using hu)) h2
 |raw v=>exact .raw v
 |any v=>exact .any v
theorem ObjRel.re {T T':Nat->Prop} {w:World} {μ μ':Nat->Loc} {L L':DH} {n k:Nat} {o:DObj} (h:ObjRel T w μ L k o) (hu:o.under n=true) (hk:μ' k=μ k) (hT:∀ b,T' b->T b)
  (hL:∀ k,k<n->L'.get k=L.get k/\μ' k=μ k):ObjRel T' w μ' L' k o:=by
 cases o with
 |var cs =>
  obtain⟨vs,ty,h1,h2,h3⟩:=h;exact⟨vs,ty,by rw[hk];exact h1,h2,fun i d v hi hv=>(h3 i d v hi hv).re (unders_iff.1 hu i d hi) hT hL⟩
 |arr sz es =>
  rcases h with⟨h1,h2⟩|⟨vs,ty,h1,h2,h3,h4,h5,h6⟩
  ·exact .inl ⟨by rw[hk];exact h1,h2⟩
  ·refine .inr ⟨vs,ty,by rw[hk];exact h1,by rw[hk];exact h2,by rw[hk];exact h3,by rw[hk];exact h4,h5,fun i p j q hp hq => ?_⟩;obtain⟨v,g1,g2⟩:=h6 i p j q hp hq;exact⟨v,g1,g2.sub hT⟩
 |fz l =>
  rcases h with⟨h1,h2⟩|⟨h1,h2,h3⟩
  ·exact .inl ⟨by rw[hk];exact h1,h2⟩
  ·exact .inr ⟨by rw[hk];exact h1,by rw[hk];exact h2,by rw[hk];exact h3.sub hT⟩
 |gone=>trivial
 |mp es =>
  obtain⟨ents,clock,h1,h2,h3⟩:=h;exact⟨ents,clock,by rw[hk];exact h1,h2,fun i kv e hi he=>⟨(h3 i kv e hi he).1.sub hT,(h3 i kv e hi he).2.sub hT⟩⟩
def DH.merge (L L':DH) (n:Nat):DH:={ L with get:=fun k=>bif Nat.blt k n then L'.get k else L.get k }
theorem merge_lt {L L':DH} {n k:Nat} (h:k<n):(L.merge L' n).get k=L'.get k:=by
 have:Nat.blt k n=true:=by simpa using h
 simp only[DH.merge,this,cond_true]
theorem merge_ge {L L':DH} {n k:Nat} (h:n<=k):(L.merge L' n).get k=L.get k:=by
 have:Nat.blt k n=false:=by
  cases hb:Nat.blt k n with
  |false=>rfl
  |true =>
       have:k<n:=by simpa using hb
       omega
 simp only[DH.merge,this,cond_false]
theorem DC.frame {f:FuncId} {args:List DV} {L H:DH} {K:DV->DH->Prop} (hag:∀ k,k<H.next->H.get k=L.get k) (hnone:∀ k,H.next<=k->H.get k=none) (hnx:H.next<=L.next) (hlo:H.lo=L.lo) (hlob:H.lo<=H.next)
  (hbase:H.base<=H.next) (hkeys:∀ k o,H.get k=some o->o.under H.next=true) (hargs:DV.unders H.next args=true)
  (h:∀ M,DC P M w0.no f args H fun d L'=>L'.next=H.next/\K d (L.merge L' H.next)):DC P M w0 f args L K:=by
 refine DC.mk ⟨(h M).elim.1,fun μ w vs hr hu hrel => ?_⟩
 have hlt:∀ k o,H.get k=some o->k<H.next:=fun k o hk=>by
  rcases Nat.lt_or_ge k H.next with h'|h'
  ·exact h'
  ·rw[hnone k h'] at hk;cases hk
 have hsub:∀ k o,H.get k=some o->L.get k=some o:=fun k o hk=>by rw[<- hag k (hlt k o hk)];exact hk
 let M':Nat->Prop:=fun b=>M b\/∃ k o,H.next<=k/\L.get k=some o/\y0c (μ k) o/\(μ k).blk=b
 have hT:∀ b,Tot M' μ H b↔Tot M μ L b:=fun b=>by
  constructor
  ·rintro ((hb|⟨k,o,_,h2,h3,h4⟩)|⟨k,o,h1,h2,h3⟩)
   ·exact .inl hb
   ·exact .inr ⟨k,o,h2,h3,h4⟩
   ·exact .inr ⟨k,o,hsub k o h1,h2,h3⟩
  ·rintro (hb|⟨k,o,h1,h2,h3⟩)
   ·exact .inl (.inl hb)
   ·rcases Nat.lt_or_ge k H.next with h'|h'
    ·exact .inr ⟨k,o,by rw[hag k h'];exact h1,h2,h3⟩
    ·exact .inl (.inr ⟨k,o,h',h1,h2,h3⟩)
 have hrH:HR M' w0 μ H w:=by
  refine⟨hr.ext,?_,fun k o hk=>⟨hlt k o hk,hkeys k o hk⟩,?_,?_,?_,hbase,hlob,hr.glb⟩
  ·rintro b (hb|⟨k,o,_,h2,h3,rfl⟩)
   ·exact hr.mlt b hb
   ·exact (hr.live k o h2 h3).1
  ·intro k o hk hl;obtain⟨g1,g2,g3⟩:=hr.live k o (hsub k o hk) hl;refine⟨g1,?_,by rw[hlo];exact g3⟩;rintro (hb|⟨k',o',hk',h2,h3,h4⟩)
   ·exact g2 hb
   ·have:=hr.inj k' o' k o h2 h3 (hsub k o hk) hl h4;have:=hlt k o hk;omega
  ·exact fun k o k' o' h1 h2 h3 h4 h5=>hr.inj k o k' o' (hsub k o h1) h2 (hsub k' o' h3) h4 h5
  ·intro k o hk;exact (hr.obj k o (hsub k o hk)).re (hkeys k o hk) rfl (fun b hb=>(hT b).1 hb) fun k hk=>⟨hag k hk,rfl⟩
 have hrelH:RelVs (Tot M' μ H) w μ H args vs:=⟨hrel.1,fun i d v hd hv=>(hrel.2 i d v hd hv).re (unders_iff.1 hargs i d hd) (fun b hb=>(hT b).1 hb) fun k hk=>⟨hag k hk,rfl⟩⟩;refine ((h M').elim.2 μ w vs (hrH.same rfl) hargs hrelH).mono ?_;intro e w' hfin;obtain⟨v,he,μ',d,L',⟨hn',hK⟩,hr',hv,hdu,hs⟩:=hfin.no;refine .inl ⟨v,he,(fun k=>if k<H.next then μ' k else μ k),d,L.merge L' H.next,hK,?_⟩;have hμlt:∀ k,k<H.next->(if k<H.next then μ' k else μ k)=μ' k:=fun k hk=>if_pos hk
 have hμge:∀ k,H.next<=k->(if k<H.next then μ' k else μ k)=μ k:=fun k hk=>if_neg (by omega)
 have hk':∀ k o,L'.get k=some o->k<H.next:=fun k o hk=>by have:=(hr'.keys k o hk).1;omega
 have hframe:∀ k o,H.next<=k->L.get k=some o->y0c (μ k) o->w'.heap[(μ k).blk]? = w.heap[(μ k).blk]? := by
  intro k o hk hg hl;refine hs.same _ (hr.live k o hg hl).1 ?_;rintro⟨j,o',h1,h2,h3,h4⟩;have:=hr.inj j o' k o (hsub j o' h2) h3 hg hl h4;have:=hlt j o' h2;omega
 have hW:∀ b,Wbl μ H b->Wbl μ L b:=by
  rintro b ⟨k,o,h1,h2,h3,h4⟩;exact⟨k,o,by rw[<- hlo];exact h1,hsub k o h2,h3,h4⟩
 have hstp:Stp L μ w (L.merge L' H.next) (fun k=>if k<H.next then μ' k else μ k) w':=by
  refine⟨⟨?_,?_,?_,?_⟩,hs.os,hs.tape,hs.output,hs.size,fun b hb hn=>hs.same b hb fun hw=>hn (hW b hw),?_,Nat.le_refl _,rfl,rfl⟩
  ·intro k cs' hkl hc
   rcases Nat.lt_or_ge k H.next with h'|h'
   ·rw[merge_lt h'] at hc;simp only[hμlt k h'];obtain⟨cs,h1,h2⟩:=hs.evo.var k cs' h' hc;exact⟨cs,hsub k _ h1,h2⟩
   ·rw[merge_ge h'] at hc;simp only[hμge k h'];exact⟨cs',hc,trivial⟩
  ·intro k cs' hkl hc
   rcases Nat.lt_or_ge k H.next with h'|h'
   ·rw[merge_lt h'] at hc;simp only[hμlt k h'];obtain⟨cs,h1,h2⟩:=hs.evo.mp k cs' h' hc;exact⟨cs,hsub k _ h1,h2⟩
   ·rw[merge_ge h'] at hc;simp only[hμge k h'];exact⟨cs',hc,trivial⟩
  ·intro k sz es' hkl hc
   rcases Nat.lt_or_ge k H.next with h'|h'
   ·rw[merge_lt h'] at hc;simp only[hμlt k h'];obtain⟨cs,h1,h2⟩:=hs.evo.arr k sz es' h' hc;exact⟨cs,hsub k _ h1,h2⟩
   ·rw[merge_ge h'] at hc;simp only[hμge k h'];exact⟨es',hc,.inr ⟨rfl,trivial⟩⟩
  ·intro k es' hkl hc
   rcases Nat.lt_or_ge k H.next with h'|h'
   ·rw[merge_lt h'] at hc;simp only[hμlt k h']
    rcases hs.evo.fz k es' h' hc with⟨h1,h2⟩|⟨sz,es,h1,h2⟩
    ·exact .inl ⟨hsub k _ h1,h2⟩
    ·exact .inr ⟨sz,es,hsub k _ h1,h2⟩
   ·rw[merge_ge h'] at hc;simp only[hμge k h'];exact .inl ⟨hc,trivial⟩
  ·intro k o hc hl
   rcases Nat.lt_or_ge k H.next with h'|h'
   ·rw[merge_lt h'] at hc;simp only[hμlt k h'] at hl |-
    rcases hs.blk k o hc hl with⟨h1,⟨o0,h2,h3⟩,h4⟩|h1
    ·exact .inl ⟨by omega,⟨o0,hsub k o0 h2,h3⟩,h4⟩
    ·exact .inr h1
   ·rw[merge_ge h'] at hc;simp only[hμge k h'] at hl |-;exact .inl ⟨(hr.keys k o hc).1,⟨o,hc,hl⟩,trivial⟩
 have hT':∀ b,Tot M (fun k=>if k<H.next then μ' k else μ k) (L.merge L' H.next) b->Tot M' μ' L' b:=by
  rintro b (hb|⟨k,o,h1,h2,h3⟩)
  ·exact .inl (.inl hb)
  ·rcases Nat.lt_or_ge k H.next with h'|h'
   ·rw[merge_lt h'] at h1;simp only[hμlt k h'] at h2 h3;exact .inr ⟨k,o,h1,h2,h3⟩
   ·rw[merge_ge h'] at h1;simp only[hμge k h'] at h2 h3;exact .inl (.inr ⟨k,o,h',h1,h2,h3⟩)
 have hL':∀ k,k<L'.next->(L.merge L' H.next).get k=L'.get k/\(if k<H.next then μ' k else μ k)=μ' k:=fun k hk=>by
  rw[hn'] at hk;exact⟨merge_lt hk,hμlt k hk⟩
 have hnew:∀ k o,L'.get k=some o->y0c (μ' k) o->∀ j oj,H.next<=j->L.get j=some oj->y0c (μ j) oj->(μ' k).blk≠(μ j).blk:=by
  intro k o hk hl j oj hj h2 h3 he;exact (hr'.live k o hk hl).2.1 (.inr ⟨j,oj,hj,h2,h3,he.symm⟩)
 refine⟨⟨hr'.ext,fun b hb=>hr'.mlt b (.inl hb),?_,?_,?_,?_,hr.base,hr.lob,hr.glb⟩,hv.re hdu hT' hL',DV.under_mono (by rw[hn'];exact hnx) d hdu,hstp⟩
 ·intro k o hk
  rcases Nat.lt_or_ge k H.next with h'|h'
  ·rw[merge_lt h'] at hk;exact⟨Nat.lt_of_lt_of_le h' hnx,DObj.under_mono (by rw[hn'];exact hnx) o (hr'.keys k o hk).2⟩
  ·rw[merge_ge h'] at hk;exact hr.keys k o hk
 ·intro k o hk hl
  rcases Nat.lt_or_ge k H.next with h'|h'
  ·rw[merge_lt h'] at hk;simp only[hμlt k h'] at hl |-;obtain⟨g1,g2,g3⟩:=hr'.live k o hk hl;refine⟨g1,fun hM=>g2 (.inl hM),fun hlo'=>g3 ?_⟩;rw[hs.lo,hlo];exact hlo'
  ·rw[merge_ge h'] at hk;simp only[hμge k h'] at hl |-;obtain⟨g1,g2,g3⟩:=hr.live k o hk hl;exact⟨Nat.lt_of_lt_of_le g1 hs.size,g2,g3⟩
 ·intro k o k' o' h1 h2 h3 h4 h5
  rcases Nat.lt_or_ge k H.next with g|g<;>rcases Nat.lt_or_ge k' H.next with g'|g'
  ·rw[merge_lt g] at h1;rw[merge_lt g'] at h3;simp only[hμlt k g,hμlt k' g'] at h2 h4 h5;exact hr'.inj k o k' o' h1 h2 h3 h4 h5
  ·rw[merge_lt g] at h1;rw[merge_ge g'] at h3;simp only[hμlt k g,hμge k' g'] at h2 h4 h5;exact absurd h5 (hnew k o h1 h2 k' o' g' h3 h4)
  ·rw[merge_ge g] at h1;rw[merge_lt g'] at h3;simp only[hμge k g,hμlt k' g'] at h2 h4 h5;exact absurd h5.symm (hnew k' o' h3 h4 k o g h1 h2)
  ·rw[merge_ge g] at h1;rw[merge_ge g'] at h3;simp only[hμge k g,hμge k' g'] at h2 h4 h5;exact hr.inj k o k' o' h1 h2 h3 h4 h5
 ·intro k o hk
  rcases Nat.lt_or_ge k H.next with h'|h'
  ·rw[merge_lt h'] at hk;exact (hr'.obj k o hk).re (hr'.keys k o hk).2 (hμlt k h') hT' hL'
  ·rw[merge_ge h'] at hk;exact (hr.obj k o hk).stp hstp (hμge k h') (hframe k o h' hk) (hr.keys k o hk).2
end
open Go.RowKit (Below)
section
variable {P:Program} {M:Nat->Prop} {w0:W0}
theorem HR.rebase {μ:Nat->Loc} {L:DH} {w:World} (h:HR M w0 μ L w) {b:Nat} (hb:b<=L.next):HR M w0 μ { L with base:=b } w :=
 ⟨h.ext,h.mlt,h.keys,h.live,h.inj,fun k o hk=>by
   have:=h.obj k o hk
   cases o with
   |var cs =>
    obtain⟨vs,ty,q1,q2,q3⟩:=this;exact⟨vs,ty,q1,q2,fun i d v hi hv=>(q3 i d v hi hv).base b⟩
   |arr=>exact this
   |fz=>exact this
   |gone=>trivial
   |mp=>exact this,hb,h.lob,h.glb⟩
theorem DC.weaken {f:FuncId} {args:List DV} {L:DH} {K:DV->DH->Prop} (h:DC P M w0 f args L fun d L'=>∃ d' nx Hl,Wk (fun _=>d) { L' with base:=L.next } [(0,d')] nx Hl/\K d' ⟨nx,L.lo,L.base,objsOf Hl⟩):DC P M w0 f args L K:=by
 refine DC.mk ⟨h.elim.1,fun μ w vs hr hu hrel=>(h.elim.2 μ w vs hr hu hrel).mono ?_⟩;rintro e w' (⟨v,he,μ',d,L',⟨d',nx,Hl,hk,hK⟩,hr',hv,hdu,hs⟩|hx)
 case inr=>exact .inr hx
 have hrb:=hr'.rebase (b:=L.next) hs.next;have hstp:Stp { L with base:=L.next } μ w { L' with base:=L.next } μ' w':=⟨⟨hs.evo.var,hs.evo.mp,hs.evo.arr,hs.evo.fz⟩,hs.os,hs.tape,hs.output,hs.size,hs.same,hs.blk,hs.next,hs.lo,rfl⟩;have h1:=hk.heap hrb;have h2:=hk.rel hrb (hk.env (0,d') (by simp)) (hv.base L.next) hdu;have h3:=hk.stp hrb hstp hk.base;have hb:L.base<=nx:=Nat.le_trans hr.base hk.base
 have e1:({ hOf { L' with base:=L.next } nx Hl with base:=L.base }:DH)=⟨nx,L.lo,L.base,objsOf Hl⟩:=by
  simp only[hOf,hs.lo]
 have h4:=h1.rebase (b:=L.base) hb;have h5:=h2.base L.base;rw[e1] at h4 h5;refine .inl ⟨v,he,newμ { L' with base:=L.next } μ',d',_,hK,h4,h5,hk.under (0,d') (by simp),?_⟩;exact⟨⟨h3.evo.var,h3.evo.mp,h3.evo.arr,h3.evo.fz⟩,hs.os,hs.tape,hs.output,hs.size,h3.same,h3.blk,h3.next,rfl,rfl⟩
def WkDs (L:DH) (Hl:List (Nat×DObj)):List DV->List DV->Prop
 | [],[]=>True
 |d::r,d'::r'=>WkD L Hl d d'/\WkDs L Hl r r'
 |_,_=>False
theorem WkDs.get {L:DH} {Hl:List (Nat×DObj)}:∀ {ds ds':List DV},WkDs L Hl ds ds'->ds.length=ds'.length/\∀ (i:Nat) d d',ds[i]? = some d->ds'[i]? = some d'->WkD L Hl d d'
 | [],[],_=>⟨rfl,fun i d d' h=>by simp at h⟩
 | [],_::_,h=>h.elim
 |_::_,[],h=>h.elim
 |d::ds,d'::ds',h=>by
  obtain⟨q1,q2⟩:=WkDs.get h.2;refine⟨by simp[q1],fun i x y hx hy => ?_⟩
  cases i with
  |zero=>simp at hx hy;subst hx;subst hy;exact h.1
  |succ i=>exact q2 i x y (by simpa using hx) (by simpa using hy)
theorem WkO.vars {L:DH} {Hl:List (Nat×DObj)} {k:Nat} {cs cs':List DV} (h:L.get k=some (.var cs)) (h2:WkDs L Hl cs cs'):WkO L Hl k (.var cs'):=.var k cs cs' h h2.get.1 h2.get.2
theorem WkD.new' {L:DH} {Hl:List (Nat×DObj)} {k n sz:Nat} (h1:L.get k=none) (h2:objsOf Hl k=some (.arr sz [])) (hn:n=0):WkD L Hl (.pv .nil) (.buf k n):=hn▸.new _ k sz (.inl rfl) h1 h2
theorem WkDs.rel {L:DH} {Hl:List (Nat×DObj)} {nx:Nat} {μ:Nat->Loc} {w:World} {E:Env} (hr:HR M w0 μ L w) (hk:Wk E L [] nx Hl):∀ {ds ds':List DV} {vs:List Value},WkDs L Hl ds ds'->DV.unders L.next ds=true->RelVs (Tot M μ L) w μ L ds vs ->
  RelVs (Tot M (newμ L μ) (hOf L nx Hl)) w (newμ L μ) (hOf L nx Hl) ds' vs
 | [],[],vs,_,_,h=>⟨h.1,fun i d v hd _=>by simp at hd⟩
 | [],_::_,vs,h,_,_=>h.elim
 |_::_,[],vs,h,_,_=>h.elim
 |d::ds,d'::ds',[],_,_,h=>by have:=h.1;simp at this
 |d::ds,d'::ds',v::vs,hd,hu,h=>by
  simp only[DV.unders,Bool.and_eq_true] at hu;have:=WkDs.rel (vs:=vs) hr hk hd.2 hu.2 ⟨by simpa using h.1,fun i p v hp hv=>h.2 (i+1) p v (by simpa using hp) (by simpa using hv)⟩;refine⟨by simp[this.1],fun i r u hr' hu' => ?_⟩
  cases i with
  |zero=>simp at hr' hu';subst hr';subst hu';exact hk.rel hr hd.1 (h.2 0 d v rfl rfl) hu.1
  |succ i=>exact this.2 i r u (by simpa using hr') (by simpa using hu')
theorem DC.wkIn {f:FuncId} {args args':List DV} {L:DH} {nx:Nat} {Hl:List (Nat×DObj)} {K:DV->DH->Prop} (h:DC P M w0 f args' ⟨nx,L.lo,L.base,objsOf Hl⟩ K) (hk:Wk (fun _=>.any) L [] nx Hl) (hnx:L.next<=nx)
  (hd:WkDs L Hl args args') (hu':DV.unders nx args'=true):DC P M w0 f args L K:=by
 refine DC.mk ⟨h.elim.1,fun μ w vs hr hu hrel => ?_⟩;refine (h.elim.2 (newμ L μ) w vs (hk.heap hr) hu' (hd.rel hr hk hu hrel)).mono ?_;have h0:=hk.stp hr (Stp.refl L μ w fun k o hk=>(hr.keys k o hk).1) hnx;rintro e w' (⟨v,he,μ',d,L',hK,hr',hv,hdu,hs⟩|⟨v,he,μ',L',hX,hr',hs⟩)
 ·exact .inl ⟨v,he,μ',d,L',hK,hr',hv,hdu,h0.trans hs⟩
 ·exact .inr ⟨v,he,μ',L',hX,hr',h0.trans hs⟩
theorem DC.alone {f:FuncId} {args:List DV} {L:DH} {K:DV->DH->Prop} {p:PV} (hu:DV.unders 0 args=true) (h:∀ M w0,DC P M w0 f args noHeap fun d L'=>frz d L' fun q _=>PLe q p) (hK:K p.dv L):DC P M w0 f args L K:=by
 refine DC.mk ⟨(h M w0.no).elim.1,fun μ w vs hr hun hrel => ?_⟩;have hr0:HR (Tot M μ L) ⟨w,fun _ _=>False⟩ (fun _=>⟨0,0⟩) noHeap w:=⟨Below.refl _ _,fun b hb=>Tot.lt hr hb,fun k o hk=>(by cases hk),fun k o hk=>(by cases hk),fun k o k' o' hk=>(by cases hk),fun k o hk=>(by cases hk),Nat.le_refl _,Nat.le_refl _,hr.glb.ext (hr.ext.mono (Nat.le_refl _))⟩
 have hT:∀ b,Tot (Tot M μ L) (fun _=>⟨0,0⟩) noHeap b->Tot M μ L b:=fun b hb=>by
  rcases hb with hb|⟨k,o,hk,_⟩
  ·exact hb
  ·cases hk
 have hrel0:RelVs (Tot (Tot M μ L) (fun _=>⟨0,0⟩) noHeap) w (fun _=>⟨0,0⟩) noHeap args vs :=
  ⟨hrel.1,fun i d v hd hv=>(hrel.2 i d v hd hv).re (unders_iff.1 hu i d hd) hT fun k hk=>by omega⟩
 refine ((h _ ⟨w,fun _ _=>False⟩).elim.2 _ w vs hr0 hu hrel0).mono ?_;rintro e w' (⟨v,he,μ',d,L',hfr,hr',hv,hdu,hs⟩|⟨v,_,μ',L',hX,_⟩)
 case inr=>exact hX.elim
 obtain⟨q,L2,hq,hr2,_,h4⟩:=frz_rel d L' v _ hr' hv hdu hfr;have hbl:Below w.heap.size w w':=⟨hs.os,hs.tape,hs.output,hs.size,fun b hb=>hs.same b hb fun ⟨k,o,_,hk,_⟩=>by cases hk⟩;obtain⟨hs2,hr3⟩:=hr.more hbl;exact .inl ⟨v,he,μ,p.dv,L,hK,hr3,dv_rel (hq.rel (h4.sub fun b hb=>.inl hb)),dv_under _ _,hs2⟩
theorem PureFn.dcq {f:FuncId} {args:List DV} {L:DH} {K:DV->DH->Prop} (hcb:q0y P f=true) (hk:frzs args L fun qs L'=>∃ ps p,PureFn P f ps p/\PLes qs ps/\K p.dv L'):DC P M w0 f args L K:=by
 refine DC.mk ⟨hcb,fun μ w vs hr hu ⟨hl,hrel⟩ => ?_⟩;obtain⟨qs,L',⟨ps,p,h,hle,hK⟩,hr',hs,hql,hqs⟩:=frzs_rel args L vs _ hr hl hrel hu hk;refine (h.elim.2 (Tot M μ L') w vs (hr'.glb.ext hr'.ext) (fun b hb=>Tot.lt hr' hb) (hle.rel ⟨hql,hqs⟩)).mono ?_;rintro e w' ⟨v,rfl,hv,hbl⟩;obtain⟨hs2,hr2⟩:=hr'.more hbl;exact .inl ⟨v,rfl,μ,p.dv,L',hK,hr2,dv_rel hv,dv_under _ _,hs.trans hs2⟩
theorem frzs_pv:∀ (l:List PV) {L:DH} {F:List PV->DH->Prop},F l L->frzs (l.map DV.pv) L F
 | [],_,_,h=>h
 |p::r,L,F,h=>by
  show frz (.pv p) L _
  exact frzs_pv r h
theorem frz_dv0 (p:PV) {L:DH} {F:PV->DH->Prop} (h:F p L):frz p.dv0 L F:=by
 cases p with
 |agg l=>exact frzs_pv l (F:=fun ps L'=>F (.agg ps) L') h
 |_=>exact h
theorem frzs_dv0:∀ (l:List PV) {L:DH} {F:List PV->DH->Prop},F l L->frzs (l.map PV.dv0) L F
 | [],_,_,h=>h
 |p::r,L,F,h=>by
  show frz p.dv0 L _
  exact frz_dv0 p (frzs_dv0 r h)
theorem frz_dv (p:PV) {L:DH} {F:PV->DH->Prop} (h:F p L):frz p.dv L F:=by
 cases p with
 |agg l=>exact frzs_pv l (F:=fun ps L'=>F (.agg ps) L') h
 |tup l=>exact frzs_dv0 l (F:=fun ps L'=>F (.tup ps) L') h
 |_=>exact h
theorem frzs_dv:∀ (l:List PV) {L:DH} {F:List PV->DH->Prop},F l L->frzs (l.map PV.dv) L F
 | [],_,_,h=>h
 |p::r,L,F,h=>by
  show frz p.dv L _
  exact frz_dv p (frzs_dv r h)
theorem PLes.r:∀ l:List PV,PLes l l
 | []=>trivial
 |p::r=>⟨.refl p,PLes.r r⟩
theorem PureFn.dy {f:FuncId} {args:List DV} {L:DH} {K:DV->DH->Prop} {ps:List PV} {p:PV} (h:PureFn P f ps p) (ha:args=ps.map PV.dv) (hk:K p.dv L):DC P M w0 f args L K:=by
 subst ha;exact h.dc (frzs_dv ps ⟨PLes.r ps,hk⟩)
theorem tf {X:Bool} {p:Prop} (h:X=true) (h2:X=false):p:=by rw[h] at h2;cases h2
theorem tf0 {p:Prop} (h:true=false):p:=by cases h
theorem ft0 {p:Prop} (h:false=true):p:=by cases h
theorem nt0 {p:Prop} (h:(!true)=true):p:=by cases h
theorem nf0 {p:Prop} (h:(!false)=false):p:=by cases h
theorem q0i {P:Program} {t:TypeId} (h:infoB P t=true):infoB P t=true:=h
theorem bleI {a b:Nat} (h:Nat.ble a b=true):Nat.ble a b=true:=h
theorem fitI {P:Program} {t:TypeId} {p:PV} (h:fitT P t p=true):fitT P t p=true:=h
theorem q0p {n:Nat} {l:List PV} (h:y0a n l=true):y0a n l=true:=h
theorem szI {P:Program} {t:TypeId} {d:DV} (h:d.cells.length=z0k P t):d.cells.length=z0k P t:=h
theorem q0x {b:Bool} (h:b=false):(!b)=true:=by rw[h];rfl
theorem and_of {a b:Bool} (h1:a=true) (h2:b=true):(a && b)=true:=by rw[h1,h2];rfl
theorem left_of {a b:Bool} (h:(a && b)=true):a=true:=by cases a<;>simp_all
theorem z0n {a b:Bool} (h:a=b):PLe (.bool a) (.bool b):=h▸.refl _
theorem q0r {k:IntKind} {a b:Int} (h:a=b):PLe (.int k a) (.int k b):=h▸.refl _
def wkE (e:Env) (L:DH) (H:List (Nat×DObj)):List (Nat×DV)->Prop
 | []=>True
 |q::r=>WkD L H (e q.1) q.2/\wkE e L H r
def wkH (L:DH) (H:List (Nat×DObj)):List (Nat×DObj)->Prop
 | []=>True
 |q::r=>WkO L H q.1 q.2/\(match L.get q.1 with|some _=>True|none=>Nat.ble L.next q.1=true)/\wkH L H r
def wkU (nx:Nat) (E:List (Nat×DV)) (H:List (Nat×DObj)):Bool:=(E.all fun q=>q.2.under nx) && H.all fun q=>Nat.blt q.1 nx && q.2.under nx
theorem Wk.sm {e:Env} {L:DH} {E:List (Nat×DV)} {nx:Nat} {H:List (Nat×DObj)} (h1:(E.map fun q=>e q.1)=E.map Prod.snd) (h2:(H.map fun q=>L.get q.1)=H.map fun q=>some q.2) (h3:wkU nx E H=true) (h4:Nat.ble L.lo nx=true) (h5:Nat.ble L.base nx=true):Wk e L E nx H:=by
 have g1:=List.map_inj_left.1 h1;have g2:=List.map_inj_left.1 h2;simp only[wkU,Bool.and_eq_true,List.all_eq_true] at h3;exact⟨fun q hq=>g1 q hq▸.same _,fun q hq=>.same _ _ (g2 q hq),h3.1,h3.2,Nat.le_of_ble_eq_true h4,Nat.le_of_ble_eq_true h5,fun q hq hn=>by rw[g2 q hq] at hn;cases hn⟩
theorem Wk.s {e:Env} {L:DH} {E:List (Nat×DV)} {nx:Nat} {H:List (Nat×DObj)} (h:((E.map fun q=>e q.1),(H.map fun q=>L.get q.1),wkU nx E H,Nat.ble L.lo nx,Nat.ble L.base nx)=(E.map Prod.snd,(H.map fun q=>some q.2),true,true,true)):Wk e L E nx H :=
 Wk.sm (congrArg (fun z=>z.1) h) (congrArg (fun z=>z.2.1) h) (congrArg (fun z=>z.2.2.1) h) (congrArg (fun z=>z.2.2.2.1) h) (congrArg (fun z=>z.2.2.2.2) h)
theorem Wk.of {e:Env} {L:DH} {E:List (Nat×DV)} {nx:Nat} {H:List (Nat×DObj)} (h1:wkE e L H E) (h2:wkH L H H) (h3:wkU nx E H=true) (h4:Nat.ble L.lo nx=true) (h5:Nat.ble L.base nx=true):Wk e L E nx H:=by
 simp only[wkU,Bool.and_eq_true,List.all_eq_true] at h3
 have g1:∀ (l:List (Nat×DV)),wkE e L H l->∀ q,q∈l->WkD L H (e q.1) q.2:=by
  intro l
  induction l with
  |nil=>intro _ q hq;simp at hq
  |cons x r ih =>
   intro h q hq
   rcases List.mem_cons.1 hq with rfl|hq
   ·exact h.1
   ·exact ih h.2 q hq
 have g2:∀ (l:List (Nat×DObj)),wkH L H l->∀ q,q∈l->WkO L H q.1 q.2/\(L.get q.1=none->L.next<=q.1):=by
  intro l
  induction l with
  |nil=>intro _ q hq;simp at hq
  |cons x r ih =>
   intro h q hq
   rcases List.mem_cons.1 hq with rfl|hq
   ·refine⟨h.1,fun hn => ?_⟩;have:=h.2.1;rw[hn] at this;simpa using this
   ·exact ih h.2.2 q hq
 exact⟨fun q hq=>g1 E h1 q hq,fun q hq=>(g2 H h2 q hq).1,fun q hq=>h3.1 q hq,fun q hq=>h3.2 q hq,by simpa using h4,by simpa using h5,fun q hq=>(g2 H h2 q hq).2⟩
theorem WkD.eq {L:DH} {H:List (Nat×DObj)} {d d':DV} (h:d=d'):WkD L H d d':=h▸.same d
theorem WkD.int {L:DH} {H:List (Nat×DObj)} {k:IntKind} {a b:Int} (h:a=b):WkD L H (.pv (.int k a)) (.pv (.int k b)):=h▸.same _
theorem wrap_small {n:Int} (h1 : -9223372036854775808<=n) (h2:n<=9223372036854775807):IntKind.wrap .i64 n=n:=IntWalk.i64_in n ⟨h1,h2⟩
def agr (g g':Nat->Option DObj):Nat->Prop
 |0=>True
 |n+1=>g n=g' n/\agr g g' n
theorem agr_lt {g g':Nat->Option DObj}:∀ {n:Nat},agr g g' n->∀ k,k<n->g k=g' k
 |0,_,k,h=>by omega
 |n+1,ha,k,h=>by
  by_cases e:k=n
  ·subst e;exact ha.1
  ·exact agr_lt ha.2 k (by omega)
theorem DC.call {f:FuncId} {args:List DV} {L:DH} {K:DV->DH->Prop} (n:Nat) (Hl:List (Nat×DObj)) (hag:agr (objsOf Hl) L.get n) (hu:wkU n [] Hl=true) (hnx:Nat.ble n L.next=true) (hlo:Nat.ble L.lo n=true) (hargs:DV.unders n args=true)
  (h:∀ M,DC P M w0.no f args ⟨n,L.lo,n,objsOf Hl⟩ fun d L'=>L'.next=n/\K d (L.merge L' n)):DC P M w0 f args L K:=by
 simp only[wkU,List.all_nil,Bool.true_and,List.all_eq_true,Bool.and_eq_true] at hu;refine DC.frame (H:=⟨n,L.lo,n,objsOf Hl⟩) (fun k hk=>agr_lt hag k hk) (fun k hk => ?_) (by simpa using hnx) rfl (by simpa using hlo) (Nat.le_refl n) (fun k o hk=>(hu _ (objsOf_mem hk)).2) hargs h
 cases hg:objsOf Hl k with
 |none=>exact hg
 |some o =>
  have:=(hu _ (objsOf_mem hg)).1;have:k<n:=by simpa using this
  simp only at hk;omega
end
end Go.Dv
set_option maxRecDepth 100000
set_option maxHeartbeats 2000000
namespace Go.Proofs.YtejbieopeicgkaaGreatDoor
open Go Go.Dv
theorem mixed:Tryz.prog.follows .mixedOrders=true:=by kernel_rfl
structure Nd where
 op:Int
 i:Int
 e:Int
 g:Int
 x:Int
 y:Int
 deriving DecidableEq
def Nd.pv (n:Nd):PV:=.agg [.int .i64 n.op,.int .i64 n.i,.int .i64 n.e,.int .i64 n.g,.int .i64 n.x,.int .i64 n.y]
def q0n (op:Int):Bool:=decide (4<=op) && decide (op<=21)
def q0o (op:Int):Bool:=decide (5<=op) && decide (op<=8)||op==13||op==14||op==16||op==19||op==21
def z0r (op:Int):Bool:=op==9||op==10||op==14||op==15
def z0y (op:Int):Bool:=decide (11<=op) && decide (op<=13)
def z0e (n:Nd) (at_:Int):Int :=
 bif bif decide (n.op<1) then true else decide (n.op>21) then 10
 else bif bif bif q0n n.op then bif decide (n.x<0) then true else decide (n.x>=at_) else false then true else bif !q0n n.op then n.x != 0 else false then 3
 else bif bif bif q0o n.op then bif decide (n.y<0) then true else decide (n.y>=at_) else false then true else bif !q0o n.op then n.y != 0 else false then 3
 else bif bif bif bif !(bif bif n.op==3 then true else z0r n.op then true else n.op==17) then n.i != 0 else false then true else bif n.op != 17 then n.e != 0 else false then true else bif !z0y n.op then n.g != 0 else false then 3
 else bif bif bif n.op==3 then bif decide (n.i<0) then true else decide (n.i>=8) else false then true else bif z0r n.op then bif decide (n.i<0) then true else decide (n.i>=4) else false then 2
 else bif bif n.op==17 then bif bif bif decide (n.i<0) then true else decide (n.i>=8) then true else decide (n.e<0) then true else decide (n.e>=8) else false then 2
 else bif bif z0y n.op then bif decide (n.g<1) then true else decide (n.g>=16) else false then 2
 else 0
theorem ref_UsesX (op:Int):PureFn Tryz.prog 201 [.int .i64 op] (.bool (q0n op)):=by
 refine PureFn.intro mixed (fn:=Tryz.f201) rfl rfl rfl fun M w0 => ?_
 (try conv=>whnf);repeat' (first|((first|apply And.intro|intro h)<;>try conv=>whnf)|apply True.intro|(apply WhenQ.mk;(try conv=>whnf);rotate_left;(try conv=>whnf);rotate_right)|with_reducible assumption)
 all_goals (refine z0n ?_;simp_all [q0n];try omega)
theorem ref_UsesY (op:Int):PureFn Tryz.prog 202 [.int .i64 op] (.bool (q0o op)):=by
 refine PureFn.intro mixed (fn:=Tryz.f202) rfl rfl rfl fun M w0 => ?_
 (try conv=>whnf);repeat' (first|((first|apply And.intro|intro h)<;>try conv=>whnf)|apply True.intro|(apply WhenQ.mk;(try conv=>whnf);rotate_left;(try conv=>whnf);rotate_right)|with_reducible assumption|(apply q0x;with_reducible assumption))
 all_goals (refine z0n ?_;simp_all [q0o];try omega)
theorem ref_agent (op:Int):PureFn Tryz.prog 224 [.int .i64 op] (.bool (z0r op)):=by
 refine PureFn.intro mixed (fn:=Tryz.f224) rfl rfl rfl fun M w0 => ?_
 (try conv=>whnf);repeat' (first|((first|apply And.intro|intro h)<;>try conv=>whnf)|apply True.intro|(apply WhenQ.mk;(try conv=>whnf);rotate_left;(try conv=>whnf);rotate_right)|with_reducible assumption|(apply q0x;with_reducible assumption))
 all_goals (refine z0n ?_;simp_all [z0r];try omega)
theorem ref_group (op:Int):PureFn Tryz.prog 225 [.int .i64 op] (.bool (z0y op)):=by
 refine PureFn.intro mixed (fn:=Tryz.f225) rfl rfl rfl fun M w0 => ?_
 (try conv=>whnf);repeat' (first|((first|apply And.intro|intro h)<;>try conv=>whnf)|apply True.intro|(apply WhenQ.mk;(try conv=>whnf);rotate_left;(try conv=>whnf);rotate_right)|with_reducible assumption)
 all_goals (refine z0n ?_;simp_all [z0y];try omega)
theorem ref_node (n:Nd) (at_:Int):PureFn Tryz.prog 196 [n.pv,.int .i64 at_] (.int .i64 (z0e n at_)):=by
 refine PureFn.intro mixed (fn:=Tryz.f196) rfl rfl rfl fun M w0 => ?_
 (try conv=>whnf);repeat' (first|((first|apply And.intro|intro h)<;>try conv=>whnf)|apply True.intro|(apply WhenQ.mk;(try conv=>whnf);rotate_left;(try conv=>whnf);rotate_right)|with_reducible assumption|(apply q0x;with_reducible assumption)|(apply and_of<;>first|with_reducible assumption|(apply q0x;with_reducible assumption))|(refine PureFn.dcq (f:=201) rfl ?_;try conv=>whnf)|(refine PureFn.dcq (f:=202) rfl ?_;try conv=>whnf)|(refine PureFn.dcq (f:=224) rfl ?_;try conv=>whnf)|(refine PureFn.dcq (f:=225) rfl ?_;try conv=>whnf)|(refine⟨_,_,ref_UsesX ?_,?_,?_⟩;rotate_left 1;(focus refine⟨?_,trivial⟩<;>first|exact PLe.refl _|exact PLe.nil);try conv=>whnf)|(refine⟨_,_,ref_UsesY ?_,?_,?_⟩;rotate_left 1;(focus refine⟨?_,trivial⟩<;>first|exact PLe.refl _|exact PLe.nil);try conv=>whnf)|(refine⟨_,_,ref_agent ?_,?_,?_⟩;rotate_left 1;(focus refine⟨?_,trivial⟩<;>first|exact PLe.refl _|exact PLe.nil);try conv=>whnf)|(refine⟨_,_,ref_group ?_,?_,?_⟩;rotate_left 1;(focus refine⟨?_,trivial⟩<;>first|exact PLe.refl _|exact PLe.nil);try conv=>whnf)|fail)
 all_goals (refine q0r ?_;unfold z0e;simp only[*,cond_true,cond_false])
def frag (op:Int):Int :=
 bif op==9||op==10 then 1 else bif decide (11<=op) && decide (op<=17) then 2^(op-10).toNat else bif decide (18<=op) && decide (op<=21) then 256 else 0
def usesPV (op:Int):PV :=
 .tup [.agg [.bool (q0n op),.bool (q0o op),.bool (op==3),.bool (z0r op),.bool (z0y op),.bool (op==17),.int .i64 (frag op)],.bool (decide (1<=op) && decide (op<=21))]
theorem fm_uses (op:Int):PureFn Tryz.prog 120 [.int .i64 op] (usesPV op):=by
 refine PureFn.intro mixed (fn:=Tryz.f120) rfl rfl rfl fun M w0 => ?_
 (try conv=>whnf);repeat' (first|(apply And.intro<;>try conv=>whnf)|(intro h;first|with_reducible exact tf (by assumption) h|try conv=>whnf))
 all_goals (
  refine (?_:usesPV op=_)▸PLe.refl _
  first
  |(have hk:=eq_of_beq (by with_reducible assumption:(op==_)=true);subst hk;rfl)
  |(have hx:q0n op=false:=by simp only[beq_eq_false_iff_ne,ne_eq] at *;simp[q0n];omega
    have hy:q0o op=false:=by simp only[beq_eq_false_iff_ne,ne_eq] at *;simp[q0o];omega
    have ha:z0r op=false:=by simp only[z0r, *];rfl
    have hg:z0y op=false:=by simp only[beq_eq_false_iff_ne,ne_eq] at *;simp[z0y];omega
    have hr:(decide (1<=op) && decide (op<=21))=false:=by simp only[beq_eq_false_iff_ne,ne_eq] at *;simp;omega
    have hf:frag op=0:=by
     have q1:(decide (11<=op) && decide (op<=17))=false:=by simp only[beq_eq_false_iff_ne,ne_eq] at *;simp;omega
     have q2:(decide (18<=op) && decide (op<=21))=false:=by simp only[beq_eq_false_iff_ne,ne_eq] at *;simp;omega
     simp only[frag, *];rfl
    simp only[usesPV, *]))
set_option maxHeartbeats 4000000
def operandOk (used:Bool) (field at_:Int):Bool:=bif bif bif used then decide (field>=0) else false then decide (field<at_) else false then true else bif !used then field==0 else false
def outside (used:Bool) (v low high:Int):Bool:=bif used then bif decide (v<low) then true else decide (v>high) else false
theorem fm_operand (used:Bool) (field at_:Int):PureFn Tryz.prog 151 [.bool used,.int .i64 field,.int .i64 at_] (.bool (operandOk used field at_)):=by
 refine PureFn.intro mixed (fn:=Tryz.f151) rfl rfl rfl fun M w0 => ?_
 (try conv=>whnf);repeat' (first|((first|apply And.intro|intro h)<;>try conv=>whnf)|apply True.intro|(apply WhenQ.mk;(try conv=>whnf);rotate_left;(try conv=>whnf);rotate_right)|with_reducible assumption|(apply q0x;with_reducible assumption)|(apply and_of<;>first|with_reducible assumption|(apply q0x;with_reducible assumption)))
 all_goals exact PLe.refl _
theorem fm_outside (used:Bool) (v low high:Int):PureFn Tryz.prog 152 [.bool used,.int .i64 v,.int .i64 low,.int .i64 high] (.bool (outside used v low high)):=by
 refine PureFn.intro mixed (fn:=Tryz.f152) rfl rfl rfl fun M w0 => ?_
 (try conv=>whnf);repeat' (first|((first|apply And.intro|intro h)<;>try conv=>whnf)|apply True.intro|(apply WhenQ.mk;(try conv=>whnf);rotate_left;(try conv=>whnf);rotate_right)|with_reducible assumption|(apply and_of<;>first|with_reducible assumption|(apply q0x;with_reducible assumption)))
 all_goals exact PLe.refl _
theorem operandOk_not (u:Bool) (f a:Int):(!operandOk u f a)=(bif bif u then bif decide (f<0) then true else decide (f>=a) else false then true else bif !u then f != 0 else false):=by
 unfold operandOk
 cases u with
 |true=>simp only[cond_true,Bool.not_true,cond_false];by_cases a1:f<0<;>by_cases a2:f>=a<;>simp[a1,a2]<;>omega
 |false=>simp only[cond_false,Bool.not_false,cond_true,bne]
theorem outside_to (u:Bool) (v a b:Int):outside u v a (b-1)=(bif u then bif decide (v<a) then true else decide (v>=b) else false):=by
 unfold outside
 cases u with
 |true=>simp only[cond_true];rw[Bool.eq_iff_iff];simp;omega
 |false=>rfl
def nodeErrF (n:Nd) (at_:Int):Int :=
 bif !(decide (1<=n.op) && decide (n.op<=21)) then 10
 else bif bif !operandOk (q0n n.op) n.x at_ then true else !operandOk (q0o n.op) n.y at_ then 3
 else bif bif bif bif !(bif bif n.op==3 then true else z0r n.op then true else n.op==17) then n.i != 0 else false then true else bif !(n.op==17) then n.e != 0 else false then true else bif !z0y n.op then n.g != 0 else false then 3
 else bif bif bif bif bif outside (n.op==3) n.i 0 7 then true else outside (z0r n.op) n.i 0 3 then true else outside (n.op==17) n.i 0 7 then true else outside (n.op==17) n.e 0 7 then true else outside (z0y n.op) n.g 1 15 then 2
 else 0
theorem nodeErrF_eq (n:Nd) (at_:Int):nodeErrF n at_=z0e n at_:=by
 have h0:(!(decide (1<=n.op) && decide (n.op<=21)))=(bif decide (n.op<1) then true else decide (n.op>21)):=by
  rw[Bool.eq_iff_iff];by_cases a1:n.op<1<;>by_cases a2:n.op>21<;>simp[a1,a2]<;>omega
 have hb:(!(n.op==17))=(n.op != 17):=rfl;have o1:=outside_to (n.op==3) n.i 0 8;have o2:=outside_to (z0r n.op) n.i 0 4;have o3:=outside_to (n.op==17) n.i 0 8;have o4:=outside_to (n.op==17) n.e 0 8;have o5:=outside_to (z0y n.op) n.g 1 16;simp only[show (8:Int)-1=7 from rfl,show (4:Int)-1=3 from rfl,show (16:Int)-1=15 from rfl] at o1 o2 o3 o4 o5;unfold nodeErrF z0e;rw[h0,hb,operandOk_not,operandOk_not,o1,o2,o3,o4,o5];generalize (bif decide (n.op<1) then true else decide (n.op>21))=c1;generalize (bif bif q0n n.op then bif decide (n.x<0) then true else decide (n.x>=at_) else false then true else bif !q0n n.op then n.x != 0 else false)=c2;generalize (bif bif q0o n.op then bif decide (n.y<0) then true else decide (n.y>=at_) else false then true else bif !q0o n.op then n.y != 0 else false)=c3;generalize (bif n.op==3 then bif decide (n.i<0) then true else decide (n.i>=8) else false)=c4;generalize (bif z0r n.op then bif decide (n.i<0) then true else decide (n.i>=4) else false)=c5;generalize (bif z0y n.op then bif decide (n.g<1) then true else decide (n.g>=16) else false)=c6;generalize (bif decide (n.i<0) then true else decide (n.i>=8))=c7;generalize decide (n.e<0)=c8;generalize decide (n.e>=8)=c9;generalize (bif bif bif !(bif bif n.op==3 then true else z0r n.op then true else n.op==17) then n.i != 0 else false then true else bif n.op != 17 then n.e != 0 else false then true else bif !z0y n.op then n.g != 0 else false)=c10;generalize (n.op==17)=c11
 cases c1
 ·cases c2
  ·cases c3
   ·cases c10
    ·cases c4<;>cases c5<;>cases c6<;>cases c7<;>cases c8<;>cases c9<;>cases c11<;>rfl
    ·rfl
   ·rfl
  ·rfl
 ·rfl
theorem fm_nodeError (n:Nd) (at_:Int):PureFn Tryz.prog 117 [n.pv,.int .i64 at_] (.int .i64 (z0e n at_)):=by
 rw[<- nodeErrF_eq];refine PureFn.intro mixed (fn:=Tryz.f117) rfl rfl rfl fun M w0 => ?_
 (try conv=>whnf);repeat' (first|((first|apply And.intro|intro h)<;>try conv=>whnf)|apply True.intro|(apply WhenQ.mk;(try conv=>whnf);rotate_left;(try conv=>whnf);rotate_right)|with_reducible assumption|(apply q0x;with_reducible assumption)|(apply and_of<;>first|with_reducible assumption|(apply q0x;with_reducible assumption))|(refine PureFn.dcq (f:=120) rfl ?_;try conv=>whnf)|(refine PureFn.dcq (f:=151) rfl ?_;try conv=>whnf)|(refine PureFn.dcq (f:=152) rfl ?_;try conv=>whnf)|(refine⟨_,_,fm_uses ?_,?_,?_⟩;rotate_left 1;(focus refine⟨?_,trivial⟩<;>first|exact PLe.refl _|exact PLe.nil);try conv=>whnf)|(refine⟨_,_,fm_operand ?_ ?_ ?_,?_,?_⟩;rotate_left 3;(focus refine⟨?_,?_,?_,trivial⟩<;>first|exact PLe.refl _|exact PLe.nil);try conv=>whnf)|(refine⟨_,_,fm_outside ?_ ?_ ?_ ?_,?_,?_⟩;rotate_left 4;(focus refine⟨?_,?_,?_,?_,trivial⟩<;>first|exact PLe.refl _|exact PLe.nil);try conv=>whnf)|fail)
 all_goals (refine q0r ?_;unfold nodeErrF;simp only[*,cond_true,cond_false])
def firstErr:List Nd->Nat->Int
 | [],_=>0
 |n::r,i=>bif z0e n i != 0 then z0e n i else firstErr r (i+1)
def z0b (f:List Nd):Int:=bif (f.length:Int)==0 then 3 else bif decide ((f.length:Int)>200) then 8 else firstErr f 0
def fpv (f:List Nd):PV:=.sl (f.map Nd.pv)
theorem firstErr_drop {f:List Nd} {i:Nat} (h:i<f.length):firstErr (f.drop i) i=bif z0e f[i] i != 0 then z0e f[i] i else firstErr (f.drop (i+1)) (i+1):=by
 rw[List.drop_eq_getElem_cons h];rfl
theorem check_of {f:List Nd} (h1:((f.map Nd.pv).length==(0:Int))=false) (h2:decide (((f.map Nd.pv).length:Int)>200)=false):z0b f=firstErr f 0:=by
 simp only[List.length_map] at h1 h2;simp only[z0b,h1,h2,cond_false]
theorem fm_Check (f:List Nd):PureFn Tryz.prog 86 [fpv f] (.int .i64 (z0b f)):=by
 refine PureFn.intro mixed (fn:=Tryz.f86) rfl rfl rfl fun M w0 => ?_
 (try conv=>whnf);repeat' (first|((first|apply And.intro|intro h)<;>try conv=>whnf))
 ·simp only[List.length_map] at h;refine q0r ?_;simp only[z0b,h,cond_true]
 ·rename_i h2;simp only[List.length_map] at h h2;refine q0r ?_;simp only[z0b,h,h2,cond_true,cond_false]
 ·rename_i h2;have hck:=check_of h2 h;have hlen:f.length<=200:=by simp at h;omega
  refine⟨{ i:Nat // i<=f.length/\firstErr f 0=firstErr (f.drop i) i },fun i=>[(12,.pv (fpv f)),(13,.pv (.int .i64 (f.map Nd.pv).length)),(14,.pv (.int .i64 (i.1:Nat)))],fun _=>0,fun _=>[],fun i=>f.length-i.1,
   ⟨⟨0,Nat.zero_le _,rfl⟩,Wk.of ⟨.same _,.same _,.same _,trivial⟩ trivial rfl rfl rfl⟩,?_⟩
  rintro⟨i,hi,hf⟩
  (try conv=>whnf);repeat' (first|((first|apply And.intro|intro h)<;>try conv=>whnf)|(apply q0i;rfl))
  ·have hi':i<f.length:=by simpa using h
   have hn:f[i]? = some f[i]:=List.getElem?_eq_getElem hi';have hd:=firstErr_drop hi'
   refine⟨i,(f[i]).pv,rfl,by simp[hn],rfl,?_⟩
   (try conv=>whnf);repeat' (first|((first|apply And.intro|intro h)<;>try conv=>whnf)|(refine PureFn.dcq (f:=117) rfl ?_;try conv=>whnf)|(refine⟨_,_,fm_nodeError ?_ ?_,?_,?_⟩;rotate_left 2;(focus refine⟨?_,?_,trivial⟩<;>first|exact PLe.refl _|exact PLe.nil);try conv=>whnf)|fail)
   ·have h':(z0e f[i] i != 0)=true:=h;have he:z0b f=z0e f[i] i:=by rw[hck,hf,hd,h'];rfl
    exact q0r he.symm
   ·have h':(z0e f[i] i != 0)=false:=h;refine⟨⟨i+1,hi',by rw[hf,hd,h'];rfl⟩,by show f.length-(i+1)<f.length-i;omega,Wk.of ⟨.same _,.same _,WkD.int ?_,trivial⟩ trivial rfl rfl rfl⟩;exact wrap_small (by show _<=(i:Int)+1;omega) (by show (i:Int)+1<=_;omega)
  ·have hi':¬ i<f.length:=by simpa using h
   refine q0r ?_;rw[hck,hf,List.drop_eq_nil_of_le (by omega)];rfl
theorem ref_Check (f:List Nd):PureFn Tryz.prog 165 [fpv f] (.int .i64 (z0b f)):=by
 refine PureFn.intro mixed (fn:=Tryz.f165) rfl rfl rfl fun M w0 => ?_
 (try conv=>whnf);repeat' (first|((first|apply And.intro|intro h)<;>try conv=>whnf))
 ·simp only[List.length_map] at h;refine q0r ?_;simp only[z0b,h,cond_true]
 ·rename_i h2;simp only[List.length_map] at h h2;refine q0r ?_;simp only[z0b,h,h2,cond_true,cond_false]
 ·rename_i h2;have hck:=check_of h2 h;have hlen:f.length<=200:=by simp at h;omega
  refine⟨{ i:Nat // i<=f.length/\firstErr f 0=firstErr (f.drop i) i },fun i=>[(0,.pv (fpv f)),(3,.pv (.int .i64 (i.1:Nat)))],fun _=>0,fun _=>[],fun i=>f.length-i.1,
   ⟨⟨0,Nat.zero_le _,rfl⟩,Wk.of ⟨.same _,.same _,trivial⟩ trivial rfl rfl rfl⟩,?_⟩
  rintro⟨i,hi,hf⟩
  (try conv=>whnf);repeat' (first|((first|apply And.intro|intro h)<;>try conv=>whnf)|(apply q0i;rfl))
  ·have hi':i<f.length:=by simpa using h
   have hn:f[i]? = some f[i]:=List.getElem?_eq_getElem hi';have hd:=firstErr_drop hi'
   refine⟨i,(f[i]).pv,rfl,by simp[hn],rfl,?_⟩
   (try conv=>whnf);repeat' (first|((first|apply And.intro|intro h)<;>try conv=>whnf)|(refine PureFn.dcq (f:=196) rfl ?_;try conv=>whnf)|(refine⟨_,_,ref_node ?_ ?_,?_,?_⟩;rotate_left 2;(focus refine⟨?_,?_,trivial⟩<;>first|exact PLe.refl _|exact PLe.nil);try conv=>whnf)|fail)
   ·have h':(z0e f[i] i != 0)=true:=h;have he:z0b f=z0e f[i] i:=by rw[hck,hf,hd,h'];rfl
    exact q0r he.symm
   ·have h':(z0e f[i] i != 0)=false:=h;refine⟨⟨i+1,hi',by rw[hf,hd,h'];rfl⟩,by show f.length-(i+1)<f.length-i;omega,Wk.of ⟨.same _,WkD.int ?_,trivial⟩ trivial rfl rfl rfl⟩;exact wrap_small (by show _<=(i:Int)+1;omega) (by show (i:Int)+1<=_;omega)
  ·have hi':¬ i<f.length:=by simpa using h
   refine q0r ?_;rw[hck,hf,List.drop_eq_nil_of_le (by omega)];rfl
theorem Nd.pv_inj {a b:Nd} (h:a.pv=b.pv):a=b:=by
 cases a;cases b
 simp only[Nd.pv,PV.agg.injEq,List.cons.injEq,PV.int.injEq,true_and,and_true] at h;simp only[Nd.mk.injEq];exact h
def idx (x:Nd):List Nd->Nat->Option Nat
 | [],_=>none
 |n::r,i=>if n=x then some i else idx x r (i+1)
def look (i:Nat):List (Nat×Nat)->Option Nat
 | []=>none
 |e::r=>if e.1=i then some e.2 else look i r
def dput (i k:Nat):List (Nat×Nat)->List (Nat×Nat)
 | []=>[(i,k)]
 |e::r=>if e.1=i then (i,k)::r else e::dput i k r
def putN (out:List Nd) (x:Nd):Nat×List Nd:=match idx x out 0 with|some k=>(k,out)|none=>(out.length,out++[x])
def fin (f:List Nd):Nat->Nat->List Nd×List (Nat×Nat)->Nat×List Nd×List (Nat×Nat)
 |0,_,s=>(0,s)
 |n+1,i,s =>
  match look i s.2 with
  |some k=>(k,s)
  |none=>match f[i]? with
   |none=>(0,s)
   |some x =>
    let a:=bif q0n x.op then fin f n x.x.toNat s else (0,s)
    let x1:=bif q0n x.op then { x with x:=(a.1:Int) } else x
    let b:=bif q0o x.op then fin f n x.y.toNat a.2 else (0,a.2)
    let x2:=bif q0o x.op then { x1 with y:=(b.1:Int) } else x1
    let p:=putN b.2.1 x2
    (p.1,p.2,dput i p.1 b.2.2)
def canon (f:List Nd) (i:Nat):List Nd:=(fin f (i+1) i ([],[])).2.1
def nums:List Nd->Nat->List (PV×PV)
 | [],_=>[]
 |n::r,i=>(n.pv,.int .i64 (i:Int))::nums r (i+1)
def dones (ds:List (Nat×Nat)):List (PV×PV):=ds.map fun e=>(.int .i64 (e.1:Int),.int .i64 (e.2:Int))
theorem mfnd_nums (x:Nd):∀ (out:List Nd) (i s:Nat),(mfnd x.pv (nums out i) s).map Prod.snd=(idx x out i).map fun k=>PV.int .i64 (k:Int)
 | [],i,s=>rfl
 |n::r,i,s=>by
  simp only[nums,mfnd,idx]
  by_cases h:n=x
  ·subst h;simp
  ·have:¬ n.pv=x.pv:=fun e=>h (Nd.pv_inj e)
   rw[if_neg this,if_neg h];exact mfnd_nums x r (i+1) (s+1)
theorem mfind_nums (x:Nd) (out:List Nd):mfind (nums out 0) x.pv=(idx x out 0).map fun k=>PV.int .i64 (k:Int):=mfnd_nums x out 0 0
theorem nums_append (x:Nd):∀ (out:List Nd) (i:Nat),nums (out++[x]) i=nums out i++[(x.pv,.int .i64 ((i+out.length:Nat):Int))]
 | [],i=>rfl
 |n::r,i=>by
  simp only[List.cons_append,nums,nums_append x r (i+1),List.length_cons];rw[show i+1+r.length=i+(r.length+1) by omega]
theorem mput_nums (x:Nd) (out:List Nd) (h:idx x out 0=none):mput (nums out 0) x.pv (.int .i64 (out.length:Int))=nums (out++[x]) 0:=by
 have hf:=mfnd_nums x out 0 0;rw[h] at hf
 have:mfnd x.pv (nums out 0) 0=none:=by
  cases hm:mfnd x.pv (nums out 0) 0 with
  |none=>rfl
  |some y=>rw[hm] at hf;simp at hf
 simp only[mput,this];rw[nums_append,Nat.zero_add]
theorem int_eq {a b:Nat}:(PV.int .i64 (a:Int)=PV.int .i64 (b:Int))↔a=b:=by simp only[PV.int.injEq,true_and];omega
theorem mfnd_dones (i:Nat):∀ (ds:List (Nat×Nat)) (s:Nat),(mfnd (.int .i64 (i:Int)) (dones ds) s).map Prod.snd=(look i ds).map fun k=>PV.int .i64 (k:Int)
 | [],s=>rfl
 |e::r,s=>by
  simp only[dones,List.map_cons,mfnd,look]
  by_cases h:e.1=i
  ·rw[if_pos (int_eq.2 h),if_pos h];rfl
  ·rw[if_neg (fun e=>h (int_eq.1 e)),if_neg h];exact mfnd_dones i r (s+1)
theorem mfind_dones (i:Nat) (ds:List (Nat×Nat)):mfind (dones ds) (.int .i64 (i:Int))=(look i ds).map fun k=>PV.int .i64 (k:Int):=mfnd_dones i ds 0
theorem mfnd_shift {k:PV}:∀ (es:List (PV×PV)) (s:Nat),mfnd k es (s+1)=(mfnd k es s).map fun q=>(q.1+1,q.2)
 | [],s=>rfl
 |e::r,s=>by
  simp only[mfnd]
  by_cases h:e.1=k
  ·rw[if_pos h,if_pos h];rfl
  ·rw[if_neg h,if_neg h];exact mfnd_shift r (s+1)
theorem mput_cons {k v:PV} {e:PV×PV} {r:List (PV×PV)}:mput (e::r) k v=open Classical in if e.1=k then (k,v)::r else e::mput r k v:=by
 unfold mput;simp only[mfnd]
 by_cases h:e.1=k
 ·rw[if_pos h,if_pos h];rfl
 ·rw[if_neg h,if_neg h,mfnd_shift]
  cases hm:mfnd k r 0 with
  |none=>rfl
  |some y=>rfl
theorem mput_dones (i k:Nat):∀ (ds:List (Nat×Nat)),mput (dones ds) (.int .i64 (i:Int)) (.int .i64 (k:Int))=dones (dput i k ds)
 | []=>rfl
 |e::r=>by
  simp only[dones,List.map_cons,mput_cons,dput]
  by_cases h:e.1=i
  ·rw[if_pos (int_eq.2 h),if_pos h];rfl
  ·rw[if_neg (fun e=>h (int_eq.1 e)),if_neg h];rw[List.map_cons]
   congr 1
   exact mput_dones i k r
def Wf (f:List Nd):Prop:=∀ (i:Nat) x,f[i]? = some x->(q0n x.op=true->0<=x.x/\x.x<i)/\(q0o x.op=true->0<=x.y/\x.y<i)
def cnt (ds:List (Nat×Nat)):Nat->Nat
 |0=>0
 |n+1=>cnt ds n+(match look n ds with|none=>1|some _=>0)
theorem look_dput (i k j:Nat):∀ ds:List (Nat×Nat),look j (dput i k ds)=if j=i then some k else look j ds
 | []=>by
  simp only[dput,look]
  by_cases h:i=j
  ·rw[if_pos h,if_pos h.symm]
  ·rw[if_neg h,if_neg (Ne.symm h)]
 |e::r=>by
  simp only[dput]
  by_cases h:e.1=i
  ·rw[if_pos h];simp only[look]
   by_cases hj:i=j
   ·rw[if_pos hj,if_pos hj.symm]
   ·rw[if_neg hj,if_neg (Ne.symm hj),if_neg (by rw[h];exact hj)]
  ·rw[if_neg h];simp only[look]
   by_cases hj:e.1=j
   ·rw[if_pos hj,if_pos hj,if_neg (by rw[<- hj];exact h)]
   ·rw[if_neg hj,if_neg hj];exact look_dput i k j r
theorem cnt_dput {i k:Nat} {ds:List (Nat×Nat)} (h:look i ds=none):∀ N,cnt (dput i k ds) N+(if i<N then 1 else 0)=cnt ds N
 |0=>by simp[cnt]
 |N+1=>by
  have ih:=cnt_dput (k:=k) h N;simp only[cnt,look_dput]
  by_cases hN:N=i
  ·subst hN;rw[if_pos rfl,h,if_pos (Nat.lt_succ_self N)];rw[if_neg (Nat.lt_irrefl N)] at ih;simp only at ih |-;omega
  ·rw[if_neg hN]
   by_cases hl:i<N
   ·rw[if_pos (by omega)];rw[if_pos hl] at ih;omega
   ·rw[if_neg (by omega)];rw[if_neg hl] at ih;omega
theorem cnt_pos {i:Nat} {ds:List (Nat×Nat)} (h:look i ds=none) {N:Nat} (hi:i<N):1<=cnt ds N:=by
 have:=cnt_dput (k:=0) h N;rw[if_pos hi] at this;omega
theorem put_keep {out:List Nd} {ds:List (Nat×Nat)} {i N:Nat} {x:Nd} (h:look i ds=none) (hi:i<N) (hb:out.length+cnt ds N<=N):(putN out x).2.length+cnt (dput i (putN out x).1 ds) N<=N:=by
 have hc:=cnt_dput (k:=(putN out x).1) h N;rw[if_pos hi] at hc
 have hp:(putN out x).2.length<=out.length+1:=by
  unfold putN
  split
  ·simp
  ·simp
 omega
theorem fin_keep {f:List Nd} (hwf:Wf f):∀ (n i:Nat) (s:List Nd×List (Nat×Nat)),i<n->i<f.length ->
  (∀ j,i<j->look j (fin f n i s).2.2=look j s.2)/\(s.1.length+cnt s.2 f.length<=f.length->(fin f n i s).2.1.length+cnt (fin f n i s).2.2 f.length<=f.length)
 |0,i,s,h,_=>by omega
 |n+1,i,s,hin,hif=>by
  have hn:f[i]? = some f[i]:=List.getElem?_eq_getElem hif;simp only[fin]
  cases hl:look i s.2 with
  |some k=>exact⟨fun _ _=>rfl,fun h=>h⟩
  |none =>
   simp only[hn];obtain⟨hx,hy⟩:=hwf i _ hn
   have ha:(∀ j,i<=j->look j (bif q0n f[i].op then fin f n f[i].x.toNat s else (0,s)).2.2=look j s.2) /\
     (s.1.length+cnt s.2 f.length<=f.length->(bif q0n f[i].op then fin f n f[i].x.toNat s else (0,s)).2.1.length+cnt (bif q0n f[i].op then fin f n f[i].x.toNat s else (0,s)).2.2 f.length<=f.length):=by
    cases hu:q0n f[i].op with
    |false=>exact⟨fun _ _=>rfl,fun h=>h⟩
    |true =>
     have:=hx hu;obtain⟨q1,q2⟩:=fin_keep hwf n f[i].x.toNat s (by omega) (by omega);exact⟨fun j hj=>q1 j (by omega),q2⟩
   generalize (bif q0n f[i].op then fin f n f[i].x.toNat s else (0,s))=a at ha |-
   have hb:(∀ j,i<=j->look j (bif q0o f[i].op then fin f n f[i].y.toNat a.2 else (0,a.2)).2.2=look j a.2.2) /\
     (a.2.1.length+cnt a.2.2 f.length<=f.length->(bif q0o f[i].op then fin f n f[i].y.toNat a.2 else (0,a.2)).2.1.length+cnt (bif q0o f[i].op then fin f n f[i].y.toNat a.2 else (0,a.2)).2.2 f.length<=f.length):=by
    cases hu:q0o f[i].op with
    |false=>exact⟨fun _ _=>rfl,fun h=>h⟩
    |true =>
     have:=hy hu;obtain⟨q1,q2⟩:=fin_keep hwf n f[i].y.toNat a.2 (by omega) (by omega);exact⟨fun j hj=>q1 j (by omega),q2⟩
   generalize (bif q0o f[i].op then fin f n f[i].y.toNat a.2 else (0,a.2))=b at hb |-;have hbn:look i b.2.2=none:=by rw[hb.1 i (Nat.le_refl i),ha.1 i (Nat.le_refl i),hl]
   refine⟨fun j hj => ?_,fun h => ?_⟩
   ·simp only[look_dput,if_neg (show ¬ j=i by omega)];rw[hb.1 j (by omega),ha.1 j (by omega)]
   ·have h2:=hb.2 (ha.2 h);exact put_keep hbn hif h2
def Hc (f out:List Nd) (ds:List (Nat×Nat)):List (Nat×DObj) :=
 [(0,.var [.pv (fpv f)]),(1,.var [.buf 7 (out.map Nd.pv).length]),(2,.mp (nums out 0)),(3,.var [.mp 2]),(4,.mp (dones ds)),(5,.var [.mp 4]),
  (6,.var [.clo 156 [] [.ref 5 0,.ref 0 0,.ref 6 0,.ref 3 0,.ref 1 0]]),(7,.arr 6 (out.map Nd.pv))]
theorem mem_nums {kv:PV×PV}:∀ {out:List Nd} {i:Nat},kv∈nums out i->∃ n:Nd,kv.1=n.pv
 | [],_,h=>by simp[nums] at h
 |n::r,i,h=>by
  simp only[nums,List.mem_cons] at h
  rcases h with rfl|h
  ·exact⟨n,rfl⟩
  ·exact mem_nums h
def opA (f:List Nd) (n:Nat) (x:Nd) (s:List Nd×List (Nat×Nat)):Nat×List Nd×List (Nat×Nat):=bif q0n x.op then fin f n x.x.toNat s else (0,s)
def ndA (x:Nd) (k:Nat):Nd:=bif q0n x.op then { x with x:=(k:Int) } else x
def opB (f:List Nd) (n:Nat) (x:Nd) (s:List Nd×List (Nat×Nat)):Nat×List Nd×List (Nat×Nat):=bif q0o x.op then fin f n x.y.toNat s else (0,s)
def ndB (op:Int) (x:Nd) (k:Nat):Nd:=bif q0o op then { x with y:=(k:Int) } else x
theorem fin_none {f:List Nd} {n i:Nat} {s:List Nd×List (Nat×Nat)} {x:Nd} (hl:look i s.2=none) (hx:f[i]? = some x) :
  fin f (n+1) i s=((putN (opB f n x (opA f n x s).2).2.1 (ndB x.op (ndA x (opA f n x s).1) (opB f n x (opA f n x s).2).1)).1,(putN (opB f n x (opA f n x s).2).2.1 (ndB x.op (ndA x (opA f n x s).1) (opB f n x (opA f n x s).2).1)).2,
   dput i (putN (opB f n x (opA f n x s).2).2.1 (ndB x.op (ndA x (opA f n x s).1) (opB f n x (opA f n x s).2).1)).1 (opB f n x (opA f n x s).2).2.2):=by
 simp only[fin,hl,hx,opA,opB,ndB,ndA]
theorem opA_keep {f:List Nd} (hwf:Wf f) {n i:Nat} {x:Nd} (hx:f[i]? = some x) (hin:i<n+1) (hif:i<f.length) (s:List Nd×List (Nat×Nat)) :
  (∀ j,i<=j->look j (opA f n x s).2.2=look j s.2)/\(s.1.length+cnt s.2 f.length<=f.length->(opA f n x s).2.1.length+cnt (opA f n x s).2.2 f.length<=f.length):=by
 unfold opA
 cases hu:q0n x.op with
 |false=>exact⟨fun _ _=>rfl,fun h=>h⟩
 |true =>
  have:=(hwf i x hx).1 hu;obtain⟨q1,q2⟩:=fin_keep hwf n x.x.toNat s (by omega) (by omega);exact⟨fun j hj=>q1 j (by omega),q2⟩
theorem opB_keep {f:List Nd} (hwf:Wf f) {n i:Nat} {x:Nd} (hx:f[i]? = some x) (hin:i<n+1) (hif:i<f.length) (s:List Nd×List (Nat×Nat)) :
  (∀ j,i<=j->look j (opB f n x s).2.2=look j s.2)/\(s.1.length+cnt s.2 f.length<=f.length->(opB f n x s).2.1.length+cnt (opB f n x s).2.2 f.length<=f.length):=by
 unfold opB
 cases hu:q0o x.op with
 |false=>exact⟨fun _ _=>rfl,fun h=>h⟩
 |true =>
  have:=(hwf i x hx).2 hu;obtain⟨q1,q2⟩:=fin_keep hwf n x.y.toNat s (by omega) (by omega);exact⟨fun j hj=>q1 j (by omega),q2⟩
def Nd.dvs (x:Nd):List DV:=[.pv (.int .i64 x.op),.pv (.int .i64 x.i),.pv (.int .i64 x.e),.pv (.int .i64 x.g),.pv (.int .i64 x.x),.pv (.int .i64 x.y)]
def usesDvs (op:Int):List DV:=[.pv (.bool (q0n op)),.pv (.bool (q0o op)),.pv (.bool (op==3)),.pv (.bool (z0r op)),.pv (.bool (z0y op)),.pv (.bool (op==17)),.pv (.int .i64 (frag op))]
theorem close_ok {L:DH} {f out:List Nd} {ds:List (Nat×Nat)} {d:DV} {base:Nat} {K:DV->DH->Prop} (hK:K d ⟨8,0,base,objsOf (Hc f out ds)⟩) (hd:d.under 8=true) (hlo:Nat.ble L.lo 8=true) (hb:Nat.ble L.base 8=true)
  (h0:L.get 0=some (.var [.pv (fpv f)])) (h1:L.get 1=some (.var [.buf 7 (out.map Nd.pv).length])) (h2:L.get 2=some (.mp (nums out 0))) (h3:L.get 3=some (.var [.mp 2])) (h4:L.get 4=some (.mp (dones ds))) (h5:L.get 5=some (.var [.mp 4]))
  (h6:L.get 6=some (.var [.clo 156 [] [.ref 5 0,.ref 0 0,.ref 6 0,.ref 3 0,.ref 1 0]])) (h7:L.get 7=some (.arr 6 (out.map Nd.pv))) :
  ∃ d' nx Hl,Wk (fun _=>d) L [(0,d')] nx Hl/\K d' ⟨nx,0,base,objsOf Hl⟩:=by
 have tr:∀ {k:Nat} {o:DObj},L.get k=some o->(match L.get k with|some _=>True|none=>Nat.ble L.next k=true):=fun h=>by rw[h];trivial
 refine⟨d,8,Hc f out ds,Wk.of ⟨.same _,trivial⟩ ⟨.same _ _ h0,tr h0,.same _ _ h1,tr h1,.same _ _ h2,tr h2,.same _ _ h3,tr h3,.same _ _ h4,tr h4,.same _ _ h5,tr h5,.same _ _ h6,tr h6,.same _ _ h7,tr h7,trivial⟩ ?_ hlo hb,hK⟩;simp only[wkU,List.all_cons,List.all_nil,hd,Bool.and_true,Bool.true_and];rfl
theorem finish_dc (f:List Nd) (hwf:Wf f) (hN:f.length<=1000000):∀ (n i:Nat) (s:List Nd×List (Nat×Nat)),i<n->i<f.length->s.1.length+cnt s.2 f.length<=f.length ->
  ∀ (M:Nat->Prop) (w0:W0) (base:Nat) (K:DV->DH->Prop),base<=8->K (.pv (.int .i64 ((fin f n i s).1:Int))) ⟨8,0,base,objsOf (Hc f (fin f n i s).2.1 (fin f n i s).2.2)⟩ ->
   DC Tryz.prog M w0 156 [.pv (.int .i64 (i:Int)),.ref 5 0,.ref 0 0,.ref 6 0,.ref 3 0,.ref 1 0] ⟨8,0,base,objsOf (Hc f s.1 s.2)⟩ K:=by
 intro n
 induction n with
 |zero=>intro i s h;omega
 |succ n ih =>
  intro i s hin hif hb M w0 base K hbase hK;obtain⟨out,ds⟩:=s;refine DC.weaken (DC.introC [8,10,15] mixed (fn:=Tryz.f156) rfl rfl rfl ?_)
  cases hl:look i ds with
  |some k =>
   have hfin:fin f (n+1) i (out,ds)=(k,out,ds):=by simp only[fin,hl]
   rw[hfin] at hK
   (try conv=>whnf);repeat' (first|((first|apply And.intro|intro h)<;>try conv=>whnf)|(apply fitI;rfl))
   ·obtain⟨e,_,rfl⟩:=List.mem_map.1 h;rfl
   ·refine⟨some (.int .i64 (k:Int)),by rw[mfind_dones,hl];rfl,?_⟩
    (try conv=>whnf);repeat' (first|(apply And.intro<;>try conv=>whnf)|(intro h;first|with_reducible exact tf0 h|try conv=>whnf))
    exact⟨_,8,Hc f out ds,(by exact Wk.s rfl),hK⟩
  |none =>
   have hn:f[i]? = some f[i]:=List.getElem?_eq_getElem hif;obtain⟨x,hx⟩:∃ x,x=f[i]:=⟨_,rfl⟩;rw[<- hx] at hn;obtain⟨hfx,hfy⟩:=hwf i x hn;have kA:=opA_keep hwf hn hin hif (out,ds);have kB:=opB_keep hwf hn hin hif (opA f n x (out,ds)).2;have hfin:=fin_none (f:=f) (n:=n) (i:=i) (s:=(out,ds)) hl hn;rw[hfin] at hK;obtain⟨A,hA⟩:∃ A,A=opA f n x (out,ds):=⟨_,rfl⟩;rw[<- hA] at hK kA kB;obtain⟨B,hB⟩:∃ B,B=opB f n x A.2:=⟨_,rfl⟩;rw[<- hB] at hK kB;have hK':K (.pv (.int .i64 ((putN B.2.1 (ndB x.op (ndA x A.1) B.1)).1:Int))) ⟨8,0,base,objsOf (Hc f (putN B.2.1 (ndB x.op (ndA x A.1) B.1)).2 (dput i (putN B.2.1 (ndB x.op (ndA x A.1) B.1)).1 B.2.2))⟩:=hK;clear hfin hK hx;have b1:=kA.2 hb;have b2:=kB.2 b1;have hlB:look i B.2.2=none:=by rw[kB.1 i (Nat.le_refl i),kA.1 i (Nat.le_refl i)];exact hl
   have hcB:=cnt_pos hlB hif
   (try conv=>whnf);repeat' (first|((first|apply And.intro|intro h)<;>try conv=>whnf)|(apply fitI;rfl))
   ·obtain⟨e,_,rfl⟩:=List.mem_map.1 h;rfl
   ·refine⟨none,by rw[mfind_dones,hl];rfl,?_⟩
    (try conv=>whnf);repeat' (first|(apply And.intro<;>try conv=>whnf)|(intro h;first|with_reducible exact ft0 h|try conv=>whnf)|(apply q0i;rfl))
    refine⟨i,x.pv,rfl,by simp[hn],rfl,?_⟩
    (try conv=>whnf);repeat' (first|(refine PureFn.dcq (f:=120) rfl ?_;try conv=>whnf)|(refine⟨_,_,fm_uses ?_,?_,?_⟩;rotate_left 1;(focus refine⟨?_,trivial⟩<;>first|exact PLe.refl _|exact PLe.nil);try conv=>whnf)|fail)
    refine⟨{ q:Nd×List Nd×List (Nat×Nat) // q.2=A.2/\q.1=ndA x A.1 },
     fun q=>[(0,.pv (.int .i64 (i:Int))),(1,.ref 5 0),(2,.ref 0 0),(3,.ref 6 0),(4,.ref 3 0),(5,.ref 1 0),(10,.ref 8 0),(11,.ref 9 0)],fun _=>10,
     fun q=>Hc f q.1.2.1 q.1.2.2++[(8,.var q.1.1.dvs),(9,.var (usesDvs x.op))],?_,?_⟩
    ·(try conv=>whnf);repeat' (first|((first|apply And.intro|intro h)<;>try conv=>whnf))
     ·have hx0:=hfx h;refine DC.call 8 (Hc f out ds) ⟨rfl,rfl,rfl,rfl,rfl,rfl,rfl,rfl,trivial⟩ rfl rfl rfl rfl fun M' => ?_
      have hxe:x.x=((x.x.toNat:Nat):Int):=by omega
      refine (?_:DC Tryz.prog M' _ 156 [.pv (.int .i64 x.x),.ref 5 0,.ref 0 0,.ref 6 0,.ref 3 0,.ref 1 0] ⟨8,0,8,objsOf (Hc f out ds)⟩ _);rw[hxe];refine ih x.x.toNat (out,ds) (by omega) (by omega) hb M' _ 8 _ (Nat.le_refl 8) ⟨rfl,?_⟩;have hAe:A=fin f n x.x.toNat (out,ds):=by rw[hA,opA,h];rfl
      rw[<- hAe]
      try conv=>whnf
      exact⟨⟨(⟨x.op,x.i,x.e,x.g,(A.1:Int),x.y⟩,A.2),rfl,by unfold ndA;rw[h];rfl⟩,(by exact Wk.s rfl)⟩
     ·have hAe:A=(0,(out,ds)):=by rw[hA,opA,h];rfl
      exact⟨⟨(x,(out,ds)),by rw[hAe],by unfold ndA;rw[h];rfl⟩,(by exact Wk.s rfl)⟩
    ·rintro⟨⟨y,out1,ds1⟩,hq1,hq2⟩;have e1:out1=A.2.1:=congrArg Prod.fst hq1;have e2:ds1=A.2.2:=congrArg Prod.snd hq1;subst e1;subst e2;have hq3:y=ndA x A.1:=hq2;have hyop:y.op=x.op:=by rw[hq3];unfold ndA;cases q0n x.op<;>rfl
     have hyy:y.y=x.y:=by rw[hq3];unfold ndA;cases q0n x.op<;>rfl
     try conv=>whnf
     refine⟨{ q:Nd×List Nd×List (Nat×Nat) // q.2=B.2/\q.1=ndB x.op (ndA x A.1) B.1 },
      fun q=>[(0,.pv (.int .i64 (i:Int))),(1,.ref 5 0),(2,.ref 0 0),(3,.ref 6 0),(4,.ref 3 0),(5,.ref 1 0),(10,.ref 8 0)],fun _=>9,
      fun q=>Hc f q.1.2.1 q.1.2.2++[(8,.var q.1.1.dvs)],?_,?_⟩
     ·(try conv=>whnf);repeat' (first|((first|apply And.intro|intro h)<;>try conv=>whnf))
      ·have hy0:=hfy h;refine DC.call 8 (Hc f A.2.1 A.2.2) ⟨rfl,rfl,rfl,rfl,rfl,rfl,rfl,rfl,trivial⟩ rfl rfl rfl rfl fun M' => ?_
       have hye:y.y=((x.y.toNat:Nat):Int):=by omega
       refine (?_:DC Tryz.prog M' _ 156 [.pv (.int .i64 y.y),.ref 5 0,.ref 0 0,.ref 6 0,.ref 3 0,.ref 1 0] ⟨8,0,8,objsOf (Hc f A.2.1 A.2.2)⟩ _);rw[hye];refine ih x.y.toNat A.2 (by omega) (by omega) b1 M' _ 8 _ (Nat.le_refl 8) ⟨rfl,?_⟩;have hBe:B=fin f n x.y.toNat A.2:=by rw[hB,opB,h];rfl
       rw[<- hBe]
       try conv=>whnf
       exact⟨⟨(⟨y.op,y.i,y.e,y.g,y.x,(B.1:Int)⟩,B.2),rfl,by rw[<- hq3];unfold ndB;rw[h];rfl⟩,(by exact Wk.s rfl)⟩
      ·have hBe:B=(0,A.2):=by rw[hB,opB,h];rfl
       exact⟨⟨(y,A.2),by rw[hBe],by rw[<- hq3];unfold ndB;rw[h];rfl⟩,(by exact Wk.s rfl)⟩
     ·rintro⟨⟨z,out2,ds2⟩,hr1,hr2⟩;have e1:out2=B.2.1:=congrArg Prod.fst hr1;have e2:ds2=B.2.2:=congrArg Prod.snd hr1;subst e1;subst e2;have hr3:z=ndB x.op (ndA x A.1) B.1:=hr2;rw[<- hr3] at hK'
      (try conv=>whnf);repeat' (first|((first|apply And.intro|intro h)<;>try conv=>whnf)|(apply fitI;rfl))
      ·obtain⟨n',hn'⟩:=mem_nums h;rw[hn'];rfl
      ·have hmf:=mfind_nums z B.2.1;obtain⟨p,hp⟩:∃ p,p=putN B.2.1 z:=⟨_,rfl⟩;rw[<- hp] at hK';refine⟨(idx z B.2.1 0).map fun k=>PV.int .i64 (k:Int),hmf,?_⟩
       cases hid:idx z B.2.1 0 with
       |some k =>
        have hp':p=(k,B.2.1):=by rw[hp,putN,hid]
        try conv=>whnf
        refine⟨{ q:Nat×List Nd // q=p },fun q=>[(0,.pv (.int .i64 (i:Int))),(1,.ref 5 0),(13,.pv (.int .i64 (q.1.1:Int)))],fun _=>8,fun q=>Hc f q.1.2 B.2.2,?_,?_⟩
        ·(try conv=>whnf);repeat' (first|(apply And.intro<;>try conv=>whnf)|(intro h;first|with_reducible exact nt0 h|try conv=>whnf))
         exact⟨⟨(k,B.2.1),hp'.symm⟩,(by exact Wk.s rfl)⟩
        ·rintro⟨q,rfl⟩
         (try conv=>whnf);repeat' (first|((first|apply And.intro|intro h)<;>try conv=>whnf)|(apply fitI;rfl))
         ·obtain⟨e,_,rfl⟩:=List.mem_map.1 h;rfl
         ·exact close_ok hK' rfl rfl rfl rfl rfl rfl rfl (congrArg (fun z=>some (DObj.mp z)) (mput_dones i q.1 B.2.2)) rfl rfl rfl
       |none =>
        have hp':p=(B.2.1.length,B.2.1++[z]):=by rw[hp,putN,hid]
        have hbig:B.2.1.length+1<=4294967296:=by omega
        try conv=>whnf
        refine⟨{ q:Nat×List Nd // q=p },fun q=>[(0,.pv (.int .i64 (i:Int))),(1,.ref 5 0),(13,.pv (.int .i64 (q.1.1:Int)))],fun _=>8,fun q=>Hc f q.1.2 B.2.2,?_,?_⟩
        ·(try conv=>whnf);repeat' (first|(apply And.intro<;>try conv=>whnf)|(intro h;first|with_reducible exact nf0 h|try conv=>whnf)|(apply fitI;rfl)|(apply q0p;rfl)|(apply szI;rfl))
         ·show (B.2.1.map Nd.pv).length+1<=4294967296
          rw[List.length_map];exact hbig
         ·obtain⟨n',hn'⟩:=mem_nums h;rw[hn'];rfl
         ·refine⟨⟨(B.2.1.length,B.2.1++[z]),hp'.symm⟩,Wk.of ?_ ?_ rfl rfl rfl⟩
          ·(repeat' (first|(exact trivial)|(exact WkD.same _)|(refine WkD.int ?_)|(refine⟨?_,?_⟩)|fail))<;>exact congrArg Int.ofNat (List.length_map _)
          ·refine⟨.same _ _ rfl,trivial,.same _ _ ?_,trivial,.same _ _ ?_,trivial,.same _ _ rfl,trivial,.same _ _ rfl,trivial,.same _ _ rfl,trivial,.same _ _ rfl,trivial,.same _ _ ?_,trivial,trivial⟩
           ·refine congrArg (fun z=>some (DObj.var [DV.buf 7 z])) ?_;simp
           ·refine Eq.trans (congrArg (fun v=>some (DObj.mp (mput (nums B.2.1 0) z.pv (.int .i64 v)))) (congrArg Int.ofNat (List.length_map _))) ?_;exact congrArg (fun z=>some (DObj.mp z)) (mput_nums z B.2.1 hid)
           ·exact congrArg (fun z=>some (DObj.arr 6 z)) (List.map_append (f:=Nd.pv) (l₁:=B.2.1) (l₂:=[z])).symm
        ·rintro⟨q,rfl⟩
         (try conv=>whnf);repeat' (first|((first|apply And.intro|intro h)<;>try conv=>whnf)|(apply fitI;rfl))
         ·obtain⟨e,_,rfl⟩:=List.mem_map.1 h;rfl
         ·exact close_ok hK' rfl rfl rfl rfl rfl rfl rfl (congrArg (fun z=>some (DObj.mp z)) (mput_dones i q.1 B.2.2)) rfl rfl rfl
theorem cnt_nil:∀ n,cnt [] n=n
 |0=>rfl
 |n+1=>by simp only[cnt,cnt_nil n,look]
theorem fm_compact (f:List Nd) (i:Nat) (hwf:Wf f) (hi:i<f.length) (hN:f.length<=1000000):PureFn Tryz.prog 121 [fpv f,.int .i64 (i:Int)] (fpv (canon f i)):=by
 refine PureFn.intro mixed (fn:=Tryz.f121) rfl rfl rfl fun M w0 => ?_
 try conv=>whnf
 refine DC.wkIn (args':=[.pv (.int .i64 (i:Int)),.ref 5 0,.ref 0 0,.ref 6 0,.ref 3 0,.ref 1 0]) (nx:=8) (Hl:=Hc f [] []) (finish_dc f hwf hN (i+1) i ([],[]) (by omega) hi ?_ M w0 _ _ (Nat.zero_le _) ?_) (by refine Wk.of ?_ ?_ rfl rfl rfl<;>repeat' (first|exact trivial|exact WkO.same _ _ rfl|exact WkD.new' rfl rfl rfl|exact WkO.new _ _ rfl|refine WkO.vars rfl ?_|exact rfl|refine⟨?_,?_⟩|fail)) (by show 7<=8;omega) ?_ rfl
 ·show 0+cnt [] f.length<=f.length
  rw[cnt_nil];omega
 ·(try conv=>whnf);repeat' (first|(apply And.intro<;>try conv=>whnf)|(apply bleI;rfl))
  exact PLe.refl _
 ·exact⟨.same _,.same _,.same _,.same _,.same _,.same _,trivial⟩
end Go.Proofs.YtejbieopeicgkaaGreatDoor
