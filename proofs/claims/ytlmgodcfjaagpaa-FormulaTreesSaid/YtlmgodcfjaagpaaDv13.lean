/- The layer Dv, part 13: stores into maps; calls; any operation. -/
import Derived.Test.YtlmgodcfjaagpaaDv12
namespace Go.Dv
open Go.RowKit (Below)
section
variable {P : Program} {M : Nat → Prop} {w0 : World} {μ : Nat → Loc} {L : DH} {w : World} {a : Act} {ρ : Operand → DV} {K : DV → DH → Prop} {o : Oper} {dr : Bool}

theorem sameBits_scalar {T : Nat → Prop} {d : Option TypeDesc} {p : PV} {u v : Value} (n : Nat) (hp : fitPV d p = true) (h1 : RelP T w p u) (h2 : RelP T w p v) : Instr.sameBits n u v = true := by
  cases p <;> simp only [fitPV] at hp <;> try (cases hp; done)
  all_goals
    cases h1; cases h2
    cases n <;> simp [Instr.sameBits, beq_toListBytes]
theorem sameBits_fit {T : Nat → Prop} {t : TypeId} {p : PV} {u v : Value} (hp : fitT P t p = true) (h1 : RelP T w p u) (h2 : RelP T w p v) : Instr.sameBits 10000 u v = true := by
  by_cases hagg : ∃ l, p = .agg l
  · obtain ⟨ps, rfl⟩ := hagg
    cases h1 with
    | agg _ xs l1 r1 =>
      cases h2 with
      | agg _ ys l2 r2 =>
        unfold fitT at hp
        cases hu : P.underlying t with
        | none => simp [hu] at hp
        | some d =>
          cases d <;> simp only [hu] at hp <;> try (cases hp; done)
          rename_i fs
          simp only [Bool.and_eq_true] at hp
          have key : ∀ (fs : List Field) (i : Nat) (ps : List PV) (xs ys : List Value), fitFields P fs i ps = true → ps.length = xs.length → ps.length = ys.length →
              (∀ (j : Nat) p x, ps[j]? = some p → xs[j]? = some x → RelP T w p x) → (∀ (j : Nat) p y, ps[j]? = some p → ys[j]? = some y → RelP T w p y) → (xs.zip ys).all (fun (x, y) => Instr.sameBits 9999 x y) = true := by
            intro fs
            induction fs with
            | nil =>
              intro i ps xs ys h e1 e2 _ _
              cases ps with
              | nil => simp at e1; rw [List.length_eq_zero_iff.1 e1.symm]; rfl
              | cons => simp [fitFields] at h
            | cons f fs ih =>
              intro i ps xs ys h e1 e2 q1 q2
              cases ps with
              | nil => simp [fitFields] at h
              | cons p ps =>
                cases xs with
                | nil => simp at e1
                | cons x xs =>
                  cases ys with
                  | nil => simp at e2
                  | cons y ys =>
                    simp only [fitFields, Bool.and_eq_true] at h
                    have := ih (i + 1) ps xs ys h.2 (by simpa using e1) (by simpa using e2) (fun j p x hj hx => q1 (j + 1) p x (by simpa using hj) (by simpa using hx)) (fun j p x hj hx => q2 (j + 1) p x (by simpa using hj) (by simpa using hx))
                    simp only [List.zip_cons_cons, List.all_cons, Bool.and_eq_true]
                    exact ⟨sameBits_scalar 9999 h.1.2 (q1 0 p x rfl rfl) (q2 0 p y rfl rfl), this⟩
          show Instr.sameBits (9999 + 1) _ _ = true
          unfold Instr.sameBits
          simp only [List.size_toArray, Bool.and_eq_true, beq_iff_eq]
          exact ⟨by omega, key fs.toList 0 ps xs ys hp.1 l1 l2 r1 r2⟩
  · have hf' : fitPV (P.underlying t) p = true := by
      cases p <;> first | exact hp | exact absurd ⟨_, rfl⟩ hagg
    exact sameBits_scalar 10000 hf' h1 h2

theorem mfnd_lt {k : PV} : ∀ {es : List (PV × PV)} {s i : Nat} {p : PV}, mfnd k es s = some (i, p) → s ≤ i ∧ i < s + es.length ∧ ∃ e, es[i - s]? = some e ∧ e.1 = k
  | [], s, i, p, h => by simp [mfnd] at h
  | e :: es, s, i, p, h => by
    unfold mfnd at h
    split at h
    · rename_i he
      simp at h
      obtain ⟨rfl, rfl⟩ := h
      exact ⟨Nat.le_refl _, by simp, e, by simp, he⟩
    · obtain ⟨h1, h2, e', h3, h4⟩ := mfnd_lt h
      refine ⟨by omega, by simp; omega, e', ?_, h4⟩
      rw [show i - s = (i - (s + 1)) + 1 by omega]
      simpa using h3

theorem res_mapUpdate {t : TypeId} {m k v : Operand} (ho : o.op = .mapUpdate t m k v) (h : HR M w0 μ L w) (hρ : Rho M μ L w ρ a) (hv : vcOp P M w0 dr ρ L o K) : OpRes P M w0 μ L w K o a := by
  have hm := hρ.rel m
  have hk := hρ.rel k
  have hvv := hρ.rel v
  simp only [vcOp, ho] at hv
  generalize hdm : ρ m = dm at hv hm
  split at hv
  case h_2 => exact hv.elim
  rename_i kt et id hu
  cases hg : L.get id with
  | none => simp [hg] at hv
  | some ob =>
    cases ob with
    | mp es =>
      cases hlo : Nat.ble L.lo id with
      | false => simp [hg, hlo] at hv
      | true =>
        simp only [hg, hlo] at hv
        have hlo' : L.lo ≤ id := by simpa using hlo
        obtain ⟨kp, ⟨f1, f2, hv⟩, hkr⟩ := pur_rel _ _ _ hk hv
        obtain ⟨vp, hK, hvr⟩ := pur_rel _ _ _ hvv hv
        obtain ⟨ents, clock, g1, g2, g3⟩ := h.obj id _ hg
        have hme : a.eval m = .map (some (μ id).blk) := by
          cases hm with
          | mp _ _ _ e => exact e es hg
        obtain ⟨rr, q1, q2⟩ := find_key f1 hkr es ents.toList (by simpa using g2.symm) f2 (fun j e m' he hm' => g3 j e m' he (by simpa using hm'))
        have hchk := chk_key (P := P) (w := w) (b := false) f1 hkr
        have hgo : (getObj (μ id).blk).run P w = .ok (.map ents clock) w := by simp [getObj, Sem.run, g1]
        have hso : ∀ ob, (setObj (μ id).blk ob).run P w = .ok () { w with heap := w.heap.setIfInBounds (μ id).blk ob } := fun ob => by simp [setObj, Sem.run, g1]
        have hlt : (μ id).blk < w.heap.size := (h.live id _ hg trivial).1
        have fin : ∀ (ents' : Array MapEntry) (clock' : Nat), ents'.size = (mput es kp vp).length → (∀ (i : Nat) kv e, (mput es kp vp)[i]? = some kv → ents'[i]? = some e → RelP (Tot M μ L) w kv.1 e.key ∧ RelP (Tot M μ L) w kv.2 e.val) →
            (Instr.mapUpdate t (a.eval m) (a.eval k) (a.eval v)).run P w = .ok () { w with heap := w.heap.setIfInBounds (μ id).blk (.map ents' clock') } → OpRes P M w0 μ L w K o a := by
          intro ents' clock' hsz hrel hrun
          obtain ⟨hs, hr⟩ := h.write (w' := { w with heap := w.heap.setIfInBounds (μ id).blk (.map ents' clock') }) id _ (.mp (mput es kp vp)) hg trivial hlo' rfl rfl rfl rfl (by simp)
            (fun b hb => by simp only; rw [Array.getElem?_setIfInBounds_ne (Ne.symm hb)]) ⟨(fun _ e => by cases e), (fun _ e => ⟨es, hg, rfl⟩), (fun _ _ e => by cases e), (fun _ e => by cases e)⟩ (fun hs => by
              refine ⟨ents', clock', ?_, hsz, fun i kv e hi he => ⟨(hrel i kv e hi he).1.stp hs, (hrel i kv e hi he).2.stp hs⟩⟩
              rw [updμ_same]
              simp [hlt])
          refine .skip ?_ ⟨_, .tup [], _, hK, hr, .tup [] [] rfl (fun i d v hd _ => by simp at hd), rfl, hs⟩
          rw [show execOp a.eval o = (do Instr.mapUpdate t (a.eval m) (a.eval k) (a.eval v); pure Next.skip : Sem Next) from by simp only [execOp, ho]]
          exact run_skp hrun
        cases hfn : mfnd kp es 0 with
        | none =>
          rw [hfn] at q2
          cases rr with
          | some x => exact q2.elim
          | none =>
            have hmp : mput es kp vp = es ++ [(kp, vp)] := by simp [mput, hfn]
            refine fin (ents.push { key := a.eval k, val := a.eval v, born := clock }) (clock + 1) (by rw [hmp]; simp [g2]) (fun i kv e hi he => ?_) ?_
            · rw [hmp] at hi
              rw [Array.getElem?_push] at he
              by_cases hil : i < es.length
              · rw [List.getElem?_append_left hil] at hi
                rw [if_neg (by omega)] at he
                exact g3 i kv e hi he
              · rw [List.getElem?_append_right (by omega)] at hi
                have : i = es.length := by have := getE_lt hi; simp at this; omega
                subst this
                simp at hi
                rw [if_pos g2.symm] at he
                simp at he
                subst hi; subst he
                exact ⟨hkr, hvr⟩
            · simp only [Instr.mapUpdate, Sem.run_bind, run_underlying hu, Result.andThen_ok, hme, hgo, hchk, q1, hso]
        | some x =>
          obtain ⟨j, pv⟩ := x
          rw [hfn] at q2
          cases rr with
          | none => exact q2.elim
          | some y =>
            obtain ⟨j', u⟩ := y
            obtain ⟨rfl, q2⟩ := q2
            obtain ⟨b1, b2, e0, b3, b4⟩ := mfnd_lt hfn
            simp only [Nat.sub_zero] at b3
            have hjl := getE_lt b3
            have hej : ents[j]? = some (ents[j]'(by omega)) := Array.getElem?_eq_getElem (by omega)
            have hkold : RelP (Tot M μ L) w kp (ents[j]'(by omega)).key := by rw [← b4]; exact (g3 j e0 _ b3 hej).1
            have hsb := sameBits_fit f1 hkold hkr
            have hmp : mput es kp vp = es.set j (kp, vp) := by simp [mput, hfn]
            refine fin (ents.modify j fun e => { e with key := a.eval k, val := a.eval v }) clock (by rw [hmp]; simp [g2]) (fun i kv e hi he => ?_) ?_
            · rw [hmp, List.getElem?_set] at hi
              rw [Array.getElem?_modify] at he
              by_cases hij : j = i
              · subst hij
                rw [if_pos rfl] at hi he
                rw [if_pos hjl] at hi
                rw [hej] at he
                simp at hi he
                subst hi; subst he
                exact ⟨hkr, hvr⟩
              · rw [if_neg hij] at hi he
                exact g3 i kv e hi he
            · simp only [Instr.mapUpdate, Sem.run_bind, run_underlying hu, Result.andThen_ok, hme, hgo, hchk, q1]
              simp only [hej, Option.map_some, Option.getD_some, Instr.keyThatStays, hsb, if_true, Sem.run_pure, Result.andThen_ok, hso]
    | _ => simp [hg] at hv

theorem run_call {c : Call} {f : Operand} {fid : FuncId} {fs cs : Array Value} (ho : o.op = .call c) (hc : c.callee = .value f) (hf : a.eval f = .func (.func fid) fs cs) (hcb : callable P fid = true) :
    (execOp a.eval o).run P w = .ok (.enter fid (fs ++ c.args.map a.eval ++ cs)) w := by
  unfold callable at hcb
  cases hfn : P.funcs[fid]? with
  | none => simp [hfn] at hcb
  | some fn =>
    simp only [hfn, Bool.and_eq_true] at hcb
    have h1 : (fn.name == "runtime.NumGoroutine") = false := by simpa using hcb.1
    have h2 : fn.body.isNone = false := by cases hb : fn.body <;> simp [hb] at hcb ⊢
    simp only [execOp, ho, resolve, hc, Deferred.ofValue, hf, pure_bind, invoke, callFunc, Sem.run_bind, run_program, Result.andThen_ok, hfn, h1, h2, Bool.false_eq_true, if_false, Sem.run_pure]

theorem DC.elim {f : FuncId} {args : List DV} (h : DC P M w0 f args L K) : callable P f = true ∧ ∀ (μ : Nat → Loc) (w : World) (vs : List Value), HR M w0 μ L w → DV.unders L.next args = true → RelVs (Tot M μ L) w μ L args vs →
    Calls P f ⟨vs⟩ w fun e w' => ∃ v, e = .returned v ∧ Out M w0 μ L w K v w' := by unfold DC at h; exact h
theorem DC.mk {f : FuncId} {args : List DV} (h : callable P f = true ∧ ∀ (μ : Nat → Loc) (w : World) (vs : List Value), HR M w0 μ L w → DV.unders L.next args = true → RelVs (Tot M μ L) w μ L args vs →
    Calls P f ⟨vs⟩ w fun e w' => ∃ v, e = .returned v ∧ Out M w0 μ L w K v w') : DC P M w0 f args L K := by unfold DC; exact h
theorem DCV.elim {fv : Value} {args : List DV} (h : DCV P M w0 fv args L K) : ∃ f fs cs, fv = .func (.func f) fs cs ∧ callable P f = true ∧ ∀ (μ : Nat → Loc) (w : World) (vs : List Value), HR M w0 μ L w → DV.unders L.next args = true → RelVs (Tot M μ L) w μ L args vs →
    Calls P f (fs ++ ⟨vs⟩ ++ cs) w fun e w' => ∃ v, e = .returned v ∧ Out M w0 μ L w K v w' := by unfold DCV at h; exact h
theorem PureFn.elim {f : FuncId} {ps : List PV} {p : PV} (h : PureFn P f ps p) : callable P f = true ∧ ∀ (M : Nat → Prop) (w : World) (vs : List Value), (∀ b, M b → b < w.heap.size) → RelPs M w ps vs →
    Calls P f ⟨vs⟩ w fun e w' => ∃ v, e = .returned v ∧ RelP M w' p v ∧ Below w.heap.size w w' := by unfold PureFn at h; exact h
theorem PureFn.mk {f : FuncId} {ps : List PV} {p : PV} (h : callable P f = true ∧ ∀ (M : Nat → Prop) (w : World) (vs : List Value), (∀ b, M b → b < w.heap.size) → RelPs M w ps vs →
    Calls P f ⟨vs⟩ w fun e w' => ∃ v, e = .returned v ∧ RelP M w' p v ∧ Below w.heap.size w w') : PureFn P f ps p := by unfold PureFn; exact h

theorem Tot.lt (h : HR M w0 μ L w) {b : Nat} (hb : Tot M μ L b) : b < w.heap.size := by
  rcases hb with hb | ⟨k, o, h1, h2, rfl⟩
  · exact h.mlt b hb
  · exact (h.live k o h1 h2).1

theorem flat_scalar {T T' : Nat → Prop} {w w' : World} {p : PV} {v : Value} (h : RelP T w p v) (hf : p.scalar = true) : RelP T' w' p v := by
  cases h <;> first | (simp [PV.scalar] at hf; done) | constructor
theorem flat_rel {T T' : Nat → Prop} {w w' : World} {p : PV} {v : Value} (h : RelP T w p v) (hf : p.flat = true) : RelP T' w' p v := by
  cases h with
  | agg l vs h1 h2 => exact .agg l vs h1 fun i p v hp hv => flat_scalar (h2 i p v hp hv) (List.all_eq_true.1 hf p (List.mem_of_getElem? hp))
  | tup l vs h1 h2 =>
    refine .tup l vs h1 fun i p v hp hv => ?_
    have hp' := List.all_eq_true.1 hf p (List.mem_of_getElem? hp)
    have h3 := h2 i p v hp hv
    cases h3 with
    | agg l2 vs2 g1 g2 => exact .agg l2 vs2 g1 fun i p v hp hv => flat_scalar (g2 i p v hp hv) (List.all_eq_true.1 hp' p (List.mem_of_getElem? hp))
    | int k n => exact .int k n
    | bool b => exact .bool b
    | str s => exact .str s
    | nil => exact .nil
    | e0 a c => exact .e0 a c
    | sl => simp [PV.scalar] at hp'
    | tup => simp [PV.scalar] at hp'
  | int k n => exact .int k n
  | bool b => exact .bool b
  | str s => exact .str s
  | nil => exact .nil
  | e0 a c => exact .e0 a c
  | sl => simp [PV.flat, PV.scalar] at hf

mutual
theorem nobuf_rel {T : Nat → Prop} : ∀ (d : DV) (v : Value) (L' : DH) (K : PV → Prop), RelV T w μ L d v → d.noBuf = true → brw d L' K → ∃ p, K p ∧ RelP T w p v
  | .pv p, v, L', K => fun hr _ hb => by
    cases hr with
    | pv _ _ hp => exact ⟨p, hb, hp⟩
  | .e0, v, L', K => fun hr _ hb => by
    cases hr with
    | e0 a => exact ⟨_, hb, .e0 a 0⟩
  | .buf k n, v, L', K => fun _ hn hb => by simp [DV.noBuf] at hn
  | .agg l, v, L', K => fun hr hn hb => by
    simp only [brw] at hb
    cases hr with
    | agg _ vs h1 h2 =>
      obtain ⟨ps, hK, hl, hp⟩ := nobufs_rel l vs L' _ h1 h2 (by simpa [DV.noBuf] using hn) hb
      exact ⟨_, hK, .agg ps vs hl hp⟩
  | .tup l, v, L', K => fun hr hn hb => by
    simp only [brw] at hb
    cases hr with
    | tup _ vs h1 h2 =>
      obtain ⟨ps, hK, hl, hp⟩ := nobufs_rel l vs L' _ h1 h2 (by simpa [DV.noBuf] using hn) hb
      exact ⟨_, hK, .tup ps vs hl hp⟩
  | .ref _ _, _, _, _ => fun _ _ hb => by simp [brw] at hb
  | .aref _ _ _ _, _, _, _ => fun _ _ hb => by simp [brw] at hb
  | .eptr _ _, _, _, _ => fun _ _ hb => by simp [brw] at hb
  | .mp _, _, _, _ => fun _ _ hb => by simp [brw] at hb
  | .clo _ _ _, _, _, _ => fun _ _ hb => by simp [brw] at hb
  | .fnv _, _, _, _ => fun _ _ hb => by simp [brw] at hb
  | .when _ _, _, _, _ => fun _ _ hb => by simp [brw] at hb
  | .raw _, _, _, _ => fun _ _ hb => by simp [brw] at hb
  | .any, _, _, _ => fun _ _ hb => by simp [brw] at hb
theorem nobufs_rel {T : Nat → Prop} : ∀ (l : List DV) (vs : List Value) (L' : DH) (K : List PV → Prop), l.length = vs.length →
    (∀ (i : Nat) d v, l[i]? = some d → vs[i]? = some v → RelV T w μ L d v) → DV.noBufs l = true → brws l L' K → ∃ ps, K ps ∧ ps.length = vs.length ∧ ∀ (i : Nat) p v, ps[i]? = some p → vs[i]? = some v → RelP T w p v
  | [], vs, L', K => fun hl _ _ hb => ⟨[], hb, hl, fun i p v hp _ => by simp at hp⟩
  | d :: r, [], L', K => fun hl _ _ _ => by simp at hl
  | d :: r, v :: vs, L', K => fun hl hr hn hb => by
    simp only [brws] at hb
    simp only [DV.noBufs, Bool.and_eq_true] at hn
    obtain ⟨p, hb', hp⟩ := nobuf_rel d v L' _ (hr 0 d v rfl rfl) hn.1 hb
    obtain ⟨ps, hK, hl', hps⟩ := nobufs_rel r vs L' _ (by simpa using hl) (fun i d v hd hv => hr (i + 1) d v (by simpa using hd) (by simpa using hv)) hn.2 hb'
    refine ⟨p :: ps, hK, by simp [hl'], fun i q u hq hu => ?_⟩
    cases i with
    | zero => simp at hq hu; subst hq; subst hu; exact hp
    | succ i => exact hps i q u (by simpa using hq) (by simpa using hu)
end

/-- A call of a function that only computes, its arguments read as they stand. -/
theorem DCD.dc {f : FuncId} {args : List DV} (hcb : callable P f = true) (h : DCD P f args L K) : DC P M w0 f args L K := by
  obtain ⟨p, hb, hf, hK⟩ := h
  refine DC.mk ⟨hcb, fun μ w vs hr hu ⟨hl, hrel⟩ => ?_⟩
  simp only [Bool.or_eq_true] at hf
  rcases hf with hf | hf
  · obtain ⟨ps, hP, hpl, hps⟩ := nobufs_rel args vs L _ hl hrel hf hb
    refine (hP.elim.2 (Tot M μ L) w vs (fun b hb => Tot.lt hr hb) ⟨hpl, hps⟩).mono ?_
    rintro e w' ⟨v, rfl, hv, hbl⟩
    obtain ⟨hs, hr'⟩ := hr.more hbl
    exact ⟨v, rfl, μ, p.dv, L, hK, hr', dv_rel hv, dv_under _ _, hs⟩
  · obtain ⟨ps, hP, hpl, hps⟩ := brws_rel hr (fun _ _ h => h) args vs _ hl hrel hb
    refine (hP.elim.2 (TotB M μ L) w vs (fun b hb => Tot.lt hr hb.tot) ⟨hpl, hps⟩).mono ?_
    rintro e w' ⟨v, rfl, hv, hbl⟩
    obtain ⟨hs, hr'⟩ := hr.more hbl
    exact ⟨v, rfl, μ, p.dv, L, hK, hr', dv_rel (flat_rel hv hf), dv_under _ _, hs⟩
theorem PureFn.callable_of_dcd {f : FuncId} {args : List DV} (h : ∀ (K : List PV → Prop), brws args L K → ∃ ps, K ps) (hd : DCD P f args L K) : callable P f = true := by
  obtain ⟨p, hb, _, _⟩ := hd
  obtain ⟨ps, hP⟩ := h _ hb
  exact hP.elim.1

mutual
theorem brw_ex : ∀ (d : DV) (L : DH) (K : PV → Prop), brw d L K → ∃ p, K p
  | .pv p, L, K => fun hb => ⟨p, hb⟩
  | .e0, L, K => fun hb => ⟨_, hb⟩
  | .buf k n, L, K => fun hb => by
    simp only [brw] at hb
    cases hk : L.get k with
    | none => simp [hk] at hb
    | some o => cases o <;> simp only [hk] at hb <;> first | exact ⟨_, hb.2⟩ | exact hb.elim
  | .agg l, L, K => fun hb => by simp only [brw] at hb; obtain ⟨ps, h⟩ := brws_ex l L _ hb; exact ⟨_, h⟩
  | .tup l, L, K => fun hb => by simp only [brw] at hb; obtain ⟨ps, h⟩ := brws_ex l L _ hb; exact ⟨_, h⟩
  | .ref _ _, _, _ => fun hb => by simp [brw] at hb
  | .aref _ _ _ _, _, _ => fun hb => by simp [brw] at hb
  | .eptr _ _, _, _ => fun hb => by simp [brw] at hb
  | .mp _, _, _ => fun hb => by simp [brw] at hb
  | .clo _ _ _, _, _ => fun hb => by simp [brw] at hb
  | .fnv _, _, _ => fun hb => by simp [brw] at hb
  | .when _ _, _, _ => fun hb => by simp [brw] at hb
  | .raw _, _, _ => fun hb => by simp [brw] at hb
  | .any, _, _ => fun hb => by simp [brw] at hb
theorem brws_ex : ∀ (l : List DV) (L : DH) (K : List PV → Prop), brws l L K → ∃ ps, K ps
  | [], L, K => fun hb => ⟨[], hb⟩
  | d :: r, L, K => fun hb => by
    simp only [brws] at hb
    obtain ⟨p, hb⟩ := brw_ex d L _ hb
    obtain ⟨ps, hb⟩ := brws_ex r L _ hb
    exact ⟨_, hb⟩
end

theorem res_call {c : Call} (ho : o.op = .call c) (h : HR M w0 μ L w) (hρ : Rho M μ L w ρ a) (hv : vcOp P M w0 dr ρ L o K) : OpRes P M w0 μ L w K o a := by
  simp only [vcOp, ho] at hv
  cases hc : c.callee with
  | invoke r m => simp [hc] at hv
  | builtin b =>
    simp only [hc] at hv
    cases b
    case len =>
      cases hargs : c.args.toList.map ρ with
      | nil => rw [hargs] at hv; simp [vcBuiltin] at hv
      | cons d r =>
        cases r with
        | nil => rw [hargs] at hv; exact res_len ho hc hargs h hρ hv
        | cons => rw [hargs] at hv; simp [vcBuiltin] at hv
    case append =>
      cases hargs : c.args.toList.map ρ with
      | nil => rw [hargs] at hv; simp [vcBuiltin] at hv
      | cons d r =>
        cases r with
        | nil => rw [hargs] at hv; simp [vcBuiltin] at hv
        | cons d2 r =>
          cases r with
          | cons => rw [hargs] at hv; simp [vcBuiltin] at hv
          | nil =>
            rw [hargs] at hv
            simp only [vcBuiltin] at hv
            split at hv
            · rename_i t t2 ht
              obtain ⟨x, y, hx, e1, e2⟩ := args_two hargs
              subst e1; subst e2
              exact res_append ho hc hx (ty_two ht) h hρ hv
            · exact hv.elim
    case max =>
      cases hargs : c.args.toList.map ρ with
      | nil => rw [hargs] at hv; simp [vcBuiltin] at hv
      | cons d r =>
        cases r with
        | nil => rw [hargs] at hv; simp [vcBuiltin] at hv
        | cons d2 r =>
          cases r with
          | cons => rw [hargs] at hv; simp [vcBuiltin] at hv
          | nil => rw [hargs] at hv; exact res_max ho hc hargs h hρ hv
    case min =>
      cases hargs : c.args.toList.map ρ with
      | nil => rw [hargs] at hv; simp [vcBuiltin] at hv
      | cons d r =>
        cases r with
        | nil => rw [hargs] at hv; simp [vcBuiltin] at hv
        | cons d2 r =>
          cases r with
          | cons => rw [hargs] at hv; simp [vcBuiltin] at hv
          | nil => rw [hargs] at hv; exact res_min ho hc hargs h hρ hv
    all_goals simp [vcBuiltin] at hv
  | value f =>
    simp only [hc] at hv
    have hf := hρ.rel f
    have hfu := hρ.und f
    obtain ⟨a1, a2, a3⟩ := map_rel hρ c.args
    have clo : ∀ fid first caps, ρ f = .clo fid first caps → DC P M w0 fid (first ++ c.args.toList.map ρ ++ caps) L K → OpRes P M w0 μ L w K o a := by
      intro fid first caps he hdc
      rw [he] at hf hfu
      generalize hev : a.eval f = vf at hf
      cases hf with
      | clo _ _ _ fs cs l1 l2 r1 r2 =>
        simp only [DV.under, Bool.and_eq_true] at hfu
        obtain ⟨hcb, hcall⟩ := hdc.elim
        refine .inr (.inr ⟨fid, ⟨fs⟩ ++ c.args.map a.eval ++ ⟨cs⟩, run_call ho hc hev hcb, ?_⟩)
        have := hcall μ w (fs ++ (c.args.map a.eval).toList ++ cs) h (by
          rw [unders_mem]
          intro d hd
          rcases List.mem_append.1 hd with hd | hd
          · rcases List.mem_append.1 hd with hd | hd
            · exact unders_mem.1 hfu.1 d hd
            · exact unders_mem.1 a3 d hd
          · exact unders_mem.1 hfu.2 d hd) ⟨by simp only [List.length_append, l1, l2, a1], fun i d v hd hv => by
          by_cases i1 : i < first.length
          · rw [List.append_assoc, List.getElem?_append_left i1] at hd
            rw [List.append_assoc, List.getElem?_append_left (by omega)] at hv
            exact r1 i d v hd hv
          · rw [List.append_assoc, List.getElem?_append_right (by omega)] at hd
            rw [List.append_assoc, List.getElem?_append_right (by omega), ← l1] at hv
            by_cases i2 : i - first.length < (c.args.toList.map ρ).length
            · rw [List.getElem?_append_left i2] at hd
              rw [List.getElem?_append_left (by omega)] at hv
              exact a2 _ d v hd hv
            · rw [List.getElem?_append_right (by omega)] at hd
              rw [List.getElem?_append_right (by omega), ← a1] at hv
              exact r2 _ d v hd hv⟩
        have e1 : (⟨fs ++ (c.args.map a.eval).toList ++ cs⟩ : Array Value) = ⟨fs⟩ ++ c.args.map a.eval ++ ⟨cs⟩ := by
          apply Array.ext'
          simp
        rw [e1] at this
        exact this
    cases hd : ρ f with
    | clo fid first caps =>
      rw [hd] at hv
      cases dr with
      | false => exact clo fid first caps hd hv
      | true =>
        have hv' : DCD P fid (first ++ c.args.toList.map ρ ++ caps) L K := hv
        exact clo fid first caps hd (hv'.dc (PureFn.callable_of_dcd (fun K hb => brws_ex _ _ K hb) hv'))
    | fnv v =>
      rw [hd] at hv
      cases dr with
      | true => simp at hv
      | false =>
        have hv' : DCV P M w0 v (c.args.toList.map ρ) L K := hv
        obtain ⟨fid, fs, cs, he, hcb, hcall⟩ := hv'.elim
        rw [hd] at hf
        have hev : a.eval f = v := by cases hf; rfl
        refine .inr (.inr ⟨fid, fs ++ c.args.map a.eval ++ cs, run_call ho hc (by rw [hev, he]) hcb, ?_⟩)
        exact hcall μ w (c.args.map a.eval).toList h a3 ⟨a1, a2⟩
    | _ => rw [hd] at hv; cases dr <;> simp at hv

theorem vcOp_sound (h : HR M w0 μ L w) (hρ : Rho M μ L w ρ a) (hv : vcOp P M w0 dr ρ L o K) : OpRes P M w0 μ L w K o a := by
  cases ho : o.op
  case move x => exact res_move (x := x) (by simp only [execOp, ho]) h hρ (by simpa only [vcOp, ho] using hv)
  case assign x => exact res_move (x := x) (by simp only [execOp, ho]) h hρ (by simpa only [vcOp, ho] using hv)
  case pick => exact res_pick ho h hρ hv
  case alloc t =>
    have hv' := hv
    simp only [vcOp, ho] at hv'
    cases hz : zeroOf P t with
    | none => simp [hz] at hv'
    | some z =>
      cases h1 : z.cells.all DV.one with
      | false => simp [hz, h1] at hv'
      | true => simp only [hz, h1] at hv'; exact res_alloc ho h hz h1 hv'
  case box t x =>
    have hv' := hv
    simp only [vcOp, ho] at hv'
    cases h1 : (ρ x).cells.all DV.one with
    | false => simp [h1] at hv'
    | true => simp only [h1] at hv'; exact res_box ho h hρ h1 hv'
  case build => exact res_build ho h hρ hv
  case buildSlice => exact res_buildSlice ho h hρ hv
  case load => exact res_load ho h hρ hv
  case store => exact res_store ho h hρ hv
  case nilCheck => exact res_nilCheck ho h hρ hv
  case binOp => exact res_binOp ho h hρ hv
  case unOp => exact res_unOp ho h hρ hv
  case convert => exact res_convert ho h hρ hv
  case makeFunc => exact res_makeFunc ho h hρ hv
  case makeMap => exact res_makeMap ho h hv
  case makeSlice => exact res_makeSlice ho h hρ hv
  case slice => exact res_slice ho h hρ hv
  case fieldAddr => exact res_fieldAddr ho h hρ hv
  case field => exact res_field ho h hρ hv
  case indexAddr => exact res_indexAddr ho h hρ hv
  case lookup => exact res_lookup ho h hρ hv
  case mapUpdate => exact res_mapUpdate ho h hρ hv
  case extract => exact res_extract ho h hρ hv
  case call => exact res_call ho h hρ hv
  all_goals simp [vcOp, ho] at hv
end
end Go.Dv
