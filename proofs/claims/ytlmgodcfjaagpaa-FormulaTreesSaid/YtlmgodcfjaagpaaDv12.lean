/- The layer Dv, part 12: operators; maps. -/
import Derived.Test.YtlmgodcfjaagpaaDv11
namespace Go.Dv
open Go.RowKit (Below)
section
variable {P : Program} {M : Nat → Prop} {w0 : World} {μ : Nat → Loc} {L : DH} {w : World} {a : Act} {ρ : Operand → DV} {K : DV → DH → Prop} {o : Oper} {dr : Bool}

theorem int_run {op : BinOp} {k k' : IntKind} {x y : Int} {t : TypeId} {Kd : DV → Prop} (h : vcInt op k x k' y Kd) : ∃ d v, (binOp op t (.int k x) (.int k' y)).run P w = .ok v w ∧ (∀ T : Nat → Prop, RelV T w μ L d v) ∧ d.under L.next = true ∧ Kd d := by
  have I : ∀ (n : Int), Kd (.pv (.int k n)) → (binOp op t (.int k x) (.int k' y)).run P w = .ok (.int k n) w → ∃ d v, (binOp op t (.int k x) (.int k' y)).run P w = .ok v w ∧ (∀ T : Nat → Prop, RelV T w μ L d v) ∧ d.under L.next = true ∧ Kd d :=
    fun n hk hr => ⟨_, _, hr, fun T => relI T k n, rfl, hk⟩
  have B : ∀ (b : Bool), Kd (.pv (.bool b)) → (binOp op t (.int k x) (.int k' y)).run P w = .ok (.bool b) w → ∃ d v, (binOp op t (.int k x) (.int k' y)).run P w = .ok v w ∧ (∀ T : Nat → Prop, RelV T w μ L d v) ∧ d.under L.next = true ∧ Kd d :=
    fun n hk hr => ⟨_, _, hr, fun T => relB T n, rfl, hk⟩
  by_cases hk : k = k'
  · subst hk
    cases op <;> simp only [vcInt, decide_true] at h
    case add => exact I _ h (by simp [binOp, Op.intArith])
    case sub => exact I _ h (by simp [binOp, Op.intArith])
    case mul => exact I _ h (by simp [binOp, Op.intArith])
    case quo => exact I _ h.2 (by simp [binOp, Op.intDiv, h.1])
    case rem => exact I _ h.2 (by simp [binOp, Op.intDiv, h.1])
    case and => exact I _ h (by simp [binOp, Op.intBits])
    case or => exact I _ h (by simp [binOp, Op.intBits])
    case xor => exact I _ h (by simp [binOp, Op.intBits])
    case shl => exact I _ h.2 (by have : ¬ y < 0 := by omega
                                  simp [binOp, Op.shift, this])
    case shr => exact I _ h.2 (by have : ¬ y < 0 := by omega
                                  simp [binOp, Op.shift, this])
    case andNot => exact I _ h (by simp [binOp, Op.intBits])
    case eql => exact B _ h (by simp [binOp, Op.intCmp])
    case neq => exact B _ h (by simp [binOp, Op.intCmp])
    case lss => exact B _ h (by simp [binOp, Op.intCmp])
    case leq => exact B _ h (by simp [binOp, Op.intCmp])
    case gtr => exact B _ h (by simp [binOp, Op.intCmp])
    case geq => exact B _ h (by simp [binOp, Op.intCmp])
  · cases op <;> simp only [vcInt, hk, decide_false] at h
    case shl => exact I _ h.2 (by have : ¬ y < 0 := by omega
                                  simp [binOp, Op.shift, this])
    case shr => exact I _ h.2 (by have : ¬ y < 0 := by omega
                                  simp [binOp, Op.shift, this])

theorem run_equal_scalar {T : Nat → Prop} {t : TypeId} {p q : PV} {u v : Value} (n : Nat) (hp : fitPV (P.underlying t) p = true) (hq : fitPV (P.underlying t) q = true) (h1 : RelP T w p u) (h2 : RelP T w q v) :
    (Op.equalIn (n + 1) t u v).run P w = .ok (eqPV p q) w := by
  cases p <;> simp only [fitPV] at hp <;> try (cases hp; done)
  · cases hu : P.underlying t with
    | none => simp [hu] at hp
    | some d =>
      cases d <;> simp [hu] at hp
      subst hp
      cases q <;> simp [fitPV, hu] at hq
      subst hq
      cases h1; cases h2
      exact run_equalIn_int w n t _ _ _ _ hu
  · cases hu : P.underlying t with
    | none => simp [hu] at hp
    | some d =>
      cases d <;> simp [hu] at hp
      cases q <;> simp [fitPV, hu] at hq
      cases h1; cases h2
      exact run_equalIn_bool' w n t _ _ hu
  · cases hu : P.underlying t with
    | none => simp [hu] at hp
    | some d =>
      cases d <;> simp [hu] at hp
      cases q <;> simp [fitPV, hu] at hq
      cases h1; cases h2
      exact run_equalIn_string w n t _ _ hu

theorem kind_scalar {t : TypeId} {p : PV} (h : fitPV (P.underlying t) p = true) : kindT P t = some false := by
  unfold kindT
  cases p <;> simp only [fitPV] at h <;> try (cases h; done)
  all_goals
    cases hu : P.underlying t with
    | none => simp [hu] at h
    | some d => cases d <;> simp [hu] at h ⊢

theorem run_eqFields {T : Nat → Prop} (n : Nat) (xs ys : List Value) : ∀ (fs : List Field) (i : Nat) (ps qs : List PV), fitFields P fs i ps = true → fitFields P fs i qs = true →
    (∀ (j : Nat) p, ps[j]? = some p → ∃ u, xs[i + j]? = some u ∧ RelP T w p u) → (∀ (j : Nat) p, qs[j]? = some p → ∃ u, ys[i + j]? = some u ∧ RelP T w p u) →
    (Op.eqFields (n + 1) ⟨xs⟩ ⟨ys⟩ fs).run P w = .ok (eqPVs ps qs) w
  | [], i, [], [], _, _, _, _ => rfl
  | [], i, _ :: _, _, h, _, _, _ => by simp [fitFields] at h
  | [], i, [], _ :: _, _, h, _, _ => by simp [fitFields] at h
  | f :: fs, i, [], _, h, _, _, _ => by simp [fitFields] at h
  | f :: fs, i, _ :: _, [], _, h, _, _ => by simp [fitFields] at h
  | f :: fs, i, p :: ps, q :: qs, h1, h2, g1, g2 => by
    simp only [fitFields, Bool.and_eq_true] at h1 h2
    obtain ⟨⟨⟨a1, a2⟩, a3⟩, a4⟩ := h1
    obtain ⟨⟨⟨_, _⟩, b3⟩, b4⟩ := h2
    obtain ⟨u, hu, hru⟩ := g1 0 p rfl
    obtain ⟨v, hv, hrv⟩ := g2 0 q rfl
    simp only [Nat.add_zero] at hu hv
    have ih := run_eqFields n xs ys fs (i + 1) ps qs a4 b4 (fun j p hj => by have := g1 (j + 1) p (by simpa using hj); rwa [show i + (j + 1) = i + 1 + j by omega] at this)
      (fun j p hj => by have := g2 (j + 1) p (by simpa using hj); rwa [show i + (j + 1) = i + 1 + j by omega] at this)
    have hoff : f.offset = i := beq_of a1
    have hnm : f.name ≠ "_" := by simpa using a2
    have hk := kind_scalar a3
    have r1 : (part f.type ⟨xs⟩ f.offset).run P w = .ok u w := by simp [part, run_isAgg_kind hk, hoff, hu]
    have r2 : (part f.type ⟨ys⟩ f.offset).run P w = .ok v w := by simp [part, run_isAgg_kind hk, hoff, hv]
    have r3 := run_equal_scalar (P := P) (w := w) n a3 b3 hru hrv
    simp only [Op.eqFields, hnm, ne_eq, not_false_eq_true, if_true, Sem.run_bind, r1, r2, r3, Result.andThen_ok, eqPVs]
    cases he : eqPV p q with
    | false => simp
    | true => simpa using ih

theorem run_equal_fit {T : Nat → Prop} {t : TypeId} {ps qs : List PV} {u v : Value} (n : Nat) (hp : fitT P t (.agg ps) = true) (hq : fitT P t (.agg qs) = true) (h1 : RelP T w (.agg ps) u) (h2 : RelP T w (.agg qs) v) :
    (Op.equalIn (n + 2) t u v).run P w = .ok (eqPVs ps qs) w := by
  cases h1 with
  | agg _ xs l1 r1 =>
    cases h2 with
    | agg _ ys l2 r2 =>
      unfold fitT at hp hq
      cases hu : P.underlying t with
      | none => simp [hu] at hp
      | some d =>
        cases d <;> simp only [hu] at hp hq <;> try (cases hp; done)
        rename_i fs
        simp only [Bool.and_eq_true] at hp hq
        have hfo : P.fieldsOf t = fs := by simp [Program.fieldsOf, hu]
        rw [run_equalIn_struct w (n + 1) t ⟨xs⟩ ⟨ys⟩ (by rw [hfo]; exact hu) (by simpa using hp.2), hfo]
        refine run_eqFields (T := T) n xs ys fs.toList 0 ps qs hp.1 hq.1 (fun j p hj => ?_) (fun j p hj => ?_)
        · have hlt := getE_lt hj
          refine ⟨xs[j]'(by omega), by rw [Nat.zero_add]; exact List.getElem?_eq_getElem (by omega), r1 j p _ hj (List.getElem?_eq_getElem (by omega))⟩
        · have hlt := getE_lt hj
          refine ⟨ys[j]'(by omega), by rw [Nat.zero_add]; exact List.getElem?_eq_getElem (by omega), r2 j p _ hj (List.getElem?_eq_getElem (by omega))⟩

theorem res_binOp {op : BinOp} {t t2 : TypeId} {x y : Operand} (ho : o.op = .binOp op t x y t2) (h : HR M w0 μ L w) (hρ : Rho M μ L w ρ a) (hv : vcOp P M w0 dr ρ L o K) : OpRes P M w0 μ L w K o a := by
  have hx := hρ.rel x
  have hy := hρ.rel y
  simp only [vcOp, ho] at hv
  have run : ∀ v, (do eqGuard op t x y (a.eval x) (a.eval y); binOp op t (a.eval x) (a.eval y) : Sem Value).run P w = .ok v w → (execOp a.eval o).run P w = .ok (.value v) w := by
    intro v hr
    rw [show execOp a.eval o = (do pure (Next.value (← (do eqGuard op t x y (a.eval x) (a.eval y); binOp op t (a.eval x) (a.eval y) : Sem Value))) : Sem Next) from by simp only [execOp, ho]]
    exact run_val hr
  have bool : ∀ b, (binOp op t (a.eval x) (a.eval y)).run P w = .ok (.bool b) w → (eqGuard op t x y (a.eval x) (a.eval y)).run P w = .ok () w → K (.pv (.bool b)) L → OpRes P M w0 μ L w K o a := by
    intro b hr hg hk
    exact .val (run (.bool b) (by simp [hg, hr])) (Out.id h (relB _ _) rfl hk)
  generalize hdx : ρ x = dx at hv hx
  generalize hdy : ρ y = dy at hv hy
  unfold vcBin at hv
  split at hv
  · -- integers
    rename_i k i k' j
    have e1 := pvI hx
    have e2 := pvI hy
    obtain ⟨d, v, hr, hrel, hu, hk⟩ := int_run (P := P) (w := w) (μ := μ) (L := L) (t := t) hv
    refine .val (run v ?_) (Out.id h (hrel _) hu hk)
    have hg : (eqGuard op t x y (a.eval x) (a.eval y)).run P w = .ok () w := by
      rw [e1, e2]; unfold eqGuard; split <;> simp
    rw [Sem.run_bind, hg, Result.andThen_ok, e1, e2]
    exact hr
  · -- bools
    rename_i b c
    have e1 := pvB hx
    have e2 := pvB hy
    split at hv
    case h_2 => exact hv.elim
    rename_i hf
    have hu : P.underlying t = some .bool := by
      simp only [fitPV] at hf
      cases hu : P.underlying t with
      | none => simp [hu] at hf
      | some d => cases d <;> simp [hu] at hf ⊢
    have heq : (Op.equal t (.bool b) (.bool c)).run P w = .ok (b == c) w := run_equalIn_bool' w 9999 t b c hu
    have hg : (eqGuard op t x y (a.eval x) (a.eval y)).run P w = .ok () w := by
      rw [e1, e2]; unfold eqGuard; split <;> simp
    split at hv
    · exact bool _ (by rw [e1, e2]; simp [binOp, heq]) hg hv
    · exact bool _ (by rw [e1, e2]; simp [binOp, heq]) hg hv
    · exact hv.elim
  · -- strings
    rename_i b c
    have e1 := pvS hx
    have e2 := pvS hy
    have hg : (eqGuard op t x y (a.eval x) (a.eval y)).run P w = .ok () w := by
      rw [e1, e2]; unfold eqGuard; split <;> simp
    split at hv
    · exact bool _ (by rw [e1, e2]; simp [binOp, Op.stringOp]) hg hv
    · exact bool _ (by rw [e1, e2]; simp [binOp, Op.stringOp]) hg hv
    · have hb : b.size + c.size ≤ 4294967296 := hv.1
      have hn : ¬ ((b.size + c.size : Nat) : Int) > IntKind.i64.max := by
        have : IntKind.i64.max = 9223372036854775807 := by decide
        omega
      refine .val (run (.string (b ++ c)) ?_) (Out.id h (.pv _ _ (.str _)) rfl hv.2)
      rw [e1, e2] at hg ⊢
      simp only [Sem.run_bind, hg, Result.andThen_ok]
      simp only [binOp, Op.stringOp, if_neg hn, Sem.run_pure]
    · exact hv.elim
  · -- structs of scalars
    rename_i xs ys
    generalize ex : a.eval x = vx at hx
    generalize ey : a.eval y = vy at hy
    cases hx with
    | agg _ us l1 r1 =>
      cases hy with
      | agg _ vs l2 r2 =>
        obtain ⟨ps, hv, pl, pr⟩ := purs_rel xs us _ l1 r1 hv
        obtain ⟨qs, hv, ql, qr⟩ := purs_rel ys vs _ l2 r2 hv
        obtain ⟨f1, f2, f3, hv⟩ := hv
        have heq : (Op.equal t (.agg ⟨us⟩) (.agg ⟨vs⟩)).run P w = .ok (eqPVs ps qs) w := run_equal_fit 9998 f1 f2 (.agg ps us pl pr) (.agg qs vs ql qr)
        have hg : (eqGuard op t x y (a.eval x) (a.eval y)).run P w = .ok () w := by
          rw [ex, ey]; unfold eqGuard; split <;> simp [f3]
        split at hv
        · exact bool _ (by rw [ex, ey]; simp [binOp, heq]) hg hv
        · exact bool _ (by rw [ex, ey]; simp [binOp, heq]) hg hv
        · exact hv.elim
  · -- nil, nil
    have e1 := pvN hx
    have e2 := pvN hy
    split at hv
    case h_2 => exact hv.elim
    rename_i hf
    obtain ⟨e, hu⟩ : ∃ e, P.underlying t = some (.slice e) := by
      unfold isSlT at hf
      cases hu : P.underlying t with
      | none => simp [hu] at hf
      | some d => cases d <;> simp [hu] at hf ⊢
    have heq : (Op.equal t (.slice none 0 0) (.slice none 0 0)).run P w = .ok true w := by
      unfold Op.equal Op.maxDepth Op.equalIn
      simp [run_underlying hu]
    have hg : (eqGuard op t x y (a.eval x) (a.eval y)).run P w = .ok () w := by
      rw [e1, e2]; unfold eqGuard; split <;> simp
    split at hv
    · exact bool _ (by rw [e1, e2]; simp [binOp, heq]) hg hv
    · exact bool _ (by rw [e1, e2]; simp [binOp, heq]) hg hv
    · exact hv.elim
  · -- a slice with elements, nil
    rename_i p r
    have e2 := pvN hy
    split at hv
    case h_2 => exact hv.elim
    rename_i hf
    obtain ⟨e, hu⟩ : ∃ e, P.underlying t = some (.slice e) := by
      unfold isSlT at hf
      cases hu : P.underlying t with
      | none => simp [hu] at hf
      | some d => cases d <;> simp [hu] at hf ⊢
    obtain ⟨ad, n, c, e1⟩ : ∃ ad n c, a.eval x = .slice (some ad) n c := by
      generalize a.eval x = vx at hx
      cases hx with
      | pv _ _ hp =>
        generalize hlx : PV.sl (p :: r) = pl at hp
        cases hp with
        | sl b off sz cap l' val g1 g2 g3 g4 g5 g6 => exact ⟨_, _, _, rfl⟩
        | _ => cases hlx
    have heq : (Op.equal t (.slice (some ad) n c) (.slice none 0 0)).run P w = .ok false w := by
      unfold Op.equal Op.maxDepth Op.equalIn
      simp [run_underlying hu]
    have hg : (eqGuard op t x y (a.eval x) (a.eval y)).run P w = .ok () w := by
      rw [e1, e2]; unfold eqGuard; split <;> simp
    split at hv
    · exact bool _ (by rw [e1, e2]; simp [binOp, heq]) hg hv
    · exact bool _ (by rw [e1, e2]; simp [binOp, heq]) hg hv
    · exact hv.elim
  · exact hv.elim

/-! maps -/

theorem chk_scalar {T : Nat → Prop} {t : TypeId} {p : PV} {v : Value} {b : Bool} (n : Nat) (hf : fitPV (P.underlying t) p = true) (hr : RelP T w p v) : (Instr.checkKey b (n + 1) t v).run P w = .ok () w := by
  cases p <;> simp only [fitPV] at hf <;> try (cases hf; done)
  all_goals
    cases hu : P.underlying t with
    | none => simp [hu] at hf
    | some d =>
      cases d <;> simp [hu] at hf
      cases hr
      simp [Instr.checkKey, run_underlying hu]

theorem forIn_yield {α : Type} (g : α → PUnit → Sem (ForInStep PUnit)) : ∀ (fs : List α), (∀ f, f ∈ fs → (g f ⟨⟩).run P w = .ok (.yield ⟨⟩) w) → (forIn fs PUnit.unit g).run P w = .ok ⟨⟩ w
  | [], _ => by simp
  | f :: fs, h => by
    have ih := forIn_yield g fs fun x hx => h x (by simp [hx])
    simp only [List.forIn_cons, Sem.run_bind, h f (by simp), Result.andThen_ok]
    exact ih
theorem fit_field : ∀ (fs : List Field) (i : Nat) (ps : List PV), fitFields P fs i ps = true → ∀ f, f ∈ fs → ∃ j p, ps[j]? = some p ∧ f.offset = i + j ∧ f.name ≠ "_" ∧ fitPV (P.underlying f.type) p = true
  | [], _, _, _, f, hf => by simp at hf
  | g :: fs, i, [], h, _, _ => by simp [fitFields] at h
  | g :: fs, i, p :: ps, h, f, hf => by
    simp only [fitFields, Bool.and_eq_true] at h
    obtain ⟨⟨⟨a1, a2⟩, a3⟩, a4⟩ := h
    rcases List.mem_cons.1 hf with rfl | hf
    · exact ⟨0, p, rfl, beq_of a1, by simpa using a2, a3⟩
    · obtain ⟨j, q, h1, h2, h3⟩ := fit_field fs (i + 1) ps a4 f hf
      exact ⟨j + 1, q, by simpa using h1, by omega, h3⟩

theorem chk_key {T : Nat → Prop} {t : TypeId} {p : PV} {v : Value} {b : Bool} (hf : fitT P t p = true) (hr : RelP T w p v) : (Instr.checkKey b 10000 t v).run P w = .ok () w := by
  by_cases hagg : ∃ l, p = .agg l
  · obtain ⟨ps, rfl⟩ := hagg
    cases hr with
    | agg _ xs l1 r1 =>
      unfold fitT at hf
      cases hu : P.underlying t with
      | none => simp [hu] at hf
      | some d =>
        cases d <;> simp only [hu] at hf <;> try (cases hf; done)
        rename_i fs
        simp only [Bool.and_eq_true] at hf
        show (Instr.checkKey b (9998 + 1 + 1) t _).run P w = _
        unfold Instr.checkKey
        simp only [Sem.run_bind, run_underlying hu, Result.andThen_ok]
        rw [← Array.forIn_toList]
        rw [forIn_yield]
        · rfl
        intro f hf'
        obtain ⟨j, p, hj, hoff, hnm, hfit⟩ := fit_field fs.toList 0 ps hf.1 f hf'
        have hlt := getE_lt hj
        have hxj : xs[j]? = some (xs[j]'(by omega)) := List.getElem?_eq_getElem (by omega)
        have hk := kind_scalar hfit
        have hoff' : f.offset = j := by omega
        have r1' : (part f.type ⟨xs⟩ f.offset).run P w = .ok (xs[j]'(by omega)) w := by simp [part, run_isAgg_kind hk, hoff', hxj]
        have r2 := chk_scalar (P := P) (w := w) (b := b) 9998 hfit (r1 j p _ hj hxj)
        simp [hnm, r1', r2]
  · have hf' : fitPV (P.underlying t) p = true := by
      cases p <;> first | exact hf | exact absurd ⟨_, rfl⟩ hagg
    exact chk_scalar 9999 hf' hr

theorem eqPV_iff {d : Option TypeDesc} {p q : PV} (hp : fitPV d p = true) (hq : fitPV d q = true) : eqPV p q = true ↔ p = q := by
  cases d with
  | none => cases p <;> simp [fitPV] at hp
  | some d =>
    cases p <;> simp only [fitPV] at hp <;> try (cases hp; done)
    all_goals
      cases q <;> simp only [fitPV] at hq <;> try (cases hq; done)
      all_goals cases d <;> simp at hp hq
    · subst hp; subst hq; simp [eqPV]
    · simp [eqPV]
    · simp only [eqPV, ByteArray.toList_eq, beq_iff_eq]
      rename_i s1 s2
      obtain ⟨⟨x⟩⟩ := s1
      obtain ⟨⟨y⟩⟩ := s2
      simp
theorem eqPVs_iff : ∀ (fs : List Field) (i : Nat) (ps qs : List PV), fitFields P fs i ps = true → fitFields P fs i qs = true → (eqPVs ps qs = true ↔ ps = qs)
  | [], i, [], [], _, _ => by simp [eqPVs]
  | [], i, _ :: _, _, h, _ => by simp [fitFields] at h
  | [], i, [], _ :: _, _, h => by simp [fitFields] at h
  | f :: fs, i, [], _, h, _ => by simp [fitFields] at h
  | f :: fs, i, _ :: _, [], _, h => by simp [fitFields] at h
  | f :: fs, i, p :: ps, q :: qs, h1, h2 => by
    simp only [fitFields, Bool.and_eq_true] at h1 h2
    have ih := eqPVs_iff fs (i + 1) ps qs h1.2 h2.2
    simp only [eqPVs, Bool.and_eq_true, eqPV_iff h1.1.2 h2.1.2, ih, List.cons.injEq]

/-- Are two keys equal? The model's answer is the plain one. -/
theorem run_keyEq {T : Nat → Prop} {t : TypeId} {p q : PV} {u v : Value} (hp : fitT P t p = true) (hq : fitT P t q = true) (h1 : RelP T w p u) (h2 : RelP T w q v) :
    ∃ b, (Op.equal t u v).run P w = .ok b w ∧ (b = true ↔ p = q) := by
  by_cases hagg : ∃ l, p = .agg l
  · obtain ⟨ps, rfl⟩ := hagg
    have hst : ∃ fs, P.underlying t = some (.struct fs) ∧ fitFields P fs.toList 0 ps = true := by
      unfold fitT at hp
      cases hu : P.underlying t with
      | none => simp [hu] at hp
      | some d =>
        cases d <;> simp only [hu] at hp <;> try (cases hp; done)
        simp only [Bool.and_eq_true] at hp
        exact ⟨_, rfl, hp.1⟩
    obtain ⟨fs, hu, hfit⟩ := hst
    have hqa : ∃ qs, q = .agg qs := by
      cases q <;> first | exact ⟨_, rfl⟩ | (simp [fitT, fitPV, hu] at hq)
    obtain ⟨qs, rfl⟩ := hqa
    refine ⟨_, run_equal_fit 9998 hp hq h1 h2, ?_⟩
    have hfit2 : fitFields P fs.toList 0 qs = true := by simp only [fitT, hu, Bool.and_eq_true] at hq; exact hq.1
    rw [eqPVs_iff fs.toList 0 ps qs hfit hfit2]
    simp
  · have hp' : fitPV (P.underlying t) p = true := by
      cases p <;> first | exact hp | exact absurd ⟨_, rfl⟩ hagg
    have hq' : fitPV (P.underlying t) q = true := by
      cases q with
      | agg qs =>
        exfalso
        unfold fitT at hq
        cases hu : P.underlying t with
        | none => simp [hu] at hq
        | some d =>
          cases d <;> simp only [hu] at hq <;> try (cases hq; done)
          rw [hu] at hp'
          cases p <;> simp [fitPV] at hp'
      | _ => exact hq
    exact ⟨_, run_equal_scalar 9999 hp' hq' h1 h2, eqPV_iff hp' hq'⟩

/-- What is found under a key, with its place. -/
def FndRel (T : Nat → Prop) (w : World) : Option (Nat × PV) → Option (Nat × Value) → Prop
  | none, none => True
  | some (i, p), some (j, v) => i = j ∧ RelP T w p v
  | _, _ => False

theorem find_asking {T : Nat → Prop} {t : TypeId} {kp : PV} {kv : Value} (hk : fitT P t kp = true) (hkr : RelP T w kp kv) : ∀ (es : List (PV × PV)) (ents : List MapEntry) (i : Nat), es.length = ents.length →
    (∀ e, e ∈ es → fitT P t e.1 = true) → (∀ (j : Nat) e m, es[j]? = some e → ents[j]? = some m → RelP T w e.1 m.key ∧ RelP T w e.2 m.val) →
    ∃ r, (Instr.findAsking t kv ents i).run P w = .ok r w ∧ FndRel T w (mfnd kp es i) r
  | [], [], i, _, _, _ => ⟨none, rfl, trivial⟩
  | [], _ :: _, i, h, _, _ => by simp at h
  | _ :: _, [], i, h, _, _ => by simp at h
  | e :: es, m :: ents, i, hl, hf, hr => by
    obtain ⟨g1, g2⟩ := hr 0 e m rfl rfl
    obtain ⟨b, hb, hiff⟩ := run_keyEq hk (hf e (by simp)) hkr g1
    simp only [Instr.findAsking, Sem.run_bind, hb, Result.andThen_ok]
    cases b with
    | true =>
      have he : e.1 = kp := (hiff.1 rfl).symm
      refine ⟨some (i, m.val), by simp, ?_⟩
      simp only [mfnd, he, if_true]
      exact ⟨rfl, g2⟩
    | false =>
      have he : ¬ e.1 = kp := fun h => by have := hiff.2 h.symm; cases this
      obtain ⟨r, hr1, hr2⟩ := find_asking hk hkr es ents (i + 1) (by simpa using hl) (fun x hx => hf x (by simp [hx])) (fun j x y hx hy => hr (j + 1) x y (by simpa using hx) (by simpa using hy))
      refine ⟨r, by simpa using hr1, ?_⟩
      simp only [mfnd, he, if_false]
      exact hr2

theorem find_now {T : Nat → Prop} {t : TypeId} {d : TypeDesc} {kp : PV} {kv : Value} (hu : P.underlying t = some d) (hk : fitT P t kp = true) (hkr : RelP T w kp kv) : ∀ (es : List (PV × PV)) (ents : List MapEntry) (i : Nat), es.length = ents.length →
    (∀ e, e ∈ es → fitT P t e.1 = true) → (∀ (j : Nat) e m, es[j]? = some e → ents[j]? = some m → RelP T w e.1 m.key ∧ RelP T w e.2 m.val) →
    ∀ r, Instr.findNow d kv ents i = some r → FndRel T w (mfnd kp es i) r
  | [], [], i, _, _, _, r, h => by simp [Instr.findNow] at h; subst h; trivial
  | [], _ :: _, i, h, _, _, _, _ => by simp at h
  | _ :: _, [], i, h, _, _, _, _ => by simp at h
  | e :: es, m :: ents, i, hl, hf, hr, r, h => by
    obtain ⟨g1, g2⟩ := hr 0 e m rfl rfl
    obtain ⟨b, hb, hiff⟩ := run_keyEq hk (hf e (by simp)) hkr g1
    have hsame : ∀ c, Instr.sameNow d kv m.key = some c → c = b := by
      intro c hc
      unfold Instr.sameNow at hc
      split at hc
      · rename_i k' k x k2 y e2
        split at hc
        · rename_i hkk
          subst hkk
          rw [e2] at hb
          have := run_equalIn_int (P := P) w 9999 t k _ x y hu
          unfold Op.equal Op.maxDepth at hb
          rw [this] at hb
          simp at hb hc
          rw [← hb, ← hc]
        · cases hc
      · rename_i x y e2
        rw [e2] at hb
        have := run_equalIn_string (P := P) w 9999 t x y hu
        unfold Op.equal Op.maxDepth at hb
        rw [this] at hb
        simp at hb hc
        rw [← hb, ← hc, beq_toListBytes]
      · rename_i x y e2
        rw [e2] at hb
        have := run_equalIn_bool' (P := P) w 9999 t x y hu
        unfold Op.equal Op.maxDepth at hb
        rw [this] at hb
        simp at hb hc
        rw [← hb, ← hc]
      · cases hc
    simp only [Instr.findNow] at h
    split at h
    · rename_i hs
      have hbt := hsame _ hs
      subst hbt
      have he : e.1 = kp := (hiff.1 rfl).symm
      simp at h
      subst h
      simp only [mfnd, he, if_true]
      exact ⟨rfl, g2⟩
    · rename_i hs
      have hbt := hsame _ hs
      subst hbt
      have he : ¬ e.1 = kp := fun h => by have := hiff.2 h.symm; cases this
      simp only [mfnd, he, if_false]
      exact find_now hu hk hkr es ents (i + 1) (by simpa using hl) (fun x hx => hf x (by simp [hx])) (fun j x y hx hy => hr (j + 1) x y (by simpa using hx) (by simpa using hy)) r h
    · cases h

theorem find_key {T : Nat → Prop} {t : TypeId} {kp : PV} {kv : Value} (hk : fitT P t kp = true) (hkr : RelP T w kp kv) (es : List (PV × PV)) (ents : List MapEntry) (hl : es.length = ents.length)
    (hf : ∀ e, e ∈ es → fitT P t e.1 = true) (hr : ∀ (j : Nat) e m, es[j]? = some e → ents[j]? = some m → RelP T w e.1 m.key ∧ RelP T w e.2 m.val) :
    ∃ r, (Instr.findKey t kv ents).run P w = .ok r w ∧ FndRel T w (mfnd kp es 0) r := by
  have hu : ∃ d, P.underlying t = some d := by
    cases hu : P.underlying t with
    | none => cases kp <;> simp [fitT, fitPV, hu] at hk
    | some d => exact ⟨d, rfl⟩
  obtain ⟨d, hu⟩ := hu
  unfold Instr.findKey
  simp only [Sem.run_bind, run_underlying hu, Result.andThen_ok]
  cases hn : Instr.findNow d kv ents 0 with
  | some r => exact ⟨r, rfl, find_now hu hk hkr es ents 0 hl hf hr r hn⟩
  | none => exact find_asking hk hkr es ents 0 hl hf hr

theorem dv0_rel {T : Nat → Prop} {p : PV} {v : Value} (h : RelP T w p v) : RelV T w μ L p.dv0 v := by
  unfold PV.dv0
  split
  · cases h with
    | agg l vs h1 h2 =>
      refine .agg _ vs (by simpa using h1) fun i d v hd hv => ?_
      obtain ⟨q, hq, rfl⟩ := getE_map_pv hd
      exact .pv _ _ (h2 i q v hq hv)
  · exact .pv _ _ h
theorem dv0_under (n : Nat) (p : PV) : p.dv0.under n = true := by
  unfold PV.dv0
  split
  · simp only [DV.under]; exact unders_pv n _
  · rfl
theorem dv_rel {T : Nat → Prop} {p : PV} {v : Value} (h : RelP T w p v) : RelV T w μ L p.dv v := by
  unfold PV.dv
  split
  · exact dv0_rel h
  · cases h with
    | tup l vs h1 h2 =>
      refine .tup _ vs (by simpa using h1) fun i d v hd hv => ?_
      rw [List.getElem?_map] at hd
      cases hl : ‹List PV›[i]? with
      | none => simp [hl] at hd
      | some q => simp [hl] at hd; subst hd; exact dv0_rel (h2 i q v hl hv)
  · exact .pv _ _ h
theorem dv_under (n : Nat) (p : PV) : p.dv.under n = true := by
  unfold PV.dv
  split
  · exact dv0_under n (.agg _)
  · simp only [DV.under]
    rw [unders_mem]
    intro d hd
    obtain ⟨q, _, rfl⟩ := List.mem_map.1 hd
    exact dv0_under n q
  · rfl

theorem res_lookup {t : TypeId} {m k : Operand} {ok : Bool} (ho : o.op = .lookup t m k ok) (h : HR M w0 μ L w) (hρ : Rho M μ L w ρ a) (hv : vcOp P M w0 dr ρ L o K) : OpRes P M w0 μ L w K o a := by
  have hm := hρ.rel m
  have hk := hρ.rel k
  simp only [vcOp, ho] at hv
  generalize hdm : ρ m = dm at hv hm
  split at hv
  case h_2 => exact hv.elim
  rename_i kt et id hu
  cases hg : L.get id with
  | none => simp [hg] at hv
  | some ob =>
    cases ob with
    | mp es =>
      cases hz : zeroOf P et with
      | none => simp [hg, hz] at hv
      | some z =>
        simp only [hg, hz] at hv
        obtain ⟨kp, ⟨f1, f2, r, hr, hv⟩, hkr⟩ := pur_rel _ _ _ hk hv
        obtain ⟨i, v0, hi, hv0, hzv⟩ := zero_of hz
        obtain ⟨ents, clock, g1, g2, g3⟩ := h.obj id _ hg
        have hme : a.eval m = .map (some (μ id).blk) := by
          cases hm with
          | mp _ _ _ e => exact e es hg
        obtain ⟨rr, q1, q2⟩ := find_key f1 hkr es ents.toList (by simpa using g2.symm) f2 (fun j e m' he hm' => g3 j e m' he (by simpa using hm'))
        have hchk := chk_key (P := P) (w := w) (b := ents.isEmpty) f1 hkr
        have hgo : (getObj (μ id).blk).run P w = .ok (.map ents clock) w := by simp [getObj, Sem.run, g1]
        have hzr : (zeroValue et).run P w = .ok v0 w := by simp [zeroValue, typeInfo, hi, hv0]
        have hrun : ∀ v b, ((rr = none ∧ v = v0 ∧ b = false) ∨ (∃ j, rr = some (j, v) ∧ b = true)) → (execOp a.eval o).run P w = .ok (.value (if ok then .tuple #[v, .bool b] else v)) w := by
          intro v b hc
          rw [show execOp a.eval o = (do pure (Next.value (← Instr.lookup t (a.eval m) (a.eval k) ok)) : Sem Next) from by simp only [execOp, ho]]
          refine run_val ?_
          rcases hc with ⟨rfl, rfl, rfl⟩ | ⟨j, rfl, rfl⟩
          · simp only [Instr.lookup, Sem.run_bind, run_underlying hu, Result.andThen_ok, hme, hgo, Sem.run_pure, hchk, q1, hzr]
          · simp only [Instr.lookup, Sem.run_bind, run_underlying hu, Result.andThen_ok, hme, hgo, Sem.run_pure, hchk, q1]
        have hmf : mfind es kp = (mfnd kp es 0).map Prod.snd := rfl
        rw [hmf] at hr
        cases hfn : mfnd kp es 0 with
        | none =>
          rw [hfn] at q2 hr
          cases rr with
          | some x => exact q2.elim
          | none =>
            simp at hr; subst hr
            have hrv := hrun v0 false (.inl ⟨rfl, rfl, rfl⟩)
            have hzr : RelV (Tot M μ L) w μ L z v0 := hzv ▸ relV_dvOf v0
            have hzu : z.under L.next = true := hzv ▸ under_dvOf _ v0
            cases ok with
            | true =>
              refine .val hrv (Out.id h (.tup [z, .pv (.bool false)] [v0, .bool false] rfl fun i d v hd hv => ?_) ?_ hv)
              · match i with
                | 0 => simp at hd hv; subst hd; subst hv; exact hzr
                | 1 => simp at hd hv; subst hd; subst hv; exact relB _ _
                | i + 2 => simp at hd
              · simp [DV.under, DV.unders, hzu]
            | false => exact .val hrv (Out.id h hzr hzu hv)
        | some x =>
          obtain ⟨j, pv⟩ := x
          rw [hfn] at q2 hr
          cases rr with
          | none => exact q2.elim
          | some y =>
            obtain ⟨j', u⟩ := y
            obtain ⟨_, q2⟩ := q2
            simp at hr; subst hr
            have hrv := hrun u true (.inr ⟨j', rfl, rfl⟩)
            cases ok with
            | true =>
              refine .val hrv (Out.id h (.tup [pv.dv0, .pv (.bool true)] [u, .bool true] rfl fun i d v hd hv => ?_) ?_ hv)
              · match i with
                | 0 => simp at hd hv; subst hd; subst hv; exact dv0_rel q2
                | 1 => simp at hd hv; subst hd; subst hv; exact relB _ _
                | i + 2 => simp at hd
              · simp [DV.under, DV.unders, dv0_under]
            | false => exact .val hrv (Out.id h (dv0_rel q2) (dv0_under _ _) hv)
    | _ => simp [hg] at hv
end
end Go.Dv
