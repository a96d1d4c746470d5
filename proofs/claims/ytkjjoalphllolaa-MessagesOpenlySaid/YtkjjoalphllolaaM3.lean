/- Parts of the proof, one after the other: The layer Dv, part 12: operators; maps. The layer Dv, part 13: stores into maps; calls; any operation. The layer Dv, part 14: regions, code, functions. The layer Dv, part 16: what comes of an operation is told by its operands; regions whose order is open. -/
import Derived.Test.YtkjjoalphllolaaM2
namespace Go.Dv
open Go.RowKit (Below)
section
variable {P : Program} {M : Nat → Prop} {w0 : W0} {μ : Nat → Loc} {L : DH} {w : World} {a : Act} {ρ : Operand → DV} {K : DV → DH → Prop} {o : Oper} {dr : Bool}

theorem int_run {op : BinOp} {k k' : IntKind} {x y : Int} {t : TypeId} {Kd : DV → Prop} (h : vcInt op k x k' y Kd) : ∃ d v, (binOp op t (.int k x) (.int k' y)).run P w = .ok v w ∧ (∀ T : Nat → Prop, RelV T w μ L d v) ∧ d.under L.next = true ∧ Kd d := by
  have I : ∀ (n : Int), Kd (.pv (.int k n)) → (binOp op t (.int k x) (.int k' y)).run P w = .ok (.int k n) w → ∃ d v, (binOp op t (.int k x) (.int k' y)).run P w = .ok v w ∧ (∀ T : Nat → Prop, RelV T w μ L d v) ∧ d.under L.next = true ∧ Kd d :=
    fun n hk hr => ⟨_, _, hr, fun T => relI T k n, rfl, hk⟩
  have B : ∀ (b : Bool), Kd (.pv (.bool b)) → (binOp op t (.int k x) (.int k' y)).run P w = .ok (.bool b) w → ∃ d v, (binOp op t (.int k x) (.int k' y)).run P w = .ok v w ∧ (∀ T : Nat → Prop, RelV T w μ L d v) ∧ d.under L.next = true ∧ Kd d :=
    fun n hk hr => ⟨_, _, hr, fun T => relB T n, rfl, hk⟩
  by_cases hk : k = k'
  · subst hk
    cases op <;> simp only [vcInt, decide_true] at h
    case add => exact I _ h (by simp [binOp, Op.intArith])
    case sub => exact I _ h (by simp [binOp, Op.intArith])
    case mul => exact I _ h (by simp [binOp, Op.intArith])
    case quo => exact I _ h.2 (by simp [binOp, Op.intDiv, h.1])
    case rem => exact I _ h.2 (by simp [binOp, Op.intDiv, h.1])
    case and => exact I _ h (by simp [binOp, Op.intBits])
    case or => exact I _ h (by simp [binOp, Op.intBits])
    case xor => exact I _ h (by simp [binOp, Op.intBits])
    case shl => exact I _ h.2 (by have : ¬ y < 0 := by omega
                                  simp [binOp, Op.shift, this])
    case shr => exact I _ h.2 (by have : ¬ y < 0 := by omega
                                  simp [binOp, Op.shift, this])
    case andNot => exact I _ h (by simp [binOp, Op.intBits])
    case eql => exact B _ h (by simp [binOp, Op.intCmp])
    case neq => exact B _ h (by simp [binOp, Op.intCmp])
    case lss => exact B _ h (by simp [binOp, Op.intCmp])
    case leq => exact B _ h (by simp [binOp, Op.intCmp])
    case gtr => exact B _ h (by simp [binOp, Op.intCmp])
    case geq => exact B _ h (by simp [binOp, Op.intCmp])
  · cases op <;> simp only [vcInt, hk, decide_false] at h
    case shl => exact I _ h.2 (by have : ¬ y < 0 := by omega
                                  simp [binOp, Op.shift, this])
    case shr => exact I _ h.2 (by have : ¬ y < 0 := by omega
                                  simp [binOp, Op.shift, this])

theorem run_equal_scalar {T : Nat → Prop} {t : TypeId} {p q : PV} {u v : Value} (n : Nat) (hp : fitPV (P.underlying t) p = true) (hq : fitPV (P.underlying t) q = true) (h1 : RelP T w p u) (h2 : RelP T w q v) :
    (Op.equalIn (n + 1) t u v).run P w = .ok (eqPV p q) w := by
  cases p <;> simp only [fitPV] at hp <;> try (cases hp; done)
  · cases hu : P.underlying t with
    | none => simp [hu] at hp
    | some d =>
      cases d <;> simp [hu] at hp
      subst hp
      cases q <;> simp [fitPV, hu] at hq
      subst hq
      cases h1; cases h2
      exact run_equalIn_int w n t _ _ _ _ hu
  · cases hu : P.underlying t with
    | none => simp [hu] at hp
    | some d =>
      cases d <;> simp [hu] at hp
      cases q <;> simp [fitPV, hu] at hq
      cases h1; cases h2
      exact run_equalIn_bool' w n t _ _ hu
  · cases hu : P.underlying t with
    | none => simp [hu] at hp
    | some d =>
      cases d <;> simp [hu] at hp
      cases q <;> simp [fitPV, hu] at hq
      cases h1; cases h2
      exact run_equalIn_string w n t _ _ hu

theorem kind_scalar {t : TypeId} {p : PV} (h : fitPV (P.underlying t) p = true) : kindT P t = some false := by
  unfold kindT
  cases p <;> simp only [fitPV] at h <;> try (cases h; done)
  all_goals
    cases hu : P.underlying t with
    | none => simp [hu] at h
    | some d => cases d <;> simp [hu] at h ⊢

theorem run_eqFields {T : Nat → Prop} (n : Nat) (xs ys : List Value) : ∀ (fs : List Field) (i : Nat) (ps qs : List PV), fitFields P fs i ps = true → fitFields P fs i qs = true →
    (∀ (j : Nat) p, ps[j]? = some p → ∃ u, xs[i + j]? = some u ∧ RelP T w p u) → (∀ (j : Nat) p, qs[j]? = some p → ∃ u, ys[i + j]? = some u ∧ RelP T w p u) →
    (Op.eqFields (n + 1) ⟨xs⟩ ⟨ys⟩ fs).run P w = .ok (eqPVs ps qs) w
  | [], i, [], [], _, _, _, _ => rfl
  | [], i, _ :: _, _, h, _, _, _ => by simp [fitFields] at h
  | [], i, [], _ :: _, _, h, _, _ => by simp [fitFields] at h
  | f :: fs, i, [], _, h, _, _, _ => by simp [fitFields] at h
  | f :: fs, i, _ :: _, [], _, h, _, _ => by simp [fitFields] at h
  | f :: fs, i, p :: ps, q :: qs, h1, h2, g1, g2 => by
    simp only [fitFields, Bool.and_eq_true] at h1 h2
    obtain ⟨⟨⟨a1, a2⟩, a3⟩, a4⟩ := h1
    obtain ⟨⟨⟨_, _⟩, b3⟩, b4⟩ := h2
    obtain ⟨u, hu, hru⟩ := g1 0 p rfl
    obtain ⟨v, hv, hrv⟩ := g2 0 q rfl
    simp only [Nat.add_zero] at hu hv
    have ih := run_eqFields n xs ys fs (i + 1) ps qs a4 b4 (fun j p hj => by have := g1 (j + 1) p (by simpa using hj); rwa [show i + (j + 1) = i + 1 + j by omega] at this)
      (fun j p hj => by have := g2 (j + 1) p (by simpa using hj); rwa [show i + (j + 1) = i + 1 + j by omega] at this)
    have hoff : f.offset = i := beq_of a1
    have hnm : f.name ≠ "_" := by simpa using a2
    have hk := kind_scalar a3
    have r1 : (part f.type ⟨xs⟩ f.offset).run P w = .ok u w := by simp [part, run_isAgg_kind hk, hoff, hu]
    have r2 : (part f.type ⟨ys⟩ f.offset).run P w = .ok v w := by simp [part, run_isAgg_kind hk, hoff, hv]
    have r3 := run_equal_scalar (P := P) (w := w) n a3 b3 hru hrv
    simp only [Op.eqFields, hnm, ne_eq, not_false_eq_true, if_true, Sem.run_bind, r1, r2, r3, Result.andThen_ok, eqPVs]
    cases he : eqPV p q with
    | false => simp
    | true => simpa using ih

theorem run_equal_fit {T : Nat → Prop} {t : TypeId} {ps qs : List PV} {u v : Value} (n : Nat) (hp : fitT P t (.agg ps) = true) (hq : fitT P t (.agg qs) = true) (h1 : RelP T w (.agg ps) u) (h2 : RelP T w (.agg qs) v) :
    (Op.equalIn (n + 2) t u v).run P w = .ok (eqPVs ps qs) w := by
  cases h1 with
  | agg _ xs l1 r1 =>
    cases h2 with
    | agg _ ys l2 r2 =>
      unfold fitT at hp hq
      cases hu : P.underlying t with
      | none => simp [hu] at hp
      | some d =>
        cases d <;> simp only [hu] at hp hq <;> try (cases hp; done)
        rename_i fs
        simp only [Bool.and_eq_true] at hp hq
        have hfo : P.fieldsOf t = fs := by simp [Program.fieldsOf, hu]
        rw [run_equalIn_struct w (n + 1) t ⟨xs⟩ ⟨ys⟩ (by rw [hfo]; exact hu) (by simpa using hp.2), hfo]
        refine run_eqFields (T := T) n xs ys fs.toList 0 ps qs hp.1 hq.1 (fun j p hj => ?_) (fun j p hj => ?_)
        · have hlt := getE_lt hj
          refine ⟨xs[j]'(by omega), by rw [Nat.zero_add]; exact List.getElem?_eq_getElem (by omega), r1 j p _ hj (List.getElem?_eq_getElem (by omega))⟩
        · have hlt := getE_lt hj
          refine ⟨ys[j]'(by omega), by rw [Nat.zero_add]; exact List.getElem?_eq_getElem (by omega), r2 j p _ hj (List.getElem?_eq_getElem (by omega))⟩

theorem guard_nilI {op : BinOp} {t : TypeId} {x y : Operand} {ms : Array (String × TypeId)} (hu : P.underlying t = some (.interface ms)) (hms : ms.isEmpty = true) : (eqGuard op t x y .nilIface .nilIface).run P w = .ok () w := by
  have g : (Op.eqGuardIn Op.maxDepth t .nilIface .nilIface).run P w = .ok false w := by
    show (Op.eqGuardIn (9999 + 1) t .nilIface .nilIface).run P w = .ok false w
    unfold Op.eqGuardIn
    simp [run_underlying hu, hms]
  unfold eqGuard
  split
  · rw [if_neg (by decide)]
    simp only
    generalize ((match x with | .const _ => true | _ => false) || (match y with | .const _ => true | _ => false)) = bb
    cases bb with
    | true => rfl
    | false => rw [if_neg (by decide), Sem.run_bind, g, Result.andThen_ok]; rfl
  · rw [if_neg (by decide)]
    simp only
    generalize ((match x with | .const _ => true | _ => false) || (match y with | .const _ => true | _ => false)) = bb
    cases bb with
    | true => rfl
    | false => rw [if_neg (by decide), Sem.run_bind, g, Result.andThen_ok]; rfl
  · rw [if_pos (by decide)]; rfl
theorem res_binOp {op : BinOp} {t t2 : TypeId} {x y : Operand} (ho : o.op = .binOp op t x y t2) (h : HR M w0 μ L w) (hρ : Rho M μ L w ρ a) (hv : vcOp P M w0 dr ρ L o K) : OpRes P M w0 μ L w K o a := by
  have hx := hρ.rel x
  have hy := hρ.rel y
  simp only [vcOp, ho] at hv
  have run : ∀ v, (do eqGuard op t x y (a.eval x) (a.eval y); binOp op t (a.eval x) (a.eval y) : Sem Value).run P w = .ok v w → (execOp a.eval o).run P w = .ok (.value v) w := by
    intro v hr
    rw [show execOp a.eval o = (do pure (Next.value (← (do eqGuard op t x y (a.eval x) (a.eval y); binOp op t (a.eval x) (a.eval y) : Sem Value))) : Sem Next) from by simp only [execOp, ho]]
    exact run_val hr
  have bool : ∀ b, (binOp op t (a.eval x) (a.eval y)).run P w = .ok (.bool b) w → (eqGuard op t x y (a.eval x) (a.eval y)).run P w = .ok () w → K (.pv (.bool b)) L → OpRes P M w0 μ L w K o a := by
    intro b hr hg hk
    exact .val (run (.bool b) (by simp [hg, hr])) (Out.id h (relB _ _) rfl hk)
  generalize hdx : ρ x = dx at hv hx
  generalize hdy : ρ y = dy at hv hy
  unfold vcBin at hv
  split at hv
  · -- integers
    rename_i k i k' j
    have e1 := pvI hx
    have e2 := pvI hy
    obtain ⟨d, v, hr, hrel, hu, hk⟩ := int_run (P := P) (w := w) (μ := μ) (L := L) (t := t) hv
    refine .val (run v ?_) (Out.id h (hrel _) hu hk)
    have hg : (eqGuard op t x y (a.eval x) (a.eval y)).run P w = .ok () w := by
      rw [e1, e2]; unfold eqGuard; split <;> simp
    rw [Sem.run_bind, hg, Result.andThen_ok, e1, e2]
    exact hr
  · -- bools
    rename_i b c
    have e1 := pvB hx
    have e2 := pvB hy
    split at hv
    case h_2 => exact hv.elim
    rename_i hf
    have hu : P.underlying t = some .bool := by
      simp only [fitPV] at hf
      cases hu : P.underlying t with
      | none => simp [hu] at hf
      | some d => cases d <;> simp [hu] at hf ⊢
    have heq : (Op.equal t (.bool b) (.bool c)).run P w = .ok (b == c) w := run_equalIn_bool' w 9999 t b c hu
    have hg : (eqGuard op t x y (a.eval x) (a.eval y)).run P w = .ok () w := by
      rw [e1, e2]; unfold eqGuard; split <;> simp
    split at hv
    · exact bool _ (by rw [e1, e2]; simp [binOp, heq]) hg hv
    · exact bool _ (by rw [e1, e2]; simp [binOp, heq]) hg hv
    · exact hv.elim
  · -- strings
    rename_i b c
    have e1 := pvS hx
    have e2 := pvS hy
    have hg : (eqGuard op t x y (a.eval x) (a.eval y)).run P w = .ok () w := by
      rw [e1, e2]; unfold eqGuard; split <;> simp
    split at hv
    · exact bool _ (by rw [e1, e2]; simp [binOp, Op.stringOp]) hg hv
    · exact bool _ (by rw [e1, e2]; simp [binOp, Op.stringOp]) hg hv
    · have hb : b.size + c.size ≤ 4294967296 := hv.1
      have hn : ¬ ((b.size + c.size : Nat) : Int) > IntKind.i64.max := by
        have : IntKind.i64.max = 9223372036854775807 := by decide
        omega
      refine .val (run (.string (b ++ c)) ?_) (Out.id h (.pv _ _ (.str _)) rfl hv.2)
      rw [e1, e2] at hg ⊢
      simp only [Sem.run_bind, hg, Result.andThen_ok]
      simp only [binOp, Op.stringOp, if_neg hn, Sem.run_pure]
    · exact hv.elim
  · -- structs of scalars
    rename_i xs ys
    generalize ex : a.eval x = vx at hx
    generalize ey : a.eval y = vy at hy
    cases hx with
    | agg _ us l1 r1 =>
      cases hy with
      | agg _ vs l2 r2 =>
        obtain ⟨ps, hv, pl, pr⟩ := purs_rel xs us _ l1 r1 hv
        obtain ⟨qs, hv, ql, qr⟩ := purs_rel ys vs _ l2 r2 hv
        obtain ⟨f1, f2, f3, hv⟩ := hv
        have heq : (Op.equal t (.agg ⟨us⟩) (.agg ⟨vs⟩)).run P w = .ok (eqPVs ps qs) w := run_equal_fit 9998 f1 f2 (.agg ps us pl pr) (.agg qs vs ql qr)
        have hg : (eqGuard op t x y (a.eval x) (a.eval y)).run P w = .ok () w := by
          rw [ex, ey]; unfold eqGuard; split <;> simp [f3]
        split at hv
        · exact bool _ (by rw [ex, ey]; simp [binOp, heq]) hg hv
        · exact bool _ (by rw [ex, ey]; simp [binOp, heq]) hg hv
        · exact hv.elim
  · -- nil, nil
    have e1 := pvN hx
    have e2 := pvN hy
    split at hv
    case h_2 => exact hv.elim
    rename_i hf
    obtain ⟨e, hu⟩ : ∃ e, P.underlying t = some (.slice e) := by
      unfold isSlT at hf
      cases hu : P.underlying t with
      | none => simp [hu] at hf
      | some d => cases d <;> simp [hu] at hf ⊢
    have heq : (Op.equal t (.slice none 0 0) (.slice none 0 0)).run P w = .ok true w := by
      unfold Op.equal Op.maxDepth Op.equalIn
      simp [run_underlying hu]
    have hg : (eqGuard op t x y (a.eval x) (a.eval y)).run P w = .ok () w := by
      rw [e1, e2]; unfold eqGuard; split <;> simp
    split at hv
    · exact bool _ (by rw [e1, e2]; simp [binOp, heq]) hg hv
    · exact bool _ (by rw [e1, e2]; simp [binOp, heq]) hg hv
    · exact hv.elim
  · -- a slice with elements, nil
    rename_i p r
    have e2 := pvN hy
    split at hv
    case h_2 => exact hv.elim
    rename_i hf
    obtain ⟨e, hu⟩ : ∃ e, P.underlying t = some (.slice e) := by
      unfold isSlT at hf
      cases hu : P.underlying t with
      | none => simp [hu] at hf
      | some d => cases d <;> simp [hu] at hf ⊢
    obtain ⟨ad, n, c, e1⟩ : ∃ ad n c, a.eval x = .slice (some ad) n c := by
      generalize a.eval x = vx at hx
      cases hx with
      | pv _ _ hp =>
        generalize hlx : PV.sl (p :: r) = pl at hp
        cases hp with
        | sl b off sz cap l' val g1 g2 g3 g4 g5 g6 => exact ⟨_, _, _, rfl⟩
        | _ => cases hlx
    have heq : (Op.equal t (.slice (some ad) n c) (.slice none 0 0)).run P w = .ok false w := by
      unfold Op.equal Op.maxDepth Op.equalIn
      simp [run_underlying hu]
    have hg : (eqGuard op t x y (a.eval x) (a.eval y)).run P w = .ok () w := by
      rw [e1, e2]; unfold eqGuard; split <;> simp
    split at hv
    · exact bool _ (by rw [e1, e2]; simp [binOp, heq]) hg hv
    · exact bool _ (by rw [e1, e2]; simp [binOp, heq]) hg hv
    · exact hv.elim
  · -- an array of the call's own with elements, nil
    rename_i k n
    obtain ⟨hn, hv⟩ := hv
    have e2 := pvN hy
    split at hv
    case h_2 => exact hv.elim
    rename_i hf
    obtain ⟨e, hu⟩ : ∃ e, P.underlying t = some (.slice e) := by
      unfold isSlT at hf
      cases hu : P.underlying t with
      | none => simp [hu] at hf
      | some d => cases d <;> simp [hu] at hf ⊢
    obtain ⟨ad, c, e1⟩ : ∃ ad c, a.eval x = .slice (some ad) n c := by
      generalize a.eval x = vx at hx
      cases hx with
      | buf _ _ _ g1 _ _ =>
        obtain ⟨ad, c, rfl, hs⟩ := g1
        cases ad with
        | none => cases hs hn
        | some ad => exact ⟨_, _, rfl⟩
    have heq : (Op.equal t (.slice (some ad) n c) (.slice none 0 0)).run P w = .ok false w := by
      unfold Op.equal Op.maxDepth Op.equalIn
      simp [run_underlying hu]
    have hg : (eqGuard op t x y (a.eval x) (a.eval y)).run P w = .ok () w := by
      rw [e1, e2]; unfold eqGuard; split <;> simp
    split at hv
    · exact bool _ (by rw [e1, e2]; simp [binOp, heq]) hg hv
    · exact bool _ (by rw [e1, e2]; simp [binOp, heq]) hg hv
    · exact hv.elim
  · -- an interface that holds something, nil
    rename_i ti vi
    have e2 : a.eval y = .nilIface := by
      generalize a.eval y = vy at hy
      cases hy; rfl
    split at hv
    case h_2 => exact hv.elim
    rename_i hf
    obtain ⟨ms, hu, hms⟩ : ∃ ms, P.underlying t = some (.interface ms) ∧ ms.isEmpty = true := by
      unfold ifcT at hf
      cases hu : P.underlying t with
      | none => simp [hu] at hf
      | some d => cases d <;> simp [hu] at hf ⊢; exact hf
    have e1 : a.eval x = .iface ti vi := by
      generalize a.eval x = vx at hx
      cases hx; rfl
    have heq : (Op.equal t (.iface ti vi) .nilIface).run P w = .ok false w := by
      unfold Op.equal Op.maxDepth Op.equalIn
      simp [run_underlying hu]
    have hg : (eqGuard op t x y (a.eval x) (a.eval y)).run P w = .ok () w := by
      rw [e1, e2]
      unfold eqGuard
      split <;> simp
    split at hv
    · exact bool _ (by rw [e1, e2]; simp [binOp, heq]) hg hv
    · exact bool _ (by rw [e1, e2]; simp [binOp, heq]) hg hv
    · exact hv.elim
  · -- an interface that holds nothing, nil
    have e2 : a.eval y = .nilIface := by
      generalize a.eval y = vy at hy
      cases hy; rfl
    split at hv
    case h_2 => exact hv.elim
    rename_i hf
    obtain ⟨ms, hu, hms⟩ : ∃ ms, P.underlying t = some (.interface ms) ∧ ms.isEmpty = true := by
      unfold ifcT at hf
      cases hu : P.underlying t with
      | none => simp [hu] at hf
      | some d => cases d <;> simp [hu] at hf ⊢; exact hf
    have e1 : a.eval x = .nilIface := by
      generalize a.eval x = vx at hx
      cases hx; rfl
    have heq : (Op.equal t (.nilIface) .nilIface).run P w = .ok true w := by
      unfold Op.equal Op.maxDepth Op.equalIn
      simp [run_underlying hu]
    have hg : (eqGuard op t x y (a.eval x) (a.eval y)).run P w = .ok () w := by
      rw [e1, e2]
      exact guard_nilI hu hms
    split at hv
    · exact bool _ (by rw [e1, e2]; simp [binOp, heq]) hg hv
    · exact bool _ (by rw [e1, e2]; simp [binOp, heq]) hg hv
    · exact hv.elim
  · -- a slice that is known not to be nil, nil
    rename_i ad n c
    have e2 := pvN hy
    split at hv
    case h_2 => exact hv.elim
    rename_i hf
    obtain ⟨e, hu⟩ : ∃ e, P.underlying t = some (.slice e) := by
      unfold isSlT at hf
      cases hu : P.underlying t with
      | none => simp [hu] at hf
      | some d => cases d <;> simp [hu] at hf ⊢
    have e1 : a.eval x = .slice ad n c := by
      generalize a.eval x = vx at hx
      cases hx; rfl
    have heq : (Op.equal t (.slice ad n c) (.slice none 0 0)).run P w = .ok ad.isNone w := by
      unfold Op.equal Op.maxDepth Op.equalIn
      cases ad <;> simp [run_underlying hu]
    have hg : (eqGuard op t x y (a.eval x) (a.eval y)).run P w = .ok () w := by
      rw [e1, e2]; unfold eqGuard; split <;> simp
    split at hv
    · exact bool _ (by rw [e1, e2]; simp [binOp, heq]) hg hv
    · exact bool _ (by rw [e1, e2]; simp [binOp, heq]) hg hv
    · exact hv.elim
  · exact hv.elim

/-! maps -/

theorem chk_scalar {T : Nat → Prop} {t : TypeId} {p : PV} {v : Value} {b : Bool} (n : Nat) (hf : fitPV (P.underlying t) p = true) (hr : RelP T w p v) : (Instr.checkKey b (n + 1) t v).run P w = .ok () w := by
  cases p <;> simp only [fitPV] at hf <;> try (cases hf; done)
  all_goals
    cases hu : P.underlying t with
    | none => simp [hu] at hf
    | some d =>
      cases d <;> simp [hu] at hf
      cases hr
      simp [Instr.checkKey, run_underlying hu]

theorem forIn_yield {α : Type} (g : α → PUnit → Sem (ForInStep PUnit)) : ∀ (fs : List α), (∀ f, f ∈ fs → (g f ⟨⟩).run P w = .ok (.yield ⟨⟩) w) → (forIn fs PUnit.unit g).run P w = .ok ⟨⟩ w
  | [], _ => by simp
  | f :: fs, h => by
    have ih := forIn_yield g fs fun x hx => h x (by simp [hx])
    simp only [List.forIn_cons, Sem.run_bind, h f (by simp), Result.andThen_ok]
    exact ih
theorem fit_field : ∀ (fs : List Field) (i : Nat) (ps : List PV), fitFields P fs i ps = true → ∀ f, f ∈ fs → ∃ j p, ps[j]? = some p ∧ f.offset = i + j ∧ f.name ≠ "_" ∧ fitPV (P.underlying f.type) p = true
  | [], _, _, _, f, hf => by simp at hf
  | g :: fs, i, [], h, _, _ => by simp [fitFields] at h
  | g :: fs, i, p :: ps, h, f, hf => by
    simp only [fitFields, Bool.and_eq_true] at h
    obtain ⟨⟨⟨a1, a2⟩, a3⟩, a4⟩ := h
    rcases List.mem_cons.1 hf with rfl | hf
    · exact ⟨0, p, rfl, beq_of a1, by simpa using a2, a3⟩
    · obtain ⟨j, q, h1, h2, h3⟩ := fit_field fs (i + 1) ps a4 f hf
      exact ⟨j + 1, q, by simpa using h1, by omega, h3⟩

theorem chk_key {T : Nat → Prop} {t : TypeId} {p : PV} {v : Value} {b : Bool} (hf : fitT P t p = true) (hr : RelP T w p v) : (Instr.checkKey b 10000 t v).run P w = .ok () w := by
  by_cases hagg : ∃ l, p = .agg l
  · obtain ⟨ps, rfl⟩ := hagg
    cases hr with
    | agg _ xs l1 r1 =>
      unfold fitT at hf
      cases hu : P.underlying t with
      | none => simp [hu] at hf
      | some d =>
        cases d <;> simp only [hu] at hf <;> try (cases hf; done)
        rename_i fs
        simp only [Bool.and_eq_true] at hf
        show (Instr.checkKey b (9998 + 1 + 1) t _).run P w = _
        unfold Instr.checkKey
        simp only [Sem.run_bind, run_underlying hu, Result.andThen_ok]
        rw [← Array.forIn_toList]
        rw [forIn_yield]
        · rfl
        intro f hf'
        obtain ⟨j, p, hj, hoff, hnm, hfit⟩ := fit_field fs.toList 0 ps hf.1 f hf'
        have hlt := getE_lt hj
        have hxj : xs[j]? = some (xs[j]'(by omega)) := List.getElem?_eq_getElem (by omega)
        have hk := kind_scalar hfit
        have hoff' : f.offset = j := by omega
        have r1' : (part f.type ⟨xs⟩ f.offset).run P w = .ok (xs[j]'(by omega)) w := by simp [part, run_isAgg_kind hk, hoff', hxj]
        have r2 := chk_scalar (P := P) (w := w) (b := b) 9998 hfit (r1 j p _ hj hxj)
        simp [hnm, r1', r2]
  · have hf' : fitPV (P.underlying t) p = true := by
      cases p <;> first | exact hf | exact absurd ⟨_, rfl⟩ hagg
    exact chk_scalar 9999 hf' hr

theorem eqPV_iff {d : Option TypeDesc} {p q : PV} (hp : fitPV d p = true) (hq : fitPV d q = true) : eqPV p q = true ↔ p = q := by
  cases d with
  | none => cases p <;> simp [fitPV] at hp
  | some d =>
    cases p <;> simp only [fitPV] at hp <;> try (cases hp; done)
    all_goals
      cases q <;> simp only [fitPV] at hq <;> try (cases hq; done)
      all_goals cases d <;> simp at hp hq
    · subst hp; subst hq; simp [eqPV]
    · simp [eqPV]
    · simp only [eqPV, ByteArray.toList_eq, beq_iff_eq]
      rename_i s1 s2
      obtain ⟨⟨x⟩⟩ := s1
      obtain ⟨⟨y⟩⟩ := s2
      simp
theorem eqPVs_iff : ∀ (fs : List Field) (i : Nat) (ps qs : List PV), fitFields P fs i ps = true → fitFields P fs i qs = true → (eqPVs ps qs = true ↔ ps = qs)
  | [], i, [], [], _, _ => by simp [eqPVs]
  | [], i, _ :: _, _, h, _ => by simp [fitFields] at h
  | [], i, [], _ :: _, _, h => by simp [fitFields] at h
  | f :: fs, i, [], _, h, _ => by simp [fitFields] at h
  | f :: fs, i, _ :: _, [], _, h => by simp [fitFields] at h
  | f :: fs, i, p :: ps, q :: qs, h1, h2 => by
    simp only [fitFields, Bool.and_eq_true] at h1 h2
    have ih := eqPVs_iff fs (i + 1) ps qs h1.2 h2.2
    simp only [eqPVs, Bool.and_eq_true, eqPV_iff h1.1.2 h2.1.2, ih, List.cons.injEq]

/-- Are two keys equal? The model's answer is the plain one. -/
theorem run_keyEq {T : Nat → Prop} {t : TypeId} {p q : PV} {u v : Value} (hp : fitT P t p = true) (hq : fitT P t q = true) (h1 : RelP T w p u) (h2 : RelP T w q v) :
    ∃ b, (Op.equal t u v).run P w = .ok b w ∧ (b = true ↔ p = q) := by
  by_cases hagg : ∃ l, p = .agg l
  · obtain ⟨ps, rfl⟩ := hagg
    have hst : ∃ fs, P.underlying t = some (.struct fs) ∧ fitFields P fs.toList 0 ps = true := by
      unfold fitT at hp
      cases hu : P.underlying t with
      | none => simp [hu] at hp
      | some d =>
        cases d <;> simp only [hu] at hp <;> try (cases hp; done)
        simp only [Bool.and_eq_true] at hp
        exact ⟨_, rfl, hp.1⟩
    obtain ⟨fs, hu, hfit⟩ := hst
    have hqa : ∃ qs, q = .agg qs := by
      cases q <;> first | exact ⟨_, rfl⟩ | (simp [fitT, fitPV, hu] at hq)
    obtain ⟨qs, rfl⟩ := hqa
    refine ⟨_, run_equal_fit 9998 hp hq h1 h2, ?_⟩
    have hfit2 : fitFields P fs.toList 0 qs = true := by simp only [fitT, hu, Bool.and_eq_true] at hq; exact hq.1
    rw [eqPVs_iff fs.toList 0 ps qs hfit hfit2]
    simp
  · have hp' : fitPV (P.underlying t) p = true := by
      cases p <;> first | exact hp | exact absurd ⟨_, rfl⟩ hagg
    have hq' : fitPV (P.underlying t) q = true := by
      cases q with
      | agg qs =>
        exfalso
        unfold fitT at hq
        cases hu : P.underlying t with
        | none => simp [hu] at hq
        | some d =>
          cases d <;> simp only [hu] at hq <;> try (cases hq; done)
          rw [hu] at hp'
          cases p <;> simp [fitPV] at hp'
      | _ => exact hq
    exact ⟨_, run_equal_scalar 9999 hp' hq' h1 h2, eqPV_iff hp' hq'⟩

/-- What is found under a key, with its place. -/
def FndRel (T : Nat → Prop) (w : World) : Option (Nat × PV) → Option (Nat × Value) → Prop
  | none, none => True
  | some (i, p), some (j, v) => i = j ∧ RelP T w p v
  | _, _ => False

theorem find_asking {T : Nat → Prop} {t : TypeId} {kp : PV} {kv : Value} (hk : fitT P t kp = true) (hkr : RelP T w kp kv) : ∀ (es : List (PV × PV)) (ents : List MapEntry) (i : Nat), es.length = ents.length →
    (∀ e, e ∈ es → fitT P t e.1 = true) → (∀ (j : Nat) e m, es[j]? = some e → ents[j]? = some m → RelP T w e.1 m.key ∧ RelP T w e.2 m.val) →
    ∃ r, (Instr.findAsking t kv ents i).run P w = .ok r w ∧ FndRel T w (mfnd kp es i) r
  | [], [], i, _, _, _ => ⟨none, rfl, trivial⟩
  | [], _ :: _, i, h, _, _ => by simp at h
  | _ :: _, [], i, h, _, _ => by simp at h
  | e :: es, m :: ents, i, hl, hf, hr => by
    obtain ⟨g1, g2⟩ := hr 0 e m rfl rfl
    obtain ⟨b, hb, hiff⟩ := run_keyEq hk (hf e (by simp)) hkr g1
    simp only [Instr.findAsking, Sem.run_bind, hb, Result.andThen_ok]
    cases b with
    | true =>
      have he : e.1 = kp := (hiff.1 rfl).symm
      refine ⟨some (i, m.val), by simp, ?_⟩
      simp only [mfnd, he, if_true]
      exact ⟨rfl, g2⟩
    | false =>
      have he : ¬ e.1 = kp := fun h => by have := hiff.2 h.symm; cases this
      obtain ⟨r, hr1, hr2⟩ := find_asking hk hkr es ents (i + 1) (by simpa using hl) (fun x hx => hf x (by simp [hx])) (fun j x y hx hy => hr (j + 1) x y (by simpa using hx) (by simpa using hy))
      refine ⟨r, by simpa using hr1, ?_⟩
      simp only [mfnd, he, if_false]
      exact hr2

theorem find_now {T : Nat → Prop} {t : TypeId} {d : TypeDesc} {kp : PV} {kv : Value} (hu : P.underlying t = some d) (hk : fitT P t kp = true) (hkr : RelP T w kp kv) : ∀ (es : List (PV × PV)) (ents : List MapEntry) (i : Nat), es.length = ents.length →
    (∀ e, e ∈ es → fitT P t e.1 = true) → (∀ (j : Nat) e m, es[j]? = some e → ents[j]? = some m → RelP T w e.1 m.key ∧ RelP T w e.2 m.val) →
    ∀ r, Instr.findNow d kv ents i = some r → FndRel T w (mfnd kp es i) r
  | [], [], i, _, _, _, r, h => by simp [Instr.findNow] at h; subst h; trivial
  | [], _ :: _, i, h, _, _, _, _ => by simp at h
  | _ :: _, [], i, h, _, _, _, _ => by simp at h
  | e :: es, m :: ents, i, hl, hf, hr, r, h => by
    obtain ⟨g1, g2⟩ := hr 0 e m rfl rfl
    obtain ⟨b, hb, hiff⟩ := run_keyEq hk (hf e (by simp)) hkr g1
    have hsame : ∀ c, Instr.sameNow d kv m.key = some c → c = b := by
      intro c hc
      unfold Instr.sameNow at hc
      split at hc
      · rename_i k' k x k2 y e2
        split at hc
        · rename_i hkk
          subst hkk
          rw [e2] at hb
          have := run_equalIn_int (P := P) w 9999 t k _ x y hu
          unfold Op.equal Op.maxDepth at hb
          rw [this] at hb
          simp at hb hc
          rw [← hb, ← hc]
        · cases hc
      · rename_i x y e2
        rw [e2] at hb
        have := run_equalIn_string (P := P) w 9999 t x y hu
        unfold Op.equal Op.maxDepth at hb
        rw [this] at hb
        simp at hb hc
        rw [← hb, ← hc, beq_toListBytes]
      · rename_i x y e2
        rw [e2] at hb
        have := run_equalIn_bool' (P := P) w 9999 t x y hu
        unfold Op.equal Op.maxDepth at hb
        rw [this] at hb
        simp at hb hc
        rw [← hb, ← hc]
      · cases hc
    simp only [Instr.findNow] at h
    split at h
    · rename_i hs
      have hbt := hsame _ hs
      subst hbt
      have he : e.1 = kp := (hiff.1 rfl).symm
      simp at h
      subst h
      simp only [mfnd, he, if_true]
      exact ⟨rfl, g2⟩
    · rename_i hs
      have hbt := hsame _ hs
      subst hbt
      have he : ¬ e.1 = kp := fun h => by have := hiff.2 h.symm; cases this
      simp only [mfnd, he, if_false]
      exact find_now hu hk hkr es ents (i + 1) (by simpa using hl) (fun x hx => hf x (by simp [hx])) (fun j x y hx hy => hr (j + 1) x y (by simpa using hx) (by simpa using hy)) r h
    · cases h

theorem find_key {T : Nat → Prop} {t : TypeId} {kp : PV} {kv : Value} (hk : fitT P t kp = true) (hkr : RelP T w kp kv) (es : List (PV × PV)) (ents : List MapEntry) (hl : es.length = ents.length)
    (hf : ∀ e, e ∈ es → fitT P t e.1 = true) (hr : ∀ (j : Nat) e m, es[j]? = some e → ents[j]? = some m → RelP T w e.1 m.key ∧ RelP T w e.2 m.val) :
    ∃ r, (Instr.findKey t kv ents).run P w = .ok r w ∧ FndRel T w (mfnd kp es 0) r := by
  have hu : ∃ d, P.underlying t = some d := by
    cases hu : P.underlying t with
    | none => cases kp <;> simp [fitT, fitPV, hu] at hk
    | some d => exact ⟨d, rfl⟩
  obtain ⟨d, hu⟩ := hu
  unfold Instr.findKey
  simp only [Sem.run_bind, run_underlying hu, Result.andThen_ok]
  cases hn : Instr.findNow d kv ents 0 with
  | some r => exact ⟨r, rfl, find_now hu hk hkr es ents 0 hl hf hr r hn⟩
  | none => exact find_asking hk hkr es ents 0 hl hf hr

theorem dv0_rel {T : Nat → Prop} {p : PV} {v : Value} (h : RelP T w p v) : RelV T w μ L p.dv0 v := by
  unfold PV.dv0
  split
  · cases h with
    | agg l vs h1 h2 =>
      refine .agg _ vs (by simpa using h1) fun i d v hd hv => ?_
      obtain ⟨q, hq, rfl⟩ := getE_map_pv hd
      exact .pv _ _ (h2 i q v hq hv)
  · exact .pv _ _ h
theorem dv0_under (n : Nat) (p : PV) : p.dv0.under n = true := by
  unfold PV.dv0
  split
  · simp only [DV.under]; exact unders_pv n _
  · rfl
theorem dv_rel {T : Nat → Prop} {p : PV} {v : Value} (h : RelP T w p v) : RelV T w μ L p.dv v := by
  unfold PV.dv
  split
  · exact dv0_rel h
  · cases h with
    | tup l vs h1 h2 =>
      refine .tup _ vs (by simpa using h1) fun i d v hd hv => ?_
      rw [List.getElem?_map] at hd
      cases hl : ‹List PV›[i]? with
      | none => simp [hl] at hd
      | some q => simp [hl] at hd; subst hd; exact dv0_rel (h2 i q v hl hv)
  · exact .pv _ _ h
theorem dv_under (n : Nat) (p : PV) : p.dv.under n = true := by
  unfold PV.dv
  split
  · exact dv0_under n (.agg _)
  · simp only [DV.under]
    rw [unders_mem]
    intro d hd
    obtain ⟨q, _, rfl⟩ := List.mem_map.1 hd
    exact dv0_under n q
  · rfl

theorem res_lookup {t : TypeId} {m k : Operand} {ok : Bool} (ho : o.op = .lookup t m k ok) (h : HR M w0 μ L w) (hρ : Rho M μ L w ρ a) (hv : vcOp P M w0 dr ρ L o K) : OpRes P M w0 μ L w K o a := by
  have hm := hρ.rel m
  have hk := hρ.rel k
  simp only [vcOp, ho] at hv
  generalize hdm : ρ m = dm at hv hm
  split at hv
  case h_2 => exact hv.elim
  rename_i kt et id hu
  cases hg : L.get id with
  | none => simp [hg] at hv
  | some ob =>
    cases ob with
    | mp es =>
      cases hz : zeroOf P et with
      | none => simp [hg, hz] at hv
      | some z =>
        simp only [hg, hz] at hv
        obtain ⟨kp, ⟨f1, f2, r, hr, hv⟩, hkr⟩ := pur_rel _ _ _ hk hv
        obtain ⟨i, v0, hi, hv0, hzv⟩ := zero_of hz
        obtain ⟨ents, clock, g1, g2, g3⟩ := h.obj id _ hg
        have hme : a.eval m = .map (some (μ id).blk) := by
          cases hm with
          | mp _ _ _ e => exact e es hg
        obtain ⟨rr, q1, q2⟩ := find_key f1 hkr es ents.toList (by simpa using g2.symm) f2 (fun j e m' he hm' => g3 j e m' he (by simpa using hm'))
        have hchk := chk_key (P := P) (w := w) (b := ents.isEmpty) f1 hkr
        have hgo : (getObj (μ id).blk).run P w = .ok (.map ents clock) w := by simp [getObj, Sem.run, g1]
        have hzr : (zeroValue et).run P w = .ok v0 w := by simp [zeroValue, typeInfo, hi, hv0]
        have hrun : ∀ v b, ((rr = none ∧ v = v0 ∧ b = false) ∨ (∃ j, rr = some (j, v) ∧ b = true)) → (execOp a.eval o).run P w = .ok (.value (if ok then .tuple #[v, .bool b] else v)) w := by
          intro v b hc
          rw [show execOp a.eval o = (do pure (Next.value (← Instr.lookup t (a.eval m) (a.eval k) ok)) : Sem Next) from by simp only [execOp, ho]]
          refine run_val ?_
          rcases hc with ⟨rfl, rfl, rfl⟩ | ⟨j, rfl, rfl⟩
          · simp only [Instr.lookup, Sem.run_bind, run_underlying hu, Result.andThen_ok, hme, hgo, Sem.run_pure, hchk, q1, hzr]
          · simp only [Instr.lookup, Sem.run_bind, run_underlying hu, Result.andThen_ok, hme, hgo, Sem.run_pure, hchk, q1]
        have hmf : mfind es kp = (mfnd kp es 0).map Prod.snd := rfl
        rw [hmf] at hr
        cases hfn : mfnd kp es 0 with
        | none =>
          rw [hfn] at q2 hr
          cases rr with
          | some x => exact q2.elim
          | none =>
            simp at hr; subst hr
            have hrv := hrun v0 false (.inl ⟨rfl, rfl, rfl⟩)
            have hzr : RelV (Tot M μ L) w μ L z v0 := hzv ▸ relV_dvOf v0
            have hzu : z.under L.next = true := hzv ▸ under_dvOf _ v0
            cases ok with
            | true =>
              refine .val hrv (Out.id h (.tup [z, .pv (.bool false)] [v0, .bool false] rfl fun i d v hd hv => ?_) ?_ hv)
              · match i with
                | 0 => simp at hd hv; subst hd; subst hv; exact hzr
                | 1 => simp at hd hv; subst hd; subst hv; exact relB _ _
                | i + 2 => simp at hd
              · simp [DV.under, DV.unders, hzu]
            | false => exact .val hrv (Out.id h hzr hzu hv)
        | some x =>
          obtain ⟨j, pv⟩ := x
          rw [hfn] at q2 hr
          cases rr with
          | none => exact q2.elim
          | some y =>
            obtain ⟨j', u⟩ := y
            obtain ⟨_, q2⟩ := q2
            simp at hr; subst hr
            have hrv := hrun u true (.inr ⟨j', rfl, rfl⟩)
            cases ok with
            | true =>
              refine .val hrv (Out.id h (.tup [pv.dv0, .pv (.bool true)] [u, .bool true] rfl fun i d v hd hv => ?_) ?_ hv)
              · match i with
                | 0 => simp at hd hv; subst hd; subst hv; exact dv0_rel q2
                | 1 => simp at hd hv; subst hd; subst hv; exact relB _ _
                | i + 2 => simp at hd
              · simp [DV.under, DV.unders, dv0_under]
            | false => exact .val hrv (Out.id h (dv0_rel q2) (dv0_under _ _) hv)
    | _ => simp [hg] at hv
end
end Go.Dv
namespace Go.Dv
open Go.RowKit (Below)
section
variable {P : Program} {M : Nat → Prop} {w0 : W0} {μ : Nat → Loc} {L : DH} {w : World} {a : Act} {ρ : Operand → DV} {K : DV → DH → Prop} {o : Oper} {dr : Bool}

theorem sameBits_scalar {T : Nat → Prop} {d : Option TypeDesc} {p : PV} {u v : Value} (n : Nat) (hp : fitPV d p = true) (h1 : RelP T w p u) (h2 : RelP T w p v) : Instr.sameBits n u v = true := by
  cases p <;> simp only [fitPV] at hp <;> try (cases hp; done)
  all_goals
    cases h1; cases h2
    cases n <;> simp [Instr.sameBits, beq_toListBytes]
theorem sameBits_fit {T : Nat → Prop} {t : TypeId} {p : PV} {u v : Value} (hp : fitT P t p = true) (h1 : RelP T w p u) (h2 : RelP T w p v) : Instr.sameBits 10000 u v = true := by
  by_cases hagg : ∃ l, p = .agg l
  · obtain ⟨ps, rfl⟩ := hagg
    cases h1 with
    | agg _ xs l1 r1 =>
      cases h2 with
      | agg _ ys l2 r2 =>
        unfold fitT at hp
        cases hu : P.underlying t with
        | none => simp [hu] at hp
        | some d =>
          cases d <;> simp only [hu] at hp <;> try (cases hp; done)
          rename_i fs
          simp only [Bool.and_eq_true] at hp
          have key : ∀ (fs : List Field) (i : Nat) (ps : List PV) (xs ys : List Value), fitFields P fs i ps = true → ps.length = xs.length → ps.length = ys.length →
              (∀ (j : Nat) p x, ps[j]? = some p → xs[j]? = some x → RelP T w p x) → (∀ (j : Nat) p y, ps[j]? = some p → ys[j]? = some y → RelP T w p y) → (xs.zip ys).all (fun (x, y) => Instr.sameBits 9999 x y) = true := by
            intro fs
            induction fs with
            | nil =>
              intro i ps xs ys h e1 e2 _ _
              cases ps with
              | nil => simp at e1; rw [List.length_eq_zero_iff.1 e1.symm]; rfl
              | cons => simp [fitFields] at h
            | cons f fs ih =>
              intro i ps xs ys h e1 e2 q1 q2
              cases ps with
              | nil => simp [fitFields] at h
              | cons p ps =>
                cases xs with
                | nil => simp at e1
                | cons x xs =>
                  cases ys with
                  | nil => simp at e2
                  | cons y ys =>
                    simp only [fitFields, Bool.and_eq_true] at h
                    have := ih (i + 1) ps xs ys h.2 (by simpa using e1) (by simpa using e2) (fun j p x hj hx => q1 (j + 1) p x (by simpa using hj) (by simpa using hx)) (fun j p x hj hx => q2 (j + 1) p x (by simpa using hj) (by simpa using hx))
                    simp only [List.zip_cons_cons, List.all_cons, Bool.and_eq_true]
                    exact ⟨sameBits_scalar 9999 h.1.2 (q1 0 p x rfl rfl) (q2 0 p y rfl rfl), this⟩
          show Instr.sameBits (9999 + 1) _ _ = true
          unfold Instr.sameBits
          simp only [List.size_toArray, Bool.and_eq_true, beq_iff_eq]
          exact ⟨by omega, key fs.toList 0 ps xs ys hp.1 l1 l2 r1 r2⟩
  · have hf' : fitPV (P.underlying t) p = true := by
      cases p <;> first | exact hp | exact absurd ⟨_, rfl⟩ hagg
    exact sameBits_scalar 10000 hf' h1 h2

theorem mfnd_lt {k : PV} : ∀ {es : List (PV × PV)} {s i : Nat} {p : PV}, mfnd k es s = some (i, p) → s ≤ i ∧ i < s + es.length ∧ ∃ e, es[i - s]? = some e ∧ e.1 = k
  | [], s, i, p, h => by simp [mfnd] at h
  | e :: es, s, i, p, h => by
    unfold mfnd at h
    split at h
    · rename_i he
      simp at h
      obtain ⟨rfl, rfl⟩ := h
      exact ⟨Nat.le_refl _, by simp, e, by simp, he⟩
    · obtain ⟨h1, h2, e', h3, h4⟩ := mfnd_lt h
      refine ⟨by omega, by simp; omega, e', ?_, h4⟩
      rw [show i - s = (i - (s + 1)) + 1 by omega]
      simpa using h3

theorem res_mapUpdate {t : TypeId} {m k v : Operand} (ho : o.op = .mapUpdate t m k v) (h : HR M w0 μ L w) (hρ : Rho M μ L w ρ a) (hv : vcOp P M w0 dr ρ L o K) : OpRes P M w0 μ L w K o a := by
  have hm := hρ.rel m
  have hk := hρ.rel k
  have hvv := hρ.rel v
  simp only [vcOp, ho] at hv
  generalize hdm : ρ m = dm at hv hm
  split at hv
  case h_2 => exact hv.elim
  rename_i kt et id hu
  cases hg : L.get id with
  | none => simp [hg] at hv
  | some ob =>
    cases ob with
    | mp es =>
      cases hlo : Nat.ble L.lo id with
      | false => simp [hg, hlo] at hv
      | true =>
        simp only [hg, hlo] at hv
        have hlo' : L.lo ≤ id := by simpa using hlo
        obtain ⟨kp, ⟨f1, f2, hv⟩, hkr⟩ := pur_rel _ _ _ hk hv
        obtain ⟨vp, hK, hvr⟩ := pur_rel _ _ _ hvv hv
        obtain ⟨ents, clock, g1, g2, g3⟩ := h.obj id _ hg
        have hme : a.eval m = .map (some (μ id).blk) := by
          cases hm with
          | mp _ _ _ e => exact e es hg
        obtain ⟨rr, q1, q2⟩ := find_key f1 hkr es ents.toList (by simpa using g2.symm) f2 (fun j e m' he hm' => g3 j e m' he (by simpa using hm'))
        have hchk := chk_key (P := P) (w := w) (b := false) f1 hkr
        have hgo : (getObj (μ id).blk).run P w = .ok (.map ents clock) w := by simp [getObj, Sem.run, g1]
        have hso : ∀ ob, (setObj (μ id).blk ob).run P w = .ok () { w with heap := w.heap.setIfInBounds (μ id).blk ob } := fun ob => by simp [setObj, Sem.run, g1]
        have hlt : (μ id).blk < w.heap.size := (h.live id _ hg trivial).1
        have fin : ∀ (ents' : Array MapEntry) (clock' : Nat), ents'.size = (mput es kp vp).length → (∀ (i : Nat) kv e, (mput es kp vp)[i]? = some kv → ents'[i]? = some e → RelP (Tot M μ L) w kv.1 e.key ∧ RelP (Tot M μ L) w kv.2 e.val) →
            (Instr.mapUpdate t (a.eval m) (a.eval k) (a.eval v)).run P w = .ok () { w with heap := w.heap.setIfInBounds (μ id).blk (.map ents' clock') } → OpRes P M w0 μ L w K o a := by
          intro ents' clock' hsz hrel hrun
          obtain ⟨hs, hr⟩ := h.write (w' := { w with heap := w.heap.setIfInBounds (μ id).blk (.map ents' clock') }) id _ (.mp (mput es kp vp)) hg trivial hlo' rfl rfl rfl rfl (by simp)
            (fun b hb => by simp only; rw [Array.getElem?_setIfInBounds_ne (Ne.symm hb)]) ⟨(fun _ e => by cases e), (fun _ e => ⟨es, hg, rfl⟩), (fun _ _ e => by cases e), (fun _ e => by cases e), (fun _ e => by cases e)⟩ (fun hs => by
              refine ⟨ents', clock', ?_, hsz, fun i kv e hi he => ⟨(hrel i kv e hi he).1.stp hs, (hrel i kv e hi he).2.stp hs⟩⟩
              rw [updμ_same]
              simp [hlt])
          refine .skip ?_ ⟨_, .tup [], _, hK, hr, .tup [] [] rfl (fun i d v hd _ => by simp at hd), rfl, hs⟩
          rw [show execOp a.eval o = (do Instr.mapUpdate t (a.eval m) (a.eval k) (a.eval v); pure Next.skip : Sem Next) from by simp only [execOp, ho]]
          exact run_skp hrun
        cases hfn : mfnd kp es 0 with
        | none =>
          rw [hfn] at q2
          cases rr with
          | some x => exact q2.elim
          | none =>
            have hmp : mput es kp vp = es ++ [(kp, vp)] := by simp [mput, hfn]
            refine fin (ents.push { key := a.eval k, val := a.eval v, born := clock }) (clock + 1) (by rw [hmp]; simp [g2]) (fun i kv e hi he => ?_) ?_
            · rw [hmp] at hi
              rw [Array.getElem?_push] at he
              by_cases hil : i < es.length
              · rw [List.getElem?_append_left hil] at hi
                rw [if_neg (by omega)] at he
                exact g3 i kv e hi he
              · rw [List.getElem?_append_right (by omega)] at hi
                have : i = es.length := by have := getE_lt hi; simp at this; omega
                subst this
                simp at hi
                rw [if_pos g2.symm] at he
                simp at he
                subst hi; subst he
                exact ⟨hkr, hvr⟩
            · simp only [Instr.mapUpdate, Sem.run_bind, run_underlying hu, Result.andThen_ok, hme, hgo, hchk, q1, hso]
        | some x =>
          obtain ⟨j, pv⟩ := x
          rw [hfn] at q2
          cases rr with
          | none => exact q2.elim
          | some y =>
            obtain ⟨j', u⟩ := y
            obtain ⟨rfl, q2⟩ := q2
            obtain ⟨b1, b2, e0, b3, b4⟩ := mfnd_lt hfn
            simp only [Nat.sub_zero] at b3
            have hjl := getE_lt b3
            have hej : ents[j]? = some (ents[j]'(by omega)) := Array.getElem?_eq_getElem (by omega)
            have hkold : RelP (Tot M μ L) w kp (ents[j]'(by omega)).key := by rw [← b4]; exact (g3 j e0 _ b3 hej).1
            have hsb := sameBits_fit f1 hkold hkr
            have hmp : mput es kp vp = es.set j (kp, vp) := by simp [mput, hfn]
            refine fin (ents.modify j fun e => { e with key := a.eval k, val := a.eval v }) clock (by rw [hmp]; simp [g2]) (fun i kv e hi he => ?_) ?_
            · rw [hmp, List.getElem?_set] at hi
              rw [Array.getElem?_modify] at he
              by_cases hij : j = i
              · subst hij
                rw [if_pos rfl] at hi he
                rw [if_pos hjl] at hi
                rw [hej] at he
                simp at hi he
                subst hi; subst he
                exact ⟨hkr, hvr⟩
              · rw [if_neg hij] at hi he
                exact g3 i kv e hi he
            · simp only [Instr.mapUpdate, Sem.run_bind, run_underlying hu, Result.andThen_ok, hme, hgo, hchk, q1]
              simp only [hej, Option.map_some, Option.getD_some, Instr.keyThatStays, hsb, if_true, Sem.run_pure, Result.andThen_ok, hso]
    | _ => simp [hg] at hv

theorem run_call {c : Call} {f : Operand} {fid : FuncId} {fs cs : Array Value} (ho : o.op = .call c) (hc : c.callee = .value f) (hf : a.eval f = .func (.func fid) fs cs) (hcb : callable P fid = true) :
    (execOp a.eval o).run P w = .ok (.enter fid (fs ++ c.args.map a.eval ++ cs)) w := by
  unfold callable at hcb
  cases hfn : P.funcs[fid]? with
  | none => simp [hfn] at hcb
  | some fn =>
    simp only [hfn, Bool.and_eq_true] at hcb
    have h1 : (fn.name == "runtime.NumGoroutine") = false := by simpa using hcb.1
    have h2 : fn.body.isNone = false := by cases hb : fn.body <;> simp [hb] at hcb ⊢
    simp only [execOp, ho, resolve, hc, Deferred.ofValue, hf, pure_bind, invoke, callFunc, Sem.run_bind, run_program, Result.andThen_ok, hfn, h1, h2, Bool.false_eq_true, if_false, Sem.run_pure]

theorem DC.elim {f : FuncId} {args : List DV} (h : DC P M w0 f args L K) : callable P f = true ∧ ∀ (μ : Nat → Loc) (w : World) (vs : List Value), HR M w0 μ L w → DV.unders L.next args = true → RelVs (Tot M μ L) w μ L args vs →
    Calls P f ⟨vs⟩ w (Fin M w0 μ L w K) := by unfold DC at h; exact h
theorem DC.mk {f : FuncId} {args : List DV} (h : callable P f = true ∧ ∀ (μ : Nat → Loc) (w : World) (vs : List Value), HR M w0 μ L w → DV.unders L.next args = true → RelVs (Tot M μ L) w μ L args vs →
    Calls P f ⟨vs⟩ w (Fin M w0 μ L w K)) : DC P M w0 f args L K := by unfold DC; exact h
theorem DCV.elim {fv : Value} {args : List DV} (h : DCV P M w0 fv args L K) : ∃ f fs cs, fv = .func (.func f) fs cs ∧ callable P f = true ∧ ∀ (μ : Nat → Loc) (w : World) (vs : List Value), HR M w0 μ L w → DV.unders L.next args = true → RelVs (Tot M μ L) w μ L args vs →
    Calls P f (fs ++ ⟨vs⟩ ++ cs) w (Fin M w0 μ L w K) := by unfold DCV at h; exact h
theorem PureFn.elim {f : FuncId} {ps : List PV} {p : PV} (h : PureFn P f ps p) : callable P f = true ∧ ∀ (M : Nat → Prop) (w : World) (vs : List Value), Glb w → (∀ b, M b → b < w.heap.size) → RelPs M w ps vs →
    Calls P f ⟨vs⟩ w fun e w' => ∃ v, e = .returned v ∧ RelP M w' p v ∧ Below w.heap.size w w' := by unfold PureFn at h; exact h
theorem PureFn.mk {f : FuncId} {ps : List PV} {p : PV} (h : callable P f = true ∧ ∀ (M : Nat → Prop) (w : World) (vs : List Value), Glb w → (∀ b, M b → b < w.heap.size) → RelPs M w ps vs →
    Calls P f ⟨vs⟩ w fun e w' => ∃ v, e = .returned v ∧ RelP M w' p v ∧ Below w.heap.size w w') : PureFn P f ps p := by unfold PureFn; exact h

theorem Tot.lt (h : HR M w0 μ L w) {b : Nat} (hb : Tot M μ L b) : b < w.heap.size := by
  rcases hb with hb | ⟨k, o, h1, h2, rfl⟩
  · exact h.mlt b hb
  · exact (h.live k o h1 h2).1

theorem flat_scalar {T T' : Nat → Prop} {w w' : World} {p : PV} {v : Value} (h : RelP T w p v) (hf : p.scalar = true) : RelP T' w' p v := by
  cases h <;> first | (simp [PV.scalar] at hf; done) | constructor
theorem flat_rel {T T' : Nat → Prop} {w w' : World} {p : PV} {v : Value} (h : RelP T w p v) (hf : p.flat = true) : RelP T' w' p v := by
  cases h with
  | agg l vs h1 h2 => exact .agg l vs h1 fun i p v hp hv => flat_scalar (h2 i p v hp hv) (List.all_eq_true.1 hf p (List.mem_of_getElem? hp))
  | tup l vs h1 h2 =>
    refine .tup l vs h1 fun i p v hp hv => ?_
    have hp' := List.all_eq_true.1 hf p (List.mem_of_getElem? hp)
    have h3 := h2 i p v hp hv
    cases h3 with
    | agg l2 vs2 g1 g2 => exact .agg l2 vs2 g1 fun i p v hp hv => flat_scalar (g2 i p v hp hv) (List.all_eq_true.1 hp' p (List.mem_of_getElem? hp))
    | int k n => exact .int k n
    | bool b => exact .bool b
    | str s => exact .str s
    | nil => exact .nil
    | e0 a c => exact .e0 a c
    | sl => simp [PV.scalar] at hp'
    | tup => simp [PV.scalar] at hp'
  | int k n => exact .int k n
  | bool b => exact .bool b
  | str s => exact .str s
  | nil => exact .nil
  | e0 a c => exact .e0 a c
  | sl => simp [PV.flat, PV.scalar] at hf

mutual
theorem nobuf_rel {T : Nat → Prop} : ∀ (d : DV) (v : Value) (L' : DH) (K : PV → Prop), RelV T w μ L d v → d.noBuf = true → brw d L' K → ∃ p, K p ∧ RelP T w p v
  | .pv p, v, L', K => fun hr _ hb => by
    cases hr with
    | pv _ _ hp => exact ⟨p, hb, hp⟩
  | .e0, v, L', K => fun hr _ hb => by
    cases hr with
    | e0 a => exact ⟨_, hb, .e0 a 0⟩
  | .buf k n, v, L', K => fun _ hn hb => by simp [DV.noBuf] at hn
  | .agg l, v, L', K => fun hr hn hb => by
    simp only [brw] at hb
    cases hr with
    | agg _ vs h1 h2 =>
      obtain ⟨ps, hK, hl, hp⟩ := nobufs_rel l vs L' _ h1 h2 (by simpa [DV.noBuf] using hn) hb
      exact ⟨_, hK, .agg ps vs hl hp⟩
  | .tup l, v, L', K => fun hr hn hb => by
    simp only [brw] at hb
    cases hr with
    | tup _ vs h1 h2 =>
      obtain ⟨ps, hK, hl, hp⟩ := nobufs_rel l vs L' _ h1 h2 (by simpa [DV.noBuf] using hn) hb
      exact ⟨_, hK, .tup ps vs hl hp⟩
  | .ref _ _, _, _, _ => fun _ _ hb => by simp [brw] at hb
  | .aref _ _ _ _, _, _, _ => fun _ _ hb => by simp [brw] at hb
  | .eptr _ _, _, _, _ => fun _ _ hb => by simp [brw] at hb
  | .mp _, _, _, _ => fun _ _ hb => by simp [brw] at hb
  | .vbuf _ _, _, _, _ => fun _ hn _ => by simp [DV.noBuf] at hn
  | .rbuf _ _, _, _, _ => fun _ hn _ => by simp [DV.noBuf] at hn
  | .clo _ _ _, _, _, _ => fun _ _ hb => by simp [brw] at hb
  | .fnv _, _, _, _ => fun _ _ hb => by simp [brw] at hb
  | .when _ _, _, _, _ => fun _ _ hb => by simp [brw] at hb
  | .raw _, _, _, _ => fun _ _ hb => by simp [brw] at hb
  | .any, _, _, _ => fun _ _ hb => by simp [brw] at hb
theorem nobufs_rel {T : Nat → Prop} : ∀ (l : List DV) (vs : List Value) (L' : DH) (K : List PV → Prop), l.length = vs.length →
    (∀ (i : Nat) d v, l[i]? = some d → vs[i]? = some v → RelV T w μ L d v) → DV.noBufs l = true → brws l L' K → ∃ ps, K ps ∧ ps.length = vs.length ∧ ∀ (i : Nat) p v, ps[i]? = some p → vs[i]? = some v → RelP T w p v
  | [], vs, L', K => fun hl _ _ hb => ⟨[], hb, hl, fun i p v hp _ => by simp at hp⟩
  | d :: r, [], L', K => fun hl _ _ _ => by simp at hl
  | d :: r, v :: vs, L', K => fun hl hr hn hb => by
    simp only [brws] at hb
    simp only [DV.noBufs, Bool.and_eq_true] at hn
    obtain ⟨p, hb', hp⟩ := nobuf_rel d v L' _ (hr 0 d v rfl rfl) hn.1 hb
    obtain ⟨ps, hK, hl', hps⟩ := nobufs_rel r vs L' _ (by simpa using hl) (fun i d v hd hv => hr (i + 1) d v (by simpa using hd) (by simpa using hv)) hn.2 hb'
    refine ⟨p :: ps, hK, by simp [hl'], fun i q u hq hu => ?_⟩
    cases i with
    | zero => simp at hq hu; subst hq; subst hu; exact hp
    | succ i => exact hps i q u (by simpa using hq) (by simpa using hu)
end

/-- A call of a function that only computes, its arguments read as they stand. -/
theorem DCD.dc {f : FuncId} {args : List DV} (hcb : callable P f = true) (h : DCD P f args L K) : DC P M w0 f args L K := by
  obtain ⟨p, hb, hf, hK⟩ := h
  refine DC.mk ⟨hcb, fun μ w vs hr hu ⟨hl, hrel⟩ => ?_⟩
  simp only [Bool.or_eq_true] at hf
  rcases hf with hf | hf
  · obtain ⟨ps, hP, hpl, hps⟩ := nobufs_rel args vs L _ hl hrel hf hb
    refine (hP.elim.2 (Tot M μ L) w vs (hr.glb.ext hr.ext) (fun b hb => Tot.lt hr hb) ⟨hpl, hps⟩).mono ?_
    rintro e w' ⟨v, rfl, hv, hbl⟩
    obtain ⟨hs, hr'⟩ := hr.more hbl
    exact .inl ⟨v, rfl, μ, p.dv, L, hK, hr', dv_rel hv, dv_under _ _, hs⟩
  · obtain ⟨ps, hP, hpl, hps⟩ := brws_rel hr (fun _ _ h => h) args vs _ hl hrel hb
    refine (hP.elim.2 (TotB M μ L) w vs (hr.glb.ext hr.ext) (fun b hb => Tot.lt hr hb.tot) ⟨hpl, hps⟩).mono ?_
    rintro e w' ⟨v, rfl, hv, hbl⟩
    obtain ⟨hs, hr'⟩ := hr.more hbl
    exact .inl ⟨v, rfl, μ, p.dv, L, hK, hr', dv_rel (flat_rel hv hf), dv_under _ _, hs⟩
theorem PureFn.callable_of_dcd {f : FuncId} {args : List DV} (h : ∀ (K : List PV → Prop), brws args L K → ∃ ps, K ps) (hd : DCD P f args L K) : callable P f = true := by
  obtain ⟨p, hb, _, _⟩ := hd
  obtain ⟨ps, hP⟩ := h _ hb
  exact hP.elim.1

theorem brw1_ex (d : DV) (L : DH) (K : PV → Prop) (hb : brw1 d L K) : ∃ p, K p := by
  cases d with
  | pv p => exact ⟨p, hb⟩
  | e0 => exact ⟨_, hb⟩
  | buf k n =>
    simp only [brw1] at hb
    cases hk : L.get k with
    | none => simp [hk] at hb
    | some o => cases o <;> simp only [hk] at hb <;> first | exact ⟨_, hb.2⟩ | exact hb.elim
  | _ => simp [brw1] at hb
theorem brw1s_ex : ∀ (l : List DV) (L : DH) (K : List PV → Prop), brw1s l L K → ∃ ps, K ps
  | [], _, _ => fun hb => ⟨_, hb⟩
  | d :: r, L, K => fun hb => by
    simp only [brw1s] at hb
    obtain ⟨p, hb⟩ := brw1_ex d L _ hb
    obtain ⟨ps, hb⟩ := brw1s_ex r L _ hb
    exact ⟨_, hb⟩
mutual
theorem brw_ex : ∀ (d : DV) (L : DH) (K : PV → Prop), brw d L K → ∃ p, K p
  | .pv p, L, K => fun hb => ⟨p, hb⟩
  | .e0, L, K => fun hb => ⟨_, hb⟩
  | .buf k n, L, K => fun hb => by
    simp only [brw] at hb
    cases hk : L.get k with
    | none => simp [hk] at hb
    | some o => cases o <;> simp only [hk] at hb <;> first | exact ⟨_, hb.2⟩ | exact hb.elim
  | .agg l, L, K => fun hb => by simp only [brw] at hb; obtain ⟨ps, h⟩ := brws_ex l L _ hb; exact ⟨_, h⟩
  | .tup l, L, K => fun hb => by simp only [brw] at hb; obtain ⟨ps, h⟩ := brws_ex l L _ hb; exact ⟨_, h⟩
  | .ref _ _, _, _ => fun hb => by simp [brw] at hb
  | .aref _ _ _ _, _, _ => fun hb => by simp [brw] at hb
  | .eptr _ _, _, _ => fun hb => by simp [brw] at hb
  | .mp _, _, _ => fun hb => by simp [brw] at hb
  | .rbuf _ _, _, _ => fun hb => by simp [brw] at hb
  | .vbuf k n, L, K => fun hb => by
    simp only [brw] at hb
    cases hk : L.get k with
    | none => simp [hk] at hb
    | some o =>
      cases o with
      | var cs =>
        simp only [hk] at hb
        obtain ⟨ps, _, _, h⟩ := brw1s_ex _ _ _ hb
        exact ⟨_, h⟩
      | arr sz es => simp [hk] at hb
      | fz es => simp [hk] at hb
      | mp => simp [hk] at hb
      | row => simp [hk] at hb
      | gone => simp [hk] at hb
  | .clo _ _ _, _, _ => fun hb => by simp [brw] at hb
  | .fnv _, _, _ => fun hb => by simp [brw] at hb
  | .when _ _, _, _ => fun hb => by simp [brw] at hb
  | .raw _, _, _ => fun hb => by simp [brw] at hb
  | .any, _, _ => fun hb => by simp [brw] at hb
theorem brws_ex : ∀ (l : List DV) (L : DH) (K : List PV → Prop), brws l L K → ∃ ps, K ps
  | [], L, K => fun hb => ⟨[], hb⟩
  | d :: r, L, K => fun hb => by
    simp only [brws] at hb
    obtain ⟨p, hb⟩ := brw_ex d L _ hb
    obtain ⟨ps, hb⟩ := brws_ex r L _ hb
    exact ⟨_, hb⟩
end

theorem res_call {c : Call} (ho : o.op = .call c) (h : HR M w0 μ L w) (hρ : Rho M μ L w ρ a) (hv : vcOp P M w0 dr ρ L o K) : OpRes P M w0 μ L w K o a := by
  simp only [vcOp, ho] at hv
  cases hc : c.callee with
  | invoke r m => simp [hc] at hv
  | builtin b =>
    simp only [hc] at hv
    cases b
    case len =>
      cases hargs : c.args.toList.map ρ with
      | nil => rw [hargs] at hv; simp [vcBuiltin] at hv
      | cons d r =>
        cases r with
        | nil => rw [hargs] at hv; exact res_len ho hc hargs h hρ hv
        | cons => rw [hargs] at hv; simp [vcBuiltin] at hv
    case append =>
      cases hargs : c.args.toList.map ρ with
      | nil => rw [hargs] at hv; simp [vcBuiltin] at hv
      | cons d r =>
        cases r with
        | nil => rw [hargs] at hv; simp [vcBuiltin] at hv
        | cons d2 r =>
          cases r with
          | cons => rw [hargs] at hv; simp [vcBuiltin] at hv
          | nil =>
            rw [hargs] at hv
            simp only [vcBuiltin] at hv
            split at hv
            · rename_i t t2 ht
              obtain ⟨x, y, hx, e1, e2⟩ := args_two hargs
              subst e1; subst e2
              split at hv
              · rename_i kx nx hyb
                exact res_append2 ho hc hx (ty_two ht) h hρ hyb hv
              · exact res_append ho hc hx (ty_two ht) h hρ hv
            · exact hv.elim
    case max =>
      cases hargs : c.args.toList.map ρ with
      | nil => rw [hargs] at hv; simp [vcBuiltin] at hv
      | cons d r =>
        cases r with
        | nil => rw [hargs] at hv; simp [vcBuiltin] at hv
        | cons d2 r =>
          cases r with
          | cons => rw [hargs] at hv; simp [vcBuiltin] at hv
          | nil => rw [hargs] at hv; exact res_max ho hc hargs h hρ hv
    case min =>
      cases hargs : c.args.toList.map ρ with
      | nil => rw [hargs] at hv; simp [vcBuiltin] at hv
      | cons d r =>
        cases r with
        | nil => rw [hargs] at hv; simp [vcBuiltin] at hv
        | cons d2 r =>
          cases r with
          | cons => rw [hargs] at hv; simp [vcBuiltin] at hv
          | nil => rw [hargs] at hv; exact res_min ho hc hargs h hρ hv
    all_goals simp [vcBuiltin] at hv
  | value f =>
    simp only [hc] at hv
    have hf := hρ.rel f
    have hfu := hρ.und f
    obtain ⟨a1, a2, a3⟩ := map_rel hρ c.args
    have clo : ∀ fid first caps, ρ f = .clo fid first caps → DC P M w0 fid (first ++ c.args.toList.map ρ ++ caps) L K → OpRes P M w0 μ L w K o a := by
      intro fid first caps he hdc
      rw [he] at hf hfu
      generalize hev : a.eval f = vf at hf
      cases hf with
      | clo _ _ _ fs cs l1 l2 r1 r2 =>
        simp only [DV.under, Bool.and_eq_true] at hfu
        obtain ⟨hcb, hcall⟩ := hdc.elim
        refine .inr (.inr (.inl ⟨fid, ⟨fs⟩ ++ c.args.map a.eval ++ ⟨cs⟩, run_call ho hc hev hcb, ?_⟩))
        have := hcall μ w (fs ++ (c.args.map a.eval).toList ++ cs) h (by
          rw [unders_mem]
          intro d hd
          rcases List.mem_append.1 hd with hd | hd
          · rcases List.mem_append.1 hd with hd | hd
            · exact unders_mem.1 hfu.1 d hd
            · exact unders_mem.1 a3 d hd
          · exact unders_mem.1 hfu.2 d hd) ⟨by simp only [List.length_append, l1, l2, a1], fun i d v hd hv => by
          by_cases i1 : i < first.length
          · rw [List.append_assoc, List.getElem?_append_left i1] at hd
            rw [List.append_assoc, List.getElem?_append_left (by omega)] at hv
            exact r1 i d v hd hv
          · rw [List.append_assoc, List.getElem?_append_right (by omega)] at hd
            rw [List.append_assoc, List.getElem?_append_right (by omega), ← l1] at hv
            by_cases i2 : i - first.length < (c.args.toList.map ρ).length
            · rw [List.getElem?_append_left i2] at hd
              rw [List.getElem?_append_left (by omega)] at hv
              exact a2 _ d v hd hv
            · rw [List.getElem?_append_right (by omega)] at hd
              rw [List.getElem?_append_right (by omega), ← a1] at hv
              exact r2 _ d v hd hv⟩
        have e1 : (⟨fs ++ (c.args.map a.eval).toList ++ cs⟩ : Array Value) = ⟨fs⟩ ++ c.args.map a.eval ++ ⟨cs⟩ := by
          apply Array.ext'
          simp
        rw [e1] at this
        exact this
    cases hd : ρ f with
    | clo fid first caps =>
      rw [hd] at hv
      cases dr with
      | false => exact clo fid first caps hd hv
      | true =>
        have hv' : DCD P fid (first ++ c.args.toList.map ρ ++ caps) L K := hv
        exact clo fid first caps hd (hv'.dc (PureFn.callable_of_dcd (fun K hb => brws_ex _ _ K hb) hv'))
    | fnv v =>
      rw [hd] at hv
      cases dr with
      | true => simp at hv
      | false =>
        have hv' : DCV P M w0 v (c.args.toList.map ρ) L K := hv
        obtain ⟨fid, fs, cs, he, hcb, hcall⟩ := hv'.elim
        rw [hd] at hf
        have hev : a.eval f = v := by cases hf; rfl
        refine .inr (.inr (.inl ⟨fid, fs ++ c.args.map a.eval ++ cs, run_call ho hc (by rw [hev, he]) hcb, ?_⟩))
        exact hcall μ w (c.args.map a.eval).toList h a3 ⟨a1, a2⟩
    | _ => rw [hd] at hv; cases dr <;> simp at hv

theorem res_makeInterface {t : TypeId} {x : Operand} (ho : o.op = .makeInterface t x) (h : HR M w0 μ L w) (hρ : Rho M μ L w ρ a) (hv : vcOp P M w0 dr ρ L o K) : OpRes P M w0 μ L w K o a := by
  have hx := hρ.rel x
  simp only [vcOp, ho] at hv
  split at hv
  case h_2 => exact hv.elim
  rename_i k n hd hk
  rw [hd] at hx
  have hu : ∃ d, P.underlying t = some d ∧ ∀ m, d ≠ .interface m := by
    unfold kindT at hk
    cases hq : P.underlying t with
    | none => simp [hq] at hk
    | some d => cases d <;> simp [hq] at hk ⊢
  obtain ⟨d, hu, hni⟩ := hu
  have hev : a.eval x = .agg #[.int k n] := by
    generalize a.eval x = vx at hx
    cases hx with
    | agg _ vs l1 r1 =>
      rcases vs with _ | ⟨v, _ | ⟨v2, vs⟩⟩
      · simp at l1
      · rw [pvI (r1 0 _ v rfl rfl)]
      · simp at l1
  refine .val (v := .iface t (.agg #[.int k n])) (w' := w) ?_ (Out.id h (.raw _) rfl hv)
  rw [show execOp a.eval o = (do pure (Next.value (← Instr.makeInterface t (a.eval x))) : Sem Next) from by simp only [execOp, ho]]
  refine run_val ?_
  rw [hev, Instr.makeInterface, Sem.run_bind, run_underlying hu, Result.andThen_ok]
  cases d <;> first | rfl | exact absurd rfl (hni _)
theorem res_panic {x : Operand} (ho : o.op = .panic x) (h : HR M w0 μ L w) (hρ : Rho M μ L w ρ a) (hv : vcOp P M w0 dr ρ L o K) : OpRes P M w0 μ L w K o a := by
  have hx := hρ.rel x
  simp only [vcOp, ho] at hv
  split at hv
  case h_2 => exact hv.elim
  rename_i t v hd
  rw [hd] at hx
  have hev : a.eval x = .iface t v := by
    generalize a.eval x = vx at hx
    cases hx; rfl
  refine .inr (.inr (.inr ⟨.iface t v, ?_, μ, L, hv, h, Stp.refl L μ w fun k o hk => (h.keys k o hk).1⟩))
  simp only [execOp, ho, hev]
  rfl
theorem res_typeAssert {x : Operand} {tx t : TypeId} (ho : o.op = .typeAssert x tx t false) (h : HR M w0 μ L w) (hρ : Rho M μ L w ρ a) (hv : vcOp P M w0 dr ρ L o K) : OpRes P M w0 μ L w K o a := by
  have hx := hρ.rel x
  simp only [vcOp, ho] at hv
  split at hv
  case h_2 => exact hv.elim
  rename_i t' v hd hk
  split at hv
  case h_2 => exact hv.elim
  rename_i ht
  obtain rfl := of_decide_eq_true ht
  rw [hd] at hx
  have hev : a.eval x = .iface t' v := by
    generalize a.eval x = vx at hx
    cases hx; rfl
  have hu : ∃ d, P.underlying t' = some d ∧ ∀ m, d ≠ .interface m := by
    unfold kindT at hk
    cases hq : P.underlying t' with
    | none => simp [hq] at hk
    | some d => cases d <;> simp [hq] at hk ⊢
  obtain ⟨d, hu, hni⟩ := hu
  refine .val (v := v) (w' := w) ?_ (Out.id h (relV_dvOf v) (under_dvOf _ v) hv)
  rw [show execOp a.eval o = (do pure (Next.value (← Instr.typeAssert (a.eval x) tx t' false)) : Sem Next) from by simp only [execOp, ho]]
  refine run_val ?_
  rw [hev]
  simp only [Instr.typeAssert, Sem.run_bind, run_underlying hu, Result.andThen_ok]
  cases d <;> first | simp | exact absurd rfl (hni _)
theorem vcOp_sound (h : HR M w0 μ L w) (hρ : Rho M μ L w ρ a) (hv : vcOp P M w0 dr ρ L o K) : OpRes P M w0 μ L w K o a := by
  cases ho : o.op
  case move x => exact res_move (x := x) (by simp only [execOp, ho]) h hρ (by simpa only [vcOp, ho] using hv)
  case assign x => exact res_move (x := x) (by simp only [execOp, ho]) h hρ (by simpa only [vcOp, ho] using hv)
  case pick => exact res_pick ho h hρ hv
  case alloc t =>
    have hv' := hv
    simp only [vcOp, ho] at hv'
    cases hz : zeroOf P t with
    | none => simp [hz] at hv'
    | some z =>
      cases h1 : z.cells.all DV.one with
      | false => simp [hz, h1] at hv'
      | true => simp only [hz, h1] at hv'; exact res_alloc ho h hz h1 hv'
  case box t x =>
    have hv' := hv
    simp only [vcOp, ho] at hv'
    cases h1 : (ρ x).cells.all DV.one with
    | false => simp [h1] at hv'
    | true => simp only [h1] at hv'; exact res_box ho h hρ h1 hv'
  case build => exact res_build ho h hρ hv
  case buildSlice => exact res_buildSlice ho h hρ hv
  case load => exact res_load ho h hρ hv
  case store => exact res_store ho h hρ hv
  case nilCheck => exact res_nilCheck ho h hρ hv
  case binOp => exact res_binOp ho h hρ hv
  case unOp => exact res_unOp ho h hρ hv
  case convert => exact res_convert ho h hρ hv
  case makeFunc => exact res_makeFunc ho h hρ hv
  case makeMap => exact res_makeMap ho h hv
  case makeSlice => exact res_makeSlice ho h hρ hv
  case slice => exact res_slice ho h hρ hv
  case fieldAddr => exact res_fieldAddr ho h hρ hv
  case field => exact res_field ho h hρ hv
  case indexAddr => exact res_indexAddr ho h hρ hv
  case index => exact res_index ho h hρ hv
  case lookup => exact res_lookup ho h hρ hv
  case mapUpdate => exact res_mapUpdate ho h hρ hv
  case extract => exact res_extract ho h hρ hv
  case call => exact res_call ho h hρ hv
  case makeInterface => exact res_makeInterface ho h hρ hv
  case panic => exact res_panic ho h hρ hv
  case typeAssert x tx t ok =>
    cases ok
    · exact res_typeAssert ho h hρ hv
    · simp [vcOp, ho] at hv
  all_goals simp [vcOp, ho] at hv
end
end Go.Dv
set_option maxHeartbeats 1000000
namespace Go.Dv
open Go.RowKit (Below)
/-- What stays the same in a body: the calls that are put off, and the first temporaries. -/
structure Fx where
  ds : List Deferred
  tm : Nat → Value
  bd : Option Nat
/-- The mark that a range over a function leaves among the calls that are put off. -/
def mkD (D : Nat) : Deferred := { target := .collected D, args := #[] }
def Mks (F : Fx) (ds : List Deferred) (w : World) : Prop :=
  match F.bd with
  | none => ds = F.ds
  | some b => ∃ ms : List Nat, ds = ms.map mkD ++ F.ds ∧ ms.Nodup ∧ ∀ D : Nat, D ∈ ms → w.heap[D]? = some (.deferred (some [])) ∧ b ≤ D
theorem Mks.keep {F : Fx} {ds : List Deferred} {w w' : World} (h : Mks F ds w) (hk : ∀ D : Nat, w.heap[D]? = some (.deferred (some [])) → w'.heap[D]? = some (.deferred (some []))) : Mks F ds w' := by
  unfold Mks at *
  split at h
  · exact h
  · obtain ⟨ms, h1, h2, h3⟩ := h
    exact ⟨ms, h1, h2, fun D hD => ⟨hk D (h3 D hD).1, (h3 D hD).2⟩⟩
/-- The fence of a body: in a round of a range over a function, or not. -/
def fR (r : Option Nat) : Fence := { Fence.wide with round := r }
section
variable {P : Program} {M : Nat → Prop} {w0 : W0} {N : NB} {F : Fx}

structure Sim (F : Fx) (M : Nat → Prop) (w0 : W0) (N : NB) (μ : Nat → Loc) (e : Env) (L : DH) (a : Act) (w : World) : Prop where
  hr : HR M w0 μ L w
  env : ∀ t, RelV (Tot M μ L) w μ L (e t) (a.tmps.getD t undef)
  und : ∀ t, (e t).under L.next = true
  defers : Mks F a.defers w
  size : N.n ≤ a.tmps.size
  fix : ∀ t, t < N.b → a.tmps.getD t undef = F.tm t

theorem Sim.rho {μ : Nat → Loc} {e : Env} {L : DH} {a : Act} {w : World} (h : Sim F M w0 N μ e L a w) : Rho M μ L w (opd e) a := Rho.of_env h.env h.und

theorem live_obj {M : Nat → Prop} {w0 : W0} {μ : Nat → Loc} {L : DH} {w : World} (h : HR M w0 μ L w) {k : Nat} {o : DObj} (hk : L.get k = some o) (hl : liveAt (μ k) o) : ∃ x, w.heap[(μ k).blk]? = some x ∧ ((∃ vs ty, x = .cells vs ty (0, 0)) ∨ ∃ es c, x = .map es c) := by
  have := h.obj k o hk
  cases o with
  | var cs => obtain ⟨vs, ty, h1, _⟩ := this; exact ⟨_, h1, .inl ⟨vs, ty, rfl⟩⟩
  | arr sz es =>
    rcases this with ⟨h1, _⟩ | ⟨vs, ty, _, h1, _⟩
    · exact absurd h1 hl
    · exact ⟨_, h1, .inl ⟨vs, ty, rfl⟩⟩
  | fz l => exact hl.elim
  | row ds =>
    rcases this with ⟨h1, _⟩ | ⟨vs, ty, _, h1, _⟩
    · exact absurd h1 hl
    · exact ⟨_, h1, .inl ⟨vs, ty, rfl⟩⟩
  | gone => exact hl.elim
  | mp es => obtain ⟨ents, clock, h1, _⟩ := this; exact ⟨_, h1, .inr ⟨ents, clock, rfl⟩⟩
theorem Stp.other {M : Nat → Prop} {w0 : W0} {μ μ' : Nat → Loc} {L L' : DH} {w w' : World} (h : HR M w0 μ L w) (hs : Stp L μ w L' μ' w') {D : Nat} {o : Obj} (hD : w.heap[D]? = some o) (h1 : ∀ vs ty, o ≠ .cells vs ty (0, 0)) (h2 : ∀ es c, o ≠ .map es c) : w'.heap[D]? = some o := by
  rw [hs.same D (Array.getElem?_eq_some_iff.1 hD).1 ?_]
  · exact hD
  · rintro ⟨k, o2, _, hk, hl, rfl⟩
    obtain ⟨x, hx, hx2⟩ := live_obj h hk hl
    rw [hD] at hx
    obtain rfl := Option.some.inj hx
    rcases hx2 with ⟨vs, ty, rfl⟩ | ⟨es, c, rfl⟩
    · exact h1 vs ty rfl
    · exact h2 es c rfl
theorem Mks.stp {M : Nat → Prop} {w0 : W0} {μ μ' : Nat → Loc} {L L' : DH} {w w' : World} {F : Fx} {ds : List Deferred} (h : HR M w0 μ L w) (hs : Stp L μ w L' μ' w') (hm : Mks F ds w) : Mks F ds w' :=
  hm.keep fun D hD => Stp.other h hs hD (fun _ _ e => by cases e) (fun _ _ e => by cases e)
theorem getD_put (a : Act) (d t : Nat) (v : Value) (h : d < a.tmps.size) : (a.put (some d) v).tmps.getD t undef = if t = d then v else a.tmps.getD t undef := by
  simp only [Act.put, Array.getD_eq_getD_getElem?, Array.getElem?_setIfInBounds]
  by_cases e : d = t
  · subst e; simp [h]
  · rw [if_neg e, if_neg (Ne.symm e)]

/-- The state behind an operation. -/
theorem Sim.step {μ μ' : Nat → Loc} {e : Env} {L L' : DH} {a : Act} {w w' : World} {d : DV} {v : Value} {dst : Option Tmp} (h : Sim F M w0 N μ e L a w) (hs : Stp L μ w L' μ' w') (hr : HR M w0 μ' L' w')
    (hd : RelV (Tot M μ' L') w' μ' L' d v) (hu : d.under L'.next = true) (hN : okDst N dst = true) : Sim F M w0 N μ' (upd e dst d) L' (a.put dst v) w' := by
  cases dst with
  | none =>
    exact ⟨hr, fun t => (h.env t).stp hs (h.und t), fun t => DV.under_mono hs.next _ (h.und t), h.defers.stp h.hr hs, h.size, h.fix⟩
  | some t =>
    have ht : t < a.tmps.size := by
      have : t < N.n := by
        simp only [okDst, Bool.and_eq_true, Nat.blt_eq] at hN
        exact hN.1
      exact Nat.lt_of_lt_of_le this h.size
    have hb : N.b ≤ t := by
      simp only [okDst, Bool.and_eq_true, Nat.ble_eq] at hN
      exact hN.2
    refine ⟨hr, fun u => ?_, fun u => ?_, h.defers.stp h.hr hs, by simpa [Act.put] using h.size, fun u hu => by rw [getD_put a t u v ht, if_neg (by omega)]; exact h.fix u hu⟩
    · rw [getD_put a t u v ht]
      by_cases e1 : u = t
      · subst e1
        simp only [upd, Nat.beq_refl, cond_true, if_true]
        exact hd
      · have : Nat.beq u t = false := by
          cases hb : Nat.beq u t with
          | false => rfl
          | true => exact absurd (Nat.eq_of_beq_eq_true hb) e1
        simp only [upd, this, cond_false, if_neg e1]
        exact (h.env u).stp hs (h.und u)
    · by_cases e1 : u = t
      · subst e1; simpa [upd] using hu
      · have : Nat.beq u t = false := by
          cases hb : Nat.beq u t with
          | false => rfl
          | true => exact absurd (Nat.eq_of_beq_eq_true hb) e1
        simp only [upd, this, cond_false]
        exact DV.under_mono hs.next _ (h.und u)

theorem vcOp_congr {ρ ρ' : Operand → DV} {dr : Bool} {L : DH} {o : Oper} {K : DV → DH → Prop} (h : ∀ x ∈ o.op.operands, ρ x = ρ' x) : vcOp P M w0 dr ρ L o K = vcOp P M w0 dr ρ' L o K := by
  obtain ⟨dst, op, type, pos, after, guard⟩ := o
  have pairs : ∀ ps : Array (Nat × Operand), (∀ x ∈ ps.toList.map (·.2), ρ x = ρ' x) → (ps.toList.map fun q => (q.1, ρ q.2)) = (ps.toList.map fun q => (q.1, ρ' q.2)) := fun ps hp =>
    List.map_congr_left fun p hm => by
      obtain ⟨i, x⟩ := p
      simp only [hp x (List.mem_map.2 ⟨(i, x), hm, rfl⟩)]
  have seconds : ∀ ps : Array (Nat × Operand), (∀ x ∈ ps.toList.map (·.2), ρ x = ρ' x) → (ps.toList.map fun q => ρ q.2) = (ps.toList.map fun q => ρ' q.2) := fun ps hp =>
    List.map_congr_left fun p hm => hp p.2 (List.mem_map.2 ⟨p, hm, rfl⟩)
  cases op <;> simp only [Op.operands] at h <;> simp only [vcOp]
  case build t ps => rw [pairs ps fun x hx => h x (by simpa using hx)]
  case buildSlice t n ps => rw [seconds ps fun x hx => h x (by simpa using hx)]
  case makeFunc fn first captured =>
    cases fn <;> simp only
    rw [List.map_congr_left (l := first.toList) fun x hx => h x (by simp at hx; simp [hx]), List.map_congr_left (l := captured.toList) fun x hx => h x (by simp at hx; simp [hx])]
  case call c =>
    have hargs : c.args.toList.map ρ = c.args.toList.map ρ' := List.map_congr_left fun x hx => h x (by simp at hx; simp [Call.operands, hx])
    simp only [hargs]
    cases hc : c.callee with
    | value f => have hf : ρ f = ρ' f := h f (by simp [Call.operands, hc]); simp only [hf]
    | invoke r m => rfl
    | builtin b => rfl
  case slice t x lo hi mx => cases lo <;> cases hi <;> cases mx <;> simp_all
  case makeMap t r => cases r <;> rfl
  case typeAssert x tx t ok => cases ok <;> simp only [h x (by simp)]
  all_goals (first | rfl | (simp_all; done))

theorem force_eq {d : DV} {K : DV → Prop} : force d K = K d := by
  cases d with
  | pv p => cases p <;> rfl
  | _ => rfl
theorem fupd_eq {e : Env} {dst : Option Nat} {d : DV} {K : Env → Prop} : fupd e dst d K = K (upd e dst d) := by
  cases dst with
  | none => rfl
  | some t => exact force_eq (K := fun d => K (upd e (some t) d))

theorem allW_mem {e : Env} : ∀ {l : List Operand}, allW e l → ∀ x ∈ l, wcond (opd e x) = true
  | [], _, x, hx => by simp at hx
  | y :: r, h, x, hx => by
    have key : wcond (opd e y) = true ∧ allW e r := by
      simp only [allW] at h
      split at h
      · rename_i c d he
        rw [he]; exact h
      · rename_i hne
        refine ⟨?_, h⟩
        unfold wcond
        split
        · rename_i c d he
          exact absurd he (hne c d)
        · rfl
    rcases List.mem_cons.1 hx with rfl | hx
    · exact key.1
    · exact allW_mem key.2 x hx

theorem vcW_sound {dr : Bool} {e : Env} {L : DH} {μ : Nat → Loc} {a : Act} {w : World} {o : Oper} {K : DV → DH → Prop} (h : Sim F M w0 N μ e L a w) (hv : vcW P M w0 dr e L o K) : OpRes P M w0 μ L w K o a := by
  unfold vcW at hv
  split at hv
  · exact vcOp_sound h.hr h.rho hv
  · obtain ⟨hall, hv⟩ := hv
    let ρ' : Operand → DV := fun x => if wcond (opd e x) = true then strip (opd e x) else .any
    have hρ : Rho M μ L w ρ' a := by
      have hr := h.rho
      have key : ∀ (d : DV) (v : Value), RelV (Tot M μ L) w μ L d v → d.under L.next = true → RelV (Tot M μ L) w μ L (if wcond d = true then strip d else .any) v ∧ (if wcond d = true then strip d else .any).under L.next = true := by
        intro d v hd hu
        cases d with
        | when c d =>
          cases c with
          | false => exact ⟨.any _, rfl⟩
          | true =>
            cases hd with
            | when _ _ _ h1 h2 => exact ⟨h1 rfl, by simpa [DV.under, wcond, strip] using hu⟩
        | _ => exact ⟨hd, hu⟩
      exact ⟨fun x => (key _ _ (hr.rel x) (hr.und x)).1, fun x => (key _ _ (hr.rel x) (hr.und x)).2⟩
    refine vcOp_sound (dr := dr) h.hr hρ ?_
    rw [vcOp_congr (ρ := ρ') (ρ' := fun x => strip (opd e x)) fun x hx => ?_]
    · exact hv
    · have := allW_mem hall x (by simpa using hx)
      simp only [ρ', this, if_true]

theorem wanted_of {μ : Nat → Loc} {e : Env} {L : DH} {a : Act} {w : World} {ops : Array Oper} {o oj : Oper} {j t : Nat} {want c : Bool} (h : Sim F M w0 N μ e L a w) (hg : o.guard = some (j, want)) (hj : ops.toList[j]? = some oj) (ht : oj.dst = some t)
    (hc : guardC (e t) want = some c) : Region.wanted o (yielded ops a.tmps) = c := by
  have hr := h.env t
  have hj' : ops[j]? = some oj := by simpa using hj
  have yb : ∀ g, a.tmps.getD t undef = .bool g → yielded ops a.tmps j = some g := by
    intro g hv
    unfold yielded
    simp only [hj', Option.bind_some, ht]
    simp only [Array.getD_eq_getD_getElem?] at hv
    cases hx : a.tmps[t]? with
    | none => rw [hx] at hv; simp [undef] at hv
    | some v => rw [hx] at hv; simp at hv; subst hv; rfl
  have yn : a.tmps.getD t undef = undef → yielded ops a.tmps j = none := by
    intro hv
    unfold yielded
    simp only [hj', Option.bind_some, ht]
    simp only [Array.getD_eq_getD_getElem?] at hv
    cases hx : a.tmps[t]? with
    | none => rfl
    | some v => rw [hx] at hv; simp at hv; subst hv; rfl
  generalize e t = d at hr hc
  have bool : ∀ g, d = .pv (.bool g) → yielded ops a.tmps j = some g := fun g hd => yb g (pvB (by rw [← hd]; exact hr))
  have whn : ∀ c0 g, d = .when c0 (.pv (.bool g)) → (c0 = true → yielded ops a.tmps j = some g) ∧ (c0 = false → yielded ops a.tmps j = none) := fun c0 g hd => by
    subst hd
    cases hr with
    | when _ _ _ h1 h2 => exact ⟨fun e => yb g (pvB (h1 e)), fun e => yn (h2 e)⟩
  unfold guardC at hc
  split at hc
  · rename_i g
    simp only [Option.some.injEq] at hc
    subst hc
    simp only [Region.wanted, hg, bool g rfl]
    cases g <;> rfl
  · rename_i g
    simp only [Option.some.injEq] at hc
    subst hc
    simp only [Region.wanted, hg, bool g rfl]
    cases g <;> rfl
  · rename_i c0 g
    simp only [Option.some.injEq] at hc
    subst hc
    cases c0 with
    | true =>
      simp only [Region.wanted, hg, (whn true g rfl).1 rfl]
      cases g <;> rfl
    | false => simp only [Region.wanted, hg, (whn false g rfl).2 rfl]; rfl
  · rename_i c0 g
    simp only [Option.some.injEq] at hc
    subst hc
    cases c0 with
    | true =>
      simp only [Region.wanted, hg, (whn true g rfl).1 rfl]
      cases g <;> rfl
    | false => simp only [Region.wanted, hg, (whn false g rfl).2 rfl]; rfl
  · simp only [Option.some.injEq] at hc
    subst hc
    have : yielded ops a.tmps j = none := by
      refine yn ?_
      generalize a.tmps.getD t undef = v at hr
      cases hr with
      | tup _ vs h1 h2 =>
        have : vs = [] := List.length_eq_zero_iff.1 h1.symm
        subst this; rfl
    simp only [Region.wanted, hg, this]
    cases want <;> rfl
  · cases hc

theorem WhenQ.elim {A B : DV → Prop} (h : WhenQ A B) : ∃ d, A d ∧ B d := by unfold WhenQ at h; exact h
theorem WhenQ.mk {A B : DV → Prop} {d : DV} (h1 : A d) (h2 : B d) : WhenQ A B := by unfold WhenQ; exact ⟨d, h1, h2⟩

theorem HR.same {w1 w2 : W0} {μ : Nat → Loc} {L : DH} {w : World} (h : HR M w1 μ L w) (e : w1.w = w2.w) : HR M w2 μ L w := by
  cases w1; cases w2
  cases e
  exact ⟨h.ext, h.mlt, h.keys, h.live, h.inj, h.obj, h.base, h.lob, h.glb⟩
/-- What an exit by a panic asks of the condition at an exit. -/
def QX (M : Nat → Prop) (w0 : W0) (μ : Nat → Loc) (L : DH) (w : World) (Q : Exit → Act → World → Prop) (a : Act) : Prop :=
  ∀ v w', OutX M w0 μ L w v w' → Q (.panic [{ v := v, recovered := false }]) a w'
theorem oper_wp {o : Oper} {a : Act} {w : World} {μ : Nat → Loc} {L : DH} {K : DV → DH → Prop} {next : Act → World → Prop} {Q : Exit → Act → World → Prop} (h : OpRes P M w0 μ L w K o a)
    (hn : ∀ v w', Out M w0 μ L w K v w' → next (a.put o.dst v) w') (hx : QX M w0 μ L w Q a) (hd : ∀ c, o.op ≠ .defer c) {r : Option Nat} : o.wpIn (fR r) 0 P a w next Q := by
  refine ⟨fun _ _ => trivial, ?_⟩
  rw [Oper.semAt_eq _ _ _ hd]
  rcases h with ⟨v, w', hr, ho⟩ | ⟨w', hr, ho⟩ | ⟨f, args, hr, hc⟩ | ⟨v, hr, ho⟩
  · rw [hr]; exact hn v w' ho
  · rw [hr]; exact hn undef w' ho
  · rw [hr]
    refine ⟨fun hh => (by cases hh), (callsIn_wide (n := 0)).2 (hc.mono ?_)⟩
    rintro e w' (⟨v, rfl, ho⟩ | ⟨v, rfl, ho⟩)
    · exact hn v w' ho
    · exact hx v w' ho
  · rw [hr]; exact hx v w ho
theorem vcOp_defer {dr : Bool} {ρ : Operand → DV} {L : DH} {o : Oper} {K : DV → DH → Prop} (h : vcOp P M w0 dr ρ L o K) : ∀ c, o.op ≠ .defer c := by
  intro c hc
  unfold vcOp at h
  rw [hc] at h
  exact h.elim
theorem vcW_defer {dr : Bool} {e : Env} {L : DH} {o : Oper} {K : DV → DH → Prop} (h : vcW P M w0 dr e L o K) : ∀ c, o.op ≠ .defer c := by
  unfold vcW at h
  split at h
  · exact vcOp_defer h
  · exact vcOp_defer h.2

/-- One operation of a region, its guard with it. -/
theorem step_sound {ops : Array Oper} {i : Nat} {o : Oper} {dr : Bool} {e : Env} {L : DH} {μ : Nat → Loc} {a : Act} {w : World} {K : Env → DH → Prop} {next : Act → World → Prop} {Q : Exit → Act → World → Prop} (hi : ops[i]? = some o)
    (hv : vcStep P M w0 dr N ops.toList o e L K) (h : Sim F M w0 N μ e L a w)
    (hn : ∀ μ' e' L' a' w', K e' L' → Sim F M w0 N μ' e' L' a' w' → Stp L μ w L' μ' w' → next a' w') (hx : QX M w0 μ L w Q a) {r : Option Nat} : wpOpIn (fR r) 0 P ops Q i next a w := by
  unfold wpOpIn
  rw [hi]
  simp only
  unfold vcStep at hv
  simp only [fupd_eq, force_eq] at hv
  cases hN : okDst N o.dst with
  | false => simp [hN] at hv
  | true =>
    simp only [hN] at hv
    have done : ∀ K', OpRes P M w0 μ L w K' o a → (∀ c, o.op ≠ .defer c) → (∀ d L' v μ' w', K' d L' → HR M w0 μ' L' w' → RelV (Tot M μ' L') w' μ' L' d v → d.under L'.next = true → Stp L μ w L' μ' w' → next (a.put o.dst v) w') → o.wpIn (fR r) 0 P a w next Q := by
      intro K' hr hdf hk
      refine oper_wp hr ?_ hx hdf
      rintro v w' ⟨μ', d, L', hK, hr, hd, hu, hs⟩
      exact hk d L' v μ' w' hK hr hd hu hs
    have hs0 := Stp.refl L μ w fun k o hk => (h.hr.keys k o hk).1
    cases hg : o.guard with
    | none =>
      simp only [hg] at hv
      have hw : Region.wanted o (yielded ops a.tmps) = true := by simp [Region.wanted, hg]
      rw [if_pos hw]
      exact (done _ (vcOp_sound h.hr h.rho hv) (vcOp_defer hv) fun d L' v μ' w' hK hr hd hu hs => hn μ' _ L' _ w' hK (h.step hs hr hd hu hN) hs)
    | some g =>
      obtain ⟨j, want⟩ := g
      simp only [hg] at hv
      cases hj : ops.toList[j]? with
      | none => rw [hj] at hv; exact hv.elim
      | some oj =>
        rw [hj] at hv
        cases ht : oj.dst with
        | none => simp [ht] at hv
        | some t =>
          simp only [ht] at hv
          cases hgc : guardC (e t) want with
          | none => rw [hgc] at hv; exact hv.elim
          | some c =>
            rw [hgc] at hv
            simp only at hv
            have hw := wanted_of h hg hj ht hgc
            rw [hw]
            cases hcl : Nat.ble (opCls o.op) 1 with
            | true =>
              rw [hcl] at hv
              obtain ⟨d, hA, hB⟩ := hv.elim
              cases c with
              | true =>
                rw [if_pos rfl]
                refine done _ (vcW_sound h (hA rfl)) (vcW_defer (hA rfl)) ?_
                rintro d' L' v μ' w' ⟨rfl, rfl⟩ hr hd hu hs
                exact hn μ' _ L' _ w' hB (h.step hs hr (.when true d' v (fun _ => hd) (fun e => by cases e)) (by simpa [DV.under] using hu) hN) hs
              | false =>
                rw [if_neg (by simp)]
                refine ⟨fun _ _ => trivial, ?_⟩
                exact hn μ _ L _ w hB (h.step hs0 h.hr (.when false d undef (fun e => by cases e) (fun _ => rfl)) (by simp [DV.under]) hN) hs0
            | false =>
              rw [hcl] at hv
              cases c with
              | true =>
                rw [if_pos rfl]
                exact (done _ (vcW_sound h (hv.1 rfl)) (vcW_defer (hv.1 rfl)) fun d L' v μ' w' hK hr hd hu hs => hn μ' _ L' _ w' hK (h.step hs hr hd hu hN) hs)
              | false =>
                rw [if_neg (by simp)]
                refine ⟨fun _ _ => trivial, ?_⟩
                exact hn μ _ L _ w (hv.2 rfl) (h.step hs0 h.hr (.tup [] [] rfl (fun i d v hd _ => by simp at hd)) rfl hN) hs0

theorem ops_sound {ops : Array Oper} {dr : Bool} {Q : Exit → Act → World → Prop} {K : Env → DH → Prop} {L0 : DH} {μ0 : Nat → Loc} {ws : World}
    (hQ : ∀ μ e L a w, K e L → Sim F M w0 N μ e L a w → Stp L0 μ0 ws L μ w → Q .normal a w) (hX : ∀ μ e L a w, Sim F M w0 N μ e L a w → Stp L0 μ0 ws L μ w → QX M w0 μ L w Q a) {r : Option Nat} :
    ∀ (l : List Oper) (k : Nat) (e : Env) (L : DH) (μ : Nat → Loc) (a : Act) (w : World), (∀ j, l[j]? = ops[k + j]?) → vcOps P M w0 dr N ops.toList l e L K → Sim F M w0 N μ e L a w → Stp L0 μ0 ws L μ w →
      wpOpsIn (fR r) 0 P ops Q (List.range' k l.length) a w
  | [], k, e, L, μ, a, w, _, hv, h, hs => hQ μ e L a w hv h hs
  | o :: l, k, e, L, μ, a, w, hl, hv, h, hs => by
    have hk : ops[k]? = some o := by simpa using (hl 0).symm
    simp only [List.length_cons, List.range'_succ]
    rw [wpOpsIn_cons]
    refine step_sound hk hv h (fun μ' e' L' a' w' hK h' hs' => ?_) (hX μ e L a w h hs)
    exact ops_sound hQ hX l (k + 1) e' L' μ' a' w' (fun j => by have := hl (j + 1); simpa [Nat.add_assoc, Nat.add_comm 1 j] using this) hK h' (hs.trans hs')

/-- What is known at an exit. -/
def Lift (F : Fx) (M : Nat → Prop) (w0 : W0) (N : NB) (lo base : Nat) (μ0 : Nat → Loc) (L0 : DH) (ws : World) (Q : Exit → Env → DH → Prop) (x : Exit) (a : Act) (w : World) : Prop :=
  match x with
  | .panic chain => (F.bd = none → a.defers = F.ds) ∧ (∀ t, t < N.b → a.tmps.getD t undef = F.tm t) ∧ ∃ v μ L, chain = [{ v := v, recovered := false }] ∧ w0.X v L ∧ HR M w0 μ L w ∧ Stp L0 μ0 ws L μ w
  | x => ∃ μ e L, Sim F M w0 N μ e L a w ∧ Stp L0 μ0 ws L μ w ∧ L.lo = lo ∧ L.base = base ∧ Q x e L
theorem Lift.out {lo base : Nat} {μ0 : Nat → Loc} {L0 : DH} {ws : World} {Q : Exit → Env → DH → Prop} {μ : Nat → Loc} {e : Env} {L : DH} {a : Act} {w w' : World} {v : Value} (h : Sim F M w0 N μ e L a w) (hs : Stp L0 μ0 ws L μ w) (ho : OutX M w0 μ L w v w') : Lift F M w0 N lo base μ0 L0 ws Q (.panic [{ v := v, recovered := false }]) a w' := by
  obtain ⟨μ', L', h1, h2, h3⟩ := ho
  refine ⟨fun hb => ?_, h.fix, v, μ', L', rfl, h1, h2, hs.trans h3⟩
  have := h.defers
  rw [Mks, hb] at this
  exact this

theorem region_sound {id : Nat} {ops : Array Oper} {Q : Exit → Env → DH → Prop} {lo base : Nat} {L0 : DH} {μ0 : Nat → Loc} {ws : World} {e : Env} {L : DH} {μ : Nat → Loc} {a : Act} {w : World}
    (hv : vcOps P M w0 false N ops.toList ops.toList e L (Q .normal)) (h : Sim F M w0 N μ e L a w) (hs : Stp L0 μ0 ws L μ w) (hlo : L.lo = lo) (hb : L.base = base) {r : Option Nat} :
    (Code.region id ops false).wpIn (fR r) 0 P (Lift F M w0 N lo base μ0 L0 ws Q) a w := by
  refine wpIn_region ?_
  have h1 : L0.lo = lo := by rw [← hlo, hs.lo]
  have h2 : L0.base = base := by rw [← hb, hs.base]
  have := ops_sound (r := r) (P := P) (ops := ops) (dr := false) (Q := Lift F M w0 N lo base μ0 L0 ws Q) (K := Q .normal) (L0 := L0) (μ0 := μ0) (ws := ws) (fun μ e L a w hK h hs => ⟨μ, e, L, h, hs, by rw [hs.lo, h1], by rw [hs.base, h2], hK⟩) (fun μ e L a w h hs v w' ho => Lift.out h hs ho) ops.toList 0 e L μ a w (fun j => by simp) hv h hs
  rw [Array.length_toList] at this
  rw [List.range_eq_range']
  exact this

/-- The mark of where a call begins tells nothing of values. -/
theorem RelV.base {T : Nat → Prop} {w : World} {μ : Nat → Loc} {L : DH} {d : DV} {v : Value} (h : RelV T w μ L d v) (b : Nat) : RelV T w μ { L with base := b } d v := by
  induction h with
  | pv p v h => exact .pv p v h
  | e0 a => exact .e0 a
  | agg l vs h1 _ ih => exact .agg l vs h1 ih
  | tup l vs h1 _ ih => exact .tup l vs h1 ih
  | ref k c v h1 h2 => exact .ref k c v h1 h2
  | aref k n i c v h1 h2 h3 => exact .aref k n i c v h1 h2 h3
  | eptr p c b off val h1 h2 h3 h4 => exact .eptr p c b off val h1 h2 h3 h4
  | buf k n v h1 h2 h3 => exact .buf k n v h1 h2 h3
  | mp k v h1 h2 => exact .mp k v h1 h2
  | vbuf k n v h1 h2 => exact .vbuf k n v h1 h2
  | rbuf k n v h1 h2 => exact .rbuf k n v h1 h2
  | clo f first caps fs cs h1 h2 _ _ ih1 ih2 => exact .clo f first caps fs cs h1 h2 ih1 ih2
  | when c d v _ h2 ih => exact .when c d v ih h2
  | fnv v => exact .fnv v
  | raw v => exact .raw v
  | any v => exact .any v

/-! a state taken for a poorer one -/

theorem envOf_mem {E : List (Nat × DV)} {t : Nat} : envOf E t = .any ∨ ∃ q, q ∈ E ∧ q.1 = t ∧ envOf E t = q.2 := by
  induction E with
  | nil => exact .inl rfl
  | cons q r ih =>
    obtain ⟨u, d⟩ := q
    simp only [envOf]
    cases hb : Nat.beq t u with
    | true => exact .inr ⟨(u, d), by simp, (Nat.eq_of_beq_eq_true hb).symm, rfl⟩
    | false =>
      rcases ih with ih | ⟨q, h1, h2, h3⟩
      · exact .inl ih
      · exact .inr ⟨q, by simp [h1], h2, h3⟩
theorem objsOf_mem {H : List (Nat × DObj)} {k : Nat} {o : DObj} (h : objsOf H k = some o) : (k, o) ∈ H := by
  induction H with
  | nil => simp [objsOf] at h
  | cons q r ih =>
    obtain ⟨u, d⟩ := q
    simp only [objsOf] at h
    cases hb : Nat.beq k u with
    | true => rw [hb] at h; simp at h; rw [Nat.eq_of_beq_eq_true hb, h]; simp
    | false => rw [hb] at h; simp at h; simp [ih h]

def newμ (L : DH) (μ : Nat → Loc) : Nat → Loc := fun k => match L.get k with | some _ => μ k | none => ⟨0, 0⟩
theorem newμ_old {L : DH} {μ : Nat → Loc} {k : Nat} {o : DObj} (h : L.get k = some o) : newμ L μ k = μ k := by simp [newμ, h]
theorem newμ_new {L : DH} {μ : Nat → Loc} {k : Nat} (h : L.get k = none) : newμ L μ k = ⟨0, 0⟩ := by simp [newμ, h]

section weak
variable {L : DH} {μ : Nat → Loc} {w : World} {e : Env} {E : List (Nat × DV)} {nx : Nat} {H : List (Nat × DObj)}

theorem Wk.old (hk : Wk e L E nx H) {k : Nat} {o' : DObj} (h : objsOf H k = some o') : (∃ o, L.get k = some o ∧ (o = o' ∨ (∃ cs cs', o = .var cs ∧ o' = .var cs') ∨ ∃ sz es, o = .arr sz es ∧ o' = .fz es ∧ ∀ q, q ∈ es → q.cells.length = sz)) ∨ (L.get k = none ∧ L.next ≤ k ∧ ∃ sz, o' = .arr sz []) := by
  have hm := objsOf_mem h
  have ho := hk.obj _ hm
  generalize hkk : (k, o').1 = k2 at ho
  generalize hoo : (k, o').2 = o2 at ho
  simp only at hkk hoo
  subst hkk; subst hoo
  cases ho with
  | same _ h1 => exact .inl ⟨_, h1, .inl rfl⟩
  | new sz h1 => exact .inr ⟨h1, hk.new _ hm h1, sz, rfl⟩
  | var cs cs' h1 h2 h3 => exact .inl ⟨_, h1, .inr (.inl ⟨cs, cs', rfl, rfl⟩)⟩
  | fz sz es h1 h2 => exact .inl ⟨_, h1, .inr (.inr ⟨sz, es, rfl, rfl, h2⟩)⟩

theorem Wk.tot (hk : Wk e L E nx H) {b : Nat} (h : Tot M (newμ L μ) (hOf L nx H) b) : Tot M μ L b := by
  rcases h with h | ⟨k, o, h1, h2, h3⟩
  · exact .inl h
  · rcases hk.old h1 with ⟨o1, g1, g2⟩ | ⟨g1, _, sz, rfl⟩
    · rw [newμ_old g1] at h2 h3
      refine .inr ⟨k, o1, g1, ?_, h3⟩
      rcases g2 with rfl | ⟨cs, cs', rfl, rfl⟩ | ⟨sz, es, rfl, rfl, _⟩
      · exact h2
      · trivial
      · exact h2.elim
    · rw [newμ_new g1] at h2
      exact absurd rfl h2

theorem Wk.rel_same (_h : HR M w0 μ L w) (hk : Wk e L E nx H) {d : DV} {v : Value} (hr : RelV (Tot M μ L) w μ L d v) (hu : d.under L.next = true) : RelV (Tot M (newμ L μ) (hOf L nx H)) w (newμ L μ) (hOf L nx H) d v := by
  have hsub : ∀ b, Tot M (newμ L μ) (hOf L nx H) b → Tot M μ L b := fun b hb => hk.tot hb
  induction hr with
  | pv p v h => exact .pv p v (h.sub hsub)
  | e0 a => exact .e0 a
  | agg l vs h1 _ ih => simp only [DV.under] at hu; exact .agg l vs h1 fun i d v hi hv => ih i d v hi hv (unders_iff.1 hu i d hi)
  | tup l vs h1 _ ih => simp only [DV.under] at hu; exact .tup l vs h1 fun i d v hi hv => ih i d v hi hv (unders_iff.1 hu i d hi)
  | ref k c v h1 h2 =>
    simp only [DV.under, blt_iff] at hu
    refine .ref k c v h1 fun cs hc => ?_
    rcases hk.old hc with ⟨o1, g1, g2⟩ | ⟨g1, g3, _⟩
    · rw [newμ_old g1]
      rcases g2 with rfl | ⟨cs0, cs', rfl, _⟩ | ⟨sz, es, rfl, e, _⟩
      · exact h2 cs g1
      · exact h2 cs0 g1
      · cases e
    · omega
  | aref k n i c v h1 h2 h3 =>
    simp only [DV.under, blt_iff] at hu
    refine .aref k n i c v h1 (fun sz es hc => ?_) (fun es hc => ?_)
    · rcases hk.old hc with ⟨o1, g1, g2⟩ | ⟨g1, g3, _⟩
      · rw [newμ_old g1]
        rcases g2 with rfl | ⟨_, _, _, e⟩ | ⟨_, _, _, e, _⟩
        · exact h2 sz es g1
        · cases e
        · cases e
      · omega
    · rcases hk.old hc with ⟨o1, g1, g2⟩ | ⟨g1, g3, _⟩
      · rw [newμ_old g1]
        rcases g2 with rfl | ⟨_, _, _, e⟩ | ⟨sz, es', rfl, e, hq⟩
        · exact h3 es g1
        · cases e
        · cases e
          obtain ⟨q1, q2⟩ := h2 sz es g1
          refine ⟨q1, fun hn p hp => ⟨sz, hq, q2 hn ?_⟩⟩
          have := getE_lt hp
          omega
      · omega
  | eptr p c b off val h1 h2 h3 h4 => exact .eptr p c b off val (fun hb => h1 (hsub b hb)) h2 h3 fun j q hj => (h4 j q hj).sub hsub
  | buf k n v h1 h2 h3 =>
    simp only [DV.under, blt_iff] at hu
    refine .buf k n v h1 (fun sz es hc => ?_) (fun es hc => ?_)
    · rcases hk.old hc with ⟨o1, g1, g2⟩ | ⟨g1, g3, _⟩
      · rw [newμ_old g1]
        rcases g2 with rfl | ⟨_, _, _, e⟩ | ⟨_, _, _, e, _⟩
        · exact h2 sz es g1
        · cases e
        · cases e
      · omega
    · rcases hk.old hc with ⟨o1, g1, g2⟩ | ⟨g1, g3, _⟩
      · rw [newμ_old g1]
        rcases g2 with rfl | ⟨_, _, _, e⟩ | ⟨sz, es', rfl, e, hq⟩
        · exact h3 es g1
        · cases e
        · cases e; exact h2 sz es g1
      · omega
  | vbuf k n v h1 h2 =>
    simp only [DV.under, blt_iff] at hu
    refine .vbuf k n v h1 fun cs hc => ?_
    rcases hk.old hc with ⟨o1, g1, g2⟩ | ⟨g1, g3, _⟩
    · rw [newμ_old g1]
      rcases g2 with rfl | ⟨cs0, cs', rfl, _⟩ | ⟨sz, es, rfl, e, _⟩
      · exact h2 cs g1
      · exact h2 cs0 g1
      · cases e
    · omega
  | rbuf k n v h1 h2 =>
    simp only [DV.under, blt_iff] at hu
    refine .rbuf k n v h1 fun ds hc => ?_
    rcases hk.old hc with ⟨o1, g1, g2⟩ | ⟨g1, g3, _⟩
    · rw [newμ_old g1]
      rcases g2 with rfl | ⟨_, _, _, e⟩ | ⟨_, _, _, e, _⟩
      · exact h2 ds g1
      · cases e
      · cases e
    · omega
  | mp k v h1 h2 =>
    simp only [DV.under, blt_iff] at hu
    refine .mp k v h1 fun es hc => ?_
    rcases hk.old hc with ⟨o1, g1, g2⟩ | ⟨g1, g3, _⟩
    · rw [newμ_old g1]
      rcases g2 with rfl | ⟨_, _, _, e⟩ | ⟨_, _, _, e, _⟩
      · exact h2 es g1
      · cases e
      · cases e
    · omega
  | clo f first caps fs cs h1 h2 _ _ ih1 ih2 =>
    simp only [DV.under, Bool.and_eq_true] at hu
    exact .clo f first caps fs cs h1 h2 (fun i d v hi hv => ih1 i d v hi hv (unders_iff.1 hu.1 i d hi)) (fun i d v hi hv => ih2 i d v hi hv (unders_iff.1 hu.2 i d hi))
  | when c d v _ h2 ih => exact .when c d v (fun hc => ih hc (by simpa [DV.under, hc] using hu)) h2
  | fnv v => exact .fnv v
  | raw v => exact .raw v
  | any v => exact .any v

theorem Wk.rel (h : HR M w0 μ L w) (hk : Wk e L E nx H) {d d' : DV} {v : Value} (hd : WkD L H d d') (hr : RelV (Tot M μ L) w μ L d v) (hu : d.under L.next = true) : RelV (Tot M (newμ L μ) (hOf L nx H)) w (newμ L μ) (hOf L nx H) d' v := by
  cases hd with
  | same => exact hk.rel_same h hr hu
  | any => exact .any v
  | new _ k sz h1 h2 h3 =>
    obtain ⟨ad, rfl⟩ : ∃ ad, v = .slice ad 0 0 := by
      rcases h1 with rfl | rfl
      · exact ⟨none, pvN hr⟩
      · cases hr; exact ⟨_, rfl⟩
    refine .buf k 0 _ ⟨_, _, rfl, fun h => absurd h (Nat.lt_irrefl 0)⟩ (fun sz' es hc => ?_) (fun es hc => ?_)
    · exact ⟨Nat.zero_le _, fun _ => .inl ⟨by rw [newμ_new h2], rfl, ad, rfl⟩⟩
    · have : objsOf H k = some (.fz es) := hc
      rw [h3] at this; cases this
  | fz k n es h1 h2 h3 =>
    refine .pv _ _ ?_
    rcases h2 with ⟨sz, h2⟩ | h2
    · refine buf_relP h h2 hr h3 (fun hc => ?_) (fun b hb => hk.tot hb)
      rintro (hM | ⟨j, o, g1, g2, g3⟩)
      · exact (h.live k _ h2 hc).2.1 hM
      · rcases hk.old g1 with ⟨o1, q1, q2⟩ | ⟨q1, _, sz', rfl⟩
        · rw [newμ_old q1] at g2 g3
          have hlv : liveAt (μ j) o1 := by
            rcases q2 with rfl | ⟨_, _, rfl, rfl⟩ | ⟨_, _, rfl, rfl, _⟩
            · exact g2
            · trivial
            · exact g2.elim
          have := h.inj j o1 k _ q1 hlv h2 hc g3
          subst this
          have g1' : objsOf H j = some o := g1
          rw [h1] at g1'; cases g1'
        · rw [newμ_new q1] at g2; exact absurd rfl g2
    · exact (fz_relP h h2 hr h3).sub fun b hb => hk.tot hb
  | nil _ h1 =>
    refine .pv _ _ ?_
    rcases h1 with rfl | rfl
    · rw [pvN hr]; exact .e0 _ _
    · cases hr; exact .e0 _ _

theorem Wk.heap (h : HR M w0 μ L w) (hk : Wk e L E nx H) : HR M w0 (newμ L μ) (hOf L nx H) w where
  ext := h.ext
  mlt := h.mlt
  keys := fun k o ho => by
    have hm := objsOf_mem ho
    have := hk.undero _ hm
    exact ⟨by show k < nx; simpa [Nat.blt_eq] using this.1, this.2⟩
  live := fun k o ho hl => by
    rcases hk.old ho with ⟨o1, g1, g2⟩ | ⟨g1, _, sz, rfl⟩
    · rw [newμ_old g1] at hl ⊢
      refine h.live k o1 g1 ?_
      rcases g2 with rfl | ⟨_, _, rfl, rfl⟩ | ⟨_, _, rfl, rfl, _⟩
      · exact hl
      · trivial
      · exact hl.elim
    · rw [newμ_new g1] at hl; exact absurd rfl hl
  inj := fun k o k' o' ho hl ho' hl' he => by
    have lv : ∀ k o, (hOf L nx H).get k = some o → liveAt (newμ L μ k) o → ∃ o1, L.get k = some o1 ∧ liveAt (μ k) o1 ∧ newμ L μ k = μ k := by
      intro k o ho hl
      rcases hk.old ho with ⟨o1, g1, g2⟩ | ⟨g1, _, sz, rfl⟩
      · rw [newμ_old g1] at hl ⊢
        refine ⟨o1, g1, ?_, rfl⟩
        rcases g2 with rfl | ⟨_, _, rfl, rfl⟩ | ⟨_, _, rfl, rfl, _⟩
        · exact hl
        · trivial
        · exact hl.elim
      · rw [newμ_new g1] at hl; exact absurd rfl hl
    obtain ⟨o1, a1, a2, a3⟩ := lv k o ho hl
    obtain ⟨o2, b1, b2, b3⟩ := lv k' o' ho' hl'
    exact h.inj k o1 k' o2 a1 a2 b1 b2 (by rw [← a3, ← b3]; exact he)
  obj := fun k o ho => by
    have hm := objsOf_mem ho
    have hob := hk.obj _ hm
    simp only at hob
    have hsub : ∀ b, Tot M (newμ L μ) (hOf L nx H) b → Tot M μ L b := fun b hb => hk.tot hb
    cases hob with
    | same _ h1 =>
      have := h.obj k o h1
      cases o with
      | var cs =>
        obtain ⟨vs, ty, q1, q2, q3⟩ := this
        exact ⟨vs, ty, by rw [newμ_old h1]; exact q1, q2, fun i d v hi hv => hk.rel_same h (q3 i d v hi hv) (unders_iff.1 (h.keys k _ h1).2 i d hi)⟩
      | arr sz es =>
        rcases this with ⟨q1, q2⟩ | ⟨vs, ty, q0, q1, q2, q3, q4, q5⟩
        · exact .inl ⟨by rw [newμ_old h1]; exact q1, q2⟩
        · refine .inr ⟨vs, ty, by rw [newμ_old h1]; exact q0, by rw [newμ_old h1]; exact q1, by rw [newμ_old h1]; exact q2, by rw [newμ_old h1]; exact q3, q4, fun i p j q hi hj => ?_⟩
          obtain ⟨v, hv, hr⟩ := q5 i p j q hi hj
          exact ⟨v, hv, hr.sub hsub⟩
      | fz l =>
        rcases this with ⟨q1, q2⟩ | ⟨q1, q2, q3⟩
        · exact .inl ⟨by rw [newμ_old h1]; exact q1, q2⟩
        · exact .inr ⟨by rw [newμ_old h1]; exact q1, by rw [newμ_old h1]; exact q2, by rw [newμ_old h1]; exact q3.sub hsub⟩
      | row ds =>
        rcases this with ⟨q1, q2⟩ | ⟨vs, ty, q0, q1, q2, q3, q4⟩
        · exact .inl ⟨by rw [newμ_old h1]; exact q1, q2⟩
        · exact .inr ⟨vs, ty, by rw [newμ_old h1]; exact q0, by rw [newμ_old h1]; exact q1, by rw [newμ_old h1]; exact q2, by rw [newμ_old h1]; exact q3, fun i d v hi hv => hk.rel_same h (q4 i d v hi hv) (unders_iff.1 (h.keys k _ h1).2 i d hi)⟩
      | gone => trivial
      | mp es =>
        obtain ⟨ents, clock, q1, q2, q3⟩ := this
        exact ⟨ents, clock, by rw [newμ_old h1]; exact q1, q2, fun i kv e hi he => ⟨(q3 i kv e hi he).1.sub hsub, (q3 i kv e hi he).2.sub hsub⟩⟩
    | new sz h1 => exact .inl ⟨by rw [newμ_new h1], rfl⟩
    | var cs cs' h1 h2 h3 =>
      obtain ⟨vs, ty, q1, q2, q3⟩ := h.obj k _ h1
      refine ⟨vs, ty, by rw [newμ_old h1]; exact q1, by omega, fun i d v hi hv => ?_⟩
      have hlt := getE_lt hi
      have hci : cs[i]? = some (cs[i]'(by omega)) := List.getElem?_eq_getElem (by omega)
      exact hk.rel h (h3 i _ d hci hi) (q3 i _ v hci hv) (unders_iff.1 (h.keys k _ h1).2 i _ hci)
    | fz sz es h1 h2 =>
      rcases h.obj k _ h1 with ⟨q1, q2⟩ | ⟨vs, ty, q0, q1, q2, q3, q4, q5⟩
      · exact .inl ⟨by rw [newμ_old h1]; exact q1, q2⟩
      · refine .inr ⟨by rw [newμ_old h1]; exact q2, by rw [newμ_old h1]; exact q0, ?_⟩
        rw [newμ_old h1]
        refine arr_relP h h1 q0 ?_ hsub
        rintro (hM | ⟨j, o, g1, g2, g3⟩)
        · exact (h.live k _ h1 q0).2.1 hM
        · rcases hk.old g1 with ⟨o1, r1, r2⟩ | ⟨r1, _, sz', rfl⟩
          · rw [newμ_old r1] at g2 g3
            have hlv : liveAt (μ j) o1 := by
              rcases r2 with rfl | ⟨_, _, rfl, rfl⟩ | ⟨_, _, rfl, rfl, _⟩
              · exact g2
              · trivial
              · exact g2.elim
            have := h.inj j o1 k _ r1 hlv h1 q0 g3
            subst this
            have ho' : objsOf H j = some (.fz es) := ho
            have g1' : objsOf H j = some o := g1
            rw [ho'] at g1'; cases g1'
            exact g2
          · rw [newμ_new r1] at g2; exact absurd rfl g2
  base := hk.base
  lob := hk.lo
  glb := h.glb

theorem Wk.stp (_h : HR M w0 μ L w) (hk : Wk e L E nx H) {L0 : DH} {μ0 : Nat → Loc} {ws : World} (hs : Stp L0 μ0 ws L μ w) (hb : L0.next ≤ nx) : Stp L0 μ0 ws (hOf L nx H) (newμ L μ) w := by
  have h0 : L0.next ≤ L.next := hs.next
  refine ⟨⟨?_, ?_, ?_, ?_, ?_⟩, hs.os, hs.tape, hs.output, hs.size, hs.same, ?_, hb, hs.lo, hs.base⟩
  · intro k cs' hkl hc
    rcases hk.old hc with ⟨o1, g1, g2⟩ | ⟨g1, g3, sz, e⟩
    · rw [newμ_old g1]
      rcases g2 with rfl | ⟨cs, _, rfl, _⟩ | ⟨_, _, _, e, _⟩
      · exact hs.evo.var k _ hkl g1
      · exact hs.evo.var k _ hkl g1
      · cases e
    · cases e
  · intro k es' hkl hc
    rcases hk.old hc with ⟨o1, g1, g2⟩ | ⟨g1, g3, sz, e⟩
    · rw [newμ_old g1]
      rcases g2 with rfl | ⟨_, _, _, e⟩ | ⟨_, _, _, e, _⟩
      · exact hs.evo.mp k _ hkl g1
      · cases e
      · cases e
    · cases e
  · intro k sz es' hkl hc
    rcases hk.old hc with ⟨o1, g1, g2⟩ | ⟨g1, g3, _⟩
    · rw [newμ_old g1]
      rcases g2 with rfl | ⟨_, _, _, e⟩ | ⟨_, _, _, e, _⟩
      · exact hs.evo.arr k _ _ hkl g1
      · cases e
      · cases e
    · omega
  · intro k es' hkl hc
    rcases hk.old hc with ⟨o1, g1, g2⟩ | ⟨g1, g3, sz, e⟩
    · rw [newμ_old g1]
      rcases g2 with rfl | ⟨_, _, _, e⟩ | ⟨sz, es, rfl, e, hq⟩
      · exact hs.evo.fz k _ hkl g1
      · cases e
      · cases e
        obtain ⟨es0, r1, r2⟩ := hs.evo.arr k sz es' hkl g1
        exact .inr ⟨sz, es0, r1, hq, r2⟩
    · cases e
  · intro k ds' hkl hc
    rcases hk.old hc with ⟨o1, g1, g2⟩ | ⟨g1, g3, sz, e⟩
    · rw [newμ_old g1]
      rcases g2 with rfl | ⟨_, _, _, e⟩ | ⟨_, _, _, e, _⟩
      · exact hs.evo.row k _ hkl g1
      · cases e
      · cases e
    · cases e
  · intro k o ho hl
    rcases hk.old ho with ⟨o1, g1, g2⟩ | ⟨g1, _, sz, rfl⟩
    · rw [newμ_old g1] at hl ⊢
      refine hs.blk k o1 g1 ?_
      rcases g2 with rfl | ⟨_, _, rfl, rfl⟩ | ⟨_, _, rfl, rfl, _⟩
      · exact hl
      · trivial
      · exact hl.elim
    · rw [newμ_new g1] at hl; exact absurd rfl hl

theorem Wk.sim {a : Act} (h : Sim F M w0 N μ e L a w) (hk : Wk e L E nx H) : Sim F M w0 N (newμ L μ) (envOf E) (hOf L nx H) a w where
  hr := hk.heap h.hr
  env := fun t => by
    rcases envOf_mem (E := E) (t := t) with he | ⟨q, h1, rfl, he⟩
    · rw [he]; exact .any _
    · rw [he]; exact hk.rel h.hr (hk.env q h1) (h.env q.1) (h.und q.1)
  und := fun t => by
    rcases envOf_mem (E := E) (t := t) with he | ⟨q, h1, rfl, he⟩
    · rw [he]; rfl
    · rw [he]; exact hk.under q h1
  defers := h.defers
  size := h.size
  fix := h.fix
end weak
end
end Go.Dv
namespace Go.Dv
section
variable {P : Program} {M : Nat → Prop} {w0 : W0}

theorem ldCells_det {t : TypeId} {cs : List DV} {c : Nat} {K : DV → Prop} (h : ldCells P t cs c K) : ∃ d, K d ∧ ∀ K' : DV → Prop, K' d → ldCells P t cs c K' := by
  unfold ldCells at *
  split at h
  · split at h
    · exact ⟨_, h, fun K' h' => h'⟩
    · exact h.elim
  · split at h
    · exact ⟨_, h, fun K' h' => h'⟩
    · exact h.elim
  · exact h.elim

mutual
theorem pur_det : ∀ (d : DV) (K : PV → Prop), pur d K → ∃ p, K p ∧ ∀ K' : PV → Prop, K' p → pur d K'
  | .pv p, K => fun h => ⟨p, h, fun _ h' => h'⟩
  | .e0, K => fun h => ⟨_, h, fun _ h' => h'⟩
  | .agg l, K => fun h => by
    simp only [pur] at h ⊢
    obtain ⟨ps, h1, h2⟩ := purs_det l _ h
    exact ⟨_, h1, fun K' h' => h2 (fun ps => K' (.agg ps)) h'⟩
  | .tup l, K => fun h => by
    simp only [pur] at h ⊢
    obtain ⟨ps, h1, h2⟩ := purs_det l _ h
    exact ⟨_, h1, fun K' h' => h2 (fun ps => K' (.tup ps)) h'⟩
  | .ref _ _, _ => fun h => by simp [pur] at h
  | .aref _ _ _ _, _ => fun h => by simp [pur] at h
  | .eptr _ _, _ => fun h => by simp [pur] at h
  | .buf _ _, _ => fun h => by simp [pur] at h
  | .mp _, _ => fun h => by simp [pur] at h
  | .vbuf _ _, _ => fun h => by simp [pur] at h
  | .rbuf _ _, _ => fun h => by simp [pur] at h
  | .clo _ _ _, _ => fun h => by simp [pur] at h
  | .fnv _, _ => fun h => by simp [pur] at h
  | .when _ _, _ => fun h => by simp [pur] at h
  | .raw _, _ => fun h => by simp [pur] at h
  | .any, _ => fun h => by simp [pur] at h
theorem purs_det : ∀ (l : List DV) (K : List PV → Prop), purs l K → ∃ ps, K ps ∧ ∀ K' : List PV → Prop, K' ps → purs l K'
  | [], K => fun h => ⟨[], h, fun _ h' => h'⟩
  | d :: r, K => fun h => by
    simp only [purs] at h ⊢
    obtain ⟨p, h1, h2⟩ := pur_det d _ h
    obtain ⟨ps, h3, h4⟩ := purs_det r _ h1
    exact ⟨_, h3, fun K' h' => h2 (fun p => purs r fun ps => K' (p :: ps)) (h4 (fun ps => K' (p :: ps)) h')⟩
end

theorem pickV_det {t : Bool} {a b : DV} {K : DV → Prop} (h : pickV t a b K) : ∃ d, K d ∧ ∀ K' : DV → Prop, K' d → pickV t a b K' := by
  unfold pickV at *
  split at h
  · exact ⟨_, h, fun K' h' => h'⟩
  · exact ⟨_, h.2, fun K' h' => ⟨h.1, h'⟩⟩
  · exact ⟨_, h.2, fun K' h' => ⟨h.1, h'⟩⟩
  · exact ⟨_, h.2.2, fun K' h' => ⟨h.1, h.2.1, h'⟩⟩
  · exact h.elim

theorem vcInt_det {op : BinOp} {k k' : IntKind} {a b : Int} {K : DV → Prop} (h : vcInt op k a k' b K) : ∃ d, K d ∧ ∀ K' : DV → Prop, K' d → vcInt op k a k' b K' := by
  unfold vcInt at *
  cases op <;> simp only at h ⊢
  case shl => exact ⟨_, h.2, fun K' h' => ⟨h.1, h'⟩⟩
  case shr => exact ⟨_, h.2, fun K' h' => ⟨h.1, h'⟩⟩
  all_goals
    split at h
    · exact h.elim
    · first
      | exact ⟨_, h.2, fun K' h' => ⟨h.1, h'⟩⟩
      | exact ⟨_, h, fun K' h' => h'⟩
      | exact h.elim

theorem vcBin_det {op : BinOp} {t : TypeId} {x y : DV} {K : DV → Prop} (h : vcBin P op t x y K) : ∃ d, K d ∧ ∀ K' : DV → Prop, K' d → vcBin P op t x y K' := by
  unfold vcBin at *
  split at h
  · exact vcInt_det h
  · split at h
    · cases op <;> first | exact h.elim | exact ⟨_, h, fun K' h' => by simp [*]⟩
    · exact h.elim
  · cases op <;> first | exact h.elim | exact ⟨_, h.2, fun K' h' => ⟨h.1, h'⟩⟩ | exact ⟨_, h, fun K' h' => h'⟩
  · rename_i xs ys
    obtain ⟨ps, h1, h2⟩ := purs_det _ _ h
    obtain ⟨qs, h3, h4⟩ := purs_det _ _ h1
    obtain ⟨g1, g2, g3, g4⟩ := h3
    cases op <;> first | exact g4.elim | exact ⟨_, g4, fun K' h' => h2 (fun ps => purs ys fun qs => _ ∧ _ ∧ _ ∧ K' _) (h4 (fun qs => _ ∧ _ ∧ _ ∧ K' _) ⟨g1, g2, g3, h'⟩)⟩
  · split at h
    · cases op <;> first | exact h.elim | exact ⟨_, h, fun K' h' => by simp [*]⟩
    · exact h.elim
  · split at h
    · cases op <;> first | exact h.elim | exact ⟨_, h, fun K' h' => by simp [*]⟩
    · exact h.elim
  · obtain ⟨h0, h⟩ := h
    split at h
    · cases op <;> first | exact h.elim | exact ⟨_, h, fun K' h' => by simp [*]⟩
    · exact h.elim
  · split at h
    · rename_i hf
      cases op <;> first | exact h.elim | exact ⟨_, h, fun K' h' => by first | exact h' | (rw [hf]; exact h') | (simp only []; exact h')⟩
    · exact h.elim
  · split at h
    · rename_i hf
      cases op <;> first | exact h.elim | exact ⟨_, h, fun K' h' => by first | exact h' | (rw [hf]; exact h') | (simp only []; exact h')⟩
    · exact h.elim
  · split at h
    · rename_i hf
      cases op <;> first | exact h.elim | exact ⟨_, h, fun K' h' => by first | exact h' | (rw [hf]; exact h') | (simp only []; exact h')⟩
    · exact h.elim
  · exact h.elim

variable {ρ : Operand → DV} {L : DH} {o : Oper} {K : DV → DH → Prop}

theorem det0 (hc : opCls o.op = 0) (h : vcOp P M w0 true ρ L o K) : ∃ d, K d L ∧ ∀ (L' : DH) (K' : DV → DH → Prop), K' d L' → vcOp P M w0 true ρ L' o K' := by
  cases ho : o.op <;> simp only [ho, opCls] at hc <;> try (cases hc; done)
  case call => split at hc <;> cases hc
  all_goals (try simp only [vcOp, ho] at h ⊢)
  case move => exact ⟨_, h, fun L' K' h' => h'⟩
  case assign => exact ⟨_, h, fun L' K' h' => h'⟩
  case pick => 
    split at h
    · obtain ⟨d, h1, h2⟩ := pickV_det h
      exact ⟨d, h1, fun L' K' h' => h2 (fun d => K' d L') h'⟩
    · obtain ⟨d, h1, h2⟩ := pickV_det h.2
      exact ⟨d, h1, fun L' K' h' => ⟨h.1, h2 (fun d => K' d L') h'⟩⟩
    · exact h.elim
  case build =>
    split at h
    · split at h
      · exact ⟨_, h, fun L' K' h' => h'⟩
      · exact h.elim
    · exact h.elim
  case buildSlice t n parts =>
    split at h
    · split at h
      · rename_i hx; cases hx
      · obtain ⟨ps, h1, h2⟩ := purs_det _ _ h
        cases n with
        | zero => exact ⟨_, h1.2, fun L' K' h' => h2 (fun ps => _ ∧ K' _ L') ⟨h1.1, h'⟩⟩
        | succ n => exact ⟨_, h1.2, fun L' K' h' => h2 (fun ps => _ ∧ K' _ L') ⟨h1.1, h'⟩⟩
      · exact h.elim
    · exact h.elim
  case binOp =>
    obtain ⟨d, h1, h2⟩ := vcBin_det h
    exact ⟨d, h1, fun L' K' h' => h2 (fun d => K' d L') h'⟩
  case unOp =>
    split at h
    · exact ⟨_, h, fun L' K' h' => h'⟩
    · exact ⟨_, h, fun L' K' h' => h'⟩
    · exact ⟨_, h, fun L' K' h' => h'⟩
    · exact h.elim
  case convert =>
    split at h
    · exact ⟨_, h, fun L' K' h' => h'⟩
    · exact ⟨_, h, fun L' K' h' => h'⟩
    · exact h.elim
  case index =>
    split at h
    · obtain ⟨n, b, h1, h2, h3⟩ := h
      exact ⟨_, h3, fun L' K' h' => ⟨n, b, h1, h2, h'⟩⟩
    · exact h.elim
  case makeFunc fn _ _ =>
    cases fn with
    | func f => simp only at h ⊢; exact ⟨_, h, fun L' K' h' => h'⟩
    | _ => simp only at h
  case makeInterface =>
    split at h
    · exact ⟨_, h, fun L' K' h' => h'⟩
    · exact h.elim
  case slice =>
    split at h
    · obtain ⟨h1, h2, a, b, h3, h4, h5, h6, h7⟩ := h
      exact ⟨_, h7, fun L' K' h' => ⟨h1, h2, a, b, h3, h4, h5, h6, h'⟩⟩
    · obtain ⟨h1, a, b, h3, h4, h5, h6, h7⟩ := h
      exact ⟨_, h7, fun L' K' h' => ⟨h1, a, b, h3, h4, h5, h6, h'⟩⟩
    · obtain ⟨h1, h3, h4, h5, h7⟩ := h
      exact ⟨_, h7, fun L' K' h' => ⟨h1, h3, h4, h5, h'⟩⟩
    · obtain ⟨h1, h3, h4, h5, h7⟩ := h
      exact ⟨_, h7, fun L' K' h' => ⟨h1, h3, h4, h5, h'⟩⟩
    · exact h.elim
  case field =>
    split at h
    · obtain ⟨d, h1, h2⟩ := ldCells_det h
      exact ⟨d, h1, fun L' K' h' => h2 (fun d => K' d L') h'⟩
    · exact h.elim
  case extract =>
    split at h
    · split at h
      · exact ⟨_, h, fun L' K' h' => h'⟩
      · exact h.elim
    · exact h.elim

/-- A heap with more in it. -/
def Ext (L L' : DH) : Prop := ∀ k o, L.get k = some o → L'.get k = some o
/-- Nothing lies at the keys that are free. -/
def Tidy (L : DH) : Prop := ∀ k, L.next ≤ k → L.get k = none
theorem Ext.refl (L : DH) : Ext L L := fun _ _ h => h
theorem Ext.trans {L L' L'' : DH} (h : Ext L L') (h' : Ext L' L'') : Ext L L'' := fun k o g => h' k o (h k o g)
theorem Ext.push {L : DH} (h : Tidy L) (o : DObj) : Ext L (L.push o) := by
  intro k x hk
  have hne : k ≠ L.next := fun e => by rw [h k (by omega)] at hk; cases hk
  have : Nat.beq k L.next = false := by
    cases hb : Nat.beq k L.next with
    | false => rfl
    | true => exact absurd (Nat.eq_of_beq_eq_true hb) hne
  simp only [DH.push, this, cond_false, hk]
theorem brw1_mono (d : DV) (L : DH) (K K' : PV → Prop) (hk : ∀ p, K p → K' p) (h : brw1 d L K) : brw1 d L K' := by
  cases d with
  | pv p => exact hk _ h
  | e0 => exact hk _ h
  | buf k n =>
    simp only [brw1] at h ⊢
    split at h
    · exact ⟨h.1, hk _ h.2⟩
    · exact ⟨h.1, hk _ h.2⟩
    · exact h.elim
  | _ => simp [brw1] at h
theorem brw1s_mono : ∀ (l : List DV) (L : DH) (K K' : List PV → Prop), (∀ p, K p → K' p) → brw1s l L K → brw1s l L K'
  | [], _, _, _ => fun hk h => hk _ h
  | d :: r, L, K, K' => fun hk h => by
    simp only [brw1s] at h ⊢
    exact brw1_mono d L _ _ (fun p h => brw1s_mono r L _ _ (fun _ h => hk _ h) h) h
theorem brw1_ext {L L' : DH} (hx : Ext L L') (d : DV) (K : PV → Prop) (h : brw1 d L K) : brw1 d L' K := by
  cases d with
  | pv p => exact h
  | e0 => exact h
  | buf k n =>
    simp only [brw1] at h ⊢
    split at h
    · rename_i heq; rw [hx _ _ heq]; exact h
    · rename_i heq; rw [hx _ _ heq]; exact h
    · exact h.elim
  | _ => simp [brw1] at h
theorem brw1s_ext {L L' : DH} (hx : Ext L L') : ∀ (l : List DV) (K : List PV → Prop), brw1s l L K → brw1s l L' K
  | [], _, h => h
  | d :: r, K, h => by simp only [brw1s] at h ⊢; exact brw1_mono d L' _ _ (fun p hp => brw1s_ext hx r _ hp) (brw1_ext hx d _ h)
mutual
theorem brw_mono : ∀ (d : DV) (L : DH) (K K' : PV → Prop), (∀ p, K p → K' p) → brw d L K → brw d L K'
  | .pv p, L, K, K' => fun hk h => hk _ h
  | .e0, L, K, K' => fun hk h => hk _ h
  | .buf k n, L, K, K' => fun hk h => by
    simp only [brw] at h ⊢
    split at h
    · exact ⟨h.1, hk _ h.2⟩
    · exact ⟨h.1, hk _ h.2⟩
    · exact h.elim
  | .agg l, L, K, K' => fun hk h => by
    simp only [brw] at h ⊢
    exact brws_mono l L _ _ (fun _ h => hk _ h) h
  | .tup l, L, K, K' => fun hk h => by
    simp only [brw] at h ⊢
    exact brws_mono l L _ _ (fun _ h => hk _ h) h
  | .ref _ _, _, _, _ => fun _ h => by simp [brw] at h
  | .aref _ _ _ _, _, _, _ => fun _ h => by simp [brw] at h
  | .eptr _ _, _, _, _ => fun _ h => by simp [brw] at h
  | .mp _, _, _, _ => fun _ h => by simp [brw] at h
  | .rbuf _ _, _, _, _ => fun _ h => by simp [brw] at h
  | .vbuf k n, L, K, K' => fun hk h => by
    simp only [brw] at h ⊢
    split at h
    · exact brw1s_mono _ L _ _ (fun _ h => ⟨h.1, h.2.1, hk _ h.2.2⟩) h
    · exact h.elim
  | .clo _ _ _, _, _, _ => fun _ h => by simp [brw] at h
  | .fnv _, _, _, _ => fun _ h => by simp [brw] at h
  | .when _ _, _, _, _ => fun _ h => by simp [brw] at h
  | .raw _, _, _, _ => fun _ h => by simp [brw] at h
  | .any, _, _, _ => fun _ h => by simp [brw] at h
theorem brws_mono : ∀ (l : List DV) (L : DH) (K K' : List PV → Prop), (∀ p, K p → K' p) → brws l L K → brws l L K'
  | [], L, K, K' => fun hk h => hk _ h
  | d :: r, L, K, K' => fun hk h => by
    simp only [brws] at h ⊢
    exact brw_mono d L _ _ (fun p h => brws_mono r L _ _ (fun _ h => hk _ h) h) h
end
mutual
theorem brw_ext {L L' : DH} (hx : Ext L L') : ∀ (d : DV) (K : PV → Prop), brw d L K → brw d L' K
  | .pv p, K, h => h
  | .e0, K, h => h
  | .buf k n, K, h => by
    simp only [brw] at h ⊢
    split at h
    · rename_i heq; rw [hx _ _ heq]; exact h
    · rename_i heq; rw [hx _ _ heq]; exact h
    · exact h.elim
  | .agg l, K, h => by simp only [brw] at h ⊢; exact brws_ext hx l _ h
  | .tup l, K, h => by simp only [brw] at h ⊢; exact brws_ext hx l _ h
  | .ref _ _, K, h => by simp [brw] at h
  | .aref _ _ _ _, K, h => by simp [brw] at h
  | .eptr _ _, K, h => by simp [brw] at h
  | .mp _, K, h => by simp [brw] at h
  | .rbuf _ _, K, h => by simp [brw] at h
  | .vbuf k n, K, h => by
    simp only [brw] at h ⊢
    split at h
    · rename_i heq; rw [hx _ _ heq]; exact brw1s_ext hx _ _ h
    · exact h.elim
  | .clo _ _ _, K, h => by simp [brw] at h
  | .fnv _, K, h => by simp [brw] at h
  | .raw _, K, h => by simp [brw] at h
  | .when _ _, K, h => by simp [brw] at h
  | .any, K, h => by simp [brw] at h
theorem brws_ext {L L' : DH} (hx : Ext L L') : ∀ (l : List DV) (K : List PV → Prop), brws l L K → brws l L' K
  | [], K, h => h
  | d :: r, K, h => by simp only [brws] at h ⊢; exact brw_mono d L' _ _ (fun p hp => brws_ext hx r _ hp) (brw_ext hx d _ h)
end
theorem brwdc_det {f : FuncId} {args : List DV} (h : DCD P f args L K) : ∃ d, K d L ∧ ∀ (L' : DH), Ext L L' → ∀ K' : DV → DH → Prop, K' d L' → DCD P f args L' K' := by
  obtain ⟨p, h1, h2, h3⟩ := h
  exact ⟨_, h3, fun L' hx K' h' => ⟨p, brws_ext hx _ _ h1, h2, h'⟩⟩

theorem det1 (hc : opCls o.op = 1) (h : vcOp P M w0 true ρ L o K) : ∃ d, K d L ∧ ∀ (L' : DH), Ext L L' → ∀ (K' : DV → DH → Prop), K' d L' → vcOp P M w0 true ρ L' o K' := by
  cases ho : o.op <;> simp only [ho, opCls] at hc <;> try (cases hc; done)
  all_goals (try simp only [vcOp, ho] at h ⊢)
  case load =>
    split at h
    · split at h
      · rename_i heq
        obtain ⟨d, h1, h2⟩ := ldCells_det h
        exact ⟨d, h1, fun L' hx K' h' => by simp only [hx _ _ heq]; exact h2 (fun d => K' d L') h'⟩
      · exact h.elim
    · obtain ⟨d, h1, h2⟩ := ldCells_det h
      exact ⟨d, h1, fun L' hx K' h' => h2 (fun d => K' d L') h'⟩
    · split at h
      · rename_i heq
        obtain ⟨g1, p, g2, h⟩ := h
        obtain ⟨d, h1, h2⟩ := ldCells_det h
        exact ⟨d, h1, fun L' hx K' h' => by simp only [hx _ _ heq]; exact ⟨g1, p, g2, h2 (fun d => K' d L') h'⟩⟩
      · rename_i heq
        obtain ⟨g1, p, g2, h⟩ := h
        obtain ⟨d, h1, h2⟩ := ldCells_det h
        exact ⟨d, h1, fun L' hx K' h' => by simp only [hx _ _ heq]; exact ⟨g1, p, g2, h2 (fun d => K' d L') h'⟩⟩
      · exact h.elim
    · exact h.elim
  case nilCheck =>
    split at h
    · split at h
      · rename_i heq
        exact ⟨_, h, fun L' hx K' h' => by simp only [hx _ _ heq]; exact h'⟩
      · exact h.elim
    · exact ⟨_, h, fun L' hx K' h' => h'⟩
    · exact ⟨_, h, fun L' hx K' h' => h'⟩
    · exact h.elim
  case fieldAddr =>
    split at h
    · split at h
      · split at h
        · rename_i heq
          exact ⟨_, h, fun L' hx K' h' => by simp only [hx _ _ heq]; exact h'⟩
        · exact h.elim
      · split at h
        · rename_i heq
          exact ⟨_, h.2.2, fun L' hx K' h' => by simp only [hx _ _ heq]; exact ⟨h.1, h.2.1, h'⟩⟩
        · exact h.elim
      · exact ⟨_, h, fun L' hx K' h' => h'⟩
      · exact h.elim
    · exact h.elim
  case indexAddr =>
    split at h
    · obtain ⟨h1, n, p, h2, h3, h4, h5⟩ := h
      exact ⟨_, h5, fun L' hx K' h' => ⟨h1, n, p, h2, h3, h4, h'⟩⟩
    · split at h
      · rename_i heq
        obtain ⟨h1, h2, m, h3, h4, h5⟩ := h
        exact ⟨_, h5, fun L' hx K' h' => by simp only [hx _ _ heq]; exact ⟨h1, h2, m, h3, h4, h'⟩⟩
      · exact h.elim
    · split at h
      · rename_i heq
        split at h
        · rename_i hb
          obtain ⟨h1, m, h2, h3, h4⟩ := h
          exact ⟨_, h4, fun L' hx K' h' => by simp only [hx _ _ heq, hb]; exact ⟨h1, m, h2, h3, h'⟩⟩
        · exact h.elim
      · rename_i heq
        obtain ⟨h1, h2, m, p, h3, h4, h5, h6⟩ := h
        exact ⟨_, h6, fun L' hx K' h' => by simp only [hx _ _ heq]; exact ⟨h1, h2, m, p, h3, h4, h5, h'⟩⟩
      · exact h.elim
    · split at h
      · rename_i e1 heq e3
        split at h
        · rename_i hb
          exact ⟨_, h, fun L' hx K' h' => by simp only [hx _ _ heq, e1, hb]; exact h'⟩
        · exact h.elim
      · exact h.elim
    · exact h.elim
  case lookup t m k ok =>
    split at h
    · split at h
      · rename_i heq e2
        obtain ⟨kp, ⟨h1, h2, r, h3, h4⟩, h5⟩ := pur_det _ _ h
        cases r <;> cases ok <;> exact ⟨_, h4, fun L' hx K' h' => by simp only [hx _ _ heq, e2]; exact h5 (fun kp => _ ∧ _ ∧ ∃ r, mfind _ kp = r ∧ _) ⟨h1, h2, _, h3, h'⟩⟩
      · exact h.elim
    · exact h.elim
  case call c =>
    split at h
    · rename_i b hb
      rw [hb] at hc
      unfold vcBuiltin at *
      split at h
      · split at h
        · split at h
          · exact ⟨_, h, fun L' hx K' h' => h'⟩
          · exact ⟨_, h, fun L' hx K' h' => h'⟩
          · exact ⟨_, h, fun L' hx K' h' => h'⟩
          · exact ⟨_, h, fun L' hx K' h' => h'⟩
          · exact ⟨_, h, fun L' hx K' h' => h'⟩
          · exact ⟨_, h, fun L' hx K' h' => h'⟩
          · exact h.elim
        · exact h.elim
      · simp at hc
      · split at h
        · exact ⟨_, h, fun L' hx K' h' => by simp [*]⟩
        · exact h.elim
      · split at h
        · exact ⟨_, h, fun L' hx K' h' => by simp [*]⟩
        · exact h.elim
      · exact h.elim
    · split at h
      · rename_i hx; cases hx
      · exact brwdc_det h
      · rename_i hx; cases hx
      · exact h.elim
    · exact h.elim

/-! more may follow -/

theorem Out.mono {K K' : DV → DH → Prop} {μ : Nat → Loc} {w w' : World} {v : Value} (hk : ∀ d L', K d L' → K' d L') (h : Out M w0 μ L w K v w') : Out M w0 μ L w K' v w' := by
  obtain ⟨μ', d, L', h1, h2⟩ := h
  exact ⟨μ', d, L', hk _ _ h1, h2⟩
theorem DC.mono {f : FuncId} {args : List DV} {K K' : DV → DH → Prop} (h : DC P M w0 f args L K) (hk : ∀ d L', K d L' → K' d L') : DC P M w0 f args L K' := by
  obtain ⟨h1, h2⟩ := h.elim
  refine DC.mk ⟨h1, fun μ w vs a b c => (h2 μ w vs a b c).mono ?_⟩
  rintro e w' (⟨v, he, ho⟩ | hx)
  · exact .inl ⟨v, he, ho.mono hk⟩
  · exact .inr hx
theorem DCV.mono {f : Value} {args : List DV} {K K' : DV → DH → Prop} (h : DCV P M w0 f args L K) (hk : ∀ d L', K d L' → K' d L') : DCV P M w0 f args L K' := by
  obtain ⟨f, fs, cs, he, h1, h2⟩ := h.elim
  unfold DCV
  refine ⟨f, fs, cs, he, h1, fun μ w vs a b c => (h2 μ w vs a b c).mono ?_⟩
  rintro e w' (⟨v, he, ho⟩ | hx)
  · exact .inl ⟨v, he, ho.mono hk⟩
  · exact .inr hx

theorem frz1_mono (d : DV) (L : DH) (K K' : PV → DH → Prop) (hk : ∀ p L', K p L' → K' p L') (h : frz1 d L K) : frz1 d L K' := by
  cases d with
  | pv p => exact hk _ _ h
  | e0 => exact hk _ _ h
  | buf k n =>
    simp only [frz1] at h ⊢
    split at h
    · exact ⟨h.1, h.2.1, hk _ _ h.2.2⟩
    · exact ⟨h.1, hk _ _ h.2⟩
    · exact h.elim
  | _ => simp [frz1] at h
theorem frz1s_mono : ∀ (l : List DV) (L : DH) (K K' : List PV → DH → Prop), (∀ p L', K p L' → K' p L') → frz1s l L K → frz1s l L K'
  | [], L, K, K', hk, h => hk _ _ h
  | d :: r, L, K, K', hk, h => by
    simp only [frz1s] at h ⊢
    exact frz1_mono d L _ _ (fun p L' g => frz1s_mono r L' _ _ (fun _ _ g => hk _ _ g) g) h
mutual
theorem frz_mono : ∀ (d : DV) (L : DH) (K K' : PV → DH → Prop), (∀ p L', K p L' → K' p L') → frz d L K → frz d L K'
  | .pv p, L, K, K' => fun hk h => hk _ _ h
  | .e0, L, K, K' => fun hk h => hk _ _ h
  | .buf k n, L, K, K' => fun hk h => by
    simp only [frz] at h ⊢
    split at h
    · exact ⟨h.1, h.2.1, hk _ _ h.2.2⟩
    · exact ⟨h.1, hk _ _ h.2⟩
    · exact h.elim
  | .agg l, L, K, K' => fun hk h => by
    simp only [frz] at h ⊢
    exact frzs_mono l L _ _ (fun _ _ h => hk _ _ h) h
  | .tup l, L, K, K' => fun hk h => by
    simp only [frz] at h ⊢
    exact frzs_mono l L _ _ (fun _ _ h => hk _ _ h) h
  | .ref _ _, _, _, _ => fun _ h => by simp [frz] at h
  | .aref _ _ _ _, _, _, _ => fun _ h => by simp [frz] at h
  | .eptr _ _, _, _, _ => fun _ h => by simp [frz] at h
  | .mp _, _, _, _ => fun _ h => by simp [frz] at h
  | .rbuf _ _, _, _, _ => fun _ h => by simp [frz] at h
  | .vbuf k n, L, K, K' => fun hk h => by
    simp only [frz] at h ⊢
    split at h
    · exact frz1s_mono _ _ _ _ (fun _ _ g => ⟨g.1, g.2.1, g.2.2.1, hk _ _ g.2.2.2⟩) h
    · exact h.elim
  | .clo _ _ _, _, _, _ => fun _ h => by simp [frz] at h
  | .fnv _, _, _, _ => fun _ h => by simp [frz] at h
  | .when _ _, _, _, _ => fun _ h => by simp [frz] at h
  | .raw _, _, _, _ => fun _ h => by simp [frz] at h
  | .any, _, _, _ => fun _ h => by simp [frz] at h
theorem frzs_mono : ∀ (l : List DV) (L : DH) (K K' : List PV → DH → Prop), (∀ p L', K p L' → K' p L') → frzs l L K → frzs l L K'
  | [], L, K, K' => fun hk h => hk _ _ h
  | d :: r, L, K, K' => fun hk h => by
    simp only [frzs] at h ⊢
    exact frz_mono d L _ _ (fun p L' h => frzs_mono r L' _ _ (fun _ _ h => hk _ _ h) h) h
end
theorem pur_mono {d : DV} {K K' : PV → Prop} (hk : ∀ p, K p → K' p) (h : pur d K) : pur d K' := by
  obtain ⟨p, h1, h2⟩ := pur_det _ _ h
  exact h2 K' (hk p h1)
theorem purs_mono {d : List DV} {K K' : List PV → Prop} (hk : ∀ p, K p → K' p) (h : purs d K) : purs d K' := by
  obtain ⟨p, h1, h2⟩ := purs_det _ _ h
  exact h2 K' (hk p h1)
theorem srcOf_mono {x : DV} {K K' : List PV → Prop} (hk : ∀ p, K p → K' p) (h : srcOf x L K) : srcOf x L K' := by
  unfold srcOf at *
  split at h
  · exact hk _ h
  · exact hk _ h
  · exact hk _ h
  · exact hk _ h
  · split at h
    · exact ⟨h.1, hk _ h.2⟩
    · exact ⟨h.1, hk _ h.2⟩
    · exact h.elim
  · exact h.elim
theorem vcApp_mono {t t2 : TypeId} {s x : DV} {K K' : DV → DH → Prop} (hk : ∀ d L', K d L' → K' d L') (h : vcApp P t t2 s x L K) : vcApp P t t2 s x L K' := by
  unfold vcApp at *
  split at h
  · split at h
    · refine ⟨h.1, ?_⟩
      have h := h.2
      split at h
      · refine srcOf_mono (fun xs h => ⟨h.1, h.2.1, ?_⟩) h
        have h := h.2.2
        cases xs <;> exact hk _ _ h
      · refine srcOf_mono (fun xs h => ⟨h.1, h.2.1, ?_⟩) h
        have h := h.2.2
        cases xs <;> exact hk _ _ h
      · split at h
        · split at h
          · exact ⟨h.1, srcOf_mono (fun xs h => ⟨h.1, h.2.1, hk _ _ h.2.2⟩) h.2⟩
          · exact h.elim
        · exact h.elim
      · exact h.elim
    · exact h.elim
  · exact h.elim

theorem vcApp2_mono {t t2 : TypeId} {s : DV} {kx nx : Nat} {K K' : DV → DH → Prop} (hk : ∀ d L', K d L' → K' d L') (h : vcApp2 P t t2 s kx nx L K) : vcApp2 P t t2 s kx nx L K' := by
  unfold vcApp2 at *
  split at h
  · split at h
    · refine ⟨h.1, h.2.1, h.2.2.1, h.2.2.2.1, ?_⟩
      have h := h.2.2.2.2
      split at h
      · exact ⟨h.1, hk _ _ h.2⟩
      · split at h
        · exact ⟨h.1, h.2.1, h.2.2.1, hk _ _ h.2.2.2⟩
        · exact h.elim
      · exact h.elim
    · exact h.elim
  · exact h.elim

theorem vcOp_mono {dr : Bool} {K K' : DV → DH → Prop} (hk : ∀ d L', K d L' → K' d L') (h : vcOp P M w0 dr ρ L o K) : vcOp P M w0 dr ρ L o K' := by
  cases ho : o.op
  case move => simp only [vcOp, ho] at h ⊢; exact hk _ _ h
  case assign => simp only [vcOp, ho] at h ⊢; exact hk _ _ h
  case pick =>
    simp only [vcOp, ho] at h ⊢
    split at h
    · obtain ⟨d, h1, h2⟩ := pickV_det h
      exact h2 (fun d => K' d L) (hk _ _ h1)
    · obtain ⟨d, h1, h2⟩ := pickV_det h.2
      exact ⟨h.1, h2 (fun d => K' d L) (hk _ _ h1)⟩
    · exact h.elim
  case alloc =>
    simp only [vcOp, ho] at h ⊢
    split at h
    · split at h <;> first | exact hk _ _ h | exact h.elim
    · exact h.elim
  case box => simp only [vcOp, ho] at h ⊢; split at h <;> first | exact hk _ _ h | exact h.elim
  case build =>
    simp only [vcOp, ho] at h ⊢
    split at h
    · split at h <;> first | exact hk _ _ h | exact h.elim
    · exact h.elim
  case buildSlice t n parts =>
    simp only [vcOp, ho] at h ⊢
    split at h
    · split at h
      · rcases h with h | h
        · refine .inl (frzs_mono _ _ _ _ (fun ps L' h => ⟨h.1, ?_⟩) h)
          cases n <;> exact hk _ _ h.2
        · exact .inr ⟨h.1, h.2.1, h.2.2.1, hk _ _ h.2.2.2⟩
      · refine purs_mono (fun ps h => ⟨h.1, ?_⟩) h
        cases n <;> exact hk _ _ h.2
      · exact h.elim
    · exact h.elim
  case load =>
    simp only [vcOp, ho] at h ⊢
    have key : ∀ {t cs c}, ldCells P t cs c (fun d => K d L) → ldCells P t cs c (fun d => K' d L) := fun h => by
      obtain ⟨d, h1, h2⟩ := ldCells_det h
      exact h2 _ (hk _ _ h1)
    split at h
    · split at h <;> first | exact key h | exact h.elim
    · exact key h
    · split at h
      · obtain ⟨g1, p, g2, h⟩ := h; exact ⟨g1, p, g2, key h⟩
      · obtain ⟨g1, p, g2, h⟩ := h; exact ⟨g1, p, g2, key h⟩
      · exact h.elim
    · exact h.elim
  case store =>
    simp only [vcOp, ho] at h ⊢
    split at h
    · split at h
      · split at h <;> first | exact hk _ _ h | exact h.elim
      · exact h.elim
    · split at h
      · obtain ⟨g1, p, g2, g3, h⟩ := h; exact ⟨g1, p, g2, g3, purs_mono (fun _ h => hk _ _ h) h⟩
      · exact h.elim
    · exact h.elim
  case nilCheck =>
    simp only [vcOp, ho] at h ⊢
    split at h
    · split at h <;> first | exact hk _ _ h | exact h.elim
    · exact hk _ _ h
    · exact hk _ _ h
    · exact h.elim
  case binOp =>
    simp only [vcOp, ho] at h ⊢
    obtain ⟨d, h1, h2⟩ := vcBin_det h
    exact h2 _ (hk _ _ h1)
  case unOp => simp only [vcOp, ho] at h ⊢; split at h <;> first | exact hk _ _ h | exact h.elim
  case convert => simp only [vcOp, ho] at h ⊢; split at h <;> first | exact hk _ _ h | exact h.elim
  case index =>
    simp only [vcOp, ho] at h ⊢
    split at h
    · obtain ⟨n, b, h1, h2, h3⟩ := h
      exact ⟨n, b, h1, h2, hk _ _ h3⟩
    · exact h.elim
  case makeFunc fn _ _ => cases fn <;> simp only [vcOp, ho] at h ⊢; exact hk _ _ h
  case makeInterface => simp only [vcOp, ho] at h ⊢; split at h <;> first | exact hk _ _ h | exact h.elim
  case panic => simp only [vcOp, ho] at h ⊢; exact h
  case typeAssert x tx t ok =>
    cases ok
    · simp only [vcOp, ho] at h ⊢
      split at h
      · split at h <;> first | exact hk _ _ h | exact h.elim
      · exact h.elim
    · simp [vcOp, ho] at h
  case makeMap t r => cases r <;> simp only [vcOp, ho] at h ⊢; exact hk _ _ h
  case makeSlice =>
    simp only [vcOp, ho] at h ⊢
    split at h
    · split at h
      · exact pur_mono (fun p h => ⟨h.1, h.2.1, h.2.2.1, h.2.2.2.1, h.2.2.2.2.imp (hk _ _) fun g => ⟨g.1, g.2.1, g.2.2.1, hk _ _ g.2.2.2⟩⟩) h
      · exact h.elim
    · exact h.elim
  case slice =>
    simp only [vcOp, ho] at h ⊢
    split at h
    · obtain ⟨h1, h2, a, b, h3, h4, h5, h6, h7⟩ := h
      exact ⟨h1, h2, a, b, h3, h4, h5, h6, hk _ _ h7⟩
    · obtain ⟨h1, a, b, h3, h4, h5, h6, h7⟩ := h
      exact ⟨h1, a, b, h3, h4, h5, h6, hk _ _ h7⟩
    · obtain ⟨h1, h3, h4, h5, h7⟩ := h
      exact ⟨h1, h3, h4, h5, hk _ _ h7⟩
    · obtain ⟨h1, h3, h4, h5, h7⟩ := h
      exact ⟨h1, h3, h4, h5, hk _ _ h7⟩
    · exact h.elim
  case fieldAddr =>
    simp only [vcOp, ho] at h ⊢
    split at h
    · split at h
      · split at h <;> first | exact hk _ _ h | exact h.elim
      · split at h
        · exact ⟨h.1, h.2.1, hk _ _ h.2.2⟩
        · exact h.elim
      · exact hk _ _ h
      · exact h.elim
    · exact h.elim
  case field =>
    simp only [vcOp, ho] at h ⊢
    split at h
    · obtain ⟨d, h1, h2⟩ := ldCells_det h
      exact h2 _ (hk _ _ h1)
    · exact h.elim
  case indexAddr =>
    simp only [vcOp, ho] at h ⊢
    split at h
    · obtain ⟨h1, n, p, h2, h3, h4, h5⟩ := h
      exact ⟨h1, n, p, h2, h3, h4, hk _ _ h5⟩
    · split at h
      · obtain ⟨h1, h2, m, h3, h4, h5⟩ := h
        exact ⟨h1, h2, m, h3, h4, hk _ _ h5⟩
      · exact h.elim
    · split at h
      · split at h
        · obtain ⟨h1, m, h2, h3, h4⟩ := h
          exact ⟨h1, m, h2, h3, hk _ _ h4⟩
        · exact h.elim
      · obtain ⟨h1, h2, m, p, h3, h4, h5, h6⟩ := h
        exact ⟨h1, h2, m, p, h3, h4, h5, hk _ _ h6⟩
      · exact h.elim
    · split at h
      · split at h
        · exact hk _ _ h
        · exact h.elim
      · exact h.elim
    · exact h.elim
  case lookup t m k ok =>
    simp only [vcOp, ho] at h ⊢
    split at h
    · split at h
      · refine pur_mono (fun kp h => ?_) h
        obtain ⟨h1, h2, r, h3, h4⟩ := h
        refine ⟨h1, h2, r, h3, ?_⟩
        cases r <;> cases ok <;> exact hk _ _ h4
      · exact h.elim
    · exact h.elim
  case mapUpdate =>
    simp only [vcOp, ho] at h ⊢
    split at h
    · split at h
      · exact pur_mono (fun kp h => ⟨h.1, h.2.1, pur_mono (fun vp h => hk _ _ h) h.2.2⟩) h
      · exact h.elim
    · exact h.elim
  case extract =>
    simp only [vcOp, ho] at h ⊢
    split at h
    · split at h <;> first | exact hk _ _ h | exact h.elim
    · exact h.elim
  case call c =>
    simp only [vcOp, ho] at h ⊢
    split at h
    · unfold vcBuiltin at *
      split at h
      · split at h
        · split at h
          · exact hk _ _ h
          · exact hk _ _ h
          · exact hk _ _ h
          · exact hk _ _ h
          · exact hk _ _ h
          · exact hk _ _ h
          · exact h.elim
        · exact h.elim
      · split at h
        · split at h
          · exact vcApp2_mono hk h
          · exact vcApp_mono hk h
        · exact h.elim
      · split at h
        · have h2 := hk _ _ h; clear hk; simp [*]
        · exact h.elim
      · split at h
        · have h2 := hk _ _ h; clear hk; simp [*]
        · exact h.elim
      · exact h.elim
    · split at h
      · exact h.mono hk
      · obtain ⟨p, h1, h2, h3⟩ := h
        exact ⟨p, h1, h2, hk _ _ h3⟩
      · exact h.mono hk
      · exact h.elim
    · exact h.elim
  all_goals simp only [vcOp, ho] at h
end
end Go.Dv
