/- The layer Dv, part 14: regions, code, functions. -/
import Derived.Test.YtlmgodcfjaagpaaDv13
namespace Go.Dv
open Go.RowKit (Below)
section
variable {P : Program} {M : Nat → Prop} {w0 : World} {N : Nat}

structure Sim (M : Nat → Prop) (w0 : World) (N : Nat) (μ : Nat → Loc) (e : Env) (L : DH) (a : Act) (w : World) : Prop where
  hr : HR M w0 μ L w
  env : ∀ t, RelV (Tot M μ L) w μ L (e t) (a.tmps.getD t undef)
  und : ∀ t, (e t).under L.next = true
  defers : a.defers = []
  size : N ≤ a.tmps.size

theorem Sim.rho {μ : Nat → Loc} {e : Env} {L : DH} {a : Act} {w : World} (h : Sim M w0 N μ e L a w) : Rho M μ L w (opd e) a := Rho.of_env h.env h.und

theorem getD_put (a : Act) (d t : Nat) (v : Value) (h : d < a.tmps.size) : (a.put (some d) v).tmps.getD t undef = if t = d then v else a.tmps.getD t undef := by
  simp only [Act.put, Array.getD_eq_getD_getElem?, Array.getElem?_setIfInBounds]
  by_cases e : d = t
  · subst e; simp [h]
  · rw [if_neg e, if_neg (Ne.symm e)]

/-- The state behind an operation. -/
theorem Sim.step {μ μ' : Nat → Loc} {e : Env} {L L' : DH} {a : Act} {w w' : World} {d : DV} {v : Value} {dst : Option Tmp} (h : Sim M w0 N μ e L a w) (hs : Stp L μ w L' μ' w') (hr : HR M w0 μ' L' w')
    (hd : RelV (Tot M μ' L') w' μ' L' d v) (hu : d.under L'.next = true) (hN : okDst N dst = true) : Sim M w0 N μ' (upd e dst d) L' (a.put dst v) w' := by
  cases dst with
  | none =>
    exact ⟨hr, fun t => (h.env t).stp hs (h.und t), fun t => DV.under_mono hs.next _ (h.und t), h.defers, h.size⟩
  | some t =>
    have ht : t < a.tmps.size := by
      have : t < N := by simpa [okDst, Nat.blt_eq] using hN
      exact Nat.lt_of_lt_of_le this h.size
    refine ⟨hr, fun u => ?_, fun u => ?_, h.defers, by simpa [Act.put] using h.size⟩
    · rw [getD_put a t u v ht]
      by_cases e1 : u = t
      · subst e1
        simp only [upd, Nat.beq_refl, cond_true, if_true]
        exact hd
      · have : Nat.beq u t = false := by
          cases hb : Nat.beq u t with
          | false => rfl
          | true => exact absurd (Nat.eq_of_beq_eq_true hb) e1
        simp only [upd, this, cond_false, if_neg e1]
        exact (h.env u).stp hs (h.und u)
    · by_cases e1 : u = t
      · subst e1; simpa [upd] using hu
      · have : Nat.beq u t = false := by
          cases hb : Nat.beq u t with
          | false => rfl
          | true => exact absurd (Nat.eq_of_beq_eq_true hb) e1
        simp only [upd, this, cond_false]
        exact DV.under_mono hs.next _ (h.und u)

/-- A slot may be taken for what is known of it. -/
theorem Sim.know {μ : Nat → Loc} {e : Env} {L : DH} {a : Act} {w : World} {t : Nat} {b : Bool} (h : Sim M w0 N μ e L a w) (he : e t = .pv (.bool b)) : Sim M w0 N μ (upd e (some t) (.pv (.bool b))) L a w := by
  have : upd e (some t) (.pv (.bool b)) = e := by
    funext u
    unfold upd
    simp only
    cases hb : Nat.beq u t with
    | false => rfl
    | true => rw [Nat.eq_of_beq_eq_true hb, he]; rfl
  rw [this]; exact h

theorem yield_bool {μ : Nat → Loc} {e : Env} {L : DH} {a : Act} {w : World} {ops : Array Oper} {j t : Nat} {oj : Oper} {b : Bool} (h : Sim M w0 N μ e L a w) (hj : ops.toList[j]? = some oj) (ht : oj.dst = some t) (he : e t = .pv (.bool b)) :
    yielded ops a.tmps j = some b := by
  have hr := h.env t
  rw [he] at hr
  have hv := pvB hr
  unfold yielded
  have hj' : ops[j]? = some oj := by simpa using hj
  simp only [hj', Option.bind_some, ht]
  simp only [Array.getD_eq_getD_getElem?] at hv
  cases hx : a.tmps[t]? with
  | none => rw [hx] at hv; simp [undef] at hv
  | some v => rw [hx] at hv; simp at hv; subst hv; rfl
theorem yield_none {μ : Nat → Loc} {e : Env} {L : DH} {a : Act} {w : World} {ops : Array Oper} {j t : Nat} {oj : Oper} (h : Sim M w0 N μ e L a w) (hj : ops.toList[j]? = some oj) (ht : oj.dst = some t) (he : e t = .tup []) :
    yielded ops a.tmps j = none := by
  have hr := h.env t
  rw [he] at hr
  unfold yielded
  have hj' : ops[j]? = some oj := by simpa using hj
  simp only [hj', Option.bind_some, ht]
  simp only [Array.getD_eq_getD_getElem?] at hr
  cases hx : a.tmps[t]? with
  | none => rfl
  | some v =>
    rw [hx] at hr
    simp at hr
    cases hr
    rfl

theorem vcOp_congr {ρ ρ' : Operand → DV} {dr : Bool} {L : DH} {o : Oper} {K : DV → DH → Prop} (h : ∀ x ∈ o.op.operands, ρ x = ρ' x) : vcOp P M w0 dr ρ L o K = vcOp P M w0 dr ρ' L o K := by
  obtain ⟨dst, op, type, pos, after, guard⟩ := o
  have pairs : ∀ ps : Array (Nat × Operand), (∀ x ∈ ps.toList.map (·.2), ρ x = ρ' x) → (ps.toList.map fun q => (q.1, ρ q.2)) = (ps.toList.map fun q => (q.1, ρ' q.2)) := fun ps hp =>
    List.map_congr_left fun p hm => by
      obtain ⟨i, x⟩ := p
      simp only [hp x (List.mem_map.2 ⟨(i, x), hm, rfl⟩)]
  have seconds : ∀ ps : Array (Nat × Operand), (∀ x ∈ ps.toList.map (·.2), ρ x = ρ' x) → (ps.toList.map fun q => ρ q.2) = (ps.toList.map fun q => ρ' q.2) := fun ps hp =>
    List.map_congr_left fun p hm => hp p.2 (List.mem_map.2 ⟨p, hm, rfl⟩)
  cases op <;> simp only [Op.operands] at h <;> simp only [vcOp]
  case build t ps => rw [pairs ps fun x hx => h x (by simpa using hx)]
  case buildSlice t n ps => rw [seconds ps fun x hx => h x (by simpa using hx)]
  case makeFunc fn first captured =>
    cases fn <;> simp only
    rw [List.map_congr_left (l := first.toList) fun x hx => h x (by simp at hx; simp [hx]), List.map_congr_left (l := captured.toList) fun x hx => h x (by simp at hx; simp [hx])]
  case call c =>
    have hargs : c.args.toList.map ρ = c.args.toList.map ρ' := List.map_congr_left fun x hx => h x (by simp at hx; simp [Call.operands, hx])
    simp only [hargs]
    cases hc : c.callee with
    | value f => have hf : ρ f = ρ' f := h f (by simp [Call.operands, hc]); simp only [hf]
    | invoke r m => rfl
    | builtin b => rfl
  case slice t x lo hi mx => cases lo <;> cases hi <;> cases mx <;> simp_all
  case makeMap t r => cases r <;> rfl
  all_goals (first | rfl | (simp_all; done))

theorem force_eq {d : DV} {K : DV → Prop} : force d K = K d := by
  cases d with
  | pv p => cases p <;> rfl
  | _ => rfl
theorem fupd_eq {e : Env} {dst : Option Nat} {d : DV} {K : Env → Prop} : fupd e dst d K = K (upd e dst d) := by
  cases dst with
  | none => rfl
  | some t => exact force_eq (K := fun d => K (upd e (some t) d))

theorem allW_mem {e : Env} : ∀ {l : List Operand}, allW e l → ∀ x ∈ l, wcond (opd e x) = true
  | [], _, x, hx => by simp at hx
  | y :: r, h, x, hx => by
    have key : wcond (opd e y) = true ∧ allW e r := by
      simp only [allW] at h
      split at h
      · rename_i c d he
        rw [he]; exact h
      · rename_i hne
        refine ⟨?_, h⟩
        unfold wcond
        split
        · rename_i c d he
          exact absurd he (hne c d)
        · rfl
    rcases List.mem_cons.1 hx with rfl | hx
    · exact key.1
    · exact allW_mem key.2 x hx

theorem vcW_sound {dr : Bool} {e : Env} {L : DH} {μ : Nat → Loc} {a : Act} {w : World} {o : Oper} {K : DV → DH → Prop} (h : Sim M w0 N μ e L a w) (hv : vcW P M w0 dr e L o K) : OpRes P M w0 μ L w K o a := by
  unfold vcW at hv
  split at hv
  · exact vcOp_sound h.hr h.rho hv
  · obtain ⟨hall, hv⟩ := hv
    let ρ' : Operand → DV := fun x => if wcond (opd e x) = true then strip (opd e x) else .any
    have hρ : Rho M μ L w ρ' a := by
      have hr := h.rho
      have key : ∀ (d : DV) (v : Value), RelV (Tot M μ L) w μ L d v → d.under L.next = true → RelV (Tot M μ L) w μ L (if wcond d = true then strip d else .any) v ∧ (if wcond d = true then strip d else .any).under L.next = true := by
        intro d v hd hu
        cases d with
        | when c d =>
          cases c with
          | false => exact ⟨.any _, rfl⟩
          | true =>
            cases hd with
            | when _ _ _ h1 h2 => exact ⟨h1 rfl, by simpa [DV.under, wcond, strip] using hu⟩
        | _ => exact ⟨hd, hu⟩
      exact ⟨fun x => (key _ _ (hr.rel x) (hr.und x)).1, fun x => (key _ _ (hr.rel x) (hr.und x)).2⟩
    refine vcOp_sound (dr := dr) h.hr hρ ?_
    rw [vcOp_congr (ρ := ρ') (ρ' := fun x => strip (opd e x)) fun x hx => ?_]
    · exact hv
    · have := allW_mem hall x (by simpa using hx)
      simp only [ρ', this, if_true]

theorem wanted_of {μ : Nat → Loc} {e : Env} {L : DH} {a : Act} {w : World} {ops : Array Oper} {o oj : Oper} {j t : Nat} {want c : Bool} (h : Sim M w0 N μ e L a w) (hg : o.guard = some (j, want)) (hj : ops.toList[j]? = some oj) (ht : oj.dst = some t)
    (hc : guardC (e t) want = some c) : Region.wanted o (yielded ops a.tmps) = c := by
  have hr := h.env t
  have hj' : ops[j]? = some oj := by simpa using hj
  have yb : ∀ g, a.tmps.getD t undef = .bool g → yielded ops a.tmps j = some g := by
    intro g hv
    unfold yielded
    simp only [hj', Option.bind_some, ht]
    simp only [Array.getD_eq_getD_getElem?] at hv
    cases hx : a.tmps[t]? with
    | none => rw [hx] at hv; simp [undef] at hv
    | some v => rw [hx] at hv; simp at hv; subst hv; rfl
  have yn : a.tmps.getD t undef = undef → yielded ops a.tmps j = none := by
    intro hv
    unfold yielded
    simp only [hj', Option.bind_some, ht]
    simp only [Array.getD_eq_getD_getElem?] at hv
    cases hx : a.tmps[t]? with
    | none => rfl
    | some v => rw [hx] at hv; simp at hv; subst hv; rfl
  generalize e t = d at hr hc
  have bool : ∀ g, d = .pv (.bool g) → yielded ops a.tmps j = some g := fun g hd => yb g (pvB (by rw [← hd]; exact hr))
  have whn : ∀ c0 g, d = .when c0 (.pv (.bool g)) → (c0 = true → yielded ops a.tmps j = some g) ∧ (c0 = false → yielded ops a.tmps j = none) := fun c0 g hd => by
    subst hd
    cases hr with
    | when _ _ _ h1 h2 => exact ⟨fun e => yb g (pvB (h1 e)), fun e => yn (h2 e)⟩
  unfold guardC at hc
  split at hc
  · rename_i g
    simp only [Option.some.injEq] at hc
    subst hc
    simp only [Region.wanted, hg, bool g rfl]
    cases g <;> rfl
  · rename_i g
    simp only [Option.some.injEq] at hc
    subst hc
    simp only [Region.wanted, hg, bool g rfl]
    cases g <;> rfl
  · rename_i c0 g
    simp only [Option.some.injEq] at hc
    subst hc
    cases c0 with
    | true =>
      simp only [Region.wanted, hg, (whn true g rfl).1 rfl]
      cases g <;> rfl
    | false => simp only [Region.wanted, hg, (whn false g rfl).2 rfl]; rfl
  · rename_i c0 g
    simp only [Option.some.injEq] at hc
    subst hc
    cases c0 with
    | true =>
      simp only [Region.wanted, hg, (whn true g rfl).1 rfl]
      cases g <;> rfl
    | false => simp only [Region.wanted, hg, (whn false g rfl).2 rfl]; rfl
  · simp only [Option.some.injEq] at hc
    subst hc
    have : yielded ops a.tmps j = none := by
      refine yn ?_
      generalize a.tmps.getD t undef = v at hr
      cases hr with
      | tup _ vs h1 h2 =>
        have : vs = [] := List.length_eq_zero_iff.1 h1.symm
        subst this; rfl
    simp only [Region.wanted, hg, this]
    cases want <;> rfl
  · cases hc

theorem WhenQ.elim {A B : DV → Prop} (h : WhenQ A B) : ∃ d, A d ∧ B d := by unfold WhenQ at h; exact h
theorem WhenQ.mk {A B : DV → Prop} {d : DV} (h1 : A d) (h2 : B d) : WhenQ A B := by unfold WhenQ; exact ⟨d, h1, h2⟩

theorem oper_wp {o : Oper} {a : Act} {w : World} {μ : Nat → Loc} {L : DH} {K : DV → DH → Prop} {next : Act → World → Prop} {Q : Exit → Act → World → Prop} (h : OpRes P M w0 μ L w K o a)
    (hn : ∀ v w', Out M w0 μ L w K v w' → next (a.put o.dst v) w') : o.wp P a w next Q := by
  unfold Oper.wp
  rcases h with ⟨v, w', hr, ho⟩ | ⟨w', hr, ho⟩ | ⟨f, args, hr, hc⟩
  · rw [hr]; exact hn v w' ho
  · rw [hr]; exact hn undef w' ho
  · rw [hr]
    refine hc.mono ?_
    rintro e w' ⟨v, rfl, ho⟩
    exact hn v w' ho

/-- One operation of a region, its guard with it. -/
theorem step_sound {ops : Array Oper} {i : Nat} {o : Oper} {dr : Bool} {e : Env} {L : DH} {μ : Nat → Loc} {a : Act} {w : World} {K : Env → DH → Prop} {next : Act → World → Prop} {Q : Exit → Act → World → Prop} (hi : ops[i]? = some o)
    (hv : vcStep P M w0 dr N ops.toList o e L K) (h : Sim M w0 N μ e L a w)
    (hn : ∀ μ' e' L' a' w', K e' L' → Sim M w0 N μ' e' L' a' w' → Stp L μ w L' μ' w' → next a' w') : wpOp P ops Q i next a w := by
  unfold wpOp
  rw [hi]
  simp only
  unfold vcStep at hv
  simp only [fupd_eq, force_eq] at hv
  cases hN : okDst N o.dst with
  | false => simp [hN] at hv
  | true =>
    simp only [hN] at hv
    have done : ∀ K', OpRes P M w0 μ L w K' o a → (∀ d L' v μ' w', K' d L' → HR M w0 μ' L' w' → RelV (Tot M μ' L') w' μ' L' d v → d.under L'.next = true → Stp L μ w L' μ' w' → next (a.put o.dst v) w') → o.wp P a w next Q := by
      intro K' hr hk
      refine oper_wp hr ?_
      rintro v w' ⟨μ', d, L', hK, hr, hd, hu, hs⟩
      exact hk d L' v μ' w' hK hr hd hu hs
    have hs0 := Stp.refl L μ w fun k o hk => (h.hr.keys k o hk).1
    cases hg : o.guard with
    | none =>
      simp only [hg] at hv
      have hw : Region.wanted o (yielded ops a.tmps) = true := by simp [Region.wanted, hg]
      rw [if_pos hw]
      exact .inl (done _ (vcOp_sound h.hr h.rho hv) fun d L' v μ' w' hK hr hd hu hs => hn μ' _ L' _ w' hK (h.step hs hr hd hu hN) hs)
    | some g =>
      obtain ⟨j, want⟩ := g
      simp only [hg] at hv
      cases hj : ops.toList[j]? with
      | none => rw [hj] at hv; exact hv.elim
      | some oj =>
        rw [hj] at hv
        cases ht : oj.dst with
        | none => simp [ht] at hv
        | some t =>
          simp only [ht] at hv
          cases hgc : guardC (e t) want with
          | none => rw [hgc] at hv; exact hv.elim
          | some c =>
            rw [hgc] at hv
            simp only at hv
            have hw := wanted_of h hg hj ht hgc
            rw [hw]
            cases hcl : Nat.ble (opCls o.op) 1 with
            | true =>
              rw [hcl] at hv
              obtain ⟨d, hA, hB⟩ := hv.elim
              cases c with
              | true =>
                rw [if_pos rfl]
                refine .inl (done _ (vcW_sound h (hA rfl)) ?_)
                rintro d' L' v μ' w' ⟨rfl, rfl⟩ hr hd hu hs
                exact hn μ' _ L' _ w' hB (h.step hs hr (.when true d' v (fun _ => hd) (fun e => by cases e)) (by simpa [DV.under] using hu) hN) hs
              | false =>
                rw [if_neg (by simp)]
                exact hn μ _ L _ w hB (h.step hs0 h.hr (.when false d undef (fun e => by cases e) (fun _ => rfl)) (by simp [DV.under]) hN) hs0
            | false =>
              rw [hcl] at hv
              cases c with
              | true =>
                rw [if_pos rfl]
                exact .inl (done _ (vcW_sound h (hv.1 rfl)) fun d L' v μ' w' hK hr hd hu hs => hn μ' _ L' _ w' hK (h.step hs hr hd hu hN) hs)
              | false =>
                rw [if_neg (by simp)]
                exact hn μ _ L _ w (hv.2 rfl) (h.step hs0 h.hr (.tup [] [] rfl (fun i d v hd _ => by simp at hd)) rfl hN) hs0

theorem ops_sound {ops : Array Oper} {dr : Bool} {Q : Exit → Act → World → Prop} {K : Env → DH → Prop} {L0 : DH} {μ0 : Nat → Loc} {ws : World}
    (hQ : ∀ μ e L a w, K e L → Sim M w0 N μ e L a w → Stp L0 μ0 ws L μ w → Q .normal a w) :
    ∀ (l : List Oper) (k : Nat) (e : Env) (L : DH) (μ : Nat → Loc) (a : Act) (w : World), (∀ j, l[j]? = ops[k + j]?) → vcOps P M w0 dr N ops.toList l e L K → Sim M w0 N μ e L a w → Stp L0 μ0 ws L μ w →
      wpOps P ops Q (List.range' k l.length) a w
  | [], k, e, L, μ, a, w, _, hv, h, hs => hQ μ e L a w hv h hs
  | o :: l, k, e, L, μ, a, w, hl, hv, h, hs => by
    have hk : ops[k]? = some o := by simpa using (hl 0).symm
    simp only [List.length_cons, List.range'_succ]
    rw [wpOps_cons]
    refine step_sound hk hv h fun μ' e' L' a' w' hK h' hs' => ?_
    exact ops_sound hQ l (k + 1) e' L' μ' a' w' (fun j => by have := hl (j + 1); simpa [Nat.add_assoc, Nat.add_comm 1 j] using this) hK h' (hs.trans hs')

/-- What is known at an exit. -/
def Lift (M : Nat → Prop) (w0 : World) (N lo base : Nat) (μ0 : Nat → Loc) (L0 : DH) (ws : World) (Q : Exit → Env → DH → Prop) (x : Exit) (a : Act) (w : World) : Prop :=
  ∃ μ e L, Sim M w0 N μ e L a w ∧ Stp L0 μ0 ws L μ w ∧ L.lo = lo ∧ L.base = base ∧ Q x e L

theorem region_sound {id : Nat} {ops : Array Oper} {Q : Exit → Env → DH → Prop} {lo base : Nat} {L0 : DH} {μ0 : Nat → Loc} {ws : World} {e : Env} {L : DH} {μ : Nat → Loc} {a : Act} {w : World}
    (hv : vcOps P M w0 false N ops.toList ops.toList e L (Q .normal)) (h : Sim M w0 N μ e L a w) (hs : Stp L0 μ0 ws L μ w) (hlo : L.lo = lo) (hb : L.base = base) :
    (Code.region id ops false).wp P (Lift M w0 N lo base μ0 L0 ws Q) a w := by
  refine wp_region ?_
  have h1 : L0.lo = lo := by rw [← hlo, hs.lo]
  have h2 : L0.base = base := by rw [← hb, hs.base]
  have := ops_sound (P := P) (ops := ops) (dr := false) (Q := Lift M w0 N lo base μ0 L0 ws Q) (K := Q .normal) (L0 := L0) (μ0 := μ0) (ws := ws) (fun μ e L a w hK h hs => ⟨μ, e, L, h, hs, by rw [hs.lo, h1], by rw [hs.base, h2], hK⟩) ops.toList 0 e L μ a w (fun j => by simp) hv h hs
  rw [Array.length_toList] at this
  rw [List.range_eq_range']
  exact this

/-- The mark of where a call begins tells nothing of values. -/
theorem RelV.base {T : Nat → Prop} {w : World} {μ : Nat → Loc} {L : DH} {d : DV} {v : Value} (h : RelV T w μ L d v) (b : Nat) : RelV T w μ { L with base := b } d v := by
  induction h with
  | pv p v h => exact .pv p v h
  | e0 a => exact .e0 a
  | agg l vs h1 _ ih => exact .agg l vs h1 ih
  | tup l vs h1 _ ih => exact .tup l vs h1 ih
  | ref k c v h1 h2 => exact .ref k c v h1 h2
  | aref k n i c v h1 h2 h3 => exact .aref k n i c v h1 h2 h3
  | eptr p c b off val h1 h2 h3 h4 => exact .eptr p c b off val h1 h2 h3 h4
  | buf k n v h1 h2 h3 => exact .buf k n v h1 h2 h3
  | mp k v h1 h2 => exact .mp k v h1 h2
  | clo f first caps fs cs h1 h2 _ _ ih1 ih2 => exact .clo f first caps fs cs h1 h2 ih1 ih2
  | when c d v _ h2 ih => exact .when c d v ih h2
  | fnv v => exact .fnv v
  | raw v => exact .raw v
  | any v => exact .any v

/-! a state taken for a poorer one -/

theorem envOf_mem {E : List (Nat × DV)} {t : Nat} : envOf E t = .any ∨ ∃ q, q ∈ E ∧ q.1 = t ∧ envOf E t = q.2 := by
  induction E with
  | nil => exact .inl rfl
  | cons q r ih =>
    obtain ⟨u, d⟩ := q
    simp only [envOf]
    cases hb : Nat.beq t u with
    | true => exact .inr ⟨(u, d), by simp, (Nat.eq_of_beq_eq_true hb).symm, rfl⟩
    | false =>
      rcases ih with ih | ⟨q, h1, h2, h3⟩
      · exact .inl ih
      · exact .inr ⟨q, by simp [h1], h2, h3⟩
theorem objsOf_mem {H : List (Nat × DObj)} {k : Nat} {o : DObj} (h : objsOf H k = some o) : (k, o) ∈ H := by
  induction H with
  | nil => simp [objsOf] at h
  | cons q r ih =>
    obtain ⟨u, d⟩ := q
    simp only [objsOf] at h
    cases hb : Nat.beq k u with
    | true => rw [hb] at h; simp at h; rw [Nat.eq_of_beq_eq_true hb, h]; simp
    | false => rw [hb] at h; simp at h; simp [ih h]

def newμ (L : DH) (μ : Nat → Loc) : Nat → Loc := fun k => match L.get k with | some _ => μ k | none => ⟨0, 0⟩
theorem newμ_old {L : DH} {μ : Nat → Loc} {k : Nat} {o : DObj} (h : L.get k = some o) : newμ L μ k = μ k := by simp [newμ, h]
theorem newμ_new {L : DH} {μ : Nat → Loc} {k : Nat} (h : L.get k = none) : newμ L μ k = ⟨0, 0⟩ := by simp [newμ, h]

section weak
variable {L : DH} {μ : Nat → Loc} {w : World} {e : Env} {E : List (Nat × DV)} {nx : Nat} {H : List (Nat × DObj)}

theorem Wk.old (hk : Wk e L E nx H) {k : Nat} {o' : DObj} (h : objsOf H k = some o') : (∃ o, L.get k = some o ∧ (o = o' ∨ (∃ cs cs', o = .var cs ∧ o' = .var cs') ∨ ∃ sz es, o = .arr sz es ∧ o' = .fz es ∧ ∀ q, q ∈ es → q.cells.length = sz)) ∨ (L.get k = none ∧ L.next ≤ k ∧ ∃ sz, o' = .arr sz []) := by
  have hm := objsOf_mem h
  have ho := hk.obj _ hm
  generalize hkk : (k, o').1 = k2 at ho
  generalize hoo : (k, o').2 = o2 at ho
  simp only at hkk hoo
  subst hkk; subst hoo
  cases ho with
  | same _ h1 => exact .inl ⟨_, h1, .inl rfl⟩
  | new sz h1 => exact .inr ⟨h1, hk.new _ hm h1, sz, rfl⟩
  | var cs cs' h1 h2 h3 => exact .inl ⟨_, h1, .inr (.inl ⟨cs, cs', rfl, rfl⟩)⟩
  | fz sz es h1 h2 => exact .inl ⟨_, h1, .inr (.inr ⟨sz, es, rfl, rfl, h2⟩)⟩

theorem Wk.tot (hk : Wk e L E nx H) {b : Nat} (h : Tot M (newμ L μ) (hOf L nx H) b) : Tot M μ L b := by
  rcases h with h | ⟨k, o, h1, h2, h3⟩
  · exact .inl h
  · rcases hk.old h1 with ⟨o1, g1, g2⟩ | ⟨g1, _, sz, rfl⟩
    · rw [newμ_old g1] at h2 h3
      refine .inr ⟨k, o1, g1, ?_, h3⟩
      rcases g2 with rfl | ⟨cs, cs', rfl, rfl⟩ | ⟨sz, es, rfl, rfl, _⟩
      · exact h2
      · trivial
      · exact h2.elim
    · rw [newμ_new g1] at h2
      exact absurd rfl h2

theorem Wk.rel_same (_h : HR M w0 μ L w) (hk : Wk e L E nx H) {d : DV} {v : Value} (hr : RelV (Tot M μ L) w μ L d v) (hu : d.under L.next = true) : RelV (Tot M (newμ L μ) (hOf L nx H)) w (newμ L μ) (hOf L nx H) d v := by
  have hsub : ∀ b, Tot M (newμ L μ) (hOf L nx H) b → Tot M μ L b := fun b hb => hk.tot hb
  induction hr with
  | pv p v h => exact .pv p v (h.sub hsub)
  | e0 a => exact .e0 a
  | agg l vs h1 _ ih => simp only [DV.under] at hu; exact .agg l vs h1 fun i d v hi hv => ih i d v hi hv (unders_iff.1 hu i d hi)
  | tup l vs h1 _ ih => simp only [DV.under] at hu; exact .tup l vs h1 fun i d v hi hv => ih i d v hi hv (unders_iff.1 hu i d hi)
  | ref k c v h1 h2 =>
    simp only [DV.under, blt_iff] at hu
    refine .ref k c v h1 fun cs hc => ?_
    rcases hk.old hc with ⟨o1, g1, g2⟩ | ⟨g1, g3, _⟩
    · rw [newμ_old g1]
      rcases g2 with rfl | ⟨cs0, cs', rfl, _⟩ | ⟨sz, es, rfl, e, _⟩
      · exact h2 cs g1
      · exact h2 cs0 g1
      · cases e
    · omega
  | aref k n i c v h1 h2 h3 =>
    simp only [DV.under, blt_iff] at hu
    refine .aref k n i c v h1 (fun sz es hc => ?_) (fun es hc => ?_)
    · rcases hk.old hc with ⟨o1, g1, g2⟩ | ⟨g1, g3, _⟩
      · rw [newμ_old g1]
        rcases g2 with rfl | ⟨_, _, _, e⟩ | ⟨_, _, _, e, _⟩
        · exact h2 sz es g1
        · cases e
        · cases e
      · omega
    · rcases hk.old hc with ⟨o1, g1, g2⟩ | ⟨g1, g3, _⟩
      · rw [newμ_old g1]
        rcases g2 with rfl | ⟨_, _, _, e⟩ | ⟨sz, es', rfl, e, hq⟩
        · exact h3 es g1
        · cases e
        · cases e
          obtain ⟨q1, q2⟩ := h2 sz es g1
          refine ⟨q1, fun hn p hp => ⟨sz, hq, q2 hn ?_⟩⟩
          have := getE_lt hp
          omega
      · omega
  | eptr p c b off val h1 h2 h3 h4 => exact .eptr p c b off val (fun hb => h1 (hsub b hb)) h2 h3 fun j q hj => (h4 j q hj).sub hsub
  | buf k n v h1 h2 h3 =>
    simp only [DV.under, blt_iff] at hu
    refine .buf k n v h1 (fun sz es hc => ?_) (fun es hc => ?_)
    · rcases hk.old hc with ⟨o1, g1, g2⟩ | ⟨g1, g3, _⟩
      · rw [newμ_old g1]
        rcases g2 with rfl | ⟨_, _, _, e⟩ | ⟨_, _, _, e, _⟩
        · exact h2 sz es g1
        · cases e
        · cases e
      · omega
    · rcases hk.old hc with ⟨o1, g1, g2⟩ | ⟨g1, g3, _⟩
      · rw [newμ_old g1]
        rcases g2 with rfl | ⟨_, _, _, e⟩ | ⟨sz, es', rfl, e, hq⟩
        · exact h3 es g1
        · cases e
        · cases e; exact h2 sz es g1
      · omega
  | mp k v h1 h2 =>
    simp only [DV.under, blt_iff] at hu
    refine .mp k v h1 fun es hc => ?_
    rcases hk.old hc with ⟨o1, g1, g2⟩ | ⟨g1, g3, _⟩
    · rw [newμ_old g1]
      rcases g2 with rfl | ⟨_, _, _, e⟩ | ⟨_, _, _, e, _⟩
      · exact h2 es g1
      · cases e
      · cases e
    · omega
  | clo f first caps fs cs h1 h2 _ _ ih1 ih2 =>
    simp only [DV.under, Bool.and_eq_true] at hu
    exact .clo f first caps fs cs h1 h2 (fun i d v hi hv => ih1 i d v hi hv (unders_iff.1 hu.1 i d hi)) (fun i d v hi hv => ih2 i d v hi hv (unders_iff.1 hu.2 i d hi))
  | when c d v _ h2 ih => exact .when c d v (fun hc => ih hc (by simpa [DV.under, hc] using hu)) h2
  | fnv v => exact .fnv v
  | raw v => exact .raw v
  | any v => exact .any v

theorem Wk.rel (h : HR M w0 μ L w) (hk : Wk e L E nx H) {d d' : DV} {v : Value} (hd : WkD L H d d') (hr : RelV (Tot M μ L) w μ L d v) (hu : d.under L.next = true) : RelV (Tot M (newμ L μ) (hOf L nx H)) w (newμ L μ) (hOf L nx H) d' v := by
  cases hd with
  | same => exact hk.rel_same h hr hu
  | any => exact .any v
  | new _ k sz h1 h2 h3 =>
    obtain ⟨ad, rfl⟩ : ∃ ad, v = .slice ad 0 0 := by
      rcases h1 with rfl | rfl
      · exact ⟨none, pvN hr⟩
      · cases hr; exact ⟨_, rfl⟩
    refine .buf k 0 _ ⟨_, _, rfl⟩ (fun sz' es hc => ?_) (fun es hc => ?_)
    · exact ⟨Nat.zero_le _, fun _ => .inl ⟨by rw [newμ_new h2], rfl, ad, rfl⟩⟩
    · have : objsOf H k = some (.fz es) := hc
      rw [h3] at this; cases this
  | fz k n es h1 h2 h3 =>
    refine .pv _ _ ?_
    rcases h2 with ⟨sz, h2⟩ | h2
    · refine buf_relP h h2 hr h3 (fun hc => ?_) (fun b hb => hk.tot hb)
      rintro (hM | ⟨j, o, g1, g2, g3⟩)
      · exact (h.live k _ h2 hc).2.1 hM
      · rcases hk.old g1 with ⟨o1, q1, q2⟩ | ⟨q1, _, sz', rfl⟩
        · rw [newμ_old q1] at g2 g3
          have hlv : liveAt (μ j) o1 := by
            rcases q2 with rfl | ⟨_, _, rfl, rfl⟩ | ⟨_, _, rfl, rfl, _⟩
            · exact g2
            · trivial
            · exact g2.elim
          have := h.inj j o1 k _ q1 hlv h2 hc g3
          subst this
          have g1' : objsOf H j = some o := g1
          rw [h1] at g1'; cases g1'
        · rw [newμ_new q1] at g2; exact absurd rfl g2
    · exact (fz_relP h h2 hr h3).sub fun b hb => hk.tot hb
  | nil _ h1 =>
    refine .pv _ _ ?_
    rcases h1 with rfl | rfl
    · rw [pvN hr]; exact .e0 _ _
    · cases hr; exact .e0 _ _

theorem Wk.heap (h : HR M w0 μ L w) (hk : Wk e L E nx H) : HR M w0 (newμ L μ) (hOf L nx H) w where
  ext := h.ext
  mlt := h.mlt
  keys := fun k o ho => by
    have hm := objsOf_mem ho
    have := hk.undero _ hm
    exact ⟨by show k < nx; simpa [Nat.blt_eq] using this.1, this.2⟩
  live := fun k o ho hl => by
    rcases hk.old ho with ⟨o1, g1, g2⟩ | ⟨g1, _, sz, rfl⟩
    · rw [newμ_old g1] at hl ⊢
      refine h.live k o1 g1 ?_
      rcases g2 with rfl | ⟨_, _, rfl, rfl⟩ | ⟨_, _, rfl, rfl, _⟩
      · exact hl
      · trivial
      · exact hl.elim
    · rw [newμ_new g1] at hl; exact absurd rfl hl
  inj := fun k o k' o' ho hl ho' hl' he => by
    have lv : ∀ k o, (hOf L nx H).get k = some o → liveAt (newμ L μ k) o → ∃ o1, L.get k = some o1 ∧ liveAt (μ k) o1 ∧ newμ L μ k = μ k := by
      intro k o ho hl
      rcases hk.old ho with ⟨o1, g1, g2⟩ | ⟨g1, _, sz, rfl⟩
      · rw [newμ_old g1] at hl ⊢
        refine ⟨o1, g1, ?_, rfl⟩
        rcases g2 with rfl | ⟨_, _, rfl, rfl⟩ | ⟨_, _, rfl, rfl, _⟩
        · exact hl
        · trivial
        · exact hl.elim
      · rw [newμ_new g1] at hl; exact absurd rfl hl
    obtain ⟨o1, a1, a2, a3⟩ := lv k o ho hl
    obtain ⟨o2, b1, b2, b3⟩ := lv k' o' ho' hl'
    exact h.inj k o1 k' o2 a1 a2 b1 b2 (by rw [← a3, ← b3]; exact he)
  obj := fun k o ho => by
    have hm := objsOf_mem ho
    have hob := hk.obj _ hm
    simp only at hob
    have hsub : ∀ b, Tot M (newμ L μ) (hOf L nx H) b → Tot M μ L b := fun b hb => hk.tot hb
    cases hob with
    | same _ h1 =>
      have := h.obj k o h1
      cases o with
      | var cs =>
        obtain ⟨vs, ty, q1, q2, q3⟩ := this
        exact ⟨vs, ty, by rw [newμ_old h1]; exact q1, q2, fun i d v hi hv => hk.rel_same h (q3 i d v hi hv) (unders_iff.1 (h.keys k _ h1).2 i d hi)⟩
      | arr sz es =>
        rcases this with ⟨q1, q2⟩ | ⟨vs, ty, q0, q1, q2, q3, q4, q5⟩
        · exact .inl ⟨by rw [newμ_old h1]; exact q1, q2⟩
        · refine .inr ⟨vs, ty, by rw [newμ_old h1]; exact q0, by rw [newμ_old h1]; exact q1, by rw [newμ_old h1]; exact q2, by rw [newμ_old h1]; exact q3, q4, fun i p j q hi hj => ?_⟩
          obtain ⟨v, hv, hr⟩ := q5 i p j q hi hj
          exact ⟨v, hv, hr.sub hsub⟩
      | fz l =>
        rcases this with ⟨q1, q2⟩ | ⟨q1, q2, q3⟩
        · exact .inl ⟨by rw [newμ_old h1]; exact q1, q2⟩
        · exact .inr ⟨by rw [newμ_old h1]; exact q1, by rw [newμ_old h1]; exact q2, by rw [newμ_old h1]; exact q3.sub hsub⟩
      | mp es =>
        obtain ⟨ents, clock, q1, q2, q3⟩ := this
        exact ⟨ents, clock, by rw [newμ_old h1]; exact q1, q2, fun i kv e hi he => ⟨(q3 i kv e hi he).1.sub hsub, (q3 i kv e hi he).2.sub hsub⟩⟩
    | new sz h1 => exact .inl ⟨by rw [newμ_new h1], rfl⟩
    | var cs cs' h1 h2 h3 =>
      obtain ⟨vs, ty, q1, q2, q3⟩ := h.obj k _ h1
      refine ⟨vs, ty, by rw [newμ_old h1]; exact q1, by omega, fun i d v hi hv => ?_⟩
      have hlt := getE_lt hi
      have hci : cs[i]? = some (cs[i]'(by omega)) := List.getElem?_eq_getElem (by omega)
      exact hk.rel h (h3 i _ d hci hi) (q3 i _ v hci hv) (unders_iff.1 (h.keys k _ h1).2 i _ hci)
    | fz sz es h1 h2 =>
      rcases h.obj k _ h1 with ⟨q1, q2⟩ | ⟨vs, ty, q0, q1, q2, q3, q4, q5⟩
      · exact .inl ⟨by rw [newμ_old h1]; exact q1, q2⟩
      · refine .inr ⟨by rw [newμ_old h1]; exact q2, by rw [newμ_old h1]; exact q0, ?_⟩
        rw [newμ_old h1]
        refine arr_relP h h1 q0 ?_ hsub
        rintro (hM | ⟨j, o, g1, g2, g3⟩)
        · exact (h.live k _ h1 q0).2.1 hM
        · rcases hk.old g1 with ⟨o1, r1, r2⟩ | ⟨r1, _, sz', rfl⟩
          · rw [newμ_old r1] at g2 g3
            have hlv : liveAt (μ j) o1 := by
              rcases r2 with rfl | ⟨_, _, rfl, rfl⟩ | ⟨_, _, rfl, rfl, _⟩
              · exact g2
              · trivial
              · exact g2.elim
            have := h.inj j o1 k _ r1 hlv h1 q0 g3
            subst this
            have ho' : objsOf H j = some (.fz es) := ho
            have g1' : objsOf H j = some o := g1
            rw [ho'] at g1'; cases g1'
            exact g2
          · rw [newμ_new r1] at g2; exact absurd rfl g2
  base := hk.base
  lob := hk.lo

theorem Wk.stp (_h : HR M w0 μ L w) (hk : Wk e L E nx H) {L0 : DH} {μ0 : Nat → Loc} {ws : World} (hs : Stp L0 μ0 ws L μ w) (hb : L0.next ≤ nx) : Stp L0 μ0 ws (hOf L nx H) (newμ L μ) w := by
  have h0 : L0.next ≤ L.next := hs.next
  refine ⟨⟨?_, ?_, ?_, ?_⟩, hs.os, hs.tape, hs.output, hs.size, hs.same, ?_, hb, hs.lo, hs.base⟩
  · intro k cs' hkl hc
    rcases hk.old hc with ⟨o1, g1, g2⟩ | ⟨g1, g3, sz, e⟩
    · rw [newμ_old g1]
      rcases g2 with rfl | ⟨cs, _, rfl, _⟩ | ⟨_, _, _, e, _⟩
      · exact hs.evo.var k _ hkl g1
      · exact hs.evo.var k _ hkl g1
      · cases e
    · cases e
  · intro k es' hkl hc
    rcases hk.old hc with ⟨o1, g1, g2⟩ | ⟨g1, g3, sz, e⟩
    · rw [newμ_old g1]
      rcases g2 with rfl | ⟨_, _, _, e⟩ | ⟨_, _, _, e, _⟩
      · exact hs.evo.mp k _ hkl g1
      · cases e
      · cases e
    · cases e
  · intro k sz es' hkl hc
    rcases hk.old hc with ⟨o1, g1, g2⟩ | ⟨g1, g3, _⟩
    · rw [newμ_old g1]
      rcases g2 with rfl | ⟨_, _, _, e⟩ | ⟨_, _, _, e, _⟩
      · exact hs.evo.arr k _ _ hkl g1
      · cases e
      · cases e
    · omega
  · intro k es' hkl hc
    rcases hk.old hc with ⟨o1, g1, g2⟩ | ⟨g1, g3, sz, e⟩
    · rw [newμ_old g1]
      rcases g2 with rfl | ⟨_, _, _, e⟩ | ⟨sz, es, rfl, e, hq⟩
      · exact hs.evo.fz k _ hkl g1
      · cases e
      · cases e
        obtain ⟨es0, r1, r2⟩ := hs.evo.arr k sz es' hkl g1
        exact .inr ⟨sz, es0, r1, hq, r2⟩
    · cases e
  · intro k o ho hl
    rcases hk.old ho with ⟨o1, g1, g2⟩ | ⟨g1, _, sz, rfl⟩
    · rw [newμ_old g1] at hl ⊢
      refine hs.blk k o1 g1 ?_
      rcases g2 with rfl | ⟨_, _, rfl, rfl⟩ | ⟨_, _, rfl, rfl, _⟩
      · exact hl
      · trivial
      · exact hl.elim
    · rw [newμ_new g1] at hl; exact absurd rfl hl

theorem Wk.sim {a : Act} (h : Sim M w0 N μ e L a w) (hk : Wk e L E nx H) : Sim M w0 N (newμ L μ) (envOf E) (hOf L nx H) a w where
  hr := hk.heap h.hr
  env := fun t => by
    rcases envOf_mem (E := E) (t := t) with he | ⟨q, h1, rfl, he⟩
    · rw [he]; exact .any _
    · rw [he]; exact hk.rel h.hr (hk.env q h1) (h.env q.1) (h.und q.1)
  und := fun t => by
    rcases envOf_mem (E := E) (t := t) with he | ⟨q, h1, rfl, he⟩
    · rw [he]; rfl
    · rw [he]; exact hk.under q h1
  defers := h.defers
  size := h.size
end weak
end
end Go.Dv
