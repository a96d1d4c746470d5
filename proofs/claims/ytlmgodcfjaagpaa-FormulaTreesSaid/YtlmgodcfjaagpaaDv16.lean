/- The layer Dv, part 16: what comes of an operation is told by its operands; regions whose order is open. -/
import Derived.Test.YtlmgodcfjaagpaaDv14
namespace Go.Dv
section
variable {P : Program} {M : Nat → Prop} {w0 : World}

theorem ldCells_det {t : TypeId} {cs : List DV} {c : Nat} {K : DV → Prop} (h : ldCells P t cs c K) : ∃ d, K d ∧ ∀ K' : DV → Prop, K' d → ldCells P t cs c K' := by
  unfold ldCells at *
  split at h
  · split at h
    · exact ⟨_, h, fun K' h' => h'⟩
    · exact h.elim
  · split at h
    · exact ⟨_, h, fun K' h' => h'⟩
    · exact h.elim
  · exact h.elim

mutual
theorem pur_det : ∀ (d : DV) (K : PV → Prop), pur d K → ∃ p, K p ∧ ∀ K' : PV → Prop, K' p → pur d K'
  | .pv p, K => fun h => ⟨p, h, fun _ h' => h'⟩
  | .e0, K => fun h => ⟨_, h, fun _ h' => h'⟩
  | .agg l, K => fun h => by
    simp only [pur] at h ⊢
    obtain ⟨ps, h1, h2⟩ := purs_det l _ h
    exact ⟨_, h1, fun K' h' => h2 (fun ps => K' (.agg ps)) h'⟩
  | .tup l, K => fun h => by
    simp only [pur] at h ⊢
    obtain ⟨ps, h1, h2⟩ := purs_det l _ h
    exact ⟨_, h1, fun K' h' => h2 (fun ps => K' (.tup ps)) h'⟩
  | .ref _ _, _ => fun h => by simp [pur] at h
  | .aref _ _ _ _, _ => fun h => by simp [pur] at h
  | .eptr _ _, _ => fun h => by simp [pur] at h
  | .buf _ _, _ => fun h => by simp [pur] at h
  | .mp _, _ => fun h => by simp [pur] at h
  | .clo _ _ _, _ => fun h => by simp [pur] at h
  | .fnv _, _ => fun h => by simp [pur] at h
  | .when _ _, _ => fun h => by simp [pur] at h
  | .raw _, _ => fun h => by simp [pur] at h
  | .any, _ => fun h => by simp [pur] at h
theorem purs_det : ∀ (l : List DV) (K : List PV → Prop), purs l K → ∃ ps, K ps ∧ ∀ K' : List PV → Prop, K' ps → purs l K'
  | [], K => fun h => ⟨[], h, fun _ h' => h'⟩
  | d :: r, K => fun h => by
    simp only [purs] at h ⊢
    obtain ⟨p, h1, h2⟩ := pur_det d _ h
    obtain ⟨ps, h3, h4⟩ := purs_det r _ h1
    exact ⟨_, h3, fun K' h' => h2 (fun p => purs r fun ps => K' (p :: ps)) (h4 (fun ps => K' (p :: ps)) h')⟩
end

theorem pickV_det {t : Bool} {a b : DV} {K : DV → Prop} (h : pickV t a b K) : ∃ d, K d ∧ ∀ K' : DV → Prop, K' d → pickV t a b K' := by
  unfold pickV at *
  split at h
  · exact ⟨_, h, fun K' h' => h'⟩
  · exact ⟨_, h.2, fun K' h' => ⟨h.1, h'⟩⟩
  · exact ⟨_, h.2, fun K' h' => ⟨h.1, h'⟩⟩
  · exact ⟨_, h.2.2, fun K' h' => ⟨h.1, h.2.1, h'⟩⟩
  · exact h.elim

theorem vcInt_det {op : BinOp} {k k' : IntKind} {a b : Int} {K : DV → Prop} (h : vcInt op k a k' b K) : ∃ d, K d ∧ ∀ K' : DV → Prop, K' d → vcInt op k a k' b K' := by
  unfold vcInt at *
  cases op <;> simp only at h ⊢
  case shl => exact ⟨_, h.2, fun K' h' => ⟨h.1, h'⟩⟩
  case shr => exact ⟨_, h.2, fun K' h' => ⟨h.1, h'⟩⟩
  all_goals
    split at h
    · exact h.elim
    · first
      | exact ⟨_, h.2, fun K' h' => ⟨h.1, h'⟩⟩
      | exact ⟨_, h, fun K' h' => h'⟩
      | exact h.elim

theorem vcBin_det {op : BinOp} {t : TypeId} {x y : DV} {K : DV → Prop} (h : vcBin P op t x y K) : ∃ d, K d ∧ ∀ K' : DV → Prop, K' d → vcBin P op t x y K' := by
  unfold vcBin at *
  split at h
  · exact vcInt_det h
  · split at h
    · cases op <;> first | exact h.elim | exact ⟨_, h, fun K' h' => by simp [*]⟩
    · exact h.elim
  · cases op <;> first | exact h.elim | exact ⟨_, h.2, fun K' h' => ⟨h.1, h'⟩⟩ | exact ⟨_, h, fun K' h' => h'⟩
  · rename_i xs ys
    obtain ⟨ps, h1, h2⟩ := purs_det _ _ h
    obtain ⟨qs, h3, h4⟩ := purs_det _ _ h1
    obtain ⟨g1, g2, g3, g4⟩ := h3
    cases op <;> first | exact g4.elim | exact ⟨_, g4, fun K' h' => h2 (fun ps => purs ys fun qs => _ ∧ _ ∧ _ ∧ K' _) (h4 (fun qs => _ ∧ _ ∧ _ ∧ K' _) ⟨g1, g2, g3, h'⟩)⟩
  · split at h
    · cases op <;> first | exact h.elim | exact ⟨_, h, fun K' h' => by simp [*]⟩
    · exact h.elim
  · split at h
    · cases op <;> first | exact h.elim | exact ⟨_, h, fun K' h' => by simp [*]⟩
    · exact h.elim
  · exact h.elim

variable {ρ : Operand → DV} {L : DH} {o : Oper} {K : DV → DH → Prop}

theorem det0 (hc : opCls o.op = 0) (h : vcOp P M w0 true ρ L o K) : ∃ d, K d L ∧ ∀ (L' : DH) (K' : DV → DH → Prop), K' d L' → vcOp P M w0 true ρ L' o K' := by
  cases ho : o.op <;> simp only [ho, opCls] at hc <;> try (cases hc; done)
  case call => split at hc <;> cases hc
  all_goals (try simp only [vcOp, ho] at h ⊢)
  case move => exact ⟨_, h, fun L' K' h' => h'⟩
  case assign => exact ⟨_, h, fun L' K' h' => h'⟩
  case pick => 
    split at h
    · obtain ⟨d, h1, h2⟩ := pickV_det h
      exact ⟨d, h1, fun L' K' h' => h2 (fun d => K' d L') h'⟩
    · obtain ⟨d, h1, h2⟩ := pickV_det h.2
      exact ⟨d, h1, fun L' K' h' => ⟨h.1, h2 (fun d => K' d L') h'⟩⟩
    · exact h.elim
  case build =>
    split at h
    · split at h
      · exact ⟨_, h, fun L' K' h' => h'⟩
      · exact h.elim
    · exact h.elim
  case buildSlice t n parts =>
    split at h
    · split at h
      · rename_i hx; cases hx
      · obtain ⟨ps, h1, h2⟩ := purs_det _ _ h
        cases n with
        | zero => exact ⟨_, h1.2, fun L' K' h' => h2 (fun ps => _ ∧ K' _ L') ⟨h1.1, h'⟩⟩
        | succ n => exact ⟨_, h1.2, fun L' K' h' => h2 (fun ps => _ ∧ K' _ L') ⟨h1.1, h'⟩⟩
      · exact h.elim
    · exact h.elim
  case binOp =>
    obtain ⟨d, h1, h2⟩ := vcBin_det h
    exact ⟨d, h1, fun L' K' h' => h2 (fun d => K' d L') h'⟩
  case unOp =>
    split at h
    · exact ⟨_, h, fun L' K' h' => h'⟩
    · exact ⟨_, h, fun L' K' h' => h'⟩
    · exact ⟨_, h, fun L' K' h' => h'⟩
    · exact h.elim
  case convert =>
    split at h
    · exact ⟨_, h, fun L' K' h' => h'⟩
    · exact ⟨_, h, fun L' K' h' => h'⟩
    · exact h.elim
  case makeFunc fn _ _ =>
    cases fn with
    | func f => simp only at h ⊢; exact ⟨_, h, fun L' K' h' => h'⟩
    | _ => simp only at h
  case slice =>
    split at h
    · obtain ⟨h1, h2, a, b, h3, h4, h5, h6, h7⟩ := h
      exact ⟨_, h7, fun L' K' h' => ⟨h1, h2, a, b, h3, h4, h5, h6, h'⟩⟩
    · obtain ⟨h1, a, b, h3, h4, h5, h6, h7⟩ := h
      exact ⟨_, h7, fun L' K' h' => ⟨h1, a, b, h3, h4, h5, h6, h'⟩⟩
    · exact h.elim
  case field =>
    split at h
    · obtain ⟨d, h1, h2⟩ := ldCells_det h
      exact ⟨d, h1, fun L' K' h' => h2 (fun d => K' d L') h'⟩
    · exact h.elim
  case extract =>
    split at h
    · split at h
      · exact ⟨_, h, fun L' K' h' => h'⟩
      · exact h.elim
    · exact h.elim

theorem brwdc_det {f : FuncId} {args : List DV} (h : DCD P f args L K) : ∃ d, K d L ∧ ∀ K' : DV → DH → Prop, K' d L → DCD P f args L K' := by
  obtain ⟨p, h1, h2, h3⟩ := h
  exact ⟨_, h3, fun K' h' => ⟨p, h1, h2, h'⟩⟩

theorem det1 (hc : opCls o.op = 1) (h : vcOp P M w0 true ρ L o K) : ∃ d, K d L ∧ ∀ (K' : DV → DH → Prop), K' d L → vcOp P M w0 true ρ L o K' := by
  cases ho : o.op <;> simp only [ho, opCls] at hc <;> try (cases hc; done)
  all_goals (try simp only [vcOp, ho] at h ⊢)
  case load =>
    split at h
    · split at h
      · obtain ⟨d, h1, h2⟩ := ldCells_det h
        exact ⟨d, h1, fun K' h' => h2 (fun d => K' d L) h'⟩
      · exact h.elim
    · obtain ⟨d, h1, h2⟩ := ldCells_det h
      exact ⟨d, h1, fun K' h' => h2 (fun d => K' d L) h'⟩
    · split at h
      · obtain ⟨g1, p, g2, h⟩ := h
        obtain ⟨d, h1, h2⟩ := ldCells_det h
        exact ⟨d, h1, fun K' h' => ⟨g1, p, g2, h2 (fun d => K' d L) h'⟩⟩
      · obtain ⟨g1, p, g2, h⟩ := h
        obtain ⟨d, h1, h2⟩ := ldCells_det h
        exact ⟨d, h1, fun K' h' => ⟨g1, p, g2, h2 (fun d => K' d L) h'⟩⟩
      · exact h.elim
    · exact h.elim
  case nilCheck =>
    split at h
    · split at h
      · exact ⟨_, h, fun K' h' => h'⟩
      · exact h.elim
    · exact ⟨_, h, fun K' h' => h'⟩
    · exact ⟨_, h, fun K' h' => h'⟩
    · exact h.elim
  case fieldAddr =>
    split at h
    · split at h
      · split at h
        · exact ⟨_, h, fun K' h' => h'⟩
        · exact h.elim
      · split at h
        · exact ⟨_, h.2.2, fun K' h' => ⟨h.1, h.2.1, h'⟩⟩
        · exact h.elim
      · exact ⟨_, h, fun K' h' => h'⟩
      · exact h.elim
    · exact h.elim
  case indexAddr =>
    split at h
    · obtain ⟨h1, n, p, h2, h3, h4, h5⟩ := h
      exact ⟨_, h5, fun K' h' => ⟨h1, n, p, h2, h3, h4, h'⟩⟩
    · split at h
      · split at h
        · obtain ⟨h1, m, h2, h3, h4⟩ := h
          exact ⟨_, h4, fun K' h' => ⟨h1, m, h2, h3, h'⟩⟩
        · exact h.elim
      · obtain ⟨h1, h2, m, p, h3, h4, h5, h6⟩ := h
        exact ⟨_, h6, fun K' h' => ⟨h1, h2, m, p, h3, h4, h5, h'⟩⟩
      · exact h.elim
    · exact h.elim
  case lookup t m k ok =>
    split at h
    · split at h
      · obtain ⟨kp, ⟨h1, h2, r, h3, h4⟩, h5⟩ := pur_det _ _ h
        cases r <;> cases ok <;> exact ⟨_, h4, fun K' h' => h5 (fun kp => _ ∧ _ ∧ ∃ r, mfind _ kp = r ∧ _) ⟨h1, h2, _, h3, h'⟩⟩
      · exact h.elim
    · exact h.elim
  case call c =>
    split at h
    · rename_i b hb
      rw [hb] at hc
      unfold vcBuiltin at *
      split at h
      · split at h
        · split at h
          · exact ⟨_, h, fun K' h' => h'⟩
          · exact ⟨_, h, fun K' h' => h'⟩
          · exact ⟨_, h, fun K' h' => h'⟩
          · exact ⟨_, h, fun K' h' => h'⟩
          · exact ⟨_, h, fun K' h' => h'⟩
          · exact h.elim
        · exact h.elim
      · simp at hc
      · split at h
        · exact ⟨_, h, fun K' h' => by simp [*]⟩
        · exact h.elim
      · split at h
        · exact ⟨_, h, fun K' h' => by simp [*]⟩
        · exact h.elim
      · exact h.elim
    · split at h
      · rename_i hx; cases hx
      · exact brwdc_det h
      · rename_i hx; cases hx
      · exact h.elim
    · exact h.elim

/-! more may follow -/

theorem Out.mono {K K' : DV → DH → Prop} {μ : Nat → Loc} {w w' : World} {v : Value} (hk : ∀ d L', K d L' → K' d L') (h : Out M w0 μ L w K v w') : Out M w0 μ L w K' v w' := by
  obtain ⟨μ', d, L', h1, h2⟩ := h
  exact ⟨μ', d, L', hk _ _ h1, h2⟩
theorem DC.mono {f : FuncId} {args : List DV} {K K' : DV → DH → Prop} (h : DC P M w0 f args L K) (hk : ∀ d L', K d L' → K' d L') : DC P M w0 f args L K' := by
  obtain ⟨h1, h2⟩ := h.elim
  refine DC.mk ⟨h1, fun μ w vs a b c => (h2 μ w vs a b c).mono ?_⟩
  rintro e w' ⟨v, he, ho⟩
  exact ⟨v, he, ho.mono hk⟩
theorem DCV.mono {f : Value} {args : List DV} {K K' : DV → DH → Prop} (h : DCV P M w0 f args L K) (hk : ∀ d L', K d L' → K' d L') : DCV P M w0 f args L K' := by
  obtain ⟨f, fs, cs, he, h1, h2⟩ := h.elim
  unfold DCV
  refine ⟨f, fs, cs, he, h1, fun μ w vs a b c => (h2 μ w vs a b c).mono ?_⟩
  rintro e w' ⟨v, he, ho⟩
  exact ⟨v, he, ho.mono hk⟩

mutual
theorem frz_mono : ∀ (d : DV) (L : DH) (K K' : PV → DH → Prop), (∀ p L', K p L' → K' p L') → frz d L K → frz d L K'
  | .pv p, L, K, K' => fun hk h => hk _ _ h
  | .e0, L, K, K' => fun hk h => hk _ _ h
  | .buf k n, L, K, K' => fun hk h => by
    simp only [frz] at h ⊢
    split at h
    · exact ⟨h.1, h.2.1, hk _ _ h.2.2⟩
    · exact ⟨h.1, hk _ _ h.2⟩
    · exact h.elim
  | .agg l, L, K, K' => fun hk h => by
    simp only [frz] at h ⊢
    exact frzs_mono l L _ _ (fun _ _ h => hk _ _ h) h
  | .tup l, L, K, K' => fun hk h => by
    simp only [frz] at h ⊢
    exact frzs_mono l L _ _ (fun _ _ h => hk _ _ h) h
  | .ref _ _, _, _, _ => fun _ h => by simp [frz] at h
  | .aref _ _ _ _, _, _, _ => fun _ h => by simp [frz] at h
  | .eptr _ _, _, _, _ => fun _ h => by simp [frz] at h
  | .mp _, _, _, _ => fun _ h => by simp [frz] at h
  | .clo _ _ _, _, _, _ => fun _ h => by simp [frz] at h
  | .fnv _, _, _, _ => fun _ h => by simp [frz] at h
  | .when _ _, _, _, _ => fun _ h => by simp [frz] at h
  | .raw _, _, _, _ => fun _ h => by simp [frz] at h
  | .any, _, _, _ => fun _ h => by simp [frz] at h
theorem frzs_mono : ∀ (l : List DV) (L : DH) (K K' : List PV → DH → Prop), (∀ p L', K p L' → K' p L') → frzs l L K → frzs l L K'
  | [], L, K, K' => fun hk h => hk _ _ h
  | d :: r, L, K, K' => fun hk h => by
    simp only [frzs] at h ⊢
    exact frz_mono d L _ _ (fun p L' h => frzs_mono r L' _ _ (fun _ _ h => hk _ _ h) h) h
end
theorem pur_mono {d : DV} {K K' : PV → Prop} (hk : ∀ p, K p → K' p) (h : pur d K) : pur d K' := by
  obtain ⟨p, h1, h2⟩ := pur_det _ _ h
  exact h2 K' (hk p h1)
theorem purs_mono {d : List DV} {K K' : List PV → Prop} (hk : ∀ p, K p → K' p) (h : purs d K) : purs d K' := by
  obtain ⟨p, h1, h2⟩ := purs_det _ _ h
  exact h2 K' (hk p h1)
theorem srcOf_mono {x : DV} {K K' : List PV → Prop} (hk : ∀ p, K p → K' p) (h : srcOf x L K) : srcOf x L K' := by
  unfold srcOf at *
  split at h
  · exact hk _ h
  · exact hk _ h
  · exact hk _ h
  · split at h
    · exact ⟨h.1, hk _ h.2⟩
    · exact ⟨h.1, hk _ h.2⟩
    · exact h.elim
  · exact h.elim
theorem vcApp_mono {t t2 : TypeId} {s x : DV} {K K' : DV → DH → Prop} (hk : ∀ d L', K d L' → K' d L') (h : vcApp P t t2 s x L K) : vcApp P t t2 s x L K' := by
  unfold vcApp at *
  split at h
  · split at h
    · refine ⟨h.1, ?_⟩
      have h := h.2
      split at h
      · refine srcOf_mono (fun xs h => ⟨h.1, h.2.1, ?_⟩) h
        have h := h.2.2
        cases xs <;> exact hk _ _ h
      · refine srcOf_mono (fun xs h => ⟨h.1, h.2.1, ?_⟩) h
        have h := h.2.2
        cases xs <;> exact hk _ _ h
      · split at h
        · split at h
          · exact ⟨h.1, srcOf_mono (fun xs h => ⟨h.1, h.2.1, hk _ _ h.2.2⟩) h.2⟩
          · exact h.elim
        · exact h.elim
      · exact h.elim
    · exact h.elim
  · exact h.elim

theorem vcOp_mono {dr : Bool} {K K' : DV → DH → Prop} (hk : ∀ d L', K d L' → K' d L') (h : vcOp P M w0 dr ρ L o K) : vcOp P M w0 dr ρ L o K' := by
  cases ho : o.op
  case move => simp only [vcOp, ho] at h ⊢; exact hk _ _ h
  case assign => simp only [vcOp, ho] at h ⊢; exact hk _ _ h
  case pick =>
    simp only [vcOp, ho] at h ⊢
    split at h
    · obtain ⟨d, h1, h2⟩ := pickV_det h
      exact h2 (fun d => K' d L) (hk _ _ h1)
    · obtain ⟨d, h1, h2⟩ := pickV_det h.2
      exact ⟨h.1, h2 (fun d => K' d L) (hk _ _ h1)⟩
    · exact h.elim
  case alloc =>
    simp only [vcOp, ho] at h ⊢
    split at h
    · split at h <;> first | exact hk _ _ h | exact h.elim
    · exact h.elim
  case box => simp only [vcOp, ho] at h ⊢; split at h <;> first | exact hk _ _ h | exact h.elim
  case build =>
    simp only [vcOp, ho] at h ⊢
    split at h
    · split at h <;> first | exact hk _ _ h | exact h.elim
    · exact h.elim
  case buildSlice t n parts =>
    simp only [vcOp, ho] at h ⊢
    split at h
    · split at h
      · refine frzs_mono _ _ _ _ (fun ps L' h => ⟨h.1, ?_⟩) h
        cases n <;> exact hk _ _ h.2
      · refine purs_mono (fun ps h => ⟨h.1, ?_⟩) h
        cases n <;> exact hk _ _ h.2
      · exact h.elim
    · exact h.elim
  case load =>
    simp only [vcOp, ho] at h ⊢
    have key : ∀ {t cs c}, ldCells P t cs c (fun d => K d L) → ldCells P t cs c (fun d => K' d L) := fun h => by
      obtain ⟨d, h1, h2⟩ := ldCells_det h
      exact h2 _ (hk _ _ h1)
    split at h
    · split at h <;> first | exact key h | exact h.elim
    · exact key h
    · split at h
      · obtain ⟨g1, p, g2, h⟩ := h; exact ⟨g1, p, g2, key h⟩
      · obtain ⟨g1, p, g2, h⟩ := h; exact ⟨g1, p, g2, key h⟩
      · exact h.elim
    · exact h.elim
  case store =>
    simp only [vcOp, ho] at h ⊢
    split at h
    · split at h
      · split at h <;> first | exact hk _ _ h | exact h.elim
      · exact h.elim
    · split at h
      · obtain ⟨g1, p, g2, g3, h⟩ := h; exact ⟨g1, p, g2, g3, purs_mono (fun _ h => hk _ _ h) h⟩
      · exact h.elim
    · exact h.elim
  case nilCheck =>
    simp only [vcOp, ho] at h ⊢
    split at h
    · split at h <;> first | exact hk _ _ h | exact h.elim
    · exact hk _ _ h
    · exact hk _ _ h
    · exact h.elim
  case binOp =>
    simp only [vcOp, ho] at h ⊢
    obtain ⟨d, h1, h2⟩ := vcBin_det h
    exact h2 _ (hk _ _ h1)
  case unOp => simp only [vcOp, ho] at h ⊢; split at h <;> first | exact hk _ _ h | exact h.elim
  case convert => simp only [vcOp, ho] at h ⊢; split at h <;> first | exact hk _ _ h | exact h.elim
  case makeFunc fn _ _ => cases fn <;> simp only [vcOp, ho] at h ⊢; exact hk _ _ h
  case makeMap t r => cases r <;> simp only [vcOp, ho] at h ⊢; exact hk _ _ h
  case makeSlice =>
    simp only [vcOp, ho] at h ⊢
    split at h
    · split at h
      · exact pur_mono (fun p h => ⟨h.1, h.2.1, h.2.2.1, h.2.2.2.1, hk _ _ h.2.2.2.2⟩) h
      · exact h.elim
    · exact h.elim
  case slice =>
    simp only [vcOp, ho] at h ⊢
    split at h
    · obtain ⟨h1, h2, a, b, h3, h4, h5, h6, h7⟩ := h
      exact ⟨h1, h2, a, b, h3, h4, h5, h6, hk _ _ h7⟩
    · obtain ⟨h1, a, b, h3, h4, h5, h6, h7⟩ := h
      exact ⟨h1, a, b, h3, h4, h5, h6, hk _ _ h7⟩
    · exact h.elim
  case fieldAddr =>
    simp only [vcOp, ho] at h ⊢
    split at h
    · split at h
      · split at h <;> first | exact hk _ _ h | exact h.elim
      · split at h
        · exact ⟨h.1, h.2.1, hk _ _ h.2.2⟩
        · exact h.elim
      · exact hk _ _ h
      · exact h.elim
    · exact h.elim
  case field =>
    simp only [vcOp, ho] at h ⊢
    split at h
    · obtain ⟨d, h1, h2⟩ := ldCells_det h
      exact h2 _ (hk _ _ h1)
    · exact h.elim
  case indexAddr =>
    simp only [vcOp, ho] at h ⊢
    split at h
    · obtain ⟨h1, n, p, h2, h3, h4, h5⟩ := h
      exact ⟨h1, n, p, h2, h3, h4, hk _ _ h5⟩
    · split at h
      · split at h
        · obtain ⟨h1, m, h2, h3, h4⟩ := h
          exact ⟨h1, m, h2, h3, hk _ _ h4⟩
        · exact h.elim
      · obtain ⟨h1, h2, m, p, h3, h4, h5, h6⟩ := h
        exact ⟨h1, h2, m, p, h3, h4, h5, hk _ _ h6⟩
      · exact h.elim
    · exact h.elim
  case lookup t m k ok =>
    simp only [vcOp, ho] at h ⊢
    split at h
    · split at h
      · refine pur_mono (fun kp h => ?_) h
        obtain ⟨h1, h2, r, h3, h4⟩ := h
        refine ⟨h1, h2, r, h3, ?_⟩
        cases r <;> cases ok <;> exact hk _ _ h4
      · exact h.elim
    · exact h.elim
  case mapUpdate =>
    simp only [vcOp, ho] at h ⊢
    split at h
    · split at h
      · exact pur_mono (fun kp h => ⟨h.1, h.2.1, pur_mono (fun vp h => hk _ _ h) h.2.2⟩) h
      · exact h.elim
    · exact h.elim
  case extract =>
    simp only [vcOp, ho] at h ⊢
    split at h
    · split at h <;> first | exact hk _ _ h | exact h.elim
    · exact h.elim
  case call c =>
    simp only [vcOp, ho] at h ⊢
    split at h
    · unfold vcBuiltin at *
      split at h
      · split at h
        · split at h
          · exact hk _ _ h
          · exact hk _ _ h
          · exact hk _ _ h
          · exact hk _ _ h
          · exact hk _ _ h
          · exact h.elim
        · exact h.elim
      · split at h
        · exact vcApp_mono hk h
        · exact h.elim
      · split at h
        · have h2 := hk _ _ h; clear hk; simp [*]
        · exact h.elim
      · split at h
        · have h2 := hk _ _ h; clear hk; simp [*]
        · exact h.elim
      · exact h.elim
    · split at h
      · exact h.mono hk
      · obtain ⟨p, h1, h2, h3⟩ := h
        exact ⟨p, h1, h2, hk _ _ h3⟩
      · exact h.mono hk
      · exact h.elim
    · exact h.elim
  all_goals simp only [vcOp, ho] at h
end
end Go.Dv
