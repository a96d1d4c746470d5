/- The law FormulaJoins: whatever the list of formulas, the law returns true and the input reads as it did. No conditions. -/
import Derived.Test.YtlmgodcfjaagpaaFv
import Derived.Test.YtlmgodcfjaagpaaLt
set_option maxRecDepth 100000
set_option maxHeartbeats 4000000
namespace Go.Proofs.Ytlmgodcfjaagpaa
open Go Go.Dv Go.RowKit Go.ChangeShapes Go.WideShapes Go.ChangeAt

theorem u_lists : Try.prog.underlying 30 = some (.slice 22) := by kernel_rfl
theorem _root_.Go.Dv.PureFn.leS {P : Program} {f : FuncId} {ps qs : List PV} {p : PV} (h : PureFn P f qs p) (hle : ∀ (T : Nat → Prop) (w : World) (vs : List Value), RelPs T w ps vs → RelPs T w qs vs) : PureFn P f ps p :=
  PureFn.mk ⟨h.elim.1, fun M w vs hM hrel => h.elim.2 M w vs hM (hle M w vs hrel)⟩
theorem le_cells {p : PV} {f : List Nd} (h : PLe p (fpv f)) : p.cells = [p] := by
  unfold fpv at h
  generalize hq : PV.sl (f.map Nd.pv) = q at h
  cases h with
  | refl => subst hq; rfl
  | nil => rfl
  | agg => cases hq
  | tup => cases hq
theorem sl_le {l : List PV} {L : List (List Nd)} (hl : l.length = L.length) (h : ∀ (i : Nat) p f, l[i]? = some p → L[i]? = some f → PLe p (fpv f)) {T : Nat → Prop} {w : World} {v : Value} (hr : RelP T w (.sl l) v) : RelP T w (.sl (L.map fpv)) v := by
  generalize hq : PV.sl l = q at hr
  cases hr with
  | e0 a c =>
    cases hq
    have : L = [] := List.eq_nil_of_length_eq_zero hl.symm
    subst this
    exact .e0 a c
  | sl b off sz cap l' val g1 g2 g3 g4 g5 g6 =>
    obtain rfl : l = l' := by cases hq; rfl
    have hln : (L.map fpv).length = l.length := by simp [hl]
    have hget : ∀ (i : Nat) q, (L.map fpv)[i]? = some q → ∃ p f, l[i]? = some p ∧ L[i]? = some f ∧ q = fpv f := by
      intro i q hi
      rw [List.getElem?_map] at hi
      cases hL : L[i]? with
      | none => rw [hL] at hi; simp at hi
      | some f =>
        rw [hL] at hi; simp at hi
        have hlt : i < l.length := by have := (List.getElem?_eq_some_iff.1 hL).1; omega
        exact ⟨l[i], f, List.getElem?_eq_getElem hlt, rfl, hi.symm⟩
    have key := RelP.sl (T := T) (w := w) b off sz cap (L.map fpv) val g1 g2 (by rw [hln]; exact g3)
      (fun q hq => by
        obtain ⟨i, hi⟩ := List.mem_iff_getElem?.1 hq
        obtain ⟨p, f, h1, h2, rfl⟩ := hget i q hi
        have := g4 p (List.mem_iff_getElem?.2 ⟨i, h1⟩)
        rw [le_cells (h i p f h1 h2)] at this
        exact this)
      (fun i q j c hi hj => by
        obtain ⟨p, f, h1, h2, rfl⟩ := hget i q hi
        have hj' : j = 0 := by
          cases j with
          | zero => rfl
          | succ j => simp [fpv, PV.cells] at hj
        subst hj'
        exact g5 i p 0 p h1 (by rw [le_cells (h i p f h1 h2)]; rfl))
      (fun i q j c hi hj => by
        obtain ⟨p, f, h1, h2, rfl⟩ := hget i q hi
        have hj' : j = 0 := by
          cases j with
          | zero => rfl
          | succ j => simp [fpv, PV.cells] at hj
        subst hj'
        have hc : c = fpv f := by simpa [fpv, PV.cells] using hj.symm
        subst hc
        exact (h i p f h1 h2).rel (g6 i p 0 p h1 (by rw [le_cells (h i p f h1 h2)]; rfl)))
    rw [hln] at key
    exact key
  | _ => cases hq
theorem arg_lists {n : Nat} {p : PV} (h : TyA Try.prog (n + 4) 30 p) : ∃ L : List (List Nd), ∀ (T : Nat → Prop) (w : World) (v : Value), RelP T w p v → RelP T w (.sl (L.map fpv)) v := by
  obtain ⟨cs, h1, rfl⟩ := h
  have h1' : cs = [.nil] ∨ ∃ l, cs = [.sl l] ∧ ∀ p, p ∈ l → ∃ cs, TyC Try.prog (n + 3) 22 cs ∧ p = mkE Try.prog 22 cs := by
    have key : ∀ m, TyC Try.prog (m + 1) 30 cs → cs = [.nil] ∨ ∃ l, cs = [.sl l] ∧ ∀ p, p ∈ l → ∃ cs, TyC Try.prog m 22 cs ∧ p = mkE Try.prog 22 cs := by
      intro m hm
      simp only [TyC, u_lists] at hm
      exact hm
    exact key _ h1
  rcases h1' with rfl | ⟨l, rfl, hl⟩
  · refine ⟨[], fun T w v hv => ?_⟩
    have hv' : RelP T w .nil v := by simpa only [mkE, kindT, u_lists] using hv
    cases hv'
    exact .e0 none 0
  · have : ∃ L : List (List Nd), l.length = L.length ∧ ∀ (i : Nat) p f, l[i]? = some p → L[i]? = some f → PLe p (fpv f) := by
      clear h1
      induction l with
      | nil => exact ⟨[], rfl, fun i p f h => by simp at h⟩
      | cons q r ih =>
        obtain ⟨f, hf⟩ := arg_nodes (hl q (by simp))
        obtain ⟨L, e, hL⟩ := ih fun p hp => hl p (by simp [hp])
        refine ⟨f :: L, by simp [e], fun i p g hp hg => ?_⟩
        cases i with
        | zero => simp at hp hg; subst hp; subst hg; exact hf
        | succ i => exact hL i p g (by simpa using hp) (by simpa using hg)
    obtain ⟨L, e, hL⟩ := this
    refine ⟨L, fun T w v hv => ?_⟩
    have hv' : RelP T w (.sl l) v := by simpa only [mkE, kindT, u_lists] using hv
    exact sl_le e hL hv'
theorem joins_args (ps : List PV) (hps : TyAll Try.prog 8 Try.f8.params.toList ps) : PureFn Try.prog 8 ps (.bool true) := by
  obtain ⟨p1, r1, rfl, h1, rfl⟩ := hps
  obtain ⟨L, hL⟩ := arg_lists h1
  refine (joins_pure L).leS fun T w vs h => ⟨h.1, fun i p v hp hv => ?_⟩
  cases i with
  | zero => simp at hp; subst hp; exact hL T w v (h.2 0 p1 v rfl hv)
  | succ i => simp at hp

theorem formulaJoins_lifted (os : Os) (started : os.Started) (H : Type) (enc : TypeId × Value → H) :
    ReturnsInHanded {} Try.checked os 8 .any (Rows.formulaJoinsSpec.pre6 enc Try.prog Try.f8 Rows.formulaJoinsRow.domain false) (Rows.formulaJoinsSpec.post enc Try.prog Try.f8 false true false false) := by
  refine returnsInHanded_of_change (C := Try.checked) Try.own started (by kernel_rfl) rfl
    (ChangeSpec.witness6 (enc := enc) (C := Try.checked) false ⟨#[], #[.slice none 0 0], []⟩ 8 (by kernel_rfl) (by kernel_rfl) (by kernel_rfl) (by kernel_rfl)) ?_
  intro W base args ds gs before hval hW _ _
  exact law_calls (n := 8) Try.laidOut (by kernel_rfl) (by kernel_rfl) rfl (by kernel_rfl) rfl (fun ds hd => by match ds, hd with | [a], _ => rfl) hval hW joins_args
theorem formulaJoins_holds : Rows.FormulaJoinsSaid :=
  OpenClaim.holds_of_wide 8 Try.f8 rfl rfl rfl rfl rfl rfl rfl ⟨rfl, rfl, rfl, rfl, rfl⟩ rfl rfl rfl rfl rfl (by kernel_rfl) rfl (by kernel_rfl)
    (of_decide_eq_true (by kernel_rfl)) (by unfold Func.isWrapper; first | (rw [if_pos (by decide +kernel)]; kernel_rfl) | (rw [if_neg (by decide +kernel)]; exact ⟨rfl, rfl⟩))
    (fun os started H enc _ => formulaJoins_lifted os started H enc)
end Go.Proofs.Ytlmgodcfjaagpaa
