/- The laws FormulaChecks, FormulaCompacts and FormulaCompares: whatever the input, the law returns true and the input reads as it did. No conditions. -/
import Derived.Test.YtlmgodcfjaagpaaLt
set_option maxRecDepth 100000
set_option maxHeartbeats 4000000
namespace Go.Proofs.Ytlmgodcfjaagpaa
open Go Go.Dv Go.RowKit Go.ChangeShapes Go.WideShapes Go.ChangeAt

theorem checks_args (ps : List PV) (hps : TyAll Try.prog 8 Try.f3.params.toList ps) : PureFn Try.prog 3 ps (.bool true) := by
  obtain ⟨p1, r1, rfl, h1, p2, r2, rfl, h2, p3, r3, rfl, h3, rfl⟩ := hps
  obtain ⟨f, hf⟩ := arg_nodes h1
  obtain ⟨i, rfl, _⟩ := arg_int h2
  obtain ⟨j, rfl, _⟩ := arg_int h3
  exact (checks_pure f i j).le ⟨hf, .refl _, .refl _, trivial⟩
theorem formulaChecks_lifted (os : Os) (started : os.Started) (H : Type) (enc : TypeId × Value → H) :
    ReturnsInHanded {} Try.checked os 3 .any (Rows.formulaChecksSpec.pre6 enc Try.prog Try.f3 Rows.formulaChecksRow.domain false) (Rows.formulaChecksSpec.post enc Try.prog Try.f3 false true false false) := by
  refine returnsInHanded_of_change (C := Try.checked) Try.own started (by kernel_rfl) rfl
    (ChangeSpec.witness6 (enc := enc) (C := Try.checked) false ⟨#[], #[.slice none 0 0, .int .i64 0, .int .i64 0], []⟩ 8 (by kernel_rfl) (by kernel_rfl) (by kernel_rfl) (by kernel_rfl)) ?_
  intro W base args ds gs before hval hW _ _
  exact law_calls (n := 8) Try.laidOut (by kernel_rfl) (by kernel_rfl) rfl (by kernel_rfl) rfl (fun ds hd => by match ds, hd with | [a, b, c], _ => rfl) hval hW checks_args
theorem formulaChecks_holds : Rows.FormulaChecksSaid :=
  OpenClaim.holds_of_wide 3 Try.f3 rfl rfl rfl rfl rfl rfl rfl ⟨rfl, rfl, rfl, rfl, rfl⟩ rfl rfl rfl rfl rfl (by kernel_rfl) rfl (by kernel_rfl)
    (of_decide_eq_true (by kernel_rfl)) (by unfold Func.isWrapper; first | (rw [if_pos (by decide +kernel)]; kernel_rfl) | (rw [if_neg (by decide +kernel)]; exact ⟨rfl, rfl⟩))
    (fun os started H enc _ => formulaChecks_lifted os started H enc)
theorem compacts_args (ps : List PV) (hps : TyAll Try.prog 8 Try.f4.params.toList ps) : PureFn Try.prog 4 ps (.bool true) := by
  obtain ⟨p1, r1, rfl, h1, p2, r2, rfl, h2, rfl⟩ := hps
  obtain ⟨f, hf⟩ := arg_nodes h1
  obtain ⟨i, rfl, _⟩ := arg_int h2
  exact (compacts_pure f i).le ⟨hf, .refl _, trivial⟩
theorem formulaCompacts_lifted (os : Os) (started : os.Started) (H : Type) (enc : TypeId × Value → H) :
    ReturnsInHanded {} Try.checked os 4 .any (Rows.formulaCompactsSpec.pre6 enc Try.prog Try.f4 Rows.formulaCompactsRow.domain false) (Rows.formulaCompactsSpec.post enc Try.prog Try.f4 false true false false) := by
  refine returnsInHanded_of_change (C := Try.checked) Try.own started (by kernel_rfl) rfl
    (ChangeSpec.witness6 (enc := enc) (C := Try.checked) false ⟨#[], #[.slice none 0 0, .int .i64 0], []⟩ 8 (by kernel_rfl) (by kernel_rfl) (by kernel_rfl) (by kernel_rfl)) ?_
  intro W base args ds gs before hval hW _ _
  exact law_calls (n := 8) Try.laidOut (by kernel_rfl) (by kernel_rfl) rfl (by kernel_rfl) rfl (fun ds hd => by match ds, hd with | [a, b], _ => rfl) hval hW compacts_args
theorem formulaCompacts_holds : Rows.FormulaCompactsSaid :=
  OpenClaim.holds_of_wide 4 Try.f4 rfl rfl rfl rfl rfl rfl rfl ⟨rfl, rfl, rfl, rfl, rfl⟩ rfl rfl rfl rfl rfl (by kernel_rfl) rfl (by kernel_rfl)
    (of_decide_eq_true (by kernel_rfl)) (by unfold Func.isWrapper; first | (rw [if_pos (by decide +kernel)]; kernel_rfl) | (rw [if_neg (by decide +kernel)]; exact ⟨rfl, rfl⟩))
    (fun os started H enc _ => formulaCompacts_lifted os started H enc)
theorem compares_args (ps : List PV) (hps : TyAll Try.prog 8 Try.f5.params.toList ps) : PureFn Try.prog 5 ps (.bool true) := by
  obtain ⟨p1, r1, rfl, h1, p2, r2, rfl, h2, rfl⟩ := hps
  obtain ⟨f, hf⟩ := arg_nodes h1
  obtain ⟨g, hg⟩ := arg_nodes h2
  exact (compares_pure f g).le ⟨hf, hg, trivial⟩
theorem formulaCompares_lifted (os : Os) (started : os.Started) (H : Type) (enc : TypeId × Value → H) :
    ReturnsInHanded {} Try.checked os 5 .any (Rows.formulaComparesSpec.pre6 enc Try.prog Try.f5 Rows.formulaComparesRow.domain false) (Rows.formulaComparesSpec.post enc Try.prog Try.f5 false true false false) := by
  refine returnsInHanded_of_change (C := Try.checked) Try.own started (by kernel_rfl) rfl
    (ChangeSpec.witness6 (enc := enc) (C := Try.checked) false ⟨#[], #[.slice none 0 0, .slice none 0 0], []⟩ 8 (by kernel_rfl) (by kernel_rfl) (by kernel_rfl) (by kernel_rfl)) ?_
  intro W base args ds gs before hval hW _ _
  exact law_calls (n := 8) Try.laidOut (by kernel_rfl) (by kernel_rfl) rfl (by kernel_rfl) rfl (fun ds hd => by match ds, hd with | [a, b], _ => rfl) hval hW compares_args
theorem formulaCompares_holds : Rows.FormulaComparesSaid :=
  OpenClaim.holds_of_wide 5 Try.f5 rfl rfl rfl rfl rfl rfl rfl ⟨rfl, rfl, rfl, rfl, rfl⟩ rfl rfl rfl rfl rfl (by kernel_rfl) rfl (by kernel_rfl)
    (of_decide_eq_true (by kernel_rfl)) (by unfold Func.isWrapper; first | (rw [if_pos (by decide +kernel)]; kernel_rfl) | (rw [if_neg (by decide +kernel)]; exact ⟨rfl, rfl⟩))
    (fun os started H enc _ => formulaCompares_lifted os started H enc)
end Go.Proofs.Ytlmgodcfjaagpaa
