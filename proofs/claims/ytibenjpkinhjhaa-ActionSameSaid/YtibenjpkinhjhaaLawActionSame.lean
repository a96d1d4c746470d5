/- The law ActionSame: whatever the input, the law returns true and the input reads as it did. No conditions. -/
import Derived.Test.YtibenjpkinhjhaaM13
set_option maxRecDepth 100000
set_option maxHeartbeats 4000000
namespace Go.Proofs.Ytibenjpkinhjhaa
open Go Go.Dv Go.RowKit Go.ChangeShapes Go.WideShapes Go.ChangeAt

theorem asame_args (ps : List PV) (hps : TyAll Try.prog 8 Try.f6.params.toList ps) : PureFn Try.prog 6 ps (.bool true) := by
  obtain ⟨p1, r1, rfl, h1, p2, r2, rfl, h2, rfl⟩ := hps
  obtain ⟨a, ha, hf⟩ := arg_act (n := 1) h1
  obtain ⟨b, hb, hg⟩ := arg_act (n := 1) h2
  exact (asame_pure a b hf hg).le ⟨ha, hb, trivial⟩
theorem actionSame_lifted (os : Os) (started : os.Started) (H : Type) (enc : TypeId × Value → H) :
    ReturnsInHanded {} Try.checked os 6 .any (Rows.actionSameSpec.pre6 enc Try.prog Try.f6 Rows.actionSameRow.domain false) (Rows.actionSameSpec.post enc Try.prog Try.f6 false true false false) := by
  refine returnsInHanded_of_change (C := Try.checked) Try.own started (by kernel_rfl) rfl
    (ChangeSpec.witness6 (enc := enc) (C := Try.checked) false ⟨#[], #[.agg #[.slice none 0 0, .slice none 0 0, .slice none 0 0], .agg #[.slice none 0 0, .slice none 0 0, .slice none 0 0]], []⟩ 8 (by kernel_rfl) (by kernel_rfl) (by kernel_rfl) (by kernel_rfl)) ?_
  intro W base args ds gs before hval hW _ _
  exact law_calls (n := 8) Try.laidOut (by kernel_rfl) (by kernel_rfl) rfl (by kernel_rfl) rfl (fun ds hd => by match ds, hd with | [a, b], _ => rfl) hval hW asame_args
theorem actionSame_holds : Rows.ActionSameSaid :=
  OpenClaim.holds_of_wide 6 Try.f6 rfl rfl rfl rfl rfl rfl rfl ⟨rfl, rfl, rfl, rfl, rfl⟩ rfl rfl rfl rfl rfl (by kernel_rfl) rfl (by kernel_rfl)
    (of_decide_eq_true (by kernel_rfl)) (by unfold Func.isWrapper; first | (rw [if_pos (by decide +kernel)]; kernel_rfl) | (rw [if_neg (by decide +kernel)]; exact ⟨rfl, rfl⟩))
    (fun os started H enc _ => actionSame_lifted os started H enc)
end Go.Proofs.Ytibenjpkinhjhaa
