/- The law BeliefsetBack: whatever the input, the law returns true and the input reads as it did. No conditions. -/
import Derived.Test.YthnfbkplkheliaaM11
set_option maxRecDepth 100000
set_option maxHeartbeats 4000000
namespace Go.Proofs.Ythnfbkplkheliaa
open Go Go.Dv Go.RowKit Go.ChangeShapes Go.WideShapes Go.ChangeAt

theorem bback_args (ps : List PV) (hps : TyAll Try.prog 8 Try.f7.params.toList ps) : PureFn Try.prog 7 ps (.bool true) := by
  obtain ⟨p1, r1, rfl, h1, p2, r2, rfl, h2, p3, r3, rfl, h3, rfl⟩ := hps
  obtain ⟨s, rfl, hs⟩ := arg_u64 h1
  obtain ⟨f, hf⟩ := arg_nodes h2
  obtain ⟨u, rfl, hu⟩ := arg_u8 h3
  exact (bback_pure s f u hs hu).le ⟨.refl _, hf, .refl _, trivial⟩
theorem beliefsetBack_lifted (os : Os) (started : os.Started) (H : Type) (enc : TypeId × Value → H) :
    ReturnsInHanded {} Try.checked os 7 .any (Rows.beliefsetBackSpec.pre6 enc Try.prog Try.f7 Rows.beliefsetBackRow.domain false) (Rows.beliefsetBackSpec.post enc Try.prog Try.f7 false true false false) := by
  refine returnsInHanded_of_change (C := Try.checked) Try.own started (by kernel_rfl) rfl
    (ChangeSpec.witness6 (enc := enc) (C := Try.checked) false ⟨#[], #[.int .u64 0, .slice none 0 0, .int .u8 0], []⟩ 8 (by kernel_rfl) (by kernel_rfl) (by kernel_rfl) (by kernel_rfl)) ?_
  intro W base args ds gs before hval hW _ _
  exact law_calls (n := 8) Try.laidOut (by kernel_rfl) (by kernel_rfl) rfl (by kernel_rfl) rfl (fun ds hd => by match ds, hd with | [a, b, c], _ => rfl) hval hW bback_args
theorem beliefsetBack_holds : Rows.BeliefsetBackSaid :=
  OpenClaim.holds_of_wide 7 Try.f7 rfl rfl rfl rfl rfl rfl rfl ⟨rfl, rfl, rfl, rfl, rfl⟩ rfl rfl rfl rfl rfl (by kernel_rfl) rfl (by kernel_rfl)
    (of_decide_eq_true (by kernel_rfl)) (by unfold Func.isWrapper; first | (rw [if_pos (by decide +kernel)]; kernel_rfl) | (rw [if_neg (by decide +kernel)]; exact ⟨rfl, rfl⟩))
    (fun os started H enc _ => beliefsetBack_lifted os started H enc)
end Go.Proofs.Ythnfbkplkheliaa
