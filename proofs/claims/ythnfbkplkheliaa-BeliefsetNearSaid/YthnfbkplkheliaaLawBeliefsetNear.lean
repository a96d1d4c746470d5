/- The law BeliefsetNear: whatever the input, the law returns true and the input reads as it did. No conditions. -/
import Derived.Test.YthnfbkplkheliaaM11
set_option maxRecDepth 100000
set_option maxHeartbeats 4000000
namespace Go.Proofs.Ythnfbkplkheliaa
open Go Go.Dv Go.RowKit Go.ChangeShapes Go.WideShapes Go.ChangeAt

theorem bnear_args (ps : List PV) (hps : TyAll Try.prog 8 Try.f9.params.toList ps) : PureFn Try.prog 9 ps (.bool true) := by
  obtain ⟨p1, r1, rfl, h1, p2, r2, rfl, h2, rfl⟩ := hps
  obtain ⟨s, rfl, hs⟩ := arg_u64 h1
  obtain ⟨t, rfl, ht⟩ := arg_u64 h2
  exact bnear_pure s t hs ht
theorem beliefsetNear_lifted (os : Os) (started : os.Started) (H : Type) (enc : TypeId × Value → H) :
    ReturnsInHanded {} Try.checked os 9 .any (Rows.beliefsetNearSpec.pre6 enc Try.prog Try.f9 Rows.beliefsetNearRow.domain false) (Rows.beliefsetNearSpec.post enc Try.prog Try.f9 false true false false) := by
  refine returnsInHanded_of_change (C := Try.checked) Try.own started (by kernel_rfl) rfl
    (ChangeSpec.witness6 (enc := enc) (C := Try.checked) false ⟨#[], #[.int .u64 0, .int .u64 0], []⟩ 8 (by kernel_rfl) (by kernel_rfl) (by kernel_rfl) (by kernel_rfl)) ?_
  intro W base args ds gs before hval hW _ _
  exact law_calls (n := 8) Try.laidOut (by kernel_rfl) (by kernel_rfl) rfl (by kernel_rfl) rfl (fun ds hd => by match ds, hd with | [a, b], _ => rfl) hval hW bnear_args
theorem beliefsetNear_holds : Rows.BeliefsetNearSaid :=
  OpenClaim.holds_of_wide 9 Try.f9 rfl rfl rfl rfl rfl rfl rfl ⟨rfl, rfl, rfl, rfl, rfl⟩ rfl rfl rfl rfl rfl (by kernel_rfl) rfl (by kernel_rfl)
    (of_decide_eq_true (by kernel_rfl)) (by unfold Func.isWrapper; first | (rw [if_pos (by decide +kernel)]; kernel_rfl) | (rw [if_neg (by decide +kernel)]; exact ⟨rfl, rfl⟩))
    (fun os started H enc _ => beliefsetNear_lifted os started H enc)
end Go.Proofs.Ythnfbkplkheliaa
