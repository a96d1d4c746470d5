/- The law ReduceAgents: whatever the input, the law returns true and the input reads as it did. No conditions. -/
import Derived.Test.YtibbphifegibkaaM8
set_option maxRecDepth 100000
set_option maxHeartbeats 4000000
namespace Go.Proofs.Ytibbphifegibkaa
open Go Go.Dv Go.RowKit Go.ChangeShapes Go.WideShapes Go.ChangeAt

theorem reduceAgents_lifted (os : Os) (started : os.Started) (H : Type) (enc : TypeId × Value → H) :
    ReturnsInHanded {} Try.checked os 5 .any (Rows.reduceAgentsSpec.pre6 enc Try.prog Try.f5 Rows.reduceAgentsRow.domain false) (Rows.reduceAgentsSpec.post enc Try.prog Try.f5 false true false false) := by
  refine returnsInHanded_of_change (C := Try.checked) Try.own started (by kernel_rfl) rfl
    (ChangeSpec.witness6 (enc := enc) (C := Try.checked) false ⟨#[], #[.slice none 0 0, .slice none 0 0], []⟩ 8 (by kernel_rfl) (by kernel_rfl) (by kernel_rfl) (by kernel_rfl)) ?_
  intro W base args ds gs before hval hW _ _
  exact law_calls (n := 8) Try.laidOut (by kernel_rfl) (by kernel_rfl) rfl (by kernel_rfl) rfl (fun ds hd => by match ds, hd with | [a, b], _ => rfl) hval hW l30g_args
theorem reduceAgents_holds : Rows.ReduceAgentsSaid :=
  OpenClaim.holds_of_wide 5 Try.f5 rfl rfl rfl rfl rfl rfl rfl ⟨rfl, rfl, rfl, rfl, rfl⟩ rfl rfl rfl rfl rfl (by kernel_rfl) rfl (by kernel_rfl)
    (of_decide_eq_true (by kernel_rfl)) (by unfold Func.isWrapper; first | (rw [if_pos (by decide +kernel)]; kernel_rfl) | (rw [if_neg (by decide +kernel)]; exact ⟨rfl, rfl⟩))
    (fun os started H enc _ => reduceAgents_lifted os started H enc)
end Go.Proofs.Ytibbphifegibkaa
