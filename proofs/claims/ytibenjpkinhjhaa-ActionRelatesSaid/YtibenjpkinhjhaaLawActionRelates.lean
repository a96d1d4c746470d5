/- The law ActionRelates: whatever the input, the law returns true and the input reads as it did. No conditions. -/
import Derived.Test.YtibenjpkinhjhaaM13
set_option maxRecDepth 100000
set_option maxHeartbeats 4000000
namespace Go.Proofs.Ytibenjpkinhjhaa
open Go Go.Dv Go.RowKit Go.ChangeShapes Go.WideShapes Go.ChangeAt

theorem arel_args (ps : List PV) (hps : TyAll Try.prog 8 Try.f4.params.toList ps) : PureFn Try.prog 4 ps (.bool true) := by
  obtain ⟨p1, r1, rfl, h1, p2, r2, rfl, h2, p3, r3, rfl, h3, rfl⟩ := hps
  obtain ⟨a, ha, hf⟩ := arg_act (n := 1) h1
  obtain ⟨i, rfl, _⟩ := arg_int h2
  obtain ⟨j, rfl, _⟩ := arg_int h3
  exact (arel_pure a i j hf).le ⟨ha, .refl _, .refl _, trivial⟩
theorem actionRelates_lifted (os : Os) (started : os.Started) (H : Type) (enc : TypeId × Value → H) :
    ReturnsInHanded {} Try.checked os 4 .any (Rows.actionRelatesSpec.pre6 enc Try.prog Try.f4 Rows.actionRelatesRow.domain false) (Rows.actionRelatesSpec.post enc Try.prog Try.f4 false true false false) := by
  refine returnsInHanded_of_change (C := Try.checked) Try.own started (by kernel_rfl) rfl
    (ChangeSpec.witness6 (enc := enc) (C := Try.checked) false ⟨#[], #[.agg #[.slice none 0 0, .slice none 0 0, .slice none 0 0], .int .i64 0, .int .i64 0], []⟩ 8 (by kernel_rfl) (by kernel_rfl) (by kernel_rfl) (by kernel_rfl)) ?_
  intro W base args ds gs before hval hW _ _
  exact law_calls (n := 8) Try.laidOut (by kernel_rfl) (by kernel_rfl) rfl (by kernel_rfl) rfl (fun ds hd => by match ds, hd with | [a, b, c], _ => rfl) hval hW arel_args
theorem actionRelates_holds : Rows.ActionRelatesSaid :=
  OpenClaim.holds_of_wide 4 Try.f4 rfl rfl rfl rfl rfl rfl rfl ⟨rfl, rfl, rfl, rfl, rfl⟩ rfl rfl rfl rfl rfl (by kernel_rfl) rfl (by kernel_rfl)
    (of_decide_eq_true (by kernel_rfl)) (by unfold Func.isWrapper; first | (rw [if_pos (by decide +kernel)]; kernel_rfl) | (rw [if_neg (by decide +kernel)]; exact ⟨rfl, rfl⟩))
    (fun os started H enc _ => actionRelates_lifted os started H enc)
end Go.Proofs.Ytibenjpkinhjhaa
