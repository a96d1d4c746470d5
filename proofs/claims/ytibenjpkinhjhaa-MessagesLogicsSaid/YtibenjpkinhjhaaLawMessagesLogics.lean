/- The law MessagesLogics: whatever the input, the law returns true and the input reads as it did. No conditions. -/
import Derived.Test.YtibenjpkinhjhaaM10
set_option maxRecDepth 100000
set_option maxHeartbeats 4000000
namespace Go.Proofs.Ytibenjpkinhjhaa
open Go Go.Dv Go.RowKit Go.ChangeShapes Go.WideShapes Go.ChangeAt

theorem mlogics_args (ps : List PV) (hps : TyAll Try.prog 8 Try.f12.params.toList ps) : PureFn Try.prog 12 ps (.bool true) := by
  obtain ⟨p1, r1, rfl, h1, p2, r2, rfl, h2, p3, r3, rfl, h3, rfl⟩ := hps
  obtain ⟨u, rfl, hu⟩ := arg_u8 h1
  obtain ⟨x, y, z, rfl, hx, hy, hz⟩ := arg_arrB3 h2
  obtain ⟨f, hf⟩ := arg_nodes h3
  exact (mlogics_pure u x y z f hu hx hy hz).le ⟨.refl _, .refl _, hf, trivial⟩
theorem messagesLogics_lifted (os : Os) (started : os.Started) (H : Type) (enc : TypeId × Value → H) :
    ReturnsInHanded {} Try.checked os 12 .any (Rows.messagesLogicsSpec.pre6 enc Try.prog Try.f12 Rows.messagesLogicsRow.domain false) (Rows.messagesLogicsSpec.post enc Try.prog Try.f12 false true false false) := by
  refine returnsInHanded_of_change (C := Try.checked) Try.own started (by kernel_rfl) rfl
    (ChangeSpec.witness6 (enc := enc) (C := Try.checked) false ⟨#[], #[.int .u8 0, .agg #[.int .u8 0, .int .u8 0, .int .u8 0], .slice none 0 0], []⟩ 8 (by kernel_rfl) (by kernel_rfl) (by kernel_rfl) (by kernel_rfl)) ?_
  intro W base args ds gs before hval hW _ _
  exact law_calls (n := 8) Try.laidOut (by kernel_rfl) (by kernel_rfl) rfl (by kernel_rfl) rfl (fun ds hd => by match ds, hd with | [a, b, c], _ => rfl) hval hW mlogics_args
theorem messagesLogics_holds : Rows.MessagesLogicsSaid :=
  OpenClaim.holds_of_wide 12 Try.f12 rfl rfl rfl rfl rfl rfl rfl ⟨rfl, rfl, rfl, rfl, rfl⟩ rfl rfl rfl rfl rfl (by kernel_rfl) rfl (by kernel_rfl)
    (of_decide_eq_true (by kernel_rfl)) (by unfold Func.isWrapper; first | (rw [if_pos (by decide +kernel)]; kernel_rfl) | (rw [if_neg (by decide +kernel)]; exact ⟨rfl, rfl⟩))
    (fun os started H enc _ => messagesLogics_lifted os started H enc)
end Go.Proofs.Ytibenjpkinhjhaa
