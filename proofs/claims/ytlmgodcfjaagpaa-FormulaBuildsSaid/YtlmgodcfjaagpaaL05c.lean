/- The law FormulaBuilds: whatever the kind, the numbers and the operands, the law returns true and the input reads as it did. No conditions. -/
import Derived.Test.YtlmgodcfjaagpaaFu
import Derived.Test.YtlmgodcfjaagpaaLt
set_option maxRecDepth 100000
set_option maxHeartbeats 4000000
namespace Go.Proofs.Ytlmgodcfjaagpaa
open Go Go.Dv Go.RowKit Go.ChangeShapes Go.WideShapes Go.ChangeAt

theorem u_parts : ∃ fs : Array Field, Try.prog.underlying 44 = some (.struct fs) ∧ fs.toList.map (·.type) = [3, 3, 3, 3, 22, 22] := ⟨_, rfl, by kernel_rfl⟩
theorem cells_nodes {n : Nat} {cs : List PV} (h : TyC Try.prog (n + 3) 22 cs) : ∃ p, cs = [p] ∧ ∃ f : List Nd, PLe p (fpv f) := by
  obtain ⟨f, hf⟩ := arg_nodes (p := mkE Try.prog 22 cs) ⟨cs, h, rfl⟩
  simp only [TyC, u_nodes] at h
  rcases h with rfl | ⟨l, rfl, _⟩
  · exact ⟨.nil, rfl, f, by simpa only [mkE, kindT, u_nodes] using hf⟩
  · exact ⟨.sl l, rfl, f, by simpa only [mkE, kindT, u_nodes] using hf⟩
theorem TyC_struct {P : Program} {n : Nat} {t : TypeId} {fs : Array Field} {ps : List PV} (hu : P.underlying t = some (.struct fs)) (h : TyC P (n + 1) t ps) : TyFs (TyC P n) fs.toList ps := by
  simp only [TyC, hu] at h
  exact h
theorem arg_parts {n : Nat} {p : PV} (h : TyA Try.prog (n + 4) 44 p) : ∃ (k i e g : Int) (F G : List Nd), PLe p (ptv k i e g F G) := by
  obtain ⟨cs, h1, rfl⟩ := h
  obtain ⟨fs, hu, hf⟩ := u_parts
  have h1' := h1
  replace h1 := TyC_struct hu h1'
  generalize fs.toList = l at hf h1
  have hl : l.length = 6 := by have := congrArg List.length hf; simpa using this
  obtain ⟨f1, f2, f3, f4, f5, f6, rfl⟩ : ∃ f1 f2 f3 f4 f5 f6, l = [f1, f2, f3, f4, f5, f6] := by
    match l, hl with
    | [f1, f2, f3, f4, f5, f6], _ => exact ⟨f1, f2, f3, f4, f5, f6, rfl⟩
  simp only [List.map_cons, List.map_nil, List.cons.injEq, and_true] at hf
  obtain ⟨e1, e2, e3, e4, e5, e6⟩ := hf
  simp only [TyFs, e1, e2, e3, e4, e5, e6] at h1
  obtain ⟨a1, b1, rfl, g1, a2, b2, rfl, g2, a3, b3, rfl, g3, a4, b4, rfl, g4, a5, b5, rfl, g5, a6, b6, rfl, g6, rfl⟩ := h1
  obtain ⟨k, rfl, _⟩ := int_of g1
  obtain ⟨i, rfl, _⟩ := int_of g2
  obtain ⟨e, rfl, _⟩ := int_of g3
  obtain ⟨g, rfl, _⟩ := int_of g4
  obtain ⟨p5, rfl, F, hF⟩ := cells_nodes g5
  obtain ⟨p6, rfl, G, hG⟩ := cells_nodes g6
  refine ⟨k, i, e, g, F, G, ?_⟩
  simp only [mkE, kindT, hu]
  refine .agg _ _ rfl fun j p q hp hq => ?_
  match j, hp, hq with
  | 0, hp, hq => simp at hp hq; subst hp; subst hq; exact .refl _
  | 1, hp, hq => simp at hp hq; subst hp; subst hq; exact .refl _
  | 2, hp, hq => simp at hp hq; subst hp; subst hq; exact .refl _
  | 3, hp, hq => simp at hp hq; subst hp; subst hq; exact .refl _
  | 4, hp, hq => simp at hp hq; subst hp; subst hq; exact hF
  | 5, hp, hq => simp at hp hq; subst hp; subst hq; exact hG
  | j + 6, hp, hq => simp at hp
theorem builds_args (ps : List PV) (hps : TyAll Try.prog 8 Try.f9.params.toList ps) : PureFn Try.prog 9 ps (.bool true) := by
  obtain ⟨p1, r1, rfl, h1, rfl⟩ := hps
  obtain ⟨k, i, e, g, F, G, hp⟩ := arg_parts h1
  exact (builds_pure k i e g F G).le ⟨hp, trivial⟩
theorem formulaBuilds_lifted (os : Os) (started : os.Started) (H : Type) (enc : TypeId × Value → H) :
    ReturnsInHanded {} Try.checked os 9 .any (Rows.formulaBuildsSpec.pre6 enc Try.prog Try.f9 Rows.formulaBuildsRow.domain false) (Rows.formulaBuildsSpec.post enc Try.prog Try.f9 false true false false) := by
  refine returnsInHanded_of_change (C := Try.checked) Try.own started (by kernel_rfl) rfl
    (ChangeSpec.witness6 (enc := enc) (C := Try.checked) false ⟨#[], #[.agg #[.int .i64 0, .int .i64 0, .int .i64 0, .int .i64 0, .slice none 0 0, .slice none 0 0]], []⟩ 8 (by kernel_rfl) (by kernel_rfl) (by kernel_rfl) (by kernel_rfl)) ?_
  intro W base args ds gs before hval hW _ _
  exact law_calls (n := 8) Try.laidOut (by kernel_rfl) (by kernel_rfl) rfl (by kernel_rfl) rfl (fun ds hd => by match ds, hd with | [a], _ => rfl) hval hW builds_args
theorem formulaBuilds_holds : Rows.FormulaBuildsSaid :=
  OpenClaim.holds_of_wide 9 Try.f9 rfl rfl rfl rfl rfl rfl rfl ⟨rfl, rfl, rfl, rfl, rfl⟩ rfl rfl rfl rfl rfl (by kernel_rfl) rfl (by kernel_rfl)
    (of_decide_eq_true (by kernel_rfl)) (by unfold Func.isWrapper; first | (rw [if_pos (by decide +kernel)]; kernel_rfl) | (rw [if_neg (by decide +kernel)]; exact ⟨rfl, rfl⟩))
    (fun os started H enc _ => formulaBuilds_lifted os started H enc)
end Go.Proofs.Ytlmgodcfjaagpaa
