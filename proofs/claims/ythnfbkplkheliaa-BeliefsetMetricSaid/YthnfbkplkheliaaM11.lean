/- Parts of the proof, one after the other: Formulas: the arguments of the laws as pure values. Belief sets: numbers and arrays as arguments of the laws. -/
import Derived.Test.YthnfbkplkheliaaRows
import Derived.Test.YthnfbkplkheliaaM10
set_option maxRecDepth 100000
set_option maxHeartbeats 4000000
namespace Go.Proofs.Ythnfbkplkheliaa
open Go Go.Dv

theorem Try.own : ownKnob Try.prog.godebug = none := by kernel_rfl
theorem Try.laidOut : laidOutB Try.prog = true := by kernel_rfl
theorem u_int : Try.prog.underlying 3 = some (.int .i64) := by kernel_rfl
theorem u_nodes : Try.prog.underlying 22 = some (.slice 60) := by kernel_rfl

theorem int_of {n : Nat} {cs : List PV} (h : TyC Try.prog (n + 1) 3 cs) : ∃ i : Int, cs = [.int .i64 i] ∧ (Lit.int .i64 i).wf = true := by
  simp only [TyC, u_int] at h
  obtain ⟨m, rfl, hm⟩ := h
  exact ⟨m, rfl, hm⟩
theorem arg_int {n : Nat} {p : PV} (h : TyA Try.prog (n + 1) 3 p) : ∃ i : Int, p = .int .i64 i ∧ (Lit.int .i64 i).wf = true := by
  obtain ⟨cs, h1, rfl⟩ := h
  obtain ⟨i, rfl, hi⟩ := int_of h1
  exact ⟨i, by simp only [mkE, kindT, u_int], hi⟩
theorem u_node : ∃ fs : Array Field, Try.prog.underlying 60 = some (.struct fs) ∧ fs.toList.map (·.type) = [3, 3, 3, 3, 3, 3] := ⟨_, rfl, by kernel_rfl⟩
theorem nd_of {n : Nat} {cs : List PV} (h : TyC Try.prog (n + 2) 60 cs) : ∃ x : Nd, mkE Try.prog 60 cs = x.pv := by
  obtain ⟨fs, hu, hf⟩ := u_node
  simp only [TyC, hu] at h
  have key : ∀ (l : List Field) (k : Nat) (ps : List PV), l.map (·.type) = List.replicate k 3 → TyFs (TyC Try.prog (n + 1)) l ps → ∃ is : List Int, is.length = k ∧ ps = is.map (PV.int .i64) := by
    intro l
    induction l with
    | nil => intro k ps hk hp; simp only [TyFs] at hp; subst hp; cases k with
      | zero => exact ⟨[], rfl, rfl⟩
      | succ k => simp [List.replicate] at hk
    | cons f r ih =>
      intro k ps hk hp
      cases k with
      | zero => simp at hk
      | succ k =>
        simp only [List.map_cons, List.replicate_succ, List.cons.injEq] at hk
        obtain ⟨a, b, rfl, h1, h2⟩ := hp
        rw [hk.1] at h1
        obtain ⟨i, rfl, _⟩ := int_of h1
        obtain ⟨is, h3, rfl⟩ := ih k b hk.2 h2
        exact ⟨i :: is, by simp [h3], rfl⟩
  obtain ⟨is, h1, rfl⟩ := key fs.toList 6 cs hf h
  match is, h1 with
  | [a, b, c, d, e, f], _ => exact ⟨⟨a, b, c, d, e, f⟩, by simp only [mkE, kindT, hu]; rfl⟩
theorem arg_nodes {n : Nat} {p : PV} (h : TyA Try.prog (n + 3) 22 p) : ∃ f : List Nd, PLe p (fpv f) := by
  obtain ⟨cs, h1, rfl⟩ := h
  simp only [TyC, u_nodes] at h1
  rcases h1 with rfl | ⟨l, rfl, hl⟩
  · exact ⟨[], by simp only [mkE, kindT, u_nodes]; exact .nil⟩
  · have : ∃ f : List Nd, l = f.map Nd.pv := by
      induction l with
      | nil => exact ⟨[], rfl⟩
      | cons p r ih =>
        obtain ⟨cs, g1, g2⟩ := hl p (by simp)
        obtain ⟨x, hx⟩ := nd_of g1
        obtain ⟨f, rfl⟩ := ih fun q hq => hl q (by simp [hq])
        exact ⟨x :: f, by rw [g2, hx]; rfl⟩
    obtain ⟨f, rfl⟩ := this
    exact ⟨f, by simp only [mkE, kindT, u_nodes]; exact .refl _⟩
end Go.Proofs.Ythnfbkplkheliaa
set_option maxRecDepth 100000
set_option maxHeartbeats 4000000
namespace Go.Proofs.Ythnfbkplkheliaa
open Go Go.Dv

theorem u_u64 : Try.prog.underlying 24 = some (.int .u64) := by kernel_rfl
theorem u_arrI : Try.prog.underlying 33 = some (.array 2 3) := by kernel_rfl
theorem u_arrU : Try.prog.underlying 34 = some (.array 2 24) := by kernel_rfl
theorem u64_of {n : Nat} {cs : List PV} (h : TyC Try.prog (n + 1) 24 cs) : ∃ s : Nat, cs = [u64 s] ∧ s < 2 ^ 64 := by
  simp only [TyC, u_u64] at h
  obtain ⟨m, rfl, hm⟩ := h
  simp [Lit.wf, IntKind.min, IntKind.max, IntKind.signed, IntKind.bits] at hm
  refine ⟨m.toNat, ?_, by omega⟩
  rw [u64, show ((m.toNat : Nat) : Int) = m by omega]
theorem arg_u64 {n : Nat} {p : PV} (h : TyA Try.prog (n + 1) 24 p) : ∃ s : Nat, p = u64 s ∧ s < 2 ^ 64 := by
  obtain ⟨cs, h1, rfl⟩ := h
  obtain ⟨s, rfl, hs⟩ := u64_of h1
  exact ⟨s, by simp only [mkE, kindT, u_u64], hs⟩
theorem arg_arrI {n : Nat} {p : PV} (h : TyA Try.prog (n + 2) 33 p) : ∃ u v : Int, p = .agg [.int .i64 u, .int .i64 v] := by
  obtain ⟨cs, h1, rfl⟩ := h
  simp only [TyC, u_arrI] at h1
  obtain ⟨a, b, rfl, ha, c, d, rfl, hc, rfl⟩ := h1
  obtain ⟨u, rfl, _⟩ := int_of (n := n) ha
  obtain ⟨v, rfl, _⟩ := int_of (n := n) hc
  exact ⟨u, v, by simp only [mkE, kindT, u_arrI]; rfl⟩
theorem arg_arrU {n : Nat} {p : PV} (h : TyA Try.prog (n + 2) 34 p) : ∃ u v : Nat, p = .agg [u64 u, u64 v] ∧ u < 2 ^ 64 ∧ v < 2 ^ 64 := by
  obtain ⟨cs, h1, rfl⟩ := h
  simp only [TyC, u_arrU] at h1
  obtain ⟨a, b, rfl, ha, c, d, rfl, hc, rfl⟩ := h1
  obtain ⟨u, rfl, hu⟩ := u64_of (n := n) ha
  obtain ⟨v, rfl, hv⟩ := u64_of (n := n) hc
  exact ⟨u, v, by simp only [mkE, kindT, u_arrU]; rfl, hu, hv⟩
theorem u_u8 : Try.prog.underlying 5 = some (.int .u8) := by kernel_rfl
theorem arg_u8 {n : Nat} {p : PV} (h : TyA Try.prog (n + 1) 5 p) : ∃ s : Nat, p = .int .u8 (s : Int) ∧ s < 256 := by
  obtain ⟨cs, h1, rfl⟩ := h
  simp only [TyC, u_u8] at h1
  obtain ⟨m, rfl, hm⟩ := h1
  simp [Lit.wf, IntKind.min, IntKind.max, IntKind.signed, IntKind.bits] at hm
  refine ⟨m.toNat, ?_, by omega⟩
  simp only [mkE, kindT, u_u8]
  rw [show ((m.toNat : Nat) : Int) = m by omega]
end Go.Proofs.Ythnfbkplkheliaa
