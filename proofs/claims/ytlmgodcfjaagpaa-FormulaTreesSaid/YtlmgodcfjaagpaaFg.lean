/- Formulas: Sub, Compact, Size of both sides. -/
import Derived.Test.YtlmgodcfjaagpaaFf
set_option maxRecDepth 100000
set_option maxHeartbeats 4000000
namespace Go.Proofs.Ytlmgodcfjaagpaa
open Go Go.Dv

theorem firstErr_zero : ∀ {f : List Nd} {s : Nat}, firstErr f s = 0 → ∀ (i : Nat) x, f[i]? = some x → nodeErr x ((s + i : Nat) : Int) = 0
  | [], s, _, i, x, hx => by simp at hx
  | n :: r, s, h, i, x, hx => by
    simp only [firstErr] at h
    cases hb : (nodeErr n s != 0) with
    | true => rw [hb] at h; simp only [cond_true] at h; rw [h] at hb; simp at hb
    | false =>
      rw [hb] at h
      simp only [cond_false] at h
      cases i with
      | zero => simp at hx; subst hx; simpa using hb
      | succ i =>
        have := firstErr_zero h i x (by simpa using hx)
        rw [show s + (i + 1) = s + 1 + i by omega]; exact this
theorem check_ok {f : List Nd} (h : check f = 0) : 1 ≤ f.length ∧ f.length ≤ 200 ∧ ∀ (i : Nat) x, f[i]? = some x → nodeErr x (i : Int) = 0 := by
  unfold check at h
  cases h1 : ((f.length : Int) == 0) with
  | true => rw [h1] at h; simp at h
  | false =>
    cases h2 : decide ((f.length : Int) > 200) with
    | true => rw [h1, h2] at h; simp at h
    | false =>
      rw [h1, h2] at h
      simp only [cond_false] at h
      refine ⟨?_, ?_, fun i x hx => ?_⟩
      · have : ¬ (f.length : Int) = 0 := by simpa using h1
        omega
      · have : ¬ (f.length : Int) > 200 := by simpa using h2
        omega
      · have := firstErr_zero h i x hx
        simpa using this
/-- What a node has that is without error. -/
structure OkNd (n : Nd) (k : Int) : Prop where
  op : 1 ≤ n.op ∧ n.op ≤ 21
  x : usesX n.op = true → 0 ≤ n.x ∧ n.x < k
  nox : usesX n.op = false → n.x = 0
  y : usesY n.op = true → 0 ≤ n.y ∧ n.y < k
  noy : usesY n.op = false → n.y = 0
  fact : n.op = 3 → 0 ≤ n.i ∧ n.i < 8
  agent : isAgent n.op = true → 0 ≤ n.i ∧ n.i < 4
  act : n.op = 17 → 0 ≤ n.i ∧ n.i < 8 ∧ 0 ≤ n.e ∧ n.e < 8
  noi : n.op ≠ 3 → isAgent n.op = false → n.op ≠ 17 → n.i = 0
  noe : n.op ≠ 17 → n.e = 0
  group : isGroup n.op = true → 1 ≤ n.g ∧ n.g < 16
  nog : isGroup n.op = false → n.g = 0
theorem nodeErr_ok {x : Nd} {a : Int} : nodeErr x a = 0 ↔ OkNd x a := by
  have hd : ∀ {c : Bool} {p q : Int}, p ≠ 0 → ((bif c then p else q) = 0 ↔ c = false ∧ q = 0) := by
    intro c p q hp; cases c <;> simp [hp]
  unfold nodeErr
  rw [hd (by decide), hd (by decide), hd (by decide), hd (by decide), hd (by decide), hd (by decide), hd (by decide)]
  cases hx : usesX x.op <;> cases hy : usesY x.op <;> cases ha : isAgent x.op <;> cases hg : isGroup x.op <;>
    (constructor
     · intro h
       simp only [cond_true, cond_false, Bool.not_true, Bool.not_false] at h
       constructor <;> simp_all <;> (try omega)
     · intro h
       obtain ⟨h1, h2, h3, h4, h5, h6, h7, h8, h9, h10, h11, h12⟩ := h
       by_cases e3 : x.op = 3 <;> by_cases e17 : x.op = 17 <;> simp_all <;> (try omega))
theorem check_wf {f : List Nd} (h : check f = 0) : Wf f := fun i x hx =>
  have := nodeErr_ok.1 ((check_ok h).2.2 i x hx)
  ⟨this.x, this.y⟩
/-- The subformula at a node. -/
def sub (f : List Nd) (node : Int) : List Nd := bif bif bif check f != 0 then true else decide (node < 0) then true else decide (node ≥ (f.length : Int)) then [] else canon f node.toNat
def comp (f : List Nd) : List Nd := sub f ((f.length : Int) - 1)

theorem sub_no {f : List Nd} {node : Int} (h : (bif bif check f != 0 then true else decide (node < 0) then true else decide (node ≥ ((f.map Nd.pv).length : Int))) = true) : sub f node = [] := by
  rw [List.length_map] at h
  rw [sub, h]; rfl
theorem sub_yes {f : List Nd} {node : Int} (h : (bif bif check f != 0 then true else decide (node < 0) then true else decide (node ≥ ((f.map Nd.pv).length : Int))) = false) :
    check f = 0 ∧ ∃ k : Nat, node = k ∧ k < f.length ∧ sub f node = canon f k := by
  rw [List.length_map] at h
  have hs : sub f node = canon f node.toNat := by rw [sub, h]; rfl
  cases h1 : (check f != 0) with
  | true => rw [h1] at h; simp at h
  | false =>
    rw [h1] at h
    have h2 : ¬ node < 0 := by intro hh; simp [hh] at h
    have h3 : ¬ node ≥ (f.length : Int) := by intro hh; simp [h2, hh] at h
    exact ⟨by simpa using h1, node.toNat, by omega, by omega, hs⟩
end Go.Proofs.Ytlmgodcfjaagpaa
