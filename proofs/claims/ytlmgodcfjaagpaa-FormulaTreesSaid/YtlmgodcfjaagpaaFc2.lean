/- Formulas: what the walk keeps. -/
import Derived.Test.YtlmgodcfjaagpaaFc
namespace Go.Proofs.Ytlmgodcfjaagpaa
open Go Go.Dv

def Wf (f : List Nd) : Prop := ∀ (i : Nat) x, f[i]? = some x → (usesX x.op = true → 0 ≤ x.x ∧ x.x < i) ∧ (usesY x.op = true → 0 ≤ x.y ∧ x.y < i)
def cnt (ds : List (Nat × Nat)) : Nat → Nat
  | 0 => 0
  | n + 1 => cnt ds n + (match look n ds with | none => 1 | some _ => 0)

theorem look_dput (i k j : Nat) : ∀ ds : List (Nat × Nat), look j (dput i k ds) = if j = i then some k else look j ds
  | [] => by
    simp only [dput, look]
    by_cases h : i = j
    · rw [if_pos h, if_pos h.symm]
    · rw [if_neg h, if_neg (Ne.symm h)]
  | e :: r => by
    simp only [dput]
    by_cases h : e.1 = i
    · rw [if_pos h]
      simp only [look]
      by_cases hj : i = j
      · rw [if_pos hj, if_pos hj.symm]
      · rw [if_neg hj, if_neg (Ne.symm hj), if_neg (by rw [h]; exact hj)]
    · rw [if_neg h]
      simp only [look]
      by_cases hj : e.1 = j
      · rw [if_pos hj, if_pos hj, if_neg (by rw [← hj]; exact h)]
      · rw [if_neg hj, if_neg hj]
        exact look_dput i k j r

theorem cnt_dput {i k : Nat} {ds : List (Nat × Nat)} (h : look i ds = none) : ∀ N, cnt (dput i k ds) N + (if i < N then 1 else 0) = cnt ds N
  | 0 => by simp [cnt]
  | N + 1 => by
    have ih := cnt_dput (k := k) h N
    simp only [cnt, look_dput]
    by_cases hN : N = i
    · subst hN
      rw [if_pos rfl, h, if_pos (Nat.lt_succ_self N)]
      rw [if_neg (Nat.lt_irrefl N)] at ih
      simp only at ih ⊢
      omega
    · rw [if_neg hN]
      by_cases hl : i < N
      · rw [if_pos (by omega)]; rw [if_pos hl] at ih; omega
      · rw [if_neg (by omega)]; rw [if_neg hl] at ih; omega
theorem cnt_pos {i : Nat} {ds : List (Nat × Nat)} (h : look i ds = none) {N : Nat} (hi : i < N) : 1 ≤ cnt ds N := by
  have := cnt_dput (k := 0) h N
  rw [if_pos hi] at this
  omega

theorem put_keep {out : List Nd} {ds : List (Nat × Nat)} {i N : Nat} {x : Nd} (h : look i ds = none) (hi : i < N) (hb : out.length + cnt ds N ≤ N) : (putN out x).2.length + cnt (dput i (putN out x).1 ds) N ≤ N := by
  have hc := cnt_dput (k := (putN out x).1) h N
  rw [if_pos hi] at hc
  have hp : (putN out x).2.length ≤ out.length + 1 := by
    unfold putN
    split
    · simp
    · simp
  omega

/-- What comes behind a node's operands. -/
theorem fin_keep {f : List Nd} (hwf : Wf f) : ∀ (n i : Nat) (s : List Nd × List (Nat × Nat)), i < n → i < f.length →
    (∀ j, i < j → look j (fin f n i s).2.2 = look j s.2) ∧ (s.1.length + cnt s.2 f.length ≤ f.length → (fin f n i s).2.1.length + cnt (fin f n i s).2.2 f.length ≤ f.length)
  | 0, i, s, h, _ => by omega
  | n + 1, i, s, hin, hif => by
    have hn : f[i]? = some f[i] := List.getElem?_eq_getElem hif
    simp only [fin]
    cases hl : look i s.2 with
    | some k => exact ⟨fun _ _ => rfl, fun h => h⟩
    | none =>
      simp only [hn]
      obtain ⟨hx, hy⟩ := hwf i _ hn
      -- the first operand
      have ha : (∀ j, i ≤ j → look j (bif usesX f[i].op then fin f n f[i].x.toNat s else (0, s)).2.2 = look j s.2) ∧
          (s.1.length + cnt s.2 f.length ≤ f.length → (bif usesX f[i].op then fin f n f[i].x.toNat s else (0, s)).2.1.length + cnt (bif usesX f[i].op then fin f n f[i].x.toNat s else (0, s)).2.2 f.length ≤ f.length) := by
        cases hu : usesX f[i].op with
        | false => exact ⟨fun _ _ => rfl, fun h => h⟩
        | true =>
          have := hx hu
          obtain ⟨q1, q2⟩ := fin_keep hwf n f[i].x.toNat s (by omega) (by omega)
          exact ⟨fun j hj => q1 j (by omega), q2⟩
      generalize (bif usesX f[i].op then fin f n f[i].x.toNat s else (0, s)) = a at ha ⊢
      have hb : (∀ j, i ≤ j → look j (bif usesY f[i].op then fin f n f[i].y.toNat a.2 else (0, a.2)).2.2 = look j a.2.2) ∧
          (a.2.1.length + cnt a.2.2 f.length ≤ f.length → (bif usesY f[i].op then fin f n f[i].y.toNat a.2 else (0, a.2)).2.1.length + cnt (bif usesY f[i].op then fin f n f[i].y.toNat a.2 else (0, a.2)).2.2 f.length ≤ f.length) := by
        cases hu : usesY f[i].op with
        | false => exact ⟨fun _ _ => rfl, fun h => h⟩
        | true =>
          have := hy hu
          obtain ⟨q1, q2⟩ := fin_keep hwf n f[i].y.toNat a.2 (by omega) (by omega)
          exact ⟨fun j hj => q1 j (by omega), q2⟩
      generalize (bif usesY f[i].op then fin f n f[i].y.toNat a.2 else (0, a.2)) = b at hb ⊢
      have hbn : look i b.2.2 = none := by rw [hb.1 i (Nat.le_refl i), ha.1 i (Nat.le_refl i), hl]
      refine ⟨fun j hj => ?_, fun h => ?_⟩
      · simp only [look_dput, if_neg (show ¬ j = i by omega)]
        rw [hb.1 j (by omega), ha.1 j (by omega)]
      · have h2 := hb.2 (ha.2 h)
        exact put_keep hbn hif h2
end Go.Proofs.Ytlmgodcfjaagpaa
