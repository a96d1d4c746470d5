/- Formulas: Fits of both sides. -/
import Derived.Test.YtlmgodcfjaagpaaFl
set_option maxRecDepth 100000
set_option maxHeartbeats 4000000
namespace Go.Proofs.Ytlmgodcfjaagpaa
open Go Go.Dv

def belowB (mask n : Int) : Bool := bif decide (n ≥ 31) then true else shr64 mask (max n 0) == 0
def fits (f : List Nd) (a n : Int) : Bool := bif bif check f == 0 then belowB (agents f) a else false then belowB (facts f) n else false

theorem below_iff {mask k : Nat} (hm : mask < 2 ^ k) (hk : k ≤ 31) (n : Int) : belowB mask n = true ↔ ∀ j : Nat, j < k → (mask >>> j) % 2 = 1 → (j : Int) < n := by
  unfold belowB
  by_cases hn : n ≥ 31
  · simp only [hn, decide_true, cond_true, true_iff]
    intro j hj _; omega
  · have e : decide (n ≥ 31) = false := by simpa using hn
    rw [e, cond_false]
    obtain ⟨m, hmm⟩ : ∃ m : Nat, max n 0 = (m : Int) := ⟨(max n 0).toNat, by omega⟩
    rw [hmm, shr64_nat _ _ (by omega)]
    have e2 : (((mask >>> m : Nat) : Int) == 0) = true ↔ mask >>> m = 0 := by rw [beq_iff_eq]; exact Int.natCast_eq_zero
    rw [e2]
    have tb : ∀ j, (mask >>> j) % 2 = 1 ↔ mask.testBit j = true := by
      intro j; rw [Nat.testBit_eq_decide_div_mod_eq, Nat.shiftRight_eq_div_pow]; simp
    constructor
    · intro h0 j _ hb
      rcases Nat.lt_or_ge j m with h | h
      · omega
      · have : mask >>> j = 0 := by rw [show j = m + (j - m) by omega, Nat.shiftRight_add, h0, Nat.zero_shiftRight]
        rw [this] at hb; simp at hb
    · intro h
      refine Nat.eq_of_testBit_eq fun i => ?_
      rw [Nat.testBit_shiftRight, Nat.zero_testBit]
      rcases Nat.lt_or_ge (m + i) k with hlt | hge
      · cases hb : mask.testBit (m + i) with
        | false => rfl
        | true => have := h (m + i) hlt ((tb _).2 hb); omega
      · exact Nat.testBit_lt_two_pow (Nat.lt_of_lt_of_le hm (Nat.pow_le_pow_right (by decide) hge))

theorem fm_below (mask n : Int) : PureFn Try.prog 60 [.int .i64 mask, .int .i64 n] (.bool (belowB mask n)) := by
  refine PureFn.intro mixed (fn := Try.f60) rfl rfl rfl fun M w0 => ?_
  (try (conv => whnf)); repeat' (first | (apply And.intro <;> (try (conv => whnf))) | (intro h; first | (with_reducible exact tf0 h) | (with_reducible exact ft0 h) | (with_reducible exact nt0 h) | (with_reducible exact nf0 h) | (exact litz h rfl) | (with_reducible exact tf h (by with_reducible assumption)) | (with_reducible exact tf (by with_reducible assumption) h) | (try (conv => whnf))) | (with_reducible rfl) | (apply True.intro) | (apply infoT; rfl) | (apply bleI; rfl) | (apply fitI; rfl) | (apply cellsI; rfl) | (apply szI; rfl) | (apply guardI; kernel_rfl) | (apply WhenQ.mk; (try (conv => whnf)); rotate_left; (try (conv => whnf)); rotate_right) | (with_reducible assumption) | (apply not_of; with_reducible assumption) | (apply left_of; with_reducible assumption) | (apply left_of; apply left_of; with_reducible assumption) | (apply and_of <;> first | (with_reducible assumption) | (apply not_of; with_reducible assumption))| (refine lin_plan (by kernel_rfl) ?_; (try (conv => whnf))) | (refine ⟨_, _, rfl, idx_map (by with_reducible assumption), rfl, ?_⟩; (try (conv => whnf))) | (refine ⟨rfl, ?_⟩; (try (conv => whnf))) | fail)
  · show 0 ≤ max n 0
    omega
  · exact .refl _
theorem fm_Fits (f : List Nd) (a n : Int) : PureFn Try.prog 22 [fpv f, .int .i64 a, .int .i64 n] (.bool (fits f a n)) := by
  refine PureFn.intro mixed (fn := Try.f22) rfl rfl rfl fun M w0 => ?_
  (try (conv => whnf)); repeat' (first | (apply And.intro <;> (try (conv => whnf))) | (intro h; first | (with_reducible exact tf0 h) | (with_reducible exact ft0 h) | (with_reducible exact nt0 h) | (with_reducible exact nf0 h) | (exact litz h rfl) | (with_reducible exact tf h (by with_reducible assumption)) | (with_reducible exact tf (by with_reducible assumption) h) | (try (conv => whnf))) | (with_reducible rfl) | (apply True.intro) | (apply infoT; rfl) | (apply bleI; rfl) | (apply fitI; rfl) | (apply cellsI; rfl) | (apply szI; rfl) | (apply guardI; kernel_rfl) | (apply WhenQ.mk; (try (conv => whnf)); rotate_left; (try (conv => whnf)); rotate_right) | (with_reducible assumption) | (apply not_of; with_reducible assumption) | (apply left_of; with_reducible assumption) | (apply left_of; apply left_of; with_reducible assumption) | (apply and_of <;> first | (with_reducible assumption) | (apply not_of; with_reducible assumption))| (refine lin_plan (by kernel_rfl) ?_; (try (conv => whnf))) | (refine ⟨_, _, rfl, idx_map (by with_reducible assumption), rfl, ?_⟩; (try (conv => whnf))) | (refine ⟨rfl, ?_⟩; (try (conv => whnf))) | (refine PureFn.dcq (f := 12) rfl ?_; (try (conv => whnf))) | (refine PureFn.dcq (f := 20) rfl ?_; (try (conv => whnf))) | (refine PureFn.dcq (f := 18) rfl ?_; (try (conv => whnf))) | (refine PureFn.dcq (f := 60) rfl ?_; (try (conv => whnf))) | ((refine ⟨_, _, fm_Check ?_, ?_, ?_⟩); rotate_left 1; (focus (first | (refine ⟨?_, trivial⟩ <;> first | (exact PLe.refl _) | (exact PLe.nil)) | (exact trivial))); (try (conv => whnf))) | (refine ⟨_, (by (conv => whnf); exact fm_Check _), rfl, ?_⟩; (try (conv => whnf))) | ((refine ⟨_, _, fm_Agents ?_, ?_, ?_⟩); rotate_left 1; (focus (first | (refine ⟨?_, trivial⟩ <;> first | (exact PLe.refl _) | (exact PLe.nil)) | (exact trivial))); (try (conv => whnf))) | (refine ⟨_, (by (conv => whnf); exact fm_Agents _), rfl, ?_⟩; (try (conv => whnf))) | ((refine ⟨_, _, fm_Facts ?_, ?_, ?_⟩); rotate_left 1; (focus (first | (refine ⟨?_, trivial⟩ <;> first | (exact PLe.refl _) | (exact PLe.nil)) | (exact trivial))); (try (conv => whnf))) | (refine ⟨_, (by (conv => whnf); exact fm_Facts _), rfl, ?_⟩; (try (conv => whnf))) | ((refine ⟨_, _, fm_below ?_ ?_, ?_, ?_⟩); rotate_left 2; (focus (first | (refine ⟨?_, ?_, trivial⟩ <;> first | (exact PLe.refl _) | (exact PLe.nil)) | (exact trivial))); (try (conv => whnf))) | (refine ⟨_, (by (conv => whnf); exact fm_below _ _), rfl, ?_⟩; (try (conv => whnf))) | fail)
  exact .refl _
theorem bit_test {m i : Nat} {a : Int} (hi : i < 31) : (bif (shr64 (m : Int) (i : Int)).tmod 2 == 1 then decide ((i : Int) ≥ a) else false) = decide ((m >>> i) % 2 = 1 ∧ ¬ (i : Int) < a) := by
  rw [shr64_nat _ _ (by omega)]
  have e : (((m >>> i : Nat) : Int).tmod 2 == 1) = decide ((m >>> i) % 2 = 1) := by
    rw [Int.tmod_eq_emod_of_nonneg (Int.natCast_nonneg _), Bool.eq_iff_iff]
    rw [beq_iff_eq, decide_eq_true_iff, show (((m >>> i : Nat) : Int) % 2) = ((m >>> i % 2 : Nat) : Int) from rfl]
    omega
  rw [e]
  cases h : decide ((m >>> i) % 2 = 1) <;> simp_all
theorem ref_Fits (f : List Nd) (a n : Int) : PureFn Try.prog 23 [fpv f, .int .i64 a, .int .i64 n] (.bool (fits f a n)) := by
  refine PureFn.intro mixed (fn := Try.f23) rfl rfl rfl fun M w0 => ?_
  (try (conv => whnf)); repeat' (first | (apply And.intro <;> (try (conv => whnf))) | (intro h; first | (with_reducible exact tf0 h) | (with_reducible exact ft0 h) | (with_reducible exact nt0 h) | (with_reducible exact nf0 h) | (exact litz h rfl) | (with_reducible exact tf h (by with_reducible assumption)) | (with_reducible exact tf (by with_reducible assumption) h) | (try (conv => whnf))) | (with_reducible rfl) | (apply True.intro) | (apply infoT; rfl) | (apply bleI; rfl) | (apply fitI; rfl) | (apply cellsI; rfl) | (apply szI; rfl) | (apply guardI; kernel_rfl) | (apply WhenQ.mk; (try (conv => whnf)); rotate_left; (try (conv => whnf)); rotate_right) | (with_reducible assumption) | (apply not_of; with_reducible assumption) | (apply left_of; with_reducible assumption) | (apply left_of; apply left_of; with_reducible assumption) | (apply and_of <;> first | (with_reducible assumption) | (apply not_of; with_reducible assumption))| (refine lin_plan (by kernel_rfl) ?_; (try (conv => whnf))) | (refine ⟨_, _, rfl, idx_map (by with_reducible assumption), rfl, ?_⟩; (try (conv => whnf))) | (refine ⟨rfl, ?_⟩; (try (conv => whnf))) | (refine PureFn.dcq (f := 13) rfl ?_; (try (conv => whnf))) | ((refine ⟨_, _, ref_Check ?_, ?_, ?_⟩); rotate_left 1; (focus (first | (refine ⟨?_, trivial⟩ <;> first | (exact PLe.refl _) | (exact PLe.nil)) | (exact trivial))); (try (conv => whnf))) | (refine ⟨_, (by (conv => whnf); exact ref_Check _), rfl, ?_⟩; (try (conv => whnf))) | fail)
  · have hc : (check f == 0) = false := by simpa [bne] using h
    exact le_bool (by rw [fits, hc]; rfl)
  · have hc : (check f == 0) = true := by simpa [bne] using h
    have fe : fits f a n = (belowB (agents f) a && belowB (facts f) n) := by rw [fits, hc]; cases belowB (agents f) a <;> rfl
    have ba := below_iff (agents_lt f) (by decide) a
    have bn := below_iff (facts_lt f) (by decide) n
    refine ⟨{ i : Nat // i ≤ 4 ∧ ∀ j : Nat, j < i → (agents f >>> j) % 2 = 1 → (j : Int) < a }, fun i => [(0, .pv (fpv f)), (1, .pv (.int .i64 a)), (2, .pv (.int .i64 n)), (7, .pv (.int .i64 (i.1 : Nat)))], fun _ => 0,
      fun i => [], fun i => 4 - i.1, ⟨⟨0, Nat.zero_le _, fun j hj => absurd hj (Nat.not_lt_zero j)⟩, (by refine Wk.of ?_ ?_ rfl rfl rfl <;> (repeat' (first | (exact trivial) | (exact WkD.same _) | (exact WkO.same _ _ rfl) | (exact WkD.any _) | (refine WkD.int ?_) | (exact WkD.new' rfl rfl rfl) | (exact WkO.new _ _ rfl) | (refine WkO.vars rfl ?_) | (with_reducible rfl) | (exact rfl) | (refine ⟨?_, ?_⟩) | ((refine wrapA ?_ ?_ ?_); (focus (simp; done)); (focus ((try dsimp only); omega)); (focus ((try dsimp only); omega))) | fail)))⟩, ?_⟩
    rintro ⟨i, hi, hinv⟩
    (try (conv => whnf)); repeat' (first | (apply And.intro <;> (try (conv => whnf))) | (intro h; first | (with_reducible exact tf0 h) | (with_reducible exact ft0 h) | (with_reducible exact nt0 h) | (with_reducible exact nf0 h) | (exact litz h rfl) | (with_reducible exact tf h (by with_reducible assumption)) | (with_reducible exact tf (by with_reducible assumption) h) | (try (conv => whnf))) | (with_reducible rfl) | (apply True.intro) | (apply infoT; rfl) | (apply bleI; rfl) | (apply fitI; rfl) | (apply cellsI; rfl) | (apply szI; rfl) | (apply guardI; kernel_rfl) | (apply WhenQ.mk; (try (conv => whnf)); rotate_left; (try (conv => whnf)); rotate_right) | (with_reducible assumption) | (apply not_of; with_reducible assumption) | (apply left_of; with_reducible assumption) | (apply left_of; apply left_of; with_reducible assumption) | (apply and_of <;> first | (with_reducible assumption) | (apply not_of; with_reducible assumption))| (refine lin_plan (by kernel_rfl) ?_; (try (conv => whnf))) | (refine ⟨_, _, rfl, idx_map (by with_reducible assumption), rfl, ?_⟩; (try (conv => whnf))) | (refine ⟨rfl, ?_⟩; (try (conv => whnf))) | (refine PureFn.dcq (f := 21) rfl ?_; (try (conv => whnf))) | ((refine ⟨_, _, ref_Agents ?_, ?_, ?_⟩); rotate_left 1; (focus (first | (refine ⟨?_, trivial⟩ <;> first | (exact PLe.refl _) | (exact PLe.nil)) | (exact trivial))); (try (conv => whnf))) | (refine ⟨_, (by (conv => whnf); exact ref_Agents _), rfl, ?_⟩; (try (conv => whnf))) | fail)
    · have hi' : i < 4 := by simp at h; omega
      exact Int.natCast_nonneg i
    · rename_i hlt
      have hi' : i < 4 := by simp at hlt; omega
      have h2 := (bit_test (m := agents f) (i := i) (a := a) (by omega)).symm.trans h
      have h3 := of_decide_eq_true h2
      refine le_bool ?_
      cases hb : belowB (agents f) a with
      | false => rw [fe, hb]; rfl
      | true => exact absurd (ba.1 hb i hi' h3.1) h3.2
    · rename_i hlt
      have hi' : i < 4 := by simp at hlt; omega
      have h2 := (bit_test (m := agents f) (i := i) (a := a) (by omega)).symm.trans h
      have h3 := of_decide_eq_false h2
      refine ⟨⟨i + 1, hi', fun j hj hb => ?_⟩, by show 4 - (i + 1) < 4 - i; omega, (by refine Wk.of ?_ ?_ rfl rfl rfl <;> (repeat' (first | (exact trivial) | (exact WkD.same _) | (exact WkO.same _ _ rfl) | (exact WkD.any _) | (refine WkD.int ?_) | (exact WkD.new' rfl rfl rfl) | (exact WkO.new _ _ rfl) | (refine WkO.vars rfl ?_) | (with_reducible rfl) | (exact rfl) | (refine ⟨?_, ?_⟩) | ((refine wrapA ?_ ?_ ?_); (focus (simp; done)); (focus ((try dsimp only); omega)); (focus ((try dsimp only); omega))) | fail)))⟩
      by_cases e : j = i
      · subst e
        by_cases hh : (j : Int) < a
        · exact hh
        · exact absurd ⟨hb, hh⟩ h3
      · exact hinv j (by omega) hb
    · have hi' : i = 4 := by simp at *; omega
      subst hi'
      have hA : belowB (agents f) a = true := ba.2 hinv
      rw [hA, Bool.true_and] at fe
      refine ⟨{ i : Nat // i ≤ 8 ∧ ∀ j : Nat, j < i → (facts f >>> j) % 2 = 1 → (j : Int) < n }, fun i => [(0, .pv (fpv f)), (1, .pv (.int .i64 a)), (2, .pv (.int .i64 n)), (8, .pv (.int .i64 (i.1 : Nat)))], fun _ => 0,
        fun i => [], fun i => 8 - i.1, ⟨⟨0, Nat.zero_le _, fun j hj => absurd hj (Nat.not_lt_zero j)⟩, (by refine Wk.of ?_ ?_ rfl rfl rfl <;> (repeat' (first | (exact trivial) | (exact WkD.same _) | (exact WkO.same _ _ rfl) | (exact WkD.any _) | (refine WkD.int ?_) | (exact WkD.new' rfl rfl rfl) | (exact WkO.new _ _ rfl) | (refine WkO.vars rfl ?_) | (with_reducible rfl) | (exact rfl) | (refine ⟨?_, ?_⟩) | ((refine wrapA ?_ ?_ ?_); (focus (simp; done)); (focus ((try dsimp only); omega)); (focus ((try dsimp only); omega))) | fail)))⟩, ?_⟩
      rintro ⟨i, hi, hinv⟩
      (try (conv => whnf)); repeat' (first | (apply And.intro <;> (try (conv => whnf))) | (intro h; first | (with_reducible exact tf0 h) | (with_reducible exact ft0 h) | (with_reducible exact nt0 h) | (with_reducible exact nf0 h) | (exact litz h rfl) | (with_reducible exact tf h (by with_reducible assumption)) | (with_reducible exact tf (by with_reducible assumption) h) | (try (conv => whnf))) | (with_reducible rfl) | (apply True.intro) | (apply infoT; rfl) | (apply bleI; rfl) | (apply fitI; rfl) | (apply cellsI; rfl) | (apply szI; rfl) | (apply guardI; kernel_rfl) | (apply WhenQ.mk; (try (conv => whnf)); rotate_left; (try (conv => whnf)); rotate_right) | (with_reducible assumption) | (apply not_of; with_reducible assumption) | (apply left_of; with_reducible assumption) | (apply left_of; apply left_of; with_reducible assumption) | (apply and_of <;> first | (with_reducible assumption) | (apply not_of; with_reducible assumption))| (refine lin_plan (by kernel_rfl) ?_; (try (conv => whnf))) | (refine ⟨_, _, rfl, idx_map (by with_reducible assumption), rfl, ?_⟩; (try (conv => whnf))) | (refine ⟨rfl, ?_⟩; (try (conv => whnf))) | (refine PureFn.dcq (f := 19) rfl ?_; (try (conv => whnf))) | ((refine ⟨_, _, ref_Facts ?_, ?_, ?_⟩); rotate_left 1; (focus (first | (refine ⟨?_, trivial⟩ <;> first | (exact PLe.refl _) | (exact PLe.nil)) | (exact trivial))); (try (conv => whnf))) | (refine ⟨_, (by (conv => whnf); exact ref_Facts _), rfl, ?_⟩; (try (conv => whnf))) | fail)
      · exact Int.natCast_nonneg i
      · rename_i hlt
        have hi' : i < 8 := by simp at hlt; omega
        have h2 := (bit_test (m := facts f) (i := i) (a := n) (by omega)).symm.trans h
        have h3 := of_decide_eq_true h2
        refine le_bool ?_
        cases hb : belowB (facts f) n with
        | false => rw [fe, hb]
        | true => exact absurd (bn.1 hb i hi' h3.1) h3.2
      · rename_i hlt
        have hi' : i < 8 := by simp at hlt; omega
        have h2 := (bit_test (m := facts f) (i := i) (a := n) (by omega)).symm.trans h
        have h3 := of_decide_eq_false h2
        refine ⟨⟨i + 1, hi', fun j hj hb => ?_⟩, by show 8 - (i + 1) < 8 - i; omega, (by refine Wk.of ?_ ?_ rfl rfl rfl <;> (repeat' (first | (exact trivial) | (exact WkD.same _) | (exact WkO.same _ _ rfl) | (exact WkD.any _) | (refine WkD.int ?_) | (exact WkD.new' rfl rfl rfl) | (exact WkO.new _ _ rfl) | (refine WkO.vars rfl ?_) | (with_reducible rfl) | (exact rfl) | (refine ⟨?_, ?_⟩) | ((refine wrapA ?_ ?_ ?_); (focus (simp; done)); (focus ((try dsimp only); omega)); (focus ((try dsimp only); omega))) | fail)))⟩
        by_cases e : j = i
        · subst e
          by_cases hh : (j : Int) < n
          · exact hh
          · exact absurd ⟨hb, hh⟩ h3
        · exact hinv j (by omega) hb
      · have hi' : i = 8 := by simp at *; omega
        subst hi'
        exact le_bool (by rw [fe, bn.2 hinv])
end Go.Proofs.Ytlmgodcfjaagpaa
