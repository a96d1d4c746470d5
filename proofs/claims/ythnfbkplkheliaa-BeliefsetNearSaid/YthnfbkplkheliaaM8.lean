/- Parts of the proof, one after the other: Belief sets: checks and distances of both sides walked. Belief sets: Closest of both sides walked. Belief sets: Known, Forget, Depends of both sides walked. Belief sets: Forget and Depends of both sides walked. -/
import Derived.Test.YthnfbkplkheliaaM7
set_option maxRecDepth 100000
set_option maxHeartbeats 4000000
namespace Go.Proofs.Ythnfbkplkheliaa
open Go Go.Dv

theorem le_u64 {a : Int} {n : Nat} (h : a = (n : Int)) : PLe (.int .u64 a) (u64 n) := h ▸ .refl _
theorem bs_valid (facts : Int) : PureFn Try.prog 37 [.int .i64 facts] (.bool (okN facts)) := by
  refine PureFn.intro mixed (fn := Try.f37) rfl rfl rfl fun M w0 => ?_
  (try (conv => whnf)); repeat' (first | (apply And.intro <;> (try (conv => whnf))) | (intro h; first | (with_reducible exact tf0 h) | (with_reducible exact ft0 h) | (with_reducible exact nt0 h) | (with_reducible exact nf0 h) | (exact litz h rfl) | (with_reducible exact tf h (by with_reducible assumption)) | (with_reducible exact tf (by with_reducible assumption) h) | (try (conv => whnf))) | (with_reducible rfl) | (apply True.intro) | (apply infoT; rfl) | (apply bleI; rfl) | (apply fitI; rfl) | (apply cellsI; rfl) | (apply szI; rfl) | (apply guardI; kernel_rfl) | (apply WhenQ.mk; (try (conv => whnf)); rotate_left; (try (conv => whnf)); rotate_right) | (with_reducible assumption) | (apply not_of; with_reducible assumption) | (apply left_of; with_reducible assumption) | (apply left_of; apply left_of; with_reducible assumption) | (apply and_of <;> first | (with_reducible assumption) | (apply not_of; with_reducible assumption))| (refine lin_plan (by kernel_rfl) ?_; (try (conv => whnf))) | (refine ⟨_, _, rfl, idx_map (by with_reducible assumption), rfl, ?_⟩; (try (conv => whnf))) | (refine ⟨rfl, ?_⟩; (try (conv => whnf))) | (exact Nat.le_refl 1) | ((apply ex3); (focus (with_reducible assumption)); (focus (with_reducible assumption)); (try (conv => whnf))) | ((apply ex2); (focus (with_reducible assumption)); (try (conv => whnf))) | fail)
  exact .refl _
theorem shl_all {n : Nat} (hn : n ≤ 4) : IntKind.wrap .u64 (shlU 1 (shlU 1 (n : Int)) - 1) = ((2 ^ (2 ^ n) - 1 : Nat) : Int) := by
  have h1 := vals_le hn
  have h2 := sets_le hn
  have h3 : 1 ≤ 2 ^ (2 ^ n) := Nat.one_le_two_pow
  rw [shlU_one (by omega), shlU_one (by omega)]
  rw [wrapU (by omega) (by omega)]; omega
theorem all_pv {facts : Int} (hk : okN facts = true) : IntKind.wrap .u64 (shlU 1 (shlU 1 facts) - 1) = ((2 ^ (2 ^ facts.toNat) - 1 : Nat) : Int) := by
  obtain ⟨n, rfl, hn⟩ := okN_iff.1 hk
  exact shl_all hn
theorem okN_pos {facts : Int} (hk : okN facts = true) : 0 ≤ facts := by
  obtain ⟨n, rfl, hn⟩ := okN_iff.1 hk
  omega
theorem wrapU_pos (a : Int) : 0 ≤ IntKind.wrap .u64 a := Int.emod_nonneg _ (by decide)
theorem bs_all (facts : Int) (hk : okN facts = true) : PureFn Try.prog 54 [.int .i64 facts] (u64 (2 ^ (2 ^ facts.toNat) - 1)) := by
  refine PureFn.intro mixed (fn := Try.f54) rfl rfl rfl fun M w0 => ?_
  (try (conv => whnf)); repeat' (first | (apply And.intro <;> (try (conv => whnf))) | (intro h; first | (with_reducible exact tf0 h) | (with_reducible exact ft0 h) | (with_reducible exact nt0 h) | (with_reducible exact nf0 h) | (exact litz h rfl) | (with_reducible exact tf h (by with_reducible assumption)) | (with_reducible exact tf (by with_reducible assumption) h) | (try (conv => whnf))) | (with_reducible rfl) | (apply True.intro) | (apply infoT; rfl) | (apply bleI; rfl) | (apply fitI; rfl) | (apply cellsI; rfl) | (apply szI; rfl) | (apply guardI; kernel_rfl) | (apply WhenQ.mk; (try (conv => whnf)); rotate_left; (try (conv => whnf)); rotate_right) | (with_reducible assumption) | (apply not_of; with_reducible assumption) | (apply left_of; with_reducible assumption) | (apply left_of; apply left_of; with_reducible assumption) | (apply and_of <;> first | (with_reducible assumption) | (apply not_of; with_reducible assumption))| (refine lin_plan (by kernel_rfl) ?_; (try (conv => whnf))) | (refine ⟨_, _, rfl, idx_map (by with_reducible assumption), rfl, ?_⟩; (try (conv => whnf))) | (refine ⟨rfl, ?_⟩; (try (conv => whnf))) | (exact Nat.le_refl 1) | ((apply ex3); (focus (with_reducible assumption)); (focus (with_reducible assumption)); (try (conv => whnf))) | ((apply ex2); (focus (with_reducible assumption)); (try (conv => whnf))) | fail)
  · exact okN_pos hk
  · exact wrapU_pos _
  · exact le_u64 (all_pv hk)
theorem rb_All (facts : Int) (hk : okN facts = true) : PureFn Try.prog 55 [.int .i64 facts] (u64 (2 ^ (2 ^ facts.toNat) - 1)) := by
  refine PureFn.intro mixed (fn := Try.f55) rfl rfl rfl fun M w0 => ?_
  (try (conv => whnf)); repeat' (first | (apply And.intro <;> (try (conv => whnf))) | (intro h; first | (with_reducible exact tf0 h) | (with_reducible exact ft0 h) | (with_reducible exact nt0 h) | (with_reducible exact nf0 h) | (exact litz h rfl) | (with_reducible exact tf h (by with_reducible assumption)) | (with_reducible exact tf (by with_reducible assumption) h) | (try (conv => whnf))) | (with_reducible rfl) | (apply True.intro) | (apply infoT; rfl) | (apply bleI; rfl) | (apply fitI; rfl) | (apply cellsI; rfl) | (apply szI; rfl) | (apply guardI; kernel_rfl) | (apply WhenQ.mk; (try (conv => whnf)); rotate_left; (try (conv => whnf)); rotate_right) | (with_reducible assumption) | (apply not_of; with_reducible assumption) | (apply left_of; with_reducible assumption) | (apply left_of; apply left_of; with_reducible assumption) | (apply and_of <;> first | (with_reducible assumption) | (apply not_of; with_reducible assumption))| (refine lin_plan (by kernel_rfl) ?_; (try (conv => whnf))) | (refine ⟨_, _, rfl, idx_map (by with_reducible assumption), rfl, ?_⟩; (try (conv => whnf))) | (refine ⟨rfl, ?_⟩; (try (conv => whnf))) | (exact Nat.le_refl 1) | ((apply ex3); (focus (with_reducible assumption)); (focus (with_reducible assumption)); (try (conv => whnf))) | ((apply ex2); (focus (with_reducible assumption)); (try (conv => whnf))) | fail)
  · exact okN_pos hk
  · exact wrapU_pos _
  · exact le_u64 (all_pv hk)
theorem ok_not (facts : Int) : (bif decide (facts < 0) then true else decide (facts > 4)) = !okN facts := by
  unfold okN
  by_cases h : facts < 0
  · have : ¬ facts ≥ 0 := by omega
    simp [h, this]
  · have h1 : facts ≥ 0 := by omega
    by_cases h2 : facts > 4
    · have : ¬ facts ≤ 4 := by omega
      simp [h, h1, h2, this]
    · have : facts ≤ 4 := by omega
      simp [h, h1, h2, this]
theorem chk_val {s : Nat} {facts : Int} (hs : s < 2 ^ 64) : (bif bif !okN facts then true else andNotU s ((2 ^ (2 ^ facts.toNat) - 1 : Nat) : Int) != 0 then 2 else 0) = bchk s facts := by
  unfold bchk
  cases hk : okN facts with
  | false => rfl
  | true =>
    obtain ⟨n, rfl, hn⟩ := okN_iff.1 hk
    have := (vals_le hn).2
    rw [Int.toNat_natCast, andNotU_zero hs (by omega)]
    by_cases h : s < 2 ^ (2 ^ n)
    · simp [h]
    · simp [h]
theorem bs_Check (s : Nat) (facts : Int) (hs : s < 2 ^ 64) : PureFn Try.prog 17 [u64 s, .int .i64 facts] (.int .i64 (bchk s facts)) := by
  rw [← chk_val hs]
  refine PureFn.intro mixed (fn := Try.f17) rfl rfl rfl fun M w0 => ?_
  (try (conv => whnf)); repeat' (first | (apply And.intro <;> (try (conv => whnf))) | (intro h; first | (with_reducible exact tf0 h) | (with_reducible exact ft0 h) | (with_reducible exact nt0 h) | (with_reducible exact nf0 h) | (exact litz h rfl) | (with_reducible exact tf h (by with_reducible assumption)) | (with_reducible exact tf (by with_reducible assumption) h) | (try (conv => whnf))) | (with_reducible rfl) | (apply True.intro) | (apply infoT; rfl) | (apply bleI; rfl) | (apply fitI; rfl) | (apply cellsI; rfl) | (apply szI; rfl) | (apply guardI; kernel_rfl) | (apply WhenQ.mk; (try (conv => whnf)); rotate_left; (try (conv => whnf)); rotate_right) | (with_reducible assumption) | (apply not_of; with_reducible assumption) | (apply left_of; with_reducible assumption) | (apply left_of; apply left_of; with_reducible assumption) | (apply and_of <;> first | (with_reducible assumption) | (apply not_of; with_reducible assumption))| (refine lin_plan (by kernel_rfl) ?_; (try (conv => whnf))) | (refine ⟨_, _, rfl, idx_map (by with_reducible assumption), rfl, ?_⟩; (try (conv => whnf))) | (refine ⟨rfl, ?_⟩; (try (conv => whnf))) | (exact Nat.le_refl 1) | ((apply ex3); (focus (with_reducible assumption)); (focus (with_reducible assumption)); (try (conv => whnf))) | ((apply ex2); (focus (with_reducible assumption)); (try (conv => whnf))) | (refine PureFn.dcq (f := 37) rfl ?_; (try (conv => whnf))) | (refine PureFn.dcq (f := 54) rfl ?_; (try (conv => whnf))) | ((refine ⟨_, _, bs_valid ?_, ?_, ?_⟩); rotate_left 1; (focus (first | (refine ⟨?_, trivial⟩ <;> first | (exact PLe.refl _) | (exact PLe.nil)) | (exact trivial))); (try (conv => whnf))) | (refine ⟨_, (by (conv => whnf); exact bs_valid _), rfl, ?_⟩; (try (conv => whnf))) | ((refine ⟨_, _, bs_all ?_ ?_, ?_, ?_⟩); rotate_left 2; (focus (first | (refine ⟨?_, trivial⟩ <;> first | (exact PLe.refl _) | (exact PLe.nil)) | (exact trivial))); (try (conv => whnf))) | (refine ⟨_, (by (conv => whnf); exact bs_all _ _), rfl, ?_⟩; (try (conv => whnf))) | fail)
  · simpa using h
  · refine le_int ?_
    have h' : (bif !okN facts then true else andNotU s ((2 ^ (2 ^ facts.toNat) - 1 : Nat) : Int) != 0) = true := h
    rw [h']; rfl
  · refine le_int ?_
    have h' : (bif !okN facts then true else andNotU s ((2 ^ (2 ^ facts.toNat) - 1 : Nat) : Int) != 0) = false := h
    rw [h']; rfl
theorem rb_Check (s : Nat) (facts : Int) (hs : s < 2 ^ 64) : PureFn Try.prog 18 [u64 s, .int .i64 facts] (.int .i64 (bchk s facts)) := by
  rw [← chk_val hs, ← ok_not]
  refine PureFn.intro mixed (fn := Try.f18) rfl rfl rfl fun M w0 => ?_
  (try (conv => whnf)); repeat' (first | (apply And.intro <;> (try (conv => whnf))) | (intro h; first | (with_reducible exact tf0 h) | (with_reducible exact ft0 h) | (with_reducible exact nt0 h) | (with_reducible exact nf0 h) | (exact litz h rfl) | (with_reducible exact tf h (by with_reducible assumption)) | (with_reducible exact tf (by with_reducible assumption) h) | (try (conv => whnf))) | (with_reducible rfl) | (apply True.intro) | (apply infoT; rfl) | (apply bleI; rfl) | (apply fitI; rfl) | (apply cellsI; rfl) | (apply szI; rfl) | (apply guardI; kernel_rfl) | (apply WhenQ.mk; (try (conv => whnf)); rotate_left; (try (conv => whnf)); rotate_right) | (with_reducible assumption) | (apply not_of; with_reducible assumption) | (apply left_of; with_reducible assumption) | (apply left_of; apply left_of; with_reducible assumption) | (apply and_of <;> first | (with_reducible assumption) | (apply not_of; with_reducible assumption))| (refine lin_plan (by kernel_rfl) ?_; (try (conv => whnf))) | (refine ⟨_, _, rfl, idx_map (by with_reducible assumption), rfl, ?_⟩; (try (conv => whnf))) | (refine ⟨rfl, ?_⟩; (try (conv => whnf))) | (exact Nat.le_refl 1) | ((apply ex3); (focus (with_reducible assumption)); (focus (with_reducible assumption)); (try (conv => whnf))) | ((apply ex2); (focus (with_reducible assumption)); (try (conv => whnf))) | (refine PureFn.dcq (f := 55) rfl ?_; (try (conv => whnf))) | ((refine ⟨_, _, rb_All ?_ ?_, ?_, ?_⟩); rotate_left 2; (focus (first | (refine ⟨?_, trivial⟩ <;> first | (exact PLe.refl _) | (exact PLe.nil)) | (exact trivial))); (try (conv => whnf))) | (refine ⟨_, (by (conv => whnf); exact rb_All _ _), rfl, ?_⟩; (try (conv => whnf))) | fail)
  · rw [ok_not] at h; simpa using h
  · refine le_int ?_
    have h' : (bif bif decide (facts < 0) then true else decide (facts > 4) then true else andNotU s ((2 ^ (2 ^ facts.toNat) - 1 : Nat) : Int) != 0) = true := h
    rw [h']; rfl
  · refine le_int ?_
    have h' : (bif bif decide (facts < 0) then true else decide (facts > 4) then true else andNotU s ((2 ^ (2 ^ facts.toNat) - 1 : Nat) : Int) != 0) = false := h
    rw [h']; rfl
theorem rb_Has (s v : Nat) (hv : v ≤ 64) : PureFn Try.prog 49 [u64 s, .int .i64 (v : Int)] (.bool (s.testBit v)) := by
  refine PureFn.intro mixed (fn := Try.f49) rfl rfl rfl fun M w0 => ?_
  (try (conv => whnf)); repeat' (first | (apply And.intro <;> (try (conv => whnf))) | (intro h; first | (with_reducible exact tf0 h) | (with_reducible exact ft0 h) | (with_reducible exact nt0 h) | (with_reducible exact nf0 h) | (exact litz h rfl) | (with_reducible exact tf h (by with_reducible assumption)) | (with_reducible exact tf (by with_reducible assumption) h) | (try (conv => whnf))) | (with_reducible rfl) | (apply True.intro) | (apply infoT; rfl) | (apply bleI; rfl) | (apply fitI; rfl) | (apply cellsI; rfl) | (apply szI; rfl) | (apply guardI; kernel_rfl) | (apply WhenQ.mk; (try (conv => whnf)); rotate_left; (try (conv => whnf)); rotate_right) | (with_reducible assumption) | (apply not_of; with_reducible assumption) | (apply left_of; with_reducible assumption) | (apply left_of; apply left_of; with_reducible assumption) | (apply and_of <;> first | (with_reducible assumption) | (apply not_of; with_reducible assumption))| (refine lin_plan (by kernel_rfl) ?_; (try (conv => whnf))) | (refine ⟨_, _, rfl, idx_map (by with_reducible assumption), rfl, ?_⟩; (try (conv => whnf))) | (refine ⟨rfl, ?_⟩; (try (conv => whnf))) | (exact Nat.le_refl 1) | ((apply ex3); (focus (with_reducible assumption)); (focus (with_reducible assumption)); (try (conv => whnf))) | ((apply ex2); (focus (with_reducible assumption)); (try (conv => whnf))) | fail)
  · show (0 : Int) ≤ (v : Int)
    omega
  · exact le_bool (bit_rem hv)
theorem bits_64 (x : Nat) (hx : x < 16) : PureFn Try.prog 87 [u64 x] (.int .i64 (cnt' x 0 4 : Nat)) := by
  refine PureFn.intro mixed (fn := Try.f87) rfl rfl rfl fun M w0 => ?_
  (try (conv => whnf)); repeat' (first | (apply And.intro <;> (try (conv => whnf))) | (intro h; first | (with_reducible exact tf0 h) | (with_reducible exact ft0 h) | (with_reducible exact nt0 h) | (with_reducible exact nf0 h) | (exact litz h rfl) | (with_reducible exact tf h (by with_reducible assumption)) | (with_reducible exact tf (by with_reducible assumption) h) | (try (conv => whnf))) | (with_reducible rfl) | (apply True.intro) | (apply infoT; rfl) | (apply bleI; rfl) | (apply fitI; rfl) | (apply cellsI; rfl) | (apply szI; rfl) | (apply guardI; kernel_rfl) | (apply WhenQ.mk; (try (conv => whnf)); rotate_left; (try (conv => whnf)); rotate_right) | (with_reducible assumption) | (apply not_of; with_reducible assumption) | (apply left_of; with_reducible assumption) | (apply left_of; apply left_of; with_reducible assumption) | (apply and_of <;> first | (with_reducible assumption) | (apply not_of; with_reducible assumption))| (refine lin_plan (by kernel_rfl) ?_; (try (conv => whnf))) | (refine ⟨_, _, rfl, idx_map (by with_reducible assumption), rfl, ?_⟩; (try (conv => whnf))) | (refine ⟨rfl, ?_⟩; (try (conv => whnf))) | (exact Nat.le_refl 1) | ((apply ex3); (focus (with_reducible assumption)); (focus (with_reducible assumption)); (try (conv => whnf))) | ((apply ex2); (focus (with_reducible assumption)); (try (conv => whnf))) | fail)
  all_goals first | (show (0 : Int) ≤ _; decide) | skip
  refine le_int ?_
  clear M w0
  revert x
  decide +kernel
theorem bits_u (x : Nat) (hx : x < 16) : PureFn Try.prog 58 [u64 x] (.int .i64 (cnt' x 0 4 : Nat)) := by
  have h64 := bits_64 x hx
  refine PureFn.intro mixed (fn := Try.f58) rfl rfl rfl fun M w0 => ?_
  (try (conv => whnf)); repeat' (first | (apply And.intro <;> (try (conv => whnf))) | (intro h; first | (with_reducible exact tf0 h) | (with_reducible exact ft0 h) | (with_reducible exact nt0 h) | (with_reducible exact nf0 h) | (exact litz h rfl) | (with_reducible exact tf h (by with_reducible assumption)) | (with_reducible exact tf (by with_reducible assumption) h) | (try (conv => whnf))) | (with_reducible rfl) | (apply True.intro) | (apply infoT; rfl) | (apply bleI; rfl) | (apply fitI; rfl) | (apply cellsI; rfl) | (apply szI; rfl) | (apply guardI; kernel_rfl) | (apply WhenQ.mk; (try (conv => whnf)); rotate_left; (try (conv => whnf)); rotate_right) | (with_reducible assumption) | (apply not_of; with_reducible assumption) | (apply left_of; with_reducible assumption) | (apply left_of; apply left_of; with_reducible assumption) | (apply and_of <;> first | (with_reducible assumption) | (apply not_of; with_reducible assumption))| (refine lin_plan (by kernel_rfl) ?_; (try (conv => whnf))) | (refine ⟨_, _, rfl, idx_map (by with_reducible assumption), rfl, ?_⟩; (try (conv => whnf))) | (refine ⟨rfl, ?_⟩; (try (conv => whnf))) | (exact Nat.le_refl 1) | ((apply ex3); (focus (with_reducible assumption)); (focus (with_reducible assumption)); (try (conv => whnf))) | ((apply ex2); (focus (with_reducible assumption)); (try (conv => whnf))) | (refine PureFn.dcq (f := 87) rfl ?_; (try (conv => whnf))) | ((refine ⟨_, _, h64, ?_, ?_⟩); (focus (first | (refine ⟨?_, trivial⟩ <;> first | (exact PLe.refl _) | (exact PLe.nil)) | (exact trivial))); (try (conv => whnf))) | (refine ⟨_, (by (conv => whnf); exact h64), rfl, ?_⟩; (try (conv => whnf))) | fail)
  exact .refl _
theorem cnt_xor (a b : Nat) : ∀ i, cnt' (a ^^^ b) 0 i = cnt' a b i
  | 0 => rfl
  | i + 1 => by
    rw [cnt', cnt', cnt_xor a b i, Nat.testBit_xor, Nat.zero_testBit]
    cases a.testBit i <;> cases b.testBit i <;> rfl
def xor64 (a b : Int) : Int := IntKind.wrap .i64 ((BitVec.ofInt (IntKind.bits .i64) a ^^^ BitVec.ofInt (IntKind.bits .i64) b).toNat : Int)
theorem xor64_nat {a b : Nat} (ha : a < 2 ^ 62) (hb : b < 2 ^ 62) : xor64 a b = ((a ^^^ b : Nat) : Int) := by
  have h : a ^^^ b < 2 ^ 62 := Nat.xor_lt_two_pow ha hb
  unfold xor64
  show IntKind.wrap .i64 ((BitVec.ofInt 64 (a : Int) ^^^ BitVec.ofInt 64 (b : Int)).toNat : Int) = _
  rw [ofInt_nat, ofInt_nat, BitVec.toNat_xor, ofNat_toNat (by omega), ofNat_toNat (by omega)]
  exact wrap_small (by omega) (by omega)
theorem pos1 {facts : Int} {a : Bool} (h : (!bif !okN facts then true else a) = true) : 0 ≤ facts := by
  cases hk : okN facts with
  | false => rw [hk] at h; cases h
  | true => exact okN_pos hk
theorem pos3 {facts : Int} {a b c : Bool} (h : (!bif bif bif !okN facts then true else a then true else b then true else c) = true) : 0 ≤ facts := by
  cases hk : okN facts with
  | false => rw [hk] at h; cases h
  | true => exact okN_pos hk
theorem bs_Distance (u v facts : Int) : PureFn Try.prog 21 [.int .i64 u, .int .i64 v, .int .i64 facts] (.int .i64 (distI u v facts)) := by
  refine PureFn.intro mixed (fn := Try.f21) rfl rfl rfl fun M w0 => ?_
  (try (conv => whnf)); repeat' (first | (apply And.intro <;> (try (conv => whnf))) | (intro h; first | (with_reducible exact tf0 h) | (with_reducible exact ft0 h) | (with_reducible exact nt0 h) | (with_reducible exact nf0 h) | (exact litz h rfl) | (with_reducible exact tf h (by with_reducible assumption)) | (with_reducible exact tf (by with_reducible assumption) h) | (try (conv => whnf))) | (with_reducible rfl) | (apply True.intro) | (apply infoT; rfl) | (apply bleI; rfl) | (apply fitI; rfl) | (apply cellsI; rfl) | (apply szI; rfl) | (apply guardI; kernel_rfl) | (apply WhenQ.mk; (try (conv => whnf)); rotate_left; (try (conv => whnf)); rotate_right) | (with_reducible assumption) | (apply not_of; with_reducible assumption) | (apply left_of; with_reducible assumption) | (apply left_of; apply left_of; with_reducible assumption) | (apply and_of <;> first | (with_reducible assumption) | (apply not_of; with_reducible assumption))| (refine lin_plan (by kernel_rfl) ?_; (try (conv => whnf))) | (refine ⟨_, _, rfl, idx_map (by with_reducible assumption), rfl, ?_⟩; (try (conv => whnf))) | (refine ⟨rfl, ?_⟩; (try (conv => whnf))) | (exact Nat.le_refl 1) | ((apply ex3); (focus (with_reducible assumption)); (focus (with_reducible assumption)); (try (conv => whnf))) | ((apply ex2); (focus (with_reducible assumption)); (try (conv => whnf))) | (refine PureFn.dcq (f := 37) rfl ?_; (try (conv => whnf))) | ((refine ⟨_, _, bs_valid ?_, ?_, ?_⟩); rotate_left 1; (focus (first | (refine ⟨?_, trivial⟩ <;> first | (exact PLe.refl _) | (exact PLe.nil)) | (exact trivial))); (try (conv => whnf))) | (refine ⟨_, (by (conv => whnf); exact bs_valid _), rfl, ?_⟩; (try (conv => whnf))) | fail)
  · exact pos1 h
  · exact pos3 h
  · have h' : badD u v facts = true := h
    exact le_int (by rw [distI, h']; rfl)
  · have h' : badD u v facts = false := h
    obtain ⟨n, a, b, rfl, hn, rfl, rfl, ha, hb⟩ := badD_no h'
    have h16 := (vals_le hn).2
    have hx : a ^^^ b < 2 ^ n := Nat.xor_lt_two_pow ha hb
    have hO := bits_u (a ^^^ b) (by omega)
    have e : IntKind.wrap .u64 (xor64 a b) = ((a ^^^ b : Nat) : Int) := by
      rw [xor64_nat (by omega) (by omega)]; exact wrapU (by omega) (by omega)
    rw [u64, ← e, cnt_xor] at hO
    (try (conv => whnf)); repeat' (first | (apply And.intro <;> (try (conv => whnf))) | (intro h; first | (with_reducible exact tf0 h) | (with_reducible exact ft0 h) | (with_reducible exact nt0 h) | (with_reducible exact nf0 h) | (exact litz h rfl) | (with_reducible exact tf h (by with_reducible assumption)) | (with_reducible exact tf (by with_reducible assumption) h) | (try (conv => whnf))) | (with_reducible rfl) | (apply True.intro) | (apply infoT; rfl) | (apply bleI; rfl) | (apply fitI; rfl) | (apply cellsI; rfl) | (apply szI; rfl) | (apply guardI; kernel_rfl) | (apply WhenQ.mk; (try (conv => whnf)); rotate_left; (try (conv => whnf)); rotate_right) | (with_reducible assumption) | (apply not_of; with_reducible assumption) | (apply left_of; with_reducible assumption) | (apply left_of; apply left_of; with_reducible assumption) | (apply and_of <;> first | (with_reducible assumption) | (apply not_of; with_reducible assumption))| (refine lin_plan (by kernel_rfl) ?_; (try (conv => whnf))) | (refine ⟨_, _, rfl, idx_map (by with_reducible assumption), rfl, ?_⟩; (try (conv => whnf))) | (refine ⟨rfl, ?_⟩; (try (conv => whnf))) | (exact Nat.le_refl 1) | ((apply ex3); (focus (with_reducible assumption)); (focus (with_reducible assumption)); (try (conv => whnf))) | ((apply ex2); (focus (with_reducible assumption)); (try (conv => whnf))) | (refine PureFn.dcq (f := 58) rfl ?_; (try (conv => whnf))) | ((refine ⟨_, _, hO, ?_, ?_⟩); (focus (first | (refine ⟨?_, trivial⟩ <;> first | (exact PLe.refl _) | (exact PLe.nil)) | (exact trivial))); (try (conv => whnf))) | (refine ⟨_, (by (conv => whnf); exact hO), rfl, ?_⟩; (try (conv => whnf))) | fail)
    exact le_int (by rw [distI_of hn ha hb]; rfl)
theorem step_diff {a b i : Nat} (hi : i ≤ 64) : ((shr64 a i).tmod 2 != (shr64 b i).tmod 2) = (a.testBit i != b.testBit i) := by
  rw [bit64_rem hi, bit64_rem hi]
  cases a.testBit i <;> cases b.testBit i <;> rfl
theorem rb_Distance (u v facts : Int) : PureFn Try.prog 22 [.int .i64 u, .int .i64 v, .int .i64 facts] (.int .i64 (distI u v facts)) := by
  refine PureFn.intro mixed (fn := Try.f22) rfl rfl rfl fun M w0 => ?_
  (try (conv => whnf)); repeat' (first | (apply And.intro <;> (try (conv => whnf))) | (intro h; first | (with_reducible exact tf0 h) | (with_reducible exact ft0 h) | (with_reducible exact nt0 h) | (with_reducible exact nf0 h) | (exact litz h rfl) | (with_reducible exact tf h (by with_reducible assumption)) | (with_reducible exact tf (by with_reducible assumption) h) | (try (conv => whnf))) | (with_reducible rfl) | (apply True.intro) | (apply infoT; rfl) | (apply bleI; rfl) | (apply fitI; rfl) | (apply cellsI; rfl) | (apply szI; rfl) | (apply guardI; kernel_rfl) | (apply WhenQ.mk; (try (conv => whnf)); rotate_left; (try (conv => whnf)); rotate_right) | (with_reducible assumption) | (apply not_of; with_reducible assumption) | (apply left_of; with_reducible assumption) | (apply left_of; apply left_of; with_reducible assumption) | (apply and_of <;> first | (with_reducible assumption) | (apply not_of; with_reducible assumption))| (refine lin_plan (by kernel_rfl) ?_; (try (conv => whnf))) | (refine ⟨_, _, rfl, idx_map (by with_reducible assumption), rfl, ?_⟩; (try (conv => whnf))) | (refine ⟨rfl, ?_⟩; (try (conv => whnf))) | (exact Nat.le_refl 1) | ((apply ex3); (focus (with_reducible assumption)); (focus (with_reducible assumption)); (try (conv => whnf))) | ((apply ex2); (focus (with_reducible assumption)); (try (conv => whnf))) | fail)
  · rw [ok_not] at h; exact pos1 h
  · rw [ok_not] at h; exact pos3 h
  · rw [ok_not] at h
    have h' : badD u v facts = true := h
    exact le_int (by rw [distI, h']; rfl)
  · rw [ok_not] at h
    have h' : badD u v facts = false := h
    obtain ⟨n, a, b, rfl, hn, rfl, rfl, ha, hb⟩ := badD_no h'
    have h16 := (vals_le hn).2
    refine ⟨{ i : Nat // i ≤ n }, fun i => [(0, .pv (i64 a)), (1, .pv (i64 b)), (2, .pv (i64 n)), (7, .pv (i64 (cnt' a b i.1))), (8, .pv (i64 i.1))], fun _ => 0, fun _ => [], fun i => n - i.1, ⟨⟨0, Nat.zero_le _⟩, (by refine Wk.of ?_ ?_ rfl rfl rfl <;> (repeat' (first | (exact trivial) | (exact WkD.same _) | (exact WkO.same _ _ rfl) | (exact WkD.any _) | (refine WkD.int ?_) | (exact WkD.new' rfl rfl rfl) | (exact WkO.new _ _ rfl) | (refine WkO.vars rfl ?_) | (with_reducible rfl) | (exact rfl) | (refine ⟨?_, ?_⟩) | ((refine wrapA ?_ ?_ ?_); (focus (simp; done)); (focus ((try dsimp only); omega)); (focus ((try dsimp only); omega))) | fail)))⟩, ?_⟩
    rintro ⟨i, hi⟩
    have hc := cnt_le a b i
    have hd := step_diff (a := a) (b := b) (i := i) (by omega)
    (try (conv => whnf)); repeat' (first | (apply And.intro <;> (try (conv => whnf))) | (intro h; first | (with_reducible exact tf0 h) | (with_reducible exact ft0 h) | (with_reducible exact nt0 h) | (with_reducible exact nf0 h) | (exact litz h rfl) | (with_reducible exact tf h (by with_reducible assumption)) | (with_reducible exact tf (by with_reducible assumption) h) | (try (conv => whnf))) | (with_reducible rfl) | (apply True.intro) | (apply infoT; rfl) | (apply bleI; rfl) | (apply fitI; rfl) | (apply cellsI; rfl) | (apply szI; rfl) | (apply guardI; kernel_rfl) | (apply WhenQ.mk; (try (conv => whnf)); rotate_left; (try (conv => whnf)); rotate_right) | (with_reducible assumption) | (apply not_of; with_reducible assumption) | (apply left_of; with_reducible assumption) | (apply left_of; apply left_of; with_reducible assumption) | (apply and_of <;> first | (with_reducible assumption) | (apply not_of; with_reducible assumption))| (refine lin_plan (by kernel_rfl) ?_; (try (conv => whnf))) | (refine ⟨_, _, rfl, idx_map (by with_reducible assumption), rfl, ?_⟩; (try (conv => whnf))) | (refine ⟨rfl, ?_⟩; (try (conv => whnf))) | (exact Nat.le_refl 1) | ((apply ex3); (focus (with_reducible assumption)); (focus (with_reducible assumption)); (try (conv => whnf))) | ((apply ex2); (focus (with_reducible assumption)); (try (conv => whnf))) | fail)
    · show (0 : Int) ≤ (i : Int)
      omega
    · show (0 : Int) ≤ (i : Int)
      omega
    · rename_i h1
      have hi' : i < n := by simpa using h1
      have h2 : (a.testBit i != b.testBit i) = true := hd.symm.trans h
      have e : cnt' a b (i + 1) = cnt' a b i + 1 := by rw [cnt', h2]; rfl
      refine ⟨⟨i + 1, hi'⟩, by show n - (i + 1) < n - i; omega, ?_⟩
      (refine Wk.of ?_ ?_ rfl rfl rfl <;> (repeat' (first | (exact trivial) | (exact WkD.same _) | (exact WkO.same _ _ rfl) | (exact WkD.any _) | (refine WkD.int ?_) | (exact WkD.new' rfl rfl rfl) | (exact WkO.new _ _ rfl) | (refine WkO.vars rfl ?_) | (with_reducible rfl) | (exact rfl) | (refine ⟨?_, ?_⟩) | ((refine wrapA ?_ ?_ ?_); (focus (simp; done)); (focus ((try dsimp only); omega)); (focus ((try dsimp only); omega))) | fail)))
      show IntKind.wrap .i64 ((cnt' a b i : Int) + 1) = ((cnt' a b (i + 1) : Nat) : Int)
      rw [e]; exact wrapA (by omega) (by omega) (by omega)
    · rename_i h1
      have hi' : i < n := by simpa using h1
      have h2 : (a.testBit i != b.testBit i) = false := hd.symm.trans h
      have e : cnt' a b (i + 1) = cnt' a b i := by rw [cnt', h2]; rfl
      refine ⟨⟨i + 1, hi'⟩, by show n - (i + 1) < n - i; omega, ?_⟩
      (refine Wk.of ?_ ?_ rfl rfl rfl <;> (repeat' (first | (exact trivial) | (exact WkD.same _) | (exact WkO.same _ _ rfl) | (exact WkD.any _) | (refine WkD.int ?_) | (exact WkD.new' rfl rfl rfl) | (exact WkO.new _ _ rfl) | (refine WkO.vars rfl ?_) | (with_reducible rfl) | (exact rfl) | (refine ⟨?_, ?_⟩) | ((refine wrapA ?_ ?_ ?_); (focus (simp; done)); (focus ((try dsimp only); omega)); (focus ((try dsimp only); omega))) | fail)))
      show ((cnt' a b i : Nat) : Int) = ((cnt' a b (i + 1) : Nat) : Int)
      rw [e]
    · have hi' : i = n := by simp at h; omega
      subst hi'
      exact le_int (by rw [distI_of hn ha hb, ← cnt_dist hn ha hb])
theorem cond_of {α : Type} {c : Bool} {x y : α} (h : c = true) : (bif c then x else y) = x := by rw [h]; rfl
theorem cond_no {α : Type} {c : Bool} {x y : α} (h : c = false) : (bif c then x else y) = y := by rw [h]; rfl
theorem lt_dec {i m : Nat} (h : decide ((i : Int) < (m : Int)) = true) : i < m := by simpa using h
theorem ge_dec {i m : Nat} (h : decide ((i : Int) < (m : Int)) = false) (hi : i ≤ m) : i = m := by simp at h; omega
theorem bs_near (v s n : Nat) (hn : n ≤ 4) (hv : v < 2 ^ n) (hs : s < 2 ^ (2 ^ n)) : PureFn Try.prog 56 [.int .i64 (v : Int), u64 s, .int .i64 (n : Int)] (.int .i64 (near v s n : Nat)) := by
  refine PureFn.intro mixed (fn := Try.f56) rfl rfl rfl fun M w0 => ?_
  have h16 := (vals_le hn).2
  have hs6 := sets_le hn
  have hsh := shl_n hn
  (try (conv => whnf)); repeat' (first | (apply And.intro <;> (try (conv => whnf))) | (intro h; first | (with_reducible exact tf0 h) | (with_reducible exact ft0 h) | (with_reducible exact nt0 h) | (with_reducible exact nf0 h) | (exact litz h rfl) | (with_reducible exact tf h (by with_reducible assumption)) | (with_reducible exact tf (by with_reducible assumption) h) | (try (conv => whnf))) | (with_reducible rfl) | (apply True.intro) | (apply infoT; rfl) | (apply bleI; rfl) | (apply fitI; rfl) | (apply cellsI; rfl) | (apply szI; rfl) | (apply guardI; kernel_rfl) | (apply WhenQ.mk; (try (conv => whnf)); rotate_left; (try (conv => whnf)); rotate_right) | (with_reducible assumption) | (apply not_of; with_reducible assumption) | (apply left_of; with_reducible assumption) | (apply left_of; apply left_of; with_reducible assumption) | (apply and_of <;> first | (with_reducible assumption) | (apply not_of; with_reducible assumption))| (refine lin_plan (by kernel_rfl) ?_; (try (conv => whnf))) | (refine ⟨_, _, rfl, idx_map (by with_reducible assumption), rfl, ?_⟩; (try (conv => whnf))) | (refine ⟨rfl, ?_⟩; (try (conv => whnf))) | (exact Nat.le_refl 1) | ((apply ex3); (focus (with_reducible assumption)); (focus (with_reducible assumption)); (try (conv => whnf))) | ((apply ex2); (focus (with_reducible assumption)); (try (conv => whnf))) | fail)
  · show (0 : Int) ≤ (n : Int)
    omega
  refine ⟨{ i : Nat // i ≤ 2 ^ n }, fun i => [(0, .pv (i64 v)), (1, .pv (u64 s)), (2, .pv (i64 n)), (7, .pv (i64 (minP s.testBit (fun u => dist u v) n i.1))), (11, .pv (i64 (2 ^ n))), (12, .pv (i64 i.1))], fun _ => 0, fun _ => [], fun i => 2 ^ n - i.1, ⟨⟨0, Nat.zero_le _⟩, ?_⟩, ?_⟩
  · (refine Wk.of ?_ ?_ rfl rfl rfl <;> (repeat' (first | (exact trivial) | (exact WkD.same _) | (exact WkO.same _ _ rfl) | (exact WkD.any _) | (refine WkD.int ?_) | (exact WkD.new' rfl rfl rfl) | (exact WkO.new _ _ rfl) | (refine WkO.vars rfl ?_) | (with_reducible rfl) | (exact rfl) | (refine ⟨?_, ?_⟩) | ((refine wrapA ?_ ?_ ?_); (focus (simp; done)); (focus ((try dsimp only); omega)); (focus ((try dsimp only); omega))) | fail)))
    all_goals exact hsh
  rintro ⟨i, hi⟩
  have hb := minP_le s.testBit (fun u => dist u v) n i
  (try (conv => whnf)); repeat' (first | (apply And.intro <;> (try (conv => whnf))) | (intro h; first | (with_reducible exact tf0 h) | (with_reducible exact ft0 h) | (with_reducible exact nt0 h) | (with_reducible exact nf0 h) | (exact litz h rfl) | (with_reducible exact tf h (by with_reducible assumption)) | (with_reducible exact tf (by with_reducible assumption) h) | (try (conv => whnf))) | (with_reducible rfl) | (apply True.intro) | (apply infoT; rfl) | (apply bleI; rfl) | (apply fitI; rfl) | (apply cellsI; rfl) | (apply szI; rfl) | (apply guardI; kernel_rfl) | (apply WhenQ.mk; (try (conv => whnf)); rotate_left; (try (conv => whnf)); rotate_right) | (with_reducible assumption) | (apply not_of; with_reducible assumption) | (apply left_of; with_reducible assumption) | (apply left_of; apply left_of; with_reducible assumption) | (apply and_of <;> first | (with_reducible assumption) | (apply not_of; with_reducible assumption))| (refine lin_plan (by kernel_rfl) ?_; (try (conv => whnf))) | (refine ⟨_, _, rfl, idx_map (by with_reducible assumption), rfl, ?_⟩; (try (conv => whnf))) | (refine ⟨rfl, ?_⟩; (try (conv => whnf))) | (exact Nat.le_refl 1) | ((apply ex3); (focus (with_reducible assumption)); (focus (with_reducible assumption)); (try (conv => whnf))) | ((apply ex2); (focus (with_reducible assumption)); (try (conv => whnf))) | fail)
  · show (0 : Int) ≤ (i : Int)
    omega
  · rename_i h1
    have hi' : i < 2 ^ n := lt_dec h1
    have ht : s.testBit i = true := (bit_one (by omega) (by omega)).symm.trans h
    have hD := bs_Distance i v n
    rw [distI_of hn hi' hv] at hD
    (try (conv => whnf)); repeat' (first | (apply And.intro <;> (try (conv => whnf))) | (intro h; first | (with_reducible exact tf0 h) | (with_reducible exact ft0 h) | (with_reducible exact nt0 h) | (with_reducible exact nf0 h) | (exact litz h rfl) | (with_reducible exact tf h (by with_reducible assumption)) | (with_reducible exact tf (by with_reducible assumption) h) | (try (conv => whnf))) | (with_reducible rfl) | (apply True.intro) | (apply infoT; rfl) | (apply bleI; rfl) | (apply fitI; rfl) | (apply cellsI; rfl) | (apply szI; rfl) | (apply guardI; kernel_rfl) | (apply WhenQ.mk; (try (conv => whnf)); rotate_left; (try (conv => whnf)); rotate_right) | (with_reducible assumption) | (apply not_of; with_reducible assumption) | (apply left_of; with_reducible assumption) | (apply left_of; apply left_of; with_reducible assumption) | (apply and_of <;> first | (with_reducible assumption) | (apply not_of; with_reducible assumption))| (refine lin_plan (by kernel_rfl) ?_; (try (conv => whnf))) | (refine ⟨_, _, rfl, idx_map (by with_reducible assumption), rfl, ?_⟩; (try (conv => whnf))) | (refine ⟨rfl, ?_⟩; (try (conv => whnf))) | (exact Nat.le_refl 1) | ((apply ex3); (focus (with_reducible assumption)); (focus (with_reducible assumption)); (try (conv => whnf))) | ((apply ex2); (focus (with_reducible assumption)); (try (conv => whnf))) | (refine PureFn.dcq (f := 21) rfl ?_; (try (conv => whnf))) | ((refine ⟨_, _, hD, ?_, ?_⟩); (focus (first | (refine ⟨?_, ?_, ?_, trivial⟩ <;> first | (exact PLe.refl _) | (exact PLe.nil)) | (exact trivial))); (try (conv => whnf))) | (refine ⟨_, (by (conv => whnf); exact hD), rfl, ?_⟩; (try (conv => whnf))) | fail)
    refine ⟨⟨i + 1, hi'⟩, by show 2 ^ n - (i + 1) < 2 ^ n - i; omega, ?_⟩
    (refine Wk.of ?_ ?_ rfl rfl rfl <;> (repeat' (first | (exact trivial) | (exact WkD.same _) | (exact WkO.same _ _ rfl) | (exact WkD.any _) | (refine WkD.int ?_) | (exact WkD.new' rfl rfl rfl) | (exact WkO.new _ _ rfl) | (refine WkO.vars rfl ?_) | (with_reducible rfl) | (exact rfl) | (refine ⟨?_, ?_⟩) | ((refine wrapA ?_ ?_ ?_); (focus (simp; done)); (focus ((try dsimp only); omega)); (focus ((try dsimp only); omega))) | fail)))
    show min ((minP s.testBit (fun u => dist u v) n i : Nat) : Int) (dist i v : Nat) = ((minP s.testBit (fun u => dist u v) n (i + 1) : Nat) : Int)
    rw [minP, ht]; simp only [cond_true]; omega
  · rename_i h1
    have hi' : i < 2 ^ n := lt_dec h1
    have ht : s.testBit i = false := (bit_one (by omega) (by omega)).symm.trans h
    refine ⟨⟨i + 1, hi'⟩, by show 2 ^ n - (i + 1) < 2 ^ n - i; omega, ?_⟩
    (refine Wk.of ?_ ?_ rfl rfl rfl <;> (repeat' (first | (exact trivial) | (exact WkD.same _) | (exact WkO.same _ _ rfl) | (exact WkD.any _) | (refine WkD.int ?_) | (exact WkD.new' rfl rfl rfl) | (exact WkO.new _ _ rfl) | (refine WkO.vars rfl ?_) | (with_reducible rfl) | (exact rfl) | (refine ⟨?_, ?_⟩) | ((refine wrapA ?_ ?_ ?_); (focus (simp; done)); (focus ((try dsimp only); omega)); (focus ((try dsimp only); omega))) | fail)))
    show ((minP s.testBit (fun u => dist u v) n i : Nat) : Int) = ((minP s.testBit (fun u => dist u v) n (i + 1) : Nat) : Int)
    rw [minP, ht]; rfl
  · have hi' : i = 2 ^ n := ge_dec h hi
    subst hi'
    exact le_int rfl
theorem rb_near (v s n : Nat) (hn : n ≤ 4) (hv : v < 2 ^ n) (hs : s < 2 ^ (2 ^ n)) (h0 : s ≠ 0) : PureFn Try.prog 57 [.int .i64 (v : Int), u64 s, .int .i64 (n : Int)] (.int .i64 (near v s n : Nat)) := by
  refine PureFn.intro mixed (fn := Try.f57) rfl rfl rfl fun M w0 => ?_
  have h16 := (vals_le hn).2
  have hs6 := sets_le hn
  have hsh := shl_n hn
  (try (conv => whnf)); repeat' (first | (apply And.intro <;> (try (conv => whnf))) | (intro h; first | (with_reducible exact tf0 h) | (with_reducible exact ft0 h) | (with_reducible exact nt0 h) | (with_reducible exact nf0 h) | (exact litz h rfl) | (with_reducible exact tf h (by with_reducible assumption)) | (with_reducible exact tf (by with_reducible assumption) h) | (try (conv => whnf))) | (with_reducible rfl) | (apply True.intro) | (apply infoT; rfl) | (apply bleI; rfl) | (apply fitI; rfl) | (apply cellsI; rfl) | (apply szI; rfl) | (apply guardI; kernel_rfl) | (apply WhenQ.mk; (try (conv => whnf)); rotate_left; (try (conv => whnf)); rotate_right) | (with_reducible assumption) | (apply not_of; with_reducible assumption) | (apply left_of; with_reducible assumption) | (apply left_of; apply left_of; with_reducible assumption) | (apply and_of <;> first | (with_reducible assumption) | (apply not_of; with_reducible assumption))| (refine lin_plan (by kernel_rfl) ?_; (try (conv => whnf))) | (refine ⟨_, _, rfl, idx_map (by with_reducible assumption), rfl, ?_⟩; (try (conv => whnf))) | (refine ⟨rfl, ?_⟩; (try (conv => whnf))) | (exact Nat.le_refl 1) | ((apply ex3); (focus (with_reducible assumption)); (focus (with_reducible assumption)); (try (conv => whnf))) | ((apply ex2); (focus (with_reducible assumption)); (try (conv => whnf))) | fail)
  refine ⟨{ i : Nat // i ≤ 2 ^ n }, fun i => [(0, .pv (i64 v)), (1, .pv (u64 s)), (2, .pv (i64 n)), (7, .pv (.int .i64 (minR s.testBit (fun u => dist u v) i.1))), (8, .pv (i64 i.1))], fun _ => 0, fun _ => [], fun i => 2 ^ n - i.1, ⟨⟨0, Nat.zero_le _⟩, (by refine Wk.of ?_ ?_ rfl rfl rfl <;> (repeat' (first | (exact trivial) | (exact WkD.same _) | (exact WkO.same _ _ rfl) | (exact WkD.any _) | (refine WkD.int ?_) | (exact WkD.new' rfl rfl rfl) | (exact WkO.new _ _ rfl) | (refine WkO.vars rfl ?_) | (with_reducible rfl) | (exact rfl) | (refine ⟨?_, ?_⟩) | ((refine wrapA ?_ ?_ ?_); (focus (simp; done)); (focus ((try dsimp only); omega)); (focus ((try dsimp only); omega))) | fail)))⟩, ?_⟩
  rintro ⟨i, hi⟩
  (try (conv => whnf)); repeat' (first | (apply And.intro <;> (try (conv => whnf))) | (intro h; first | (with_reducible exact tf0 h) | (with_reducible exact ft0 h) | (with_reducible exact nt0 h) | (with_reducible exact nf0 h) | (exact litz h rfl) | (with_reducible exact tf h (by with_reducible assumption)) | (with_reducible exact tf (by with_reducible assumption) h) | (try (conv => whnf))) | (with_reducible rfl) | (apply True.intro) | (apply infoT; rfl) | (apply bleI; rfl) | (apply fitI; rfl) | (apply cellsI; rfl) | (apply szI; rfl) | (apply guardI; kernel_rfl) | (apply WhenQ.mk; (try (conv => whnf)); rotate_left; (try (conv => whnf)); rotate_right) | (with_reducible assumption) | (apply not_of; with_reducible assumption) | (apply left_of; with_reducible assumption) | (apply left_of; apply left_of; with_reducible assumption) | (apply and_of <;> first | (with_reducible assumption) | (apply not_of; with_reducible assumption))| (refine lin_plan (by kernel_rfl) ?_; (try (conv => whnf))) | (refine ⟨_, _, rfl, idx_map (by with_reducible assumption), rfl, ?_⟩; (try (conv => whnf))) | (refine ⟨rfl, ?_⟩; (try (conv => whnf))) | (exact Nat.le_refl 1) | ((apply ex3); (focus (with_reducible assumption)); (focus (with_reducible assumption)); (try (conv => whnf))) | ((apply ex2); (focus (with_reducible assumption)); (try (conv => whnf))) | fail)
  · show (0 : Int) ≤ (n : Int)
    omega
  · have h1 : decide ((i : Int) < shl64 1 n) = true := h
    rw [hsh] at h1
    have hi' : i < 2 ^ n := lt_dec h1
    have hD := rb_Distance i v n
    rw [distI_of hn hi' hv] at hD
    have hH := rb_Has s i (by omega)
    (try (conv => whnf)); repeat' (first | (apply And.intro <;> (try (conv => whnf))) | (intro h; first | (with_reducible exact tf0 h) | (with_reducible exact ft0 h) | (with_reducible exact nt0 h) | (with_reducible exact nf0 h) | (exact litz h rfl) | (with_reducible exact tf h (by with_reducible assumption)) | (with_reducible exact tf (by with_reducible assumption) h) | (try (conv => whnf))) | (with_reducible rfl) | (apply True.intro) | (apply infoT; rfl) | (apply bleI; rfl) | (apply fitI; rfl) | (apply cellsI; rfl) | (apply szI; rfl) | (apply guardI; kernel_rfl) | (apply WhenQ.mk; (try (conv => whnf)); rotate_left; (try (conv => whnf)); rotate_right) | (with_reducible assumption) | (apply not_of; with_reducible assumption) | (apply left_of; with_reducible assumption) | (apply left_of; apply left_of; with_reducible assumption) | (apply and_of <;> first | (with_reducible assumption) | (apply not_of; with_reducible assumption))| (refine lin_plan (by kernel_rfl) ?_; (try (conv => whnf))) | (refine ⟨_, _, rfl, idx_map (by with_reducible assumption), rfl, ?_⟩; (try (conv => whnf))) | (refine ⟨rfl, ?_⟩; (try (conv => whnf))) | (exact Nat.le_refl 1) | ((apply ex3); (focus (with_reducible assumption)); (focus (with_reducible assumption)); (try (conv => whnf))) | ((apply ex2); (focus (with_reducible assumption)); (try (conv => whnf))) | (refine PureFn.dcq (f := 22) rfl ?_; (try (conv => whnf))) | (refine PureFn.dcq (f := 49) rfl ?_; (try (conv => whnf))) | ((refine ⟨_, _, hD, ?_, ?_⟩); (focus (first | (refine ⟨?_, ?_, ?_, trivial⟩ <;> first | (exact PLe.refl _) | (exact PLe.nil)) | (exact trivial))); (try (conv => whnf))) | (refine ⟨_, (by (conv => whnf); exact hD), rfl, ?_⟩; (try (conv => whnf))) | ((refine ⟨_, _, hH, ?_, ?_⟩); (focus (first | (refine ⟨?_, ?_, trivial⟩ <;> first | (exact PLe.refl _) | (exact PLe.nil)) | (exact trivial))); (try (conv => whnf))) | (refine ⟨_, (by (conv => whnf); exact hH), rfl, ?_⟩; (try (conv => whnf))) | fail)
    · refine ⟨⟨i + 1, hi'⟩, by show 2 ^ n - (i + 1) < 2 ^ n - i; omega, ?_⟩
      (refine Wk.of ?_ ?_ rfl rfl rfl <;> (repeat' (first | (exact trivial) | (exact WkD.same _) | (exact WkO.same _ _ rfl) | (exact WkD.any _) | (refine WkD.int ?_) | (exact WkD.new' rfl rfl rfl) | (exact WkO.new _ _ rfl) | (refine WkO.vars rfl ?_) | (with_reducible rfl) | (exact rfl) | (refine ⟨?_, ?_⟩) | ((refine wrapA ?_ ?_ ?_); (focus (simp; done)); (focus ((try dsimp only); omega)); (focus ((try dsimp only); omega))) | fail)))
      show ((dist i v : Nat) : Int) = minR s.testBit (fun u => dist u v) (i + 1)
      rw [minR]
      exact (cond_of h).symm
    · refine ⟨⟨i + 1, hi'⟩, by show 2 ^ n - (i + 1) < 2 ^ n - i; omega, ?_⟩
      (refine Wk.of ?_ ?_ rfl rfl rfl <;> (repeat' (first | (exact trivial) | (exact WkD.same _) | (exact WkO.same _ _ rfl) | (exact WkD.any _) | (refine WkD.int ?_) | (exact WkD.new' rfl rfl rfl) | (exact WkO.new _ _ rfl) | (refine WkO.vars rfl ?_) | (with_reducible rfl) | (exact rfl) | (refine ⟨?_, ?_⟩) | ((refine wrapA ?_ ?_ ?_); (focus (simp; done)); (focus ((try dsimp only); omega)); (focus ((try dsimp only); omega))) | fail)))
      show minR s.testBit (fun u => dist u v) i = minR s.testBit (fun u => dist u v) (i + 1)
      rw [minR]
      exact (cond_no h).symm
  · have h1 : decide ((i : Int) < shl64 1 n) = false := h
    rw [hsh] at h1
    have hi' : i = 2 ^ n := ge_dec h1 hi
    subst hi'
    exact le_int (near_ref hn hv hs h0)
theorem bs_Between (a b : Nat) (facts : Int) (ha : a < 2 ^ 64) (hb : b < 2 ^ 64) : PureFn Try.prog 23 [u64 a, u64 b, .int .i64 facts] (.int .i64 (btwI a b facts)) := by
  refine PureFn.intro mixed (fn := Try.f23) rfl rfl rfl fun M w0 => ?_
  (try (conv => whnf)); repeat' (first | (apply And.intro <;> (try (conv => whnf))) | (intro h; first | (with_reducible exact tf0 h) | (with_reducible exact ft0 h) | (with_reducible exact nt0 h) | (with_reducible exact nf0 h) | (exact litz h rfl) | (with_reducible exact tf h (by with_reducible assumption)) | (with_reducible exact tf (by with_reducible assumption) h) | (try (conv => whnf))) | (with_reducible rfl) | (apply True.intro) | (apply infoT; rfl) | (apply bleI; rfl) | (apply fitI; rfl) | (apply cellsI; rfl) | (apply szI; rfl) | (apply guardI; kernel_rfl) | (apply WhenQ.mk; (try (conv => whnf)); rotate_left; (try (conv => whnf)); rotate_right) | (with_reducible assumption) | (apply not_of; with_reducible assumption) | (apply left_of; with_reducible assumption) | (apply left_of; apply left_of; with_reducible assumption) | (apply and_of <;> first | (with_reducible assumption) | (apply not_of; with_reducible assumption))| (refine lin_plan (by kernel_rfl) ?_; (try (conv => whnf))) | (refine ⟨_, _, rfl, idx_map (by with_reducible assumption), rfl, ?_⟩; (try (conv => whnf))) | (refine ⟨rfl, ?_⟩; (try (conv => whnf))) | (exact Nat.le_refl 1) | ((apply ex3); (focus (with_reducible assumption)); (focus (with_reducible assumption)); (try (conv => whnf))) | ((apply ex2); (focus (with_reducible assumption)); (try (conv => whnf))) | (refine PureFn.dcq (f := 17) rfl ?_; (try (conv => whnf))) | ((refine ⟨_, _, bs_Check ?_ ?_ ?_, ?_, ?_⟩); rotate_left 3; (focus (first | (refine ⟨?_, ?_, trivial⟩ <;> first | (exact PLe.refl _) | (exact PLe.nil)) | (exact trivial))); (try (conv => whnf))) | (refine ⟨_, (by (conv => whnf); exact bs_Check _ _ _), rfl, ?_⟩; (try (conv => whnf))) | fail)
  · have h' : badB a b facts = true := h
    exact le_int (by rw [btwI, h']; rfl)
  · obtain ⟨n, rfl, _⟩ := badB_no h
    show (0 : Int) ≤ (n : Int)
    omega
  · have h' : badB a b facts = false := h
    obtain ⟨n, rfl, hn, ha2, hb2, a0, b0⟩ := badB_no h'
    have h16 := (vals_le hn).2
    have hs6 := sets_le hn
    have hsh := shl_n hn
    refine ⟨{ i : Nat // i ≤ 2 ^ n }, fun i => [(0, .pv (u64 a)), (1, .pv (u64 b)), (2, .pv (i64 n)), (7, .pv (i64 (minP a.testBit (fun v => near v b n) n i.1))), (29, .pv (i64 (2 ^ n))), (30, .pv (i64 i.1))], fun _ => 0, fun _ => [], fun i => 2 ^ n - i.1, ⟨⟨0, Nat.zero_le _⟩, ?_⟩, ?_⟩
    · (refine Wk.of ?_ ?_ rfl rfl rfl <;> (repeat' (first | (exact trivial) | (exact WkD.same _) | (exact WkO.same _ _ rfl) | (exact WkD.any _) | (refine WkD.int ?_) | (exact WkD.new' rfl rfl rfl) | (exact WkO.new _ _ rfl) | (refine WkO.vars rfl ?_) | (with_reducible rfl) | (exact rfl) | (refine ⟨?_, ?_⟩) | ((refine wrapA ?_ ?_ ?_); (focus (simp; done)); (focus ((try dsimp only); omega)); (focus ((try dsimp only); omega))) | fail)))
      all_goals exact hsh
    rintro ⟨i, hi⟩
    have hb := minP_le a.testBit (fun v => near v b n) n i
    (try (conv => whnf)); repeat' (first | (apply And.intro <;> (try (conv => whnf))) | (intro h; first | (with_reducible exact tf0 h) | (with_reducible exact ft0 h) | (with_reducible exact nt0 h) | (with_reducible exact nf0 h) | (exact litz h rfl) | (with_reducible exact tf h (by with_reducible assumption)) | (with_reducible exact tf (by with_reducible assumption) h) | (try (conv => whnf))) | (with_reducible rfl) | (apply True.intro) | (apply infoT; rfl) | (apply bleI; rfl) | (apply fitI; rfl) | (apply cellsI; rfl) | (apply szI; rfl) | (apply guardI; kernel_rfl) | (apply WhenQ.mk; (try (conv => whnf)); rotate_left; (try (conv => whnf)); rotate_right) | (with_reducible assumption) | (apply not_of; with_reducible assumption) | (apply left_of; with_reducible assumption) | (apply left_of; apply left_of; with_reducible assumption) | (apply and_of <;> first | (with_reducible assumption) | (apply not_of; with_reducible assumption))| (refine lin_plan (by kernel_rfl) ?_; (try (conv => whnf))) | (refine ⟨_, _, rfl, idx_map (by with_reducible assumption), rfl, ?_⟩; (try (conv => whnf))) | (refine ⟨rfl, ?_⟩; (try (conv => whnf))) | (exact Nat.le_refl 1) | ((apply ex3); (focus (with_reducible assumption)); (focus (with_reducible assumption)); (try (conv => whnf))) | ((apply ex2); (focus (with_reducible assumption)); (try (conv => whnf))) | fail)
    · show (0 : Int) ≤ (i : Int)
      omega
    · rename_i h1
      have hi' : i < 2 ^ n := lt_dec h1
      have ht : a.testBit i = true := (bit_one (by omega) (by omega)).symm.trans h
      have hN := bs_near i b n hn hi' hb2
      (try (conv => whnf)); repeat' (first | (apply And.intro <;> (try (conv => whnf))) | (intro h; first | (with_reducible exact tf0 h) | (with_reducible exact ft0 h) | (with_reducible exact nt0 h) | (with_reducible exact nf0 h) | (exact litz h rfl) | (with_reducible exact tf h (by with_reducible assumption)) | (with_reducible exact tf (by with_reducible assumption) h) | (try (conv => whnf))) | (with_reducible rfl) | (apply True.intro) | (apply infoT; rfl) | (apply bleI; rfl) | (apply fitI; rfl) | (apply cellsI; rfl) | (apply szI; rfl) | (apply guardI; kernel_rfl) | (apply WhenQ.mk; (try (conv => whnf)); rotate_left; (try (conv => whnf)); rotate_right) | (with_reducible assumption) | (apply not_of; with_reducible assumption) | (apply left_of; with_reducible assumption) | (apply left_of; apply left_of; with_reducible assumption) | (apply and_of <;> first | (with_reducible assumption) | (apply not_of; with_reducible assumption))| (refine lin_plan (by kernel_rfl) ?_; (try (conv => whnf))) | (refine ⟨_, _, rfl, idx_map (by with_reducible assumption), rfl, ?_⟩; (try (conv => whnf))) | (refine ⟨rfl, ?_⟩; (try (conv => whnf))) | (exact Nat.le_refl 1) | ((apply ex3); (focus (with_reducible assumption)); (focus (with_reducible assumption)); (try (conv => whnf))) | ((apply ex2); (focus (with_reducible assumption)); (try (conv => whnf))) | (refine PureFn.dcq (f := 56) rfl ?_; (try (conv => whnf))) | ((refine ⟨_, _, hN, ?_, ?_⟩); (focus (first | (refine ⟨?_, ?_, ?_, trivial⟩ <;> first | (exact PLe.refl _) | (exact PLe.nil)) | (exact trivial))); (try (conv => whnf))) | (refine ⟨_, (by (conv => whnf); exact hN), rfl, ?_⟩; (try (conv => whnf))) | fail)
      refine ⟨⟨i + 1, hi'⟩, by show 2 ^ n - (i + 1) < 2 ^ n - i; omega, ?_⟩
      (refine Wk.of ?_ ?_ rfl rfl rfl <;> (repeat' (first | (exact trivial) | (exact WkD.same _) | (exact WkO.same _ _ rfl) | (exact WkD.any _) | (refine WkD.int ?_) | (exact WkD.new' rfl rfl rfl) | (exact WkO.new _ _ rfl) | (refine WkO.vars rfl ?_) | (with_reducible rfl) | (exact rfl) | (refine ⟨?_, ?_⟩) | ((refine wrapA ?_ ?_ ?_); (focus (simp; done)); (focus ((try dsimp only); omega)); (focus ((try dsimp only); omega))) | fail)))
      show min ((minP a.testBit (fun v => near v b n) n i : Nat) : Int) (near i b n : Nat) = ((minP a.testBit (fun v => near v b n) n (i + 1) : Nat) : Int)
      rw [minP, ht]; simp only [cond_true]; omega
    · rename_i h1
      have hi' : i < 2 ^ n := lt_dec h1
      have ht : a.testBit i = false := (bit_one (by omega) (by omega)).symm.trans h
      refine ⟨⟨i + 1, hi'⟩, by show 2 ^ n - (i + 1) < 2 ^ n - i; omega, ?_⟩
      (refine Wk.of ?_ ?_ rfl rfl rfl <;> (repeat' (first | (exact trivial) | (exact WkD.same _) | (exact WkO.same _ _ rfl) | (exact WkD.any _) | (refine WkD.int ?_) | (exact WkD.new' rfl rfl rfl) | (exact WkO.new _ _ rfl) | (refine WkO.vars rfl ?_) | (with_reducible rfl) | (exact rfl) | (refine ⟨?_, ?_⟩) | ((refine wrapA ?_ ?_ ?_); (focus (simp; done)); (focus ((try dsimp only); omega)); (focus ((try dsimp only); omega))) | fail)))
      show ((minP a.testBit (fun v => near v b n) n i : Nat) : Int) = ((minP a.testBit (fun v => near v b n) n (i + 1) : Nat) : Int)
      rw [minP, ht]; rfl
    · have hi' : i = 2 ^ n := ge_dec h hi
      subst hi'
      exact le_int (by rw [btwI_of hn ha2 hb2 a0 b0]; rfl)
theorem rb_Between (a b : Nat) (facts : Int) (ha : a < 2 ^ 64) (hb : b < 2 ^ 64) : PureFn Try.prog 24 [u64 a, u64 b, .int .i64 facts] (.int .i64 (btwI a b facts)) := by
  refine PureFn.intro mixed (fn := Try.f24) rfl rfl rfl fun M w0 => ?_
  (try (conv => whnf)); repeat' (first | (apply And.intro <;> (try (conv => whnf))) | (intro h; first | (with_reducible exact tf0 h) | (with_reducible exact ft0 h) | (with_reducible exact nt0 h) | (with_reducible exact nf0 h) | (exact litz h rfl) | (with_reducible exact tf h (by with_reducible assumption)) | (with_reducible exact tf (by with_reducible assumption) h) | (try (conv => whnf))) | (with_reducible rfl) | (apply True.intro) | (apply infoT; rfl) | (apply bleI; rfl) | (apply fitI; rfl) | (apply cellsI; rfl) | (apply szI; rfl) | (apply guardI; kernel_rfl) | (apply WhenQ.mk; (try (conv => whnf)); rotate_left; (try (conv => whnf)); rotate_right) | (with_reducible assumption) | (apply not_of; with_reducible assumption) | (apply left_of; with_reducible assumption) | (apply left_of; apply left_of; with_reducible assumption) | (apply and_of <;> first | (with_reducible assumption) | (apply not_of; with_reducible assumption))| (refine lin_plan (by kernel_rfl) ?_; (try (conv => whnf))) | (refine ⟨_, _, rfl, idx_map (by with_reducible assumption), rfl, ?_⟩; (try (conv => whnf))) | (refine ⟨rfl, ?_⟩; (try (conv => whnf))) | (exact Nat.le_refl 1) | ((apply ex3); (focus (with_reducible assumption)); (focus (with_reducible assumption)); (try (conv => whnf))) | ((apply ex2); (focus (with_reducible assumption)); (try (conv => whnf))) | (refine PureFn.dcq (f := 18) rfl ?_; (try (conv => whnf))) | ((refine ⟨_, _, rb_Check ?_ ?_ ?_, ?_, ?_⟩); rotate_left 3; (focus (first | (refine ⟨?_, ?_, trivial⟩ <;> first | (exact PLe.refl _) | (exact PLe.nil)) | (exact trivial))); (try (conv => whnf))) | (refine ⟨_, (by (conv => whnf); exact rb_Check _ _ _), rfl, ?_⟩; (try (conv => whnf))) | fail)
  · refine le_int ?_
    have h' : badB a b facts = true := by
      obtain ⟨X, hX⟩ : ∃ X, X = (bif bchk a facts != 0 then true else bchk b facts != 0) := ⟨_, rfl⟩
      have h2 : (bif X then true else (b : Int) == 0) = true := by rw [hX]; exact h
      unfold badB
      rw [← hX]
      cases X with
      | true => rfl
      | false => cases ((a : Int) == 0) with
        | true => rfl
        | false => exact h2
    rw [btwI, h']; rfl
  · obtain ⟨h, h3⟩ := or_ff' h
    obtain ⟨h1, h2⟩ := or_ff' h
    obtain ⟨n, rfl, hn, ha2⟩ := bchk_ok (by simpa using h1)
    obtain ⟨n', hn', _, hb2⟩ := bchk_ok (by simpa using h2)
    obtain rfl : n' = n := by omega
    have b0 : b ≠ 0 := by simpa using h3
    have h16 := (vals_le hn).2
    have hs6 := sets_le hn
    have hsh := shl_n hn
    refine ⟨{ i : Nat // i ≤ 2 ^ n' }, fun i => [(0, .pv (u64 a)), (1, .pv (u64 b)), (2, .pv (i64 n')), (7, .pv (.int .i64 (minR a.testBit (fun v => near v b n') i.1))), (8, .pv (i64 i.1))], fun _ => 0, fun _ => [], fun i => 2 ^ n' - i.1, ⟨⟨0, Nat.zero_le _⟩, (by refine Wk.of ?_ ?_ rfl rfl rfl <;> (repeat' (first | (exact trivial) | (exact WkD.same _) | (exact WkO.same _ _ rfl) | (exact WkD.any _) | (refine WkD.int ?_) | (exact WkD.new' rfl rfl rfl) | (exact WkO.new _ _ rfl) | (refine WkO.vars rfl ?_) | (with_reducible rfl) | (exact rfl) | (refine ⟨?_, ?_⟩) | ((refine wrapA ?_ ?_ ?_); (focus (simp; done)); (focus ((try dsimp only); omega)); (focus ((try dsimp only); omega))) | fail)))⟩, ?_⟩
    rintro ⟨i, hi⟩
    (try (conv => whnf)); repeat' (first | (apply And.intro <;> (try (conv => whnf))) | (intro h; first | (with_reducible exact tf0 h) | (with_reducible exact ft0 h) | (with_reducible exact nt0 h) | (with_reducible exact nf0 h) | (exact litz h rfl) | (with_reducible exact tf h (by with_reducible assumption)) | (with_reducible exact tf (by with_reducible assumption) h) | (try (conv => whnf))) | (with_reducible rfl) | (apply True.intro) | (apply infoT; rfl) | (apply bleI; rfl) | (apply fitI; rfl) | (apply cellsI; rfl) | (apply szI; rfl) | (apply guardI; kernel_rfl) | (apply WhenQ.mk; (try (conv => whnf)); rotate_left; (try (conv => whnf)); rotate_right) | (with_reducible assumption) | (apply not_of; with_reducible assumption) | (apply left_of; with_reducible assumption) | (apply left_of; apply left_of; with_reducible assumption) | (apply and_of <;> first | (with_reducible assumption) | (apply not_of; with_reducible assumption))| (refine lin_plan (by kernel_rfl) ?_; (try (conv => whnf))) | (refine ⟨_, _, rfl, idx_map (by with_reducible assumption), rfl, ?_⟩; (try (conv => whnf))) | (refine ⟨rfl, ?_⟩; (try (conv => whnf))) | (exact Nat.le_refl 1) | ((apply ex3); (focus (with_reducible assumption)); (focus (with_reducible assumption)); (try (conv => whnf))) | ((apply ex2); (focus (with_reducible assumption)); (try (conv => whnf))) | fail)
    · show (0 : Int) ≤ (n' : Int)
      omega
    · have h1 : decide ((i : Int) < shl64 1 n') = true := h
      rw [hsh] at h1
      have hi' : i < 2 ^ n' := lt_dec h1
      have hN := rb_near i b n' hn hi' hb2 b0
      have hH := rb_Has a i (by omega)
      (try (conv => whnf)); repeat' (first | (apply And.intro <;> (try (conv => whnf))) | (intro h; first | (with_reducible exact tf0 h) | (with_reducible exact ft0 h) | (with_reducible exact nt0 h) | (with_reducible exact nf0 h) | (exact litz h rfl) | (with_reducible exact tf h (by with_reducible assumption)) | (with_reducible exact tf (by with_reducible assumption) h) | (try (conv => whnf))) | (with_reducible rfl) | (apply True.intro) | (apply infoT; rfl) | (apply bleI; rfl) | (apply fitI; rfl) | (apply cellsI; rfl) | (apply szI; rfl) | (apply guardI; kernel_rfl) | (apply WhenQ.mk; (try (conv => whnf)); rotate_left; (try (conv => whnf)); rotate_right) | (with_reducible assumption) | (apply not_of; with_reducible assumption) | (apply left_of; with_reducible assumption) | (apply left_of; apply left_of; with_reducible assumption) | (apply and_of <;> first | (with_reducible assumption) | (apply not_of; with_reducible assumption))| (refine lin_plan (by kernel_rfl) ?_; (try (conv => whnf))) | (refine ⟨_, _, rfl, idx_map (by with_reducible assumption), rfl, ?_⟩; (try (conv => whnf))) | (refine ⟨rfl, ?_⟩; (try (conv => whnf))) | (exact Nat.le_refl 1) | ((apply ex3); (focus (with_reducible assumption)); (focus (with_reducible assumption)); (try (conv => whnf))) | ((apply ex2); (focus (with_reducible assumption)); (try (conv => whnf))) | (refine PureFn.dcq (f := 57) rfl ?_; (try (conv => whnf))) | (refine PureFn.dcq (f := 49) rfl ?_; (try (conv => whnf))) | ((refine ⟨_, _, hN, ?_, ?_⟩); (focus (first | (refine ⟨?_, ?_, ?_, trivial⟩ <;> first | (exact PLe.refl _) | (exact PLe.nil)) | (exact trivial))); (try (conv => whnf))) | (refine ⟨_, (by (conv => whnf); exact hN), rfl, ?_⟩; (try (conv => whnf))) | ((refine ⟨_, _, hH, ?_, ?_⟩); (focus (first | (refine ⟨?_, ?_, trivial⟩ <;> first | (exact PLe.refl _) | (exact PLe.nil)) | (exact trivial))); (try (conv => whnf))) | (refine ⟨_, (by (conv => whnf); exact hH), rfl, ?_⟩; (try (conv => whnf))) | fail)
      · refine ⟨⟨i + 1, hi'⟩, by show 2 ^ n' - (i + 1) < 2 ^ n' - i; omega, ?_⟩
        (refine Wk.of ?_ ?_ rfl rfl rfl <;> (repeat' (first | (exact trivial) | (exact WkD.same _) | (exact WkO.same _ _ rfl) | (exact WkD.any _) | (refine WkD.int ?_) | (exact WkD.new' rfl rfl rfl) | (exact WkO.new _ _ rfl) | (refine WkO.vars rfl ?_) | (with_reducible rfl) | (exact rfl) | (refine ⟨?_, ?_⟩) | ((refine wrapA ?_ ?_ ?_); (focus (simp; done)); (focus ((try dsimp only); omega)); (focus ((try dsimp only); omega))) | fail)))
        show ((near i b n' : Nat) : Int) = minR a.testBit (fun v => near v b n') (i + 1)
        rw [minR]
        exact (cond_of h).symm
      · refine ⟨⟨i + 1, hi'⟩, by show 2 ^ n' - (i + 1) < 2 ^ n' - i; omega, ?_⟩
        (refine Wk.of ?_ ?_ rfl rfl rfl <;> (repeat' (first | (exact trivial) | (exact WkD.same _) | (exact WkO.same _ _ rfl) | (exact WkD.any _) | (refine WkD.int ?_) | (exact WkD.new' rfl rfl rfl) | (exact WkO.new _ _ rfl) | (refine WkO.vars rfl ?_) | (with_reducible rfl) | (exact rfl) | (refine ⟨?_, ?_⟩) | ((refine wrapA ?_ ?_ ?_); (focus (simp; done)); (focus ((try dsimp only); omega)); (focus ((try dsimp only); omega))) | fail)))
        show minR a.testBit (fun v => near v b n') i = minR a.testBit (fun v => near v b n') (i + 1)
        rw [minR]
        exact (cond_no h).symm
    · have h1 : decide ((i : Int) < shl64 1 n') = false := h
      rw [hsh] at h1
      have hi' : i = 2 ^ n' := ge_dec h1 hi
      subst hi'
      exact le_int (btw_ref hn ha2 hb2 b0)
end Go.Proofs.Ythnfbkplkheliaa
set_option maxRecDepth 100000
set_option maxHeartbeats 4000000
namespace Go.Proofs.Ythnfbkplkheliaa
open Go Go.Dv

def pairU (x : Nat × Int) : PV := .tup [u64 x.1, .int .i64 x.2]
theorem le_pair {a b : Nat × Int} (h : a = b) : PLe (pairU a) (pairU b) := h ▸ .refl _
def clq (a b n : Nat) (v : Nat) : Bool := bif a.testBit v then ((near v b n : Nat) : Int) == btwI a b n else false
theorem clI1 {a b : Nat} {facts : Int} (h : (bchk a facts != 0) = true) : closestI a b facts = (0, bchk a facts) := by rw [closestI, h]; rfl
theorem clI2 {a b : Nat} {facts : Int} (h : (bchk a facts != 0) = false) (h2 : (bchk b facts != 0) = true) : closestI a b facts = (0, bchk b facts) := by rw [closestI, h, h2]; rfl
theorem clI3 {a b : Nat} {facts : Int} (h : (bchk a facts != 0) = false) (h2 : (bchk b facts != 0) = false) (h3 : ((b : Int) == 0) = true) : closestI a b facts = (a, 0) := by rw [closestI, h, h2, h3]; rfl
theorem clI4 {a b : Nat} {facts : Int} (h : (bchk a facts != 0) = false) (h2 : (bchk b facts != 0) = false) (h3 : ((b : Int) == 0) = false) : closestI a b facts = (maskOf (clq a b facts.toNat) (2 ^ facts.toNat), 0) := by rw [closestI, h, h2, h3]; rfl
theorem okB {a b : Nat} {facts : Int} (h : (bchk a facts != 0) = false) (h2 : (bchk b facts != 0) = false) (h3 : ((b : Int) == 0) = false) : ∃ n : Nat, facts = n ∧ n ≤ 4 ∧ a < 2 ^ (2 ^ n) ∧ b < 2 ^ (2 ^ n) ∧ b ≠ 0 := by
  obtain ⟨n, rfl, hn, ha⟩ := bchk_ok (by simpa using h)
  obtain ⟨n', hn', _, hb⟩ := bchk_ok (by simpa using h2)
  have : n' = n := by omega
  subst this
  exact ⟨n', rfl, hn, ha, hb, by simpa using h3⟩
theorem mask_step {q : Nat → Bool} {i : Nat} (hi : i < 63) (h : q i = true) : orU (maskOf q i) (shlU 1 i) = ((maskOf q (i + 1) : Nat) : Int) := by
  have h1 := maskOf_lt q i
  have h2 : 2 ^ i < 2 ^ 63 := Nat.pow_lt_pow_right (by decide) hi
  rw [shlU_one (by omega), orU_nat (by omega) (by omega), maskOf, h]; rfl
theorem mask_skip {q : Nat → Bool} {i : Nat} (h : q i = false) : ((maskOf q i : Nat) : Int) = ((maskOf q (i + 1) : Nat) : Int) := by rw [maskOf, h]; rfl
theorem bs_Closest (a b : Nat) (facts : Int) (ha : a < 2 ^ 64) (hb : b < 2 ^ 64) : PureFn Try.prog 19 [u64 a, u64 b, .int .i64 facts] (pairU (closestI a b facts)) := by
  refine PureFn.intro mixed (fn := Try.f19) rfl rfl rfl fun M w0 => ?_
  (try (conv => whnf)); repeat' (first | (apply And.intro <;> (try (conv => whnf))) | (intro h; first | (with_reducible exact tf0 h) | (with_reducible exact ft0 h) | (with_reducible exact nt0 h) | (with_reducible exact nf0 h) | (exact litz h rfl) | (with_reducible exact tf h (by with_reducible assumption)) | (with_reducible exact tf (by with_reducible assumption) h) | (try (conv => whnf))) | (with_reducible rfl) | (apply True.intro) | (apply infoT; rfl) | (apply bleI; rfl) | (apply fitI; rfl) | (apply cellsI; rfl) | (apply szI; rfl) | (apply guardI; kernel_rfl) | (apply WhenQ.mk; (try (conv => whnf)); rotate_left; (try (conv => whnf)); rotate_right) | (with_reducible assumption) | (apply not_of; with_reducible assumption) | (apply left_of; with_reducible assumption) | (apply left_of; apply left_of; with_reducible assumption) | (apply and_of <;> first | (with_reducible assumption) | (apply not_of; with_reducible assumption))| (refine lin_plan (by kernel_rfl) ?_; (try (conv => whnf))) | (refine ⟨_, _, rfl, idx_map (by with_reducible assumption), rfl, ?_⟩; (try (conv => whnf))) | (refine ⟨rfl, ?_⟩; (try (conv => whnf))) | (exact Nat.le_refl 1) | ((apply ex3); (focus (with_reducible assumption)); (focus (with_reducible assumption)); (try (conv => whnf))) | ((apply ex2); (focus (with_reducible assumption)); (try (conv => whnf))) | (refine PureFn.dcq (f := 17) rfl ?_; (try (conv => whnf))) | ((refine ⟨_, _, bs_Check ?_ ?_ ?_, ?_, ?_⟩); rotate_left 3; (focus (first | (refine ⟨?_, ?_, trivial⟩ <;> first | (exact PLe.refl _) | (exact PLe.nil)) | (exact trivial))); (try (conv => whnf))) | (refine ⟨_, (by (conv => whnf); exact bs_Check _ _ _), rfl, ?_⟩; (try (conv => whnf))) | fail)
  · exact le_pair (clI1 h).symm
  · rename_i h1
    exact le_pair (clI2 h1 h).symm
  · rename_i h2 h1
    exact le_pair (clI3 h2 h1 h).symm
  · rename_i h2 h1
    rw [clI4 h2 h1 h]
    obtain ⟨n, rfl, hn, ha2, hb2, b0⟩ := okB h2 h1 h
    have h16 := (vals_le hn).2
    have hs6 := sets_le hn
    have hsh := shl_n hn
    (try (conv => whnf)); repeat' (first | (apply And.intro <;> (try (conv => whnf))) | (intro h; first | (with_reducible exact tf0 h) | (with_reducible exact ft0 h) | (with_reducible exact nt0 h) | (with_reducible exact nf0 h) | (exact litz h rfl) | (with_reducible exact tf h (by with_reducible assumption)) | (with_reducible exact tf (by with_reducible assumption) h) | (try (conv => whnf))) | (with_reducible rfl) | (apply True.intro) | (apply infoT; rfl) | (apply bleI; rfl) | (apply fitI; rfl) | (apply cellsI; rfl) | (apply szI; rfl) | (apply guardI; kernel_rfl) | (apply WhenQ.mk; (try (conv => whnf)); rotate_left; (try (conv => whnf)); rotate_right) | (with_reducible assumption) | (apply not_of; with_reducible assumption) | (apply left_of; with_reducible assumption) | (apply left_of; apply left_of; with_reducible assumption) | (apply and_of <;> first | (with_reducible assumption) | (apply not_of; with_reducible assumption))| (refine lin_plan (by kernel_rfl) ?_; (try (conv => whnf))) | (refine ⟨_, _, rfl, idx_map (by with_reducible assumption), rfl, ?_⟩; (try (conv => whnf))) | (refine ⟨rfl, ?_⟩; (try (conv => whnf))) | (exact Nat.le_refl 1) | ((apply ex3); (focus (with_reducible assumption)); (focus (with_reducible assumption)); (try (conv => whnf))) | ((apply ex2); (focus (with_reducible assumption)); (try (conv => whnf))) | (refine PureFn.dcq (f := 23) rfl ?_; (try (conv => whnf))) | ((refine ⟨_, _, bs_Between ?_ ?_ ?_ ?_ ?_, ?_, ?_⟩); rotate_left 5; (focus (first | (refine ⟨?_, ?_, ?_, trivial⟩ <;> first | (exact PLe.refl _) | (exact PLe.nil)) | (exact trivial))); (try (conv => whnf))) | (refine ⟨_, (by (conv => whnf); exact bs_Between _ _ _ _ _), rfl, ?_⟩; (try (conv => whnf))) | fail)
    · show (0 : Int) ≤ (n : Int)
      omega
    refine ⟨{ i : Nat // i ≤ 2 ^ n }, fun i => [(0, .pv (u64 a)), (1, .pv (u64 b)), (2, .pv (i64 n)), (10, .pv (.int .i64 (btwI a b n))), (11, .pv (u64 (maskOf (clq a b n) i.1))), (33, .pv (i64 (2 ^ n))), (34, .pv (i64 i.1))], fun _ => 0, fun _ => [], fun i => 2 ^ n - i.1, ⟨⟨0, Nat.zero_le _⟩, ?_⟩, ?_⟩
    · (refine Wk.of ?_ ?_ rfl rfl rfl <;> (repeat' (first | (exact trivial) | (exact WkD.same _) | (exact WkO.same _ _ rfl) | (exact WkD.any _) | (refine WkD.int ?_) | (exact WkD.new' rfl rfl rfl) | (exact WkO.new _ _ rfl) | (refine WkO.vars rfl ?_) | (with_reducible rfl) | (exact rfl) | (refine ⟨?_, ?_⟩) | ((refine wrapA ?_ ?_ ?_); (focus (simp; done)); (focus ((try dsimp only); omega)); (focus ((try dsimp only); omega))) | fail)))
      all_goals exact hsh
    rintro ⟨i, hi⟩
    have hN : i < 2 ^ n → PureFn Try.prog 56 [.int .i64 (i : Int), u64 b, .int .i64 (n : Int)] (.int .i64 (near i b n : Nat)) := fun hi' => bs_near i b n hn hi' hb2
    (try (conv => whnf)); repeat' (first | (apply And.intro <;> (try (conv => whnf))) | (intro h; first | (with_reducible exact tf0 h) | (with_reducible exact ft0 h) | (with_reducible exact nt0 h) | (with_reducible exact nf0 h) | (exact litz h rfl) | (with_reducible exact tf h (by with_reducible assumption)) | (with_reducible exact tf (by with_reducible assumption) h) | (try (conv => whnf))) | (with_reducible rfl) | (apply True.intro) | (apply infoT; rfl) | (apply bleI; rfl) | (apply fitI; rfl) | (apply cellsI; rfl) | (apply szI; rfl) | (apply guardI; kernel_rfl) | (apply WhenQ.mk; (try (conv => whnf)); rotate_left; (try (conv => whnf)); rotate_right) | (with_reducible assumption) | (apply not_of; with_reducible assumption) | (apply left_of; with_reducible assumption) | (apply left_of; apply left_of; with_reducible assumption) | (apply and_of <;> first | (with_reducible assumption) | (apply not_of; with_reducible assumption))| (refine lin_plan (by kernel_rfl) ?_; (try (conv => whnf))) | (refine ⟨_, _, rfl, idx_map (by with_reducible assumption), rfl, ?_⟩; (try (conv => whnf))) | (refine ⟨rfl, ?_⟩; (try (conv => whnf))) | (exact Nat.le_refl 1) | ((apply ex3); (focus (with_reducible assumption)); (focus (with_reducible assumption)); (try (conv => whnf))) | ((apply ex2); (focus (with_reducible assumption)); (try (conv => whnf))) | (refine PureFn.dcq (f := 56) rfl ?_; (try (conv => whnf))) | ((refine ⟨_, _, hN ?_, ?_, ?_⟩); rotate_left 1; (focus (first | (refine ⟨?_, ?_, ?_, trivial⟩ <;> first | (exact PLe.refl _) | (exact PLe.nil)) | (exact trivial))); (try (conv => whnf))) | (refine ⟨_, (by (conv => whnf); exact hN _), rfl, ?_⟩; (try (conv => whnf))) | fail)
    · show (0 : Int) ≤ (i : Int)
      omega
    · exact lt_dec (by assumption)
    · show (0 : Int) ≤ (i : Int)
      omega
    · rename_i h1
      have hi' : i < 2 ^ n := lt_dec h1
      have hq : (bif andU (shrU a i) 1 == 1 then ((near i b n : Nat) : Int) == btwI a b n else false) = true := h
      rw [bit_one (by omega) (by omega)] at hq
      have hq : clq a b n i = true := hq
      refine ⟨⟨i + 1, hi'⟩, by show 2 ^ n - (i + 1) < 2 ^ n - i; omega, ?_⟩
      (refine Wk.of ?_ ?_ rfl rfl rfl <;> (repeat' (first | (exact trivial) | (exact WkD.same _) | (exact WkO.same _ _ rfl) | (exact WkD.any _) | (refine WkD.int ?_) | (exact WkD.new' rfl rfl rfl) | (exact WkO.new _ _ rfl) | (refine WkO.vars rfl ?_) | (with_reducible rfl) | (exact rfl) | (refine ⟨?_, ?_⟩) | ((refine wrapA ?_ ?_ ?_); (focus (simp; done)); (focus ((try dsimp only); omega)); (focus ((try dsimp only); omega))) | fail)))
      exact mask_step (i := i) (by omega) hq
    · rename_i h1
      have hi' : i < 2 ^ n := lt_dec h1
      have hq : (bif andU (shrU a i) 1 == 1 then ((near i b n : Nat) : Int) == btwI a b n else false) = false := h
      rw [bit_one (by omega) (by omega)] at hq
      have hq : clq a b n i = false := hq
      refine ⟨⟨i + 1, hi'⟩, by show 2 ^ n - (i + 1) < 2 ^ n - i; omega, ?_⟩
      (refine Wk.of ?_ ?_ rfl rfl rfl <;> (repeat' (first | (exact trivial) | (exact WkD.same _) | (exact WkO.same _ _ rfl) | (exact WkD.any _) | (refine WkD.int ?_) | (exact WkD.new' rfl rfl rfl) | (exact WkO.new _ _ rfl) | (refine WkO.vars rfl ?_) | (with_reducible rfl) | (exact rfl) | (refine ⟨?_, ?_⟩) | ((refine wrapA ?_ ?_ ?_); (focus (simp; done)); (focus ((try dsimp only); omega)); (focus ((try dsimp only); omega))) | fail)))
      exact mask_skip hq
    · have hi' : i = 2 ^ n := ge_dec h hi
      subst hi'
      exact .refl _
theorem rb_Closest (a b : Nat) (facts : Int) (ha : a < 2 ^ 64) (hb : b < 2 ^ 64) : PureFn Try.prog 20 [u64 a, u64 b, .int .i64 facts] (pairU (closestI a b facts)) := by
  refine PureFn.introC [4] mixed (fn := Try.f20) rfl rfl rfl fun M w0 => ?_
  (try (conv => whnf)); repeat' (first | (apply And.intro <;> (try (conv => whnf))) | (intro h; first | (with_reducible exact tf0 h) | (with_reducible exact ft0 h) | (with_reducible exact nt0 h) | (with_reducible exact nf0 h) | (exact litz h rfl) | (with_reducible exact tf h (by with_reducible assumption)) | (with_reducible exact tf (by with_reducible assumption) h) | (try (conv => whnf))) | (with_reducible rfl) | (apply True.intro) | (apply infoT; rfl) | (apply bleI; rfl) | (apply fitI; rfl) | (apply cellsI; rfl) | (apply szI; rfl) | (apply guardI; kernel_rfl) | (apply WhenQ.mk; (try (conv => whnf)); rotate_left; (try (conv => whnf)); rotate_right) | (with_reducible assumption) | (apply not_of; with_reducible assumption) | (apply left_of; with_reducible assumption) | (apply left_of; apply left_of; with_reducible assumption) | (apply and_of <;> first | (with_reducible assumption) | (apply not_of; with_reducible assumption))| (refine lin_plan (by kernel_rfl) ?_; (try (conv => whnf))) | (refine ⟨_, _, rfl, idx_map (by with_reducible assumption), rfl, ?_⟩; (try (conv => whnf))) | (refine ⟨rfl, ?_⟩; (try (conv => whnf))) | (exact Nat.le_refl 1) | ((apply ex3); (focus (with_reducible assumption)); (focus (with_reducible assumption)); (try (conv => whnf))) | ((apply ex2); (focus (with_reducible assumption)); (try (conv => whnf))) | (refine PureFn.dcq (f := 18) rfl ?_; (try (conv => whnf))) | ((refine ⟨_, _, rb_Check ?_ ?_ ?_, ?_, ?_⟩); rotate_left 3; (focus (first | (refine ⟨?_, ?_, trivial⟩ <;> first | (exact PLe.refl _) | (exact PLe.nil)) | (exact trivial))); (try (conv => whnf))) | (refine ⟨_, (by (conv => whnf); exact rb_Check _ _ _), rfl, ?_⟩; (try (conv => whnf))) | fail)
  refine ⟨Unit, fun _ => [(0, .pv (u64 a)), (1, .pv (u64 b)), (2, .pv (.int .i64 facts)), (8, .pv (.int .i64 (bif bchk a facts == 0 then bchk b facts else bchk a facts)))], fun _ => 0, fun _ => [], ?_, ?_⟩
  · (try (conv => whnf)); repeat' (first | (apply And.intro <;> (try (conv => whnf))) | (intro h; first | (with_reducible exact tf0 h) | (with_reducible exact ft0 h) | (with_reducible exact nt0 h) | (with_reducible exact nf0 h) | (exact litz h rfl) | (with_reducible exact tf h (by with_reducible assumption)) | (with_reducible exact tf (by with_reducible assumption) h) | (try (conv => whnf))) | (with_reducible rfl) | (apply True.intro) | (apply infoT; rfl) | (apply bleI; rfl) | (apply fitI; rfl) | (apply cellsI; rfl) | (apply szI; rfl) | (apply guardI; kernel_rfl) | (apply WhenQ.mk; (try (conv => whnf)); rotate_left; (try (conv => whnf)); rotate_right) | (with_reducible assumption) | (apply not_of; with_reducible assumption) | (apply left_of; with_reducible assumption) | (apply left_of; apply left_of; with_reducible assumption) | (apply and_of <;> first | (with_reducible assumption) | (apply not_of; with_reducible assumption))| (refine lin_plan (by kernel_rfl) ?_; (try (conv => whnf))) | (refine ⟨_, _, rfl, idx_map (by with_reducible assumption), rfl, ?_⟩; (try (conv => whnf))) | (refine ⟨rfl, ?_⟩; (try (conv => whnf))) | (exact Nat.le_refl 1) | ((apply ex3); (focus (with_reducible assumption)); (focus (with_reducible assumption)); (try (conv => whnf))) | ((apply ex2); (focus (with_reducible assumption)); (try (conv => whnf))) | (refine PureFn.dcq (f := 18) rfl ?_; (try (conv => whnf))) | ((refine ⟨_, _, rb_Check ?_ ?_ ?_, ?_, ?_⟩); rotate_left 3; (focus (first | (refine ⟨?_, ?_, trivial⟩ <;> first | (exact PLe.refl _) | (exact PLe.nil)) | (exact trivial))); (try (conv => whnf))) | (refine ⟨_, (by (conv => whnf); exact rb_Check _ _ _), rfl, ?_⟩; (try (conv => whnf))) | fail)
    · rw [h]
      exact ⟨(), (by refine Wk.of ?_ ?_ rfl rfl rfl <;> (repeat' (first | (exact trivial) | (exact WkD.same _) | (exact WkO.same _ _ rfl) | (exact WkD.any _) | (refine WkD.int ?_) | (exact WkD.new' rfl rfl rfl) | (exact WkO.new _ _ rfl) | (refine WkO.vars rfl ?_) | (with_reducible rfl) | (exact rfl) | (refine ⟨?_, ?_⟩) | ((refine wrapA ?_ ?_ ?_); (focus (simp; done)); (focus ((try dsimp only); omega)); (focus ((try dsimp only); omega))) | fail)))⟩
    · rw [h]
      exact ⟨(), (by refine Wk.of ?_ ?_ rfl rfl rfl <;> (repeat' (first | (exact trivial) | (exact WkD.same _) | (exact WkO.same _ _ rfl) | (exact WkD.any _) | (refine WkD.int ?_) | (exact WkD.new' rfl rfl rfl) | (exact WkO.new _ _ rfl) | (refine WkO.vars rfl ?_) | (with_reducible rfl) | (exact rfl) | (refine ⟨?_, ?_⟩) | ((refine wrapA ?_ ?_ ?_); (focus (simp; done)); (focus ((try dsimp only); omega)); (focus ((try dsimp only); omega))) | fail)))⟩
  rintro ⟨⟩
  (try (conv => whnf)); repeat' (first | (apply And.intro <;> (try (conv => whnf))) | (intro h; first | (with_reducible exact tf0 h) | (with_reducible exact ft0 h) | (with_reducible exact nt0 h) | (with_reducible exact nf0 h) | (exact litz h rfl) | (with_reducible exact tf h (by with_reducible assumption)) | (with_reducible exact tf (by with_reducible assumption) h) | (try (conv => whnf))) | (with_reducible rfl) | (apply True.intro) | (apply infoT; rfl) | (apply bleI; rfl) | (apply fitI; rfl) | (apply cellsI; rfl) | (apply szI; rfl) | (apply guardI; kernel_rfl) | (apply WhenQ.mk; (try (conv => whnf)); rotate_left; (try (conv => whnf)); rotate_right) | (with_reducible assumption) | (apply not_of; with_reducible assumption) | (apply left_of; with_reducible assumption) | (apply left_of; apply left_of; with_reducible assumption) | (apply and_of <;> first | (with_reducible assumption) | (apply not_of; with_reducible assumption))| (refine lin_plan (by kernel_rfl) ?_; (try (conv => whnf))) | (refine ⟨_, _, rfl, idx_map (by with_reducible assumption), rfl, ?_⟩; (try (conv => whnf))) | (refine ⟨rfl, ?_⟩; (try (conv => whnf))) | (exact Nat.le_refl 1) | ((apply ex3); (focus (with_reducible assumption)); (focus (with_reducible assumption)); (try (conv => whnf))) | ((apply ex2); (focus (with_reducible assumption)); (try (conv => whnf))) | fail)
  · cases h1 : (bchk a facts == 0) with
    | true =>
      rw [h1] at h
      rw [clI2 (by rw [bne, h1]; rfl) h]; exact .refl _
    | false =>
      rw [h1] at h
      rw [clI1 h]; exact .refl _
  · cases h1 : (bchk a facts == 0) with
    | true =>
      rename_i h2
      rw [h1] at h2
      exact le_pair (clI3 (by rw [bne, h1]; rfl) h2 h).symm
    | false =>
      rename_i h2
      rw [h1] at h2
      have h3 : (bchk a facts != 0) = true := by rw [bne, h1]; rfl
      exact absurd (h3.symm.trans h2) (by decide)
  · rename_i h2
    cases h1 : (bchk a facts == 0) with
    | false =>
      rw [h1] at h2
      have h3 : (bchk a facts != 0) = true := by rw [bne, h1]; rfl
      exact absurd (h3.symm.trans h2) (by decide)
    | true =>
      rw [h1] at h2
      have h4 : (bchk a facts != 0) = false := by rw [bne, h1]; rfl
      rw [clI4 h4 h2 h]
      obtain ⟨n, rfl, hn, ha2, hb2, b0⟩ := okB h4 h2 h
      have h16 := (vals_le hn).2
      have hs6 := sets_le hn
      have hsh := shl_n hn
      (try (conv => whnf)); repeat' (first | (apply And.intro <;> (try (conv => whnf))) | (intro h; first | (with_reducible exact tf0 h) | (with_reducible exact ft0 h) | (with_reducible exact nt0 h) | (with_reducible exact nf0 h) | (exact litz h rfl) | (with_reducible exact tf h (by with_reducible assumption)) | (with_reducible exact tf (by with_reducible assumption) h) | (try (conv => whnf))) | (with_reducible rfl) | (apply True.intro) | (apply infoT; rfl) | (apply bleI; rfl) | (apply fitI; rfl) | (apply cellsI; rfl) | (apply szI; rfl) | (apply guardI; kernel_rfl) | (apply WhenQ.mk; (try (conv => whnf)); rotate_left; (try (conv => whnf)); rotate_right) | (with_reducible assumption) | (apply not_of; with_reducible assumption) | (apply left_of; with_reducible assumption) | (apply left_of; apply left_of; with_reducible assumption) | (apply and_of <;> first | (with_reducible assumption) | (apply not_of; with_reducible assumption))| (refine lin_plan (by kernel_rfl) ?_; (try (conv => whnf))) | (refine ⟨_, _, rfl, idx_map (by with_reducible assumption), rfl, ?_⟩; (try (conv => whnf))) | (refine ⟨rfl, ?_⟩; (try (conv => whnf))) | (exact Nat.le_refl 1) | ((apply ex3); (focus (with_reducible assumption)); (focus (with_reducible assumption)); (try (conv => whnf))) | ((apply ex2); (focus (with_reducible assumption)); (try (conv => whnf))) | (refine PureFn.dcq (f := 24) rfl ?_; (try (conv => whnf))) | ((refine ⟨_, _, rb_Between ?_ ?_ ?_ ?_ ?_, ?_, ?_⟩); rotate_left 5; (focus (first | (refine ⟨?_, ?_, ?_, trivial⟩ <;> first | (exact PLe.refl _) | (exact PLe.nil)) | (exact trivial))); (try (conv => whnf))) | (refine ⟨_, (by (conv => whnf); exact rb_Between _ _ _ _ _), rfl, ?_⟩; (try (conv => whnf))) | fail)
      refine ⟨{ i : Nat // i ≤ 2 ^ n }, fun i => [(0, .pv (u64 a)), (1, .pv (u64 b)), (2, .pv (i64 n)), (10, .pv (.int .i64 (btwI a b n))), (9, .pv (u64 (maskOf (clq a b n) i.1))), (11, .pv (i64 i.1))], fun _ => 0, fun _ => [], fun i => 2 ^ n - i.1, ⟨⟨0, Nat.zero_le _⟩, (by refine Wk.of ?_ ?_ rfl rfl rfl <;> (repeat' (first | (exact trivial) | (exact WkD.same _) | (exact WkO.same _ _ rfl) | (exact WkD.any _) | (refine WkD.int ?_) | (exact WkD.new' rfl rfl rfl) | (exact WkO.new _ _ rfl) | (refine WkO.vars rfl ?_) | (with_reducible rfl) | (exact rfl) | (refine ⟨?_, ?_⟩) | ((refine wrapA ?_ ?_ ?_); (focus (simp; done)); (focus ((try dsimp only); omega)); (focus ((try dsimp only); omega))) | fail)))⟩, ?_⟩
      rintro ⟨i, hi⟩
      have hN : i < 2 ^ n → PureFn Try.prog 57 [.int .i64 (i : Int), u64 b, .int .i64 (n : Int)] (.int .i64 (near i b n : Nat)) := fun hi' => rb_near i b n hn hi' hb2 b0
      have hH := rb_Has a i (by omega)
      (try (conv => whnf)); repeat' (first | (apply And.intro <;> (try (conv => whnf))) | (intro h; first | (with_reducible exact tf0 h) | (with_reducible exact ft0 h) | (with_reducible exact nt0 h) | (with_reducible exact nf0 h) | (exact litz h rfl) | (with_reducible exact tf h (by with_reducible assumption)) | (with_reducible exact tf (by with_reducible assumption) h) | (try (conv => whnf))) | (with_reducible rfl) | (apply True.intro) | (apply infoT; rfl) | (apply bleI; rfl) | (apply fitI; rfl) | (apply cellsI; rfl) | (apply szI; rfl) | (apply guardI; kernel_rfl) | (apply WhenQ.mk; (try (conv => whnf)); rotate_left; (try (conv => whnf)); rotate_right) | (with_reducible assumption) | (apply not_of; with_reducible assumption) | (apply left_of; with_reducible assumption) | (apply left_of; apply left_of; with_reducible assumption) | (apply and_of <;> first | (with_reducible assumption) | (apply not_of; with_reducible assumption))| (refine lin_plan (by kernel_rfl) ?_; (try (conv => whnf))) | (refine ⟨_, _, rfl, idx_map (by with_reducible assumption), rfl, ?_⟩; (try (conv => whnf))) | (refine ⟨rfl, ?_⟩; (try (conv => whnf))) | (exact Nat.le_refl 1) | ((apply ex3); (focus (with_reducible assumption)); (focus (with_reducible assumption)); (try (conv => whnf))) | ((apply ex2); (focus (with_reducible assumption)); (try (conv => whnf))) | (refine PureFn.dcq (f := 57) rfl ?_; (try (conv => whnf))) | (refine PureFn.dcq (f := 49) rfl ?_; (try (conv => whnf))) | ((refine ⟨_, _, hN ?_, ?_, ?_⟩); rotate_left 1; (focus (first | (refine ⟨?_, ?_, ?_, trivial⟩ <;> first | (exact PLe.refl _) | (exact PLe.nil)) | (exact trivial))); (try (conv => whnf))) | (refine ⟨_, (by (conv => whnf); exact hN _), rfl, ?_⟩; (try (conv => whnf))) | ((refine ⟨_, _, hH, ?_, ?_⟩); (focus (first | (refine ⟨?_, ?_, trivial⟩ <;> first | (exact PLe.refl _) | (exact PLe.nil)) | (exact trivial))); (try (conv => whnf))) | (refine ⟨_, (by (conv => whnf); exact hH), rfl, ?_⟩; (try (conv => whnf))) | fail)
      · show (0 : Int) ≤ (n : Int)
        omega
      · rename_i h1
        have h1 : decide ((i : Int) < shl64 1 n) = true := h1
        rw [hsh] at h1
        exact lt_dec h1
      · show (0 : Int) ≤ (i : Int)
        omega
      · rename_i h1
        have h1 : decide ((i : Int) < shl64 1 n) = true := h1
        rw [hsh] at h1
        have hi' : i < 2 ^ n := lt_dec h1
        have hq : clq a b n i = true := h
        refine ⟨⟨i + 1, hi'⟩, by show 2 ^ n - (i + 1) < 2 ^ n - i; omega, ?_⟩
        (refine Wk.of ?_ ?_ rfl rfl rfl <;> (repeat' (first | (exact trivial) | (exact WkD.same _) | (exact WkO.same _ _ rfl) | (exact WkD.any _) | (refine WkD.int ?_) | (exact WkD.new' rfl rfl rfl) | (exact WkO.new _ _ rfl) | (refine WkO.vars rfl ?_) | (with_reducible rfl) | (exact rfl) | (refine ⟨?_, ?_⟩) | ((refine wrapA ?_ ?_ ?_); (focus (simp; done)); (focus ((try dsimp only); omega)); (focus ((try dsimp only); omega))) | fail)))
        exact mask_step (i := i) (by omega) hq
      · rename_i h1
        have h1 : decide ((i : Int) < shl64 1 n) = true := h1
        rw [hsh] at h1
        have hi' : i < 2 ^ n := lt_dec h1
        have hq : clq a b n i = false := h
        refine ⟨⟨i + 1, hi'⟩, by show 2 ^ n - (i + 1) < 2 ^ n - i; omega, ?_⟩
        (refine Wk.of ?_ ?_ rfl rfl rfl <;> (repeat' (first | (exact trivial) | (exact WkD.same _) | (exact WkO.same _ _ rfl) | (exact WkD.any _) | (refine WkD.int ?_) | (exact WkD.new' rfl rfl rfl) | (exact WkO.new _ _ rfl) | (refine WkO.vars rfl ?_) | (with_reducible rfl) | (exact rfl) | (refine ⟨?_, ?_⟩) | ((refine wrapA ?_ ?_ ?_); (focus (simp; done)); (focus ((try dsimp only); omega)); (focus ((try dsimp only); omega))) | fail)))
        exact mask_skip hq
      · have h1 : decide ((i : Int) < shl64 1 n) = false := h
        rw [hsh] at h1
        have hi' : i = 2 ^ n := ge_dec h1 hi
        subst hi'
        exact .refl _
end Go.Proofs.Ythnfbkplkheliaa
set_option maxRecDepth 100000
set_option maxHeartbeats 4000000
namespace Go.Proofs.Ythnfbkplkheliaa
open Go Go.Dv

def nand64 (a b : Int) : Int := IntKind.wrap .i64 ((BitVec.ofInt (IntKind.bits .i64) a &&& ~~~BitVec.ofInt (IntKind.bits .i64) b).toNat : Int)
/-- The facts known to be true, and those known to be false. -/
def kn (s : Nat) (z : Int) : Nat → Int × Int
  | 0 => (z, z)
  | i + 1 => bif s.testBit i then (and64 (kn s z i).1 i, nand64 (kn s z i).2 i) else kn s z i
def kn0 (n : Nat) : Int := IntKind.wrap .i64 (shl64 1 n - 1)
def trip (x : Int × Int × Int) : PV := .tup [.int .i64 x.1, .int .i64 x.2.1, .int .i64 x.2.2]
def knownI (s : Nat) (facts : Int) : Int × Int × Int := bif bchk s facts != 0 then (0, 0, bchk s facts) else ((kn s (kn0 facts.toNat) (2 ^ facts.toNat)).1, (kn s (kn0 facts.toNat) (2 ^ facts.toNat)).2, 0)
theorem knI1 {s : Nat} {facts : Int} (h : (bchk s facts != 0) = true) : knownI s facts = (0, 0, bchk s facts) := by rw [knownI, h]; rfl
theorem knI2 {s : Nat} {facts : Int} (h : (bchk s facts != 0) = false) : knownI s facts = ((kn s (kn0 facts.toNat) (2 ^ facts.toNat)).1, (kn s (kn0 facts.toNat) (2 ^ facts.toNat)).2, 0) := by rw [knownI, h]; rfl
theorem kn_t {s i : Nat} {z : Int} (h : s.testBit i = true) : kn s z (i + 1) = (and64 (kn s z i).1 i, nand64 (kn s z i).2 i) := by rw [kn, h]; rfl
theorem kn_f {s i : Nat} {z : Int} (h : s.testBit i = false) : kn s z (i + 1) = kn s z i := by rw [kn, h]; rfl
theorem lim {n i m : Nat} {b : Bool} (hs : shl64 1 (n : Int) = (m : Nat)) (h : decide ((i : Int) < shl64 1 n) = b) : decide ((i : Int) < (m : Nat)) = b := by rw [← hs]; exact h
theorem posC {s : Nat} {facts : Int} (h : (bchk s facts != 0) = false) : 0 ≤ facts := by
  obtain ⟨n, rfl, _⟩ := bchk_ok (s := s) (facts := facts) (by simpa using h)
  omega
theorem bs_Known (s : Nat) (facts : Int) (hs : s < 2 ^ 64) : PureFn Try.prog 25 [u64 s, .int .i64 facts] (trip (knownI s facts)) := by
  refine PureFn.intro mixed (fn := Try.f25) rfl rfl rfl fun M w0 => ?_
  (try (conv => whnf)); repeat' (first | (apply And.intro <;> (try (conv => whnf))) | (intro h; first | (with_reducible exact tf0 h) | (with_reducible exact ft0 h) | (with_reducible exact nt0 h) | (with_reducible exact nf0 h) | (exact litz h rfl) | (with_reducible exact tf h (by with_reducible assumption)) | (with_reducible exact tf (by with_reducible assumption) h) | (try (conv => whnf))) | (with_reducible rfl) | (apply True.intro) | (apply infoT; rfl) | (apply bleI; rfl) | (apply fitI; rfl) | (apply cellsI; rfl) | (apply szI; rfl) | (apply guardI; kernel_rfl) | (apply WhenQ.mk; (try (conv => whnf)); rotate_left; (try (conv => whnf)); rotate_right) | (with_reducible assumption) | (apply not_of; with_reducible assumption) | (apply left_of; with_reducible assumption) | (apply left_of; apply left_of; with_reducible assumption) | (apply and_of <;> first | (with_reducible assumption) | (apply not_of; with_reducible assumption))| (refine lin_plan (by kernel_rfl) ?_; (try (conv => whnf))) | (refine ⟨_, _, rfl, idx_map (by with_reducible assumption), rfl, ?_⟩; (try (conv => whnf))) | (refine ⟨rfl, ?_⟩; (try (conv => whnf))) | (exact Nat.le_refl 1) | ((apply ex3); (focus (with_reducible assumption)); (focus (with_reducible assumption)); (try (conv => whnf))) | ((apply ex2); (focus (with_reducible assumption)); (try (conv => whnf))) | (refine PureFn.dcq (f := 17) rfl ?_; (try (conv => whnf))) | ((refine ⟨_, _, bs_Check ?_ ?_ ?_, ?_, ?_⟩); rotate_left 3; (focus (first | (refine ⟨?_, ?_, trivial⟩ <;> first | (exact PLe.refl _) | (exact PLe.nil)) | (exact trivial))); (try (conv => whnf))) | (refine ⟨_, (by (conv => whnf); exact bs_Check _ _ _), rfl, ?_⟩; (try (conv => whnf))) | fail)
  · rw [knI1 h]; exact .refl _
  any_goals exact posC h
  rw [knI2 h]
  obtain ⟨n, rfl, hn, hs2⟩ := bchk_ok (s := s) (facts := facts) (by simpa using h)
  have h16 := (vals_le hn).2
  have hs6 := sets_le hn
  have hsh := shl_n hn
  rw [Int.toNat_natCast]
  refine ⟨{ i : Nat // i ≤ 2 ^ n }, fun i => [(0, .pv (u64 s)), (1, .pv (i64 n)), (8, .pv (.int .i64 (kn s (kn0 n) i.1).1)), (9, .pv (.int .i64 (kn s (kn0 n) i.1).2)), (24, .pv (i64 (2 ^ n))), (25, .pv (i64 i.1))], fun _ => 0, fun _ => [], fun i => 2 ^ n - i.1, ⟨⟨0, Nat.zero_le _⟩, ?_⟩, ?_⟩
  · (refine Wk.of ?_ ?_ rfl rfl rfl <;> (repeat' (first | (exact trivial) | (exact WkD.same _) | (exact WkO.same _ _ rfl) | (exact WkD.any _) | (refine WkD.int ?_) | (exact WkD.new' rfl rfl rfl) | (exact WkO.new _ _ rfl) | (refine WkO.vars rfl ?_) | (with_reducible rfl) | (exact rfl) | (refine ⟨?_, ?_⟩) | ((refine wrapA ?_ ?_ ?_); (focus (simp; done)); (focus ((try dsimp only); omega)); (focus ((try dsimp only); omega))) | fail)))
    all_goals exact hsh
  rintro ⟨i, hi⟩
  have hH := rb_Has s i (by omega)
  (try (conv => whnf)); repeat' (first | (apply And.intro <;> (try (conv => whnf))) | (intro h; first | (with_reducible exact tf0 h) | (with_reducible exact ft0 h) | (with_reducible exact nt0 h) | (with_reducible exact nf0 h) | (exact litz h rfl) | (with_reducible exact tf h (by with_reducible assumption)) | (with_reducible exact tf (by with_reducible assumption) h) | (try (conv => whnf))) | (with_reducible rfl) | (apply True.intro) | (apply infoT; rfl) | (apply bleI; rfl) | (apply fitI; rfl) | (apply cellsI; rfl) | (apply szI; rfl) | (apply guardI; kernel_rfl) | (apply WhenQ.mk; (try (conv => whnf)); rotate_left; (try (conv => whnf)); rotate_right) | (with_reducible assumption) | (apply not_of; with_reducible assumption) | (apply left_of; with_reducible assumption) | (apply left_of; apply left_of; with_reducible assumption) | (apply and_of <;> first | (with_reducible assumption) | (apply not_of; with_reducible assumption))| (refine lin_plan (by kernel_rfl) ?_; (try (conv => whnf))) | (refine ⟨_, _, rfl, idx_map (by with_reducible assumption), rfl, ?_⟩; (try (conv => whnf))) | (refine ⟨rfl, ?_⟩; (try (conv => whnf))) | (exact Nat.le_refl 1) | ((apply ex3); (focus (with_reducible assumption)); (focus (with_reducible assumption)); (try (conv => whnf))) | ((apply ex2); (focus (with_reducible assumption)); (try (conv => whnf))) | fail)
  any_goals ((show (0 : Int) ≤ (Int.ofNat _)) <;> exact Int.natCast_nonneg _)
  · rename_i h1
    skip
    have hi' : i < 2 ^ n := lt_dec h1
    have ht : s.testBit i = true := (bit_one (by omega) (by omega)).symm.trans h
    refine ⟨⟨i + 1, hi'⟩, by show 2 ^ n - (i + 1) < 2 ^ n - i; omega, ?_⟩
    (refine Wk.of ?_ ?_ rfl rfl rfl <;> (repeat' (first | (exact trivial) | (exact WkD.same _) | (exact WkO.same _ _ rfl) | (exact WkD.any _) | (refine WkD.int ?_) | (exact WkD.new' rfl rfl rfl) | (exact WkO.new _ _ rfl) | (refine WkO.vars rfl ?_) | (with_reducible rfl) | (exact rfl) | (refine ⟨?_, ?_⟩) | ((refine wrapA ?_ ?_ ?_); (focus (simp; done)); (focus ((try dsimp only); omega)); (focus ((try dsimp only); omega))) | fail)))
    · exact congrArg Prod.fst (kn_t ht).symm
    · exact congrArg Prod.snd (kn_t ht).symm
  · rename_i h1
    skip
    have hi' : i < 2 ^ n := lt_dec h1
    have ht : s.testBit i = false := (bit_one (by omega) (by omega)).symm.trans h
    refine ⟨⟨i + 1, hi'⟩, by show 2 ^ n - (i + 1) < 2 ^ n - i; omega, ?_⟩
    (refine Wk.of ?_ ?_ rfl rfl rfl <;> (repeat' (first | (exact trivial) | (exact WkD.same _) | (exact WkO.same _ _ rfl) | (exact WkD.any _) | (refine WkD.int ?_) | (exact WkD.new' rfl rfl rfl) | (exact WkO.new _ _ rfl) | (refine WkO.vars rfl ?_) | (with_reducible rfl) | (exact rfl) | (refine ⟨?_, ?_⟩) | ((refine wrapA ?_ ?_ ?_); (focus (simp; done)); (focus ((try dsimp only); omega)); (focus ((try dsimp only); omega))) | fail)))
    · exact congrArg Prod.fst (kn_f ht).symm
    · exact congrArg Prod.snd (kn_f ht).symm
  · have h1 := h
    skip
    have hi' : i = 2 ^ n := ge_dec h1 hi
    subst hi'
    exact .refl _
theorem rb_Known (s : Nat) (facts : Int) (hs : s < 2 ^ 64) : PureFn Try.prog 26 [u64 s, .int .i64 facts] (trip (knownI s facts)) := by
  refine PureFn.intro mixed (fn := Try.f26) rfl rfl rfl fun M w0 => ?_
  (try (conv => whnf)); repeat' (first | (apply And.intro <;> (try (conv => whnf))) | (intro h; first | (with_reducible exact tf0 h) | (with_reducible exact ft0 h) | (with_reducible exact nt0 h) | (with_reducible exact nf0 h) | (exact litz h rfl) | (with_reducible exact tf h (by with_reducible assumption)) | (with_reducible exact tf (by with_reducible assumption) h) | (try (conv => whnf))) | (with_reducible rfl) | (apply True.intro) | (apply infoT; rfl) | (apply bleI; rfl) | (apply fitI; rfl) | (apply cellsI; rfl) | (apply szI; rfl) | (apply guardI; kernel_rfl) | (apply WhenQ.mk; (try (conv => whnf)); rotate_left; (try (conv => whnf)); rotate_right) | (with_reducible assumption) | (apply not_of; with_reducible assumption) | (apply left_of; with_reducible assumption) | (apply left_of; apply left_of; with_reducible assumption) | (apply and_of <;> first | (with_reducible assumption) | (apply not_of; with_reducible assumption))| (refine lin_plan (by kernel_rfl) ?_; (try (conv => whnf))) | (refine ⟨_, _, rfl, idx_map (by with_reducible assumption), rfl, ?_⟩; (try (conv => whnf))) | (refine ⟨rfl, ?_⟩; (try (conv => whnf))) | (exact Nat.le_refl 1) | ((apply ex3); (focus (with_reducible assumption)); (focus (with_reducible assumption)); (try (conv => whnf))) | ((apply ex2); (focus (with_reducible assumption)); (try (conv => whnf))) | (refine PureFn.dcq (f := 18) rfl ?_; (try (conv => whnf))) | ((refine ⟨_, _, rb_Check ?_ ?_ ?_, ?_, ?_⟩); rotate_left 3; (focus (first | (refine ⟨?_, ?_, trivial⟩ <;> first | (exact PLe.refl _) | (exact PLe.nil)) | (exact trivial))); (try (conv => whnf))) | (refine ⟨_, (by (conv => whnf); exact rb_Check _ _ _), rfl, ?_⟩; (try (conv => whnf))) | fail)
  · rw [knI1 h]; exact .refl _
  any_goals exact posC h
  rw [knI2 h]
  obtain ⟨n, rfl, hn, hs2⟩ := bchk_ok (s := s) (facts := facts) (by simpa using h)
  have h16 := (vals_le hn).2
  have hs6 := sets_le hn
  have hsh := shl_n hn
  rw [Int.toNat_natCast]
  refine ⟨{ i : Nat // i ≤ 2 ^ n }, fun i => [(0, .pv (u64 s)), (1, .pv (i64 n)), (8, .pv (.int .i64 (kn s (kn0 n) i.1).1)), (9, .pv (.int .i64 (kn s (kn0 n) i.1).2)), (10, .pv (i64 i.1))], fun _ => 0, fun _ => [], fun i => 2 ^ n - i.1, ⟨⟨0, Nat.zero_le _⟩, ?_⟩, ?_⟩
  · (refine Wk.of ?_ ?_ rfl rfl rfl <;> (repeat' (first | (exact trivial) | (exact WkD.same _) | (exact WkO.same _ _ rfl) | (exact WkD.any _) | (refine WkD.int ?_) | (exact WkD.new' rfl rfl rfl) | (exact WkO.new _ _ rfl) | (refine WkO.vars rfl ?_) | (with_reducible rfl) | (exact rfl) | (refine ⟨?_, ?_⟩) | ((refine wrapA ?_ ?_ ?_); (focus (simp; done)); (focus ((try dsimp only); omega)); (focus ((try dsimp only); omega))) | fail)))
    all_goals exact hsh
  rintro ⟨i, hi⟩
  have hH := rb_Has s i (by omega)
  (try (conv => whnf)); repeat' (first | (apply And.intro <;> (try (conv => whnf))) | (intro h; first | (with_reducible exact tf0 h) | (with_reducible exact ft0 h) | (with_reducible exact nt0 h) | (with_reducible exact nf0 h) | (exact litz h rfl) | (with_reducible exact tf h (by with_reducible assumption)) | (with_reducible exact tf (by with_reducible assumption) h) | (try (conv => whnf))) | (with_reducible rfl) | (apply True.intro) | (apply infoT; rfl) | (apply bleI; rfl) | (apply fitI; rfl) | (apply cellsI; rfl) | (apply szI; rfl) | (apply guardI; kernel_rfl) | (apply WhenQ.mk; (try (conv => whnf)); rotate_left; (try (conv => whnf)); rotate_right) | (with_reducible assumption) | (apply not_of; with_reducible assumption) | (apply left_of; with_reducible assumption) | (apply left_of; apply left_of; with_reducible assumption) | (apply and_of <;> first | (with_reducible assumption) | (apply not_of; with_reducible assumption))| (refine lin_plan (by kernel_rfl) ?_; (try (conv => whnf))) | (refine ⟨_, _, rfl, idx_map (by with_reducible assumption), rfl, ?_⟩; (try (conv => whnf))) | (refine ⟨rfl, ?_⟩; (try (conv => whnf))) | (exact Nat.le_refl 1) | ((apply ex3); (focus (with_reducible assumption)); (focus (with_reducible assumption)); (try (conv => whnf))) | ((apply ex2); (focus (with_reducible assumption)); (try (conv => whnf))) | (refine PureFn.dcq (f := 49) rfl ?_; (try (conv => whnf))) | ((refine ⟨_, _, hH, ?_, ?_⟩); (focus (first | (refine ⟨?_, ?_, trivial⟩ <;> first | (exact PLe.refl _) | (exact PLe.nil)) | (exact trivial))); (try (conv => whnf))) | (refine ⟨_, (by (conv => whnf); exact hH), rfl, ?_⟩; (try (conv => whnf))) | fail)
  any_goals ((show (0 : Int) ≤ (Int.ofNat _)) <;> exact Int.natCast_nonneg _)
  · rename_i h1
    replace h1 := lim hsh h1
    have hi' : i < 2 ^ n := lt_dec h1
    have ht : s.testBit i = true := h
    refine ⟨⟨i + 1, hi'⟩, by show 2 ^ n - (i + 1) < 2 ^ n - i; omega, ?_⟩
    (refine Wk.of ?_ ?_ rfl rfl rfl <;> (repeat' (first | (exact trivial) | (exact WkD.same _) | (exact WkO.same _ _ rfl) | (exact WkD.any _) | (refine WkD.int ?_) | (exact WkD.new' rfl rfl rfl) | (exact WkO.new _ _ rfl) | (refine WkO.vars rfl ?_) | (with_reducible rfl) | (exact rfl) | (refine ⟨?_, ?_⟩) | ((refine wrapA ?_ ?_ ?_); (focus (simp; done)); (focus ((try dsimp only); omega)); (focus ((try dsimp only); omega))) | fail)))
    · exact congrArg Prod.fst (kn_t ht).symm
    · exact congrArg Prod.snd (kn_t ht).symm
  · rename_i h1
    replace h1 := lim hsh h1
    have hi' : i < 2 ^ n := lt_dec h1
    have ht : s.testBit i = false := h
    refine ⟨⟨i + 1, hi'⟩, by show 2 ^ n - (i + 1) < 2 ^ n - i; omega, ?_⟩
    (refine Wk.of ?_ ?_ rfl rfl rfl <;> (repeat' (first | (exact trivial) | (exact WkD.same _) | (exact WkO.same _ _ rfl) | (exact WkD.any _) | (refine WkD.int ?_) | (exact WkD.new' rfl rfl rfl) | (exact WkO.new _ _ rfl) | (refine WkO.vars rfl ?_) | (with_reducible rfl) | (exact rfl) | (refine ⟨?_, ?_⟩) | ((refine wrapA ?_ ?_ ?_); (focus (simp; done)); (focus ((try dsimp only); omega)); (focus ((try dsimp only); omega))) | fail)))
    · exact congrArg Prod.fst (kn_f ht).symm
    · exact congrArg Prod.snd (kn_f ht).symm
  · have h1 := h
    replace h1 := lim hsh h1
    have hi' : i = 2 ^ n := ge_dec h1 hi
    subst hi'
    exact .refl _
end Go.Proofs.Ythnfbkplkheliaa
set_option maxRecDepth 100000
set_option maxHeartbeats 4000000
namespace Go.Proofs.Ythnfbkplkheliaa
open Go Go.Dv

def fgP (s k : Nat) : Nat → Nat
  | 0 => s
  | i + 1 => bif s.testBit i then fgP s k i ||| 2 ^ (i ^^^ 2 ^ k) else fgP s k i
def fgR (s k : Nat) : Nat → Nat
  | 0 => 0
  | i + 1 => bif s.testBit i then (fgR s k i ||| 2 ^ i) ||| 2 ^ (i ^^^ 2 ^ k) else fgR s k i
theorem xx (a b : Nat) : (a ^^^ b) ^^^ b = a := by rw [Nat.xor_assoc, Nat.xor_self, Nat.xor_zero]
theorem xor_eq {a b c : Nat} : a ^^^ b = c ↔ a = c ^^^ b := ⟨fun h => by rw [← h, xx], fun h => by rw [h, xx]⟩
theorem fgP_bit (s k j : Nat) : ∀ m, (fgP s k m).testBit j = (s.testBit j || (decide (j ^^^ 2 ^ k < m) && s.testBit (j ^^^ 2 ^ k)))
  | 0 => by simp [fgP]
  | m + 1 => by
    rw [fgP]
    by_cases e : m ^^^ 2 ^ k = j
    · have e2 : j ^^^ 2 ^ k = m := (xor_eq.1 e).symm
      cases hm : s.testBit m with
      | true =>
        simp only [cond_true]
        rw [Nat.testBit_or, fgP_bit s k j m, Nat.testBit_two_pow, e2, hm]
        simp [e]
      | false =>
        simp only [cond_false]
        rw [fgP_bit s k j m, e2, hm]
        simp
    · have e2 : ¬ j ^^^ 2 ^ k = m := fun h => e (by rw [← h, xx])
      have e3 : decide (j ^^^ 2 ^ k < m + 1) = decide (j ^^^ 2 ^ k < m) := by
        by_cases h : j ^^^ 2 ^ k < m
        · simp [h, Nat.lt_succ_of_lt h]
        · have : ¬ j ^^^ 2 ^ k < m + 1 := by omega
          simp [h, this]
      cases hm : s.testBit m with
      | true =>
        simp only [cond_true]
        rw [Nat.testBit_or, fgP_bit s k j m, Nat.testBit_two_pow, e3]
        simp [e]
      | false =>
        simp only [cond_false]
        rw [fgP_bit s k j m, e3]
theorem fgR_bit (s k j : Nat) : ∀ m, (fgR s k m).testBit j = ((decide (j < m) && s.testBit j) || (decide (j ^^^ 2 ^ k < m) && s.testBit (j ^^^ 2 ^ k)))
  | 0 => by simp [fgR]
  | m + 1 => by
    rw [fgR]
    have e3 : ∀ a : Nat, ¬ a = m → decide (a < m + 1) = decide (a < m) := fun a ha => by
      by_cases h : a < m
      · simp [h, Nat.lt_succ_of_lt h]
      · have : ¬ a < m + 1 := by omega
        simp [h, this]
    cases hm : s.testBit m with
    | true =>
      simp only [cond_true]
      rw [Nat.testBit_or, Nat.testBit_or, fgR_bit s k j m, Nat.testBit_two_pow, Nat.testBit_two_pow]
      by_cases e1 : j = m
      · subst e1; simp [hm]
      · by_cases e : m ^^^ 2 ^ k = j
        · have e2 : j ^^^ 2 ^ k = m := (xor_eq.1 e).symm
          rw [e2, hm]; simp [e]
        · have e2 : ¬ j ^^^ 2 ^ k = m := fun h => e (by rw [← h, xx])
          have e4 : ¬ m = j := fun h => e1 h.symm
          rw [e3 j e1, e3 _ e2]
          simp [e, e4]
    | false =>
      simp only [cond_false]
      rw [fgR_bit s k j m]
      have f1 : (decide (j < m + 1) && s.testBit j) = (decide (j < m) && s.testBit j) := by
        by_cases e1 : j = m
        · subst e1; rw [hm]; simp
        · rw [e3 j e1]
      have f2 : (decide (j ^^^ 2 ^ k < m + 1) && s.testBit (j ^^^ 2 ^ k)) = (decide (j ^^^ 2 ^ k < m) && s.testBit (j ^^^ 2 ^ k)) := by
        by_cases e1 : j ^^^ 2 ^ k = m
        · rw [e1, hm]; simp
        · rw [e3 _ e1]
      rw [f1, f2]
def forgetN (s k n : Nat) : Nat := fgP s k (2 ^ n)
theorem xor_lt {j k n : Nat} (hj : j < 2 ^ n) (hk : k < n) : j ^^^ 2 ^ k < 2 ^ n := Nat.xor_lt_two_pow hj (Nat.pow_lt_pow_right (by decide) hk)
/-- A valuation is in the result if it, or its neighbour, is in the set. -/
theorem forget_bit {s k n : Nat} (hs : s < 2 ^ (2 ^ n)) (j : Nat) : (forgetN s k n).testBit j = (s.testBit j || s.testBit (j ^^^ 2 ^ k)) := by
  rw [forgetN, fgP_bit]
  by_cases h : j ^^^ 2 ^ k < 2 ^ n
  · simp [h]
  · have : s.testBit (j ^^^ 2 ^ k) = false := Nat.testBit_lt_two_pow (Nat.lt_of_lt_of_le hs (Nat.pow_le_pow_right (by decide) (by omega)))
    simp [h, this]
theorem bit_out {s m j : Nat} (hs : s < 2 ^ m) (h : ¬ j < m) : s.testBit j = false := Nat.testBit_lt_two_pow (Nat.lt_of_lt_of_le hs (Nat.pow_le_pow_right (by decide) (by omega)))
theorem fgR_eq {s k n : Nat} (hs : s < 2 ^ (2 ^ n)) : fgR s k (2 ^ n) = forgetN s k n := by
  apply Nat.eq_of_testBit_eq
  intro j
  rw [forget_bit hs, fgR_bit]
  have f1 : (decide (j < 2 ^ n) && s.testBit j) = s.testBit j := by
    by_cases h : j < 2 ^ n
    · simp [h]
    · simp [bit_out hs h]
  have f2 : (decide (j ^^^ 2 ^ k < 2 ^ n) && s.testBit (j ^^^ 2 ^ k)) = s.testBit (j ^^^ 2 ^ k) := by
    by_cases h : j ^^^ 2 ^ k < 2 ^ n
    · simp [h]
    · simp [bit_out hs h]
  rw [f1, f2]
theorem forget_lt {s k n : Nat} (hs : s < 2 ^ (2 ^ n)) (hk : k < n) : forgetN s k n < 2 ^ (2 ^ n) := by
  apply Nat.lt_pow_two_of_testBit
  intro i hi
  rw [forget_bit hs, bit_out hs (by omega)]
  have : ¬ i ^^^ 2 ^ k < 2 ^ n := by
    intro h
    have := xor_lt h hk
    rw [xx] at this; omega
  rw [bit_out hs this]; rfl
theorem fgP_lt {s k n : Nat} (hs : s < 2 ^ (2 ^ n)) (hk : k < n) {m : Nat} (hm : m ≤ 2 ^ n) : fgP s k m < 2 ^ (2 ^ n) := by
  apply Nat.lt_pow_two_of_testBit
  intro i hi
  rw [fgP_bit, bit_out hs (by omega)]
  have : ¬ i ^^^ 2 ^ k < m := by
    intro h
    have := xor_lt (show i ^^^ 2 ^ k < 2 ^ n by omega) hk
    rw [xx] at this; omega
  simp [this]
theorem fgR_lt {s k n : Nat} (hk : k < n) {m : Nat} (hm : m ≤ 2 ^ n) : fgR s k m < 2 ^ (2 ^ n) := by
  apply Nat.lt_pow_two_of_testBit
  intro i hi
  rw [fgR_bit]
  have h1 : ¬ i < m := by omega
  have : ¬ i ^^^ 2 ^ k < m := by
    intro h
    have := xor_lt (show i ^^^ 2 ^ k < 2 ^ n by omega) hk
    rw [xx] at this; omega
  simp [this, h1]
/-- The bit of a neighbour. -/
theorem nb_bit {i k n : Nat} (hn : n ≤ 4) (hi : i < 2 ^ n) (hk : k < n) : shlU 1 (xor64 (i : Int) (shl64 1 (k : Int))) = ((2 ^ (i ^^^ 2 ^ k) : Nat) : Int) := by
  have h16 := (vals_le hn).2
  have h1 := xor_lt hi hk
  have h2 : 2 ^ k < 2 ^ n := Nat.pow_lt_pow_right (by decide) hk
  rw [shl64_one (by omega) (by omega), Int.toNat_natCast, xor64_nat (by omega) (by omega), shlU_one (by omega)]
theorem nb_pos {i k n : Nat} (hn : n ≤ 4) (hi : i < 2 ^ n) (hk : k < n) : 0 ≤ xor64 (i : Int) (shl64 1 (k : Int)) := by
  have h16 := (vals_le hn).2
  have h2 : 2 ^ k < 2 ^ n := Nat.pow_lt_pow_right (by decide) hk
  rw [shl64_one (by omega) (by omega), Int.toNat_natCast, xor64_nat (by omega) (by omega)]
  exact Int.natCast_nonneg _
theorem pow_bd {n i : Nat} (hn : n ≤ 4) (hi : i < 2 ^ n) : 2 ^ i < 2 ^ 16 := Nat.pow_lt_pow_right (by decide) (by have := (vals_le hn).2; omega)
theorem bs_forget (s k n : Nat) (hn : n ≤ 4) (hk : k < n) (hs : s < 2 ^ (2 ^ n)) : PureFn Try.prog 59 [u64 s, .int .i64 (k : Int), .int .i64 (n : Int)] (u64 (forgetN s k n)) := by
  refine PureFn.intro mixed (fn := Try.f59) rfl rfl rfl fun M w0 => ?_
  have h16 := (vals_le hn).2
  have hs6 := sets_le hn
  have hsh := shl_n hn
  (try (conv => whnf)); repeat' (first | (apply And.intro <;> (try (conv => whnf))) | (intro h; first | (with_reducible exact tf0 h) | (with_reducible exact ft0 h) | (with_reducible exact nt0 h) | (with_reducible exact nf0 h) | (exact litz h rfl) | (with_reducible exact tf h (by with_reducible assumption)) | (with_reducible exact tf (by with_reducible assumption) h) | (try (conv => whnf))) | (with_reducible rfl) | (apply True.intro) | (apply infoT; rfl) | (apply bleI; rfl) | (apply fitI; rfl) | (apply cellsI; rfl) | (apply szI; rfl) | (apply guardI; kernel_rfl) | (apply WhenQ.mk; (try (conv => whnf)); rotate_left; (try (conv => whnf)); rotate_right) | (with_reducible assumption) | (apply not_of; with_reducible assumption) | (apply left_of; with_reducible assumption) | (apply left_of; apply left_of; with_reducible assumption) | (apply and_of <;> first | (with_reducible assumption) | (apply not_of; with_reducible assumption))| (refine lin_plan (by kernel_rfl) ?_; (try (conv => whnf))) | (refine ⟨_, _, rfl, idx_map (by with_reducible assumption), rfl, ?_⟩; (try (conv => whnf))) | (refine ⟨rfl, ?_⟩; (try (conv => whnf))) | (exact Nat.le_refl 1) | ((apply ex3); (focus (with_reducible assumption)); (focus (with_reducible assumption)); (try (conv => whnf))) | ((apply ex2); (focus (with_reducible assumption)); (try (conv => whnf))) | fail)
  · exact Int.natCast_nonneg _
  refine ⟨{ i : Nat // i ≤ 2 ^ n }, fun i => [(0, .pv (u64 s)), (1, .pv (i64 k)), (2, .pv (i64 n)), (7, .pv (u64 (fgP s k i.1))), (11, .pv (i64 (2 ^ n))), (12, .pv (i64 i.1))], fun _ => 0, fun _ => [], fun i => 2 ^ n - i.1, ⟨⟨0, Nat.zero_le _⟩, ?_⟩, ?_⟩
  · (refine Wk.of ?_ ?_ rfl rfl rfl <;> (repeat' (first | (exact trivial) | (exact WkD.same _) | (exact WkO.same _ _ rfl) | (exact WkD.any _) | (refine WkD.int ?_) | (exact WkD.new' rfl rfl rfl) | (exact WkO.new _ _ rfl) | (refine WkO.vars rfl ?_) | (with_reducible rfl) | (exact rfl) | (refine ⟨?_, ?_⟩) | ((refine wrapA ?_ ?_ ?_); (focus (simp; done)); (focus ((try dsimp only); omega)); (focus ((try dsimp only); omega))) | fail)))
    all_goals exact hsh
  rintro ⟨i, hi⟩
  have hfl := fgP_lt hs hk hi
  (try (conv => whnf)); repeat' (first | (apply And.intro <;> (try (conv => whnf))) | (intro h; first | (with_reducible exact tf0 h) | (with_reducible exact ft0 h) | (with_reducible exact nt0 h) | (with_reducible exact nf0 h) | (exact litz h rfl) | (with_reducible exact tf h (by with_reducible assumption)) | (with_reducible exact tf (by with_reducible assumption) h) | (try (conv => whnf))) | (with_reducible rfl) | (apply True.intro) | (apply infoT; rfl) | (apply bleI; rfl) | (apply fitI; rfl) | (apply cellsI; rfl) | (apply szI; rfl) | (apply guardI; kernel_rfl) | (apply WhenQ.mk; (try (conv => whnf)); rotate_left; (try (conv => whnf)); rotate_right) | (with_reducible assumption) | (apply not_of; with_reducible assumption) | (apply left_of; with_reducible assumption) | (apply left_of; apply left_of; with_reducible assumption) | (apply and_of <;> first | (with_reducible assumption) | (apply not_of; with_reducible assumption))| (refine lin_plan (by kernel_rfl) ?_; (try (conv => whnf))) | (refine ⟨_, _, rfl, idx_map (by with_reducible assumption), rfl, ?_⟩; (try (conv => whnf))) | (refine ⟨rfl, ?_⟩; (try (conv => whnf))) | (exact Nat.le_refl 1) | ((apply ex3); (focus (with_reducible assumption)); (focus (with_reducible assumption)); (try (conv => whnf))) | ((apply ex2); (focus (with_reducible assumption)); (try (conv => whnf))) | fail)
  · exact Int.natCast_nonneg _
  · exact Int.natCast_nonneg _
  · rename_i h1
    have hi' : i < 2 ^ n := lt_dec h1
    exact nb_pos hn hi' hk
  · rename_i h1
    have hi' : i < 2 ^ n := lt_dec h1
    have ht : s.testBit i = true := (bit_one (by omega) (by omega)).symm.trans h
    refine ⟨⟨i + 1, hi'⟩, by show 2 ^ n - (i + 1) < 2 ^ n - i; omega, ?_⟩
    (refine Wk.of ?_ ?_ rfl rfl rfl <;> (repeat' (first | (exact trivial) | (exact WkD.same _) | (exact WkO.same _ _ rfl) | (exact WkD.any _) | (refine WkD.int ?_) | (exact WkD.new' rfl rfl rfl) | (exact WkO.new _ _ rfl) | (refine WkO.vars rfl ?_) | (with_reducible rfl) | (exact rfl) | (refine ⟨?_, ?_⟩) | ((refine wrapA ?_ ?_ ?_); (focus (simp; done)); (focus ((try dsimp only); omega)); (focus ((try dsimp only); omega))) | fail)))
    show orU (fgP s k i) (shlU 1 (xor64 (i : Int) (shl64 1 (k : Int)))) = ((fgP s k (i + 1) : Nat) : Int)
    have hp := pow_bd hn (xor_lt hi' hk)
    rw [nb_bit hn hi' hk, orU_nat (by omega) (by omega), fgP, ht]; rfl
  · rename_i h1
    have hi' : i < 2 ^ n := lt_dec h1
    have ht : s.testBit i = false := (bit_one (by omega) (by omega)).symm.trans h
    refine ⟨⟨i + 1, hi'⟩, by show 2 ^ n - (i + 1) < 2 ^ n - i; omega, ?_⟩
    (refine Wk.of ?_ ?_ rfl rfl rfl <;> (repeat' (first | (exact trivial) | (exact WkD.same _) | (exact WkO.same _ _ rfl) | (exact WkD.any _) | (refine WkD.int ?_) | (exact WkD.new' rfl rfl rfl) | (exact WkO.new _ _ rfl) | (refine WkO.vars rfl ?_) | (with_reducible rfl) | (exact rfl) | (refine ⟨?_, ?_⟩) | ((refine wrapA ?_ ?_ ?_); (focus (simp; done)); (focus ((try dsimp only); omega)); (focus ((try dsimp only); omega))) | fail)))
    show ((fgP s k i : Nat) : Int) = ((fgP s k (i + 1) : Nat) : Int)
    rw [fgP, ht]; rfl
  · have hi' : i = 2 ^ n := ge_dec h hi
    subst hi'
    exact .refl _
def forgetI (s : Nat) (fact facts : Int) : Nat × Int := bif bchk s facts != 0 then (0, bchk s facts) else bif (bif decide (fact < 0) then true else decide (fact ≥ facts)) then (0, 6) else (forgetN s fact.toNat facts.toNat, 0)
theorem fgI1 {s : Nat} {fact facts : Int} (h : (bchk s facts != 0) = true) : forgetI s fact facts = (0, bchk s facts) := by rw [forgetI, h]; rfl
theorem fgI2 {s : Nat} {fact facts : Int} (h : (bchk s facts != 0) = false) (h2 : (bif decide (fact < 0) then true else decide (fact ≥ facts)) = true) : forgetI s fact facts = (0, 6) := by rw [forgetI, h, h2]; rfl
theorem fgI3 {s : Nat} {fact facts : Int} (h : (bchk s facts != 0) = false) (h2 : (bif decide (fact < 0) then true else decide (fact ≥ facts)) = false) :
    ∃ k n : Nat, fact = k ∧ facts = n ∧ k < n ∧ n ≤ 4 ∧ s < 2 ^ (2 ^ n) ∧ forgetI s fact facts = (forgetN s k n, 0) := by
  obtain ⟨n, rfl, hn, hs⟩ := bchk_ok (s := s) (facts := facts) (by simpa using h)
  have h3 := h2
  obtain ⟨h4, h5⟩ := or_ff' h3
  simp only [decide_eq_false_iff_not] at h4 h5
  refine ⟨fact.toNat, n, by omega, rfl, by omega, hn, hs, ?_⟩
  rw [forgetI, h, h2]; rfl
theorem bs_Forget (s : Nat) (fact facts : Int) (hs : s < 2 ^ 64) : PureFn Try.prog 27 [u64 s, .int .i64 fact, .int .i64 facts] (pairU (forgetI s fact facts)) := by
  refine PureFn.intro mixed (fn := Try.f27) rfl rfl rfl fun M w0 => ?_
  (try (conv => whnf)); repeat' (first | (apply And.intro <;> (try (conv => whnf))) | (intro h; first | (with_reducible exact tf0 h) | (with_reducible exact ft0 h) | (with_reducible exact nt0 h) | (with_reducible exact nf0 h) | (exact litz h rfl) | (with_reducible exact tf h (by with_reducible assumption)) | (with_reducible exact tf (by with_reducible assumption) h) | (try (conv => whnf))) | (with_reducible rfl) | (apply True.intro) | (apply infoT; rfl) | (apply bleI; rfl) | (apply fitI; rfl) | (apply cellsI; rfl) | (apply szI; rfl) | (apply guardI; kernel_rfl) | (apply WhenQ.mk; (try (conv => whnf)); rotate_left; (try (conv => whnf)); rotate_right) | (with_reducible assumption) | (apply not_of; with_reducible assumption) | (apply left_of; with_reducible assumption) | (apply left_of; apply left_of; with_reducible assumption) | (apply and_of <;> first | (with_reducible assumption) | (apply not_of; with_reducible assumption))| (refine lin_plan (by kernel_rfl) ?_; (try (conv => whnf))) | (refine ⟨_, _, rfl, idx_map (by with_reducible assumption), rfl, ?_⟩; (try (conv => whnf))) | (refine ⟨rfl, ?_⟩; (try (conv => whnf))) | (exact Nat.le_refl 1) | ((apply ex3); (focus (with_reducible assumption)); (focus (with_reducible assumption)); (try (conv => whnf))) | ((apply ex2); (focus (with_reducible assumption)); (try (conv => whnf))) | (refine PureFn.dcq (f := 17) rfl ?_; (try (conv => whnf))) | ((refine ⟨_, _, bs_Check ?_ ?_ ?_, ?_, ?_⟩); rotate_left 3; (focus (first | (refine ⟨?_, ?_, trivial⟩ <;> first | (exact PLe.refl _) | (exact PLe.nil)) | (exact trivial))); (try (conv => whnf))) | (refine ⟨_, (by (conv => whnf); exact bs_Check _ _ _), rfl, ?_⟩; (try (conv => whnf))) | fail)
  · rw [fgI1 h]; exact .refl _
  · rename_i h1
    rw [fgI2 h1 h]; exact .refl _
  · rename_i h1
    obtain ⟨k, n, rfl, rfl, hk, hn, hs2, e⟩ := fgI3 h1 h
    rw [e]
    have hF := bs_forget s k n hn hk hs2
    (try (conv => whnf)); repeat' (first | (apply And.intro <;> (try (conv => whnf))) | (intro h; first | (with_reducible exact tf0 h) | (with_reducible exact ft0 h) | (with_reducible exact nt0 h) | (with_reducible exact nf0 h) | (exact litz h rfl) | (with_reducible exact tf h (by with_reducible assumption)) | (with_reducible exact tf (by with_reducible assumption) h) | (try (conv => whnf))) | (with_reducible rfl) | (apply True.intro) | (apply infoT; rfl) | (apply bleI; rfl) | (apply fitI; rfl) | (apply cellsI; rfl) | (apply szI; rfl) | (apply guardI; kernel_rfl) | (apply WhenQ.mk; (try (conv => whnf)); rotate_left; (try (conv => whnf)); rotate_right) | (with_reducible assumption) | (apply not_of; with_reducible assumption) | (apply left_of; with_reducible assumption) | (apply left_of; apply left_of; with_reducible assumption) | (apply and_of <;> first | (with_reducible assumption) | (apply not_of; with_reducible assumption))| (refine lin_plan (by kernel_rfl) ?_; (try (conv => whnf))) | (refine ⟨_, _, rfl, idx_map (by with_reducible assumption), rfl, ?_⟩; (try (conv => whnf))) | (refine ⟨rfl, ?_⟩; (try (conv => whnf))) | (exact Nat.le_refl 1) | ((apply ex3); (focus (with_reducible assumption)); (focus (with_reducible assumption)); (try (conv => whnf))) | ((apply ex2); (focus (with_reducible assumption)); (try (conv => whnf))) | (refine PureFn.dcq (f := 59) rfl ?_; (try (conv => whnf))) | ((refine ⟨_, _, hF, ?_, ?_⟩); (focus (first | (refine ⟨?_, ?_, ?_, trivial⟩ <;> first | (exact PLe.refl _) | (exact PLe.nil)) | (exact trivial))); (try (conv => whnf))) | (refine ⟨_, (by (conv => whnf); exact hF), rfl, ?_⟩; (try (conv => whnf))) | fail)
    exact .refl _
theorem rb_Forget (s : Nat) (fact facts : Int) (hs : s < 2 ^ 64) : PureFn Try.prog 28 [u64 s, .int .i64 fact, .int .i64 facts] (pairU (forgetI s fact facts)) := by
  refine PureFn.intro mixed (fn := Try.f28) rfl rfl rfl fun M w0 => ?_
  (try (conv => whnf)); repeat' (first | (apply And.intro <;> (try (conv => whnf))) | (intro h; first | (with_reducible exact tf0 h) | (with_reducible exact ft0 h) | (with_reducible exact nt0 h) | (with_reducible exact nf0 h) | (exact litz h rfl) | (with_reducible exact tf h (by with_reducible assumption)) | (with_reducible exact tf (by with_reducible assumption) h) | (try (conv => whnf))) | (with_reducible rfl) | (apply True.intro) | (apply infoT; rfl) | (apply bleI; rfl) | (apply fitI; rfl) | (apply cellsI; rfl) | (apply szI; rfl) | (apply guardI; kernel_rfl) | (apply WhenQ.mk; (try (conv => whnf)); rotate_left; (try (conv => whnf)); rotate_right) | (with_reducible assumption) | (apply not_of; with_reducible assumption) | (apply left_of; with_reducible assumption) | (apply left_of; apply left_of; with_reducible assumption) | (apply and_of <;> first | (with_reducible assumption) | (apply not_of; with_reducible assumption))| (refine lin_plan (by kernel_rfl) ?_; (try (conv => whnf))) | (refine ⟨_, _, rfl, idx_map (by with_reducible assumption), rfl, ?_⟩; (try (conv => whnf))) | (refine ⟨rfl, ?_⟩; (try (conv => whnf))) | (exact Nat.le_refl 1) | ((apply ex3); (focus (with_reducible assumption)); (focus (with_reducible assumption)); (try (conv => whnf))) | ((apply ex2); (focus (with_reducible assumption)); (try (conv => whnf))) | (refine PureFn.dcq (f := 18) rfl ?_; (try (conv => whnf))) | ((refine ⟨_, _, rb_Check ?_ ?_ ?_, ?_, ?_⟩); rotate_left 3; (focus (first | (refine ⟨?_, ?_, trivial⟩ <;> first | (exact PLe.refl _) | (exact PLe.nil)) | (exact trivial))); (try (conv => whnf))) | (refine ⟨_, (by (conv => whnf); exact rb_Check _ _ _), rfl, ?_⟩; (try (conv => whnf))) | fail)
  · rw [fgI1 h]; exact .refl _
  · rename_i h1
    rw [fgI2 h1 h]; exact .refl _
  · rename_i h1
    obtain ⟨k, n, rfl, rfl, hk, hn, hs2, e⟩ := fgI3 h1 h
    rw [e]
    have h16 := (vals_le hn).2
    have hs6 := sets_le hn
    have hsh := shl_n hn
    refine ⟨{ i : Nat // i ≤ 2 ^ n }, fun i => [(0, .pv (u64 s)), (1, .pv (i64 k)), (2, .pv (i64 n)), (9, .pv (u64 (fgR s k i.1))), (10, .pv (i64 i.1))], fun _ => 0, fun _ => [], fun i => 2 ^ n - i.1, ⟨⟨0, Nat.zero_le _⟩, (by refine Wk.of ?_ ?_ rfl rfl rfl <;> (repeat' (first | (exact trivial) | (exact WkD.same _) | (exact WkO.same _ _ rfl) | (exact WkD.any _) | (refine WkD.int ?_) | (exact WkD.new' rfl rfl rfl) | (exact WkO.new _ _ rfl) | (refine WkO.vars rfl ?_) | (with_reducible rfl) | (exact rfl) | (refine ⟨?_, ?_⟩) | ((refine wrapA ?_ ?_ ?_); (focus (simp; done)); (focus ((try dsimp only); omega)); (focus ((try dsimp only); omega))) | fail)))⟩, ?_⟩
    rintro ⟨i, hi⟩
    have hfl := fgR_lt (s := s) hk hi
    have hH := rb_Has s i (by omega)
    (try (conv => whnf)); repeat' (first | (apply And.intro <;> (try (conv => whnf))) | (intro h; first | (with_reducible exact tf0 h) | (with_reducible exact ft0 h) | (with_reducible exact nt0 h) | (with_reducible exact nf0 h) | (exact litz h rfl) | (with_reducible exact tf h (by with_reducible assumption)) | (with_reducible exact tf (by with_reducible assumption) h) | (try (conv => whnf))) | (with_reducible rfl) | (apply True.intro) | (apply infoT; rfl) | (apply bleI; rfl) | (apply fitI; rfl) | (apply cellsI; rfl) | (apply szI; rfl) | (apply guardI; kernel_rfl) | (apply WhenQ.mk; (try (conv => whnf)); rotate_left; (try (conv => whnf)); rotate_right) | (with_reducible assumption) | (apply not_of; with_reducible assumption) | (apply left_of; with_reducible assumption) | (apply left_of; apply left_of; with_reducible assumption) | (apply and_of <;> first | (with_reducible assumption) | (apply not_of; with_reducible assumption))| (refine lin_plan (by kernel_rfl) ?_; (try (conv => whnf))) | (refine ⟨_, _, rfl, idx_map (by with_reducible assumption), rfl, ?_⟩; (try (conv => whnf))) | (refine ⟨rfl, ?_⟩; (try (conv => whnf))) | (exact Nat.le_refl 1) | ((apply ex3); (focus (with_reducible assumption)); (focus (with_reducible assumption)); (try (conv => whnf))) | ((apply ex2); (focus (with_reducible assumption)); (try (conv => whnf))) | (refine PureFn.dcq (f := 49) rfl ?_; (try (conv => whnf))) | ((refine ⟨_, _, hH, ?_, ?_⟩); (focus (first | (refine ⟨?_, ?_, trivial⟩ <;> first | (exact PLe.refl _) | (exact PLe.nil)) | (exact trivial))); (try (conv => whnf))) | (refine ⟨_, (by (conv => whnf); exact hH), rfl, ?_⟩; (try (conv => whnf))) | fail)
    · exact Int.natCast_nonneg _
    · exact Int.natCast_nonneg _
    · exact Int.natCast_nonneg _
    · rename_i h1
      have hi' : i < 2 ^ n := lt_dec (lim hsh h1)
      exact nb_pos hn hi' hk
    · rename_i h1
      have hi' : i < 2 ^ n := lt_dec (lim hsh h1)
      have ht : s.testBit i = true := h
      refine ⟨⟨i + 1, hi'⟩, by show 2 ^ n - (i + 1) < 2 ^ n - i; omega, ?_⟩
      (refine Wk.of ?_ ?_ rfl rfl rfl <;> (repeat' (first | (exact trivial) | (exact WkD.same _) | (exact WkO.same _ _ rfl) | (exact WkD.any _) | (refine WkD.int ?_) | (exact WkD.new' rfl rfl rfl) | (exact WkO.new _ _ rfl) | (refine WkO.vars rfl ?_) | (with_reducible rfl) | (exact rfl) | (refine ⟨?_, ?_⟩) | ((refine wrapA ?_ ?_ ?_); (focus (simp; done)); (focus ((try dsimp only); omega)); (focus ((try dsimp only); omega))) | fail)))
      show orU (orU (fgR s k i) (shlU 1 i)) (shlU 1 (xor64 (i : Int) (shl64 1 (k : Int)))) = ((fgR s k (i + 1) : Nat) : Int)
      have hp := pow_bd hn (xor_lt hi' hk)
      have hq := pow_bd hn hi'
      have ho : fgR s k i ||| 2 ^ i < 2 ^ 17 := Nat.or_lt_two_pow (by omega) (by omega)
      rw [nb_bit hn hi' hk, shlU_one (by omega), orU_nat (by omega) (by omega), orU_nat (by omega) (by omega), fgR, ht]; rfl
    · rename_i h1
      have hi' : i < 2 ^ n := lt_dec (lim hsh h1)
      have ht : s.testBit i = false := h
      refine ⟨⟨i + 1, hi'⟩, by show 2 ^ n - (i + 1) < 2 ^ n - i; omega, ?_⟩
      (refine Wk.of ?_ ?_ rfl rfl rfl <;> (repeat' (first | (exact trivial) | (exact WkD.same _) | (exact WkO.same _ _ rfl) | (exact WkD.any _) | (refine WkD.int ?_) | (exact WkD.new' rfl rfl rfl) | (exact WkO.new _ _ rfl) | (refine WkO.vars rfl ?_) | (with_reducible rfl) | (exact rfl) | (refine ⟨?_, ?_⟩) | ((refine wrapA ?_ ?_ ?_); (focus (simp; done)); (focus ((try dsimp only); omega)); (focus ((try dsimp only); omega))) | fail)))
      show ((fgR s k i : Nat) : Int) = ((fgR s k (i + 1) : Nat) : Int)
      rw [fgR, ht]; rfl
    · have hi' : i = 2 ^ n := ge_dec (lim hsh h) hi
      subst hi'
      rw [← fgR_eq hs2]
      exact .refl _
/-- The facts on which a set depends. -/
def depq (s n : Nat) (i : Nat) : Bool := ((forgetN s i n : Nat) : Int) != (s : Int)
def dependsI (s : Nat) (facts : Int) : Int × Int := bif bchk s facts != 0 then (0, bchk s facts) else (((maskOf (depq s facts.toNat) facts.toNat : Nat) : Int), 0)
def pairI (x : Int × Int) : PV := .tup [.int .i64 x.1, .int .i64 x.2]
theorem dpI1 {s : Nat} {facts : Int} (h : (bchk s facts != 0) = true) : dependsI s facts = (0, bchk s facts) := by rw [dependsI, h]; rfl
theorem dpI2 {s : Nat} {facts : Int} (h : (bchk s facts != 0) = false) : dependsI s facts = (((maskOf (depq s facts.toNat) facts.toNat : Nat) : Int), 0) := by rw [dependsI, h]; rfl
theorem mask_step64 {q : Nat → Bool} {i : Nat} (hi : i < 4) (h : q i = true) : or64 (maskOf q i) (shl64 1 i) = ((maskOf q (i + 1) : Nat) : Int) := by
  have h1 := maskOf_lt q i
  have h2 : 2 ^ i < 2 ^ 4 := Nat.pow_lt_pow_right (by decide) hi
  rw [shl64_one (by omega) (by omega), Int.toNat_natCast, or64_nat (by omega) (by omega), maskOf, h]; rfl
theorem forgetI_of {s k n : Nat} (hn : n ≤ 4) (hk : k < n) (hs : s < 2 ^ (2 ^ n)) : forgetI s k n = (forgetN s k n, 0) := by
  have e1 : decide ((k : Int) < 0) = false := by simp
  have e2 : decide ((k : Int) ≥ (n : Int)) = false := decide_eq_false (by omega)
  rw [forgetI, bchk_of hn hs, e1, e2]; rfl
theorem bs_Depends (s : Nat) (facts : Int) (hs : s < 2 ^ 64) : PureFn Try.prog 29 [u64 s, .int .i64 facts] (pairI (dependsI s facts)) := by
  refine PureFn.intro mixed (fn := Try.f29) rfl rfl rfl fun M w0 => ?_
  (try (conv => whnf)); repeat' (first | (apply And.intro <;> (try (conv => whnf))) | (intro h; first | (with_reducible exact tf0 h) | (with_reducible exact ft0 h) | (with_reducible exact nt0 h) | (with_reducible exact nf0 h) | (exact litz h rfl) | (with_reducible exact tf h (by with_reducible assumption)) | (with_reducible exact tf (by with_reducible assumption) h) | (try (conv => whnf))) | (with_reducible rfl) | (apply True.intro) | (apply infoT; rfl) | (apply bleI; rfl) | (apply fitI; rfl) | (apply cellsI; rfl) | (apply szI; rfl) | (apply guardI; kernel_rfl) | (apply WhenQ.mk; (try (conv => whnf)); rotate_left; (try (conv => whnf)); rotate_right) | (with_reducible assumption) | (apply not_of; with_reducible assumption) | (apply left_of; with_reducible assumption) | (apply left_of; apply left_of; with_reducible assumption) | (apply and_of <;> first | (with_reducible assumption) | (apply not_of; with_reducible assumption))| (refine lin_plan (by kernel_rfl) ?_; (try (conv => whnf))) | (refine ⟨_, _, rfl, idx_map (by with_reducible assumption), rfl, ?_⟩; (try (conv => whnf))) | (refine ⟨rfl, ?_⟩; (try (conv => whnf))) | (exact Nat.le_refl 1) | ((apply ex3); (focus (with_reducible assumption)); (focus (with_reducible assumption)); (try (conv => whnf))) | ((apply ex2); (focus (with_reducible assumption)); (try (conv => whnf))) | (refine PureFn.dcq (f := 17) rfl ?_; (try (conv => whnf))) | ((refine ⟨_, _, bs_Check ?_ ?_ ?_, ?_, ?_⟩); rotate_left 3; (focus (first | (refine ⟨?_, ?_, trivial⟩ <;> first | (exact PLe.refl _) | (exact PLe.nil)) | (exact trivial))); (try (conv => whnf))) | (refine ⟨_, (by (conv => whnf); exact bs_Check _ _ _), rfl, ?_⟩; (try (conv => whnf))) | fail)
  · rw [dpI1 h]; exact .refl _
  rw [dpI2 h]
  obtain ⟨n, rfl, hn, hs2⟩ := bchk_ok (s := s) (facts := facts) (by simpa using h)
  rw [Int.toNat_natCast]
  refine ⟨{ i : Nat // i ≤ n }, fun i => [(0, .pv (u64 s)), (1, .pv (i64 n)), (7, .pv (.int .i64 (maskOf (depq s n) i.1 : Nat))), (15, .pv (i64 n)), (16, .pv (i64 i.1))], fun _ => 0, fun _ => [], fun i => n - i.1, ⟨⟨0, Nat.zero_le _⟩, (by refine Wk.of ?_ ?_ rfl rfl rfl <;> (repeat' (first | (exact trivial) | (exact WkD.same _) | (exact WkO.same _ _ rfl) | (exact WkD.any _) | (refine WkD.int ?_) | (exact WkD.new' rfl rfl rfl) | (exact WkO.new _ _ rfl) | (refine WkO.vars rfl ?_) | (with_reducible rfl) | (exact rfl) | (refine ⟨?_, ?_⟩) | ((refine wrapA ?_ ?_ ?_); (focus (simp; done)); (focus ((try dsimp only); omega)); (focus ((try dsimp only); omega))) | fail)))⟩, ?_⟩
  rintro ⟨i, hi⟩
  have hF : i < n → PureFn Try.prog 59 [u64 s, .int .i64 (i : Int), .int .i64 (n : Int)] (u64 (forgetN s i n)) := fun hi' => bs_forget s i n hn hi' hs2
  (try (conv => whnf)); repeat' (first | (apply And.intro <;> (try (conv => whnf))) | (intro h; first | (with_reducible exact tf0 h) | (with_reducible exact ft0 h) | (with_reducible exact nt0 h) | (with_reducible exact nf0 h) | (exact litz h rfl) | (with_reducible exact tf h (by with_reducible assumption)) | (with_reducible exact tf (by with_reducible assumption) h) | (try (conv => whnf))) | (with_reducible rfl) | (apply True.intro) | (apply infoT; rfl) | (apply bleI; rfl) | (apply fitI; rfl) | (apply cellsI; rfl) | (apply szI; rfl) | (apply guardI; kernel_rfl) | (apply WhenQ.mk; (try (conv => whnf)); rotate_left; (try (conv => whnf)); rotate_right) | (with_reducible assumption) | (apply not_of; with_reducible assumption) | (apply left_of; with_reducible assumption) | (apply left_of; apply left_of; with_reducible assumption) | (apply and_of <;> first | (with_reducible assumption) | (apply not_of; with_reducible assumption))| (refine lin_plan (by kernel_rfl) ?_; (try (conv => whnf))) | (refine ⟨_, _, rfl, idx_map (by with_reducible assumption), rfl, ?_⟩; (try (conv => whnf))) | (refine ⟨rfl, ?_⟩; (try (conv => whnf))) | (exact Nat.le_refl 1) | ((apply ex3); (focus (with_reducible assumption)); (focus (with_reducible assumption)); (try (conv => whnf))) | ((apply ex2); (focus (with_reducible assumption)); (try (conv => whnf))) | (refine PureFn.dcq (f := 59) rfl ?_; (try (conv => whnf))) | ((refine ⟨_, _, hF ?_, ?_, ?_⟩); rotate_left 1; (focus (first | (refine ⟨?_, ?_, ?_, trivial⟩ <;> first | (exact PLe.refl _) | (exact PLe.nil)) | (exact trivial))); (try (conv => whnf))) | (refine ⟨_, (by (conv => whnf); exact hF _), rfl, ?_⟩; (try (conv => whnf))) | fail)
  any_goals exact lt_dec (by assumption)
  · exact Int.natCast_nonneg _
  · rename_i h1
    have hi' : i < n := lt_dec h1
    refine ⟨⟨i + 1, hi'⟩, by show n - (i + 1) < n - i; omega, ?_⟩
    (refine Wk.of ?_ ?_ rfl rfl rfl <;> (repeat' (first | (exact trivial) | (exact WkD.same _) | (exact WkO.same _ _ rfl) | (exact WkD.any _) | (refine WkD.int ?_) | (exact WkD.new' rfl rfl rfl) | (exact WkO.new _ _ rfl) | (refine WkO.vars rfl ?_) | (with_reducible rfl) | (exact rfl) | (refine ⟨?_, ?_⟩) | ((refine wrapA ?_ ?_ ?_); (focus (simp; done)); (focus ((try dsimp only); omega)); (focus ((try dsimp only); omega))) | fail)))
    exact mask_step64 (i := i) (by omega) h
  · rename_i h1
    have hi' : i < n := lt_dec h1
    refine ⟨⟨i + 1, hi'⟩, by show n - (i + 1) < n - i; omega, ?_⟩
    (refine Wk.of ?_ ?_ rfl rfl rfl <;> (repeat' (first | (exact trivial) | (exact WkD.same _) | (exact WkO.same _ _ rfl) | (exact WkD.any _) | (refine WkD.int ?_) | (exact WkD.new' rfl rfl rfl) | (exact WkO.new _ _ rfl) | (refine WkO.vars rfl ?_) | (with_reducible rfl) | (exact rfl) | (refine ⟨?_, ?_⟩) | ((refine wrapA ?_ ?_ ?_); (focus (simp; done)); (focus ((try dsimp only); omega)); (focus ((try dsimp only); omega))) | fail)))
    exact mask_skip (q := depq s n) (i := i) h
  · have hi' : i = n := ge_dec h hi
    subst hi'
    exact .refl _
theorem rb_Depends (s : Nat) (facts : Int) (hs : s < 2 ^ 64) : PureFn Try.prog 30 [u64 s, .int .i64 facts] (pairI (dependsI s facts)) := by
  refine PureFn.intro mixed (fn := Try.f30) rfl rfl rfl fun M w0 => ?_
  (try (conv => whnf)); repeat' (first | (apply And.intro <;> (try (conv => whnf))) | (intro h; first | (with_reducible exact tf0 h) | (with_reducible exact ft0 h) | (with_reducible exact nt0 h) | (with_reducible exact nf0 h) | (exact litz h rfl) | (with_reducible exact tf h (by with_reducible assumption)) | (with_reducible exact tf (by with_reducible assumption) h) | (try (conv => whnf))) | (with_reducible rfl) | (apply True.intro) | (apply infoT; rfl) | (apply bleI; rfl) | (apply fitI; rfl) | (apply cellsI; rfl) | (apply szI; rfl) | (apply guardI; kernel_rfl) | (apply WhenQ.mk; (try (conv => whnf)); rotate_left; (try (conv => whnf)); rotate_right) | (with_reducible assumption) | (apply not_of; with_reducible assumption) | (apply left_of; with_reducible assumption) | (apply left_of; apply left_of; with_reducible assumption) | (apply and_of <;> first | (with_reducible assumption) | (apply not_of; with_reducible assumption))| (refine lin_plan (by kernel_rfl) ?_; (try (conv => whnf))) | (refine ⟨_, _, rfl, idx_map (by with_reducible assumption), rfl, ?_⟩; (try (conv => whnf))) | (refine ⟨rfl, ?_⟩; (try (conv => whnf))) | (exact Nat.le_refl 1) | ((apply ex3); (focus (with_reducible assumption)); (focus (with_reducible assumption)); (try (conv => whnf))) | ((apply ex2); (focus (with_reducible assumption)); (try (conv => whnf))) | (refine PureFn.dcq (f := 18) rfl ?_; (try (conv => whnf))) | ((refine ⟨_, _, rb_Check ?_ ?_ ?_, ?_, ?_⟩); rotate_left 3; (focus (first | (refine ⟨?_, ?_, trivial⟩ <;> first | (exact PLe.refl _) | (exact PLe.nil)) | (exact trivial))); (try (conv => whnf))) | (refine ⟨_, (by (conv => whnf); exact rb_Check _ _ _), rfl, ?_⟩; (try (conv => whnf))) | fail)
  · rw [dpI1 h]; exact .refl _
  rw [dpI2 h]
  obtain ⟨n, rfl, hn, hs2⟩ := bchk_ok (s := s) (facts := facts) (by simpa using h)
  rw [Int.toNat_natCast]
  refine ⟨{ i : Nat // i ≤ n }, fun i => [(0, .pv (u64 s)), (1, .pv (i64 n)), (7, .pv (.int .i64 (maskOf (depq s n) i.1 : Nat))), (8, .pv (i64 i.1))], fun _ => 0, fun _ => [], fun i => n - i.1, ⟨⟨0, Nat.zero_le _⟩, (by refine Wk.of ?_ ?_ rfl rfl rfl <;> (repeat' (first | (exact trivial) | (exact WkD.same _) | (exact WkO.same _ _ rfl) | (exact WkD.any _) | (refine WkD.int ?_) | (exact WkD.new' rfl rfl rfl) | (exact WkO.new _ _ rfl) | (refine WkO.vars rfl ?_) | (with_reducible rfl) | (exact rfl) | (refine ⟨?_, ?_⟩) | ((refine wrapA ?_ ?_ ?_); (focus (simp; done)); (focus ((try dsimp only); omega)); (focus ((try dsimp only); omega))) | fail)))⟩, ?_⟩
  rintro ⟨i, hi⟩
  have hF : i < n → PureFn Try.prog 28 [u64 s, .int .i64 (i : Int), .int .i64 (n : Int)] (pairU (forgetN s i n, 0)) := fun hi' => (forgetI_of hn hi' hs2) ▸ rb_Forget s i n hs
  (try (conv => whnf)); repeat' (first | (apply And.intro <;> (try (conv => whnf))) | (intro h; first | (with_reducible exact tf0 h) | (with_reducible exact ft0 h) | (with_reducible exact nt0 h) | (with_reducible exact nf0 h) | (exact litz h rfl) | (with_reducible exact tf h (by with_reducible assumption)) | (with_reducible exact tf (by with_reducible assumption) h) | (try (conv => whnf))) | (with_reducible rfl) | (apply True.intro) | (apply infoT; rfl) | (apply bleI; rfl) | (apply fitI; rfl) | (apply cellsI; rfl) | (apply szI; rfl) | (apply guardI; kernel_rfl) | (apply WhenQ.mk; (try (conv => whnf)); rotate_left; (try (conv => whnf)); rotate_right) | (with_reducible assumption) | (apply not_of; with_reducible assumption) | (apply left_of; with_reducible assumption) | (apply left_of; apply left_of; with_reducible assumption) | (apply and_of <;> first | (with_reducible assumption) | (apply not_of; with_reducible assumption))| (refine lin_plan (by kernel_rfl) ?_; (try (conv => whnf))) | (refine ⟨_, _, rfl, idx_map (by with_reducible assumption), rfl, ?_⟩; (try (conv => whnf))) | (refine ⟨rfl, ?_⟩; (try (conv => whnf))) | (exact Nat.le_refl 1) | ((apply ex3); (focus (with_reducible assumption)); (focus (with_reducible assumption)); (try (conv => whnf))) | ((apply ex2); (focus (with_reducible assumption)); (try (conv => whnf))) | (refine PureFn.dcq (f := 28) rfl ?_; (try (conv => whnf))) | ((refine ⟨_, _, hF ?_, ?_, ?_⟩); rotate_left 1; (focus (first | (refine ⟨?_, ?_, ?_, trivial⟩ <;> first | (exact PLe.refl _) | (exact PLe.nil)) | (exact trivial))); (try (conv => whnf))) | (refine ⟨_, (by (conv => whnf); exact hF _), rfl, ?_⟩; (try (conv => whnf))) | fail)
  any_goals exact lt_dec (by assumption)
  · exact Int.natCast_nonneg _
  · rename_i h1
    have hi' : i < n := lt_dec h1
    refine ⟨⟨i + 1, hi'⟩, by show n - (i + 1) < n - i; omega, ?_⟩
    (refine Wk.of ?_ ?_ rfl rfl rfl <;> (repeat' (first | (exact trivial) | (exact WkD.same _) | (exact WkO.same _ _ rfl) | (exact WkD.any _) | (refine WkD.int ?_) | (exact WkD.new' rfl rfl rfl) | (exact WkO.new _ _ rfl) | (refine WkO.vars rfl ?_) | (with_reducible rfl) | (exact rfl) | (refine ⟨?_, ?_⟩) | ((refine wrapA ?_ ?_ ?_); (focus (simp; done)); (focus ((try dsimp only); omega)); (focus ((try dsimp only); omega))) | fail)))
    exact mask_step64 (i := i) (by omega) h
  · rename_i h1
    have hi' : i < n := lt_dec h1
    refine ⟨⟨i + 1, hi'⟩, by show n - (i + 1) < n - i; omega, ?_⟩
    (refine Wk.of ?_ ?_ rfl rfl rfl <;> (repeat' (first | (exact trivial) | (exact WkD.same _) | (exact WkO.same _ _ rfl) | (exact WkD.any _) | (refine WkD.int ?_) | (exact WkD.new' rfl rfl rfl) | (exact WkO.new _ _ rfl) | (refine WkO.vars rfl ?_) | (with_reducible rfl) | (exact rfl) | (refine ⟨?_, ?_⟩) | ((refine wrapA ?_ ?_ ?_); (focus (simp; done)); (focus ((try dsimp only); omega)); (focus ((try dsimp only); omega))) | fail)))
    exact mask_skip (q := depq s n) (i := i) h
  · have hi' : i = n := ge_dec h hi
    subst hi'
    exact .refl _
end Go.Proofs.Ythnfbkplkheliaa
