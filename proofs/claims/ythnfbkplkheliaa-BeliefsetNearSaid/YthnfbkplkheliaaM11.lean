/- Parts of the proof, one after the other: Belief sets: the laws about the closest valuations and about forgetting, walked. The layer Dv, part 22: what a law is given, as pure values; a law's row out of its contract. The law FormulaChecks: whatever the list of nodes and the two numbers, the law returns true. Formulas: the arguments of the laws as pure values. Belief sets: numbers and arrays as arguments of the laws. -/
import Derived.ProofKit
import Derived.OpenShut
import Derived.Test.YthnfbkplkheliaaRows
import Derived.Test.YthnfbkplkheliaaM10
set_option maxRecDepth 100000
set_option maxHeartbeats 4000000
namespace Go.Proofs.Ythnfbkplkheliaa
open Go Go.Dv

theorem low16 {s : Nat} (hs : s < 2 ^ 64) : andU s 65535 = ((s &&& 65535 : Nat) : Int) := andU_nat (b := 65535) hs (by decide)
theorem low_lt (s : Nat) : s &&& 65535 < 2 ^ (2 ^ 4) := Nat.lt_of_le_of_lt Nat.and_le_right (by decide)
theorem andNotU_sub {a b : Nat} (h : ∀ j, a.testBit j = true → b.testBit j = true) : andNotU a b = 0 := by
  have h2 : (BitVec.ofInt 64 (a : Int) &&& ~~~BitVec.ofInt 64 (b : Int)) = 0 := by
    rw [ofInt_nat, ofInt_nat]
    apply BitVec.eq_of_getLsbD_eq
    intro i hi
    rw [BitVec.getLsbD_and, BitVec.getLsbD_not, BitVec.getLsbD_ofNat, BitVec.getLsbD_ofNat]
    cases ha : a.testBit i with
    | false => simp
    | true => simp [h i ha]
  unfold andNotU
  show IntKind.wrap .u64 ((BitVec.ofInt 64 (a : Int) &&& ~~~BitVec.ofInt 64 (b : Int)).toNat : Int) = _
  rw [h2]; rfl
theorem andU_zero {a b : Nat} (ha : a < 2 ^ 64) (hb : b < 2 ^ 64) : (andU a b != 0) = decide (a &&& b ≠ 0) := by
  rw [andU_nat ha hb, Bool.eq_iff_iff, bne_iff_ne, decide_eq_true_iff]; omega
theorem near_ok {a b : Nat} (ha : a < 2 ^ (2 ^ 4)) (hb : b < 2 ^ (2 ^ 4)) :
    (bif bif bif bif ((0 : Int) != 0) then true else andNotU (cl4 a b) a != 0 then true else (((cl4 a b : Nat) : Int) == 0) != ((a : Int) == 0) then true else bif andU a b != 0 then ((cl4 a b : Nat) : Int) != andU a b else false then true else bif (b : Int) == 0 then ((cl4 a b : Nat) : Int) != (a : Int) else false) = false := by
  have hc := cl4_lt ha hb
  have e1 : andNotU (cl4 a b) a = 0 := andNotU_sub fun j hj => cl4_sub ha hb hj
  have e2 : ((((cl4 a b : Nat) : Int) == 0) != ((a : Int) == 0)) = false := by
    have := cl4_none ha hb
    by_cases h : a = 0
    · rw [this.2 h, h]; rfl
    · have h2 : cl4 a b ≠ 0 := fun e => h (this.1 e)
      have e3 : (((cl4 a b : Nat) : Int) == 0) = false := by simpa using h2
      have e4 : ((a : Int) == 0) = false := by simpa using h
      rw [e3, e4]; rfl
  have e3 : (bif andU a b != 0 then ((cl4 a b : Nat) : Int) != andU a b else false) = false := by
    rw [andU_zero (by omega) (by omega)]
    by_cases h : a &&& b ≠ 0
    · rw [andU_nat (by omega) (by omega), cl4_common ha hb h]; simp
    · rw [decide_eq_false h]; rfl
  have e4 : (bif (b : Int) == 0 then ((cl4 a b : Nat) : Int) != (a : Int) else false) = false := by
    by_cases h : b = 0
    · subst h; rw [cl4_zero ha]; simp
    · have : ((b : Int) == 0) = false := by simpa using h
      rw [this]; rfl
  rw [e1, e2, e3, e4]; rfl
theorem bnear_pure (s r : Nat) (hs : s < 2 ^ 64) (hr : r < 2 ^ 64) : PureFn Try.prog 9 [u64 s, u64 r] (.bool true) := by
  refine PureFn.introC [4, 5, 7, 14] mixed (fn := Try.f9) rfl rfl rfl fun M w0 => ?_
  obtain ⟨a, qa⟩ : ∃ n, n = s &&& 65535 := ⟨_, rfl⟩
  obtain ⟨b, qb⟩ : ∃ n, n = r &&& 65535 := ⟨_, rfl⟩
  have ha : a < 2 ^ (2 ^ 4) := by rw [qa]; exact low_lt s
  have hb : b < 2 ^ (2 ^ 4) := by rw [qb]; exact low_lt r
  have h1 := bs_Closest a b 4 (by omega) (by omega)
  rw [cl4_is ha hb] at h1
  have hc := cl4_lt ha hb
  have hok := near_ok ha hb
  have hle : ∀ u v, u < 16 → b ≠ 0 → (cl4 a b).testBit v = true → a.testBit u = true → _ := fun u v hu b0 hv hau => cl4_least ha hb b0 hu hv hau
  generalize cl4 a b = c at h1 hc hok hle
  have hB : ∀ v : Nat, v < 16 → b ≠ 0 → PureFn Try.prog 23 [.int .u64 (shlU 1 (v : Int)), u64 b, .int .i64 4] (.int .i64 (near v b 4 : Nat)) := fun v hv b0 => by
    obtain ⟨v1, v2⟩ := pow_16 hv
    have hx := btwI_of (n := 4) (by decide) v1 hb v2 b0
    rw [btw_one hv] at hx
    have := bs_Between (2 ^ v) b 4 (by omega) (by omega)
    rw [show btwI (2 ^ v) b 4 = _ from hx] at this
    rw [shlU_one (by omega)]
    exact this
  (try (conv => whnf)); repeat' (first | (apply And.intro <;> (try (conv => whnf))) | (intro h; first | (with_reducible exact tf0 h) | (with_reducible exact ft0 h) | (with_reducible exact nt0 h) | (with_reducible exact nf0 h) | (exact litz h rfl) | (with_reducible exact tf h (by with_reducible assumption)) | (with_reducible exact tf (by with_reducible assumption) h) | (try (conv => whnf))) | (with_reducible rfl) | (apply True.intro) | (apply infoT; rfl) | (apply bleI; rfl) | (apply fitI; rfl) | (apply cellsI; rfl) | (apply szI; rfl) | (apply guardI; kernel_rfl) | (apply WhenQ.mk; (try (conv => whnf)); rotate_left; (try (conv => whnf)); rotate_right) | (with_reducible assumption) | (apply not_of; with_reducible assumption) | (apply left_of; with_reducible assumption) | (apply left_of; apply left_of; with_reducible assumption) | (apply and_of <;> first | (with_reducible assumption) | (apply not_of; with_reducible assumption))| (refine lin_plan (by kernel_rfl) ?_; (try (conv => whnf))) | (refine ⟨_, _, rfl, idx_map (by with_reducible assumption), rfl, ?_⟩; (try (conv => whnf))) | (refine ⟨rfl, ?_⟩; (try (conv => whnf))) | (exact Nat.le_refl 1) | ((apply ex3); (focus (with_reducible assumption)); (focus (with_reducible assumption)); (try (conv => whnf))) | ((apply ex2); (focus (with_reducible assumption)); (try (conv => whnf))) | (refine PureFn.dcq (f := 11) rfl ?_; (try (conv => whnf))) | ((refine ⟨_, _, bs_awake, ?_, ?_⟩); (focus (first | (refine ⟨trivial⟩ <;> first | (exact PLe.refl _) | (exact PLe.nil)) | (exact trivial))); (try (conv => whnf))) | (refine ⟨_, (by (conv => whnf); exact bs_awake), rfl, ?_⟩; (try (conv => whnf))) | fail)
  refine ⟨Unit, fun _ => [(5, .pv (u64 a)), (6, .pv (u64 b))], fun _ => 0, fun _ => [], ?_, ?_⟩
  · (try (conv => whnf)); repeat' (first | (apply And.intro <;> (try (conv => whnf))) | (intro h; first | (with_reducible exact tf0 h) | (with_reducible exact ft0 h) | (with_reducible exact nt0 h) | (with_reducible exact nf0 h) | (exact litz h rfl) | (with_reducible exact tf h (by with_reducible assumption)) | (with_reducible exact tf (by with_reducible assumption) h) | (try (conv => whnf))) | (with_reducible rfl) | (apply True.intro) | (apply infoT; rfl) | (apply bleI; rfl) | (apply fitI; rfl) | (apply cellsI; rfl) | (apply szI; rfl) | (apply guardI; kernel_rfl) | (apply WhenQ.mk; (try (conv => whnf)); rotate_left; (try (conv => whnf)); rotate_right) | (with_reducible assumption) | (apply not_of; with_reducible assumption) | (apply left_of; with_reducible assumption) | (apply left_of; apply left_of; with_reducible assumption) | (apply and_of <;> first | (with_reducible assumption) | (apply not_of; with_reducible assumption))| (refine lin_plan (by kernel_rfl) ?_; (try (conv => whnf))) | (refine ⟨_, _, rfl, idx_map (by with_reducible assumption), rfl, ?_⟩; (try (conv => whnf))) | (refine ⟨rfl, ?_⟩; (try (conv => whnf))) | (exact Nat.le_refl 1) | ((apply ex3); (focus (with_reducible assumption)); (focus (with_reducible assumption)); (try (conv => whnf))) | ((apply ex2); (focus (with_reducible assumption)); (try (conv => whnf))) | fail)
    refine ⟨(), ?_⟩
    (refine Wk.of ?_ ?_ rfl rfl rfl <;> (repeat' (first | (exact trivial) | (exact WkD.same _) | (exact WkO.same _ _ rfl) | (exact WkD.any _) | (refine WkD.int ?_) | (exact WkD.new' rfl rfl rfl) | (exact WkO.new _ _ rfl) | (refine WkO.vars rfl ?_) | (with_reducible rfl) | (exact rfl) | (refine ⟨?_, ?_⟩) | ((refine wrapA ?_ ?_ ?_); (focus (simp; done)); (focus ((try dsimp only); omega)); (focus ((try dsimp only); omega))) | fail)))
    · exact (low16 hs).trans (by rw [qa])
    · exact (low16 hr).trans (by rw [qb])
  rintro ⟨⟩
  refine ⟨Unit, fun _ => [(5, .pv (u64 a)), (6, .pv (u64 b)), (7, .pv (u64 c)), (8, .pv (.int .i64 0))], fun _ => 0, fun _ => [], ?_, ?_⟩
  · (try (conv => whnf)); repeat' (first | (apply And.intro <;> (try (conv => whnf))) | (intro h; first | (with_reducible exact tf0 h) | (with_reducible exact ft0 h) | (with_reducible exact nt0 h) | (with_reducible exact nf0 h) | (exact litz h rfl) | (with_reducible exact tf h (by with_reducible assumption)) | (with_reducible exact tf (by with_reducible assumption) h) | (try (conv => whnf))) | (with_reducible rfl) | (apply True.intro) | (apply infoT; rfl) | (apply bleI; rfl) | (apply fitI; rfl) | (apply cellsI; rfl) | (apply szI; rfl) | (apply guardI; kernel_rfl) | (apply WhenQ.mk; (try (conv => whnf)); rotate_left; (try (conv => whnf)); rotate_right) | (with_reducible assumption) | (apply not_of; with_reducible assumption) | (apply left_of; with_reducible assumption) | (apply left_of; apply left_of; with_reducible assumption) | (apply and_of <;> first | (with_reducible assumption) | (apply not_of; with_reducible assumption))| (refine lin_plan (by kernel_rfl) ?_; (try (conv => whnf))) | (refine ⟨_, _, rfl, idx_map (by with_reducible assumption), rfl, ?_⟩; (try (conv => whnf))) | (refine ⟨rfl, ?_⟩; (try (conv => whnf))) | (exact Nat.le_refl 1) | ((apply ex3); (focus (with_reducible assumption)); (focus (with_reducible assumption)); (try (conv => whnf))) | ((apply ex2); (focus (with_reducible assumption)); (try (conv => whnf))) | (refine PureFn.dcq (f := 19) rfl ?_; (try (conv => whnf))) | ((refine ⟨_, _, h1, ?_, ?_⟩); (focus (first | (refine ⟨?_, ?_, ?_, trivial⟩ <;> first | (exact PLe.refl _) | (exact PLe.nil)) | (exact trivial))); (try (conv => whnf))) | (refine ⟨_, (by (conv => whnf); exact h1), rfl, ?_⟩; (try (conv => whnf))) | fail)
    exact ⟨(), (by refine Wk.of ?_ ?_ rfl rfl rfl <;> (repeat' (first | (exact trivial) | (exact WkD.same _) | (exact WkO.same _ _ rfl) | (exact WkD.any _) | (refine WkD.int ?_) | (exact WkD.new' rfl rfl rfl) | (exact WkO.new _ _ rfl) | (refine WkO.vars rfl ?_) | (with_reducible rfl) | (exact rfl) | (refine ⟨?_, ?_⟩) | ((refine wrapA ?_ ?_ ?_); (focus (simp; done)); (focus ((try dsimp only); omega)); (focus ((try dsimp only); omega))) | fail)))⟩
  rintro ⟨⟩
  refine ⟨Unit, fun _ => [(5, .pv (u64 a)), (6, .pv (u64 b)), (7, .pv (u64 c))], fun _ => 0, fun _ => [], ?_, ?_⟩
  · (try (conv => whnf)); repeat' (first | (apply And.intro <;> (try (conv => whnf))) | (intro h; first | (with_reducible exact tf0 h) | (with_reducible exact ft0 h) | (with_reducible exact nt0 h) | (with_reducible exact nf0 h) | (exact litz h rfl) | (with_reducible exact tf h (by with_reducible assumption)) | (with_reducible exact tf (by with_reducible assumption) h) | (try (conv => whnf))) | (with_reducible rfl) | (apply True.intro) | (apply infoT; rfl) | (apply bleI; rfl) | (apply fitI; rfl) | (apply cellsI; rfl) | (apply szI; rfl) | (apply guardI; kernel_rfl) | (apply WhenQ.mk; (try (conv => whnf)); rotate_left; (try (conv => whnf)); rotate_right) | (with_reducible assumption) | (apply not_of; with_reducible assumption) | (apply left_of; with_reducible assumption) | (apply left_of; apply left_of; with_reducible assumption) | (apply and_of <;> first | (with_reducible assumption) | (apply not_of; with_reducible assumption))| (refine lin_plan (by kernel_rfl) ?_; (try (conv => whnf))) | (refine ⟨_, _, rfl, idx_map (by with_reducible assumption), rfl, ?_⟩; (try (conv => whnf))) | (refine ⟨rfl, ?_⟩; (try (conv => whnf))) | (exact Nat.le_refl 1) | ((apply ex3); (focus (with_reducible assumption)); (focus (with_reducible assumption)); (try (conv => whnf))) | ((apply ex2); (focus (with_reducible assumption)); (try (conv => whnf))) | fail)
    · exact Bool.noConfusion (h.symm.trans hok)
    · exact ⟨(), (by refine Wk.of ?_ ?_ rfl rfl rfl <;> (repeat' (first | (exact trivial) | (exact WkD.same _) | (exact WkO.same _ _ rfl) | (exact WkD.any _) | (refine WkD.int ?_) | (exact WkD.new' rfl rfl rfl) | (exact WkO.new _ _ rfl) | (refine WkO.vars rfl ?_) | (with_reducible rfl) | (exact rfl) | (refine ⟨?_, ?_⟩) | ((refine wrapA ?_ ?_ ?_); (focus (simp; done)); (focus ((try dsimp only); omega)); (focus ((try dsimp only); omega))) | fail)))⟩
  rintro ⟨⟩
  (try (conv => whnf)); repeat' (first | (apply And.intro <;> (try (conv => whnf))) | (intro h; first | (with_reducible exact tf0 h) | (with_reducible exact ft0 h) | (with_reducible exact nt0 h) | (with_reducible exact nf0 h) | (exact litz h rfl) | (with_reducible exact tf h (by with_reducible assumption)) | (with_reducible exact tf (by with_reducible assumption) h) | (try (conv => whnf))) | (with_reducible rfl) | (apply True.intro) | (apply infoT; rfl) | (apply bleI; rfl) | (apply fitI; rfl) | (apply cellsI; rfl) | (apply szI; rfl) | (apply guardI; kernel_rfl) | (apply WhenQ.mk; (try (conv => whnf)); rotate_left; (try (conv => whnf)); rotate_right) | (with_reducible assumption) | (apply not_of; with_reducible assumption) | (apply left_of; with_reducible assumption) | (apply left_of; apply left_of; with_reducible assumption) | (apply and_of <;> first | (with_reducible assumption) | (apply not_of; with_reducible assumption))| (refine lin_plan (by kernel_rfl) ?_; (try (conv => whnf))) | (refine ⟨_, _, rfl, idx_map (by with_reducible assumption), rfl, ?_⟩; (try (conv => whnf))) | (refine ⟨rfl, ?_⟩; (try (conv => whnf))) | (exact Nat.le_refl 1) | ((apply ex3); (focus (with_reducible assumption)); (focus (with_reducible assumption)); (try (conv => whnf))) | ((apply ex2); (focus (with_reducible assumption)); (try (conv => whnf))) | fail)
  refine ⟨{ i : Nat // i ≤ 16 }, fun i => [(5, .pv (u64 a)), (6, .pv (u64 b)), (7, .pv (u64 c)), (62, .pv (i64 i.1))], fun _ => 0, fun _ => [], fun i => 16 - i.1, ⟨⟨0, Nat.zero_le _⟩, (by refine Wk.of ?_ ?_ rfl rfl rfl <;> (repeat' (first | (exact trivial) | (exact WkD.same _) | (exact WkO.same _ _ rfl) | (exact WkD.any _) | (refine WkD.int ?_) | (exact WkD.new' rfl rfl rfl) | (exact WkO.new _ _ rfl) | (refine WkO.vars rfl ?_) | (with_reducible rfl) | (exact rfl) | (refine ⟨?_, ?_⟩) | ((refine wrapA ?_ ?_ ?_); (focus (simp; done)); (focus ((try dsimp only); omega)); (focus ((try dsimp only); omega))) | fail)))⟩, ?_⟩
  rintro ⟨v, hv⟩
  (try (conv => whnf)); repeat' (first | (apply And.intro <;> (try (conv => whnf))) | (intro h; first | (with_reducible exact tf0 h) | (with_reducible exact ft0 h) | (with_reducible exact nt0 h) | (with_reducible exact nf0 h) | (exact litz h rfl) | (with_reducible exact tf h (by with_reducible assumption)) | (with_reducible exact tf (by with_reducible assumption) h) | (try (conv => whnf))) | (with_reducible rfl) | (apply True.intro) | (apply infoT; rfl) | (apply bleI; rfl) | (apply fitI; rfl) | (apply cellsI; rfl) | (apply szI; rfl) | (apply guardI; kernel_rfl) | (apply WhenQ.mk; (try (conv => whnf)); rotate_left; (try (conv => whnf)); rotate_right) | (with_reducible assumption) | (apply not_of; with_reducible assumption) | (apply left_of; with_reducible assumption) | (apply left_of; apply left_of; with_reducible assumption) | (apply and_of <;> first | (with_reducible assumption) | (apply not_of; with_reducible assumption))| (refine lin_plan (by kernel_rfl) ?_; (try (conv => whnf))) | (refine ⟨_, _, rfl, idx_map (by with_reducible assumption), rfl, ?_⟩; (try (conv => whnf))) | (refine ⟨rfl, ?_⟩; (try (conv => whnf))) | (exact Nat.le_refl 1) | ((apply ex3); (focus (with_reducible assumption)); (focus (with_reducible assumption)); (try (conv => whnf))) | ((apply ex2); (focus (with_reducible assumption)); (try (conv => whnf))) | fail)
  · have hv' : v < 16 := lt_dec (m := 16) h
    refine ⟨{ i : Nat // i ≤ 16 }, fun i => [(5, .pv (u64 a)), (6, .pv (u64 b)), (7, .pv (u64 c)), (9, .pv (i64 v)), (62, .pv (i64 v)), (65, .pv (i64 i.1))], fun _ => 0, fun _ => [], fun i => 16 - i.1, ⟨⟨0, Nat.zero_le _⟩, (by refine Wk.of ?_ ?_ rfl rfl rfl <;> (repeat' (first | (exact trivial) | (exact WkD.same _) | (exact WkO.same _ _ rfl) | (exact WkD.any _) | (refine WkD.int ?_) | (exact WkD.new' rfl rfl rfl) | (exact WkO.new _ _ rfl) | (refine WkO.vars rfl ?_) | (with_reducible rfl) | (exact rfl) | (refine ⟨?_, ?_⟩) | ((refine wrapA ?_ ?_ ?_); (focus (simp; done)); (focus ((try dsimp only); omega)); (focus ((try dsimp only); omega))) | fail)))⟩, ?_⟩
    rintro ⟨u, hu⟩
    (try (conv => whnf)); repeat' (first | (apply And.intro <;> (try (conv => whnf))) | (intro h; first | (with_reducible exact tf0 h) | (with_reducible exact ft0 h) | (with_reducible exact nt0 h) | (with_reducible exact nf0 h) | (exact litz h rfl) | (with_reducible exact tf h (by with_reducible assumption)) | (with_reducible exact tf (by with_reducible assumption) h) | (try (conv => whnf))) | (with_reducible rfl) | (apply True.intro) | (apply infoT; rfl) | (apply bleI; rfl) | (apply fitI; rfl) | (apply cellsI; rfl) | (apply szI; rfl) | (apply guardI; kernel_rfl) | (apply WhenQ.mk; (try (conv => whnf)); rotate_left; (try (conv => whnf)); rotate_right) | (with_reducible assumption) | (apply not_of; with_reducible assumption) | (apply left_of; with_reducible assumption) | (apply left_of; apply left_of; with_reducible assumption) | (apply and_of <;> first | (with_reducible assumption) | (apply not_of; with_reducible assumption))| (refine lin_plan (by kernel_rfl) ?_; (try (conv => whnf))) | (refine ⟨_, _, rfl, idx_map (by with_reducible assumption), rfl, ?_⟩; (try (conv => whnf))) | (refine ⟨rfl, ?_⟩; (try (conv => whnf))) | (exact Nat.le_refl 1) | ((apply ex3); (focus (with_reducible assumption)); (focus (with_reducible assumption)); (try (conv => whnf))) | ((apply ex2); (focus (with_reducible assumption)); (try (conv => whnf))) | fail)
    · have hu' : u < 16 := lt_dec (m := 16) h
      refine ⟨{ _x : Unit // c.testBit v = true ∧ a.testBit u = true ∧ b ≠ 0 }, fun _ => [(5, .pv (u64 a)), (6, .pv (u64 b)), (7, .pv (u64 c)), (9, .pv (i64 v)), (10, .pv (i64 u)), (62, .pv (i64 v)), (65, .pv (i64 u))], fun _ => 0, fun _ => [], ?_, ?_⟩
      · (try (conv => whnf)); repeat' (first | (apply And.intro <;> (try (conv => whnf))) | (intro h; first | (with_reducible exact tf0 h) | (with_reducible exact ft0 h) | (with_reducible exact nt0 h) | (with_reducible exact nf0 h) | (exact litz h rfl) | (with_reducible exact tf h (by with_reducible assumption)) | (with_reducible exact tf (by with_reducible assumption) h) | (try (conv => whnf))) | (with_reducible rfl) | (apply True.intro) | (apply infoT; rfl) | (apply bleI; rfl) | (apply fitI; rfl) | (apply cellsI; rfl) | (apply szI; rfl) | (apply guardI; kernel_rfl) | (apply WhenQ.mk; (try (conv => whnf)); rotate_left; (try (conv => whnf)); rotate_right) | (with_reducible assumption) | (apply not_of; with_reducible assumption) | (apply left_of; with_reducible assumption) | (apply left_of; apply left_of; with_reducible assumption) | (apply and_of <;> first | (with_reducible assumption) | (apply not_of; with_reducible assumption))| (refine lin_plan (by kernel_rfl) ?_; (try (conv => whnf))) | (refine ⟨_, _, rfl, idx_map (by with_reducible assumption), rfl, ?_⟩; (try (conv => whnf))) | (refine ⟨rfl, ?_⟩; (try (conv => whnf))) | (exact Nat.le_refl 1) | ((apply ex3); (focus (with_reducible assumption)); (focus (with_reducible assumption)); (try (conv => whnf))) | ((apply ex2); (focus (with_reducible assumption)); (try (conv => whnf))) | fail)
        any_goals exact Int.natCast_nonneg _
        · exact ⟨⟨u + 1, hu'⟩, by show 16 - (u + 1) < 16 - u; omega, (by refine Wk.of ?_ ?_ rfl rfl rfl <;> (repeat' (first | (exact trivial) | (exact WkD.same _) | (exact WkO.same _ _ rfl) | (exact WkD.any _) | (refine WkD.int ?_) | (exact WkD.new' rfl rfl rfl) | (exact WkO.new _ _ rfl) | (refine WkO.vars rfl ?_) | (with_reducible rfl) | (exact rfl) | (refine ⟨?_, ?_⟩) | ((refine wrapA ?_ ?_ ?_); (focus (simp; done)); (focus ((try dsimp only); omega)); (focus ((try dsimp only); omega))) | fail)))⟩
        · have h0 : (bif bif andU (shrU c v) 1 == 0 then true else andU (shrU a u) 1 == 0 then true else (b : Int) == 0) = false := h
          rw [bit_zero (by omega) (by omega), bit_zero (by omega) (by omega)] at h0
          refine ⟨⟨(), ?_⟩, (by refine Wk.of ?_ ?_ rfl rfl rfl <;> (repeat' (first | (exact trivial) | (exact WkD.same _) | (exact WkO.same _ _ rfl) | (exact WkD.any _) | (refine WkD.int ?_) | (exact WkD.new' rfl rfl rfl) | (exact WkO.new _ _ rfl) | (refine WkO.vars rfl ?_) | (with_reducible rfl) | (exact rfl) | (refine ⟨?_, ?_⟩) | ((refine wrapA ?_ ?_ ?_); (focus (simp; done)); (focus ((try dsimp only); omega)); (focus ((try dsimp only); omega))) | fail)))⟩
          cases hcv : c.testBit v with
          | false => rw [hcv] at h0; cases h0
          | true =>
            rw [hcv] at h0
            cases hau : a.testBit u with
            | false => rw [hau] at h0; cases h0
            | true =>
              rw [hau] at h0
              exact ⟨rfl, rfl, fun e => by subst e; cases h0⟩
      rintro ⟨_, hcv, hau, b0⟩
      have hBv := hB v hv' b0
      have hBu := hB u hu' b0
      obtain ⟨l1, l2⟩ := hle u v hu' b0 hcv hau
      (try (conv => whnf)); repeat' (first | (apply And.intro <;> (try (conv => whnf))) | (intro h; first | (with_reducible exact tf0 h) | (with_reducible exact ft0 h) | (with_reducible exact nt0 h) | (with_reducible exact nf0 h) | (exact litz h rfl) | (with_reducible exact tf h (by with_reducible assumption)) | (with_reducible exact tf (by with_reducible assumption) h) | (try (conv => whnf))) | (with_reducible rfl) | (apply True.intro) | (apply infoT; rfl) | (apply bleI; rfl) | (apply fitI; rfl) | (apply cellsI; rfl) | (apply szI; rfl) | (apply guardI; kernel_rfl) | (apply WhenQ.mk; (try (conv => whnf)); rotate_left; (try (conv => whnf)); rotate_right) | (with_reducible assumption) | (apply not_of; with_reducible assumption) | (apply left_of; with_reducible assumption) | (apply left_of; apply left_of; with_reducible assumption) | (apply and_of <;> first | (with_reducible assumption) | (apply not_of; with_reducible assumption))| (refine lin_plan (by kernel_rfl) ?_; (try (conv => whnf))) | (refine ⟨_, _, rfl, idx_map (by with_reducible assumption), rfl, ?_⟩; (try (conv => whnf))) | (refine ⟨rfl, ?_⟩; (try (conv => whnf))) | (exact Nat.le_refl 1) | ((apply ex3); (focus (with_reducible assumption)); (focus (with_reducible assumption)); (try (conv => whnf))) | ((apply ex2); (focus (with_reducible assumption)); (try (conv => whnf))) | (refine PureFn.dcq (f := 23) rfl ?_; (try (conv => whnf))) | (refine PureFn.dcq (f := 23) rfl ?_; (try (conv => whnf))) | ((refine ⟨_, _, hBv, ?_, ?_⟩); (focus (first | (refine ⟨?_, ?_, ?_, trivial⟩ <;> first | (exact PLe.refl _) | (exact PLe.nil)) | (exact trivial))); (try (conv => whnf))) | (refine ⟨_, (by (conv => whnf); exact hBv), rfl, ?_⟩; (try (conv => whnf))) | ((refine ⟨_, _, hBu, ?_, ?_⟩); (focus (first | (refine ⟨?_, ?_, ?_, trivial⟩ <;> first | (exact PLe.refl _) | (exact PLe.nil)) | (exact trivial))); (try (conv => whnf))) | (refine ⟨_, (by (conv => whnf); exact hBu), rfl, ?_⟩; (try (conv => whnf))) | fail)
      any_goals exact Int.natCast_nonneg _
      · have h0 : (bif decide (((near v b 4 : Nat) : Int) > ((near u b 4 : Nat) : Int)) then true else bif ((near v b 4 : Nat) : Int) == ((near u b 4 : Nat) : Int) then andU (shrU c u) 1 == 0 else false) = true := h
        rw [bit_zero (by omega) (by omega), decide_eq_false (by omega)] at h0
        by_cases e : near v b 4 = near u b 4
        · rw [l2 e, e] at h0; simp at h0
        · have e2 : (((near v b 4 : Nat) : Int) == ((near u b 4 : Nat) : Int)) = false := by simp; omega
          rw [e2] at h0; cases h0
      · exact ⟨⟨u + 1, hu'⟩, by show 16 - (u + 1) < 16 - u; omega, (by refine Wk.of ?_ ?_ rfl rfl rfl <;> (repeat' (first | (exact trivial) | (exact WkD.same _) | (exact WkO.same _ _ rfl) | (exact WkD.any _) | (refine WkD.int ?_) | (exact WkD.new' rfl rfl rfl) | (exact WkO.new _ _ rfl) | (refine WkO.vars rfl ?_) | (with_reducible rfl) | (exact rfl) | (refine ⟨?_, ?_⟩) | ((refine wrapA ?_ ?_ ?_); (focus (simp; done)); (focus ((try dsimp only); omega)); (focus ((try dsimp only); omega))) | fail)))⟩
    · exact ⟨⟨v + 1, hv'⟩, by show 16 - (v + 1) < 16 - v; omega, (by refine Wk.of ?_ ?_ rfl rfl rfl <;> (repeat' (first | (exact trivial) | (exact WkD.same _) | (exact WkO.same _ _ rfl) | (exact WkD.any _) | (refine WkD.int ?_) | (exact WkD.new' rfl rfl rfl) | (exact WkO.new _ _ rfl) | (refine WkO.vars rfl ?_) | (with_reducible rfl) | (exact rfl) | (refine ⟨?_, ?_⟩) | ((refine wrapA ?_ ?_ ?_); (focus (simp; done)); (focus ((try dsimp only); omega)); (focus ((try dsimp only); omega))) | fail)))⟩
  · exact .refl _
theorem forgets_ok {S i j : Nat} (hS : S < 2 ^ (2 ^ 4)) (hi : i < 4) :
    (bif bif bif bif bif bif bif bif bif (0 : Int) != 0 then true else (0 : Int) != 0 then true else (0 : Int) != 0 then true else (0 : Int) != 0 then true else (0 : Int) != 0 then true else (0 : Int) != 0 then true else ((forgetN (forgetN S i 4) j 4 : Nat) : Int) != ((forgetN (forgetN S i 4) j 4 : Nat) : Int) then true else ((forgetN S i 4 : Nat) : Int) != ((forgetN S i 4 : Nat) : Int) then true else andNotU S (forgetN S i 4 : Nat) != 0 then true else
      !((and64 (shr64 (maskOf (depq S 4) 4 : Nat) i) 1 == 1) == (((forgetN S i 4 : Nat) : Int) != (S : Int)))) = false := by
  have hm := maskOf_lt (depq S 4) 4
  have e1 : andNotU S (forgetN S i 4 : Nat) = 0 := andNotU_sub fun x hx => fg_sub hS hx
  rw [bit64_one (by omega) (by omega), dep_bit hi, e1]
  simp [depq]
theorem end_ok {S : Nat} (hS : S < 2 ^ (2 ^ 4)) : (bif bif (S : Int) == 0 then ((fga S 4 : Nat) : Int) == 0 else false then true else bif (S : Int) != 0 then ((fga S 4 : Nat) : Int) == 65535 else false) = true := by
  rcases fga_all hS with ⟨h1, h2⟩ | ⟨h1, h2⟩
  · rw [h1, h2] at *; rfl
  · have e : ((S : Int) == 0) = false := by simpa using h1
    have e2 : ((S : Int) != 0) = true := by rw [bne, e]; rfl
    rw [e, e2, h2]; rfl
theorem fga_t {S m : Nat} (h : depq S 4 m = true) : forgetN (fga S m) m 4 = fga S (m + 1) := by rw [fga, h]; rfl
theorem fga_f {S m : Nat} (h : depq S 4 m = false) : fga S m = fga S (m + 1) := by rw [fga, h]; rfl
theorem bforgets_pure (s x y : Nat) (hs : s < 2 ^ 64) (hx : x < 256) (hy : y < 256) : PureFn Try.prog 10 [u64 s, .int .u8 x, .int .u8 y] (.bool true) := by
  refine PureFn.introC [4, 5, 6, 7, 8, 9, 10, 12] mixed (fn := Try.f10) rfl rfl rfl fun M w0 => ?_
  obtain ⟨S, qS⟩ : ∃ n, n = s &&& 65535 := ⟨_, rfl⟩
  obtain ⟨i, qi⟩ : ∃ n, n = x % 4 := ⟨_, rfl⟩
  obtain ⟨j, qj⟩ : ∃ n, n = y % 4 := ⟨_, rfl⟩
  have hS : S < 2 ^ (2 ^ 4) := by rw [qS]; exact low_lt s
  have hi : i < 4 := by omega
  have hj : j < 4 := by omega
  have hF : ∀ t k : Nat, t < 2 ^ (2 ^ 4) → k < 4 → PureFn Try.prog 27 [u64 t, .int .i64 (k : Int), .int .i64 4] (pairU (forgetN t k 4, 0)) := fun t k ht hk => by
    have := bs_Forget t k 4 (by omega)
    rw [show forgetI t k 4 = _ from forgetI_of (n := 4) (by decide) hk ht] at this
    exact this
  have f1 := hF S i hS hi
  have f2 := hF _ j (fg_lt hS hi) hj
  have f3 := hF S j hS hj
  have f4 := hF _ i (fg_lt hS hj) hi
  rw [← fg_comm hS hi hj] at f4
  have f5 := hF _ i (fg_lt hS hi) hi
  rw [fg_idem hS hi] at f5
  have f6 := bs_Depends S 4 (by omega)
  rw [dpI2 (by rw [show bchk S 4 = 0 from bchk_of (n := 4) (by decide) hS]; rfl)] at f6
  have hok := forgets_ok (j := j) hS hi
  have hend := end_ok hS
  (try (conv => whnf)); repeat' (first | (apply And.intro <;> (try (conv => whnf))) | (intro h; first | (with_reducible exact tf0 h) | (with_reducible exact ft0 h) | (with_reducible exact nt0 h) | (with_reducible exact nf0 h) | (exact litz h rfl) | (with_reducible exact tf h (by with_reducible assumption)) | (with_reducible exact tf (by with_reducible assumption) h) | (try (conv => whnf))) | (with_reducible rfl) | (apply True.intro) | (apply infoT; rfl) | (apply bleI; rfl) | (apply fitI; rfl) | (apply cellsI; rfl) | (apply szI; rfl) | (apply guardI; kernel_rfl) | (apply WhenQ.mk; (try (conv => whnf)); rotate_left; (try (conv => whnf)); rotate_right) | (with_reducible assumption) | (apply not_of; with_reducible assumption) | (apply left_of; with_reducible assumption) | (apply left_of; apply left_of; with_reducible assumption) | (apply and_of <;> first | (with_reducible assumption) | (apply not_of; with_reducible assumption))| (refine lin_plan (by kernel_rfl) ?_; (try (conv => whnf))) | (refine ⟨_, _, rfl, idx_map (by with_reducible assumption), rfl, ?_⟩; (try (conv => whnf))) | (refine ⟨rfl, ?_⟩; (try (conv => whnf))) | (exact Nat.le_refl 1) | ((apply ex3); (focus (with_reducible assumption)); (focus (with_reducible assumption)); (try (conv => whnf))) | ((apply ex2); (focus (with_reducible assumption)); (try (conv => whnf))) | (refine PureFn.dcq (f := 11) rfl ?_; (try (conv => whnf))) | ((refine ⟨_, _, bs_awake, ?_, ?_⟩); (focus (first | (refine ⟨trivial⟩ <;> first | (exact PLe.refl _) | (exact PLe.nil)) | (exact trivial))); (try (conv => whnf))) | (refine ⟨_, (by (conv => whnf); exact bs_awake), rfl, ?_⟩; (try (conv => whnf))) | fail)
  refine ⟨Unit, fun _ => [(7, .pv (u64 S)), (8, .pv (i64 i)), (9, .pv (i64 j))], fun _ => 0, fun _ => [], ?_, ?_⟩
  · (try (conv => whnf)); repeat' (first | (apply And.intro <;> (try (conv => whnf))) | (intro h; first | (with_reducible exact tf0 h) | (with_reducible exact ft0 h) | (with_reducible exact nt0 h) | (with_reducible exact nf0 h) | (exact litz h rfl) | (with_reducible exact tf h (by with_reducible assumption)) | (with_reducible exact tf (by with_reducible assumption) h) | (try (conv => whnf))) | (with_reducible rfl) | (apply True.intro) | (apply infoT; rfl) | (apply bleI; rfl) | (apply fitI; rfl) | (apply cellsI; rfl) | (apply szI; rfl) | (apply guardI; kernel_rfl) | (apply WhenQ.mk; (try (conv => whnf)); rotate_left; (try (conv => whnf)); rotate_right) | (with_reducible assumption) | (apply not_of; with_reducible assumption) | (apply left_of; with_reducible assumption) | (apply left_of; apply left_of; with_reducible assumption) | (apply and_of <;> first | (with_reducible assumption) | (apply not_of; with_reducible assumption))| (refine lin_plan (by kernel_rfl) ?_; (try (conv => whnf))) | (refine ⟨_, _, rfl, idx_map (by with_reducible assumption), rfl, ?_⟩; (try (conv => whnf))) | (refine ⟨rfl, ?_⟩; (try (conv => whnf))) | (exact Nat.le_refl 1) | ((apply ex3); (focus (with_reducible assumption)); (focus (with_reducible assumption)); (try (conv => whnf))) | ((apply ex2); (focus (with_reducible assumption)); (try (conv => whnf))) | fail)
    refine ⟨(), ?_⟩
    (refine Wk.of ?_ ?_ rfl rfl rfl <;> (repeat' (first | (exact trivial) | (exact WkD.same _) | (exact WkO.same _ _ rfl) | (exact WkD.any _) | (refine WkD.int ?_) | (exact WkD.new' rfl rfl rfl) | (exact WkO.new _ _ rfl) | (refine WkO.vars rfl ?_) | (with_reducible rfl) | (exact rfl) | (refine ⟨?_, ?_⟩) | ((refine wrapA ?_ ?_ ?_); (focus (simp; done)); (focus ((try dsimp only); omega)); (focus ((try dsimp only); omega))) | fail)))
    · exact (low16 hs).trans (by rw [qS])
    · exact (u8_mod hx 4).trans (by rw [qi])
    · exact (u8_mod hy 4).trans (by rw [qj])
  rintro ⟨⟩
  refine ⟨Unit, fun _ => [(7, .pv (u64 S)), (8, .pv (i64 i)), (9, .pv (i64 j)), (10, .pv (u64 (forgetN S i 4))), (11, .pv (.int .i64 0))], fun _ => 0, fun _ => [], ?_, ?_⟩
  · (try (conv => whnf)); repeat' (first | (apply And.intro <;> (try (conv => whnf))) | (intro h; first | (with_reducible exact tf0 h) | (with_reducible exact ft0 h) | (with_reducible exact nt0 h) | (with_reducible exact nf0 h) | (exact litz h rfl) | (with_reducible exact tf h (by with_reducible assumption)) | (with_reducible exact tf (by with_reducible assumption) h) | (try (conv => whnf))) | (with_reducible rfl) | (apply True.intro) | (apply infoT; rfl) | (apply bleI; rfl) | (apply fitI; rfl) | (apply cellsI; rfl) | (apply szI; rfl) | (apply guardI; kernel_rfl) | (apply WhenQ.mk; (try (conv => whnf)); rotate_left; (try (conv => whnf)); rotate_right) | (with_reducible assumption) | (apply not_of; with_reducible assumption) | (apply left_of; with_reducible assumption) | (apply left_of; apply left_of; with_reducible assumption) | (apply and_of <;> first | (with_reducible assumption) | (apply not_of; with_reducible assumption))| (refine lin_plan (by kernel_rfl) ?_; (try (conv => whnf))) | (refine ⟨_, _, rfl, idx_map (by with_reducible assumption), rfl, ?_⟩; (try (conv => whnf))) | (refine ⟨rfl, ?_⟩; (try (conv => whnf))) | (exact Nat.le_refl 1) | ((apply ex3); (focus (with_reducible assumption)); (focus (with_reducible assumption)); (try (conv => whnf))) | ((apply ex2); (focus (with_reducible assumption)); (try (conv => whnf))) | (refine PureFn.dcq (f := 27) rfl ?_; (try (conv => whnf))) | ((refine ⟨_, _, f1, ?_, ?_⟩); (focus (first | (refine ⟨?_, ?_, ?_, trivial⟩ <;> first | (exact PLe.refl _) | (exact PLe.nil)) | (exact trivial))); (try (conv => whnf))) | (refine ⟨_, (by (conv => whnf); exact f1), rfl, ?_⟩; (try (conv => whnf))) | fail)
    exact ⟨(), (by refine Wk.of ?_ ?_ rfl rfl rfl <;> (repeat' (first | (exact trivial) | (exact WkD.same _) | (exact WkO.same _ _ rfl) | (exact WkD.any _) | (refine WkD.int ?_) | (exact WkD.new' rfl rfl rfl) | (exact WkO.new _ _ rfl) | (refine WkO.vars rfl ?_) | (with_reducible rfl) | (exact rfl) | (refine ⟨?_, ?_⟩) | ((refine wrapA ?_ ?_ ?_); (focus (simp; done)); (focus ((try dsimp only); omega)); (focus ((try dsimp only); omega))) | fail)))⟩
  rintro ⟨⟩
  refine ⟨Unit, fun _ => [(7, .pv (u64 S)), (8, .pv (i64 i)), (9, .pv (i64 j)), (10, .pv (u64 (forgetN S i 4))), (11, .pv (.int .i64 0)), (12, .pv (u64 (forgetN (forgetN S i 4) j 4))), (13, .pv (.int .i64 0))], fun _ => 0, fun _ => [], ?_, ?_⟩
  · (try (conv => whnf)); repeat' (first | (apply And.intro <;> (try (conv => whnf))) | (intro h; first | (with_reducible exact tf0 h) | (with_reducible exact ft0 h) | (with_reducible exact nt0 h) | (with_reducible exact nf0 h) | (exact litz h rfl) | (with_reducible exact tf h (by with_reducible assumption)) | (with_reducible exact tf (by with_reducible assumption) h) | (try (conv => whnf))) | (with_reducible rfl) | (apply True.intro) | (apply infoT; rfl) | (apply bleI; rfl) | (apply fitI; rfl) | (apply cellsI; rfl) | (apply szI; rfl) | (apply guardI; kernel_rfl) | (apply WhenQ.mk; (try (conv => whnf)); rotate_left; (try (conv => whnf)); rotate_right) | (with_reducible assumption) | (apply not_of; with_reducible assumption) | (apply left_of; with_reducible assumption) | (apply left_of; apply left_of; with_reducible assumption) | (apply and_of <;> first | (with_reducible assumption) | (apply not_of; with_reducible assumption))| (refine lin_plan (by kernel_rfl) ?_; (try (conv => whnf))) | (refine ⟨_, _, rfl, idx_map (by with_reducible assumption), rfl, ?_⟩; (try (conv => whnf))) | (refine ⟨rfl, ?_⟩; (try (conv => whnf))) | (exact Nat.le_refl 1) | ((apply ex3); (focus (with_reducible assumption)); (focus (with_reducible assumption)); (try (conv => whnf))) | ((apply ex2); (focus (with_reducible assumption)); (try (conv => whnf))) | (refine PureFn.dcq (f := 27) rfl ?_; (try (conv => whnf))) | ((refine ⟨_, _, f2, ?_, ?_⟩); (focus (first | (refine ⟨?_, ?_, ?_, trivial⟩ <;> first | (exact PLe.refl _) | (exact PLe.nil)) | (exact trivial))); (try (conv => whnf))) | (refine ⟨_, (by (conv => whnf); exact f2), rfl, ?_⟩; (try (conv => whnf))) | fail)
    exact ⟨(), (by refine Wk.of ?_ ?_ rfl rfl rfl <;> (repeat' (first | (exact trivial) | (exact WkD.same _) | (exact WkO.same _ _ rfl) | (exact WkD.any _) | (refine WkD.int ?_) | (exact WkD.new' rfl rfl rfl) | (exact WkO.new _ _ rfl) | (refine WkO.vars rfl ?_) | (with_reducible rfl) | (exact rfl) | (refine ⟨?_, ?_⟩) | ((refine wrapA ?_ ?_ ?_); (focus (simp; done)); (focus ((try dsimp only); omega)); (focus ((try dsimp only); omega))) | fail)))⟩
  rintro ⟨⟩
  refine ⟨Unit, fun _ => [(7, .pv (u64 S)), (8, .pv (i64 i)), (9, .pv (i64 j)), (10, .pv (u64 (forgetN S i 4))), (11, .pv (.int .i64 0)), (12, .pv (u64 (forgetN (forgetN S i 4) j 4))), (13, .pv (.int .i64 0)), (14, .pv (u64 (forgetN S j 4))), (15, .pv (.int .i64 0))], fun _ => 0, fun _ => [], ?_, ?_⟩
  · (try (conv => whnf)); repeat' (first | (apply And.intro <;> (try (conv => whnf))) | (intro h; first | (with_reducible exact tf0 h) | (with_reducible exact ft0 h) | (with_reducible exact nt0 h) | (with_reducible exact nf0 h) | (exact litz h rfl) | (with_reducible exact tf h (by with_reducible assumption)) | (with_reducible exact tf (by with_reducible assumption) h) | (try (conv => whnf))) | (with_reducible rfl) | (apply True.intro) | (apply infoT; rfl) | (apply bleI; rfl) | (apply fitI; rfl) | (apply cellsI; rfl) | (apply szI; rfl) | (apply guardI; kernel_rfl) | (apply WhenQ.mk; (try (conv => whnf)); rotate_left; (try (conv => whnf)); rotate_right) | (with_reducible assumption) | (apply not_of; with_reducible assumption) | (apply left_of; with_reducible assumption) | (apply left_of; apply left_of; with_reducible assumption) | (apply and_of <;> first | (with_reducible assumption) | (apply not_of; with_reducible assumption))| (refine lin_plan (by kernel_rfl) ?_; (try (conv => whnf))) | (refine ⟨_, _, rfl, idx_map (by with_reducible assumption), rfl, ?_⟩; (try (conv => whnf))) | (refine ⟨rfl, ?_⟩; (try (conv => whnf))) | (exact Nat.le_refl 1) | ((apply ex3); (focus (with_reducible assumption)); (focus (with_reducible assumption)); (try (conv => whnf))) | ((apply ex2); (focus (with_reducible assumption)); (try (conv => whnf))) | (refine PureFn.dcq (f := 27) rfl ?_; (try (conv => whnf))) | ((refine ⟨_, _, f3, ?_, ?_⟩); (focus (first | (refine ⟨?_, ?_, ?_, trivial⟩ <;> first | (exact PLe.refl _) | (exact PLe.nil)) | (exact trivial))); (try (conv => whnf))) | (refine ⟨_, (by (conv => whnf); exact f3), rfl, ?_⟩; (try (conv => whnf))) | fail)
    exact ⟨(), (by refine Wk.of ?_ ?_ rfl rfl rfl <;> (repeat' (first | (exact trivial) | (exact WkD.same _) | (exact WkO.same _ _ rfl) | (exact WkD.any _) | (refine WkD.int ?_) | (exact WkD.new' rfl rfl rfl) | (exact WkO.new _ _ rfl) | (refine WkO.vars rfl ?_) | (with_reducible rfl) | (exact rfl) | (refine ⟨?_, ?_⟩) | ((refine wrapA ?_ ?_ ?_); (focus (simp; done)); (focus ((try dsimp only); omega)); (focus ((try dsimp only); omega))) | fail)))⟩
  rintro ⟨⟩
  refine ⟨Unit, fun _ => [(7, .pv (u64 S)), (8, .pv (i64 i)), (10, .pv (u64 (forgetN S i 4))), (11, .pv (.int .i64 0)), (12, .pv (u64 (forgetN (forgetN S i 4) j 4))), (13, .pv (.int .i64 0)), (15, .pv (.int .i64 0)), (16, .pv (u64 (forgetN (forgetN S i 4) j 4))), (17, .pv (.int .i64 0))], fun _ => 0, fun _ => [], ?_, ?_⟩
  · (try (conv => whnf)); repeat' (first | (apply And.intro <;> (try (conv => whnf))) | (intro h; first | (with_reducible exact tf0 h) | (with_reducible exact ft0 h) | (with_reducible exact nt0 h) | (with_reducible exact nf0 h) | (exact litz h rfl) | (with_reducible exact tf h (by with_reducible assumption)) | (with_reducible exact tf (by with_reducible assumption) h) | (try (conv => whnf))) | (with_reducible rfl) | (apply True.intro) | (apply infoT; rfl) | (apply bleI; rfl) | (apply fitI; rfl) | (apply cellsI; rfl) | (apply szI; rfl) | (apply guardI; kernel_rfl) | (apply WhenQ.mk; (try (conv => whnf)); rotate_left; (try (conv => whnf)); rotate_right) | (with_reducible assumption) | (apply not_of; with_reducible assumption) | (apply left_of; with_reducible assumption) | (apply left_of; apply left_of; with_reducible assumption) | (apply and_of <;> first | (with_reducible assumption) | (apply not_of; with_reducible assumption))| (refine lin_plan (by kernel_rfl) ?_; (try (conv => whnf))) | (refine ⟨_, _, rfl, idx_map (by with_reducible assumption), rfl, ?_⟩; (try (conv => whnf))) | (refine ⟨rfl, ?_⟩; (try (conv => whnf))) | (exact Nat.le_refl 1) | ((apply ex3); (focus (with_reducible assumption)); (focus (with_reducible assumption)); (try (conv => whnf))) | ((apply ex2); (focus (with_reducible assumption)); (try (conv => whnf))) | (refine PureFn.dcq (f := 27) rfl ?_; (try (conv => whnf))) | ((refine ⟨_, _, f4, ?_, ?_⟩); (focus (first | (refine ⟨?_, ?_, ?_, trivial⟩ <;> first | (exact PLe.refl _) | (exact PLe.nil)) | (exact trivial))); (try (conv => whnf))) | (refine ⟨_, (by (conv => whnf); exact f4), rfl, ?_⟩; (try (conv => whnf))) | fail)
    exact ⟨(), (by refine Wk.of ?_ ?_ rfl rfl rfl <;> (repeat' (first | (exact trivial) | (exact WkD.same _) | (exact WkO.same _ _ rfl) | (exact WkD.any _) | (refine WkD.int ?_) | (exact WkD.new' rfl rfl rfl) | (exact WkO.new _ _ rfl) | (refine WkO.vars rfl ?_) | (with_reducible rfl) | (exact rfl) | (refine ⟨?_, ?_⟩) | ((refine wrapA ?_ ?_ ?_); (focus (simp; done)); (focus ((try dsimp only); omega)); (focus ((try dsimp only); omega))) | fail)))⟩
  rintro ⟨⟩
  refine ⟨Unit, fun _ => [(7, .pv (u64 S)), (8, .pv (i64 i)), (10, .pv (u64 (forgetN S i 4))), (11, .pv (.int .i64 0)), (12, .pv (u64 (forgetN (forgetN S i 4) j 4))), (13, .pv (.int .i64 0)), (15, .pv (.int .i64 0)), (16, .pv (u64 (forgetN (forgetN S i 4) j 4))), (17, .pv (.int .i64 0)), (18, .pv (u64 (forgetN S i 4))), (19, .pv (.int .i64 0))], fun _ => 0, fun _ => [], ?_, ?_⟩
  · (try (conv => whnf)); repeat' (first | (apply And.intro <;> (try (conv => whnf))) | (intro h; first | (with_reducible exact tf0 h) | (with_reducible exact ft0 h) | (with_reducible exact nt0 h) | (with_reducible exact nf0 h) | (exact litz h rfl) | (with_reducible exact tf h (by with_reducible assumption)) | (with_reducible exact tf (by with_reducible assumption) h) | (try (conv => whnf))) | (with_reducible rfl) | (apply True.intro) | (apply infoT; rfl) | (apply bleI; rfl) | (apply fitI; rfl) | (apply cellsI; rfl) | (apply szI; rfl) | (apply guardI; kernel_rfl) | (apply WhenQ.mk; (try (conv => whnf)); rotate_left; (try (conv => whnf)); rotate_right) | (with_reducible assumption) | (apply not_of; with_reducible assumption) | (apply left_of; with_reducible assumption) | (apply left_of; apply left_of; with_reducible assumption) | (apply and_of <;> first | (with_reducible assumption) | (apply not_of; with_reducible assumption))| (refine lin_plan (by kernel_rfl) ?_; (try (conv => whnf))) | (refine ⟨_, _, rfl, idx_map (by with_reducible assumption), rfl, ?_⟩; (try (conv => whnf))) | (refine ⟨rfl, ?_⟩; (try (conv => whnf))) | (exact Nat.le_refl 1) | ((apply ex3); (focus (with_reducible assumption)); (focus (with_reducible assumption)); (try (conv => whnf))) | ((apply ex2); (focus (with_reducible assumption)); (try (conv => whnf))) | (refine PureFn.dcq (f := 27) rfl ?_; (try (conv => whnf))) | ((refine ⟨_, _, f5, ?_, ?_⟩); (focus (first | (refine ⟨?_, ?_, ?_, trivial⟩ <;> first | (exact PLe.refl _) | (exact PLe.nil)) | (exact trivial))); (try (conv => whnf))) | (refine ⟨_, (by (conv => whnf); exact f5), rfl, ?_⟩; (try (conv => whnf))) | fail)
    exact ⟨(), (by refine Wk.of ?_ ?_ rfl rfl rfl <;> (repeat' (first | (exact trivial) | (exact WkD.same _) | (exact WkO.same _ _ rfl) | (exact WkD.any _) | (refine WkD.int ?_) | (exact WkD.new' rfl rfl rfl) | (exact WkO.new _ _ rfl) | (refine WkO.vars rfl ?_) | (with_reducible rfl) | (exact rfl) | (refine ⟨?_, ?_⟩) | ((refine wrapA ?_ ?_ ?_); (focus (simp; done)); (focus ((try dsimp only); omega)); (focus ((try dsimp only); omega))) | fail)))⟩
  rintro ⟨⟩
  refine ⟨Unit, fun _ => [(7, .pv (u64 S)), (8, .pv (i64 i)), (10, .pv (u64 (forgetN S i 4))), (11, .pv (.int .i64 0)), (12, .pv (u64 (forgetN (forgetN S i 4) j 4))), (13, .pv (.int .i64 0)), (15, .pv (.int .i64 0)), (16, .pv (u64 (forgetN (forgetN S i 4) j 4))), (17, .pv (.int .i64 0)), (18, .pv (u64 (forgetN S i 4))), (19, .pv (.int .i64 0)), (20, .pv (.int .i64 (maskOf (depq S 4) 4 : Nat))), (21, .pv (.int .i64 0))], fun _ => 0, fun _ => [], ?_, ?_⟩
  · (try (conv => whnf)); repeat' (first | (apply And.intro <;> (try (conv => whnf))) | (intro h; first | (with_reducible exact tf0 h) | (with_reducible exact ft0 h) | (with_reducible exact nt0 h) | (with_reducible exact nf0 h) | (exact litz h rfl) | (with_reducible exact tf h (by with_reducible assumption)) | (with_reducible exact tf (by with_reducible assumption) h) | (try (conv => whnf))) | (with_reducible rfl) | (apply True.intro) | (apply infoT; rfl) | (apply bleI; rfl) | (apply fitI; rfl) | (apply cellsI; rfl) | (apply szI; rfl) | (apply guardI; kernel_rfl) | (apply WhenQ.mk; (try (conv => whnf)); rotate_left; (try (conv => whnf)); rotate_right) | (with_reducible assumption) | (apply not_of; with_reducible assumption) | (apply left_of; with_reducible assumption) | (apply left_of; apply left_of; with_reducible assumption) | (apply and_of <;> first | (with_reducible assumption) | (apply not_of; with_reducible assumption))| (refine lin_plan (by kernel_rfl) ?_; (try (conv => whnf))) | (refine ⟨_, _, rfl, idx_map (by with_reducible assumption), rfl, ?_⟩; (try (conv => whnf))) | (refine ⟨rfl, ?_⟩; (try (conv => whnf))) | (exact Nat.le_refl 1) | ((apply ex3); (focus (with_reducible assumption)); (focus (with_reducible assumption)); (try (conv => whnf))) | ((apply ex2); (focus (with_reducible assumption)); (try (conv => whnf))) | (refine PureFn.dcq (f := 29) rfl ?_; (try (conv => whnf))) | ((refine ⟨_, _, f6, ?_, ?_⟩); (focus (first | (refine ⟨?_, ?_, trivial⟩ <;> first | (exact PLe.refl _) | (exact PLe.nil)) | (exact trivial))); (try (conv => whnf))) | (refine ⟨_, (by (conv => whnf); exact f6), rfl, ?_⟩; (try (conv => whnf))) | fail)
    exact ⟨(), (by refine Wk.of ?_ ?_ rfl rfl rfl <;> (repeat' (first | (exact trivial) | (exact WkD.same _) | (exact WkO.same _ _ rfl) | (exact WkD.any _) | (refine WkD.int ?_) | (exact WkD.new' rfl rfl rfl) | (exact WkO.new _ _ rfl) | (refine WkO.vars rfl ?_) | (with_reducible rfl) | (exact rfl) | (refine ⟨?_, ?_⟩) | ((refine wrapA ?_ ?_ ?_); (focus (simp; done)); (focus ((try dsimp only); omega)); (focus ((try dsimp only); omega))) | fail)))⟩
  rintro ⟨⟩
  refine ⟨Unit, fun _ => [(7, .pv (u64 S)), (20, .pv (.int .i64 (maskOf (depq S 4) 4 : Nat)))], fun _ => 0, fun _ => [], ?_, ?_⟩
  · (try (conv => whnf)); repeat' (first | (apply And.intro <;> (try (conv => whnf))) | (intro h; first | (with_reducible exact tf0 h) | (with_reducible exact ft0 h) | (with_reducible exact nt0 h) | (with_reducible exact nf0 h) | (exact litz h rfl) | (with_reducible exact tf h (by with_reducible assumption)) | (with_reducible exact tf (by with_reducible assumption) h) | (try (conv => whnf))) | (with_reducible rfl) | (apply True.intro) | (apply infoT; rfl) | (apply bleI; rfl) | (apply fitI; rfl) | (apply cellsI; rfl) | (apply szI; rfl) | (apply guardI; kernel_rfl) | (apply WhenQ.mk; (try (conv => whnf)); rotate_left; (try (conv => whnf)); rotate_right) | (with_reducible assumption) | (apply not_of; with_reducible assumption) | (apply left_of; with_reducible assumption) | (apply left_of; apply left_of; with_reducible assumption) | (apply and_of <;> first | (with_reducible assumption) | (apply not_of; with_reducible assumption))| (refine lin_plan (by kernel_rfl) ?_; (try (conv => whnf))) | (refine ⟨_, _, rfl, idx_map (by with_reducible assumption), rfl, ?_⟩; (try (conv => whnf))) | (refine ⟨rfl, ?_⟩; (try (conv => whnf))) | (exact Nat.le_refl 1) | ((apply ex3); (focus (with_reducible assumption)); (focus (with_reducible assumption)); (try (conv => whnf))) | ((apply ex2); (focus (with_reducible assumption)); (try (conv => whnf))) | fail)
    any_goals exact Int.natCast_nonneg _
    · exact Bool.noConfusion (h.symm.trans hok)
    · exact ⟨(), (by refine Wk.of ?_ ?_ rfl rfl rfl <;> (repeat' (first | (exact trivial) | (exact WkD.same _) | (exact WkO.same _ _ rfl) | (exact WkD.any _) | (refine WkD.int ?_) | (exact WkD.new' rfl rfl rfl) | (exact WkO.new _ _ rfl) | (refine WkO.vars rfl ?_) | (with_reducible rfl) | (exact rfl) | (refine ⟨?_, ?_⟩) | ((refine wrapA ?_ ?_ ?_); (focus (simp; done)); (focus ((try dsimp only); omega)); (focus ((try dsimp only); omega))) | fail)))⟩
  rintro ⟨⟩
  (try (conv => whnf)); repeat' (first | (apply And.intro <;> (try (conv => whnf))) | (intro h; first | (with_reducible exact tf0 h) | (with_reducible exact ft0 h) | (with_reducible exact nt0 h) | (with_reducible exact nf0 h) | (exact litz h rfl) | (with_reducible exact tf h (by with_reducible assumption)) | (with_reducible exact tf (by with_reducible assumption) h) | (try (conv => whnf))) | (with_reducible rfl) | (apply True.intro) | (apply infoT; rfl) | (apply bleI; rfl) | (apply fitI; rfl) | (apply cellsI; rfl) | (apply szI; rfl) | (apply guardI; kernel_rfl) | (apply WhenQ.mk; (try (conv => whnf)); rotate_left; (try (conv => whnf)); rotate_right) | (with_reducible assumption) | (apply not_of; with_reducible assumption) | (apply left_of; with_reducible assumption) | (apply left_of; apply left_of; with_reducible assumption) | (apply and_of <;> first | (with_reducible assumption) | (apply not_of; with_reducible assumption))| (refine lin_plan (by kernel_rfl) ?_; (try (conv => whnf))) | (refine ⟨_, _, rfl, idx_map (by with_reducible assumption), rfl, ?_⟩; (try (conv => whnf))) | (refine ⟨rfl, ?_⟩; (try (conv => whnf))) | (exact Nat.le_refl 1) | ((apply ex3); (focus (with_reducible assumption)); (focus (with_reducible assumption)); (try (conv => whnf))) | ((apply ex2); (focus (with_reducible assumption)); (try (conv => whnf))) | fail)
  refine ⟨{ m : Nat // m ≤ 4 }, fun m => [(7, .pv (u64 S)), (20, .pv (.int .i64 (maskOf (depq S 4) 4 : Nat))), (22, .pv (u64 (fga S m.1))), (121, .pv (i64 m.1))], fun _ => 0, fun _ => [], fun m => 4 - m.1, ⟨⟨0, Nat.zero_le _⟩, (by refine Wk.of ?_ ?_ rfl rfl rfl <;> (repeat' (first | (exact trivial) | (exact WkD.same _) | (exact WkO.same _ _ rfl) | (exact WkD.any _) | (refine WkD.int ?_) | (exact WkD.new' rfl rfl rfl) | (exact WkO.new _ _ rfl) | (refine WkO.vars rfl ?_) | (with_reducible rfl) | (exact rfl) | (refine ⟨?_, ?_⟩) | ((refine wrapA ?_ ?_ ?_); (focus (simp; done)); (focus ((try dsimp only); omega)); (focus ((try dsimp only); omega))) | fail)))⟩, ?_⟩
  rintro ⟨m, hm⟩
  have hFm : m < 4 → PureFn Try.prog 27 [u64 (fga S m), .int .i64 (m : Int), .int .i64 4] (pairU (forgetN (fga S m) m 4, 0)) := fun hm' => hF _ m (fga_lt hS hm) hm'
  have hml := maskOf_lt (depq S 4) 4
  (try (conv => whnf)); repeat' (first | (apply And.intro <;> (try (conv => whnf))) | (intro h; first | (with_reducible exact tf0 h) | (with_reducible exact ft0 h) | (with_reducible exact nt0 h) | (with_reducible exact nf0 h) | (exact litz h rfl) | (with_reducible exact tf h (by with_reducible assumption)) | (with_reducible exact tf (by with_reducible assumption) h) | (try (conv => whnf))) | (with_reducible rfl) | (apply True.intro) | (apply infoT; rfl) | (apply bleI; rfl) | (apply fitI; rfl) | (apply cellsI; rfl) | (apply szI; rfl) | (apply guardI; kernel_rfl) | (apply WhenQ.mk; (try (conv => whnf)); rotate_left; (try (conv => whnf)); rotate_right) | (with_reducible assumption) | (apply not_of; with_reducible assumption) | (apply left_of; with_reducible assumption) | (apply left_of; apply left_of; with_reducible assumption) | (apply and_of <;> first | (with_reducible assumption) | (apply not_of; with_reducible assumption))| (refine lin_plan (by kernel_rfl) ?_; (try (conv => whnf))) | (refine ⟨_, _, rfl, idx_map (by with_reducible assumption), rfl, ?_⟩; (try (conv => whnf))) | (refine ⟨rfl, ?_⟩; (try (conv => whnf))) | (exact Nat.le_refl 1) | ((apply ex3); (focus (with_reducible assumption)); (focus (with_reducible assumption)); (try (conv => whnf))) | ((apply ex2); (focus (with_reducible assumption)); (try (conv => whnf))) | (refine PureFn.dcq (f := 27) rfl ?_; (try (conv => whnf))) | ((refine ⟨_, _, hFm ?_, ?_, ?_⟩); rotate_left 1; (focus (first | (refine ⟨?_, ?_, ?_, trivial⟩ <;> first | (exact PLe.refl _) | (exact PLe.nil)) | (exact trivial))); (try (conv => whnf))) | (refine ⟨_, (by (conv => whnf); exact hFm _), rfl, ?_⟩; (try (conv => whnf))) | fail)
  any_goals exact Int.natCast_nonneg _
  · simp at h
  · rename_i h1 h2
    have hm' : m < 4 := lt_dec (m := 4) h1
    have h3 : (and64 (shr64 (maskOf (depq S 4) 4 : Nat) m) 1 == 1) = true := h2
    rw [bit64_one (by omega) (by omega), dep_bit hm'] at h3
    refine ⟨⟨m + 1, hm'⟩, by show 4 - (m + 1) < 4 - m; omega, ?_⟩
    have e := fga_t h3
    (refine Wk.of ?_ ?_ rfl rfl rfl <;> (repeat' (first | (exact trivial) | (exact WkD.same _) | (exact WkO.same _ _ rfl) | (exact WkD.any _) | (refine WkD.int ?_) | (exact WkD.new' rfl rfl rfl) | (exact WkO.new _ _ rfl) | (refine WkO.vars rfl ?_) | (with_reducible rfl) | (exact rfl) | (refine ⟨?_, ?_⟩) | ((refine wrapA ?_ ?_ ?_); (focus (simp; done)); (focus ((try dsimp only); omega)); (focus ((try dsimp only); omega))) | fail)))
    exact congrArg (fun z : Nat => (z : Int)) e
  · rename_i h1
    exact lt_dec (m := 4) h1
  · rename_i h1
    have hm' : m < 4 := lt_dec (m := 4) h1
    have h3 : (and64 (shr64 (maskOf (depq S 4) 4 : Nat) m) 1 == 1) = false := h
    rw [bit64_one (by omega) (by omega), dep_bit hm'] at h3
    refine ⟨⟨m + 1, hm'⟩, by show 4 - (m + 1) < 4 - m; omega, ?_⟩
    have e := fga_f h3
    (refine Wk.of ?_ ?_ rfl rfl rfl <;> (repeat' (first | (exact trivial) | (exact WkD.same _) | (exact WkO.same _ _ rfl) | (exact WkD.any _) | (refine WkD.int ?_) | (exact WkD.new' rfl rfl rfl) | (exact WkO.new _ _ rfl) | (refine WkO.vars rfl ?_) | (with_reducible rfl) | (exact rfl) | (refine ⟨?_, ?_⟩) | ((refine wrapA ?_ ?_ ?_); (focus (simp; done)); (focus ((try dsimp only); omega)); (focus ((try dsimp only); omega))) | fail)))
    exact congrArg (fun z : Nat => (z : Int)) e
  · have hm' : m = 4 := ge_dec (m := 4) h hm
    subst hm'
    exact le_bool hend
end Go.Proofs.Ythnfbkplkheliaa
namespace Go.Dv
open Go.RowKit (Below Below.trod)
open Go.ChangeShapes

def NoT : Nat → Prop := fun _ => False
def mkE (P : Program) (e : TypeId) (cs : List PV) : PV := match kindT P e with
  | some true => .agg cs
  | _ => (match cs with | [p] => p | _ => .agg cs)
/-- The fields lie without gaps. -/
def gapless (P : Program) : List Field → Nat → Nat → Bool
  | [], off, n => Nat.beq off n
  | f :: r, off, n => Nat.beq f.offset off && gapless P r (off + P.cellsOf f.type) n
/-- Is the type made of bools, integers, strings, slices and structs alone? -/
def plainT (P : Program) : Nat → TypeId → Bool
  | 0, _ => false
  | n + 1, t => match P.underlying t with
    | some .bool => true
    | some (.int _) => true
    | some .string => true
    | some (.slice e) => plainT P n e && !Nat.beq (P.cellsOf e) 0
    | some (.struct fs) => gapless P fs.toList 0 (P.cellsOf t) && fs.toList.all fun f => plainT P n f.type
    | some (.array m e) => Nat.beq (m * P.cellsOf e) (P.cellsOf t) && plainT P n e
    | _ => false
def TyAs (F : TypeId → List PV → Prop) (e : TypeId) : Nat → List PV → Prop
  | 0, ps => ps = []
  | m + 1, ps => ∃ a b, ps = a ++ b ∧ F e a ∧ TyAs F e m b
def TyFs (F : TypeId → List PV → Prop) : List Field → List PV → Prop
  | [], ps => ps = []
  | f :: r, ps => ∃ a b, ps = a ++ b ∧ F f.type a ∧ TyFs F r b
/-- The cells of a value of a type. -/
def TyC (P : Program) : Nat → TypeId → List PV → Prop
  | 0, _, _ => False
  | n + 1, t, ps => match P.underlying t with
    | some .bool => ∃ b, ps = [.bool b]
    | some (.int k) => ∃ m, ps = [.int k m] ∧ (Lit.int k m).wf = true
    | some .string => ∃ s, ps = [.str s]
    | some (.slice e) => ps = [.nil] ∨ ∃ l, ps = [.sl l] ∧ ∀ p, p ∈ l → ∃ cs, TyC P n e cs ∧ p = mkE P e cs
    | some (.struct fs) => TyFs (TyC P n) fs.toList ps
    | some (.array m e) => TyAs (TyC P n) e m ps
    | _ => False

theorem mkE_cells {P : Program} {n : Nat} {e : TypeId} {cs : List PV} (h : TyC P n e cs) : (mkE P e cs).cells = cs := by
  cases n with
  | zero => exact h.elim
  | succ n =>
    simp only [TyC] at h
    unfold mkE kindT
    split at h
    · rename_i hu; obtain ⟨b, rfl⟩ := h; simp [hu, PV.cells]
    · rename_i k hu; obtain ⟨m, rfl, _⟩ := h; simp [hu, PV.cells]
    · rename_i hu; obtain ⟨s, rfl⟩ := h; simp [hu, PV.cells]
    · rename_i e' hu; rcases h with rfl | ⟨l, rfl, _⟩ <;> simp [hu, PV.cells]
    · rename_i fs hu; simp [hu, PV.cells]
    · rename_i m e' hu; simp [hu, PV.cells]
    · exact h.elim

theorem relPs_nil (w : World) : RelPs NoT w [] [] := ⟨rfl, fun i p v h => by simp at h⟩
theorem relPs_one {w : World} {p : PV} {v : Value} (h : RelP NoT w p v) : RelPs NoT w [p] [v] := ⟨rfl, fun i q u hq hu => by
  cases i with
  | zero => simp at hq hu; subst hq; subst hu; exact h
  | succ i => simp at hq⟩
theorem relPs_append {w : World} {ps qs : List PV} {vs us : List Value} (h1 : RelPs NoT w ps vs) (h2 : RelPs NoT w qs us) : RelPs NoT w (ps ++ qs) (vs ++ us) := by
  refine ⟨by simp [h1.1, h2.1], fun i p v hp hv => ?_⟩
  rcases Nat.lt_or_ge i ps.length with hl | hl
  · rw [List.getElem?_append_left hl] at hp
    rw [List.getElem?_append_left (by rw [← h1.1]; exact hl)] at hv
    exact h1.2 i p v hp hv
  · rw [List.getElem?_append_right hl] at hp
    rw [List.getElem?_append_right (by rw [← h1.1]; exact hl), ← h1.1] at hv
    exact h2.2 _ p v hp hv

section
variable {H : Type} {enc : TypeId × Value → H} {P : Program} {w : World}

theorem fields_rel {F : TypeId → List PV → Prop} {cs : List Value} : ∀ (l : List Field) (off : Nat), (∀ f, f ∈ l → ∃ ps, F f.type ps ∧ RelPs NoT w ps ((cs.drop f.offset).take (P.cellsOf f.type))) → gapless P l off cs.length = true →
    ∃ ps, TyFs F l ps ∧ RelPs NoT w ps (cs.drop off)
  | [], off, _, hg => by
    simp only [gapless] at hg
    have : off = cs.length := Nat.eq_of_beq_eq_true hg
    exact ⟨[], rfl, by rw [this, List.drop_length]; exact relPs_nil w⟩
  | f :: r, off, hf, hg => by
    simp only [gapless, Bool.and_eq_true] at hg
    have ho : f.offset = off := Nat.eq_of_beq_eq_true hg.1
    obtain ⟨a, ha1, ha2⟩ := hf f (by simp)
    obtain ⟨b, hb1, hb2⟩ := fields_rel r (off + P.cellsOf f.type) (fun g hg' => hf g (by simp [hg'])) hg.2
    refine ⟨a ++ b, ⟨a, b, rfl, ha1, hb1⟩, ?_⟩
    have e : cs.drop off = (cs.drop off).take (P.cellsOf f.type) ++ cs.drop (off + P.cellsOf f.type) := by
      rw [← List.drop_drop, List.take_append_drop]
    rw [e]
    rw [ho] at ha2
    exact relPs_append ha2 hb2

theorem elems_rel {F : TypeId → List PV → Prop} {cs : List Value} {e : TypeId} : ∀ (m off : Nat), (∀ i, i < m → ∃ ps, F e ps ∧ RelPs NoT w ps ((cs.drop (off + i * P.cellsOf e)).take (P.cellsOf e))) → cs.length = off + m * P.cellsOf e →
    ∃ ps, TyAs F e m ps ∧ RelPs NoT w ps (cs.drop off)
  | 0, off, _, hg => ⟨[], rfl, by rw [show off = cs.length by omega, List.drop_length]; exact relPs_nil w⟩
  | m + 1, off, hf, hg => by
    obtain ⟨a, ha1, ha2⟩ := hf 0 (by omega)
    rw [Nat.zero_mul, Nat.add_zero] at ha2
    obtain ⟨b, hb1, hb2⟩ := elems_rel m (off + P.cellsOf e) (fun i hi => by
      have := hf (i + 1) (by omega)
      rwa [show off + (i + 1) * P.cellsOf e = off + P.cellsOf e + i * P.cellsOf e by rw [Nat.add_mul]; omega] at this) (by rw [hg, Nat.add_mul]; omega)
    refine ⟨a ++ b, ⟨a, b, rfl, ha1, hb1⟩, ?_⟩
    have e' : cs.drop off = (cs.drop off).take (P.cellsOf e) ++ cs.drop (off + P.cellsOf e) := by
      rw [← List.drop_drop, List.take_append_drop]
    rw [e']
    exact relPs_append ha2 hb2

theorem trod_rel : ∀ (n : Nat) (t : TypeId) (fuel : Nat) (cs : List Value) (x : DataW H × List MemPlace), plainT P n t = true → DataW.trod enc P w 0 (fun _ => true) true fuel t cs = some x → ∃ ps, TyC P n t ps ∧ RelPs NoT w ps cs
  | 0, t, fuel, cs, x, hp, _ => by simp [plainT] at hp
  | n + 1, t, fuel, cs, x, hp, h => by
    simp only [plainT] at hp
    simp only [TyC]
    split at hp
    · rename_i hu
      obtain ⟨b, rfl, _⟩ := DataW.trod_bool hu h
      exact ⟨[.bool b], ⟨b, rfl⟩, relPs_one (.bool b)⟩
    · rename_i k hu
      obtain ⟨m, rfl, _, hm⟩ := DataW.trod_int hu h
      exact ⟨[.int k m], ⟨m, rfl, hm⟩, relPs_one (.int k m)⟩
    · rename_i hu
      obtain ⟨s, rfl, _⟩ := DataW.trod_string hu h
      exact ⟨[.str s], ⟨s, rfl⟩, relPs_one (.str s)⟩
    · rename_i e hu
      simp only [Bool.and_eq_true, Bool.not_eq_true'] at hp
      have hpos : 0 < P.cellsOf e := by
        rcases Nat.eq_zero_or_pos (P.cellsOf e) with h0 | h0
        · rw [h0] at hp; simp at hp
        · exact h0
      rcases DataW.trod_slice hu h with ⟨rfl, _⟩ | ⟨a, len, cap, elems, rest, m, _, rfl, _, _, hle, _, hlen, hel, _, _⟩
      · exact ⟨[.nil], .inl rfl, relPs_one .nil⟩
      · -- each element
        have each : ∀ i, i < len → ∃ ps, TyC P n e ps ∧ ∃ us, w.cells? 0 (a.add (i * P.cellsOf e)) (P.cellsOf e) = some us ∧ RelPs NoT w ps us := by
          intro i hi
          have h1 := hel i hi
          rw [List.getElem?_eq_getElem (by omega)] at h1
          obtain ⟨us, h2, h3⟩ := Option.bind_eq_some_iff.1 h1
          obtain ⟨ps, h4, h5⟩ := trod_rel n e m us _ hp.1 h3
          exact ⟨ps, h4, us, h2, h5⟩
        cases len with
        | zero => exact ⟨[.sl []], .inr ⟨[], rfl, fun p hp => by simp at hp⟩, relPs_one (.e0 (some a) cap)⟩
        | succ len =>
          have hspot : a = ⟨a.block, a.off, none⟩ ∧ a.block < w.heap.size := by
            obtain ⟨ps, _, us, h2, _⟩ := each 0 (by omega)
            obtain ⟨_, hl, hc⟩ := World.cells?_some h2
            have := hc 0 hpos
            rw [Nat.zero_mul] at this
            have e0 : (a.add 0).add 0 = a := by simp [Addr.add]
            rw [e0, List.getElem?_eq_getElem (by omega)] at this
            unfold World.cell? at this
            split at this
            · rename_i c _ _ hb
              have hb' := (Array.getElem?_eq_some_iff.1 hb).1
              refine ⟨?_, hb'⟩
              cases hs : a.spot with
              | none => cases a; simp at hs; subst hs; rfl
              | some s => rw [hs] at this; simp at this
            · cases this
          obtain ⟨ha, hb⟩ := hspot
          have hch : ∃ f : Nat → List PV, ∀ i, i < len + 1 → TyC P n e (f i) ∧ ∃ us, w.cells? 0 (a.add (i * P.cellsOf e)) (P.cellsOf e) = some us ∧ RelPs NoT w (f i) us := by
            refine ⟨fun i => if hi : i < len + 1 then Classical.choose (each i hi) else [], fun i hi => ?_⟩
            simp only [dif_pos hi]
            exact Classical.choose_spec (each i hi)
          obtain ⟨f, hf⟩ := hch
          refine ⟨[.sl ((List.range (len + 1)).map fun i => mkE P e (f i))], .inr ⟨_, rfl, fun p hp => ?_⟩, relPs_one ?_⟩
          · obtain ⟨i, hi, rfl⟩ := List.mem_map.1 hp
            exact ⟨f i, (hf i (by simpa using hi)).1, rfl⟩
          · have hll : ((List.range (len + 1)).map fun i => mkE P e (f i)).length = len + 1 := by simp
            have hcell : ∀ i, i < len + 1 → ∃ us : List Value, us.length = P.cellsOf e ∧ (f i).length = P.cellsOf e ∧ (∀ j, j < P.cellsOf e → w.cell? ⟨a.block, a.off + i * P.cellsOf e + j, none⟩ = us[j]?) ∧ RelPs NoT w (f i) us := by
              intro i hi
              obtain ⟨_, us, h2, h3⟩ := hf i hi
              obtain ⟨_, hl, hc⟩ := World.cells?_some h2
              refine ⟨us, hl, by rw [h3.1, hl], fun j hj => ?_, h3⟩
              rw [← hc j hj]
              congr 1
              rw [ha]
              simp only [Addr.add]
              by_cases e1 : i * P.cellsOf e = 0 <;> by_cases e2 : j = 0 <;> simp [e1, e2, Nat.add_assoc]
            have hget : ∀ (i : Nat) p, ((List.range (len + 1)).map fun i => mkE P e (f i))[i]? = some p → i < len + 1 ∧ p.cells = f i := by
              intro i p hp
              have hi : i < len + 1 := by have := (List.getElem?_eq_some_iff.1 hp).1; simpa using this
              rw [List.getElem?_map, List.getElem?_range hi] at hp
              simp at hp; subst hp
              exact ⟨hi, mkE_cells (hf i hi).1⟩
            have key := RelP.sl (T := NoT) (w := w) a.block a.off (P.cellsOf e) cap ((List.range (len + 1)).map fun i => mkE P e (f i)) (fun i j => (w.cell? ⟨a.block, a.off + i * P.cellsOf e + j, none⟩).getD undef) (fun h => h) hb (by rw [hll]; exact hle)
              (fun p hp => by
                obtain ⟨i, hi⟩ := List.mem_iff_getElem?.1 hp
                obtain ⟨h1, h2⟩ := hget i p hi
                obtain ⟨us, _, g2, _⟩ := hcell i h1
                rw [h2, g2])
              (fun i p j q hp hq => by
                obtain ⟨h1, h2⟩ := hget i p hp
                obtain ⟨us, g1, g2, g3, g4⟩ := hcell i h1
                rw [h2] at hq
                have hj : j < P.cellsOf e := by have := (List.getElem?_eq_some_iff.1 hq).1; omega
                rw [g3 j hj, List.getElem?_eq_getElem (by omega)]; rfl)
              (fun i p j q hp hq => by
                obtain ⟨h1, h2⟩ := hget i p hp
                obtain ⟨us, g1, g2, g3, g4⟩ := hcell i h1
                rw [h2] at hq
                have hj : j < P.cellsOf e := by have := (List.getElem?_eq_some_iff.1 hq).1; omega
                rw [g3 j hj, List.getElem?_eq_getElem (by omega)]
                exact g4.2 j q _ hq (List.getElem?_eq_getElem (by omega)))
            rw [hll, ← ha] at key
            exact key
    · rename_i fs hu
      simp only [Bool.and_eq_true, List.all_eq_true] at hp
      obtain ⟨xs, m, _, _, hl, hxl, hx⟩ := DataW.trod_struct hu h
      obtain ⟨ps, h1, h2⟩ := fields_rel (P := P) (w := w) (F := TyC P n) (cs := cs) fs.toList 0 (fun f hf => by
        obtain ⟨i, hi⟩ := List.mem_iff_getElem?.1 hf
        have hi' : fs[i]? = some f := by simpa using hi
        have := hx i f hi'
        have hlt : i < xs.length := by rw [hxl]; exact (Array.getElem?_eq_some_iff.1 hi').1
        rw [List.getElem?_eq_getElem hlt] at this
        exact trod_rel n f.type m _ _ (hp.2 f hf) this) (by rw [hl]; exact hp.1)
      exact ⟨ps, h1, by simpa using h2⟩
    · rename_i m e hu
      simp only [Bool.and_eq_true] at hp
      have hsz : m * P.cellsOf e = P.cellsOf t := Nat.eq_of_beq_eq_true hp.1
      obtain ⟨xs, k, _, _, hl, hxl, hx⟩ := DataW.trod_array hu h
      obtain ⟨ps, h1, h2⟩ := elems_rel (P := P) (w := w) (F := TyC P n) (cs := cs) (e := e) m 0 (fun i hi => by
        have := hx i hi
        rw [List.getElem?_eq_getElem (by omega)] at this
        rw [Nat.zero_add]
        exact trod_rel n e k _ _ hp.2 this) (by rw [hl, ← hsz, Nat.zero_add])
      exact ⟨ps, h1, by simpa using h2⟩
    · cases hp

theorem shut_bool' {w' : World} {base : Nat} {spare : Nat → Bool} {held : Bool} {t : TypeId} (ht : P.underlying t = some .bool) : DataW.Trod enc P w' base spare held t (.bool true) (.lit (.bool true)) [] :=
  ⟨1, by simp [DataW.trod, Value.cells, ht]⟩
/-- A parameter's pure value. -/
def TyA (P : Program) (n : Nat) (t : TypeId) (p : PV) : Prop := ∃ cs, TyC P n t cs ∧ p = mkE P t cs
def TyAll (P : Program) (n : Nat) : List TypeId → List PV → Prop
  | [], ps => ps = []
  | t :: ts, ps => ∃ p r, ps = p :: r ∧ TyA P n t p ∧ TyAll P n ts r

theorem arg_rel {n : Nat} {t : TypeId} {v : Value} {d : DataW H} {q : List MemPlace} {r : Reach} {b : Nat} (hp : plainT P n t = true) (hval : Value.okWide P w r b t v) (h : DataW.Trod enc P w 0 (fun _ => true) true t v d q) :
    ∃ p, TyA P n t p ∧ RelP NoT w p v := by
  obtain ⟨fuel, h⟩ := h
  obtain ⟨ps, h1, h2⟩ := trod_rel n t fuel _ _ hp h
  refine ⟨mkE P t ps, ⟨ps, h1, rfl⟩, ?_⟩
  cases n with
  | zero => exact h1.elim
  | succ n =>
    have h1' := h1
    simp only [TyC] at h1
    have single : ∀ p, ps = [p] → (∀ xs, v = .agg xs → False) → RelP NoT w p v := by
      intro p hps ho
      subst hps
      have hc : v.cells.toList = [v] := by cases v with
        | agg xs => exact (ho xs rfl).elim
        | _ => rfl
      rw [hc] at h2
      exact h2.2 0 p v rfl rfl
    unfold mkE kindT
    split at h1
    · rename_i hu
      obtain ⟨b, rfl⟩ := h1
      simp only [hu]
      exact single _ rfl fun xs e => by subst e; simp [Value.okWide, hu, Cell.okWide, Cell.ok] at hval
    · rename_i k hu
      obtain ⟨m, rfl, _⟩ := h1
      simp only [hu]
      exact single _ rfl fun xs e => by subst e; simp [Value.okWide, hu, Cell.okWide, Cell.ok] at hval
    · rename_i hu
      obtain ⟨s, rfl⟩ := h1
      simp only [hu]
      exact single _ rfl fun xs e => by subst e; simp [Value.okWide, hu, Cell.okWide, Cell.ok] at hval
    · rename_i e hu
      have ho : ∀ xs, v = .agg xs → False := fun xs e => by subst e; simp [Value.okWide, hu, Cell.okWide, Cell.ok] at hval
      rcases h1 with rfl | ⟨l, rfl, _⟩
      · simp only [hu]; exact single _ rfl ho
      · simp only [hu]; exact single _ rfl ho
    · rename_i fs hu
      simp only [hu]
      simp only [Value.okWide, hu] at hval
      obtain ⟨cs, rfl, _⟩ := hval
      exact .agg ps cs.toList h2.1 fun i p v hp hv => h2.2 i p v hp hv
    · rename_i m e hu
      simp only [hu]
      simp only [Value.okWide, hu] at hval
      obtain ⟨cs, rfl, _⟩ := hval
      exact .agg ps cs.toList h2.1 fun i p v hp hv => h2.2 i p v hp hv
    · exact h1.elim

theorem args_rel {n : Nat} {r : Reach} {b : Nat} : ∀ (ts : List TypeId) (vs : List Value) (ds : List (DataW H)) (q : List MemPlace), (ts.all fun t => plainT P n t) = true → (∀ (j : Nat) t v, ts[j]? = some t → vs[j]? = some v → Value.okWide P w r b t v) →
    DataW.TrodAll enc P w 0 (fun _ => true) true ts vs ds q → ∃ ps, TyAll P n ts ps ∧ RelPs NoT w ps vs
  | [], vs, ds, q, _, _, h => by
    cases vs with
    | nil => exact ⟨[], rfl, relPs_nil w⟩
    | cons v vs => cases ds <;> exact h.elim
  | t :: ts, vs, ds, q, hp, hval, h => by
    cases vs with
    | nil => cases ds <;> exact h.elim
    | cons v vs =>
      cases ds with
      | nil => exact h.elim
      | cons d ds =>
        obtain ⟨a, c, h1, h2, _⟩ := h
        simp only [List.all_cons, Bool.and_eq_true] at hp
        obtain ⟨p, g1, g2⟩ := arg_rel hp.1 (hval 0 t v rfl rfl) h1
        obtain ⟨ps, g3, g4⟩ := args_rel ts vs ds c hp.2 (fun j t v ht hv => hval (j + 1) t v (by simpa using ht) (by simpa using hv)) h2
        exact ⟨p :: ps, ⟨p, ps, rfl, g1, g3⟩, relPs_append (relPs_one g2) g4⟩

theorem trods_stay {w' : World} (hl : laidOutB P = true) (hb : Below w.heap.size w w') : ∀ (ts : List TypeId) (vs : List Value) (ds : List (DataW H)) (q : List MemPlace), (ts.all fun t => P.readableRec t && decide (t < P.types.size)) = true → (∀ x ∈ q, x.block < w.heap.size) →
    DataW.TrodAll enc P w 0 (fun _ => true) true ts vs ds q → DataW.TrodAll enc P w' 0 (fun b => decide (b < w.heap.size)) true ts vs ds q
  | [], vs, ds, q, _, _, h => by
    cases vs <;> cases ds <;> exact h
  | t :: ts, vs, ds, q, hr, hlt, h => by
    cases vs with
    | nil => cases ds <;> exact h.elim
    | cons v vs =>
      cases ds with
      | nil => exact h.elim
      | cons d ds =>
        obtain ⟨a, c, h1, h2, rfl⟩ := h
        simp only [List.all_cons, Bool.and_eq_true, decide_eq_true_eq] at hr
        exact ⟨a, c, Below.trod hl hr.1.1 hr.1.2 h1 hb (fun x hx => hlt x (List.mem_append_left _ hx)), trods_stay hl hb ts vs ds c hr.2 (fun x hx => hlt x (List.mem_append_right _ hx)) h2, rfl⟩

/-- What a law's row asks of each call. -/
theorem law_calls {n : Nat} {f : FuncId} {fn : Func} {s : ChangeSpec} {tb : TypeId} {apart : Bool} {W : World} {base : Nat} {args : Array Value} {ds gs : List (DataW H)} {before : List MemPlace} (hl : laidOutB P = true)
    (hr : (fn.params.toList.all fun t => P.readableRec t && decide (t < P.types.size)) = true) (hp : (fn.params.toList.all fun t => plainT P n t) = true) (hres : fn.resultTypes = #[tb]) (hb : P.underlying tb = some .bool) (hvs : s.vars = [])
    (hs : ∀ ds : List (DataW H), ds.length = fn.params.toList.length → s.fn H ds = { results := [.lit (.bool true)], args := ds })
    (hval : ∀ (j : Nat) t v, fn.params[j]? = some t → args[j]? = some v → Value.okWide P W .any base t v) (hW : DataW.Whole enc P fn.params.toList s.vars apart W args.toList ds gs before)
    (hpure : ∀ ps, TyAll P n fn.params.toList ps → PureFn P f ps (.bool true)) :
    Calls P f args W fun e W' => ∃ v, e = .returned v ∧ s.post enc P fn apart true false false W args v W' := by
  have hW' := hW
  obtain ⟨p, q, hA, hV, rfl, hfz, hnd⟩ := hW
  rw [hvs] at hV
  obtain ⟨rfl, rfl⟩ : gs = [] ∧ q = [] := by cases gs with
    | nil => exact ⟨rfl, hV⟩
    | cons g gs => exact hV.elim
  obtain ⟨ps, h1, h2⟩ := args_rel (n := n) (r := .any) (b := base) fn.params.toList args.toList ds p hp (fun j t v ht hv => hval j t v (by simpa using ht) (by simpa using hv)) hA
  refine ((hpure ps h1).elim.2 NoT W args.toList (fun b hb => hb.elim) h2).mono ?_
  rintro e W' ⟨v, rfl, hv, hB⟩
  obtain rfl : v = .bool true := by cases hv; rfl
  have hlen : ds.length = fn.params.toList.length := by
    have : ∀ (ts : List TypeId) (vs : List Value) (ds : List (DataW H)) (q : List MemPlace), DataW.TrodAll enc P W 0 (fun _ => true) true ts vs ds q → ds.length = ts.length := by
      intro ts
      induction ts with
      | nil => intro vs ds q h; cases vs <;> cases ds <;> first | rfl | exact h.elim
      | cons t ts ih =>
        intro vs ds q h
        cases vs with
        | nil => cases ds <;> exact h.elim
        | cons v vs =>
          cases ds with
          | nil => exact h.elim
          | cons d ds => obtain ⟨a, c, _, h2, _⟩ := h; simp [ih vs ds c h2]
    exact this _ _ _ _ hA
  have hlt : ∀ x ∈ p, x.block < W.heap.size := fun x hx => hW'.lt x (by simpa using hx)
  have e1 : s.fn H (ds ++ []) = { results := [.lit (.bool true)], args := ds } := by rw [List.append_nil]; exact hs ds hlen
  refine ⟨_, rfl, ds, [], _, [], p, [], hW', ?_, ?_, ?_, hB.frame _, fun h => by cases h⟩
  · rw [e1, hres]
    exact trodAll_mk1 (shut_bool' hb)
  · rw [e1]
    exact trods_stay hl hB fn.params.toList args.toList ds p hr hlt hA
  · rw [e1, hvs]
    exact rfl
end
end Go.Dv
set_option maxRecDepth 100000
set_option maxHeartbeats 4000000
namespace Go.Proofs.Ythnfbkplkheliaa
open Go Go.Dv

theorem bb (b : Bool) : (b == b) = true := by cases b <;> rfl
end Go.Proofs.Ythnfbkplkheliaa
set_option maxRecDepth 100000
set_option maxHeartbeats 4000000
namespace Go.Proofs.Ythnfbkplkheliaa
open Go Go.Dv

theorem Try.own : ownKnob Try.prog.godebug = none := by kernel_rfl
theorem Try.laidOut : laidOutB Try.prog = true := by kernel_rfl
theorem u_int : Try.prog.underlying 3 = some (.int .i64) := by kernel_rfl
theorem u_nodes : Try.prog.underlying 22 = some (.slice 60) := by kernel_rfl

theorem int_of {n : Nat} {cs : List PV} (h : TyC Try.prog (n + 1) 3 cs) : ∃ i : Int, cs = [.int .i64 i] ∧ (Lit.int .i64 i).wf = true := by
  simp only [TyC, u_int] at h
  obtain ⟨m, rfl, hm⟩ := h
  exact ⟨m, rfl, hm⟩
theorem arg_int {n : Nat} {p : PV} (h : TyA Try.prog (n + 1) 3 p) : ∃ i : Int, p = .int .i64 i ∧ (Lit.int .i64 i).wf = true := by
  obtain ⟨cs, h1, rfl⟩ := h
  obtain ⟨i, rfl, hi⟩ := int_of h1
  exact ⟨i, by simp only [mkE, kindT, u_int], hi⟩
theorem u_node : ∃ fs : Array Field, Try.prog.underlying 60 = some (.struct fs) ∧ fs.toList.map (·.type) = [3, 3, 3, 3, 3, 3] := ⟨_, rfl, by kernel_rfl⟩
theorem nd_of {n : Nat} {cs : List PV} (h : TyC Try.prog (n + 2) 60 cs) : ∃ x : Nd, mkE Try.prog 60 cs = x.pv := by
  obtain ⟨fs, hu, hf⟩ := u_node
  simp only [TyC, hu] at h
  have key : ∀ (l : List Field) (k : Nat) (ps : List PV), l.map (·.type) = List.replicate k 3 → TyFs (TyC Try.prog (n + 1)) l ps → ∃ is : List Int, is.length = k ∧ ps = is.map (PV.int .i64) := by
    intro l
    induction l with
    | nil => intro k ps hk hp; simp only [TyFs] at hp; subst hp; cases k with
      | zero => exact ⟨[], rfl, rfl⟩
      | succ k => simp [List.replicate] at hk
    | cons f r ih =>
      intro k ps hk hp
      cases k with
      | zero => simp at hk
      | succ k =>
        simp only [List.map_cons, List.replicate_succ, List.cons.injEq] at hk
        obtain ⟨a, b, rfl, h1, h2⟩ := hp
        rw [hk.1] at h1
        obtain ⟨i, rfl, _⟩ := int_of h1
        obtain ⟨is, h3, rfl⟩ := ih k b hk.2 h2
        exact ⟨i :: is, by simp [h3], rfl⟩
  obtain ⟨is, h1, rfl⟩ := key fs.toList 6 cs hf h
  match is, h1 with
  | [a, b, c, d, e, f], _ => exact ⟨⟨a, b, c, d, e, f⟩, by simp only [mkE, kindT, hu]; rfl⟩
theorem arg_nodes {n : Nat} {p : PV} (h : TyA Try.prog (n + 3) 22 p) : ∃ f : List Nd, PLe p (fpv f) := by
  obtain ⟨cs, h1, rfl⟩ := h
  simp only [TyC, u_nodes] at h1
  rcases h1 with rfl | ⟨l, rfl, hl⟩
  · exact ⟨[], by simp only [mkE, kindT, u_nodes]; exact .nil⟩
  · have : ∃ f : List Nd, l = f.map Nd.pv := by
      induction l with
      | nil => exact ⟨[], rfl⟩
      | cons p r ih =>
        obtain ⟨cs, g1, g2⟩ := hl p (by simp)
        obtain ⟨x, hx⟩ := nd_of g1
        obtain ⟨f, rfl⟩ := ih fun q hq => hl q (by simp [hq])
        exact ⟨x :: f, by rw [g2, hx]; rfl⟩
    obtain ⟨f, rfl⟩ := this
    exact ⟨f, by simp only [mkE, kindT, u_nodes]; exact .refl _⟩
end Go.Proofs.Ythnfbkplkheliaa
set_option maxRecDepth 100000
set_option maxHeartbeats 4000000
namespace Go.Proofs.Ythnfbkplkheliaa
open Go Go.Dv

theorem u_u64 : Try.prog.underlying 24 = some (.int .u64) := by kernel_rfl
theorem u_arrI : Try.prog.underlying 33 = some (.array 2 3) := by kernel_rfl
theorem u_arrU : Try.prog.underlying 34 = some (.array 2 24) := by kernel_rfl
theorem u64_of {n : Nat} {cs : List PV} (h : TyC Try.prog (n + 1) 24 cs) : ∃ s : Nat, cs = [u64 s] ∧ s < 2 ^ 64 := by
  simp only [TyC, u_u64] at h
  obtain ⟨m, rfl, hm⟩ := h
  simp [Lit.wf, IntKind.min, IntKind.max, IntKind.signed, IntKind.bits] at hm
  refine ⟨m.toNat, ?_, by omega⟩
  rw [u64, show ((m.toNat : Nat) : Int) = m by omega]
theorem arg_u64 {n : Nat} {p : PV} (h : TyA Try.prog (n + 1) 24 p) : ∃ s : Nat, p = u64 s ∧ s < 2 ^ 64 := by
  obtain ⟨cs, h1, rfl⟩ := h
  obtain ⟨s, rfl, hs⟩ := u64_of h1
  exact ⟨s, by simp only [mkE, kindT, u_u64], hs⟩
theorem arg_arrI {n : Nat} {p : PV} (h : TyA Try.prog (n + 2) 33 p) : ∃ u v : Int, p = .agg [.int .i64 u, .int .i64 v] := by
  obtain ⟨cs, h1, rfl⟩ := h
  simp only [TyC, u_arrI] at h1
  obtain ⟨a, b, rfl, ha, c, d, rfl, hc, rfl⟩ := h1
  obtain ⟨u, rfl, _⟩ := int_of (n := n) ha
  obtain ⟨v, rfl, _⟩ := int_of (n := n) hc
  exact ⟨u, v, by simp only [mkE, kindT, u_arrI]; rfl⟩
theorem arg_arrU {n : Nat} {p : PV} (h : TyA Try.prog (n + 2) 34 p) : ∃ u v : Nat, p = .agg [u64 u, u64 v] ∧ u < 2 ^ 64 ∧ v < 2 ^ 64 := by
  obtain ⟨cs, h1, rfl⟩ := h
  simp only [TyC, u_arrU] at h1
  obtain ⟨a, b, rfl, ha, c, d, rfl, hc, rfl⟩ := h1
  obtain ⟨u, rfl, hu⟩ := u64_of (n := n) ha
  obtain ⟨v, rfl, hv⟩ := u64_of (n := n) hc
  exact ⟨u, v, by simp only [mkE, kindT, u_arrU]; rfl, hu, hv⟩
theorem u_u8 : Try.prog.underlying 5 = some (.int .u8) := by kernel_rfl
theorem arg_u8 {n : Nat} {p : PV} (h : TyA Try.prog (n + 1) 5 p) : ∃ s : Nat, p = .int .u8 (s : Int) ∧ s < 256 := by
  obtain ⟨cs, h1, rfl⟩ := h
  simp only [TyC, u_u8] at h1
  obtain ⟨m, rfl, hm⟩ := h1
  simp [Lit.wf, IntKind.min, IntKind.max, IntKind.signed, IntKind.bits] at hm
  refine ⟨m.toNat, ?_, by omega⟩
  simp only [mkE, kindT, u_u8]
  rw [show ((m.toNat : Nat) : Int) = m by omega]
end Go.Proofs.Ythnfbkplkheliaa
