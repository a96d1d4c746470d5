/- Parts of the proof, one after the other: Belief sets: the examples of the laws; the laws of equality walked. Formulas: the law FormulaBuilds walked. Formulas: a canonical list is what its last node's constructor makes of its operands (plain). Belief sets: the value of a formula by its tree; the formula of a set has the set as models (plain). Belief sets: distance is a metric, the closest valuations, forgetting (plain). Belief sets: the laws about the way back and about the metric, walked. -/
import Derived.Test.YthnfbkplkheliaaM9
set_option maxRecDepth 100000
set_option maxHeartbeats 4000000
namespace Go.Proofs.Ythnfbkplkheliaa
open Go Go.Dv

theorem bs_awake : PureFn Try.prog 11 [] (.bool true) := by
  obtain ⟨P, qP⟩ : ∃ z : List Nd, z = buildL (nI 3 0) [] := ⟨_, rfl⟩
  obtain ⟨Q, qQ⟩ : ∃ z : List Nd, z = buildL (nI 3 1) [] := ⟨_, rfl⟩
  have hP := fm_Fact 0
  rw [← qP] at hP
  have hQ := fm_Fact 1
  rw [← qQ] at hQ
  obtain ⟨I, qI⟩ : ∃ z : List Nd, z = buildL (n0 7) [P, Q] := ⟨_, rfl⟩
  have hI := fm_Imp P Q
  rw [← qI] at hI
  obtain ⟨K, qK⟩ : ∃ z : List Nd, z = buildL (nI 9 0) [P] := ⟨_, rfl⟩
  have hK := fm_Know 0 P
  rw [← qK] at hK
  obtain ⟨N, qN⟩ : ∃ z : List Nd, z = buildL (n0 4) [Q] := ⟨_, rfl⟩
  have hN := fm_Not Q
  rw [← qN] at hN
  obtain ⟨A, qA⟩ : ∃ z : List Nd, z = buildL (n0 5) [P, N] := ⟨_, rfl⟩
  have hA := fm_And P N
  rw [← qA] at hA
  obtain ⟨B, qB⟩ : ∃ z : List Nd, z = formulaL 2 2 := ⟨_, rfl⟩
  have hM1 := (bs_Models I 2).to (q := .tup [.int .u64 13, .int .i64 0]) (by rw [qI, qP, qQ]; kernel_rfl)
  have hF := (bs_Formula 2 2 (by decide)).to (q := .tup [fpv B, .int .i64 0]) (by rw [qB]; kernel_rfl)
  have hC := (bs_Closest 12 2 2 (by decide) (by decide)).to (q := .tup [.int .u64 8, .int .i64 0]) (by kernel_rfl)
  have hKn := (bs_Known 10 2 (by decide)).to (q := .tup [.int .i64 1, .int .i64 0, .int .i64 0]) (by kernel_rfl)
  have hFo := (bs_Forget 2 1 2 (by decide)).to (q := .tup [.int .u64 10, .int .i64 0]) (by kernel_rfl)
  have hD := (bs_Depends 10 2 (by decide)).to (q := .tup [.int .i64 1, .int .i64 0]) (by kernel_rfl)
  have hM2 := (bs_Models K 2).to (q := .tup [.int .u64 0, .int .i64 10]) (by rw [qK, qP]; kernel_rfl)
  have hS := (fm_Same B A).to (q := .bool true) (by rw [qB, qA, qN, qP, qQ]; kernel_rfl)
  have hDi := (bs_Distance 1 2 2).to (q := .int .i64 2) (by kernel_rfl)
  have hBe := (bs_Between 2 12 2 (by decide) (by decide)).to (q := .int .i64 1) (by kernel_rfl)
  have hCk := (bs_Check 16 2 (by decide)).to (q := .int .i64 2) (by kernel_rfl)
  refine PureFn.introC [2, 3, 4, 5, 6, 7, 8, 9, 10] mixed (fn := Try.f11) rfl rfl rfl fun M w0 => ?_
  (try (conv => whnf)); repeat' (first | (apply And.intro <;> (try (conv => whnf))) | (intro h; first | (with_reducible exact tf0 h) | (with_reducible exact ft0 h) | (with_reducible exact nt0 h) | (with_reducible exact nf0 h) | (exact litz h rfl) | (with_reducible exact tf h (by with_reducible assumption)) | (with_reducible exact tf (by with_reducible assumption) h) | (try (conv => whnf))) | (with_reducible rfl) | (apply True.intro) | (apply infoT; rfl) | (apply bleI; rfl) | (apply fitI; rfl) | (apply cellsI; rfl) | (apply szI; rfl) | (apply guardI; kernel_rfl) | (apply WhenQ.mk; (try (conv => whnf)); rotate_left; (try (conv => whnf)); rotate_right) | (with_reducible assumption) | (apply not_of; with_reducible assumption) | (apply left_of; with_reducible assumption) | (apply left_of; apply left_of; with_reducible assumption) | (apply and_of <;> first | (with_reducible assumption) | (apply not_of; with_reducible assumption))| (refine lin_plan (by kernel_rfl) ?_; (try (conv => whnf))) | (refine ⟨_, _, rfl, idx_map (by with_reducible assumption), rfl, ?_⟩; (try (conv => whnf))) | (refine ⟨rfl, ?_⟩; (try (conv => whnf))) | (exact Nat.le_refl 1) | ((apply ex3); (focus (with_reducible assumption)); (focus (with_reducible assumption)); (try (conv => whnf))) | ((apply ex2); (focus (with_reducible assumption)); (try (conv => whnf))) | fail)
  refine ⟨Unit, fun _ => [(1, .pv (fpv P)), (2, .pv (fpv Q))], fun _ => 0, fun _ => [], ?_, ?_⟩
  · (try (conv => whnf)); repeat' (first | (apply And.intro <;> (try (conv => whnf))) | (intro h; first | (with_reducible exact tf0 h) | (with_reducible exact ft0 h) | (with_reducible exact nt0 h) | (with_reducible exact nf0 h) | (exact litz h rfl) | (with_reducible exact tf h (by with_reducible assumption)) | (with_reducible exact tf (by with_reducible assumption) h) | (try (conv => whnf))) | (with_reducible rfl) | (apply True.intro) | (apply infoT; rfl) | (apply bleI; rfl) | (apply fitI; rfl) | (apply cellsI; rfl) | (apply szI; rfl) | (apply guardI; kernel_rfl) | (apply WhenQ.mk; (try (conv => whnf)); rotate_left; (try (conv => whnf)); rotate_right) | (with_reducible assumption) | (apply not_of; with_reducible assumption) | (apply left_of; with_reducible assumption) | (apply left_of; apply left_of; with_reducible assumption) | (apply and_of <;> first | (with_reducible assumption) | (apply not_of; with_reducible assumption))| (refine lin_plan (by kernel_rfl) ?_; (try (conv => whnf))) | (refine ⟨_, _, rfl, idx_map (by with_reducible assumption), rfl, ?_⟩; (try (conv => whnf))) | (refine ⟨rfl, ?_⟩; (try (conv => whnf))) | (exact Nat.le_refl 1) | ((apply ex3); (focus (with_reducible assumption)); (focus (with_reducible assumption)); (try (conv => whnf))) | ((apply ex2); (focus (with_reducible assumption)); (try (conv => whnf))) | (refine PureFn.dcq (f := 31) rfl ?_; (try (conv => whnf))) | (refine PureFn.dcq (f := 31) rfl ?_; (try (conv => whnf))) | ((refine ⟨_, _, hP, ?_, ?_⟩); (focus (first | (refine ⟨?_, trivial⟩ <;> first | (exact PLe.refl _) | (exact PLe.nil)) | (exact trivial))); (try (conv => whnf))) | (refine ⟨_, (by (conv => whnf); exact hP), rfl, ?_⟩; (try (conv => whnf))) | ((refine ⟨_, _, hQ, ?_, ?_⟩); (focus (first | (refine ⟨?_, trivial⟩ <;> first | (exact PLe.refl _) | (exact PLe.nil)) | (exact trivial))); (try (conv => whnf))) | (refine ⟨_, (by (conv => whnf); exact hQ), rfl, ?_⟩; (try (conv => whnf))) | fail)
    exact ⟨(), (by refine Wk.of ?_ ?_ rfl rfl rfl <;> (repeat' (first | (exact trivial) | (exact WkD.same _) | (exact WkO.same _ _ rfl) | (exact WkD.any _) | (refine WkD.int ?_) | (exact WkD.new' rfl rfl rfl) | (exact WkO.new _ _ rfl) | (refine WkO.vars rfl ?_) | (with_reducible rfl) | (exact rfl) | (refine ⟨?_, ?_⟩) | ((refine wrapA ?_ ?_ ?_); (focus (simp; done)); (focus ((try dsimp only); omega)); (focus ((try dsimp only); omega))) | fail)))⟩
  rintro ⟨⟩
  refine ⟨Unit, fun _ => [(1, .pv (fpv P)), (2, .pv (fpv Q)), (3, .pv (.int .u64 13)), (4, .pv (.int .i64 0))], fun _ => 0, fun _ => [], ?_, ?_⟩
  · (try (conv => whnf)); repeat' (first | (apply And.intro <;> (try (conv => whnf))) | (intro h; first | (with_reducible exact tf0 h) | (with_reducible exact ft0 h) | (with_reducible exact nt0 h) | (with_reducible exact nf0 h) | (exact litz h rfl) | (with_reducible exact tf h (by with_reducible assumption)) | (with_reducible exact tf (by with_reducible assumption) h) | (try (conv => whnf))) | (with_reducible rfl) | (apply True.intro) | (apply infoT; rfl) | (apply bleI; rfl) | (apply fitI; rfl) | (apply cellsI; rfl) | (apply szI; rfl) | (apply guardI; kernel_rfl) | (apply WhenQ.mk; (try (conv => whnf)); rotate_left; (try (conv => whnf)); rotate_right) | (with_reducible assumption) | (apply not_of; with_reducible assumption) | (apply left_of; with_reducible assumption) | (apply left_of; apply left_of; with_reducible assumption) | (apply and_of <;> first | (with_reducible assumption) | (apply not_of; with_reducible assumption))| (refine lin_plan (by kernel_rfl) ?_; (try (conv => whnf))) | (refine ⟨_, _, rfl, idx_map (by with_reducible assumption), rfl, ?_⟩; (try (conv => whnf))) | (refine ⟨rfl, ?_⟩; (try (conv => whnf))) | (exact Nat.le_refl 1) | ((apply ex3); (focus (with_reducible assumption)); (focus (with_reducible assumption)); (try (conv => whnf))) | ((apply ex2); (focus (with_reducible assumption)); (try (conv => whnf))) | (refine PureFn.dcq (f := 32) rfl ?_; (try (conv => whnf))) | (refine PureFn.dcq (f := 12) rfl ?_; (try (conv => whnf))) | ((refine ⟨_, _, hI, ?_, ?_⟩); (focus (first | (refine ⟨?_, ?_, trivial⟩ <;> first | (exact PLe.refl _) | (exact PLe.nil)) | (exact trivial))); (try (conv => whnf))) | (refine ⟨_, (by (conv => whnf); exact hI), rfl, ?_⟩; (try (conv => whnf))) | ((refine ⟨_, _, hM1, ?_, ?_⟩); (focus (first | (refine ⟨?_, ?_, trivial⟩ <;> first | (exact PLe.refl _) | (exact PLe.nil)) | (exact trivial))); (try (conv => whnf))) | (refine ⟨_, (by (conv => whnf); exact hM1), rfl, ?_⟩; (try (conv => whnf))) | fail)
    exact ⟨(), (by refine Wk.of ?_ ?_ rfl rfl rfl <;> (repeat' (first | (exact trivial) | (exact WkD.same _) | (exact WkO.same _ _ rfl) | (exact WkD.any _) | (refine WkD.int ?_) | (exact WkD.new' rfl rfl rfl) | (exact WkO.new _ _ rfl) | (refine WkO.vars rfl ?_) | (with_reducible rfl) | (exact rfl) | (refine ⟨?_, ?_⟩) | ((refine wrapA ?_ ?_ ?_); (focus (simp; done)); (focus ((try dsimp only); omega)); (focus ((try dsimp only); omega))) | fail)))⟩
  rintro ⟨⟩
  refine ⟨Unit, fun _ => [(1, .pv (fpv P)), (2, .pv (fpv Q)), (3, .pv (.int .u64 13)), (4, .pv (.int .i64 0)), (5, .pv (fpv B)), (6, .pv (.int .i64 0))], fun _ => 0, fun _ => [], ?_, ?_⟩
  · (try (conv => whnf)); repeat' (first | (apply And.intro <;> (try (conv => whnf))) | (intro h; first | (with_reducible exact tf0 h) | (with_reducible exact ft0 h) | (with_reducible exact nt0 h) | (with_reducible exact nf0 h) | (exact litz h rfl) | (with_reducible exact tf h (by with_reducible assumption)) | (with_reducible exact tf (by with_reducible assumption) h) | (try (conv => whnf))) | (with_reducible rfl) | (apply True.intro) | (apply infoT; rfl) | (apply bleI; rfl) | (apply fitI; rfl) | (apply cellsI; rfl) | (apply szI; rfl) | (apply guardI; kernel_rfl) | (apply WhenQ.mk; (try (conv => whnf)); rotate_left; (try (conv => whnf)); rotate_right) | (with_reducible assumption) | (apply not_of; with_reducible assumption) | (apply left_of; with_reducible assumption) | (apply left_of; apply left_of; with_reducible assumption) | (apply and_of <;> first | (with_reducible assumption) | (apply not_of; with_reducible assumption))| (refine lin_plan (by kernel_rfl) ?_; (try (conv => whnf))) | (refine ⟨_, _, rfl, idx_map (by with_reducible assumption), rfl, ?_⟩; (try (conv => whnf))) | (refine ⟨rfl, ?_⟩; (try (conv => whnf))) | (exact Nat.le_refl 1) | ((apply ex3); (focus (with_reducible assumption)); (focus (with_reducible assumption)); (try (conv => whnf))) | ((apply ex2); (focus (with_reducible assumption)); (try (conv => whnf))) | (refine PureFn.dcq (f := 14) rfl ?_; (try (conv => whnf))) | ((refine ⟨_, _, hF, ?_, ?_⟩); (focus (first | (refine ⟨?_, ?_, trivial⟩ <;> first | (exact PLe.refl _) | (exact PLe.nil)) | (exact trivial))); (try (conv => whnf))) | (refine ⟨_, (by (conv => whnf); exact hF), rfl, ?_⟩; (try (conv => whnf))) | fail)
    exact ⟨(), (by refine Wk.of ?_ ?_ rfl rfl rfl <;> (repeat' (first | (exact trivial) | (exact WkD.same _) | (exact WkO.same _ _ rfl) | (exact WkD.any _) | (refine WkD.int ?_) | (exact WkD.new' rfl rfl rfl) | (exact WkO.new _ _ rfl) | (refine WkO.vars rfl ?_) | (with_reducible rfl) | (exact rfl) | (refine ⟨?_, ?_⟩) | ((refine wrapA ?_ ?_ ?_); (focus (simp; done)); (focus ((try dsimp only); omega)); (focus ((try dsimp only); omega))) | fail)))⟩
  rintro ⟨⟩
  refine ⟨Unit, fun _ => [(1, .pv (fpv P)), (2, .pv (fpv Q)), (3, .pv (.int .u64 13)), (4, .pv (.int .i64 0)), (5, .pv (fpv B)), (6, .pv (.int .i64 0)), (7, .pv (.int .u64 8)), (8, .pv (.int .i64 0))], fun _ => 0, fun _ => [], ?_, ?_⟩
  · (try (conv => whnf)); repeat' (first | (apply And.intro <;> (try (conv => whnf))) | (intro h; first | (with_reducible exact tf0 h) | (with_reducible exact ft0 h) | (with_reducible exact nt0 h) | (with_reducible exact nf0 h) | (exact litz h rfl) | (with_reducible exact tf h (by with_reducible assumption)) | (with_reducible exact tf (by with_reducible assumption) h) | (try (conv => whnf))) | (with_reducible rfl) | (apply True.intro) | (apply infoT; rfl) | (apply bleI; rfl) | (apply fitI; rfl) | (apply cellsI; rfl) | (apply szI; rfl) | (apply guardI; kernel_rfl) | (apply WhenQ.mk; (try (conv => whnf)); rotate_left; (try (conv => whnf)); rotate_right) | (with_reducible assumption) | (apply not_of; with_reducible assumption) | (apply left_of; with_reducible assumption) | (apply left_of; apply left_of; with_reducible assumption) | (apply and_of <;> first | (with_reducible assumption) | (apply not_of; with_reducible assumption))| (refine lin_plan (by kernel_rfl) ?_; (try (conv => whnf))) | (refine ⟨_, _, rfl, idx_map (by with_reducible assumption), rfl, ?_⟩; (try (conv => whnf))) | (refine ⟨rfl, ?_⟩; (try (conv => whnf))) | (exact Nat.le_refl 1) | ((apply ex3); (focus (with_reducible assumption)); (focus (with_reducible assumption)); (try (conv => whnf))) | ((apply ex2); (focus (with_reducible assumption)); (try (conv => whnf))) | (refine PureFn.dcq (f := 19) rfl ?_; (try (conv => whnf))) | ((refine ⟨_, _, hC, ?_, ?_⟩); (focus (first | (refine ⟨?_, ?_, ?_, trivial⟩ <;> first | (exact PLe.refl _) | (exact PLe.nil)) | (exact trivial))); (try (conv => whnf))) | (refine ⟨_, (by (conv => whnf); exact hC), rfl, ?_⟩; (try (conv => whnf))) | fail)
    exact ⟨(), (by refine Wk.of ?_ ?_ rfl rfl rfl <;> (repeat' (first | (exact trivial) | (exact WkD.same _) | (exact WkO.same _ _ rfl) | (exact WkD.any _) | (refine WkD.int ?_) | (exact WkD.new' rfl rfl rfl) | (exact WkO.new _ _ rfl) | (refine WkO.vars rfl ?_) | (with_reducible rfl) | (exact rfl) | (refine ⟨?_, ?_⟩) | ((refine wrapA ?_ ?_ ?_); (focus (simp; done)); (focus ((try dsimp only); omega)); (focus ((try dsimp only); omega))) | fail)))⟩
  rintro ⟨⟩
  refine ⟨Unit, fun _ => [(1, .pv (fpv P)), (2, .pv (fpv Q)), (3, .pv (.int .u64 13)), (4, .pv (.int .i64 0)), (5, .pv (fpv B)), (6, .pv (.int .i64 0)), (7, .pv (.int .u64 8)), (8, .pv (.int .i64 0)), (9, .pv (.int .i64 1)), (10, .pv (.int .i64 0)), (11, .pv (.int .i64 0))], fun _ => 0, fun _ => [], ?_, ?_⟩
  · (try (conv => whnf)); repeat' (first | (apply And.intro <;> (try (conv => whnf))) | (intro h; first | (with_reducible exact tf0 h) | (with_reducible exact ft0 h) | (with_reducible exact nt0 h) | (with_reducible exact nf0 h) | (exact litz h rfl) | (with_reducible exact tf h (by with_reducible assumption)) | (with_reducible exact tf (by with_reducible assumption) h) | (try (conv => whnf))) | (with_reducible rfl) | (apply True.intro) | (apply infoT; rfl) | (apply bleI; rfl) | (apply fitI; rfl) | (apply cellsI; rfl) | (apply szI; rfl) | (apply guardI; kernel_rfl) | (apply WhenQ.mk; (try (conv => whnf)); rotate_left; (try (conv => whnf)); rotate_right) | (with_reducible assumption) | (apply not_of; with_reducible assumption) | (apply left_of; with_reducible assumption) | (apply left_of; apply left_of; with_reducible assumption) | (apply and_of <;> first | (with_reducible assumption) | (apply not_of; with_reducible assumption))| (refine lin_plan (by kernel_rfl) ?_; (try (conv => whnf))) | (refine ⟨_, _, rfl, idx_map (by with_reducible assumption), rfl, ?_⟩; (try (conv => whnf))) | (refine ⟨rfl, ?_⟩; (try (conv => whnf))) | (exact Nat.le_refl 1) | ((apply ex3); (focus (with_reducible assumption)); (focus (with_reducible assumption)); (try (conv => whnf))) | ((apply ex2); (focus (with_reducible assumption)); (try (conv => whnf))) | (refine PureFn.dcq (f := 25) rfl ?_; (try (conv => whnf))) | ((refine ⟨_, _, hKn, ?_, ?_⟩); (focus (first | (refine ⟨?_, ?_, trivial⟩ <;> first | (exact PLe.refl _) | (exact PLe.nil)) | (exact trivial))); (try (conv => whnf))) | (refine ⟨_, (by (conv => whnf); exact hKn), rfl, ?_⟩; (try (conv => whnf))) | fail)
    exact ⟨(), (by refine Wk.of ?_ ?_ rfl rfl rfl <;> (repeat' (first | (exact trivial) | (exact WkD.same _) | (exact WkO.same _ _ rfl) | (exact WkD.any _) | (refine WkD.int ?_) | (exact WkD.new' rfl rfl rfl) | (exact WkO.new _ _ rfl) | (refine WkO.vars rfl ?_) | (with_reducible rfl) | (exact rfl) | (refine ⟨?_, ?_⟩) | ((refine wrapA ?_ ?_ ?_); (focus (simp; done)); (focus ((try dsimp only); omega)); (focus ((try dsimp only); omega))) | fail)))⟩
  rintro ⟨⟩
  refine ⟨Unit, fun _ => [(1, .pv (fpv P)), (2, .pv (fpv Q)), (3, .pv (.int .u64 13)), (4, .pv (.int .i64 0)), (5, .pv (fpv B)), (6, .pv (.int .i64 0)), (7, .pv (.int .u64 8)), (8, .pv (.int .i64 0)), (9, .pv (.int .i64 1)), (10, .pv (.int .i64 0)), (11, .pv (.int .i64 0)), (12, .pv (.int .u64 10)), (13, .pv (.int .i64 0))], fun _ => 0, fun _ => [], ?_, ?_⟩
  · (try (conv => whnf)); repeat' (first | (apply And.intro <;> (try (conv => whnf))) | (intro h; first | (with_reducible exact tf0 h) | (with_reducible exact ft0 h) | (with_reducible exact nt0 h) | (with_reducible exact nf0 h) | (exact litz h rfl) | (with_reducible exact tf h (by with_reducible assumption)) | (with_reducible exact tf (by with_reducible assumption) h) | (try (conv => whnf))) | (with_reducible rfl) | (apply True.intro) | (apply infoT; rfl) | (apply bleI; rfl) | (apply fitI; rfl) | (apply cellsI; rfl) | (apply szI; rfl) | (apply guardI; kernel_rfl) | (apply WhenQ.mk; (try (conv => whnf)); rotate_left; (try (conv => whnf)); rotate_right) | (with_reducible assumption) | (apply not_of; with_reducible assumption) | (apply left_of; with_reducible assumption) | (apply left_of; apply left_of; with_reducible assumption) | (apply and_of <;> first | (with_reducible assumption) | (apply not_of; with_reducible assumption))| (refine lin_plan (by kernel_rfl) ?_; (try (conv => whnf))) | (refine ⟨_, _, rfl, idx_map (by with_reducible assumption), rfl, ?_⟩; (try (conv => whnf))) | (refine ⟨rfl, ?_⟩; (try (conv => whnf))) | (exact Nat.le_refl 1) | ((apply ex3); (focus (with_reducible assumption)); (focus (with_reducible assumption)); (try (conv => whnf))) | ((apply ex2); (focus (with_reducible assumption)); (try (conv => whnf))) | (refine PureFn.dcq (f := 27) rfl ?_; (try (conv => whnf))) | ((refine ⟨_, _, hFo, ?_, ?_⟩); (focus (first | (refine ⟨?_, ?_, ?_, trivial⟩ <;> first | (exact PLe.refl _) | (exact PLe.nil)) | (exact trivial))); (try (conv => whnf))) | (refine ⟨_, (by (conv => whnf); exact hFo), rfl, ?_⟩; (try (conv => whnf))) | fail)
    exact ⟨(), (by refine Wk.of ?_ ?_ rfl rfl rfl <;> (repeat' (first | (exact trivial) | (exact WkD.same _) | (exact WkO.same _ _ rfl) | (exact WkD.any _) | (refine WkD.int ?_) | (exact WkD.new' rfl rfl rfl) | (exact WkO.new _ _ rfl) | (refine WkO.vars rfl ?_) | (with_reducible rfl) | (exact rfl) | (refine ⟨?_, ?_⟩) | ((refine wrapA ?_ ?_ ?_); (focus (simp; done)); (focus ((try dsimp only); omega)); (focus ((try dsimp only); omega))) | fail)))⟩
  rintro ⟨⟩
  refine ⟨Unit, fun _ => [(1, .pv (fpv P)), (2, .pv (fpv Q)), (3, .pv (.int .u64 13)), (4, .pv (.int .i64 0)), (5, .pv (fpv B)), (6, .pv (.int .i64 0)), (7, .pv (.int .u64 8)), (8, .pv (.int .i64 0)), (9, .pv (.int .i64 1)), (10, .pv (.int .i64 0)), (11, .pv (.int .i64 0)), (12, .pv (.int .u64 10)), (13, .pv (.int .i64 0)), (14, .pv (.int .i64 1)), (15, .pv (.int .i64 0))], fun _ => 0, fun _ => [], ?_, ?_⟩
  · (try (conv => whnf)); repeat' (first | (apply And.intro <;> (try (conv => whnf))) | (intro h; first | (with_reducible exact tf0 h) | (with_reducible exact ft0 h) | (with_reducible exact nt0 h) | (with_reducible exact nf0 h) | (exact litz h rfl) | (with_reducible exact tf h (by with_reducible assumption)) | (with_reducible exact tf (by with_reducible assumption) h) | (try (conv => whnf))) | (with_reducible rfl) | (apply True.intro) | (apply infoT; rfl) | (apply bleI; rfl) | (apply fitI; rfl) | (apply cellsI; rfl) | (apply szI; rfl) | (apply guardI; kernel_rfl) | (apply WhenQ.mk; (try (conv => whnf)); rotate_left; (try (conv => whnf)); rotate_right) | (with_reducible assumption) | (apply not_of; with_reducible assumption) | (apply left_of; with_reducible assumption) | (apply left_of; apply left_of; with_reducible assumption) | (apply and_of <;> first | (with_reducible assumption) | (apply not_of; with_reducible assumption))| (refine lin_plan (by kernel_rfl) ?_; (try (conv => whnf))) | (refine ⟨_, _, rfl, idx_map (by with_reducible assumption), rfl, ?_⟩; (try (conv => whnf))) | (refine ⟨rfl, ?_⟩; (try (conv => whnf))) | (exact Nat.le_refl 1) | ((apply ex3); (focus (with_reducible assumption)); (focus (with_reducible assumption)); (try (conv => whnf))) | ((apply ex2); (focus (with_reducible assumption)); (try (conv => whnf))) | (refine PureFn.dcq (f := 29) rfl ?_; (try (conv => whnf))) | ((refine ⟨_, _, hD, ?_, ?_⟩); (focus (first | (refine ⟨?_, ?_, trivial⟩ <;> first | (exact PLe.refl _) | (exact PLe.nil)) | (exact trivial))); (try (conv => whnf))) | (refine ⟨_, (by (conv => whnf); exact hD), rfl, ?_⟩; (try (conv => whnf))) | fail)
    exact ⟨(), (by refine Wk.of ?_ ?_ rfl rfl rfl <;> (repeat' (first | (exact trivial) | (exact WkD.same _) | (exact WkO.same _ _ rfl) | (exact WkD.any _) | (refine WkD.int ?_) | (exact WkD.new' rfl rfl rfl) | (exact WkO.new _ _ rfl) | (refine WkO.vars rfl ?_) | (with_reducible rfl) | (exact rfl) | (refine ⟨?_, ?_⟩) | ((refine wrapA ?_ ?_ ?_); (focus (simp; done)); (focus ((try dsimp only); omega)); (focus ((try dsimp only); omega))) | fail)))⟩
  rintro ⟨⟩
  refine ⟨Unit, fun _ => [(1, .pv (fpv P)), (2, .pv (fpv Q)), (3, .pv (.int .u64 13)), (4, .pv (.int .i64 0)), (5, .pv (fpv B)), (6, .pv (.int .i64 0)), (7, .pv (.int .u64 8)), (8, .pv (.int .i64 0)), (9, .pv (.int .i64 1)), (10, .pv (.int .i64 0)), (11, .pv (.int .i64 0)), (12, .pv (.int .u64 10)), (13, .pv (.int .i64 0)), (14, .pv (.int .i64 1)), (15, .pv (.int .i64 0)), (17, .pv (.int .i64 10))], fun _ => 0, fun _ => [], ?_, ?_⟩
  · (try (conv => whnf)); repeat' (first | (apply And.intro <;> (try (conv => whnf))) | (intro h; first | (with_reducible exact tf0 h) | (with_reducible exact ft0 h) | (with_reducible exact nt0 h) | (with_reducible exact nf0 h) | (exact litz h rfl) | (with_reducible exact tf h (by with_reducible assumption)) | (with_reducible exact tf (by with_reducible assumption) h) | (try (conv => whnf))) | (with_reducible rfl) | (apply True.intro) | (apply infoT; rfl) | (apply bleI; rfl) | (apply fitI; rfl) | (apply cellsI; rfl) | (apply szI; rfl) | (apply guardI; kernel_rfl) | (apply WhenQ.mk; (try (conv => whnf)); rotate_left; (try (conv => whnf)); rotate_right) | (with_reducible assumption) | (apply not_of; with_reducible assumption) | (apply left_of; with_reducible assumption) | (apply left_of; apply left_of; with_reducible assumption) | (apply and_of <;> first | (with_reducible assumption) | (apply not_of; with_reducible assumption))| (refine lin_plan (by kernel_rfl) ?_; (try (conv => whnf))) | (refine ⟨_, _, rfl, idx_map (by with_reducible assumption), rfl, ?_⟩; (try (conv => whnf))) | (refine ⟨rfl, ?_⟩; (try (conv => whnf))) | (exact Nat.le_refl 1) | ((apply ex3); (focus (with_reducible assumption)); (focus (with_reducible assumption)); (try (conv => whnf))) | ((apply ex2); (focus (with_reducible assumption)); (try (conv => whnf))) | (refine PureFn.dcq (f := 33) rfl ?_; (try (conv => whnf))) | (refine PureFn.dcq (f := 12) rfl ?_; (try (conv => whnf))) | ((refine ⟨_, _, hK, ?_, ?_⟩); (focus (first | (refine ⟨?_, ?_, trivial⟩ <;> first | (exact PLe.refl _) | (exact PLe.nil)) | (exact trivial))); (try (conv => whnf))) | (refine ⟨_, (by (conv => whnf); exact hK), rfl, ?_⟩; (try (conv => whnf))) | ((refine ⟨_, _, hM2, ?_, ?_⟩); (focus (first | (refine ⟨?_, ?_, trivial⟩ <;> first | (exact PLe.refl _) | (exact PLe.nil)) | (exact trivial))); (try (conv => whnf))) | (refine ⟨_, (by (conv => whnf); exact hM2), rfl, ?_⟩; (try (conv => whnf))) | fail)
    exact ⟨(), (by refine Wk.of ?_ ?_ rfl rfl rfl <;> (repeat' (first | (exact trivial) | (exact WkD.same _) | (exact WkO.same _ _ rfl) | (exact WkD.any _) | (refine WkD.int ?_) | (exact WkD.new' rfl rfl rfl) | (exact WkO.new _ _ rfl) | (refine WkO.vars rfl ?_) | (with_reducible rfl) | (exact rfl) | (refine ⟨?_, ?_⟩) | ((refine wrapA ?_ ?_ ?_); (focus (simp; done)); (focus ((try dsimp only); omega)); (focus ((try dsimp only); omega))) | fail)))⟩
  rintro ⟨⟩
  refine ⟨Unit, fun _ => [(1, .pv (fpv P)), (2, .pv (fpv Q)), (3, .pv (.int .u64 13)), (4, .pv (.int .i64 0)), (5, .pv (fpv B)), (6, .pv (.int .i64 0)), (7, .pv (.int .u64 8)), (8, .pv (.int .i64 0)), (9, .pv (.int .i64 1)), (10, .pv (.int .i64 0)), (11, .pv (.int .i64 0)), (12, .pv (.int .u64 10)), (13, .pv (.int .i64 0)), (14, .pv (.int .i64 1)), (15, .pv (.int .i64 0)), (17, .pv (.int .i64 10)), (18, .pv (.bool true))], fun _ => 0, fun _ => [], ?_, ?_⟩
  · (try (conv => whnf)); repeat' (first | (apply And.intro <;> (try (conv => whnf))) | (intro h; first | (with_reducible exact tf0 h) | (with_reducible exact ft0 h) | (with_reducible exact nt0 h) | (with_reducible exact nf0 h) | (exact litz h rfl) | (with_reducible exact tf h (by with_reducible assumption)) | (with_reducible exact tf (by with_reducible assumption) h) | (try (conv => whnf))) | (with_reducible rfl) | (apply True.intro) | (apply infoT; rfl) | (apply bleI; rfl) | (apply fitI; rfl) | (apply cellsI; rfl) | (apply szI; rfl) | (apply guardI; kernel_rfl) | (apply WhenQ.mk; (try (conv => whnf)); rotate_left; (try (conv => whnf)); rotate_right) | (with_reducible assumption) | (apply not_of; with_reducible assumption) | (apply left_of; with_reducible assumption) | (apply left_of; apply left_of; with_reducible assumption) | (apply and_of <;> first | (with_reducible assumption) | (apply not_of; with_reducible assumption))| (refine lin_plan (by kernel_rfl) ?_; (try (conv => whnf))) | (refine ⟨_, _, rfl, idx_map (by with_reducible assumption), rfl, ?_⟩; (try (conv => whnf))) | (refine ⟨rfl, ?_⟩; (try (conv => whnf))) | (exact Nat.le_refl 1) | ((apply ex3); (focus (with_reducible assumption)); (focus (with_reducible assumption)); (try (conv => whnf))) | ((apply ex2); (focus (with_reducible assumption)); (try (conv => whnf))) | fail)
    exact ⟨(), (by refine Wk.of ?_ ?_ rfl rfl rfl <;> (repeat' (first | (exact trivial) | (exact WkD.same _) | (exact WkO.same _ _ rfl) | (exact WkD.any _) | (refine WkD.int ?_) | (exact WkD.new' rfl rfl rfl) | (exact WkO.new _ _ rfl) | (refine WkO.vars rfl ?_) | (with_reducible rfl) | (exact rfl) | (refine ⟨?_, ?_⟩) | ((refine wrapA ?_ ?_ ?_); (focus (simp; done)); (focus ((try dsimp only); omega)); (focus ((try dsimp only); omega))) | fail)))⟩
  rintro ⟨⟩
  (try (conv => whnf)); repeat' (first | (apply And.intro <;> (try (conv => whnf))) | (intro h; first | (with_reducible exact tf0 h) | (with_reducible exact ft0 h) | (with_reducible exact nt0 h) | (with_reducible exact nf0 h) | (exact litz h rfl) | (with_reducible exact tf h (by with_reducible assumption)) | (with_reducible exact tf (by with_reducible assumption) h) | (try (conv => whnf))) | (with_reducible rfl) | (apply True.intro) | (apply infoT; rfl) | (apply bleI; rfl) | (apply fitI; rfl) | (apply cellsI; rfl) | (apply szI; rfl) | (apply guardI; kernel_rfl) | (apply WhenQ.mk; (try (conv => whnf)); rotate_left; (try (conv => whnf)); rotate_right) | (with_reducible assumption) | (apply not_of; with_reducible assumption) | (apply left_of; with_reducible assumption) | (apply left_of; apply left_of; with_reducible assumption) | (apply and_of <;> first | (with_reducible assumption) | (apply not_of; with_reducible assumption))| (refine lin_plan (by kernel_rfl) ?_; (try (conv => whnf))) | (refine ⟨_, _, rfl, idx_map (by with_reducible assumption), rfl, ?_⟩; (try (conv => whnf))) | (refine ⟨rfl, ?_⟩; (try (conv => whnf))) | (exact Nat.le_refl 1) | ((apply ex3); (focus (with_reducible assumption)); (focus (with_reducible assumption)); (try (conv => whnf))) | ((apply ex2); (focus (with_reducible assumption)); (try (conv => whnf))) | (refine PureFn.dcq (f := 36) rfl ?_; (try (conv => whnf))) | (refine PureFn.dcq (f := 35) rfl ?_; (try (conv => whnf))) | (refine PureFn.dcq (f := 34) rfl ?_; (try (conv => whnf))) | (refine PureFn.dcq (f := 21) rfl ?_; (try (conv => whnf))) | (refine PureFn.dcq (f := 23) rfl ?_; (try (conv => whnf))) | (refine PureFn.dcq (f := 17) rfl ?_; (try (conv => whnf))) | ((refine ⟨_, _, hN, ?_, ?_⟩); (focus (first | (refine ⟨?_, trivial⟩ <;> first | (exact PLe.refl _) | (exact PLe.nil)) | (exact trivial))); (try (conv => whnf))) | (refine ⟨_, (by (conv => whnf); exact hN), rfl, ?_⟩; (try (conv => whnf))) | ((refine ⟨_, _, hA, ?_, ?_⟩); (focus (first | (refine ⟨?_, ?_, trivial⟩ <;> first | (exact PLe.refl _) | (exact PLe.nil)) | (exact trivial))); (try (conv => whnf))) | (refine ⟨_, (by (conv => whnf); exact hA), rfl, ?_⟩; (try (conv => whnf))) | ((refine ⟨_, _, hS, ?_, ?_⟩); (focus (first | (refine ⟨?_, ?_, trivial⟩ <;> first | (exact PLe.refl _) | (exact PLe.nil)) | (exact trivial))); (try (conv => whnf))) | (refine ⟨_, (by (conv => whnf); exact hS), rfl, ?_⟩; (try (conv => whnf))) | ((refine ⟨_, _, hDi, ?_, ?_⟩); (focus (first | (refine ⟨?_, ?_, ?_, trivial⟩ <;> first | (exact PLe.refl _) | (exact PLe.nil)) | (exact trivial))); (try (conv => whnf))) | (refine ⟨_, (by (conv => whnf); exact hDi), rfl, ?_⟩; (try (conv => whnf))) | ((refine ⟨_, _, hBe, ?_, ?_⟩); (focus (first | (refine ⟨?_, ?_, ?_, trivial⟩ <;> first | (exact PLe.refl _) | (exact PLe.nil)) | (exact trivial))); (try (conv => whnf))) | (refine ⟨_, (by (conv => whnf); exact hBe), rfl, ?_⟩; (try (conv => whnf))) | ((refine ⟨_, _, hCk, ?_, ?_⟩); (focus (first | (refine ⟨?_, ?_, trivial⟩ <;> first | (exact PLe.refl _) | (exact PLe.nil)) | (exact trivial))); (try (conv => whnf))) | (refine ⟨_, (by (conv => whnf); exact hCk), rfl, ?_⟩; (try (conv => whnf))) | fail)
  exact .refl _
end Go.Proofs.Ythnfbkplkheliaa
set_option maxRecDepth 100000
set_option maxHeartbeats 4000000
namespace Go.Proofs.Ythnfbkplkheliaa
open Go Go.Dv

def ptv (k i e g : Int) (F G : List Nd) : PV := .agg [.int .i64 k, .int .i64 i, .int .i64 e, .int .i64 g, fpv F, fpv G]
def useI (k : Int) : Bool := bif bif bif bif bif k == 3 then true else k == 9 then true else k == 10 then true else k == 14 then true else k == 15 then true else k == 17
def useG (k : Int) : Bool := bif bif k == 11 then true else k == 12 then true else k == 13
def wantN (k i e g : Int) : Nd := ⟨k, bif useI k then i else 0, bif k == 17 then e else 0, bif useG k then g else 0, 0, 0⟩
def wantL (k i e g : Int) (F G : List Nd) : List Nd := bif usesY k then binL (wantN k i e g) F G else bif usesX k then unL (wantN k i e g) F else oneL (wantN k i e g)
theorem le_f {a b : List Nd} (h : a = b) : PLe (fpv a) (fpv b) := h ▸ .refl _

theorem shortL_len (g : List Nd) : (shortL g).length ≤ 200 := by
  unfold shortL
  cases decide ((g.length : Int) > 401) with
  | true => simp
  | false =>
    cases h2 : decide (((canon g (g.length - 1)).length : Int) > 200) with
    | true => simp
    | false => simp only [cond_false]; simp at h2; omega
theorem wantL_len (k i e g : Int) (F G : List Nd) : (wantL k i e g F G).length ≤ 200 := by
  unfold wantL
  cases usesY k with
  | true =>
    simp only [cond_true]; unfold binL
    cases (bif check F != 0 then true else check G != 0) with
    | true => simp
    | false =>
      cases (nodeErr (binN (wantN k i e g) F G) (F ++ G.map (shN F.length)).length != 0) with
      | true => simp
      | false => exact shortL_len _
  | false =>
    cases usesX k with
    | true =>
      simp only [cond_true, cond_false]; unfold unL
      cases (check F != 0) with
      | true => simp
      | false =>
        cases (nodeErr { wantN k i e g with x := (F.length : Int) - 1 } F.length != 0) with
        | true => simp
        | false => exact shortL_len _
    | false =>
      simp only [cond_false]; unfold oneL
      cases (nodeErr (wantN k i e g) 0 != 0) with
      | true => simp
      | false => simp
end Go.Proofs.Ythnfbkplkheliaa
namespace Go.Proofs.Ythnfbkplkheliaa
open Go Go.Dv

/-- A list that is the canonical one of its own last node. -/
structure Can (s : List Nd) : Prop where
  ok : Okl s
  pos : 1 ≤ s.length
  len : s.length ≤ 200
  fix : (finT (root s) []).2 = s
theorem Can.check {s : List Nd} (h : Can s) : check s = 0 := okl_check h.ok h.pos h.len
theorem canon_can {f : List Nd} (hf : Okl f) (hl : f.length ≤ 200) {i : Nat} (hi : i < f.length) : Can (canon f i) := by
  obtain ⟨h1, h2⟩ := canon_ok hf hi
  refine ⟨h1, h2, by have := canon_len hf.wf hi; omega, ?_⟩
  have hr := (canon_root hf hi).2
  unfold root
  rw [hr, ← canon_tree hf hi]
theorem comp_can {f : List Nd} (h : Go.Proofs.Ythnfbkplkheliaa.check f = 0) : Can (comp f) := by
  rw [comp_eq h]
  have := check_ok h
  exact canon_can (check_okl h) this.2.1 (by omega)
theorem can_comp {s : List Nd} (h : Can s) : comp s = s := by rw [comp_root h.check, h.fix]
/-- The node without its operands. -/
theorem want_nd {x : Nd} {k : Int} (h : OkNd x k) : wantN x.op x.i x.e x.g = { x with x := 0, y := 0 } := by
  have e1 : (bif useI x.op then x.i else 0) = x.i := by
    cases hu : useI x.op with
    | true => rfl
    | false =>
      have := h.noi (by intro e; rw [e] at hu; cases hu) (by
        have ho := h.op
        have key : ∀ n : Nat, n < 22 → useI (n : Int) = false → isAgent (n : Int) = false := by decide
        have := key x.op.toNat (by omega)
        rw [show ((x.op.toNat : Nat) : Int) = x.op by omega] at this
        exact this hu) (by intro e; rw [e] at hu; cases hu)
      rw [this]; rfl
  have e2 : (bif x.op == 17 then x.e else 0) = x.e := by
    cases hu : (x.op == 17) with
    | true => rfl
    | false => rw [h.noe (by simpa using hu)]; rfl
  have e3 : (bif useG x.op then x.g else 0) = x.g := by
    cases hu : useG x.op with
    | true => rfl
    | false =>
      have ho := h.op
      have key : ∀ n : Nat, n < 22 → useG (n : Int) = false → isGroup (n : Int) = false := by decide
      have := key x.op.toNat (by omega)
      rw [show ((x.op.toNat : Nat) : Int) = x.op by omega] at this
      rw [h.nog (this hu)]; rfl
  unfold wantN
  rw [e1, e2, e3]
theorem y_of_x {op : Int} (h : usesY op = true) : usesX op = true := by
  unfold usesX
  unfold usesY at h
  simp at h ⊢
  omega
theorem sub_can {s : List Nd} (h : Can s) {j : Nat} (hj : j < s.length) : sub s j = canon s j := by
  have e1 : (Go.Proofs.Ythnfbkplkheliaa.check s != 0) = false := by rw [h.check]; rfl
  have e2 : decide ((j : Int) < 0) = false := by simp
  have e3 : decide ((j : Int) ≥ (s.length : Int)) = false := by simp; omega
  rw [sub, e1, e2, e3]; rfl
/-- What build_un and build_bin come to, by trees. -/
theorem un_tree {x : Nd} {f : List Nd} {t : List Nd} (hf : Can f) (hx : usesX x.op = true) (hy : usesY x.op = false) (hok : OkNd { x with x := (f.length : Int) - 1 } f.length)
    (ht : (finT (.nd x.op x.i x.e x.g (root f) .none) []).2 = t) (hl : t.length ≤ 200) : unL x f = t := by
  have e0 : (Go.Proofs.Ythnfbkplkheliaa.check f != 0) = false := by rw [hf.check]; rfl
  have e1 : (nodeErr { x with x := (f.length : Int) - 1 } f.length != 0) = false := by rw [nodeErr_ok.2 hok]; rfl
  have hfl := hf.len
  have hfp := hf.pos
  have e2 := canon_snoc hf.ok hok
  simp only [hx, hy, cond_true, cond_false] at e2
  rw [show ((f.length : Int) - 1).toNat = f.length - 1 by omega] at e2
  have e3 : canon (f ++ [{ x with x := (f.length : Int) - 1 }]) f.length = t := e2.trans ht
  rw [unL, e0, e1]
  simp only [cond_false]
  rw [short_snoc (by omega), e3]
  have e4 : decide ((t.length : Int) > 200) = false := by simp; omega
  rw [e4]; rfl
theorem bin_tree {x : Nd} {f g : List Nd} {t : List Nd} (hf : Can f) (hg : Can g) (hx : usesX x.op = true) (hy : usesY x.op = true) (hok : OkNd (binN x f g) (f ++ g.map (shN f.length)).length)
    (ht : (finT (.nd x.op x.i x.e x.g (root f) (root g)) []).2 = t) (hl : t.length ≤ 200) : binL x f g = t := by
  have e0 : (Go.Proofs.Ythnfbkplkheliaa.check f != 0) = false := by rw [hf.check]; rfl
  have e0' : (Go.Proofs.Ythnfbkplkheliaa.check g != 0) = false := by rw [hg.check]; rfl
  have e1 : (nodeErr (binN x f g) (f ++ g.map (shN f.length)).length != 0) = false := by rw [nodeErr_ok.2 hok]; rfl
  have hfl := hf.len
  have hfp := hf.pos
  have hgl := hg.len
  have hgp := hg.pos
  have e2 := canon_snoc (okl_append hf.ok hg.ok) hok
  obtain ⟨u1, u2⟩ := bin_last hf.ok hg.ok hfp hgp
  have ho : (binN x f g).op = x.op := rfl
  rw [ho] at e2
  simp only [hx, hy, cond_true] at e2
  have n1 : (binN x f g).x.toNat = f.length - 1 := by show ((f.length : Int) - 1).toNat = _; omega
  have n2 : (binN x f g).y.toNat = (f ++ g.map (shN f.length)).length - 1 := by show (((f ++ g.map (shN f.length)).length : Int) - 1).toNat = _; omega
  rw [n1, n2, u1, u2] at e2
  have e3 : canon (f ++ g.map (shN f.length) ++ [binN x f g]) (f ++ g.map (shN f.length)).length = t := e2.trans ht
  rw [binL, e0, e0', e1]
  simp only [cond_false]
  rw [short_snoc (by rw [List.length_append, List.length_map]; omega), e3]
  have e4 : decide ((t.length : Int) > 200) = false := by simp; omega
  rw [e4]; rfl
/-- Every canonical list is what the constructor of its last operator makes of its operands. -/
theorem rebuild {s : List Nd} (h : Can s) {x : Nd} (hx : s[s.length - 1]? = some x) :
    wantL x.op x.i x.e x.g (bif usesX x.op then sub s x.x else []) (bif usesY x.op then sub s x.y else []) = s := by
  have ok := h.ok _ x hx
  have hpos := h.pos
  have hr : root s = .nd x.op x.i x.e x.g (bif usesX x.op then tree s x.x.toNat else .none) (bif usesY x.op then tree s x.y.toNat else .none) := tree_nd h.ok hx
  have hw := want_nd ok
  have hfix := h.fix
  unfold wantL
  rw [hw]
  cases hu : usesX x.op with
  | false =>
    have hv : usesY x.op = false := by
      cases hv : usesY x.op with
      | false => rfl
      | true => rw [y_of_x hv] at hu; cases hu
    rw [hu, hv] at hr
    rw [hr] at hfix
    simp only [cond_false, hv]
    have hz : ({ x with x := 0, y := 0 } : Nd) = x := by
      have e1 := ok.nox hu
      have e2 := ok.noy hv
      cases x; simp only at e1 e2; subst e1; subst e2; rfl
    rw [hz, oneL]
    have ok0 : OkNd x 0 := ok.re rfl rfl rfl rfl (fun u => by rw [hu] at u; cases u) ok.nox (fun u => by rw [hv] at u; cases u) ok.noy
    have e1 : (nodeErr x 0 != 0) = false := by rw [nodeErr_ok.2 ok0]; rfl
    rw [e1]
    simp only [cond_false, finT, putN, idx, List.nil_append] at hfix ⊢
    rw [← hfix]
    have e1 := ok.nox hu
    have e2 := ok.noy hv
    cases x; simp only at e1 e2; subst e1; subst e2; rfl
  | true =>
    have hxr := ok.x hu
    obtain ⟨j, hj⟩ : ∃ j : Nat, x.x = j := ⟨x.x.toNat, by omega⟩
    have hjl : j < s.length := by omega
    have hF := canon_can h.ok h.len hjl
    have hFr : root (canon s j) = tree s j := (canon_root h.ok hjl).2
    rw [hu] at hr
    simp only [cond_true] at hr
    rw [hj, Int.toNat_natCast, ← hFr] at hr
    simp only [cond_true]
    rw [hj, sub_can h hjl]
    cases hv : usesY x.op with
    | false =>
      rw [hv] at hr
      simp only [cond_false] at hr ⊢
      have hFp := hF.pos
      refine un_tree (x := { x with x := 0, y := 0 }) hF hu hv (ok.re rfl rfl rfl rfl (fun _ => ⟨by simp only; omega, by simp only; omega⟩) (fun u => by rw [hu] at u; cases u) (fun u => by rw [hv] at u; cases u) (fun _ => rfl)) ?_ h.len
      simp only
      rw [← hr]; exact hfix
    | true =>
      have hyr := ok.y hv
      obtain ⟨k, hk⟩ : ∃ k : Nat, x.y = k := ⟨x.y.toNat, by omega⟩
      have hkl : k < s.length := by omega
      have hG := canon_can h.ok h.len hkl
      have hGr : root (canon s k) = tree s k := (canon_root h.ok hkl).2
      rw [hv] at hr
      simp only [cond_true] at hr ⊢
      rw [hk, Int.toNat_natCast, ← hGr] at hr
      rw [hk, sub_can h hkl]
      have hFp := hF.pos
      have hGp := hG.pos
      refine bin_tree (x := { x with x := 0, y := 0 }) hF hG hu hv (ok.re rfl rfl rfl rfl (fun _ => ⟨by simp only [binN]; omega, by simp only [binN, List.length_append, List.length_map]; omega⟩) (fun u => by rw [hu] at u; cases u) (fun _ => ⟨by simp only [binN, List.length_append, List.length_map]; omega, by simp only [binN]; omega⟩) (fun u => by rw [hv] at u; cases u)) ?_ h.len
      simp only
      rw [← hr]; exact hfix
end Go.Proofs.Ythnfbkplkheliaa
set_option maxRecDepth 100000
namespace Go.Proofs.Ythnfbkplkheliaa
open Go Go.Dv

def tev (v : Nat) : Tr → Bool
  | .none => false
  | .nd op i _ _ a b => evO op (v.testBit i.toNat) (tev v a) (tev v b)
def opN (n : Nat) (op i g : Int) : Bool := decide (1 ≤ op) && decide (op ≤ 8) && (op != 3 || decide (i < n)) && g == 0
def propT (n : Nat) : Tr → Bool
  | .none => true
  | .nd op i _ g a b => opN n op i g && propT n a && propT n b
theorem evs_tree {c : List Nd} (hc : Okl c) (v : Nat) : ∀ n, n ≤ c.length → ∀ i, i < n → (evs (c.take n) v).getD i false = tev v (tree c i)
  | 0, _, i, h => by omega
  | n + 1, hn, i, hi => by
    have hl : (evs (c.take n) v).length = n := by rw [evs_len, List.length_take]; omega
    rw [evs_take v (by omega)]
    rcases Nat.lt_or_ge i n with h | h
    · rw [List.getD_eq_getElem?_getD, List.getElem?_append_left (by omega), ← List.getD_eq_getElem?_getD]
      exact evs_tree hc v n (by omega) i h
    · have e : i = n := by omega
      subst e
      have hx : c[i]? = some c[i] := List.getElem?_eq_getElem (by omega)
      rw [List.getD_eq_getElem?_getD, List.getElem?_append_right (by omega), hl, Nat.sub_self]
      simp only [List.getElem?_cons_zero, Option.getD_some]
      generalize c[i] = x at hx ⊢
      have ok := hc i x hx
      rw [tree_nd hc hx, tev, evN, ← evO_uses]
      have ex : (bif usesX x.op then (evs (c.take i) v).getD x.x.toNat false else false) = tev v (bif usesX x.op then tree c x.x.toNat else .none) := by
        cases hu : usesX x.op with
        | false => rfl
        | true => have := ok.x hu; exact evs_tree hc v i (by omega) _ (by omega)
      have ey : (bif usesY x.op then (evs (c.take i) v).getD x.y.toNat false else false) = tev v (bif usesY x.op then tree c x.y.toNat else .none) := by
        cases hu : usesY x.op with
        | false => rfl
        | true => have := ok.y hu; exact evs_tree hc v i (by omega) _ (by omega)
      rw [ex, ey]
theorem holds_root {c : List Nd} (hc : Okl c) (h1 : 1 ≤ c.length) (v : Nat) : holds c v = tev v (root c) := by
  have := evs_tree hc v c.length (Nat.le_refl _) (c.length - 1) (by omega)
  rw [List.take_length] at this
  rw [holds, this]; rfl
theorem putN_le (out : List Nd) (x : Nd) : (putN out x).2.length ≤ out.length + 1 := by
  unfold putN; cases idx x out 0 <;> simp
theorem finT_len : ∀ (t : Tr) (out : List Nd), (finT t out).2.length ≤ out.length + t.size
  | .none, out => by simp [finT]
  | .nd op i e g a b, out => by
    rw [finT, Tr.size]
    have h1 := finT_len a out
    have h2 := finT_len b (finT a out).2
    have h3 := putN_le (finT b (finT a out).2).2 ⟨op, i, e, g, ((finT a out).1 : Int), ((finT b (finT a out).2).1 : Int)⟩
    omega
theorem finT_prop {n : Nat} : ∀ (t : Tr) (out : List Nd), propT n t = true → (∀ y, y ∈ out → opN n y.op y.i y.g = true) → ∀ y, y ∈ (finT t out).2 → opN n y.op y.i y.g = true
  | .none, out, _, ho, y, hy => ho y hy
  | .nd op i e g a b, out, ht, ho, y, hy => by
    rw [propT, Bool.and_eq_true, Bool.and_eq_true] at ht
    rw [finT] at hy
    obtain ⟨_, _, t, h1, h2⟩ := putN_spec (finT b (finT a out).2).2 ⟨op, i, e, g, ((finT a out).1 : Int), ((finT b (finT a out).2).1 : Int)⟩
    rw [h1] at hy
    rcases List.mem_append.1 hy with h | h
    · exact finT_prop b _ ht.2 (finT_prop a out ht.1.2 ho) y h
    · rw [h2 y h]; exact ht.1.1
/-- The canonical list of a node of a list whose tree is small. -/
theorem tree_can {F : List Nd} (hF : Okl F) {k : Nat} (hk : k < F.length) (hs : (tree F k).size ≤ 200) : Can (canon F k) ∧ root (canon F k) = tree F k := by
  obtain ⟨h1, h2⟩ := canon_ok hF hk
  have h3 := (canon_root hF hk).2
  have h4 := canon_tree hF hk
  have h5 := finT_len (tree F k) []
  refine ⟨⟨h1, h2, by rw [h4]; simp only [List.length_nil] at h5; omega, ?_⟩, h3⟩
  unfold root
  rw [h3, ← h4]
theorem un_can {op : Int} {f : List Nd} (hf : Can f) (hx : usesX op = true) (hy : usesY op = false) (hok : OkNd { n0 op with x := (f.length : Int) - 1 } f.length) (hs : (root f).size + 1 ≤ 200) :
    Can (buildL (n0 op) [f]) ∧ root (buildL (n0 op) [f]) = .nd op 0 0 0 (root f) .none := by
  have hp := hf.pos
  have hF := okl_snoc hf.ok hok
  have hT : tree (f ++ [{ n0 op with x := (f.length : Int) - 1 }]) f.length = .nd op 0 0 0 (root f) .none := by
    rw [tree_nd hF (x := { n0 op with x := (f.length : Int) - 1 }) (by simp)]
    simp only [n0, hx, hy, cond_true, cond_false]
    rw [show ((f.length : Int) - 1).toNat = f.length - 1 by omega, tree_append hf.ok (by omega)]; rfl
  have hk : f.length < (f ++ [{ n0 op with x := (f.length : Int) - 1 }]).length := by simp
  have hsz : (tree (f ++ [{ n0 op with x := (f.length : Int) - 1 }]) f.length).size ≤ 200 := by rw [hT]; simp only [Tr.size]; omega
  obtain ⟨h1, h2⟩ := tree_can hF hk hsz
  have e : buildL (n0 op) [f] = canon (f ++ [{ n0 op with x := (f.length : Int) - 1 }]) f.length := by
    rw [build_un (n0 op) f hx hy rfl]
    refine un_tree (t := canon (f ++ [{ n0 op with x := (f.length : Int) - 1 }]) f.length) hf hx hy hok ?_ h1.len
    rw [canon_tree hF hk, hT]; rfl
  rw [e, h2, hT]
  exact ⟨h1, rfl⟩
theorem bin_can {op : Int} {f g : List Nd} (hf : Can f) (hg : Can g) (hx : usesX op = true) (hy : usesY op = true) (hok : OkNd (binN (n0 op) f g) (f ++ g.map (shN f.length)).length) (hs : (root f).size + (root g).size + 1 ≤ 200) :
    Can (buildL (n0 op) [f, g]) ∧ root (buildL (n0 op) [f, g]) = .nd op 0 0 0 (root f) (root g) := by
  have hp := hf.pos
  have hq := hg.pos
  have hA := okl_append hf.ok hg.ok
  have hF := okl_snoc hA hok
  obtain ⟨u1, u2⟩ := bin_last hf.ok hg.ok hp hq
  have hl : 1 ≤ (f ++ g.map (shN f.length)).length := by rw [List.length_append]; omega
  have hT : tree (f ++ g.map (shN f.length) ++ [binN (n0 op) f g]) (f ++ g.map (shN f.length)).length = .nd op 0 0 0 (root f) (root g) := by
    rw [tree_nd hF (x := binN (n0 op) f g) (by simp)]
    simp only [show (binN (n0 op) f g).op = op from rfl, hx, hy, cond_true]
    have n1 : (binN (n0 op) f g).x.toNat = f.length - 1 := by show ((f.length : Int) - 1).toNat = _; omega
    have n2 : (binN (n0 op) f g).y.toNat = (f ++ g.map (shN f.length)).length - 1 := by show (((f ++ g.map (shN f.length)).length : Int) - 1).toNat = _; omega
    rw [n1, n2, tree_append hA (by rw [List.length_append]; omega), tree_append hA (by omega), u1, u2]; rfl
  have hk : (f ++ g.map (shN f.length)).length < (f ++ g.map (shN f.length) ++ [binN (n0 op) f g]).length := by simp
  have hsz : (tree (f ++ g.map (shN f.length) ++ [binN (n0 op) f g]) (f ++ g.map (shN f.length)).length).size ≤ 200 := by rw [hT]; simp only [Tr.size]; omega
  obtain ⟨h1, h2⟩ := tree_can hF hk hsz
  have e : buildL (n0 op) [f, g] = canon (f ++ g.map (shN f.length) ++ [binN (n0 op) f g]) (f ++ g.map (shN f.length)).length := by
    rw [build_bin (n0 op) f g hx hy]
    refine bin_tree (t := canon (f ++ g.map (shN f.length) ++ [binN (n0 op) f g]) (f ++ g.map (shN f.length)).length) hf hg hx hy hok ?_ h1.len
    rw [canon_tree hF hk, hT]; rfl
  rw [e, h2, hT]
  exact ⟨h1, rfl⟩
/-- A formula about the first n facts whose tree is small. -/
structure Gd (n : Nat) (f : List Nd) (k : Nat) : Prop where
  can : Can f
  size : (root f).size ≤ k
  ok : propT n (root f) = true
theorem not_gd {n k : Nat} {f : List Nd} (h : Gd n f k) (hk : k + 1 ≤ 200) : Gd n (notL f) (k + 1) ∧ ∀ v, tev v (root (notL f)) = !tev v (root f) := by
  have hp := h.can.pos
  have hs := h.size
  have hok : OkNd { n0 4 with x := (f.length : Int) - 1 } f.length := by
    constructor <;> simp [n0, usesX, usesY, isAgent, isGroup] <;> omega
  obtain ⟨h1, h2⟩ := un_can h.can (op := 4) rfl rfl hok (by omega)
  refine ⟨⟨h1, by rw [notL, h2]; simp only [Tr.size]; omega, by rw [notL, h2]; simp only [propT, h.ok]; rfl⟩, fun v => by rw [notL, h2]; rfl⟩
theorem join_gd {n k : Nat} {op : Int} (hop : op = 5 ∨ op = 6) : ∀ (r : List (List Nd)) (a : List Nd) (m : Nat), Gd n a m → (∀ g, g ∈ r → Gd n g k) → m + r.length * (k + 1) ≤ 200 →
    Gd n (r.foldl (fun a g => buildL (n0 op) [a, g]) a) (m + r.length * (k + 1)) ∧ ∀ v, tev v (root (r.foldl (fun a g => buildL (n0 op) [a, g]) a)) = r.foldl (fun b g => evO op false b (tev v (root g))) (tev v (root a))
  | [], a, m, ha, _, _ => ⟨by simpa using ha, fun _ => rfl⟩
  | g :: r, a, m, ha, hr, hl => by
    have e : (g :: r).length * (k + 1) = (k + 1) + r.length * (k + 1) := by rw [List.length_cons, Nat.add_mul, Nat.one_mul, Nat.add_comm]
    rw [e] at hl ⊢
    have hg := hr g (by simp)
    have h1 := ha.can.pos
    have h2 := hg.can.pos
    have h3 := ha.size
    have h4 := hg.size
    have hx : usesX op = true := by rcases hop with rfl | rfl <;> rfl
    have hy : usesY op = true := by rcases hop with rfl | rfl <;> rfl
    have hok : OkNd (binN (n0 op) a g) (a ++ g.map (shN a.length)).length := by
      have hl : (a ++ g.map (shN a.length)).length = a.length + g.length := by rw [List.length_append, List.length_map]
      unfold binN
      rw [hl]
      rcases hop with rfl | rfl <;> constructor <;> simp [n0, usesX, usesY, isAgent, isGroup] <;> omega
    obtain ⟨c1, c2⟩ := bin_can ha.can hg.can hx hy hok (by omega)
    have hnew : Gd n (buildL (n0 op) [a, g]) (m + (k + 1)) := ⟨c1, by rw [c2]; simp only [Tr.size]; omega, by
      rw [c2]; simp only [propT, ha.ok, hg.ok]; rcases hop with rfl | rfl <;> rfl⟩
    obtain ⟨i1, i2⟩ := join_gd hop r _ _ hnew (fun g' hg' => hr g' (by simp [hg'])) (by omega)
    refine ⟨by rw [List.foldl_cons, ← Nat.add_assoc]; exact i1, fun v => ?_⟩
    rw [List.foldl_cons, List.foldl_cons, i2 v, c2, tev]
    have : ∀ b c : Bool, evO op (v.testBit (0 : Int).toNat) b c = evO op false b c := by intro b c; rcases hop with rfl | rfl <;> rfl
    rw [this]
theorem one_gd {n : Nat} {f : List Nd} (x : Nd) (hf : f = [x]) (hc : check [x] = 0) (hx : usesX x.op = false) (hy : usesY x.op = false) (ho : opN n x.op x.i x.g = true) : Gd n f 1 ∧ root f = .nd x.op x.i x.e x.g .none .none := by
  subst hf
  have h0 : ([x] : List Nd)[0]? = some x := rfl
  have hr : root [x] = .nd x.op x.i x.e x.g .none .none := by
    show tree [x] 0 = _
    rw [tree_nd (check_okl hc) h0, hx, hy]; rfl
  have ok := check_okl hc 0 x h0
  refine ⟨⟨⟨check_okl hc, by simp, by simp, ?_⟩, by rw [hr]; simp [Tr.size], by rw [hr]; simp only [propT, ho]; rfl⟩, hr⟩
  rw [hr]
  have e1 := ok.nox hx
  have e2 := ok.noy hy
  simp only [finT, putN, idx, List.nil_append]
  cases x; simp only at e1 e2; subst e1; subst e2; rfl
theorem fact_gd {n i : Nat} (hn : n ≤ 4) (hi : i < n) : Gd n (factL i) 1 ∧ ∀ v, tev v (root (factL i)) = v.testBit i := by
  have hb : factL i = [nI 3 i] := by
    rw [factL, build_one]
    have : i = 0 ∨ i = 1 ∨ i = 2 ∨ i = 3 := by omega
    rcases this with rfl | rfl | rfl | rfl <;> rfl
  have hc : check [nI 3 i] = 0 := by
    have : i = 0 ∨ i = 1 ∨ i = 2 ∨ i = 3 := by omega
    rcases this with rfl | rfl | rfl | rfl <;> rfl
  obtain ⟨h1, h2⟩ := one_gd (n := n) (nI 3 i) hb hc rfl rfl (by simp [opN, nI]; omega)
  exact ⟨h1, fun v => by rw [h2]; rfl⟩
theorem Gd.more {n k m : Nat} {f : List Nd} (h : Gd n f k) (hk : k ≤ m) : Gd n f m := ⟨h.can, Nat.le_trans h.size hk, h.ok⟩
theorem lit_gd {n i : Nat} (hn : n ≤ 4) (hi : i < n) (w : Nat) : Gd n (lit i w) 2 ∧ ∀ v, tev v (root (lit i w)) = (v.testBit i == w.testBit i) := by
  obtain ⟨h1, h2⟩ := fact_gd hn hi
  unfold lit
  cases w.testBit i with
  | true => exact ⟨h1.more (by omega), fun v => by rw [cond_true, h2]; cases v.testBit i <;> rfl⟩
  | false =>
    obtain ⟨h3, h4⟩ := not_gd h1 (by omega)
    exact ⟨h3, fun v => by rw [cond_false, h4, h2]; cases v.testBit i <;> rfl⟩
def jev (op : Int) (em : List Nd) (v : Nat) : List (List Nd) → Bool
  | [] => tev v (root em)
  | f :: r => r.foldl (fun b g => evO op false b (tev v (root g))) (tev v (root f))
theorem joinL_gd {n k : Nat} {op : Int} (hop : op = 5 ∨ op = 6) (em : List Nd) (hem : Gd n em 1) (l : List (List Nd)) (hl : ∀ g, g ∈ l → Gd n g k) (hs : l.length * (k + 1) ≤ 200) (m : Nat) (h1 : 1 ≤ m) (hm : l.length * (k + 1) ≤ m + 1) :
    Gd n (joinL op em l) m ∧ ∀ v, tev v (root (joinL op em l)) = jev op em v l := by
  cases l with
  | nil => exact ⟨hem.more h1, fun _ => rfl⟩
  | cons f r =>
    have hf := hl f (by simp)
    have e : (f :: r).length * (k + 1) = (k + 1) + r.length * (k + 1) := by rw [List.length_cons, Nat.add_mul, Nat.one_mul, Nat.add_comm]
    rw [e] at hs hm
    simp only [joinL]
    rw [can_comp hf.can]
    obtain ⟨h2, h3⟩ := join_gd hop r f k hf (fun g hg => hl g (by simp [hg])) (by omega)
    exact ⟨h2.more (by omega), h3⟩
theorem fold_and {α : Type} (q : α → Bool) : ∀ (r : List α) (b : Bool), r.foldl (fun b g => evO 5 false b (q g)) b = (b && r.all q)
  | [], b => by simp
  | x :: r, b => by
    rw [List.foldl_cons, fold_and q r, List.all_cons]
    show ((bif b then q x else false) && _) = _
    cases b <;> simp
theorem fold_or {α : Type} (q : α → Bool) : ∀ (r : List α) (b : Bool), r.foldl (fun b g => evO 6 false b (q g)) b = (b || r.any q)
  | [], b => by simp
  | x :: r, b => by
    rw [List.foldl_cons, fold_or q r, List.any_cons]
    show ((bif b then true else q x) || _) = _
    cases b <;> simp
theorem true_gd (n : Nat) : Gd n (buildL (n0 1) []) 1 ∧ ∀ v, tev v (root (buildL (n0 1) [])) = true := by
  obtain ⟨h1, h2⟩ := one_gd (n := n) (f := buildL (n0 1) []) (n0 1) rfl rfl rfl rfl rfl
  exact ⟨h1, fun v => by rw [h2]; rfl⟩
theorem false_gd (n : Nat) : Gd n (buildL (n0 2) []) 1 ∧ ∀ v, tev v (root (buildL (n0 2) [])) = false := by
  obtain ⟨h1, h2⟩ := one_gd (n := n) (f := buildL (n0 2) []) (n0 2) rfl rfl rfl rfl rfl
  exact ⟨h1, fun v => by rw [h2]; rfl⟩
theorem case_gd {n : Nat} (hn : n ≤ 4) (w : Nat) : Gd n (caseL w n) 11 ∧ ∀ v, tev v (root (caseL w n)) = (List.range n).all fun i => v.testBit i == w.testBit i := by
  have hl : ∀ g, g ∈ lits w n → Gd n g 2 := by
    intro g hg
    obtain ⟨i, hi, rfl⟩ := List.mem_map.1 hg
    exact (lit_gd hn (List.mem_range.1 hi) w).1
  have hlen := lits_len w n
  obtain ⟨h1, h2⟩ := joinL_gd (k := 2) (.inl rfl) _ (true_gd n).1 (lits w n) hl (by omega) 11 (by omega) (by omega)
  refine ⟨h1, fun v => ?_⟩
  rw [caseL, h2]
  have hev : (lits w n).all (fun g => tev v (root g)) = (List.range n).all fun i => v.testBit i == w.testBit i := by
    rw [lits, List.all_map]
    rw [Bool.eq_iff_iff, List.all_eq_true, List.all_eq_true]
    constructor <;> intro h i hi <;> have := h i hi <;> simp only [Function.comp, (lit_gd hn (List.mem_range.1 hi) w).2] at * <;> exact this
  rw [← hev]
  cases lits w n with
  | nil => exact (true_gd n).2 v
  | cons f r => simp only [jev, fold_and (fun g => tev v (root g)), List.all_cons]
theorem cases_mem {s n : Nat} : ∀ {m : Nat} {g : List Nd}, g ∈ casesL s n m → ∃ w, g = caseL w n
  | 0, g, h => by cases h
  | m + 1, g, h => by
    rw [casesL] at h
    cases hb : s.testBit m with
    | false => rw [hb] at h; exact cases_mem h
    | true =>
      rw [hb] at h
      rcases List.mem_append.1 h with h | h
      · exact cases_mem h
      · exact ⟨m, by simpa using h⟩
theorem cases_any {s n v : Nat} (hn : n ≤ 4) (hv : v < 2 ^ n) : ∀ {m : Nat}, m ≤ 2 ^ n → (casesL s n m).any (fun g => tev v (root g)) = (decide (v < m) && s.testBit v)
  | 0, _ => rfl
  | m + 1, hm => by
    have key : ((List.range n).all fun i => v.testBit i == m.testBit i) = decide (v = m) := by
      rw [Bool.eq_iff_iff, List.all_eq_true, decide_eq_true_iff]
      constructor
      · intro h
        apply Nat.eq_of_testBit_eq
        intro i
        rcases Nat.lt_or_ge i n with q | q
        · simpa using h i (List.mem_range.2 q)
        · rw [bit_out hv (by omega), bit_out (show m < 2 ^ n by omega) (by omega)]
      · intro h i _; rw [h]; simp
    have ih := cases_any (s := s) hn hv (m := m) (by omega)
    rw [casesL]
    cases hb : s.testBit m with
    | false =>
      simp only [cond_false]
      rw [ih]
      by_cases e : v = m
      · subst e; simp [hb]
      · have : decide (v < m + 1) = decide (v < m) := by
          by_cases q : v < m
          · simp [q, Nat.lt_succ_of_lt q]
          · have : ¬ v < m + 1 := by omega
            simp [q, this]
        rw [this]
    | true =>
      simp only [cond_true]
      rw [List.any_append, ih]
      simp only [List.any_cons, List.any_nil, Bool.or_false]
      rw [(case_gd hn m).2, key]
      by_cases e : v = m
      · subst e; simp [hb]
      · have : decide (v < m + 1) = decide (v < m) := by
          by_cases q : v < m
          · simp [q, Nat.lt_succ_of_lt q]
          · have : ¬ v < m + 1 := by omega
            simp [q, this]
        rw [this]; simp [e]
theorem formula_gd {s n : Nat} (hn : n ≤ 4) : Gd n (formulaL s n) 200 ∧ ∀ v, v < 2 ^ n → tev v (root (formulaL s n)) = s.testBit v := by
  have h16 := vals_le hn
  have hl : ∀ g, g ∈ casesL s n (2 ^ n) → Gd n g 11 := by
    intro g hg
    obtain ⟨w, rfl⟩ := cases_mem hg
    exact (case_gd hn w).1
  have hlen := cases_len s n (2 ^ n)
  obtain ⟨h1, h2⟩ := joinL_gd (k := 11) (.inr rfl) _ (false_gd n).1 (casesL s n (2 ^ n)) hl (by omega) 200 (by omega) (by omega)
  refine ⟨h1, fun v hv => ?_⟩
  rw [formulaL, h2]
  have ha := cases_any (s := s) hn hv (Nat.le_refl (2 ^ n))
  rw [decide_eq_true hv, Bool.true_and] at ha
  rw [← ha]
  cases casesL s n (2 ^ n) with
  | nil => exact (false_gd n).2 v
  | cons f r => simp only [jev, fold_or (fun g => tev v (root g)), List.any_cons]
theorem orN_zero {m : Nd → Nat} : ∀ {c : List Nd}, (∀ x, x ∈ c → m x = 0) → orN m c = 0
  | [], _ => rfl
  | x :: r, h => by rw [orN_cons, h x (by simp), orN_zero fun y hy => h y (by simp [hy])]; rfl
theorem opN_op {n : Nat} {op i g : Int} (h : opN n op i g = true) : (1 ≤ op ∧ op ≤ 8) ∧ (op = 3 → i < n) ∧ g = 0 := by
  simp only [opN, Bool.and_eq_true, decide_eq_true_eq, Bool.or_eq_true, bne_iff_ne, beq_iff_eq] at h
  obtain ⟨⟨⟨h1, h2⟩, h3⟩, h4⟩ := h
  exact ⟨⟨h1, h2⟩, fun e => by rcases h3 with h3 | h3; exact absurd e h3; exact h3, h4⟩
/-- The models of the formula of a set are the set. -/
theorem models_formula {s n : Nat} (hn : n ≤ 4) (hs : s < 2 ^ (2 ^ n)) : modelsI (formulaL s n) n = (s, 0) := by
  obtain ⟨hg, hev⟩ := formula_gd (s := s) hn
  have hmem : ∀ x, x ∈ formulaL s n → (1 ≤ x.op ∧ x.op ≤ 8) ∧ (x.op = 3 → x.i < n) ∧ x.g = 0 := by
    intro x hx
    rw [← hg.can.fix] at hx
    exact opN_op (finT_prop (root (formulaL s n)) [] hg.ok (fun y hy => by cases hy) x hx)
  have hc := hg.can.check
  have hco := can_comp hg.can
  have hfr : frags (formulaL s n) = 0 := by
    rw [frags, hco]
    refine orN_zero fun x hx => ?_
    obtain ⟨h1, _, _⟩ := hmem x hx
    have : x.op = 1 ∨ x.op = 2 ∨ x.op = 3 ∨ x.op = 4 ∨ x.op = 5 ∨ x.op = 6 ∨ x.op = 7 ∨ x.op = 8 := by omega
    unfold fragN
    rcases this with h | h | h | h | h | h | h | h <;> rw [h] <;> rfl
  have hag : agents (formulaL s n) = 0 := by
    rw [agents, hco]
    refine orN_zero fun x hx => ?_
    obtain ⟨h1, _, h3⟩ := hmem x hx
    have : x.op = 1 ∨ x.op = 2 ∨ x.op = 3 ∨ x.op = 4 ∨ x.op = 5 ∨ x.op = 6 ∨ x.op = 7 ∨ x.op = 8 := by omega
    unfold agN
    rw [h3]
    rcases this with h | h | h | h | h | h | h | h <;> rw [h] <;> rfl
  have hfa : facts (formulaL s n) < 2 ^ n := by
    rw [facts, hco]
    refine orN_lt fun x hx => ?_
    obtain ⟨_, h2, _⟩ := hmem x hx
    obtain ⟨i, hi⟩ := List.mem_iff_getElem?.1 hx
    unfold factN
    by_cases e : x.op = 3
    · have h3 := (hg.can.ok i x hi).fact e
      have h4 := h2 e
      rw [e]
      show 2 ^ x.i.toNat < 2 ^ n
      exact Nat.pow_lt_pow_right (by decide) (by omega)
    · have : (x.op == 3) = false := by simpa using e
      rw [this]
      exact Nat.two_pow_pos n
  have hfits : fits (formulaL s n) 0 n = true := by
    have e1 : belowB (agents (formulaL s n)) 0 = true := by rw [hag]; rfl
    have e2 : belowB (facts (formulaL s n)) n = true := by
      have h8 := facts_lt (formulaL s n)
      rw [below_iff h8 (by omega)]
      intro j _ hj
      rcases Nat.lt_or_ge j n with q | q
      · omega
      · have := bit_out hfa (show ¬ j < n by omega)
        rw [testBit_mod] at this
        simp [hj] at this
    unfold fits
    rw [hc, e1, e2]; rfl
  rw [mdI5 (by rw [okN_iff.2 ⟨n, rfl, hn⟩]; rfl) (by rw [hc]; rfl) (by rw [hfr]; rfl) (by rw [hfits]; rfl), modelsOf, hco, Int.toNat_natCast]
  have : maskOf (fun v => holds (formulaL s n) v) (2 ^ n) = maskOf s.testBit (2 ^ n) := maskOf_congr fun j hj => by
    rw [holds_root hg.can.ok hg.can.pos, hev j hj]
  rw [this, maskOf_self hs]
theorem modelsI_lt {f : List Nd} {n : Nat} : (modelsI f n).1 < 2 ^ (2 ^ n) ∧ ((modelsI f n).2 ≠ 0 → (modelsI f n).1 = 0) := by
  have h0 : 0 < 2 ^ (2 ^ n) := Nat.two_pow_pos _
  unfold modelsI
  cases (!okN (n : Int)) with
  | true => exact ⟨h0, fun _ => rfl⟩
  | false =>
    cases (check f != 0) with
    | true => exact ⟨h0, fun _ => rfl⟩
    | false =>
      cases (((frags f : Nat) : Int) != 0) with
      | true => exact ⟨h0, fun _ => rfl⟩
      | false =>
        cases (!fits f 0 (n : Int)) with
        | true => exact ⟨h0, fun _ => rfl⟩
        | false => exact ⟨maskOf_lt _ _, fun h => absurd rfl h⟩
theorem formulaI_of {s n : Nat} (hn : n ≤ 4) (hs : s < 2 ^ (2 ^ n)) : formulaI s n = (formulaL s n, 0) := by
  rw [foI2 (by rw [bchk_of hn hs]; rfl)]; rfl
end Go.Proofs.Ythnfbkplkheliaa
set_option maxRecDepth 100000
namespace Go.Proofs.Ythnfbkplkheliaa
open Go Go.Dv

theorem le_minP {p : Nat → Bool} {d : Nat → Nat} {n k : Nat} : ∀ {m : Nat}, k ≤ minP p d n m ↔ k ≤ n ∧ ∀ u, u < m → p u = true → k ≤ d u
  | 0 => ⟨fun h => ⟨h, fun u hu => by omega⟩, fun h => h.1⟩
  | m + 1 => by
    rw [minP]
    cases hp : p m with
    | false =>
      simp only [cond_false]
      rw [le_minP (m := m)]
      constructor
      · rintro ⟨h1, h2⟩
        refine ⟨h1, fun u hu hq => ?_⟩
        rcases Nat.lt_or_ge u m with q | q
        · exact h2 u q hq
        · rw [show u = m by omega, hp] at hq; cases hq
      · rintro ⟨h1, h2⟩
        exact ⟨h1, fun u hu hq => h2 u (by omega) hq⟩
    | true =>
      simp only [cond_true]
      rw [Nat.le_min, le_minP (m := m)]
      constructor
      · rintro ⟨⟨h1, h2⟩, h3⟩
        refine ⟨h1, fun u hu hq => ?_⟩
        rcases Nat.lt_or_ge u m with q | q
        · exact h2 u q hq
        · rw [show u = m by omega]; exact h3
      · rintro ⟨h1, h2⟩
        exact ⟨⟨h1, fun u hu hq => h2 u (by omega) hq⟩, h2 m (by omega) hp⟩
theorem minP_at {p : Nat → Bool} {d : Nat → Nat} {n : Nat} : ∀ (m : Nat), minP p d n m = n ∨ ∃ u, u < m ∧ p u = true ∧ d u = minP p d n m
  | 0 => .inl rfl
  | m + 1 => by
    rw [minP]
    cases hp : p m with
    | false =>
      simp only [cond_false]
      rcases minP_at (p := p) (d := d) (n := n) m with h | ⟨u, h1, h2, h3⟩
      · exact .inl h
      · exact .inr ⟨u, by omega, h2, h3⟩
    | true =>
      simp only [cond_true]
      rcases Nat.le_total (d m) (minP p d n m) with q | q
      · exact .inr ⟨m, by omega, hp, by omega⟩
      · rw [Nat.min_eq_left q]
        rcases minP_at (p := p) (d := d) (n := n) m with h | ⟨u, h1, h2, h3⟩
        · exact .inl h
        · exact .inr ⟨u, by omega, h2, h3⟩
theorem minP_hit {p : Nat → Bool} {d : Nat → Nat} {n m : Nat} (h : ∃ u, u < m ∧ p u = true) (hd : ∀ u, u < m → p u = true → d u ≤ n) : ∃ u, u < m ∧ p u = true ∧ d u = minP p d n m := by
  rcases minP_at (p := p) (d := d) (n := n) m with q | q
  · obtain ⟨u, h1, h2⟩ := h
    have h3 := (le_minP.1 (Nat.le_refl (minP p d n m))).2 u h1 h2
    have h4 := hd u h1 h2
    exact ⟨u, h1, h2, by omega⟩
  · exact q
theorem eq_of_le {a b : Nat} (h : ∀ k, k ≤ a ↔ k ≤ b) : a = b := Nat.le_antisymm ((h a).1 (Nat.le_refl a)) ((h b).2 (Nat.le_refl b))

/-! distances -/
theorem dist_sym : ∀ a, a < 16 → ∀ b, b < 16 → dist a b = dist b a := by decide +kernel
theorem dist_zero : ∀ a, a < 16 → ∀ b, b < 16 → (dist a b = 0 ↔ a = b) := by decide +kernel
theorem dist_tri : ∀ a, a < 16 → ∀ b, b < 16 → ∀ c, c < 16 → dist a c ≤ dist a b + dist b c := by decide +kernel
theorem dist_four (u v : Nat) : dist u v ≤ 4 := cnt_le u v 4
theorem near_one {v c : Nat} (hc : c < 16) : near v (2 ^ c) 4 = dist c v := by
  refine eq_of_le fun k => ?_
  rw [near, le_minP]
  constructor
  · rintro ⟨_, h⟩
    exact h c hc (by rw [Nat.testBit_two_pow]; simp)
  · intro h
    have := dist_four c v
    refine ⟨by omega, fun u _ hq => ?_⟩
    rw [Nat.testBit_two_pow, decide_eq_true_eq] at hq
    rw [← hq]; exact h
theorem btw_two {a b c : Nat} (ha : a < 16) (hb : b < 16) (hc : c < 16) : btw (2 ^ a ||| 2 ^ b) (2 ^ c) 4 = min (dist a c) (dist b c) := by
  refine eq_of_le fun k => ?_
  rw [btw, le_minP, Nat.le_min]
  have e : ∀ u, (2 ^ a ||| 2 ^ b).testBit u = true ↔ u = a ∨ u = b := fun u => by
    rw [Nat.testBit_or, Nat.testBit_two_pow, Nat.testBit_two_pow, Bool.or_eq_true, decide_eq_true_eq, decide_eq_true_eq]
    constructor <;> rintro (h | h) <;> simp [h]
  constructor
  · rintro ⟨_, h⟩
    have h1 := h a ha ((e a).2 (.inl rfl))
    have h2 := h b hb ((e b).2 (.inr rfl))
    rw [near_one hc] at h1 h2
    rw [dist_sym a ha c hc, dist_sym b hb c hc]
    exact ⟨h1, h2⟩
  · rintro ⟨h1, h2⟩
    have := dist_four a c
    refine ⟨by omega, fun u hu hq => ?_⟩
    rw [near_one hc]
    rcases (e u).1 hq with rfl | rfl
    · rw [dist_sym c hc u ha]; exact h1
    · rw [dist_sym c hc u hb]; exact h2
theorem btw_one {v b : Nat} (hv : v < 16) : btw (2 ^ v) b 4 = near v b 4 := by
  refine eq_of_le fun k => ?_
  rw [btw, le_minP]
  constructor
  · rintro ⟨_, h⟩
    exact h v hv (by rw [Nat.testBit_two_pow]; simp)
  · intro h
    have := near_le v b 4
    refine ⟨by omega, fun u _ hq => ?_⟩
    rw [Nat.testBit_two_pow, decide_eq_true_eq] at hq
    rw [← hq]; exact h
theorem pow_16 {v : Nat} (hv : v < 16) : 2 ^ v < 2 ^ (2 ^ 4) ∧ 2 ^ v ≠ 0 := ⟨Nat.pow_lt_pow_right (by decide) hv, by have := Nat.two_pow_pos v; omega⟩

/-! the closest valuations -/
def cl4 (a b : Nat) : Nat := (closestI a b 4).1
theorem cl4_is {a b : Nat} (ha : a < 2 ^ (2 ^ 4)) (hb : b < 2 ^ (2 ^ 4)) : closestI a b 4 = (cl4 a b, 0) := by
  have e1 : bchk a 4 = 0 := bchk_of (n := 4) (by decide) ha
  have e2 : bchk b 4 = 0 := bchk_of (n := 4) (by decide) hb
  unfold cl4 closestI
  rw [e1, e2]
  cases ((b : Int) == 0) <;> rfl
theorem cl4_zero {a : Nat} (ha : a < 2 ^ (2 ^ 4)) : cl4 a 0 = a := by
  have e1 : bchk a 4 = 0 := bchk_of (n := 4) (by decide) ha
  unfold cl4 closestI
  rw [e1]; rfl
theorem cl4_bit {a b : Nat} (ha : a < 2 ^ (2 ^ 4)) (hb : b < 2 ^ (2 ^ 4)) (b0 : b ≠ 0) (v : Nat) : (cl4 a b).testBit v = true ↔ v < 16 ∧ a.testBit v = true ∧ near v b 4 = btw a b 4 := by
  have e1 : bchk a 4 = 0 := bchk_of (n := 4) (by decide) ha
  have e2 : bchk b 4 = 0 := bchk_of (n := 4) (by decide) hb
  have e3 : ((b : Int) == 0) = false := by simp; omega
  have e : cl4 a b = maskOf (clq a b 4) 16 := by
    unfold cl4 closestI
    rw [e1, e2, e3]; rfl
  rw [e, maskOf_bit, Bool.and_eq_true, decide_eq_true_eq, clq]
  by_cases a0 : a = 0
  · subst a0; simp
  · have := btwI_of (n := 4) (by decide) ha hb a0 b0
    rw [show ((4 : Nat) : Int) = 4 from rfl] at this
    rw [show btwI a b ((4 : Nat) : Int) = (btw a b 4 : Nat) from this]
    cases a.testBit v <;> simp
    omega
theorem cl4_sub {a b : Nat} (ha : a < 2 ^ (2 ^ 4)) (hb : b < 2 ^ (2 ^ 4)) {v : Nat} (h : (cl4 a b).testBit v = true) : a.testBit v = true := by
  by_cases b0 : b = 0
  · subst b0; rw [cl4_zero ha] at h; exact h
  · exact ((cl4_bit ha hb b0 v).1 h).2.1
theorem cl4_lt {a b : Nat} (ha : a < 2 ^ (2 ^ 4)) (hb : b < 2 ^ (2 ^ 4)) : cl4 a b < 2 ^ (2 ^ 4) := by
  apply Nat.lt_pow_two_of_testBit
  intro i hi
  cases h : (cl4 a b).testBit i with
  | false => rfl
  | true =>
    have := cl4_sub ha hb h
    rw [bit_out ha (by omega)] at this; cases this
theorem cl4_none {a b : Nat} (ha : a < 2 ^ (2 ^ 4)) (hb : b < 2 ^ (2 ^ 4)) : cl4 a b = 0 ↔ a = 0 := by
  by_cases b0 : b = 0
  · subst b0; rw [cl4_zero ha]
  · constructor
    · intro h
      by_cases a0 : a = 0
      · exact a0
      · obtain ⟨u, h1, h2, h3⟩ := minP_hit (d := fun v => near v b 4) (n := 4) (some_bit a0 ha) (fun u _ _ => near_le u b 4)
        have := (cl4_bit ha hb b0 u).2 ⟨h1, h2, h3⟩
        rw [h, Nat.zero_testBit] at this; cases this
    · intro h
      subst h
      apply Nat.eq_of_testBit_eq
      intro i
      rw [Nat.zero_testBit]
      cases h : (cl4 0 b).testBit i with
      | false => rfl
      | true => have := cl4_sub ha hb h; rw [Nat.zero_testBit] at this; cases this
theorem near_zero {v b : Nat} (hv : v < 16) : near v b 4 = 0 ↔ b.testBit v = true := by
  constructor
  · intro h
    cases hb : b.testBit v with
    | true => rfl
    | false =>
      have : 1 ≤ near v b 4 := by
        rw [near, le_minP]
        refine ⟨by omega, fun u hu hq => ?_⟩
        rcases Nat.eq_zero_or_pos (dist u v) with q | q
        · have := (dist_zero u hu v hv).1 q
          subst this; rw [hb] at hq; cases hq
        · exact q
      omega
  · intro h
    have h1 := (le_minP.1 (Nat.le_refl (near v b 4))).2 v hv h
    have h2 := (dist_zero v hv v hv).2 rfl
    omega
theorem cl4_common {a b : Nat} (ha : a < 2 ^ (2 ^ 4)) (hb : b < 2 ^ (2 ^ 4)) (h : a &&& b ≠ 0) : cl4 a b = a &&& b := by
  have b0 : b ≠ 0 := fun e => h (by rw [e, Nat.and_zero])
  have hz : btw a b 4 = 0 := by
    obtain ⟨u, h1, h2⟩ := some_bit (m := 16) h (Nat.lt_of_le_of_lt Nat.and_le_left ha)
    rw [Nat.testBit_and, Bool.and_eq_true] at h2
    have h3 := (le_minP.1 (Nat.le_refl (btw a b 4))).2 u h1 h2.1
    have h4 := (near_zero h1).2 h2.2
    omega
  apply Nat.eq_of_testBit_eq
  intro i
  rw [Bool.eq_iff_iff, cl4_bit ha hb b0 i, Nat.testBit_and, Bool.and_eq_true, hz]
  constructor
  · rintro ⟨h1, h2, h3⟩
    exact ⟨h2, (near_zero h1).1 h3⟩
  · rintro ⟨h1, h2⟩
    have h3 : i < 16 := by
      rcases Nat.lt_or_ge i 16 with q | q
      · exact q
      · rw [bit_out ha (show ¬ i < 2 ^ 4 by omega)] at h1; cases h1
    exact ⟨h3, h1, (near_zero h3).2 h2⟩
theorem cl4_least {a b u v : Nat} (ha : a < 2 ^ (2 ^ 4)) (hb : b < 2 ^ (2 ^ 4)) (b0 : b ≠ 0) (hu : u < 16) (hv : (cl4 a b).testBit v = true) (hau : a.testBit u = true) :
    near v b 4 ≤ near u b 4 ∧ (near v b 4 = near u b 4 → (cl4 a b).testBit u = true) := by
  obtain ⟨_, _, h3⟩ := (cl4_bit ha hb b0 v).1 hv
  have h1 := (le_minP.1 (Nat.le_refl (btw a b 4))).2 u hu hau
  refine ⟨by omega, fun e => (cl4_bit ha hb b0 u).2 ⟨hu, hau, by omega⟩⟩

/-! forgetting -/
theorem fg_lt {s k : Nat} (hs : s < 2 ^ (2 ^ 4)) (hk : k < 4) : forgetN s k 4 < 2 ^ (2 ^ 4) := forget_lt hs hk
theorem fg_sub {s k x : Nat} (hs : s < 2 ^ (2 ^ 4)) (h : s.testBit x = true) : (forgetN s k 4).testBit x = true := by rw [forget_bit hs, h]; rfl
theorem xor_rc (a b c : Nat) : a ^^^ b ^^^ c = a ^^^ c ^^^ b := by rw [Nat.xor_assoc, Nat.xor_comm b c, ← Nat.xor_assoc]
theorem fg_comm {s i j : Nat} (hs : s < 2 ^ (2 ^ 4)) (hi : i < 4) (hj : j < 4) : forgetN (forgetN s i 4) j 4 = forgetN (forgetN s j 4) i 4 := by
  apply Nat.eq_of_testBit_eq
  intro x
  rw [forget_bit (fg_lt hs hi), forget_bit (fg_lt hs hj), forget_bit hs, forget_bit hs, forget_bit hs, forget_bit hs, xor_rc x (2 ^ j) (2 ^ i)]
  cases s.testBit x <;> cases s.testBit (x ^^^ 2 ^ i) <;> cases s.testBit (x ^^^ 2 ^ j) <;> rfl
theorem fg_idem {s i : Nat} (hs : s < 2 ^ (2 ^ 4)) (hi : i < 4) : forgetN (forgetN s i 4) i 4 = forgetN s i 4 := by
  apply Nat.eq_of_testBit_eq
  intro x
  rw [forget_bit (fg_lt hs hi), forget_bit hs, forget_bit hs, xx]
  cases s.testBit x <;> cases s.testBit (x ^^^ 2 ^ i) <;> rfl
def Cl (t k : Nat) : Prop := ∀ x, t.testBit x = true → t.testBit (x ^^^ 2 ^ k) = true
theorem cl_self {t k : Nat} (ht : t < 2 ^ (2 ^ 4)) : Cl (forgetN t k 4) k := by
  intro x h
  rw [forget_bit ht] at h ⊢
  rw [xx, Bool.or_comm]; exact h
theorem cl_keep {t k m : Nat} (ht : t < 2 ^ (2 ^ 4)) (h : Cl t k) : Cl (forgetN t m 4) k := by
  intro x hx
  rw [forget_bit ht, Bool.or_eq_true] at hx ⊢
  rcases hx with hx | hx
  · exact .inl (h x hx)
  · right; rw [xor_rc]; exact h _ hx
theorem cl_of {s k : Nat} (hs : s < 2 ^ (2 ^ 4)) (h : depq s 4 k = false) : Cl s k := by
  have : forgetN s k 4 = s := by
    unfold depq at h
    simp at h
    omega
  rw [← this]; exact cl_self hs
def fga (s : Nat) : Nat → Nat
  | 0 => s
  | m + 1 => bif depq s 4 m then forgetN (fga s m) m 4 else fga s m
theorem fga_lt {s : Nat} (hs : s < 2 ^ (2 ^ 4)) : ∀ {m : Nat}, m ≤ 4 → fga s m < 2 ^ (2 ^ 4)
  | 0, _ => hs
  | m + 1, h => by
    rw [fga]
    cases depq s 4 m with
    | true => exact fg_lt (fga_lt hs (by omega)) (by omega)
    | false => exact fga_lt hs (by omega)
theorem fga_sub {s x : Nat} (hs : s < 2 ^ (2 ^ 4)) (hx : s.testBit x = true) : ∀ {m : Nat}, m ≤ 4 → (fga s m).testBit x = true
  | 0, _ => hx
  | m + 1, h => by
    rw [fga]
    cases depq s 4 m with
    | true => exact fg_sub (fga_lt hs (by omega)) (fga_sub hs hx (by omega))
    | false => exact fga_sub hs hx (by omega)
theorem fga_cl {s : Nat} (hs : s < 2 ^ (2 ^ 4)) : ∀ {m : Nat}, m ≤ 4 → (∀ k, k < m → Cl (fga s m) k) ∧ (∀ k, Cl s k → Cl (fga s m) k)
  | 0, _ => ⟨fun k h => by omega, fun k h => h⟩
  | m + 1, hm => by
    obtain ⟨h1, h2⟩ := fga_cl hs (m := m) (by omega)
    have ht := fga_lt hs (m := m) (by omega)
    rw [fga]
    cases hd : depq s 4 m with
    | true =>
      refine ⟨fun k hk => ?_, fun k hk => cl_keep ht (h2 k hk)⟩
      rcases Nat.lt_or_ge k m with q | q
      · exact cl_keep ht (h1 k q)
      · rw [show k = m by omega]; exact cl_self ht
    | false =>
      refine ⟨fun k hk => ?_, h2⟩
      rcases Nat.lt_or_ge k m with q | q
      · exact h1 k q
      · rw [show k = m by omega]; exact h2 m (cl_of hs hd)
def flip (x y k : Nat) : Nat := bif (y ^^^ x).testBit k then y ^^^ 2 ^ k else y
theorem flips : ∀ v, v < 16 → ∀ x, x < 16 → flip x (flip x (flip x (flip x v 0) 1) 2) 3 = x := by decide +kernel
theorem flip_in {t x y k : Nat} (h : Cl t k) (hy : t.testBit y = true) : t.testBit (flip x y k) = true := by
  unfold flip
  cases (y ^^^ x).testBit k with
  | true => exact h y hy
  | false => exact hy
theorem fga_all {s : Nat} (hs : s < 2 ^ (2 ^ 4)) : (s = 0 ∧ fga s 4 = 0) ∨ (s ≠ 0 ∧ fga s 4 = 65535) := by
  by_cases h0 : s = 0
  · left
    refine ⟨h0, ?_⟩
    subst h0; decide +kernel
  · right
    refine ⟨h0, ?_⟩
    obtain ⟨v, hv, hb⟩ := some_bit h0 hs
    have ht := fga_lt hs (m := 4) (by omega)
    have hc := (fga_cl hs (m := 4) (by omega)).1
    have hb4 := fga_sub hs hb (m := 4) (by omega)
    apply Nat.eq_of_testBit_eq
    intro x
    rw [show 65535 = 2 ^ 16 - 1 from rfl, Nat.testBit_two_pow_sub_one]
    by_cases hx : x < 16
    · rw [decide_eq_true hx]
      have := flip_in (x := x) (hc 3 (by omega)) (flip_in (x := x) (hc 2 (by omega)) (flip_in (x := x) (hc 1 (by omega)) (flip_in (x := x) (hc 0 (by omega)) hb4)))
      rw [flips v hv x hx] at this
      exact this
    · rw [decide_eq_false hx]
      exact bit_out ht hx
theorem dep_bit {s i : Nat} (hi : i < 4) : (maskOf (depq s 4) 4).testBit i = depq s 4 i := by rw [maskOf_bit, decide_eq_true hi]; rfl
end Go.Proofs.Ythnfbkplkheliaa
set_option maxRecDepth 100000
set_option maxHeartbeats 4000000
namespace Go.Proofs.Ythnfbkplkheliaa
open Go Go.Dv

theorem u8_mod {u : Nat} (hu : u < 256) (m : Nat) : (IntKind.wrap .i64 (u : Int)).tmod (m : Int) = ((u % m : Nat) : Int) := by
  rw [wrap_small (by omega) (by omega), Int.tmod_eq_emod_of_nonneg (by omega)]; rfl
theorem set_mask {s n : Nat} (hs : s < 2 ^ 64) (hn : n ≤ 4) : andU s (IntKind.wrap .u64 (shlU 1 (shlU 1 (n : Int)) - 1)) = ((s &&& (2 ^ (2 ^ n) - 1) : Nat) : Int) := by
  have := sets_le hn
  rw [shl_all hn, andU_nat hs (by omega)]
theorem mask_lt (s n : Nat) : s &&& (2 ^ (2 ^ n) - 1) < 2 ^ (2 ^ n) := Nat.lt_of_le_of_lt Nat.and_le_right (by have := Nat.two_pow_pos (2 ^ n); omega)
theorem bback_pure (s : Nat) (f : List Nd) (u : Nat) (hs : s < 2 ^ 64) (hu : u < 256) : PureFn Try.prog 7 [u64 s, fpv f, .int .u8 u] (.bool true) := by
  refine PureFn.introC [4, 5, 6, 7, 9, 10, 12, 13, 14] mixed (fn := Try.f7) rfl rfl rfl fun M w0 => ?_
  obtain ⟨n, qn⟩ : ∃ n, n = u % 5 := ⟨_, rfl⟩
  have hn : n ≤ 4 := by omega
  obtain ⟨S, qS⟩ : ∃ S, S = s &&& (2 ^ (2 ^ n) - 1) := ⟨_, rfl⟩
  have hS : S < 2 ^ (2 ^ n) := by rw [qS]; exact mask_lt s n
  have h16 := sets_le hn
  have h1 := bs_Formula S n (by omega)
  rw [formulaI_of hn hS] at h1
  have h2 := bs_Models (formulaL S n) n
  rw [models_formula hn hS] at h2
  have h3 := bs_Models f n
  obtain ⟨hA, hE⟩ := modelsI_lt (f := f) (n := n)
  generalize modelsI f n = X at h3 hA hE
  have h4 := bs_Formula X.1 n (by omega)
  rw [formulaI_of hn hA] at h4
  have h5 := bs_Models (formulaL X.1 n) n
  rw [models_formula hn hA] at h5
  generalize formulaL S n = G at h1 h2
  generalize formulaL X.1 n = H at h4 h5
  (try (conv => whnf)); repeat' (first | (apply And.intro <;> (try (conv => whnf))) | (intro h; first | (with_reducible exact tf0 h) | (with_reducible exact ft0 h) | (with_reducible exact nt0 h) | (with_reducible exact nf0 h) | (exact litz h rfl) | (with_reducible exact tf h (by with_reducible assumption)) | (with_reducible exact tf (by with_reducible assumption) h) | (try (conv => whnf))) | (with_reducible rfl) | (apply True.intro) | (apply infoT; rfl) | (apply bleI; rfl) | (apply fitI; rfl) | (apply cellsI; rfl) | (apply szI; rfl) | (apply guardI; kernel_rfl) | (apply WhenQ.mk; (try (conv => whnf)); rotate_left; (try (conv => whnf)); rotate_right) | (with_reducible assumption) | (apply not_of; with_reducible assumption) | (apply left_of; with_reducible assumption) | (apply left_of; apply left_of; with_reducible assumption) | (apply and_of <;> first | (with_reducible assumption) | (apply not_of; with_reducible assumption))| (refine lin_plan (by kernel_rfl) ?_; (try (conv => whnf))) | (refine ⟨_, _, rfl, idx_map (by with_reducible assumption), rfl, ?_⟩; (try (conv => whnf))) | (refine ⟨rfl, ?_⟩; (try (conv => whnf))) | (exact Nat.le_refl 1) | ((apply ex3); (focus (with_reducible assumption)); (focus (with_reducible assumption)); (try (conv => whnf))) | ((apply ex2); (focus (with_reducible assumption)); (try (conv => whnf))) | (refine PureFn.dcq (f := 11) rfl ?_; (try (conv => whnf))) | ((refine ⟨_, _, bs_awake, ?_, ?_⟩); (focus (first | (refine ⟨trivial⟩ <;> first | (exact PLe.refl _) | (exact PLe.nil)) | (exact trivial))); (try (conv => whnf))) | (refine ⟨_, (by (conv => whnf); exact bs_awake), rfl, ?_⟩; (try (conv => whnf))) | fail)
  · exact .refl _
  refine ⟨Unit, fun _ => [(0, .pv (u64 s)), (1, .pv (fpv f)), (7, .pv (i64 n))], fun _ => 0, fun _ => [], ?_, ?_⟩
  · (try (conv => whnf)); repeat' (first | (apply And.intro <;> (try (conv => whnf))) | (intro h; first | (with_reducible exact tf0 h) | (with_reducible exact ft0 h) | (with_reducible exact nt0 h) | (with_reducible exact nf0 h) | (exact litz h rfl) | (with_reducible exact tf h (by with_reducible assumption)) | (with_reducible exact tf (by with_reducible assumption) h) | (try (conv => whnf))) | (with_reducible rfl) | (apply True.intro) | (apply infoT; rfl) | (apply bleI; rfl) | (apply fitI; rfl) | (apply cellsI; rfl) | (apply szI; rfl) | (apply guardI; kernel_rfl) | (apply WhenQ.mk; (try (conv => whnf)); rotate_left; (try (conv => whnf)); rotate_right) | (with_reducible assumption) | (apply not_of; with_reducible assumption) | (apply left_of; with_reducible assumption) | (apply left_of; apply left_of; with_reducible assumption) | (apply and_of <;> first | (with_reducible assumption) | (apply not_of; with_reducible assumption))| (refine lin_plan (by kernel_rfl) ?_; (try (conv => whnf))) | (refine ⟨_, _, rfl, idx_map (by with_reducible assumption), rfl, ?_⟩; (try (conv => whnf))) | (refine ⟨rfl, ?_⟩; (try (conv => whnf))) | (exact Nat.le_refl 1) | ((apply ex3); (focus (with_reducible assumption)); (focus (with_reducible assumption)); (try (conv => whnf))) | ((apply ex2); (focus (with_reducible assumption)); (try (conv => whnf))) | fail)
    refine ⟨(), ?_⟩
    (refine Wk.of ?_ ?_ rfl rfl rfl <;> (repeat' (first | (exact trivial) | (exact WkD.same _) | (exact WkO.same _ _ rfl) | (exact WkD.any _) | (refine WkD.int ?_) | (exact WkD.new' rfl rfl rfl) | (exact WkO.new _ _ rfl) | (refine WkO.vars rfl ?_) | (with_reducible rfl) | (exact rfl) | (refine ⟨?_, ?_⟩) | ((refine wrapA ?_ ?_ ?_); (focus (simp; done)); (focus ((try dsimp only); omega)); (focus ((try dsimp only); omega))) | fail)))
    exact (u8_mod hu 5).trans (by rw [qn])
  rintro ⟨⟩
  refine ⟨Unit, fun _ => [(1, .pv (fpv f)), (7, .pv (i64 n)), (8, .pv (u64 S))], fun _ => 0, fun _ => [], ?_, ?_⟩
  · (try (conv => whnf)); repeat' (first | (apply And.intro <;> (try (conv => whnf))) | (intro h; first | (with_reducible exact tf0 h) | (with_reducible exact ft0 h) | (with_reducible exact nt0 h) | (with_reducible exact nf0 h) | (exact litz h rfl) | (with_reducible exact tf h (by with_reducible assumption)) | (with_reducible exact tf (by with_reducible assumption) h) | (try (conv => whnf))) | (with_reducible rfl) | (apply True.intro) | (apply infoT; rfl) | (apply bleI; rfl) | (apply fitI; rfl) | (apply cellsI; rfl) | (apply szI; rfl) | (apply guardI; kernel_rfl) | (apply WhenQ.mk; (try (conv => whnf)); rotate_left; (try (conv => whnf)); rotate_right) | (with_reducible assumption) | (apply not_of; with_reducible assumption) | (apply left_of; with_reducible assumption) | (apply left_of; apply left_of; with_reducible assumption) | (apply and_of <;> first | (with_reducible assumption) | (apply not_of; with_reducible assumption))| (refine lin_plan (by kernel_rfl) ?_; (try (conv => whnf))) | (refine ⟨_, _, rfl, idx_map (by with_reducible assumption), rfl, ?_⟩; (try (conv => whnf))) | (refine ⟨rfl, ?_⟩; (try (conv => whnf))) | (exact Nat.le_refl 1) | ((apply ex3); (focus (with_reducible assumption)); (focus (with_reducible assumption)); (try (conv => whnf))) | ((apply ex2); (focus (with_reducible assumption)); (try (conv => whnf))) | fail)
    · exact Int.natCast_nonneg _
    · exact Int.emod_nonneg _ (by decide)
    refine ⟨(), ?_⟩
    (refine Wk.of ?_ ?_ rfl rfl rfl <;> (repeat' (first | (exact trivial) | (exact WkD.same _) | (exact WkO.same _ _ rfl) | (exact WkD.any _) | (refine WkD.int ?_) | (exact WkD.new' rfl rfl rfl) | (exact WkO.new _ _ rfl) | (refine WkO.vars rfl ?_) | (with_reducible rfl) | (exact rfl) | (refine ⟨?_, ?_⟩) | ((refine wrapA ?_ ?_ ?_); (focus (simp; done)); (focus ((try dsimp only); omega)); (focus ((try dsimp only); omega))) | fail)))
    exact (set_mask hs hn).trans (by rw [qS])
  rintro ⟨⟩
  refine ⟨Unit, fun _ => [(1, .pv (fpv f)), (7, .pv (i64 n)), (8, .pv (u64 S)), (9, .pv (fpv G)), (10, .pv (.int .i64 0))], fun _ => 0, fun _ => [], ?_, ?_⟩
  · (try (conv => whnf)); repeat' (first | (apply And.intro <;> (try (conv => whnf))) | (intro h; first | (with_reducible exact tf0 h) | (with_reducible exact ft0 h) | (with_reducible exact nt0 h) | (with_reducible exact nf0 h) | (exact litz h rfl) | (with_reducible exact tf h (by with_reducible assumption)) | (with_reducible exact tf (by with_reducible assumption) h) | (try (conv => whnf))) | (with_reducible rfl) | (apply True.intro) | (apply infoT; rfl) | (apply bleI; rfl) | (apply fitI; rfl) | (apply cellsI; rfl) | (apply szI; rfl) | (apply guardI; kernel_rfl) | (apply WhenQ.mk; (try (conv => whnf)); rotate_left; (try (conv => whnf)); rotate_right) | (with_reducible assumption) | (apply not_of; with_reducible assumption) | (apply left_of; with_reducible assumption) | (apply left_of; apply left_of; with_reducible assumption) | (apply and_of <;> first | (with_reducible assumption) | (apply not_of; with_reducible assumption))| (refine lin_plan (by kernel_rfl) ?_; (try (conv => whnf))) | (refine ⟨_, _, rfl, idx_map (by with_reducible assumption), rfl, ?_⟩; (try (conv => whnf))) | (refine ⟨rfl, ?_⟩; (try (conv => whnf))) | (exact Nat.le_refl 1) | ((apply ex3); (focus (with_reducible assumption)); (focus (with_reducible assumption)); (try (conv => whnf))) | ((apply ex2); (focus (with_reducible assumption)); (try (conv => whnf))) | (refine PureFn.dcq (f := 14) rfl ?_; (try (conv => whnf))) | ((refine ⟨_, _, h1, ?_, ?_⟩); (focus (first | (refine ⟨?_, ?_, trivial⟩ <;> first | (exact PLe.refl _) | (exact PLe.nil)) | (exact trivial))); (try (conv => whnf))) | (refine ⟨_, (by (conv => whnf); exact h1), rfl, ?_⟩; (try (conv => whnf))) | fail)
    exact ⟨(), (by refine Wk.of ?_ ?_ rfl rfl rfl <;> (repeat' (first | (exact trivial) | (exact WkD.same _) | (exact WkO.same _ _ rfl) | (exact WkD.any _) | (refine WkD.int ?_) | (exact WkD.new' rfl rfl rfl) | (exact WkO.new _ _ rfl) | (refine WkO.vars rfl ?_) | (with_reducible rfl) | (exact rfl) | (refine ⟨?_, ?_⟩) | ((refine wrapA ?_ ?_ ?_); (focus (simp; done)); (focus ((try dsimp only); omega)); (focus ((try dsimp only); omega))) | fail)))⟩
  rintro ⟨⟩
  refine ⟨Unit, fun _ => [(1, .pv (fpv f)), (7, .pv (i64 n)), (8, .pv (u64 S)), (10, .pv (.int .i64 0)), (11, .pv (u64 S)), (12, .pv (.int .i64 0))], fun _ => 0, fun _ => [], ?_, ?_⟩
  · (try (conv => whnf)); repeat' (first | (apply And.intro <;> (try (conv => whnf))) | (intro h; first | (with_reducible exact tf0 h) | (with_reducible exact ft0 h) | (with_reducible exact nt0 h) | (with_reducible exact nf0 h) | (exact litz h rfl) | (with_reducible exact tf h (by with_reducible assumption)) | (with_reducible exact tf (by with_reducible assumption) h) | (try (conv => whnf))) | (with_reducible rfl) | (apply True.intro) | (apply infoT; rfl) | (apply bleI; rfl) | (apply fitI; rfl) | (apply cellsI; rfl) | (apply szI; rfl) | (apply guardI; kernel_rfl) | (apply WhenQ.mk; (try (conv => whnf)); rotate_left; (try (conv => whnf)); rotate_right) | (with_reducible assumption) | (apply not_of; with_reducible assumption) | (apply left_of; with_reducible assumption) | (apply left_of; apply left_of; with_reducible assumption) | (apply and_of <;> first | (with_reducible assumption) | (apply not_of; with_reducible assumption))| (refine lin_plan (by kernel_rfl) ?_; (try (conv => whnf))) | (refine ⟨_, _, rfl, idx_map (by with_reducible assumption), rfl, ?_⟩; (try (conv => whnf))) | (refine ⟨rfl, ?_⟩; (try (conv => whnf))) | (exact Nat.le_refl 1) | ((apply ex3); (focus (with_reducible assumption)); (focus (with_reducible assumption)); (try (conv => whnf))) | ((apply ex2); (focus (with_reducible assumption)); (try (conv => whnf))) | (refine PureFn.dcq (f := 12) rfl ?_; (try (conv => whnf))) | ((refine ⟨_, _, h2, ?_, ?_⟩); (focus (first | (refine ⟨?_, ?_, trivial⟩ <;> first | (exact PLe.refl _) | (exact PLe.nil)) | (exact trivial))); (try (conv => whnf))) | (refine ⟨_, (by (conv => whnf); exact h2), rfl, ?_⟩; (try (conv => whnf))) | fail)
    exact ⟨(), (by refine Wk.of ?_ ?_ rfl rfl rfl <;> (repeat' (first | (exact trivial) | (exact WkD.same _) | (exact WkO.same _ _ rfl) | (exact WkD.any _) | (refine WkD.int ?_) | (exact WkD.new' rfl rfl rfl) | (exact WkO.new _ _ rfl) | (refine WkO.vars rfl ?_) | (with_reducible rfl) | (exact rfl) | (refine ⟨?_, ?_⟩) | ((refine wrapA ?_ ?_ ?_); (focus (simp; done)); (focus ((try dsimp only); omega)); (focus ((try dsimp only); omega))) | fail)))⟩
  rintro ⟨⟩
  refine ⟨Unit, fun _ => [(1, .pv (fpv f)), (7, .pv (i64 n))], fun _ => 0, fun _ => [], ?_, ?_⟩
  · (try (conv => whnf)); repeat' (first | (apply And.intro <;> (try (conv => whnf))) | (intro h; first | (with_reducible exact tf0 h) | (with_reducible exact ft0 h) | (with_reducible exact nt0 h) | (with_reducible exact nf0 h) | (exact litz h rfl) | (with_reducible exact tf h (by with_reducible assumption)) | (with_reducible exact tf (by with_reducible assumption) h) | (try (conv => whnf))) | (with_reducible rfl) | (apply True.intro) | (apply infoT; rfl) | (apply bleI; rfl) | (apply fitI; rfl) | (apply cellsI; rfl) | (apply szI; rfl) | (apply guardI; kernel_rfl) | (apply WhenQ.mk; (try (conv => whnf)); rotate_left; (try (conv => whnf)); rotate_right) | (with_reducible assumption) | (apply not_of; with_reducible assumption) | (apply left_of; with_reducible assumption) | (apply left_of; apply left_of; with_reducible assumption) | (apply and_of <;> first | (with_reducible assumption) | (apply not_of; with_reducible assumption))| (refine lin_plan (by kernel_rfl) ?_; (try (conv => whnf))) | (refine ⟨_, _, rfl, idx_map (by with_reducible assumption), rfl, ?_⟩; (try (conv => whnf))) | (refine ⟨rfl, ?_⟩; (try (conv => whnf))) | (exact Nat.le_refl 1) | ((apply ex3); (focus (with_reducible assumption)); (focus (with_reducible assumption)); (try (conv => whnf))) | ((apply ex2); (focus (with_reducible assumption)); (try (conv => whnf))) | fail)
    · simp at h
    · exact ⟨(), (by refine Wk.of ?_ ?_ rfl rfl rfl <;> (repeat' (first | (exact trivial) | (exact WkD.same _) | (exact WkO.same _ _ rfl) | (exact WkD.any _) | (refine WkD.int ?_) | (exact WkD.new' rfl rfl rfl) | (exact WkO.new _ _ rfl) | (refine WkO.vars rfl ?_) | (with_reducible rfl) | (exact rfl) | (refine ⟨?_, ?_⟩) | ((refine wrapA ?_ ?_ ?_); (focus (simp; done)); (focus ((try dsimp only); omega)); (focus ((try dsimp only); omega))) | fail)))⟩
  rintro ⟨⟩
  refine ⟨Unit, fun _ => [(7, .pv (i64 n)), (13, .pv (u64 X.1)), (14, .pv (.int .i64 X.2))], fun _ => 0, fun _ => [], ?_, ?_⟩
  · (try (conv => whnf)); repeat' (first | (apply And.intro <;> (try (conv => whnf))) | (intro h; first | (with_reducible exact tf0 h) | (with_reducible exact ft0 h) | (with_reducible exact nt0 h) | (with_reducible exact nf0 h) | (exact litz h rfl) | (with_reducible exact tf h (by with_reducible assumption)) | (with_reducible exact tf (by with_reducible assumption) h) | (try (conv => whnf))) | (with_reducible rfl) | (apply True.intro) | (apply infoT; rfl) | (apply bleI; rfl) | (apply fitI; rfl) | (apply cellsI; rfl) | (apply szI; rfl) | (apply guardI; kernel_rfl) | (apply WhenQ.mk; (try (conv => whnf)); rotate_left; (try (conv => whnf)); rotate_right) | (with_reducible assumption) | (apply not_of; with_reducible assumption) | (apply left_of; with_reducible assumption) | (apply left_of; apply left_of; with_reducible assumption) | (apply and_of <;> first | (with_reducible assumption) | (apply not_of; with_reducible assumption))| (refine lin_plan (by kernel_rfl) ?_; (try (conv => whnf))) | (refine ⟨_, _, rfl, idx_map (by with_reducible assumption), rfl, ?_⟩; (try (conv => whnf))) | (refine ⟨rfl, ?_⟩; (try (conv => whnf))) | (exact Nat.le_refl 1) | ((apply ex3); (focus (with_reducible assumption)); (focus (with_reducible assumption)); (try (conv => whnf))) | ((apply ex2); (focus (with_reducible assumption)); (try (conv => whnf))) | (refine PureFn.dcq (f := 12) rfl ?_; (try (conv => whnf))) | ((refine ⟨_, _, h3, ?_, ?_⟩); (focus (first | (refine ⟨?_, ?_, trivial⟩ <;> first | (exact PLe.refl _) | (exact PLe.nil)) | (exact trivial))); (try (conv => whnf))) | (refine ⟨_, (by (conv => whnf); exact h3), rfl, ?_⟩; (try (conv => whnf))) | fail)
    exact ⟨(), (by refine Wk.of ?_ ?_ rfl rfl rfl <;> (repeat' (first | (exact trivial) | (exact WkD.same _) | (exact WkO.same _ _ rfl) | (exact WkD.any _) | (refine WkD.int ?_) | (exact WkD.new' rfl rfl rfl) | (exact WkO.new _ _ rfl) | (refine WkO.vars rfl ?_) | (with_reducible rfl) | (exact rfl) | (refine ⟨?_, ?_⟩) | ((refine wrapA ?_ ?_ ?_); (focus (simp; done)); (focus ((try dsimp only); omega)); (focus ((try dsimp only); omega))) | fail)))⟩
  rintro ⟨⟩
  refine ⟨Unit, fun _ => [(7, .pv (i64 n)), (13, .pv (u64 X.1))], fun _ => 0, fun _ => [], ?_, ?_⟩
  · (try (conv => whnf)); repeat' (first | (apply And.intro <;> (try (conv => whnf))) | (intro h; first | (with_reducible exact tf0 h) | (with_reducible exact ft0 h) | (with_reducible exact nt0 h) | (with_reducible exact nf0 h) | (exact litz h rfl) | (with_reducible exact tf h (by with_reducible assumption)) | (with_reducible exact tf (by with_reducible assumption) h) | (try (conv => whnf))) | (with_reducible rfl) | (apply True.intro) | (apply infoT; rfl) | (apply bleI; rfl) | (apply fitI; rfl) | (apply cellsI; rfl) | (apply szI; rfl) | (apply guardI; kernel_rfl) | (apply WhenQ.mk; (try (conv => whnf)); rotate_left; (try (conv => whnf)); rotate_right) | (with_reducible assumption) | (apply not_of; with_reducible assumption) | (apply left_of; with_reducible assumption) | (apply left_of; apply left_of; with_reducible assumption) | (apply and_of <;> first | (with_reducible assumption) | (apply not_of; with_reducible assumption))| (refine lin_plan (by kernel_rfl) ?_; (try (conv => whnf))) | (refine ⟨_, _, rfl, idx_map (by with_reducible assumption), rfl, ?_⟩; (try (conv => whnf))) | (refine ⟨rfl, ?_⟩; (try (conv => whnf))) | (exact Nat.le_refl 1) | ((apply ex3); (focus (with_reducible assumption)); (focus (with_reducible assumption)); (try (conv => whnf))) | ((apply ex2); (focus (with_reducible assumption)); (try (conv => whnf))) | fail)
    · rw [hE (by simpa using h)]; exact .refl _
    · exact ⟨(), (by refine Wk.of ?_ ?_ rfl rfl rfl <;> (repeat' (first | (exact trivial) | (exact WkD.same _) | (exact WkO.same _ _ rfl) | (exact WkD.any _) | (refine WkD.int ?_) | (exact WkD.new' rfl rfl rfl) | (exact WkO.new _ _ rfl) | (refine WkO.vars rfl ?_) | (with_reducible rfl) | (exact rfl) | (refine ⟨?_, ?_⟩) | ((refine wrapA ?_ ?_ ?_); (focus (simp; done)); (focus ((try dsimp only); omega)); (focus ((try dsimp only); omega))) | fail)))⟩
  rintro ⟨⟩
  refine ⟨Unit, fun _ => [(7, .pv (i64 n)), (13, .pv (u64 X.1)), (15, .pv (fpv H)), (16, .pv (.int .i64 0))], fun _ => 0, fun _ => [], ?_, ?_⟩
  · (try (conv => whnf)); repeat' (first | (apply And.intro <;> (try (conv => whnf))) | (intro h; first | (with_reducible exact tf0 h) | (with_reducible exact ft0 h) | (with_reducible exact nt0 h) | (with_reducible exact nf0 h) | (exact litz h rfl) | (with_reducible exact tf h (by with_reducible assumption)) | (with_reducible exact tf (by with_reducible assumption) h) | (try (conv => whnf))) | (with_reducible rfl) | (apply True.intro) | (apply infoT; rfl) | (apply bleI; rfl) | (apply fitI; rfl) | (apply cellsI; rfl) | (apply szI; rfl) | (apply guardI; kernel_rfl) | (apply WhenQ.mk; (try (conv => whnf)); rotate_left; (try (conv => whnf)); rotate_right) | (with_reducible assumption) | (apply not_of; with_reducible assumption) | (apply left_of; with_reducible assumption) | (apply left_of; apply left_of; with_reducible assumption) | (apply and_of <;> first | (with_reducible assumption) | (apply not_of; with_reducible assumption))| (refine lin_plan (by kernel_rfl) ?_; (try (conv => whnf))) | (refine ⟨_, _, rfl, idx_map (by with_reducible assumption), rfl, ?_⟩; (try (conv => whnf))) | (refine ⟨rfl, ?_⟩; (try (conv => whnf))) | (exact Nat.le_refl 1) | ((apply ex3); (focus (with_reducible assumption)); (focus (with_reducible assumption)); (try (conv => whnf))) | ((apply ex2); (focus (with_reducible assumption)); (try (conv => whnf))) | (refine PureFn.dcq (f := 14) rfl ?_; (try (conv => whnf))) | ((refine ⟨_, _, h4, ?_, ?_⟩); (focus (first | (refine ⟨?_, ?_, trivial⟩ <;> first | (exact PLe.refl _) | (exact PLe.nil)) | (exact trivial))); (try (conv => whnf))) | (refine ⟨_, (by (conv => whnf); exact h4), rfl, ?_⟩; (try (conv => whnf))) | fail)
    exact ⟨(), (by refine Wk.of ?_ ?_ rfl rfl rfl <;> (repeat' (first | (exact trivial) | (exact WkD.same _) | (exact WkO.same _ _ rfl) | (exact WkD.any _) | (refine WkD.int ?_) | (exact WkD.new' rfl rfl rfl) | (exact WkO.new _ _ rfl) | (refine WkO.vars rfl ?_) | (with_reducible rfl) | (exact rfl) | (refine ⟨?_, ?_⟩) | ((refine wrapA ?_ ?_ ?_); (focus (simp; done)); (focus ((try dsimp only); omega)); (focus ((try dsimp only); omega))) | fail)))⟩
  rintro ⟨⟩
  refine ⟨Unit, fun _ => [(13, .pv (u64 X.1)), (16, .pv (.int .i64 0)), (17, .pv (u64 X.1)), (18, .pv (.int .i64 0))], fun _ => 0, fun _ => [], ?_, ?_⟩
  · (try (conv => whnf)); repeat' (first | (apply And.intro <;> (try (conv => whnf))) | (intro h; first | (with_reducible exact tf0 h) | (with_reducible exact ft0 h) | (with_reducible exact nt0 h) | (with_reducible exact nf0 h) | (exact litz h rfl) | (with_reducible exact tf h (by with_reducible assumption)) | (with_reducible exact tf (by with_reducible assumption) h) | (try (conv => whnf))) | (with_reducible rfl) | (apply True.intro) | (apply infoT; rfl) | (apply bleI; rfl) | (apply fitI; rfl) | (apply cellsI; rfl) | (apply szI; rfl) | (apply guardI; kernel_rfl) | (apply WhenQ.mk; (try (conv => whnf)); rotate_left; (try (conv => whnf)); rotate_right) | (with_reducible assumption) | (apply not_of; with_reducible assumption) | (apply left_of; with_reducible assumption) | (apply left_of; apply left_of; with_reducible assumption) | (apply and_of <;> first | (with_reducible assumption) | (apply not_of; with_reducible assumption))| (refine lin_plan (by kernel_rfl) ?_; (try (conv => whnf))) | (refine ⟨_, _, rfl, idx_map (by with_reducible assumption), rfl, ?_⟩; (try (conv => whnf))) | (refine ⟨rfl, ?_⟩; (try (conv => whnf))) | (exact Nat.le_refl 1) | ((apply ex3); (focus (with_reducible assumption)); (focus (with_reducible assumption)); (try (conv => whnf))) | ((apply ex2); (focus (with_reducible assumption)); (try (conv => whnf))) | (refine PureFn.dcq (f := 12) rfl ?_; (try (conv => whnf))) | ((refine ⟨_, _, h5, ?_, ?_⟩); (focus (first | (refine ⟨?_, ?_, trivial⟩ <;> first | (exact PLe.refl _) | (exact PLe.nil)) | (exact trivial))); (try (conv => whnf))) | (refine ⟨_, (by (conv => whnf); exact h5), rfl, ?_⟩; (try (conv => whnf))) | fail)
    exact ⟨(), (by refine Wk.of ?_ ?_ rfl rfl rfl <;> (repeat' (first | (exact trivial) | (exact WkD.same _) | (exact WkO.same _ _ rfl) | (exact WkD.any _) | (refine WkD.int ?_) | (exact WkD.new' rfl rfl rfl) | (exact WkO.new _ _ rfl) | (refine WkO.vars rfl ?_) | (with_reducible rfl) | (exact rfl) | (refine ⟨?_, ?_⟩) | ((refine wrapA ?_ ?_ ?_); (focus (simp; done)); (focus ((try dsimp only); omega)); (focus ((try dsimp only); omega))) | fail)))⟩
  rintro ⟨⟩
  (try (conv => whnf)); repeat' (first | (apply And.intro <;> (try (conv => whnf))) | (intro h; first | (with_reducible exact tf0 h) | (with_reducible exact ft0 h) | (with_reducible exact nt0 h) | (with_reducible exact nf0 h) | (exact litz h rfl) | (with_reducible exact tf h (by with_reducible assumption)) | (with_reducible exact tf (by with_reducible assumption) h) | (try (conv => whnf))) | (with_reducible rfl) | (apply True.intro) | (apply infoT; rfl) | (apply bleI; rfl) | (apply fitI; rfl) | (apply cellsI; rfl) | (apply szI; rfl) | (apply guardI; kernel_rfl) | (apply WhenQ.mk; (try (conv => whnf)); rotate_left; (try (conv => whnf)); rotate_right) | (with_reducible assumption) | (apply not_of; with_reducible assumption) | (apply left_of; with_reducible assumption) | (apply left_of; apply left_of; with_reducible assumption) | (apply and_of <;> first | (with_reducible assumption) | (apply not_of; with_reducible assumption))| (refine lin_plan (by kernel_rfl) ?_; (try (conv => whnf))) | (refine ⟨_, _, rfl, idx_map (by with_reducible assumption), rfl, ?_⟩; (try (conv => whnf))) | (refine ⟨rfl, ?_⟩; (try (conv => whnf))) | (exact Nat.le_refl 1) | ((apply ex3); (focus (with_reducible assumption)); (focus (with_reducible assumption)); (try (conv => whnf))) | ((apply ex2); (focus (with_reducible assumption)); (try (conv => whnf))) | fail)
  exact le_bool (by simp)
theorem metric_ok {a b c : Nat} (ha : a < 16) (hb : b < 16) (hc : c < 16) :
    (bif bif bif decide (((dist a b : Nat) : Int) < 0) then true else ((dist a b : Nat) : Int) != ((dist b a : Nat) : Int) then true else (((dist a b : Nat) : Int) == 0) != ((a : Int) == (b : Int)) then true else decide (((dist a c : Nat) : Int) > IntKind.wrap .i64 (((dist a b : Nat) : Int) + ((dist b c : Nat) : Int)))) = false := by
  have h1 := dist_sym a ha b hb
  have h2 := dist_zero a ha b hb
  have h3 := dist_tri a ha b hb c hc
  have e1 : decide (((dist a b : Nat) : Int) < 0) = false := decide_eq_false (by omega)
  have e2 : (((dist a b : Nat) : Int) != ((dist b a : Nat) : Int)) = false := by rw [h1]; simp
  have e3 : ((((dist a b : Nat) : Int) == 0) != ((a : Int) == (b : Int))) = false := by
    by_cases e : a = b
    · have := h2.2 e
      rw [this, e]; simp
    · have h4 : dist a b ≠ 0 := fun h => e (h2.1 h)
      have e5 : (((dist a b : Nat) : Int) == 0) = false := by simpa using h4
      have e6 : ((a : Int) == (b : Int)) = false := by simp; omega
      rw [e5, e6]; rfl
  have h4 := dist_four a b
  have h5 := dist_four b c
  have e4 : decide (((dist a c : Nat) : Int) > IntKind.wrap .i64 (((dist a b : Nat) : Int) + ((dist b c : Nat) : Int))) = false := by
    rw [wrap_small (by omega) (by omega)]
    exact decide_eq_false (by omega)
  rw [e1, e2, e3, e4]; rfl
theorem bmetric_pure (u v w : Nat) (hu : u < 256) (hv : v < 256) (hw : w < 256) : PureFn Try.prog 8 [.int .u8 u, .int .u8 v, .int .u8 w] (.bool true) := by
  refine PureFn.introC [4, 5, 7, 8] mixed (fn := Try.f8) rfl rfl rfl fun M w0 => ?_
  obtain ⟨a, qa⟩ : ∃ n, n = u % 16 := ⟨_, rfl⟩
  obtain ⟨b, qb⟩ : ∃ n, n = v % 16 := ⟨_, rfl⟩
  obtain ⟨c, qc⟩ : ∃ n, n = w % 16 := ⟨_, rfl⟩
  have ha : a < 16 := by omega
  have hb : b < 16 := by omega
  have hc : c < 16 := by omega
  have hD : ∀ x y : Nat, x < 16 → y < 16 → PureFn Try.prog 21 [.int .i64 (x : Int), .int .i64 (y : Int), .int .i64 4] (.int .i64 (dist x y : Nat)) := fun x y hx hy => by
    have := distI_of (n := 4) (by decide) (show x < 2 ^ 4 from hx) (show y < 2 ^ 4 from hy)
    rw [← this]
    exact bs_Distance x y 4
  have hab := hD a b ha hb
  have hba := hD b a hb ha
  have hac := hD a c ha hc
  have hbc := hD b c hb hc
  have hok := metric_ok ha hb hc
  have hB : PureFn Try.prog 23 [.int .u64 (orU (shlU 1 (a : Int)) (shlU 1 (b : Int))), .int .u64 (shlU 1 (c : Int)), .int .i64 4] (.int .i64 (min (dist a c) (dist b c) : Nat)) := by
    obtain ⟨a1, a2⟩ := pow_16 ha
    obtain ⟨b1, b2⟩ := pow_16 hb
    obtain ⟨c1, c2⟩ := pow_16 hc
    have hor : 2 ^ a ||| 2 ^ b < 2 ^ (2 ^ 4) := Nat.or_lt_two_pow a1 b1
    have h0 : 2 ^ a ||| 2 ^ b ≠ 0 := fun e => by have := congrArg (fun z => Nat.testBit z a) e; simp [Nat.testBit_or, Nat.testBit_two_pow] at this
    have hv := btwI_of (n := 4) (by decide) hor c1 h0 c2
    rw [btw_two ha hb hc] at hv
    have := bs_Between (2 ^ a ||| 2 ^ b) (2 ^ c) 4 (by omega) (by omega)
    rw [show btwI (2 ^ a ||| 2 ^ b) (2 ^ c) 4 = _ from hv] at this
    rw [shlU_one (by omega), shlU_one (by omega), shlU_one (by omega), orU_nat (by omega) (by omega)]
    exact this
  (try (conv => whnf)); repeat' (first | (apply And.intro <;> (try (conv => whnf))) | (intro h; first | (with_reducible exact tf0 h) | (with_reducible exact ft0 h) | (with_reducible exact nt0 h) | (with_reducible exact nf0 h) | (exact litz h rfl) | (with_reducible exact tf h (by with_reducible assumption)) | (with_reducible exact tf (by with_reducible assumption) h) | (try (conv => whnf))) | (with_reducible rfl) | (apply True.intro) | (apply infoT; rfl) | (apply bleI; rfl) | (apply fitI; rfl) | (apply cellsI; rfl) | (apply szI; rfl) | (apply guardI; kernel_rfl) | (apply WhenQ.mk; (try (conv => whnf)); rotate_left; (try (conv => whnf)); rotate_right) | (with_reducible assumption) | (apply not_of; with_reducible assumption) | (apply left_of; with_reducible assumption) | (apply left_of; apply left_of; with_reducible assumption) | (apply and_of <;> first | (with_reducible assumption) | (apply not_of; with_reducible assumption))| (refine lin_plan (by kernel_rfl) ?_; (try (conv => whnf))) | (refine ⟨_, _, rfl, idx_map (by with_reducible assumption), rfl, ?_⟩; (try (conv => whnf))) | (refine ⟨rfl, ?_⟩; (try (conv => whnf))) | (exact Nat.le_refl 1) | ((apply ex3); (focus (with_reducible assumption)); (focus (with_reducible assumption)); (try (conv => whnf))) | ((apply ex2); (focus (with_reducible assumption)); (try (conv => whnf))) | (refine PureFn.dcq (f := 11) rfl ?_; (try (conv => whnf))) | ((refine ⟨_, _, bs_awake, ?_, ?_⟩); (focus (first | (refine ⟨trivial⟩ <;> first | (exact PLe.refl _) | (exact PLe.nil)) | (exact trivial))); (try (conv => whnf))) | (refine ⟨_, (by (conv => whnf); exact bs_awake), rfl, ?_⟩; (try (conv => whnf))) | fail)
  refine ⟨Unit, fun _ => [(7, .pv (i64 a)), (8, .pv (i64 b)), (9, .pv (i64 c))], fun _ => 0, fun _ => [], ?_, ?_⟩
  · (try (conv => whnf)); repeat' (first | (apply And.intro <;> (try (conv => whnf))) | (intro h; first | (with_reducible exact tf0 h) | (with_reducible exact ft0 h) | (with_reducible exact nt0 h) | (with_reducible exact nf0 h) | (exact litz h rfl) | (with_reducible exact tf h (by with_reducible assumption)) | (with_reducible exact tf (by with_reducible assumption) h) | (try (conv => whnf))) | (with_reducible rfl) | (apply True.intro) | (apply infoT; rfl) | (apply bleI; rfl) | (apply fitI; rfl) | (apply cellsI; rfl) | (apply szI; rfl) | (apply guardI; kernel_rfl) | (apply WhenQ.mk; (try (conv => whnf)); rotate_left; (try (conv => whnf)); rotate_right) | (with_reducible assumption) | (apply not_of; with_reducible assumption) | (apply left_of; with_reducible assumption) | (apply left_of; apply left_of; with_reducible assumption) | (apply and_of <;> first | (with_reducible assumption) | (apply not_of; with_reducible assumption))| (refine lin_plan (by kernel_rfl) ?_; (try (conv => whnf))) | (refine ⟨_, _, rfl, idx_map (by with_reducible assumption), rfl, ?_⟩; (try (conv => whnf))) | (refine ⟨rfl, ?_⟩; (try (conv => whnf))) | (exact Nat.le_refl 1) | ((apply ex3); (focus (with_reducible assumption)); (focus (with_reducible assumption)); (try (conv => whnf))) | ((apply ex2); (focus (with_reducible assumption)); (try (conv => whnf))) | fail)
    refine ⟨(), ?_⟩
    (refine Wk.of ?_ ?_ rfl rfl rfl <;> (repeat' (first | (exact trivial) | (exact WkD.same _) | (exact WkO.same _ _ rfl) | (exact WkD.any _) | (refine WkD.int ?_) | (exact WkD.new' rfl rfl rfl) | (exact WkO.new _ _ rfl) | (refine WkO.vars rfl ?_) | (with_reducible rfl) | (exact rfl) | (refine ⟨?_, ?_⟩) | ((refine wrapA ?_ ?_ ?_); (focus (simp; done)); (focus ((try dsimp only); omega)); (focus ((try dsimp only); omega))) | fail)))
    · exact (u8_mod hu 16).trans (by rw [qa])
    · exact (u8_mod hv 16).trans (by rw [qb])
    · exact (u8_mod hw 16).trans (by rw [qc])
  rintro ⟨⟩
  refine ⟨Unit, fun _ => [(7, .pv (i64 a)), (8, .pv (i64 b)), (9, .pv (i64 c)), (10, .pv (.int .i64 (dist a b : Nat)))], fun _ => 0, fun _ => [], ?_, ?_⟩
  · (try (conv => whnf)); repeat' (first | (apply And.intro <;> (try (conv => whnf))) | (intro h; first | (with_reducible exact tf0 h) | (with_reducible exact ft0 h) | (with_reducible exact nt0 h) | (with_reducible exact nf0 h) | (exact litz h rfl) | (with_reducible exact tf h (by with_reducible assumption)) | (with_reducible exact tf (by with_reducible assumption) h) | (try (conv => whnf))) | (with_reducible rfl) | (apply True.intro) | (apply infoT; rfl) | (apply bleI; rfl) | (apply fitI; rfl) | (apply cellsI; rfl) | (apply szI; rfl) | (apply guardI; kernel_rfl) | (apply WhenQ.mk; (try (conv => whnf)); rotate_left; (try (conv => whnf)); rotate_right) | (with_reducible assumption) | (apply not_of; with_reducible assumption) | (apply left_of; with_reducible assumption) | (apply left_of; apply left_of; with_reducible assumption) | (apply and_of <;> first | (with_reducible assumption) | (apply not_of; with_reducible assumption))| (refine lin_plan (by kernel_rfl) ?_; (try (conv => whnf))) | (refine ⟨_, _, rfl, idx_map (by with_reducible assumption), rfl, ?_⟩; (try (conv => whnf))) | (refine ⟨rfl, ?_⟩; (try (conv => whnf))) | (exact Nat.le_refl 1) | ((apply ex3); (focus (with_reducible assumption)); (focus (with_reducible assumption)); (try (conv => whnf))) | ((apply ex2); (focus (with_reducible assumption)); (try (conv => whnf))) | (refine PureFn.dcq (f := 21) rfl ?_; (try (conv => whnf))) | ((refine ⟨_, _, hab, ?_, ?_⟩); (focus (first | (refine ⟨?_, ?_, ?_, trivial⟩ <;> first | (exact PLe.refl _) | (exact PLe.nil)) | (exact trivial))); (try (conv => whnf))) | (refine ⟨_, (by (conv => whnf); exact hab), rfl, ?_⟩; (try (conv => whnf))) | fail)
    exact ⟨(), (by refine Wk.of ?_ ?_ rfl rfl rfl <;> (repeat' (first | (exact trivial) | (exact WkD.same _) | (exact WkO.same _ _ rfl) | (exact WkD.any _) | (refine WkD.int ?_) | (exact WkD.new' rfl rfl rfl) | (exact WkO.new _ _ rfl) | (refine WkO.vars rfl ?_) | (with_reducible rfl) | (exact rfl) | (refine ⟨?_, ?_⟩) | ((refine wrapA ?_ ?_ ?_); (focus (simp; done)); (focus ((try dsimp only); omega)); (focus ((try dsimp only); omega))) | fail)))⟩
  rintro ⟨⟩
  refine ⟨Unit, fun _ => [(7, .pv (i64 a)), (8, .pv (i64 b)), (9, .pv (i64 c))], fun _ => 0, fun _ => [], ?_, ?_⟩
  · (try (conv => whnf)); repeat' (first | (apply And.intro <;> (try (conv => whnf))) | (intro h; first | (with_reducible exact tf0 h) | (with_reducible exact ft0 h) | (with_reducible exact nt0 h) | (with_reducible exact nf0 h) | (exact litz h rfl) | (with_reducible exact tf h (by with_reducible assumption)) | (with_reducible exact tf (by with_reducible assumption) h) | (try (conv => whnf))) | (with_reducible rfl) | (apply True.intro) | (apply infoT; rfl) | (apply bleI; rfl) | (apply fitI; rfl) | (apply cellsI; rfl) | (apply szI; rfl) | (apply guardI; kernel_rfl) | (apply WhenQ.mk; (try (conv => whnf)); rotate_left; (try (conv => whnf)); rotate_right) | (with_reducible assumption) | (apply not_of; with_reducible assumption) | (apply left_of; with_reducible assumption) | (apply left_of; apply left_of; with_reducible assumption) | (apply and_of <;> first | (with_reducible assumption) | (apply not_of; with_reducible assumption))| (refine lin_plan (by kernel_rfl) ?_; (try (conv => whnf))) | (refine ⟨_, _, rfl, idx_map (by with_reducible assumption), rfl, ?_⟩; (try (conv => whnf))) | (refine ⟨rfl, ?_⟩; (try (conv => whnf))) | (exact Nat.le_refl 1) | ((apply ex3); (focus (with_reducible assumption)); (focus (with_reducible assumption)); (try (conv => whnf))) | ((apply ex2); (focus (with_reducible assumption)); (try (conv => whnf))) | (refine PureFn.dcq (f := 21) rfl ?_; (try (conv => whnf))) | (refine PureFn.dcq (f := 21) rfl ?_; (try (conv => whnf))) | (refine PureFn.dcq (f := 21) rfl ?_; (try (conv => whnf))) | ((refine ⟨_, _, hba, ?_, ?_⟩); (focus (first | (refine ⟨?_, ?_, ?_, trivial⟩ <;> first | (exact PLe.refl _) | (exact PLe.nil)) | (exact trivial))); (try (conv => whnf))) | (refine ⟨_, (by (conv => whnf); exact hba), rfl, ?_⟩; (try (conv => whnf))) | ((refine ⟨_, _, hac, ?_, ?_⟩); (focus (first | (refine ⟨?_, ?_, ?_, trivial⟩ <;> first | (exact PLe.refl _) | (exact PLe.nil)) | (exact trivial))); (try (conv => whnf))) | (refine ⟨_, (by (conv => whnf); exact hac), rfl, ?_⟩; (try (conv => whnf))) | ((refine ⟨_, _, hbc, ?_, ?_⟩); (focus (first | (refine ⟨?_, ?_, ?_, trivial⟩ <;> first | (exact PLe.refl _) | (exact PLe.nil)) | (exact trivial))); (try (conv => whnf))) | (refine ⟨_, (by (conv => whnf); exact hbc), rfl, ?_⟩; (try (conv => whnf))) | fail)
    · exact Bool.noConfusion (h.symm.trans hok)
    · exact ⟨(), (by refine Wk.of ?_ ?_ rfl rfl rfl <;> (repeat' (first | (exact trivial) | (exact WkD.same _) | (exact WkO.same _ _ rfl) | (exact WkD.any _) | (refine WkD.int ?_) | (exact WkD.new' rfl rfl rfl) | (exact WkO.new _ _ rfl) | (refine WkO.vars rfl ?_) | (with_reducible rfl) | (exact rfl) | (refine ⟨?_, ?_⟩) | ((refine wrapA ?_ ?_ ?_); (focus (simp; done)); (focus ((try dsimp only); omega)); (focus ((try dsimp only); omega))) | fail)))⟩
  rintro ⟨⟩
  refine ⟨Unit, fun _ => [(7, .pv (i64 a)), (8, .pv (i64 b)), (9, .pv (i64 c)), (11, .pv (.int .i64 (min (dist a c) (dist b c) : Nat)))], fun _ => 0, fun _ => [], ?_, ?_⟩
  · (try (conv => whnf)); repeat' (first | (apply And.intro <;> (try (conv => whnf))) | (intro h; first | (with_reducible exact tf0 h) | (with_reducible exact ft0 h) | (with_reducible exact nt0 h) | (with_reducible exact nf0 h) | (exact litz h rfl) | (with_reducible exact tf h (by with_reducible assumption)) | (with_reducible exact tf (by with_reducible assumption) h) | (try (conv => whnf))) | (with_reducible rfl) | (apply True.intro) | (apply infoT; rfl) | (apply bleI; rfl) | (apply fitI; rfl) | (apply cellsI; rfl) | (apply szI; rfl) | (apply guardI; kernel_rfl) | (apply WhenQ.mk; (try (conv => whnf)); rotate_left; (try (conv => whnf)); rotate_right) | (with_reducible assumption) | (apply not_of; with_reducible assumption) | (apply left_of; with_reducible assumption) | (apply left_of; apply left_of; with_reducible assumption) | (apply and_of <;> first | (with_reducible assumption) | (apply not_of; with_reducible assumption))| (refine lin_plan (by kernel_rfl) ?_; (try (conv => whnf))) | (refine ⟨_, _, rfl, idx_map (by with_reducible assumption), rfl, ?_⟩; (try (conv => whnf))) | (refine ⟨rfl, ?_⟩; (try (conv => whnf))) | (exact Nat.le_refl 1) | ((apply ex3); (focus (with_reducible assumption)); (focus (with_reducible assumption)); (try (conv => whnf))) | ((apply ex2); (focus (with_reducible assumption)); (try (conv => whnf))) | (refine PureFn.dcq (f := 23) rfl ?_; (try (conv => whnf))) | ((refine ⟨_, _, hB, ?_, ?_⟩); (focus (first | (refine ⟨?_, ?_, ?_, trivial⟩ <;> first | (exact PLe.refl _) | (exact PLe.nil)) | (exact trivial))); (try (conv => whnf))) | (refine ⟨_, (by (conv => whnf); exact hB), rfl, ?_⟩; (try (conv => whnf))) | fail)
    any_goals exact Int.natCast_nonneg _
    exact ⟨(), (by refine Wk.of ?_ ?_ rfl rfl rfl <;> (repeat' (first | (exact trivial) | (exact WkD.same _) | (exact WkO.same _ _ rfl) | (exact WkD.any _) | (refine WkD.int ?_) | (exact WkD.new' rfl rfl rfl) | (exact WkO.new _ _ rfl) | (refine WkO.vars rfl ?_) | (with_reducible rfl) | (exact rfl) | (refine ⟨?_, ?_⟩) | ((refine wrapA ?_ ?_ ?_); (focus (simp; done)); (focus ((try dsimp only); omega)); (focus ((try dsimp only); omega))) | fail)))⟩
  rintro ⟨⟩
  (try (conv => whnf)); repeat' (first | (apply And.intro <;> (try (conv => whnf))) | (intro h; first | (with_reducible exact tf0 h) | (with_reducible exact ft0 h) | (with_reducible exact nt0 h) | (with_reducible exact nf0 h) | (exact litz h rfl) | (with_reducible exact tf h (by with_reducible assumption)) | (with_reducible exact tf (by with_reducible assumption) h) | (try (conv => whnf))) | (with_reducible rfl) | (apply True.intro) | (apply infoT; rfl) | (apply bleI; rfl) | (apply fitI; rfl) | (apply cellsI; rfl) | (apply szI; rfl) | (apply guardI; kernel_rfl) | (apply WhenQ.mk; (try (conv => whnf)); rotate_left; (try (conv => whnf)); rotate_right) | (with_reducible assumption) | (apply not_of; with_reducible assumption) | (apply left_of; with_reducible assumption) | (apply left_of; apply left_of; with_reducible assumption) | (apply and_of <;> first | (with_reducible assumption) | (apply not_of; with_reducible assumption))| (refine lin_plan (by kernel_rfl) ?_; (try (conv => whnf))) | (refine ⟨_, _, rfl, idx_map (by with_reducible assumption), rfl, ?_⟩; (try (conv => whnf))) | (refine ⟨rfl, ?_⟩; (try (conv => whnf))) | (exact Nat.le_refl 1) | ((apply ex3); (focus (with_reducible assumption)); (focus (with_reducible assumption)); (try (conv => whnf))) | ((apply ex2); (focus (with_reducible assumption)); (try (conv => whnf))) | (refine PureFn.dcq (f := 21) rfl ?_; (try (conv => whnf))) | (refine PureFn.dcq (f := 21) rfl ?_; (try (conv => whnf))) | ((refine ⟨_, _, hac, ?_, ?_⟩); (focus (first | (refine ⟨?_, ?_, ?_, trivial⟩ <;> first | (exact PLe.refl _) | (exact PLe.nil)) | (exact trivial))); (try (conv => whnf))) | (refine ⟨_, (by (conv => whnf); exact hac), rfl, ?_⟩; (try (conv => whnf))) | ((refine ⟨_, _, hbc, ?_, ?_⟩); (focus (first | (refine ⟨?_, ?_, ?_, trivial⟩ <;> first | (exact PLe.refl _) | (exact PLe.nil)) | (exact trivial))); (try (conv => whnf))) | (refine ⟨_, (by (conv => whnf); exact hbc), rfl, ?_⟩; (try (conv => whnf))) | fail)
  exact le_bool (by simp; omega)
end Go.Proofs.Ythnfbkplkheliaa
