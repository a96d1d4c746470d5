/- Parts of the proof, one after the other: Messages: the laws that compare with the reference, walked. Messages: the law about changes, walked. The layer Dv, part 22: what a law is given, as pure values; a law's row out of its contract. The law FormulaChecks: whatever the list of nodes and the two numbers, the law returns true. Formulas: the arguments of the laws as pure values. Belief sets: numbers and arrays as arguments of the laws. -/
import Derived.ProofKit
import Derived.OpenShut
import Derived.Test.YtibenjpkinhjhaaRows
import Derived.Test.YtibenjpkinhjhaaM10
set_option maxRecDepth 100000
set_option maxHeartbeats 4000000
namespace Go.Proofs.Ytibenjpkinhjhaa
open Go Go.Dv

theorem rel_small {ag n : Nat} {pc : Nat → Int} (h1 : ag ≤ 1000) (h2 : n ≤ 1000) : (relOf ag n pc).length ≤ 1000 ∧ ∀ r, r ∈ relOf ag n pc → r.length ≤ 1000 := by
  refine ⟨by simp [relOf]; omega, fun r hr => ?_⟩
  obtain ⟨a, _, rfl⟩ := List.mem_map.1 hr
  simp; omega
theorem small_no : Small noAct := ⟨fun f h => (by cases h), fun l h => (by cases h), by decide, by decide, by decide, fun r h => (by cases h)⟩
theorem ag_le {ag fact : Int} {gs : List Int} {f : List Nd} (h : (errI ag fact gs f != 0) = false) : ag.toNat ≤ 1000 := by
  obtain ⟨g1, _⟩ := errI_ok (ag := ag) (fact := fact) (gs := gs) (f := f) (by simpa using h)
  obtain ⟨n, rfl, hn⟩ := badAg_no g1
  omega
theorem one_len (x : Nd) : (buildL x []).length ≤ 200 := buildL_len _ _
theorem small_susp (ag to who : Int) (f : List Nd) : Small (suspI ag to who f).1 := by
  unfold suspI
  cases h : (errI ag 0 [to, who] f != 0) with
  | true => exact small_no
  | false =>
    refine ⟨?_, ?_, by simp, by simp, (rel_small (ag_le h) (by decide)).1, (rel_small (ag_le h) (by decide)).2⟩
    · intro g hg
      simp at hg
      rcases hg with rfl | rfl
      · exact comp_len f
      · exact one_len _
    · intro l hl; simp at hl; subst hl; exact ⟨by simp, fun x hx => by cases hx⟩
theorem small_semi (ag to : Int) (f : List Nd) : Small (semiI ag to f).1 := by
  unfold semiI
  cases h : (errI ag 0 [to] f != 0) with
  | true => exact small_no
  | false =>
    cases (((buildL (n0 4) [f]).length : Int) == 0) with
    | true => exact small_no
    | false =>
      refine ⟨?_, ?_, by simp, by simp, (rel_small (ag_le h) (by decide)).1, (rel_small (ag_le h) (by decide)).2⟩
      · intro g hg
        simp at hg
        rcases hg with rfl | rfl
        · exact comp_len f
        · exact buildL_len _ _
      · intro l hl; simp at hl; subst hl; exact ⟨by simp, fun x hx => by cases hx⟩
theorem look_mem {m : Nat} : ∀ {s : Nat} {g : List Nd}, g ∈ lookL m s → g.length ≤ 200
  | 0, g, h => by cases h
  | s + 1, g, h => by
    rw [lookL] at h
    cases hb : subM s m with
    | false => rw [hb] at h; exact look_mem h
    | true =>
      rw [hb] at h
      rcases List.mem_append.1 h with h | h
      · exact look_mem h
      · rw [List.mem_singleton.1 h]; exact joinL_len _ _ _ (buildL_len _ _)
theorem small_look (ag to m : Int) : Small (lookI ag to m).1 := by
  unfold lookI
  cases h : (errI ag 0 [to] (buildL (n0 1) []) != 0) with
  | true => exact small_no
  | false =>
    cases hm : badM m with
    | true => exact small_no
    | false =>
      cases decide (cntB m.toNat 8 > 3) with
      | true => exact small_no
      | false =>
        obtain ⟨k, rfl, hk⟩ := badM_no hm
        have hn := lookN_le k (k + 1)
        simp only [cond_false, Int.toNat_natCast]
        refine ⟨fun g hg => look_mem hg, ?_, by simp only [lookL_len]; omega, by simp; omega, (rel_small (ag_le h) (by omega)).1, (rel_small (ag_le h) (by omega)).2⟩
        intro l hl; simp at hl; rw [hl.2]; exact ⟨by simp, fun x hx => by cases hx⟩
theorem mtell_pure (ag a b c : Int) (f : List Nd) : PureFn Try.prog 10 [.int .i64 ag, .agg [.int .i64 a, .int .i64 b, .int .i64 c], fpv f] (.bool true) := by
  refine PureFn.introC [3, 4, 5, 7, 8, 9, 11, 12, 13, 15, 16, 17] mixed (fn := Try.f10) rfl rfl rfl fun M w0 => ?_
  have p1 := ms_Private ag a f
  have q1 := rg_Private ag a f
  have s1 := small_susp ag a 0 f
  generalize suspI ag a 0 f = X1 at p1 q1 s1
  have p2 := ms_Suspected ag a b f
  have q2 := rg_Suspected ag a b f
  have s2 := small_susp ag a b f
  generalize suspI ag a b f = X2 at p2 q2 s2
  have p3 := ms_Semi ag a f
  have q3 := rg_Semi ag a f
  have s3 := small_semi ag a f
  generalize semiI ag a f = X3 at p3 q3 s3
  have p4 := ms_Look ag a c
  have q4 := rg_Look ag a c
  have s4 := small_look ag a c
  generalize lookI ag a c = X4 at p4 q4 s4
  have e1 := lw_same X1.1 X1.2 s1
  have e2 := lw_same X2.1 X2.2 s2
  have e3 := lw_same X3.1 X3.2 s3
  have e4 := lw_same X4.1 X4.2 s4
  (try (conv => whnf)); repeat' (first | (apply And.intro <;> (try (conv => whnf))) | (intro h; first | (with_reducible exact tf0 h) | (with_reducible exact ft0 h) | (with_reducible exact nt0 h) | (with_reducible exact nf0 h) | (exact litz h rfl) | (with_reducible exact tf h (by with_reducible assumption)) | (with_reducible exact tf (by with_reducible assumption) h) | (try (conv => whnf))) | (with_reducible rfl) | (apply True.intro) | (apply infoT; rfl) | (apply bleI; rfl) | (apply fitI; rfl) | (apply cellsI; rfl) | (apply szI; rfl) | (apply guardI; kernel_rfl) | (apply WhenQ.mk; (try (conv => whnf)); rotate_left; (try (conv => whnf)); rotate_right) | (with_reducible assumption) | (apply not_of; with_reducible assumption) | (apply left_of; with_reducible assumption) | (apply left_of; apply left_of; with_reducible assumption) | (apply and_of <;> first | (with_reducible assumption) | (apply not_of; with_reducible assumption))| (refine lin_plan (by kernel_rfl) ?_; (try (conv => whnf))) | (refine ⟨_, _, rfl, idx_map (by with_reducible assumption), rfl, ?_⟩; (try (conv => whnf))) | (refine ⟨rfl, ?_⟩; (try (conv => whnf))) | (exact Nat.le_refl 1) | ((apply ex3); (focus (with_reducible assumption)); (focus (with_reducible assumption)); (try (conv => whnf))) | ((apply ex2); (focus (with_reducible assumption)); (try (conv => whnf))) | fail)
  refine ⟨Unit, fun _ => [(0, .pv (.int .i64 ag)), (2, .pv (fpv f)), (4, .ref 0 0)], fun _ => 1, fun _ => [(0, .var [.pv (.int .i64 a), .pv (.int .i64 b), .pv (.int .i64 c)])], ?_, ?_⟩
  · (try (conv => whnf)); repeat' (first | (apply And.intro <;> (try (conv => whnf))) | (intro h; first | (with_reducible exact tf0 h) | (with_reducible exact ft0 h) | (with_reducible exact nt0 h) | (with_reducible exact nf0 h) | (exact litz h rfl) | (with_reducible exact tf h (by with_reducible assumption)) | (with_reducible exact tf (by with_reducible assumption) h) | (try (conv => whnf))) | (with_reducible rfl) | (apply True.intro) | (apply infoT; rfl) | (apply bleI; rfl) | (apply fitI; rfl) | (apply cellsI; rfl) | (apply szI; rfl) | (apply guardI; kernel_rfl) | (apply WhenQ.mk; (try (conv => whnf)); rotate_left; (try (conv => whnf)); rotate_right) | (with_reducible assumption) | (apply not_of; with_reducible assumption) | (apply left_of; with_reducible assumption) | (apply left_of; apply left_of; with_reducible assumption) | (apply and_of <;> first | (with_reducible assumption) | (apply not_of; with_reducible assumption))| (refine lin_plan (by kernel_rfl) ?_; (try (conv => whnf))) | (refine ⟨_, _, rfl, idx_map (by with_reducible assumption), rfl, ?_⟩; (try (conv => whnf))) | (refine ⟨rfl, ?_⟩; (try (conv => whnf))) | (exact Nat.le_refl 1) | ((apply ex3); (focus (with_reducible assumption)); (focus (with_reducible assumption)); (try (conv => whnf))) | ((apply ex2); (focus (with_reducible assumption)); (try (conv => whnf))) | (refine PureFn.dcq (f := 43) rfl ?_; (try (conv => whnf))) | ((refine ⟨_, _, ml_awake, ?_, ?_⟩); (focus (first | (refine ⟨trivial⟩ <;> first | (exact PLe.refl _) | (exact PLe.nil)) | (exact trivial))); (try (conv => whnf))) | (refine ⟨_, (by (conv => whnf); exact ml_awake), rfl, ?_⟩; (try (conv => whnf))) | fail)
    · exact .refl _
    · exact ⟨(), (by refine Wk.of ?_ ?_ rfl rfl rfl <;> (repeat' (first | (exact trivial) | (exact WkD.same _) | (exact WkO.same _ _ rfl) | (exact WkD.any _) | (exact WkD.nil _ (Or.inl rfl)) | (exact WkD.nil _ (Or.inr rfl)) | (exact WkD.fz _ _ _ rfl (Or.inl ⟨_, rfl⟩) rfl) | (exact WkD.fz _ _ _ rfl (Or.inr rfl) rfl) | (refine WkD.int ?_) | (exact WkD.new' rfl rfl rfl) | (exact WkO.new _ _ rfl) | (refine WkO.vars rfl ?_) | (with_reducible rfl) | (exact rfl) | (refine ⟨?_, ?_⟩) | ((refine wrapA ?_ ?_ ?_); (focus (simp; done)); (focus ((try dsimp only); omega)); (focus ((try dsimp only); omega))) | fail)))⟩
  rintro ⟨⟩
  refine ⟨Unit, fun _ => [(0, .pv (.int .i64 ag)), (2, .pv (fpv f)), (4, .ref 0 0), (7, .ref 1 0), (8, .pv (.int .i64 X1.2))], fun _ => 2, fun _ => [(0, .var [.pv (.int .i64 a), .pv (.int .i64 b), .pv (.int .i64 c)]), (1, .var (cellsA X1.1))], ?_, ?_⟩
  · (try (conv => whnf)); repeat' (first | (apply And.intro <;> (try (conv => whnf))) | (intro h; first | (with_reducible exact tf0 h) | (with_reducible exact ft0 h) | (with_reducible exact nt0 h) | (with_reducible exact nf0 h) | (exact litz h rfl) | (with_reducible exact tf h (by with_reducible assumption)) | (with_reducible exact tf (by with_reducible assumption) h) | (try (conv => whnf))) | (with_reducible rfl) | (apply True.intro) | (apply infoT; rfl) | (apply bleI; rfl) | (apply fitI; rfl) | (apply cellsI; rfl) | (apply szI; rfl) | (apply guardI; kernel_rfl) | (apply WhenQ.mk; (try (conv => whnf)); rotate_left; (try (conv => whnf)); rotate_right) | (with_reducible assumption) | (apply not_of; with_reducible assumption) | (apply left_of; with_reducible assumption) | (apply left_of; apply left_of; with_reducible assumption) | (apply and_of <;> first | (with_reducible assumption) | (apply not_of; with_reducible assumption))| (refine lin_plan (by kernel_rfl) ?_; (try (conv => whnf))) | (refine ⟨_, _, rfl, idx_map (by with_reducible assumption), rfl, ?_⟩; (try (conv => whnf))) | (refine ⟨rfl, ?_⟩; (try (conv => whnf))) | (exact Nat.le_refl 1) | ((apply ex3); (focus (with_reducible assumption)); (focus (with_reducible assumption)); (try (conv => whnf))) | ((apply ex2); (focus (with_reducible assumption)); (try (conv => whnf))) | (refine PureFn.dcq (f := 44) rfl ?_; (try (conv => whnf))) | ((refine ⟨_, _, p1, ?_, ?_⟩); (focus (first | (refine ⟨?_, ?_, ?_, trivial⟩ <;> first | (exact PLe.refl _) | (exact PLe.nil)) | (exact trivial))); (try (conv => whnf))) | (refine ⟨_, (by (conv => whnf); exact p1), rfl, ?_⟩; (try (conv => whnf))) | fail)
    exact ⟨(), (by refine Wk.of ?_ ?_ rfl rfl rfl <;> (repeat' (first | (exact trivial) | (exact WkD.same _) | (exact WkO.same _ _ rfl) | (exact WkD.any _) | (exact WkD.nil _ (Or.inl rfl)) | (exact WkD.nil _ (Or.inr rfl)) | (exact WkD.fz _ _ _ rfl (Or.inl ⟨_, rfl⟩) rfl) | (exact WkD.fz _ _ _ rfl (Or.inr rfl) rfl) | (refine WkD.int ?_) | (exact WkD.new' rfl rfl rfl) | (exact WkO.new _ _ rfl) | (refine WkO.vars rfl ?_) | (with_reducible rfl) | (exact rfl) | (refine ⟨?_, ?_⟩) | ((refine wrapA ?_ ?_ ?_); (focus (simp; done)); (focus ((try dsimp only); omega)); (focus ((try dsimp only); omega))) | fail)))⟩
  rintro ⟨⟩
  refine ⟨Unit, fun _ => [(0, .pv (.int .i64 ag)), (2, .pv (fpv f)), (4, .ref 0 0), (7, .ref 1 0), (8, .pv (.int .i64 X1.2)), (9, .ref 2 0), (10, .pv (.int .i64 X1.2))], fun _ => 3, fun _ => [(0, .var [.pv (.int .i64 a), .pv (.int .i64 b), .pv (.int .i64 c)]), (1, .var (cellsA X1.1)), (2, .var (cellsA X1.1))], ?_, ?_⟩
  · (try (conv => whnf)); repeat' (first | (apply And.intro <;> (try (conv => whnf))) | (intro h; first | (with_reducible exact tf0 h) | (with_reducible exact ft0 h) | (with_reducible exact nt0 h) | (with_reducible exact nf0 h) | (exact litz h rfl) | (with_reducible exact tf h (by with_reducible assumption)) | (with_reducible exact tf (by with_reducible assumption) h) | (try (conv => whnf))) | (with_reducible rfl) | (apply True.intro) | (apply infoT; rfl) | (apply bleI; rfl) | (apply fitI; rfl) | (apply cellsI; rfl) | (apply szI; rfl) | (apply guardI; kernel_rfl) | (apply WhenQ.mk; (try (conv => whnf)); rotate_left; (try (conv => whnf)); rotate_right) | (with_reducible assumption) | (apply not_of; with_reducible assumption) | (apply left_of; with_reducible assumption) | (apply left_of; apply left_of; with_reducible assumption) | (apply and_of <;> first | (with_reducible assumption) | (apply not_of; with_reducible assumption))| (refine lin_plan (by kernel_rfl) ?_; (try (conv => whnf))) | (refine ⟨_, _, rfl, idx_map (by with_reducible assumption), rfl, ?_⟩; (try (conv => whnf))) | (refine ⟨rfl, ?_⟩; (try (conv => whnf))) | (exact Nat.le_refl 1) | ((apply ex3); (focus (with_reducible assumption)); (focus (with_reducible assumption)); (try (conv => whnf))) | ((apply ex2); (focus (with_reducible assumption)); (try (conv => whnf))) | (refine PureFn.dcq (f := 45) rfl ?_; (try (conv => whnf))) | ((refine ⟨_, _, q1, ?_, ?_⟩); (focus (first | (refine ⟨?_, ?_, ?_, trivial⟩ <;> first | (exact PLe.refl _) | (exact PLe.nil)) | (exact trivial))); (try (conv => whnf))) | (refine ⟨_, (by (conv => whnf); exact q1), rfl, ?_⟩; (try (conv => whnf))) | fail)
    exact ⟨(), (by refine Wk.of ?_ ?_ rfl rfl rfl <;> (repeat' (first | (exact trivial) | (exact WkD.same _) | (exact WkO.same _ _ rfl) | (exact WkD.any _) | (exact WkD.nil _ (Or.inl rfl)) | (exact WkD.nil _ (Or.inr rfl)) | (exact WkD.fz _ _ _ rfl (Or.inl ⟨_, rfl⟩) rfl) | (exact WkD.fz _ _ _ rfl (Or.inr rfl) rfl) | (refine WkD.int ?_) | (exact WkD.new' rfl rfl rfl) | (exact WkO.new _ _ rfl) | (refine WkO.vars rfl ?_) | (with_reducible rfl) | (exact rfl) | (refine ⟨?_, ?_⟩) | ((refine wrapA ?_ ?_ ?_); (focus (simp; done)); (focus ((try dsimp only); omega)); (focus ((try dsimp only); omega))) | fail)))⟩
  rintro ⟨⟩
  refine ⟨Unit, fun _ => [(0, .pv (.int .i64 ag)), (2, .pv (fpv f)), (4, .ref 0 0), (7, .ref 1 0), (9, .ref 2 0)], fun _ => 3, fun _ => [(0, .var [.pv (.int .i64 a), .pv (.int .i64 b), .pv (.int .i64 c)]), (1, .var (cellsA X1.1)), (2, .var (cellsA X1.1))], ?_, ?_⟩
  · (try (conv => whnf)); repeat' (first | (apply And.intro <;> (try (conv => whnf))) | (intro h; first | (with_reducible exact tf0 h) | (with_reducible exact ft0 h) | (with_reducible exact nt0 h) | (with_reducible exact nf0 h) | (exact litz h rfl) | (with_reducible exact tf h (by with_reducible assumption)) | (with_reducible exact tf (by with_reducible assumption) h) | (try (conv => whnf))) | (with_reducible rfl) | (apply True.intro) | (apply infoT; rfl) | (apply bleI; rfl) | (apply fitI; rfl) | (apply cellsI; rfl) | (apply szI; rfl) | (apply guardI; kernel_rfl) | (apply WhenQ.mk; (try (conv => whnf)); rotate_left; (try (conv => whnf)); rotate_right) | (with_reducible assumption) | (apply not_of; with_reducible assumption) | (apply left_of; with_reducible assumption) | (apply left_of; apply left_of; with_reducible assumption) | (apply and_of <;> first | (with_reducible assumption) | (apply not_of; with_reducible assumption))| (refine lin_plan (by kernel_rfl) ?_; (try (conv => whnf))) | (refine ⟨_, _, rfl, idx_map (by with_reducible assumption), rfl, ?_⟩; (try (conv => whnf))) | (refine ⟨rfl, ?_⟩; (try (conv => whnf))) | (exact Nat.le_refl 1) | ((apply ex3); (focus (with_reducible assumption)); (focus (with_reducible assumption)); (try (conv => whnf))) | ((apply ex2); (focus (with_reducible assumption)); (try (conv => whnf))) | (refine PureFn.dcq (f := 46) rfl ?_; (try (conv => whnf))) | ((refine ⟨_, _, e1, ?_, ?_⟩); (focus (first | (refine ⟨?_, ?_, ?_, ?_, trivial⟩ <;> first | (exact PLe.refl _) | (exact PLe.nil)) | (exact trivial))); (try (conv => whnf))) | (refine ⟨_, (by (conv => whnf); exact e1), rfl, ?_⟩; (try (conv => whnf))) | fail)
    all_goals first | (simp at h; done) | exact ⟨(), (by refine Wk.of ?_ ?_ rfl rfl rfl <;> (repeat' (first | (exact trivial) | (exact WkD.same _) | (exact WkO.same _ _ rfl) | (exact WkD.any _) | (exact WkD.nil _ (Or.inl rfl)) | (exact WkD.nil _ (Or.inr rfl)) | (exact WkD.fz _ _ _ rfl (Or.inl ⟨_, rfl⟩) rfl) | (exact WkD.fz _ _ _ rfl (Or.inr rfl) rfl) | (refine WkD.int ?_) | (exact WkD.new' rfl rfl rfl) | (exact WkO.new _ _ rfl) | (refine WkO.vars rfl ?_) | (with_reducible rfl) | (exact rfl) | (refine ⟨?_, ?_⟩) | ((refine wrapA ?_ ?_ ?_); (focus (simp; done)); (focus ((try dsimp only); omega)); (focus ((try dsimp only); omega))) | fail)))⟩
  rintro ⟨⟩
  refine ⟨Unit, fun _ => [(0, .pv (.int .i64 ag)), (2, .pv (fpv f)), (4, .ref 0 0), (7, .ref 1 0), (8, .pv (.int .i64 X2.2)), (9, .ref 2 0)], fun _ => 3, fun _ => [(0, .var [.pv (.int .i64 a), .pv (.int .i64 b), .pv (.int .i64 c)]), (1, .var (cellsA X2.1)), (2, .var (cellsA X1.1))], ?_, ?_⟩
  · (try (conv => whnf)); repeat' (first | (apply And.intro <;> (try (conv => whnf))) | (intro h; first | (with_reducible exact tf0 h) | (with_reducible exact ft0 h) | (with_reducible exact nt0 h) | (with_reducible exact nf0 h) | (exact litz h rfl) | (with_reducible exact tf h (by with_reducible assumption)) | (with_reducible exact tf (by with_reducible assumption) h) | (try (conv => whnf))) | (with_reducible rfl) | (apply True.intro) | (apply infoT; rfl) | (apply bleI; rfl) | (apply fitI; rfl) | (apply cellsI; rfl) | (apply szI; rfl) | (apply guardI; kernel_rfl) | (apply WhenQ.mk; (try (conv => whnf)); rotate_left; (try (conv => whnf)); rotate_right) | (with_reducible assumption) | (apply not_of; with_reducible assumption) | (apply left_of; with_reducible assumption) | (apply left_of; apply left_of; with_reducible assumption) | (apply and_of <;> first | (with_reducible assumption) | (apply not_of; with_reducible assumption))| (refine lin_plan (by kernel_rfl) ?_; (try (conv => whnf))) | (refine ⟨_, _, rfl, idx_map (by with_reducible assumption), rfl, ?_⟩; (try (conv => whnf))) | (refine ⟨rfl, ?_⟩; (try (conv => whnf))) | (exact Nat.le_refl 1) | ((apply ex3); (focus (with_reducible assumption)); (focus (with_reducible assumption)); (try (conv => whnf))) | ((apply ex2); (focus (with_reducible assumption)); (try (conv => whnf))) | (refine PureFn.dcq (f := 47) rfl ?_; (try (conv => whnf))) | ((refine ⟨_, _, p2, ?_, ?_⟩); (focus (first | (refine ⟨?_, ?_, ?_, ?_, trivial⟩ <;> first | (exact PLe.refl _) | (exact PLe.nil)) | (exact trivial))); (try (conv => whnf))) | (refine ⟨_, (by (conv => whnf); exact p2), rfl, ?_⟩; (try (conv => whnf))) | fail)
    exact ⟨(), (by refine Wk.of ?_ ?_ rfl rfl rfl <;> (repeat' (first | (exact trivial) | (exact WkD.same _) | (exact WkO.same _ _ rfl) | (exact WkD.any _) | (exact WkD.nil _ (Or.inl rfl)) | (exact WkD.nil _ (Or.inr rfl)) | (exact WkD.fz _ _ _ rfl (Or.inl ⟨_, rfl⟩) rfl) | (exact WkD.fz _ _ _ rfl (Or.inr rfl) rfl) | (refine WkD.int ?_) | (exact WkD.new' rfl rfl rfl) | (exact WkO.new _ _ rfl) | (refine WkO.vars rfl ?_) | (with_reducible rfl) | (exact rfl) | (refine ⟨?_, ?_⟩) | ((refine wrapA ?_ ?_ ?_); (focus (simp; done)); (focus ((try dsimp only); omega)); (focus ((try dsimp only); omega))) | fail)))⟩
  rintro ⟨⟩
  refine ⟨Unit, fun _ => [(0, .pv (.int .i64 ag)), (2, .pv (fpv f)), (4, .ref 0 0), (7, .ref 1 0), (8, .pv (.int .i64 X2.2)), (9, .ref 2 0), (10, .pv (.int .i64 X2.2))], fun _ => 3, fun _ => [(0, .var [.pv (.int .i64 a), .pv (.int .i64 b), .pv (.int .i64 c)]), (1, .var (cellsA X2.1)), (2, .var (cellsA X2.1))], ?_, ?_⟩
  · (try (conv => whnf)); repeat' (first | (apply And.intro <;> (try (conv => whnf))) | (intro h; first | (with_reducible exact tf0 h) | (with_reducible exact ft0 h) | (with_reducible exact nt0 h) | (with_reducible exact nf0 h) | (exact litz h rfl) | (with_reducible exact tf h (by with_reducible assumption)) | (with_reducible exact tf (by with_reducible assumption) h) | (try (conv => whnf))) | (with_reducible rfl) | (apply True.intro) | (apply infoT; rfl) | (apply bleI; rfl) | (apply fitI; rfl) | (apply cellsI; rfl) | (apply szI; rfl) | (apply guardI; kernel_rfl) | (apply WhenQ.mk; (try (conv => whnf)); rotate_left; (try (conv => whnf)); rotate_right) | (with_reducible assumption) | (apply not_of; with_reducible assumption) | (apply left_of; with_reducible assumption) | (apply left_of; apply left_of; with_reducible assumption) | (apply and_of <;> first | (with_reducible assumption) | (apply not_of; with_reducible assumption))| (refine lin_plan (by kernel_rfl) ?_; (try (conv => whnf))) | (refine ⟨_, _, rfl, idx_map (by with_reducible assumption), rfl, ?_⟩; (try (conv => whnf))) | (refine ⟨rfl, ?_⟩; (try (conv => whnf))) | (exact Nat.le_refl 1) | ((apply ex3); (focus (with_reducible assumption)); (focus (with_reducible assumption)); (try (conv => whnf))) | ((apply ex2); (focus (with_reducible assumption)); (try (conv => whnf))) | (refine PureFn.dcq (f := 48) rfl ?_; (try (conv => whnf))) | ((refine ⟨_, _, q2, ?_, ?_⟩); (focus (first | (refine ⟨?_, ?_, ?_, ?_, trivial⟩ <;> first | (exact PLe.refl _) | (exact PLe.nil)) | (exact trivial))); (try (conv => whnf))) | (refine ⟨_, (by (conv => whnf); exact q2), rfl, ?_⟩; (try (conv => whnf))) | fail)
    exact ⟨(), (by refine Wk.of ?_ ?_ rfl rfl rfl <;> (repeat' (first | (exact trivial) | (exact WkD.same _) | (exact WkO.same _ _ rfl) | (exact WkD.any _) | (exact WkD.nil _ (Or.inl rfl)) | (exact WkD.nil _ (Or.inr rfl)) | (exact WkD.fz _ _ _ rfl (Or.inl ⟨_, rfl⟩) rfl) | (exact WkD.fz _ _ _ rfl (Or.inr rfl) rfl) | (refine WkD.int ?_) | (exact WkD.new' rfl rfl rfl) | (exact WkO.new _ _ rfl) | (refine WkO.vars rfl ?_) | (with_reducible rfl) | (exact rfl) | (refine ⟨?_, ?_⟩) | ((refine wrapA ?_ ?_ ?_); (focus (simp; done)); (focus ((try dsimp only); omega)); (focus ((try dsimp only); omega))) | fail)))⟩
  rintro ⟨⟩
  refine ⟨Unit, fun _ => [(0, .pv (.int .i64 ag)), (2, .pv (fpv f)), (4, .ref 0 0), (7, .ref 1 0), (9, .ref 2 0)], fun _ => 3, fun _ => [(0, .var [.pv (.int .i64 a), .pv (.int .i64 b), .pv (.int .i64 c)]), (1, .var (cellsA X2.1)), (2, .var (cellsA X2.1))], ?_, ?_⟩
  · (try (conv => whnf)); repeat' (first | (apply And.intro <;> (try (conv => whnf))) | (intro h; first | (with_reducible exact tf0 h) | (with_reducible exact ft0 h) | (with_reducible exact nt0 h) | (with_reducible exact nf0 h) | (exact litz h rfl) | (with_reducible exact tf h (by with_reducible assumption)) | (with_reducible exact tf (by with_reducible assumption) h) | (try (conv => whnf))) | (with_reducible rfl) | (apply True.intro) | (apply infoT; rfl) | (apply bleI; rfl) | (apply fitI; rfl) | (apply cellsI; rfl) | (apply szI; rfl) | (apply guardI; kernel_rfl) | (apply WhenQ.mk; (try (conv => whnf)); rotate_left; (try (conv => whnf)); rotate_right) | (with_reducible assumption) | (apply not_of; with_reducible assumption) | (apply left_of; with_reducible assumption) | (apply left_of; apply left_of; with_reducible assumption) | (apply and_of <;> first | (with_reducible assumption) | (apply not_of; with_reducible assumption))| (refine lin_plan (by kernel_rfl) ?_; (try (conv => whnf))) | (refine ⟨_, _, rfl, idx_map (by with_reducible assumption), rfl, ?_⟩; (try (conv => whnf))) | (refine ⟨rfl, ?_⟩; (try (conv => whnf))) | (exact Nat.le_refl 1) | ((apply ex3); (focus (with_reducible assumption)); (focus (with_reducible assumption)); (try (conv => whnf))) | ((apply ex2); (focus (with_reducible assumption)); (try (conv => whnf))) | (refine PureFn.dcq (f := 46) rfl ?_; (try (conv => whnf))) | ((refine ⟨_, _, e2, ?_, ?_⟩); (focus (first | (refine ⟨?_, ?_, ?_, ?_, trivial⟩ <;> first | (exact PLe.refl _) | (exact PLe.nil)) | (exact trivial))); (try (conv => whnf))) | (refine ⟨_, (by (conv => whnf); exact e2), rfl, ?_⟩; (try (conv => whnf))) | fail)
    all_goals first | (simp at h; done) | exact ⟨(), (by refine Wk.of ?_ ?_ rfl rfl rfl <;> (repeat' (first | (exact trivial) | (exact WkD.same _) | (exact WkO.same _ _ rfl) | (exact WkD.any _) | (exact WkD.nil _ (Or.inl rfl)) | (exact WkD.nil _ (Or.inr rfl)) | (exact WkD.fz _ _ _ rfl (Or.inl ⟨_, rfl⟩) rfl) | (exact WkD.fz _ _ _ rfl (Or.inr rfl) rfl) | (refine WkD.int ?_) | (exact WkD.new' rfl rfl rfl) | (exact WkO.new _ _ rfl) | (refine WkO.vars rfl ?_) | (with_reducible rfl) | (exact rfl) | (refine ⟨?_, ?_⟩) | ((refine wrapA ?_ ?_ ?_); (focus (simp; done)); (focus ((try dsimp only); omega)); (focus ((try dsimp only); omega))) | fail)))⟩
  rintro ⟨⟩
  refine ⟨Unit, fun _ => [(0, .pv (.int .i64 ag)), (2, .pv (fpv f)), (4, .ref 0 0), (7, .ref 1 0), (8, .pv (.int .i64 X3.2)), (9, .ref 2 0)], fun _ => 3, fun _ => [(0, .var [.pv (.int .i64 a), .pv (.int .i64 b), .pv (.int .i64 c)]), (1, .var (cellsA X3.1)), (2, .var (cellsA X2.1))], ?_, ?_⟩
  · (try (conv => whnf)); repeat' (first | (apply And.intro <;> (try (conv => whnf))) | (intro h; first | (with_reducible exact tf0 h) | (with_reducible exact ft0 h) | (with_reducible exact nt0 h) | (with_reducible exact nf0 h) | (exact litz h rfl) | (with_reducible exact tf h (by with_reducible assumption)) | (with_reducible exact tf (by with_reducible assumption) h) | (try (conv => whnf))) | (with_reducible rfl) | (apply True.intro) | (apply infoT; rfl) | (apply bleI; rfl) | (apply fitI; rfl) | (apply cellsI; rfl) | (apply szI; rfl) | (apply guardI; kernel_rfl) | (apply WhenQ.mk; (try (conv => whnf)); rotate_left; (try (conv => whnf)); rotate_right) | (with_reducible assumption) | (apply not_of; with_reducible assumption) | (apply left_of; with_reducible assumption) | (apply left_of; apply left_of; with_reducible assumption) | (apply and_of <;> first | (with_reducible assumption) | (apply not_of; with_reducible assumption))| (refine lin_plan (by kernel_rfl) ?_; (try (conv => whnf))) | (refine ⟨_, _, rfl, idx_map (by with_reducible assumption), rfl, ?_⟩; (try (conv => whnf))) | (refine ⟨rfl, ?_⟩; (try (conv => whnf))) | (exact Nat.le_refl 1) | ((apply ex3); (focus (with_reducible assumption)); (focus (with_reducible assumption)); (try (conv => whnf))) | ((apply ex2); (focus (with_reducible assumption)); (try (conv => whnf))) | (refine PureFn.dcq (f := 49) rfl ?_; (try (conv => whnf))) | ((refine ⟨_, _, p3, ?_, ?_⟩); (focus (first | (refine ⟨?_, ?_, ?_, trivial⟩ <;> first | (exact PLe.refl _) | (exact PLe.nil)) | (exact trivial))); (try (conv => whnf))) | (refine ⟨_, (by (conv => whnf); exact p3), rfl, ?_⟩; (try (conv => whnf))) | fail)
    exact ⟨(), (by refine Wk.of ?_ ?_ rfl rfl rfl <;> (repeat' (first | (exact trivial) | (exact WkD.same _) | (exact WkO.same _ _ rfl) | (exact WkD.any _) | (exact WkD.nil _ (Or.inl rfl)) | (exact WkD.nil _ (Or.inr rfl)) | (exact WkD.fz _ _ _ rfl (Or.inl ⟨_, rfl⟩) rfl) | (exact WkD.fz _ _ _ rfl (Or.inr rfl) rfl) | (refine WkD.int ?_) | (exact WkD.new' rfl rfl rfl) | (exact WkO.new _ _ rfl) | (refine WkO.vars rfl ?_) | (with_reducible rfl) | (exact rfl) | (refine ⟨?_, ?_⟩) | ((refine wrapA ?_ ?_ ?_); (focus (simp; done)); (focus ((try dsimp only); omega)); (focus ((try dsimp only); omega))) | fail)))⟩
  rintro ⟨⟩
  refine ⟨Unit, fun _ => [(0, .pv (.int .i64 ag)), (2, .pv (fpv f)), (4, .ref 0 0), (7, .ref 1 0), (8, .pv (.int .i64 X3.2)), (9, .ref 2 0), (10, .pv (.int .i64 X3.2))], fun _ => 3, fun _ => [(0, .var [.pv (.int .i64 a), .pv (.int .i64 b), .pv (.int .i64 c)]), (1, .var (cellsA X3.1)), (2, .var (cellsA X3.1))], ?_, ?_⟩
  · (try (conv => whnf)); repeat' (first | (apply And.intro <;> (try (conv => whnf))) | (intro h; first | (with_reducible exact tf0 h) | (with_reducible exact ft0 h) | (with_reducible exact nt0 h) | (with_reducible exact nf0 h) | (exact litz h rfl) | (with_reducible exact tf h (by with_reducible assumption)) | (with_reducible exact tf (by with_reducible assumption) h) | (try (conv => whnf))) | (with_reducible rfl) | (apply True.intro) | (apply infoT; rfl) | (apply bleI; rfl) | (apply fitI; rfl) | (apply cellsI; rfl) | (apply szI; rfl) | (apply guardI; kernel_rfl) | (apply WhenQ.mk; (try (conv => whnf)); rotate_left; (try (conv => whnf)); rotate_right) | (with_reducible assumption) | (apply not_of; with_reducible assumption) | (apply left_of; with_reducible assumption) | (apply left_of; apply left_of; with_reducible assumption) | (apply and_of <;> first | (with_reducible assumption) | (apply not_of; with_reducible assumption))| (refine lin_plan (by kernel_rfl) ?_; (try (conv => whnf))) | (refine ⟨_, _, rfl, idx_map (by with_reducible assumption), rfl, ?_⟩; (try (conv => whnf))) | (refine ⟨rfl, ?_⟩; (try (conv => whnf))) | (exact Nat.le_refl 1) | ((apply ex3); (focus (with_reducible assumption)); (focus (with_reducible assumption)); (try (conv => whnf))) | ((apply ex2); (focus (with_reducible assumption)); (try (conv => whnf))) | (refine PureFn.dcq (f := 50) rfl ?_; (try (conv => whnf))) | ((refine ⟨_, _, q3, ?_, ?_⟩); (focus (first | (refine ⟨?_, ?_, ?_, trivial⟩ <;> first | (exact PLe.refl _) | (exact PLe.nil)) | (exact trivial))); (try (conv => whnf))) | (refine ⟨_, (by (conv => whnf); exact q3), rfl, ?_⟩; (try (conv => whnf))) | fail)
    exact ⟨(), (by refine Wk.of ?_ ?_ rfl rfl rfl <;> (repeat' (first | (exact trivial) | (exact WkD.same _) | (exact WkO.same _ _ rfl) | (exact WkD.any _) | (exact WkD.nil _ (Or.inl rfl)) | (exact WkD.nil _ (Or.inr rfl)) | (exact WkD.fz _ _ _ rfl (Or.inl ⟨_, rfl⟩) rfl) | (exact WkD.fz _ _ _ rfl (Or.inr rfl) rfl) | (refine WkD.int ?_) | (exact WkD.new' rfl rfl rfl) | (exact WkO.new _ _ rfl) | (refine WkO.vars rfl ?_) | (with_reducible rfl) | (exact rfl) | (refine ⟨?_, ?_⟩) | ((refine wrapA ?_ ?_ ?_); (focus (simp; done)); (focus ((try dsimp only); omega)); (focus ((try dsimp only); omega))) | fail)))⟩
  rintro ⟨⟩
  refine ⟨Unit, fun _ => [(0, .pv (.int .i64 ag)), (2, .pv (fpv f)), (4, .ref 0 0), (7, .ref 1 0), (9, .ref 2 0)], fun _ => 3, fun _ => [(0, .var [.pv (.int .i64 a), .pv (.int .i64 b), .pv (.int .i64 c)]), (1, .var (cellsA X3.1)), (2, .var (cellsA X3.1))], ?_, ?_⟩
  · (try (conv => whnf)); repeat' (first | (apply And.intro <;> (try (conv => whnf))) | (intro h; first | (with_reducible exact tf0 h) | (with_reducible exact ft0 h) | (with_reducible exact nt0 h) | (with_reducible exact nf0 h) | (exact litz h rfl) | (with_reducible exact tf h (by with_reducible assumption)) | (with_reducible exact tf (by with_reducible assumption) h) | (try (conv => whnf))) | (with_reducible rfl) | (apply True.intro) | (apply infoT; rfl) | (apply bleI; rfl) | (apply fitI; rfl) | (apply cellsI; rfl) | (apply szI; rfl) | (apply guardI; kernel_rfl) | (apply WhenQ.mk; (try (conv => whnf)); rotate_left; (try (conv => whnf)); rotate_right) | (with_reducible assumption) | (apply not_of; with_reducible assumption) | (apply left_of; with_reducible assumption) | (apply left_of; apply left_of; with_reducible assumption) | (apply and_of <;> first | (with_reducible assumption) | (apply not_of; with_reducible assumption))| (refine lin_plan (by kernel_rfl) ?_; (try (conv => whnf))) | (refine ⟨_, _, rfl, idx_map (by with_reducible assumption), rfl, ?_⟩; (try (conv => whnf))) | (refine ⟨rfl, ?_⟩; (try (conv => whnf))) | (exact Nat.le_refl 1) | ((apply ex3); (focus (with_reducible assumption)); (focus (with_reducible assumption)); (try (conv => whnf))) | ((apply ex2); (focus (with_reducible assumption)); (try (conv => whnf))) | (refine PureFn.dcq (f := 46) rfl ?_; (try (conv => whnf))) | ((refine ⟨_, _, e3, ?_, ?_⟩); (focus (first | (refine ⟨?_, ?_, ?_, ?_, trivial⟩ <;> first | (exact PLe.refl _) | (exact PLe.nil)) | (exact trivial))); (try (conv => whnf))) | (refine ⟨_, (by (conv => whnf); exact e3), rfl, ?_⟩; (try (conv => whnf))) | fail)
    all_goals first | (simp at h; done) | exact ⟨(), (by refine Wk.of ?_ ?_ rfl rfl rfl <;> (repeat' (first | (exact trivial) | (exact WkD.same _) | (exact WkO.same _ _ rfl) | (exact WkD.any _) | (exact WkD.nil _ (Or.inl rfl)) | (exact WkD.nil _ (Or.inr rfl)) | (exact WkD.fz _ _ _ rfl (Or.inl ⟨_, rfl⟩) rfl) | (exact WkD.fz _ _ _ rfl (Or.inr rfl) rfl) | (refine WkD.int ?_) | (exact WkD.new' rfl rfl rfl) | (exact WkO.new _ _ rfl) | (refine WkO.vars rfl ?_) | (with_reducible rfl) | (exact rfl) | (refine ⟨?_, ?_⟩) | ((refine wrapA ?_ ?_ ?_); (focus (simp; done)); (focus ((try dsimp only); omega)); (focus ((try dsimp only); omega))) | fail)))⟩
  rintro ⟨⟩
  refine ⟨Unit, fun _ => [(0, .pv (.int .i64 ag)), (2, .pv (fpv f)), (4, .ref 0 0), (7, .ref 1 0), (8, .pv (.int .i64 X4.2)), (9, .ref 2 0)], fun _ => 3, fun _ => [(0, .var [.pv (.int .i64 a), .pv (.int .i64 b), .pv (.int .i64 c)]), (1, .var (cellsA X4.1)), (2, .var (cellsA X3.1))], ?_, ?_⟩
  · (try (conv => whnf)); repeat' (first | (apply And.intro <;> (try (conv => whnf))) | (intro h; first | (with_reducible exact tf0 h) | (with_reducible exact ft0 h) | (with_reducible exact nt0 h) | (with_reducible exact nf0 h) | (exact litz h rfl) | (with_reducible exact tf h (by with_reducible assumption)) | (with_reducible exact tf (by with_reducible assumption) h) | (try (conv => whnf))) | (with_reducible rfl) | (apply True.intro) | (apply infoT; rfl) | (apply bleI; rfl) | (apply fitI; rfl) | (apply cellsI; rfl) | (apply szI; rfl) | (apply guardI; kernel_rfl) | (apply WhenQ.mk; (try (conv => whnf)); rotate_left; (try (conv => whnf)); rotate_right) | (with_reducible assumption) | (apply not_of; with_reducible assumption) | (apply left_of; with_reducible assumption) | (apply left_of; apply left_of; with_reducible assumption) | (apply and_of <;> first | (with_reducible assumption) | (apply not_of; with_reducible assumption))| (refine lin_plan (by kernel_rfl) ?_; (try (conv => whnf))) | (refine ⟨_, _, rfl, idx_map (by with_reducible assumption), rfl, ?_⟩; (try (conv => whnf))) | (refine ⟨rfl, ?_⟩; (try (conv => whnf))) | (exact Nat.le_refl 1) | ((apply ex3); (focus (with_reducible assumption)); (focus (with_reducible assumption)); (try (conv => whnf))) | ((apply ex2); (focus (with_reducible assumption)); (try (conv => whnf))) | (refine PureFn.dcq (f := 51) rfl ?_; (try (conv => whnf))) | ((refine ⟨_, _, p4, ?_, ?_⟩); (focus (first | (refine ⟨?_, ?_, ?_, trivial⟩ <;> first | (exact PLe.refl _) | (exact PLe.nil)) | (exact trivial))); (try (conv => whnf))) | (refine ⟨_, (by (conv => whnf); exact p4), rfl, ?_⟩; (try (conv => whnf))) | fail)
    exact ⟨(), (by refine Wk.of ?_ ?_ rfl rfl rfl <;> (repeat' (first | (exact trivial) | (exact WkD.same _) | (exact WkO.same _ _ rfl) | (exact WkD.any _) | (exact WkD.nil _ (Or.inl rfl)) | (exact WkD.nil _ (Or.inr rfl)) | (exact WkD.fz _ _ _ rfl (Or.inl ⟨_, rfl⟩) rfl) | (exact WkD.fz _ _ _ rfl (Or.inr rfl) rfl) | (refine WkD.int ?_) | (exact WkD.new' rfl rfl rfl) | (exact WkO.new _ _ rfl) | (refine WkO.vars rfl ?_) | (with_reducible rfl) | (exact rfl) | (refine ⟨?_, ?_⟩) | ((refine wrapA ?_ ?_ ?_); (focus (simp; done)); (focus ((try dsimp only); omega)); (focus ((try dsimp only); omega))) | fail)))⟩
  rintro ⟨⟩
  refine ⟨Unit, fun _ => [(0, .pv (.int .i64 ag)), (2, .pv (fpv f)), (4, .ref 0 0), (7, .ref 1 0), (8, .pv (.int .i64 X4.2)), (9, .ref 2 0), (10, .pv (.int .i64 X4.2))], fun _ => 3, fun _ => [(0, .var [.pv (.int .i64 a), .pv (.int .i64 b), .pv (.int .i64 c)]), (1, .var (cellsA X4.1)), (2, .var (cellsA X4.1))], ?_, ?_⟩
  · (try (conv => whnf)); repeat' (first | (apply And.intro <;> (try (conv => whnf))) | (intro h; first | (with_reducible exact tf0 h) | (with_reducible exact ft0 h) | (with_reducible exact nt0 h) | (with_reducible exact nf0 h) | (exact litz h rfl) | (with_reducible exact tf h (by with_reducible assumption)) | (with_reducible exact tf (by with_reducible assumption) h) | (try (conv => whnf))) | (with_reducible rfl) | (apply True.intro) | (apply infoT; rfl) | (apply bleI; rfl) | (apply fitI; rfl) | (apply cellsI; rfl) | (apply szI; rfl) | (apply guardI; kernel_rfl) | (apply WhenQ.mk; (try (conv => whnf)); rotate_left; (try (conv => whnf)); rotate_right) | (with_reducible assumption) | (apply not_of; with_reducible assumption) | (apply left_of; with_reducible assumption) | (apply left_of; apply left_of; with_reducible assumption) | (apply and_of <;> first | (with_reducible assumption) | (apply not_of; with_reducible assumption))| (refine lin_plan (by kernel_rfl) ?_; (try (conv => whnf))) | (refine ⟨_, _, rfl, idx_map (by with_reducible assumption), rfl, ?_⟩; (try (conv => whnf))) | (refine ⟨rfl, ?_⟩; (try (conv => whnf))) | (exact Nat.le_refl 1) | ((apply ex3); (focus (with_reducible assumption)); (focus (with_reducible assumption)); (try (conv => whnf))) | ((apply ex2); (focus (with_reducible assumption)); (try (conv => whnf))) | (refine PureFn.dcq (f := 52) rfl ?_; (try (conv => whnf))) | ((refine ⟨_, _, q4, ?_, ?_⟩); (focus (first | (refine ⟨?_, ?_, ?_, trivial⟩ <;> first | (exact PLe.refl _) | (exact PLe.nil)) | (exact trivial))); (try (conv => whnf))) | (refine ⟨_, (by (conv => whnf); exact q4), rfl, ?_⟩; (try (conv => whnf))) | fail)
    exact ⟨(), (by refine Wk.of ?_ ?_ rfl rfl rfl <;> (repeat' (first | (exact trivial) | (exact WkD.same _) | (exact WkO.same _ _ rfl) | (exact WkD.any _) | (exact WkD.nil _ (Or.inl rfl)) | (exact WkD.nil _ (Or.inr rfl)) | (exact WkD.fz _ _ _ rfl (Or.inl ⟨_, rfl⟩) rfl) | (exact WkD.fz _ _ _ rfl (Or.inr rfl) rfl) | (refine WkD.int ?_) | (exact WkD.new' rfl rfl rfl) | (exact WkO.new _ _ rfl) | (refine WkO.vars rfl ?_) | (with_reducible rfl) | (exact rfl) | (refine ⟨?_, ?_⟩) | ((refine wrapA ?_ ?_ ?_); (focus (simp; done)); (focus ((try dsimp only); omega)); (focus ((try dsimp only); omega))) | fail)))⟩
  rintro ⟨⟩
  (try (conv => whnf)); repeat' (first | (apply And.intro <;> (try (conv => whnf))) | (intro h; first | (with_reducible exact tf0 h) | (with_reducible exact ft0 h) | (with_reducible exact nt0 h) | (with_reducible exact nf0 h) | (exact litz h rfl) | (with_reducible exact tf h (by with_reducible assumption)) | (with_reducible exact tf (by with_reducible assumption) h) | (try (conv => whnf))) | (with_reducible rfl) | (apply True.intro) | (apply infoT; rfl) | (apply bleI; rfl) | (apply fitI; rfl) | (apply cellsI; rfl) | (apply szI; rfl) | (apply guardI; kernel_rfl) | (apply WhenQ.mk; (try (conv => whnf)); rotate_left; (try (conv => whnf)); rotate_right) | (with_reducible assumption) | (apply not_of; with_reducible assumption) | (apply left_of; with_reducible assumption) | (apply left_of; apply left_of; with_reducible assumption) | (apply and_of <;> first | (with_reducible assumption) | (apply not_of; with_reducible assumption))| (refine lin_plan (by kernel_rfl) ?_; (try (conv => whnf))) | (refine ⟨_, _, rfl, idx_map (by with_reducible assumption), rfl, ?_⟩; (try (conv => whnf))) | (refine ⟨rfl, ?_⟩; (try (conv => whnf))) | (exact Nat.le_refl 1) | ((apply ex3); (focus (with_reducible assumption)); (focus (with_reducible assumption)); (try (conv => whnf))) | ((apply ex2); (focus (with_reducible assumption)); (try (conv => whnf))) | (refine PureFn.dcq (f := 46) rfl ?_; (try (conv => whnf))) | (refine PureFn.dcq (f := 43) rfl ?_; (try (conv => whnf))) | ((refine ⟨_, _, e4, ?_, ?_⟩); (focus (first | (refine ⟨?_, ?_, ?_, ?_, trivial⟩ <;> first | (exact PLe.refl _) | (exact PLe.nil)) | (exact trivial))); (try (conv => whnf))) | (refine ⟨_, (by (conv => whnf); exact e4), rfl, ?_⟩; (try (conv => whnf))) | ((refine ⟨_, _, ml_awake, ?_, ?_⟩); (focus (first | (refine ⟨trivial⟩ <;> first | (exact PLe.refl _) | (exact PLe.nil)) | (exact trivial))); (try (conv => whnf))) | (refine ⟨_, (by (conv => whnf); exact ml_awake), rfl, ?_⟩; (try (conv => whnf))) | fail)
  exact le_bool (by simp)
end Go.Proofs.Ytibenjpkinhjhaa
set_option maxRecDepth 100000
set_option maxHeartbeats 4000000
namespace Go.Proofs.Ytibenjpkinhjhaa
open Go Go.Dv

theorem small_change (ag fact : Int) (f : List Nd) : Small (changeI ag fact f).1 := by
  unfold changeI
  cases h : (errI ag fact [] f != 0) with
  | true => exact small_no
  | false =>
    refine ⟨?_, ?_, by simp, by simp, (rel_small (ag_le h) (by decide)).1, (rel_small (ag_le h) (by decide)).2⟩
    · intro g hg; simp at hg; subst hg; exact one_len _
    · intro l hl; simp at hl; subst hl; exact ⟨by simp, fun x hx => by simp at hx; subst hx; exact comp_len f⟩
theorem small_secret (ag to fact : Int) (f : List Nd) : Small (secretI ag to fact f).1 := by
  unfold secretI
  cases h : (errI ag fact [to] f != 0) with
  | true => exact small_no
  | false =>
    refine ⟨?_, ?_, by simp, by simp, (rel_small (ag_le h) (by decide)).1, (rel_small (ag_le h) (by decide)).2⟩
    · intro g hg; simp at hg; subst hg; exact one_len _
    · intro l hl
      simp at hl
      rcases hl with rfl | rfl
      · exact ⟨by simp, fun x hx => by simp at hx; subst hx; exact comp_len f⟩
      · exact ⟨by simp, fun x hx => by cases hx⟩
theorem small_toss (ag to fact : Int) : Small (tossI ag to fact).1 := by
  unfold tossI
  cases h : (errI ag fact [to] (buildL (n0 1) []) != 0) with
  | true => exact small_no
  | false =>
    refine ⟨?_, ?_, by simp, by simp, (rel_small (ag_le h) (by decide)).1, (rel_small (ag_le h) (by decide)).2⟩
    · intro g hg; simp at hg; subst hg; exact one_len _
    · intro l hl
      simp at hl
      rcases hl with rfl | rfl <;> exact ⟨by simp, fun x hx => by simp at hx; subst hx; first | exact one_len (n0 1) | exact one_len (n0 2)⟩
theorem mchange_pure (ag a b : Int) (f : List Nd) : PureFn Try.prog 11 [.int .i64 ag, .agg [.int .i64 a, .int .i64 b], fpv f] (.bool true) := by
  refine PureFn.introC [3, 4, 5, 7, 8, 9, 11, 12, 13] mixed (fn := Try.f11) rfl rfl rfl fun M w0 => ?_
  have p1 := ms_Change ag b f
  have q1 := rg_Change ag b f
  have s1 := small_change ag b f
  generalize changeI ag b f = X1 at p1 q1 s1
  have p2 := ms_Secret ag a b f
  have q2 := rg_Secret ag a b f
  have s2 := small_secret ag a b f
  generalize secretI ag a b f = X2 at p2 q2 s2
  have p3 := ms_Toss ag a b
  have q3 := rg_Toss ag a b
  have s3 := small_toss ag a b
  generalize tossI ag a b = X3 at p3 q3 s3
  have e1 := lw_same X1.1 X1.2 s1
  have e2 := lw_same X2.1 X2.2 s2
  have e3 := lw_same X3.1 X3.2 s3
  (try (conv => whnf)); repeat' (first | (apply And.intro <;> (try (conv => whnf))) | (intro h; first | (with_reducible exact tf0 h) | (with_reducible exact ft0 h) | (with_reducible exact nt0 h) | (with_reducible exact nf0 h) | (exact litz h rfl) | (with_reducible exact tf h (by with_reducible assumption)) | (with_reducible exact tf (by with_reducible assumption) h) | (try (conv => whnf))) | (with_reducible rfl) | (apply True.intro) | (apply infoT; rfl) | (apply bleI; rfl) | (apply fitI; rfl) | (apply cellsI; rfl) | (apply szI; rfl) | (apply guardI; kernel_rfl) | (apply WhenQ.mk; (try (conv => whnf)); rotate_left; (try (conv => whnf)); rotate_right) | (with_reducible assumption) | (apply not_of; with_reducible assumption) | (apply left_of; with_reducible assumption) | (apply left_of; apply left_of; with_reducible assumption) | (apply and_of <;> first | (with_reducible assumption) | (apply not_of; with_reducible assumption))| (refine lin_plan (by kernel_rfl) ?_; (try (conv => whnf))) | (refine ⟨_, _, rfl, idx_map (by with_reducible assumption), rfl, ?_⟩; (try (conv => whnf))) | (refine ⟨rfl, ?_⟩; (try (conv => whnf))) | (exact Nat.le_refl 1) | ((apply ex3); (focus (with_reducible assumption)); (focus (with_reducible assumption)); (try (conv => whnf))) | ((apply ex2); (focus (with_reducible assumption)); (try (conv => whnf))) | fail)
  refine ⟨Unit, fun _ => [(0, .pv (.int .i64 ag)), (2, .pv (fpv f)), (4, .ref 0 0)], fun _ => 1, fun _ => [(0, .var [.pv (.int .i64 a), .pv (.int .i64 b)])], ?_, ?_⟩
  · (try (conv => whnf)); repeat' (first | (apply And.intro <;> (try (conv => whnf))) | (intro h; first | (with_reducible exact tf0 h) | (with_reducible exact ft0 h) | (with_reducible exact nt0 h) | (with_reducible exact nf0 h) | (exact litz h rfl) | (with_reducible exact tf h (by with_reducible assumption)) | (with_reducible exact tf (by with_reducible assumption) h) | (try (conv => whnf))) | (with_reducible rfl) | (apply True.intro) | (apply infoT; rfl) | (apply bleI; rfl) | (apply fitI; rfl) | (apply cellsI; rfl) | (apply szI; rfl) | (apply guardI; kernel_rfl) | (apply WhenQ.mk; (try (conv => whnf)); rotate_left; (try (conv => whnf)); rotate_right) | (with_reducible assumption) | (apply not_of; with_reducible assumption) | (apply left_of; with_reducible assumption) | (apply left_of; apply left_of; with_reducible assumption) | (apply and_of <;> first | (with_reducible assumption) | (apply not_of; with_reducible assumption))| (refine lin_plan (by kernel_rfl) ?_; (try (conv => whnf))) | (refine ⟨_, _, rfl, idx_map (by with_reducible assumption), rfl, ?_⟩; (try (conv => whnf))) | (refine ⟨rfl, ?_⟩; (try (conv => whnf))) | (exact Nat.le_refl 1) | ((apply ex3); (focus (with_reducible assumption)); (focus (with_reducible assumption)); (try (conv => whnf))) | ((apply ex2); (focus (with_reducible assumption)); (try (conv => whnf))) | (refine PureFn.dcq (f := 43) rfl ?_; (try (conv => whnf))) | ((refine ⟨_, _, ml_awake, ?_, ?_⟩); (focus (first | (refine ⟨trivial⟩ <;> first | (exact PLe.refl _) | (exact PLe.nil)) | (exact trivial))); (try (conv => whnf))) | (refine ⟨_, (by (conv => whnf); exact ml_awake), rfl, ?_⟩; (try (conv => whnf))) | fail)
    · exact .refl _
    · exact ⟨(), (by refine Wk.of ?_ ?_ rfl rfl rfl <;> (repeat' (first | (exact trivial) | (exact WkD.same _) | (exact WkO.same _ _ rfl) | (exact WkD.any _) | (exact WkD.nil _ (Or.inl rfl)) | (exact WkD.nil _ (Or.inr rfl)) | (exact WkD.fz _ _ _ rfl (Or.inl ⟨_, rfl⟩) rfl) | (exact WkD.fz _ _ _ rfl (Or.inr rfl) rfl) | (refine WkD.int ?_) | (exact WkD.new' rfl rfl rfl) | (exact WkO.new _ _ rfl) | (refine WkO.vars rfl ?_) | (with_reducible rfl) | (exact rfl) | (refine ⟨?_, ?_⟩) | ((refine wrapA ?_ ?_ ?_); (focus (simp; done)); (focus ((try dsimp only); omega)); (focus ((try dsimp only); omega))) | fail)))⟩
  rintro ⟨⟩
  refine ⟨Unit, fun _ => [(0, .pv (.int .i64 ag)), (2, .pv (fpv f)), (4, .ref 0 0), (7, .ref 1 0), (8, .pv (.int .i64 X1.2))], fun _ => 2, fun _ => [(0, .var [.pv (.int .i64 a), .pv (.int .i64 b)]), (1, .var (cellsA X1.1))], ?_, ?_⟩
  · (try (conv => whnf)); repeat' (first | (apply And.intro <;> (try (conv => whnf))) | (intro h; first | (with_reducible exact tf0 h) | (with_reducible exact ft0 h) | (with_reducible exact nt0 h) | (with_reducible exact nf0 h) | (exact litz h rfl) | (with_reducible exact tf h (by with_reducible assumption)) | (with_reducible exact tf (by with_reducible assumption) h) | (try (conv => whnf))) | (with_reducible rfl) | (apply True.intro) | (apply infoT; rfl) | (apply bleI; rfl) | (apply fitI; rfl) | (apply cellsI; rfl) | (apply szI; rfl) | (apply guardI; kernel_rfl) | (apply WhenQ.mk; (try (conv => whnf)); rotate_left; (try (conv => whnf)); rotate_right) | (with_reducible assumption) | (apply not_of; with_reducible assumption) | (apply left_of; with_reducible assumption) | (apply left_of; apply left_of; with_reducible assumption) | (apply and_of <;> first | (with_reducible assumption) | (apply not_of; with_reducible assumption))| (refine lin_plan (by kernel_rfl) ?_; (try (conv => whnf))) | (refine ⟨_, _, rfl, idx_map (by with_reducible assumption), rfl, ?_⟩; (try (conv => whnf))) | (refine ⟨rfl, ?_⟩; (try (conv => whnf))) | (exact Nat.le_refl 1) | ((apply ex3); (focus (with_reducible assumption)); (focus (with_reducible assumption)); (try (conv => whnf))) | ((apply ex2); (focus (with_reducible assumption)); (try (conv => whnf))) | (refine PureFn.dcq (f := 53) rfl ?_; (try (conv => whnf))) | ((refine ⟨_, _, p1, ?_, ?_⟩); (focus (first | (refine ⟨?_, ?_, ?_, trivial⟩ <;> first | (exact PLe.refl _) | (exact PLe.nil)) | (exact trivial))); (try (conv => whnf))) | (refine ⟨_, (by (conv => whnf); exact p1), rfl, ?_⟩; (try (conv => whnf))) | fail)
    exact ⟨(), (by refine Wk.of ?_ ?_ rfl rfl rfl <;> (repeat' (first | (exact trivial) | (exact WkD.same _) | (exact WkO.same _ _ rfl) | (exact WkD.any _) | (exact WkD.nil _ (Or.inl rfl)) | (exact WkD.nil _ (Or.inr rfl)) | (exact WkD.fz _ _ _ rfl (Or.inl ⟨_, rfl⟩) rfl) | (exact WkD.fz _ _ _ rfl (Or.inr rfl) rfl) | (refine WkD.int ?_) | (exact WkD.new' rfl rfl rfl) | (exact WkO.new _ _ rfl) | (refine WkO.vars rfl ?_) | (with_reducible rfl) | (exact rfl) | (refine ⟨?_, ?_⟩) | ((refine wrapA ?_ ?_ ?_); (focus (simp; done)); (focus ((try dsimp only); omega)); (focus ((try dsimp only); omega))) | fail)))⟩
  rintro ⟨⟩
  refine ⟨Unit, fun _ => [(0, .pv (.int .i64 ag)), (2, .pv (fpv f)), (4, .ref 0 0), (7, .ref 1 0), (8, .pv (.int .i64 X1.2)), (9, .ref 2 0), (10, .pv (.int .i64 X1.2))], fun _ => 3, fun _ => [(0, .var [.pv (.int .i64 a), .pv (.int .i64 b)]), (1, .var (cellsA X1.1)), (2, .var (cellsA X1.1))], ?_, ?_⟩
  · (try (conv => whnf)); repeat' (first | (apply And.intro <;> (try (conv => whnf))) | (intro h; first | (with_reducible exact tf0 h) | (with_reducible exact ft0 h) | (with_reducible exact nt0 h) | (with_reducible exact nf0 h) | (exact litz h rfl) | (with_reducible exact tf h (by with_reducible assumption)) | (with_reducible exact tf (by with_reducible assumption) h) | (try (conv => whnf))) | (with_reducible rfl) | (apply True.intro) | (apply infoT; rfl) | (apply bleI; rfl) | (apply fitI; rfl) | (apply cellsI; rfl) | (apply szI; rfl) | (apply guardI; kernel_rfl) | (apply WhenQ.mk; (try (conv => whnf)); rotate_left; (try (conv => whnf)); rotate_right) | (with_reducible assumption) | (apply not_of; with_reducible assumption) | (apply left_of; with_reducible assumption) | (apply left_of; apply left_of; with_reducible assumption) | (apply and_of <;> first | (with_reducible assumption) | (apply not_of; with_reducible assumption))| (refine lin_plan (by kernel_rfl) ?_; (try (conv => whnf))) | (refine ⟨_, _, rfl, idx_map (by with_reducible assumption), rfl, ?_⟩; (try (conv => whnf))) | (refine ⟨rfl, ?_⟩; (try (conv => whnf))) | (exact Nat.le_refl 1) | ((apply ex3); (focus (with_reducible assumption)); (focus (with_reducible assumption)); (try (conv => whnf))) | ((apply ex2); (focus (with_reducible assumption)); (try (conv => whnf))) | (refine PureFn.dcq (f := 54) rfl ?_; (try (conv => whnf))) | ((refine ⟨_, _, q1, ?_, ?_⟩); (focus (first | (refine ⟨?_, ?_, ?_, trivial⟩ <;> first | (exact PLe.refl _) | (exact PLe.nil)) | (exact trivial))); (try (conv => whnf))) | (refine ⟨_, (by (conv => whnf); exact q1), rfl, ?_⟩; (try (conv => whnf))) | fail)
    exact ⟨(), (by refine Wk.of ?_ ?_ rfl rfl rfl <;> (repeat' (first | (exact trivial) | (exact WkD.same _) | (exact WkO.same _ _ rfl) | (exact WkD.any _) | (exact WkD.nil _ (Or.inl rfl)) | (exact WkD.nil _ (Or.inr rfl)) | (exact WkD.fz _ _ _ rfl (Or.inl ⟨_, rfl⟩) rfl) | (exact WkD.fz _ _ _ rfl (Or.inr rfl) rfl) | (refine WkD.int ?_) | (exact WkD.new' rfl rfl rfl) | (exact WkO.new _ _ rfl) | (refine WkO.vars rfl ?_) | (with_reducible rfl) | (exact rfl) | (refine ⟨?_, ?_⟩) | ((refine wrapA ?_ ?_ ?_); (focus (simp; done)); (focus ((try dsimp only); omega)); (focus ((try dsimp only); omega))) | fail)))⟩
  rintro ⟨⟩
  refine ⟨Unit, fun _ => [(0, .pv (.int .i64 ag)), (2, .pv (fpv f)), (4, .ref 0 0), (7, .ref 1 0), (9, .ref 2 0)], fun _ => 3, fun _ => [(0, .var [.pv (.int .i64 a), .pv (.int .i64 b)]), (1, .var (cellsA X1.1)), (2, .var (cellsA X1.1))], ?_, ?_⟩
  · (try (conv => whnf)); repeat' (first | (apply And.intro <;> (try (conv => whnf))) | (intro h; first | (with_reducible exact tf0 h) | (with_reducible exact ft0 h) | (with_reducible exact nt0 h) | (with_reducible exact nf0 h) | (exact litz h rfl) | (with_reducible exact tf h (by with_reducible assumption)) | (with_reducible exact tf (by with_reducible assumption) h) | (try (conv => whnf))) | (with_reducible rfl) | (apply True.intro) | (apply infoT; rfl) | (apply bleI; rfl) | (apply fitI; rfl) | (apply cellsI; rfl) | (apply szI; rfl) | (apply guardI; kernel_rfl) | (apply WhenQ.mk; (try (conv => whnf)); rotate_left; (try (conv => whnf)); rotate_right) | (with_reducible assumption) | (apply not_of; with_reducible assumption) | (apply left_of; with_reducible assumption) | (apply left_of; apply left_of; with_reducible assumption) | (apply and_of <;> first | (with_reducible assumption) | (apply not_of; with_reducible assumption))| (refine lin_plan (by kernel_rfl) ?_; (try (conv => whnf))) | (refine ⟨_, _, rfl, idx_map (by with_reducible assumption), rfl, ?_⟩; (try (conv => whnf))) | (refine ⟨rfl, ?_⟩; (try (conv => whnf))) | (exact Nat.le_refl 1) | ((apply ex3); (focus (with_reducible assumption)); (focus (with_reducible assumption)); (try (conv => whnf))) | ((apply ex2); (focus (with_reducible assumption)); (try (conv => whnf))) | (refine PureFn.dcq (f := 46) rfl ?_; (try (conv => whnf))) | ((refine ⟨_, _, e1, ?_, ?_⟩); (focus (first | (refine ⟨?_, ?_, ?_, ?_, trivial⟩ <;> first | (exact PLe.refl _) | (exact PLe.nil)) | (exact trivial))); (try (conv => whnf))) | (refine ⟨_, (by (conv => whnf); exact e1), rfl, ?_⟩; (try (conv => whnf))) | fail)
    all_goals first | (simp at h; done) | exact ⟨(), (by refine Wk.of ?_ ?_ rfl rfl rfl <;> (repeat' (first | (exact trivial) | (exact WkD.same _) | (exact WkO.same _ _ rfl) | (exact WkD.any _) | (exact WkD.nil _ (Or.inl rfl)) | (exact WkD.nil _ (Or.inr rfl)) | (exact WkD.fz _ _ _ rfl (Or.inl ⟨_, rfl⟩) rfl) | (exact WkD.fz _ _ _ rfl (Or.inr rfl) rfl) | (refine WkD.int ?_) | (exact WkD.new' rfl rfl rfl) | (exact WkO.new _ _ rfl) | (refine WkO.vars rfl ?_) | (with_reducible rfl) | (exact rfl) | (refine ⟨?_, ?_⟩) | ((refine wrapA ?_ ?_ ?_); (focus (simp; done)); (focus ((try dsimp only); omega)); (focus ((try dsimp only); omega))) | fail)))⟩
  rintro ⟨⟩
  refine ⟨Unit, fun _ => [(0, .pv (.int .i64 ag)), (2, .pv (fpv f)), (4, .ref 0 0), (7, .ref 1 0), (8, .pv (.int .i64 X2.2)), (9, .ref 2 0)], fun _ => 3, fun _ => [(0, .var [.pv (.int .i64 a), .pv (.int .i64 b)]), (1, .var (cellsA X2.1)), (2, .var (cellsA X1.1))], ?_, ?_⟩
  · (try (conv => whnf)); repeat' (first | (apply And.intro <;> (try (conv => whnf))) | (intro h; first | (with_reducible exact tf0 h) | (with_reducible exact ft0 h) | (with_reducible exact nt0 h) | (with_reducible exact nf0 h) | (exact litz h rfl) | (with_reducible exact tf h (by with_reducible assumption)) | (with_reducible exact tf (by with_reducible assumption) h) | (try (conv => whnf))) | (with_reducible rfl) | (apply True.intro) | (apply infoT; rfl) | (apply bleI; rfl) | (apply fitI; rfl) | (apply cellsI; rfl) | (apply szI; rfl) | (apply guardI; kernel_rfl) | (apply WhenQ.mk; (try (conv => whnf)); rotate_left; (try (conv => whnf)); rotate_right) | (with_reducible assumption) | (apply not_of; with_reducible assumption) | (apply left_of; with_reducible assumption) | (apply left_of; apply left_of; with_reducible assumption) | (apply and_of <;> first | (with_reducible assumption) | (apply not_of; with_reducible assumption))| (refine lin_plan (by kernel_rfl) ?_; (try (conv => whnf))) | (refine ⟨_, _, rfl, idx_map (by with_reducible assumption), rfl, ?_⟩; (try (conv => whnf))) | (refine ⟨rfl, ?_⟩; (try (conv => whnf))) | (exact Nat.le_refl 1) | ((apply ex3); (focus (with_reducible assumption)); (focus (with_reducible assumption)); (try (conv => whnf))) | ((apply ex2); (focus (with_reducible assumption)); (try (conv => whnf))) | (refine PureFn.dcq (f := 55) rfl ?_; (try (conv => whnf))) | ((refine ⟨_, _, p2, ?_, ?_⟩); (focus (first | (refine ⟨?_, ?_, ?_, ?_, trivial⟩ <;> first | (exact PLe.refl _) | (exact PLe.nil)) | (exact trivial))); (try (conv => whnf))) | (refine ⟨_, (by (conv => whnf); exact p2), rfl, ?_⟩; (try (conv => whnf))) | fail)
    exact ⟨(), (by refine Wk.of ?_ ?_ rfl rfl rfl <;> (repeat' (first | (exact trivial) | (exact WkD.same _) | (exact WkO.same _ _ rfl) | (exact WkD.any _) | (exact WkD.nil _ (Or.inl rfl)) | (exact WkD.nil _ (Or.inr rfl)) | (exact WkD.fz _ _ _ rfl (Or.inl ⟨_, rfl⟩) rfl) | (exact WkD.fz _ _ _ rfl (Or.inr rfl) rfl) | (refine WkD.int ?_) | (exact WkD.new' rfl rfl rfl) | (exact WkO.new _ _ rfl) | (refine WkO.vars rfl ?_) | (with_reducible rfl) | (exact rfl) | (refine ⟨?_, ?_⟩) | ((refine wrapA ?_ ?_ ?_); (focus (simp; done)); (focus ((try dsimp only); omega)); (focus ((try dsimp only); omega))) | fail)))⟩
  rintro ⟨⟩
  refine ⟨Unit, fun _ => [(0, .pv (.int .i64 ag)), (2, .pv (fpv f)), (4, .ref 0 0), (7, .ref 1 0), (8, .pv (.int .i64 X2.2)), (9, .ref 2 0), (10, .pv (.int .i64 X2.2))], fun _ => 3, fun _ => [(0, .var [.pv (.int .i64 a), .pv (.int .i64 b)]), (1, .var (cellsA X2.1)), (2, .var (cellsA X2.1))], ?_, ?_⟩
  · (try (conv => whnf)); repeat' (first | (apply And.intro <;> (try (conv => whnf))) | (intro h; first | (with_reducible exact tf0 h) | (with_reducible exact ft0 h) | (with_reducible exact nt0 h) | (with_reducible exact nf0 h) | (exact litz h rfl) | (with_reducible exact tf h (by with_reducible assumption)) | (with_reducible exact tf (by with_reducible assumption) h) | (try (conv => whnf))) | (with_reducible rfl) | (apply True.intro) | (apply infoT; rfl) | (apply bleI; rfl) | (apply fitI; rfl) | (apply cellsI; rfl) | (apply szI; rfl) | (apply guardI; kernel_rfl) | (apply WhenQ.mk; (try (conv => whnf)); rotate_left; (try (conv => whnf)); rotate_right) | (with_reducible assumption) | (apply not_of; with_reducible assumption) | (apply left_of; with_reducible assumption) | (apply left_of; apply left_of; with_reducible assumption) | (apply and_of <;> first | (with_reducible assumption) | (apply not_of; with_reducible assumption))| (refine lin_plan (by kernel_rfl) ?_; (try (conv => whnf))) | (refine ⟨_, _, rfl, idx_map (by with_reducible assumption), rfl, ?_⟩; (try (conv => whnf))) | (refine ⟨rfl, ?_⟩; (try (conv => whnf))) | (exact Nat.le_refl 1) | ((apply ex3); (focus (with_reducible assumption)); (focus (with_reducible assumption)); (try (conv => whnf))) | ((apply ex2); (focus (with_reducible assumption)); (try (conv => whnf))) | (refine PureFn.dcq (f := 56) rfl ?_; (try (conv => whnf))) | ((refine ⟨_, _, q2, ?_, ?_⟩); (focus (first | (refine ⟨?_, ?_, ?_, ?_, trivial⟩ <;> first | (exact PLe.refl _) | (exact PLe.nil)) | (exact trivial))); (try (conv => whnf))) | (refine ⟨_, (by (conv => whnf); exact q2), rfl, ?_⟩; (try (conv => whnf))) | fail)
    exact ⟨(), (by refine Wk.of ?_ ?_ rfl rfl rfl <;> (repeat' (first | (exact trivial) | (exact WkD.same _) | (exact WkO.same _ _ rfl) | (exact WkD.any _) | (exact WkD.nil _ (Or.inl rfl)) | (exact WkD.nil _ (Or.inr rfl)) | (exact WkD.fz _ _ _ rfl (Or.inl ⟨_, rfl⟩) rfl) | (exact WkD.fz _ _ _ rfl (Or.inr rfl) rfl) | (refine WkD.int ?_) | (exact WkD.new' rfl rfl rfl) | (exact WkO.new _ _ rfl) | (refine WkO.vars rfl ?_) | (with_reducible rfl) | (exact rfl) | (refine ⟨?_, ?_⟩) | ((refine wrapA ?_ ?_ ?_); (focus (simp; done)); (focus ((try dsimp only); omega)); (focus ((try dsimp only); omega))) | fail)))⟩
  rintro ⟨⟩
  refine ⟨Unit, fun _ => [(0, .pv (.int .i64 ag)), (2, .pv (fpv f)), (4, .ref 0 0), (7, .ref 1 0), (9, .ref 2 0)], fun _ => 3, fun _ => [(0, .var [.pv (.int .i64 a), .pv (.int .i64 b)]), (1, .var (cellsA X2.1)), (2, .var (cellsA X2.1))], ?_, ?_⟩
  · (try (conv => whnf)); repeat' (first | (apply And.intro <;> (try (conv => whnf))) | (intro h; first | (with_reducible exact tf0 h) | (with_reducible exact ft0 h) | (with_reducible exact nt0 h) | (with_reducible exact nf0 h) | (exact litz h rfl) | (with_reducible exact tf h (by with_reducible assumption)) | (with_reducible exact tf (by with_reducible assumption) h) | (try (conv => whnf))) | (with_reducible rfl) | (apply True.intro) | (apply infoT; rfl) | (apply bleI; rfl) | (apply fitI; rfl) | (apply cellsI; rfl) | (apply szI; rfl) | (apply guardI; kernel_rfl) | (apply WhenQ.mk; (try (conv => whnf)); rotate_left; (try (conv => whnf)); rotate_right) | (with_reducible assumption) | (apply not_of; with_reducible assumption) | (apply left_of; with_reducible assumption) | (apply left_of; apply left_of; with_reducible assumption) | (apply and_of <;> first | (with_reducible assumption) | (apply not_of; with_reducible assumption))| (refine lin_plan (by kernel_rfl) ?_; (try (conv => whnf))) | (refine ⟨_, _, rfl, idx_map (by with_reducible assumption), rfl, ?_⟩; (try (conv => whnf))) | (refine ⟨rfl, ?_⟩; (try (conv => whnf))) | (exact Nat.le_refl 1) | ((apply ex3); (focus (with_reducible assumption)); (focus (with_reducible assumption)); (try (conv => whnf))) | ((apply ex2); (focus (with_reducible assumption)); (try (conv => whnf))) | (refine PureFn.dcq (f := 46) rfl ?_; (try (conv => whnf))) | ((refine ⟨_, _, e2, ?_, ?_⟩); (focus (first | (refine ⟨?_, ?_, ?_, ?_, trivial⟩ <;> first | (exact PLe.refl _) | (exact PLe.nil)) | (exact trivial))); (try (conv => whnf))) | (refine ⟨_, (by (conv => whnf); exact e2), rfl, ?_⟩; (try (conv => whnf))) | fail)
    all_goals first | (simp at h; done) | exact ⟨(), (by refine Wk.of ?_ ?_ rfl rfl rfl <;> (repeat' (first | (exact trivial) | (exact WkD.same _) | (exact WkO.same _ _ rfl) | (exact WkD.any _) | (exact WkD.nil _ (Or.inl rfl)) | (exact WkD.nil _ (Or.inr rfl)) | (exact WkD.fz _ _ _ rfl (Or.inl ⟨_, rfl⟩) rfl) | (exact WkD.fz _ _ _ rfl (Or.inr rfl) rfl) | (refine WkD.int ?_) | (exact WkD.new' rfl rfl rfl) | (exact WkO.new _ _ rfl) | (refine WkO.vars rfl ?_) | (with_reducible rfl) | (exact rfl) | (refine ⟨?_, ?_⟩) | ((refine wrapA ?_ ?_ ?_); (focus (simp; done)); (focus ((try dsimp only); omega)); (focus ((try dsimp only); omega))) | fail)))⟩
  rintro ⟨⟩
  refine ⟨Unit, fun _ => [(0, .pv (.int .i64 ag)), (2, .pv (fpv f)), (4, .ref 0 0), (7, .ref 1 0), (8, .pv (.int .i64 X3.2)), (9, .ref 2 0)], fun _ => 3, fun _ => [(0, .var [.pv (.int .i64 a), .pv (.int .i64 b)]), (1, .var (cellsA X3.1)), (2, .var (cellsA X2.1))], ?_, ?_⟩
  · (try (conv => whnf)); repeat' (first | (apply And.intro <;> (try (conv => whnf))) | (intro h; first | (with_reducible exact tf0 h) | (with_reducible exact ft0 h) | (with_reducible exact nt0 h) | (with_reducible exact nf0 h) | (exact litz h rfl) | (with_reducible exact tf h (by with_reducible assumption)) | (with_reducible exact tf (by with_reducible assumption) h) | (try (conv => whnf))) | (with_reducible rfl) | (apply True.intro) | (apply infoT; rfl) | (apply bleI; rfl) | (apply fitI; rfl) | (apply cellsI; rfl) | (apply szI; rfl) | (apply guardI; kernel_rfl) | (apply WhenQ.mk; (try (conv => whnf)); rotate_left; (try (conv => whnf)); rotate_right) | (with_reducible assumption) | (apply not_of; with_reducible assumption) | (apply left_of; with_reducible assumption) | (apply left_of; apply left_of; with_reducible assumption) | (apply and_of <;> first | (with_reducible assumption) | (apply not_of; with_reducible assumption))| (refine lin_plan (by kernel_rfl) ?_; (try (conv => whnf))) | (refine ⟨_, _, rfl, idx_map (by with_reducible assumption), rfl, ?_⟩; (try (conv => whnf))) | (refine ⟨rfl, ?_⟩; (try (conv => whnf))) | (exact Nat.le_refl 1) | ((apply ex3); (focus (with_reducible assumption)); (focus (with_reducible assumption)); (try (conv => whnf))) | ((apply ex2); (focus (with_reducible assumption)); (try (conv => whnf))) | (refine PureFn.dcq (f := 57) rfl ?_; (try (conv => whnf))) | ((refine ⟨_, _, p3, ?_, ?_⟩); (focus (first | (refine ⟨?_, ?_, ?_, trivial⟩ <;> first | (exact PLe.refl _) | (exact PLe.nil)) | (exact trivial))); (try (conv => whnf))) | (refine ⟨_, (by (conv => whnf); exact p3), rfl, ?_⟩; (try (conv => whnf))) | fail)
    exact ⟨(), (by refine Wk.of ?_ ?_ rfl rfl rfl <;> (repeat' (first | (exact trivial) | (exact WkD.same _) | (exact WkO.same _ _ rfl) | (exact WkD.any _) | (exact WkD.nil _ (Or.inl rfl)) | (exact WkD.nil _ (Or.inr rfl)) | (exact WkD.fz _ _ _ rfl (Or.inl ⟨_, rfl⟩) rfl) | (exact WkD.fz _ _ _ rfl (Or.inr rfl) rfl) | (refine WkD.int ?_) | (exact WkD.new' rfl rfl rfl) | (exact WkO.new _ _ rfl) | (refine WkO.vars rfl ?_) | (with_reducible rfl) | (exact rfl) | (refine ⟨?_, ?_⟩) | ((refine wrapA ?_ ?_ ?_); (focus (simp; done)); (focus ((try dsimp only); omega)); (focus ((try dsimp only); omega))) | fail)))⟩
  rintro ⟨⟩
  refine ⟨Unit, fun _ => [(0, .pv (.int .i64 ag)), (2, .pv (fpv f)), (4, .ref 0 0), (7, .ref 1 0), (8, .pv (.int .i64 X3.2)), (9, .ref 2 0), (10, .pv (.int .i64 X3.2))], fun _ => 3, fun _ => [(0, .var [.pv (.int .i64 a), .pv (.int .i64 b)]), (1, .var (cellsA X3.1)), (2, .var (cellsA X3.1))], ?_, ?_⟩
  · (try (conv => whnf)); repeat' (first | (apply And.intro <;> (try (conv => whnf))) | (intro h; first | (with_reducible exact tf0 h) | (with_reducible exact ft0 h) | (with_reducible exact nt0 h) | (with_reducible exact nf0 h) | (exact litz h rfl) | (with_reducible exact tf h (by with_reducible assumption)) | (with_reducible exact tf (by with_reducible assumption) h) | (try (conv => whnf))) | (with_reducible rfl) | (apply True.intro) | (apply infoT; rfl) | (apply bleI; rfl) | (apply fitI; rfl) | (apply cellsI; rfl) | (apply szI; rfl) | (apply guardI; kernel_rfl) | (apply WhenQ.mk; (try (conv => whnf)); rotate_left; (try (conv => whnf)); rotate_right) | (with_reducible assumption) | (apply not_of; with_reducible assumption) | (apply left_of; with_reducible assumption) | (apply left_of; apply left_of; with_reducible assumption) | (apply and_of <;> first | (with_reducible assumption) | (apply not_of; with_reducible assumption))| (refine lin_plan (by kernel_rfl) ?_; (try (conv => whnf))) | (refine ⟨_, _, rfl, idx_map (by with_reducible assumption), rfl, ?_⟩; (try (conv => whnf))) | (refine ⟨rfl, ?_⟩; (try (conv => whnf))) | (exact Nat.le_refl 1) | ((apply ex3); (focus (with_reducible assumption)); (focus (with_reducible assumption)); (try (conv => whnf))) | ((apply ex2); (focus (with_reducible assumption)); (try (conv => whnf))) | (refine PureFn.dcq (f := 58) rfl ?_; (try (conv => whnf))) | ((refine ⟨_, _, q3, ?_, ?_⟩); (focus (first | (refine ⟨?_, ?_, ?_, trivial⟩ <;> first | (exact PLe.refl _) | (exact PLe.nil)) | (exact trivial))); (try (conv => whnf))) | (refine ⟨_, (by (conv => whnf); exact q3), rfl, ?_⟩; (try (conv => whnf))) | fail)
    exact ⟨(), (by refine Wk.of ?_ ?_ rfl rfl rfl <;> (repeat' (first | (exact trivial) | (exact WkD.same _) | (exact WkO.same _ _ rfl) | (exact WkD.any _) | (exact WkD.nil _ (Or.inl rfl)) | (exact WkD.nil _ (Or.inr rfl)) | (exact WkD.fz _ _ _ rfl (Or.inl ⟨_, rfl⟩) rfl) | (exact WkD.fz _ _ _ rfl (Or.inr rfl) rfl) | (refine WkD.int ?_) | (exact WkD.new' rfl rfl rfl) | (exact WkO.new _ _ rfl) | (refine WkO.vars rfl ?_) | (with_reducible rfl) | (exact rfl) | (refine ⟨?_, ?_⟩) | ((refine wrapA ?_ ?_ ?_); (focus (simp; done)); (focus ((try dsimp only); omega)); (focus ((try dsimp only); omega))) | fail)))⟩
  rintro ⟨⟩
  (try (conv => whnf)); repeat' (first | (apply And.intro <;> (try (conv => whnf))) | (intro h; first | (with_reducible exact tf0 h) | (with_reducible exact ft0 h) | (with_reducible exact nt0 h) | (with_reducible exact nf0 h) | (exact litz h rfl) | (with_reducible exact tf h (by with_reducible assumption)) | (with_reducible exact tf (by with_reducible assumption) h) | (try (conv => whnf))) | (with_reducible rfl) | (apply True.intro) | (apply infoT; rfl) | (apply bleI; rfl) | (apply fitI; rfl) | (apply cellsI; rfl) | (apply szI; rfl) | (apply guardI; kernel_rfl) | (apply WhenQ.mk; (try (conv => whnf)); rotate_left; (try (conv => whnf)); rotate_right) | (with_reducible assumption) | (apply not_of; with_reducible assumption) | (apply left_of; with_reducible assumption) | (apply left_of; apply left_of; with_reducible assumption) | (apply and_of <;> first | (with_reducible assumption) | (apply not_of; with_reducible assumption))| (refine lin_plan (by kernel_rfl) ?_; (try (conv => whnf))) | (refine ⟨_, _, rfl, idx_map (by with_reducible assumption), rfl, ?_⟩; (try (conv => whnf))) | (refine ⟨rfl, ?_⟩; (try (conv => whnf))) | (exact Nat.le_refl 1) | ((apply ex3); (focus (with_reducible assumption)); (focus (with_reducible assumption)); (try (conv => whnf))) | ((apply ex2); (focus (with_reducible assumption)); (try (conv => whnf))) | (refine PureFn.dcq (f := 46) rfl ?_; (try (conv => whnf))) | (refine PureFn.dcq (f := 43) rfl ?_; (try (conv => whnf))) | ((refine ⟨_, _, e3, ?_, ?_⟩); (focus (first | (refine ⟨?_, ?_, ?_, ?_, trivial⟩ <;> first | (exact PLe.refl _) | (exact PLe.nil)) | (exact trivial))); (try (conv => whnf))) | (refine ⟨_, (by (conv => whnf); exact e3), rfl, ?_⟩; (try (conv => whnf))) | ((refine ⟨_, _, ml_awake, ?_, ?_⟩); (focus (first | (refine ⟨trivial⟩ <;> first | (exact PLe.refl _) | (exact PLe.nil)) | (exact trivial))); (try (conv => whnf))) | (refine ⟨_, (by (conv => whnf); exact ml_awake), rfl, ?_⟩; (try (conv => whnf))) | fail)
  exact le_bool (by simp)
end Go.Proofs.Ytibenjpkinhjhaa
namespace Go.Dv
open Go.RowKit (Below Below.trod)
open Go.ChangeShapes

def NoT : Nat → Prop := fun _ => False
def mkE (P : Program) (e : TypeId) (cs : List PV) : PV := match kindT P e with
  | some true => .agg cs
  | _ => (match cs with | [p] => p | _ => .agg cs)
/-- The fields lie without gaps. -/
def gapless (P : Program) : List Field → Nat → Nat → Bool
  | [], off, n => Nat.beq off n
  | f :: r, off, n => Nat.beq f.offset off && gapless P r (off + P.cellsOf f.type) n
/-- Is the type made of bools, integers, strings, slices and structs alone? -/
def plainT (P : Program) : Nat → TypeId → Bool
  | 0, _ => false
  | n + 1, t => match P.underlying t with
    | some .bool => true
    | some (.int _) => true
    | some .string => true
    | some (.slice e) => plainT P n e && !Nat.beq (P.cellsOf e) 0
    | some (.struct fs) => gapless P fs.toList 0 (P.cellsOf t) && fs.toList.all fun f => plainT P n f.type
    | some (.array m e) => Nat.beq (m * P.cellsOf e) (P.cellsOf t) && plainT P n e
    | _ => false
def TyAs (F : TypeId → List PV → Prop) (e : TypeId) : Nat → List PV → Prop
  | 0, ps => ps = []
  | m + 1, ps => ∃ a b, ps = a ++ b ∧ F e a ∧ TyAs F e m b
def TyFs (F : TypeId → List PV → Prop) : List Field → List PV → Prop
  | [], ps => ps = []
  | f :: r, ps => ∃ a b, ps = a ++ b ∧ F f.type a ∧ TyFs F r b
/-- The cells of a value of a type. -/
def TyC (P : Program) : Nat → TypeId → List PV → Prop
  | 0, _, _ => False
  | n + 1, t, ps => match P.underlying t with
    | some .bool => ∃ b, ps = [.bool b]
    | some (.int k) => ∃ m, ps = [.int k m] ∧ (Lit.int k m).wf = true
    | some .string => ∃ s, ps = [.str s]
    | some (.slice e) => ps = [.nil] ∨ ∃ l, ps = [.sl l] ∧ ∀ p, p ∈ l → ∃ cs, TyC P n e cs ∧ p = mkE P e cs
    | some (.struct fs) => TyFs (TyC P n) fs.toList ps
    | some (.array m e) => TyAs (TyC P n) e m ps
    | _ => False

theorem mkE_cells {P : Program} {n : Nat} {e : TypeId} {cs : List PV} (h : TyC P n e cs) : (mkE P e cs).cells = cs := by
  cases n with
  | zero => exact h.elim
  | succ n =>
    simp only [TyC] at h
    unfold mkE kindT
    split at h
    · rename_i hu; obtain ⟨b, rfl⟩ := h; simp [hu, PV.cells]
    · rename_i k hu; obtain ⟨m, rfl, _⟩ := h; simp [hu, PV.cells]
    · rename_i hu; obtain ⟨s, rfl⟩ := h; simp [hu, PV.cells]
    · rename_i e' hu; rcases h with rfl | ⟨l, rfl, _⟩ <;> simp [hu, PV.cells]
    · rename_i fs hu; simp [hu, PV.cells]
    · rename_i m e' hu; simp [hu, PV.cells]
    · exact h.elim

theorem relPs_nil (w : World) : RelPs NoT w [] [] := ⟨rfl, fun i p v h => by simp at h⟩
theorem relPs_one {w : World} {p : PV} {v : Value} (h : RelP NoT w p v) : RelPs NoT w [p] [v] := ⟨rfl, fun i q u hq hu => by
  cases i with
  | zero => simp at hq hu; subst hq; subst hu; exact h
  | succ i => simp at hq⟩
theorem relPs_append {w : World} {ps qs : List PV} {vs us : List Value} (h1 : RelPs NoT w ps vs) (h2 : RelPs NoT w qs us) : RelPs NoT w (ps ++ qs) (vs ++ us) := by
  refine ⟨by simp [h1.1, h2.1], fun i p v hp hv => ?_⟩
  rcases Nat.lt_or_ge i ps.length with hl | hl
  · rw [List.getElem?_append_left hl] at hp
    rw [List.getElem?_append_left (by rw [← h1.1]; exact hl)] at hv
    exact h1.2 i p v hp hv
  · rw [List.getElem?_append_right hl] at hp
    rw [List.getElem?_append_right (by rw [← h1.1]; exact hl), ← h1.1] at hv
    exact h2.2 _ p v hp hv

section
variable {H : Type} {enc : TypeId × Value → H} {P : Program} {w : World}

theorem fields_rel {F : TypeId → List PV → Prop} {cs : List Value} : ∀ (l : List Field) (off : Nat), (∀ f, f ∈ l → ∃ ps, F f.type ps ∧ RelPs NoT w ps ((cs.drop f.offset).take (P.cellsOf f.type))) → gapless P l off cs.length = true →
    ∃ ps, TyFs F l ps ∧ RelPs NoT w ps (cs.drop off)
  | [], off, _, hg => by
    simp only [gapless] at hg
    have : off = cs.length := Nat.eq_of_beq_eq_true hg
    exact ⟨[], rfl, by rw [this, List.drop_length]; exact relPs_nil w⟩
  | f :: r, off, hf, hg => by
    simp only [gapless, Bool.and_eq_true] at hg
    have ho : f.offset = off := Nat.eq_of_beq_eq_true hg.1
    obtain ⟨a, ha1, ha2⟩ := hf f (by simp)
    obtain ⟨b, hb1, hb2⟩ := fields_rel r (off + P.cellsOf f.type) (fun g hg' => hf g (by simp [hg'])) hg.2
    refine ⟨a ++ b, ⟨a, b, rfl, ha1, hb1⟩, ?_⟩
    have e : cs.drop off = (cs.drop off).take (P.cellsOf f.type) ++ cs.drop (off + P.cellsOf f.type) := by
      rw [← List.drop_drop, List.take_append_drop]
    rw [e]
    rw [ho] at ha2
    exact relPs_append ha2 hb2

theorem elems_rel {F : TypeId → List PV → Prop} {cs : List Value} {e : TypeId} : ∀ (m off : Nat), (∀ i, i < m → ∃ ps, F e ps ∧ RelPs NoT w ps ((cs.drop (off + i * P.cellsOf e)).take (P.cellsOf e))) → cs.length = off + m * P.cellsOf e →
    ∃ ps, TyAs F e m ps ∧ RelPs NoT w ps (cs.drop off)
  | 0, off, _, hg => ⟨[], rfl, by rw [show off = cs.length by omega, List.drop_length]; exact relPs_nil w⟩
  | m + 1, off, hf, hg => by
    obtain ⟨a, ha1, ha2⟩ := hf 0 (by omega)
    rw [Nat.zero_mul, Nat.add_zero] at ha2
    obtain ⟨b, hb1, hb2⟩ := elems_rel m (off + P.cellsOf e) (fun i hi => by
      have := hf (i + 1) (by omega)
      rwa [show off + (i + 1) * P.cellsOf e = off + P.cellsOf e + i * P.cellsOf e by rw [Nat.add_mul]; omega] at this) (by rw [hg, Nat.add_mul]; omega)
    refine ⟨a ++ b, ⟨a, b, rfl, ha1, hb1⟩, ?_⟩
    have e' : cs.drop off = (cs.drop off).take (P.cellsOf e) ++ cs.drop (off + P.cellsOf e) := by
      rw [← List.drop_drop, List.take_append_drop]
    rw [e']
    exact relPs_append ha2 hb2

theorem trod_rel : ∀ (n : Nat) (t : TypeId) (fuel : Nat) (cs : List Value) (x : DataW H × List MemPlace), plainT P n t = true → DataW.trod enc P w 0 (fun _ => true) true fuel t cs = some x → ∃ ps, TyC P n t ps ∧ RelPs NoT w ps cs
  | 0, t, fuel, cs, x, hp, _ => by simp [plainT] at hp
  | n + 1, t, fuel, cs, x, hp, h => by
    simp only [plainT] at hp
    simp only [TyC]
    split at hp
    · rename_i hu
      obtain ⟨b, rfl, _⟩ := DataW.trod_bool hu h
      exact ⟨[.bool b], ⟨b, rfl⟩, relPs_one (.bool b)⟩
    · rename_i k hu
      obtain ⟨m, rfl, _, hm⟩ := DataW.trod_int hu h
      exact ⟨[.int k m], ⟨m, rfl, hm⟩, relPs_one (.int k m)⟩
    · rename_i hu
      obtain ⟨s, rfl, _⟩ := DataW.trod_string hu h
      exact ⟨[.str s], ⟨s, rfl⟩, relPs_one (.str s)⟩
    · rename_i e hu
      simp only [Bool.and_eq_true, Bool.not_eq_true'] at hp
      have hpos : 0 < P.cellsOf e := by
        rcases Nat.eq_zero_or_pos (P.cellsOf e) with h0 | h0
        · rw [h0] at hp; simp at hp
        · exact h0
      rcases DataW.trod_slice hu h with ⟨rfl, _⟩ | ⟨a, len, cap, elems, rest, m, _, rfl, _, _, hle, _, hlen, hel, _, _⟩
      · exact ⟨[.nil], .inl rfl, relPs_one .nil⟩
      · -- each element
        have each : ∀ i, i < len → ∃ ps, TyC P n e ps ∧ ∃ us, w.cells? 0 (a.add (i * P.cellsOf e)) (P.cellsOf e) = some us ∧ RelPs NoT w ps us := by
          intro i hi
          have h1 := hel i hi
          rw [List.getElem?_eq_getElem (by omega)] at h1
          obtain ⟨us, h2, h3⟩ := Option.bind_eq_some_iff.1 h1
          obtain ⟨ps, h4, h5⟩ := trod_rel n e m us _ hp.1 h3
          exact ⟨ps, h4, us, h2, h5⟩
        cases len with
        | zero => exact ⟨[.sl []], .inr ⟨[], rfl, fun p hp => by simp at hp⟩, relPs_one (.e0 (some a) cap)⟩
        | succ len =>
          have hspot : a = ⟨a.block, a.off, none⟩ ∧ a.block < w.heap.size := by
            obtain ⟨ps, _, us, h2, _⟩ := each 0 (by omega)
            obtain ⟨_, hl, hc⟩ := World.cells?_some h2
            have := hc 0 hpos
            rw [Nat.zero_mul] at this
            have e0 : (a.add 0).add 0 = a := by simp [Addr.add]
            rw [e0, List.getElem?_eq_getElem (by omega)] at this
            unfold World.cell? at this
            split at this
            · rename_i c _ _ hb
              have hb' := (Array.getElem?_eq_some_iff.1 hb).1
              refine ⟨?_, hb'⟩
              cases hs : a.spot with
              | none => cases a; simp at hs; subst hs; rfl
              | some s => rw [hs] at this; simp at this
            · cases this
          obtain ⟨ha, hb⟩ := hspot
          have hch : ∃ f : Nat → List PV, ∀ i, i < len + 1 → TyC P n e (f i) ∧ ∃ us, w.cells? 0 (a.add (i * P.cellsOf e)) (P.cellsOf e) = some us ∧ RelPs NoT w (f i) us := by
            refine ⟨fun i => if hi : i < len + 1 then Classical.choose (each i hi) else [], fun i hi => ?_⟩
            simp only [dif_pos hi]
            exact Classical.choose_spec (each i hi)
          obtain ⟨f, hf⟩ := hch
          refine ⟨[.sl ((List.range (len + 1)).map fun i => mkE P e (f i))], .inr ⟨_, rfl, fun p hp => ?_⟩, relPs_one ?_⟩
          · obtain ⟨i, hi, rfl⟩ := List.mem_map.1 hp
            exact ⟨f i, (hf i (by simpa using hi)).1, rfl⟩
          · have hll : ((List.range (len + 1)).map fun i => mkE P e (f i)).length = len + 1 := by simp
            have hcell : ∀ i, i < len + 1 → ∃ us : List Value, us.length = P.cellsOf e ∧ (f i).length = P.cellsOf e ∧ (∀ j, j < P.cellsOf e → w.cell? ⟨a.block, a.off + i * P.cellsOf e + j, none⟩ = us[j]?) ∧ RelPs NoT w (f i) us := by
              intro i hi
              obtain ⟨_, us, h2, h3⟩ := hf i hi
              obtain ⟨_, hl, hc⟩ := World.cells?_some h2
              refine ⟨us, hl, by rw [h3.1, hl], fun j hj => ?_, h3⟩
              rw [← hc j hj]
              congr 1
              rw [ha]
              simp only [Addr.add]
              by_cases e1 : i * P.cellsOf e = 0 <;> by_cases e2 : j = 0 <;> simp [e1, e2, Nat.add_assoc]
            have hget : ∀ (i : Nat) p, ((List.range (len + 1)).map fun i => mkE P e (f i))[i]? = some p → i < len + 1 ∧ p.cells = f i := by
              intro i p hp
              have hi : i < len + 1 := by have := (List.getElem?_eq_some_iff.1 hp).1; simpa using this
              rw [List.getElem?_map, List.getElem?_range hi] at hp
              simp at hp; subst hp
              exact ⟨hi, mkE_cells (hf i hi).1⟩
            have key := RelP.sl (T := NoT) (w := w) a.block a.off (P.cellsOf e) cap ((List.range (len + 1)).map fun i => mkE P e (f i)) (fun i j => (w.cell? ⟨a.block, a.off + i * P.cellsOf e + j, none⟩).getD undef) (fun h => h) hb (by rw [hll]; exact hle)
              (fun p hp => by
                obtain ⟨i, hi⟩ := List.mem_iff_getElem?.1 hp
                obtain ⟨h1, h2⟩ := hget i p hi
                obtain ⟨us, _, g2, _⟩ := hcell i h1
                rw [h2, g2])
              (fun i p j q hp hq => by
                obtain ⟨h1, h2⟩ := hget i p hp
                obtain ⟨us, g1, g2, g3, g4⟩ := hcell i h1
                rw [h2] at hq
                have hj : j < P.cellsOf e := by have := (List.getElem?_eq_some_iff.1 hq).1; omega
                rw [g3 j hj, List.getElem?_eq_getElem (by omega)]; rfl)
              (fun i p j q hp hq => by
                obtain ⟨h1, h2⟩ := hget i p hp
                obtain ⟨us, g1, g2, g3, g4⟩ := hcell i h1
                rw [h2] at hq
                have hj : j < P.cellsOf e := by have := (List.getElem?_eq_some_iff.1 hq).1; omega
                rw [g3 j hj, List.getElem?_eq_getElem (by omega)]
                exact g4.2 j q _ hq (List.getElem?_eq_getElem (by omega)))
            rw [hll, ← ha] at key
            exact key
    · rename_i fs hu
      simp only [Bool.and_eq_true, List.all_eq_true] at hp
      obtain ⟨xs, m, _, _, hl, hxl, hx⟩ := DataW.trod_struct hu h
      obtain ⟨ps, h1, h2⟩ := fields_rel (P := P) (w := w) (F := TyC P n) (cs := cs) fs.toList 0 (fun f hf => by
        obtain ⟨i, hi⟩ := List.mem_iff_getElem?.1 hf
        have hi' : fs[i]? = some f := by simpa using hi
        have := hx i f hi'
        have hlt : i < xs.length := by rw [hxl]; exact (Array.getElem?_eq_some_iff.1 hi').1
        rw [List.getElem?_eq_getElem hlt] at this
        exact trod_rel n f.type m _ _ (hp.2 f hf) this) (by rw [hl]; exact hp.1)
      exact ⟨ps, h1, by simpa using h2⟩
    · rename_i m e hu
      simp only [Bool.and_eq_true] at hp
      have hsz : m * P.cellsOf e = P.cellsOf t := Nat.eq_of_beq_eq_true hp.1
      obtain ⟨xs, k, _, _, hl, hxl, hx⟩ := DataW.trod_array hu h
      obtain ⟨ps, h1, h2⟩ := elems_rel (P := P) (w := w) (F := TyC P n) (cs := cs) (e := e) m 0 (fun i hi => by
        have := hx i hi
        rw [List.getElem?_eq_getElem (by omega)] at this
        rw [Nat.zero_add]
        exact trod_rel n e k _ _ hp.2 this) (by rw [hl, ← hsz, Nat.zero_add])
      exact ⟨ps, h1, by simpa using h2⟩
    · cases hp

theorem shut_bool' {w' : World} {base : Nat} {spare : Nat → Bool} {held : Bool} {t : TypeId} (ht : P.underlying t = some .bool) : DataW.Trod enc P w' base spare held t (.bool true) (.lit (.bool true)) [] :=
  ⟨1, by simp [DataW.trod, Value.cells, ht]⟩
/-- A parameter's pure value. -/
def TyA (P : Program) (n : Nat) (t : TypeId) (p : PV) : Prop := ∃ cs, TyC P n t cs ∧ p = mkE P t cs
def TyAll (P : Program) (n : Nat) : List TypeId → List PV → Prop
  | [], ps => ps = []
  | t :: ts, ps => ∃ p r, ps = p :: r ∧ TyA P n t p ∧ TyAll P n ts r

theorem arg_rel {n : Nat} {t : TypeId} {v : Value} {d : DataW H} {q : List MemPlace} {r : Reach} {b : Nat} (hp : plainT P n t = true) (hval : Value.okWide P w r b t v) (h : DataW.Trod enc P w 0 (fun _ => true) true t v d q) :
    ∃ p, TyA P n t p ∧ RelP NoT w p v := by
  obtain ⟨fuel, h⟩ := h
  obtain ⟨ps, h1, h2⟩ := trod_rel n t fuel _ _ hp h
  refine ⟨mkE P t ps, ⟨ps, h1, rfl⟩, ?_⟩
  cases n with
  | zero => exact h1.elim
  | succ n =>
    have h1' := h1
    simp only [TyC] at h1
    have single : ∀ p, ps = [p] → (∀ xs, v = .agg xs → False) → RelP NoT w p v := by
      intro p hps ho
      subst hps
      have hc : v.cells.toList = [v] := by cases v with
        | agg xs => exact (ho xs rfl).elim
        | _ => rfl
      rw [hc] at h2
      exact h2.2 0 p v rfl rfl
    unfold mkE kindT
    split at h1
    · rename_i hu
      obtain ⟨b, rfl⟩ := h1
      simp only [hu]
      exact single _ rfl fun xs e => by subst e; simp [Value.okWide, hu, Cell.okWide, Cell.ok] at hval
    · rename_i k hu
      obtain ⟨m, rfl, _⟩ := h1
      simp only [hu]
      exact single _ rfl fun xs e => by subst e; simp [Value.okWide, hu, Cell.okWide, Cell.ok] at hval
    · rename_i hu
      obtain ⟨s, rfl⟩ := h1
      simp only [hu]
      exact single _ rfl fun xs e => by subst e; simp [Value.okWide, hu, Cell.okWide, Cell.ok] at hval
    · rename_i e hu
      have ho : ∀ xs, v = .agg xs → False := fun xs e => by subst e; simp [Value.okWide, hu, Cell.okWide, Cell.ok] at hval
      rcases h1 with rfl | ⟨l, rfl, _⟩
      · simp only [hu]; exact single _ rfl ho
      · simp only [hu]; exact single _ rfl ho
    · rename_i fs hu
      simp only [hu]
      simp only [Value.okWide, hu] at hval
      obtain ⟨cs, rfl, _⟩ := hval
      exact .agg ps cs.toList h2.1 fun i p v hp hv => h2.2 i p v hp hv
    · rename_i m e hu
      simp only [hu]
      simp only [Value.okWide, hu] at hval
      obtain ⟨cs, rfl, _⟩ := hval
      exact .agg ps cs.toList h2.1 fun i p v hp hv => h2.2 i p v hp hv
    · exact h1.elim

theorem args_rel {n : Nat} {r : Reach} {b : Nat} : ∀ (ts : List TypeId) (vs : List Value) (ds : List (DataW H)) (q : List MemPlace), (ts.all fun t => plainT P n t) = true → (∀ (j : Nat) t v, ts[j]? = some t → vs[j]? = some v → Value.okWide P w r b t v) →
    DataW.TrodAll enc P w 0 (fun _ => true) true ts vs ds q → ∃ ps, TyAll P n ts ps ∧ RelPs NoT w ps vs
  | [], vs, ds, q, _, _, h => by
    cases vs with
    | nil => exact ⟨[], rfl, relPs_nil w⟩
    | cons v vs => cases ds <;> exact h.elim
  | t :: ts, vs, ds, q, hp, hval, h => by
    cases vs with
    | nil => cases ds <;> exact h.elim
    | cons v vs =>
      cases ds with
      | nil => exact h.elim
      | cons d ds =>
        obtain ⟨a, c, h1, h2, _⟩ := h
        simp only [List.all_cons, Bool.and_eq_true] at hp
        obtain ⟨p, g1, g2⟩ := arg_rel hp.1 (hval 0 t v rfl rfl) h1
        obtain ⟨ps, g3, g4⟩ := args_rel ts vs ds c hp.2 (fun j t v ht hv => hval (j + 1) t v (by simpa using ht) (by simpa using hv)) h2
        exact ⟨p :: ps, ⟨p, ps, rfl, g1, g3⟩, relPs_append (relPs_one g2) g4⟩

theorem trods_stay {w' : World} (hl : laidOutB P = true) (hb : Below w.heap.size w w') : ∀ (ts : List TypeId) (vs : List Value) (ds : List (DataW H)) (q : List MemPlace), (ts.all fun t => P.readableRec t && decide (t < P.types.size)) = true → (∀ x ∈ q, x.block < w.heap.size) →
    DataW.TrodAll enc P w 0 (fun _ => true) true ts vs ds q → DataW.TrodAll enc P w' 0 (fun b => decide (b < w.heap.size)) true ts vs ds q
  | [], vs, ds, q, _, _, h => by
    cases vs <;> cases ds <;> exact h
  | t :: ts, vs, ds, q, hr, hlt, h => by
    cases vs with
    | nil => cases ds <;> exact h.elim
    | cons v vs =>
      cases ds with
      | nil => exact h.elim
      | cons d ds =>
        obtain ⟨a, c, h1, h2, rfl⟩ := h
        simp only [List.all_cons, Bool.and_eq_true, decide_eq_true_eq] at hr
        exact ⟨a, c, Below.trod hl hr.1.1 hr.1.2 h1 hb (fun x hx => hlt x (List.mem_append_left _ hx)), trods_stay hl hb ts vs ds c hr.2 (fun x hx => hlt x (List.mem_append_right _ hx)) h2, rfl⟩

/-- What a law's row asks of each call. -/
theorem law_calls {n : Nat} {f : FuncId} {fn : Func} {s : ChangeSpec} {tb : TypeId} {apart : Bool} {W : World} {base : Nat} {args : Array Value} {ds gs : List (DataW H)} {before : List MemPlace} (hl : laidOutB P = true)
    (hr : (fn.params.toList.all fun t => P.readableRec t && decide (t < P.types.size)) = true) (hp : (fn.params.toList.all fun t => plainT P n t) = true) (hres : fn.resultTypes = #[tb]) (hb : P.underlying tb = some .bool) (hvs : s.vars = [])
    (hs : ∀ ds : List (DataW H), ds.length = fn.params.toList.length → s.fn H ds = { results := [.lit (.bool true)], args := ds })
    (hval : ∀ (j : Nat) t v, fn.params[j]? = some t → args[j]? = some v → Value.okWide P W .any base t v) (hW : DataW.Whole enc P fn.params.toList s.vars apart W args.toList ds gs before)
    (hpure : ∀ ps, TyAll P n fn.params.toList ps → PureFn P f ps (.bool true)) :
    Calls P f args W fun e W' => ∃ v, e = .returned v ∧ s.post enc P fn apart true false false W args v W' := by
  have hW' := hW
  obtain ⟨p, q, hA, hV, rfl, hfz, hnd⟩ := hW
  rw [hvs] at hV
  obtain ⟨rfl, rfl⟩ : gs = [] ∧ q = [] := by cases gs with
    | nil => exact ⟨rfl, hV⟩
    | cons g gs => exact hV.elim
  obtain ⟨ps, h1, h2⟩ := args_rel (n := n) (r := .any) (b := base) fn.params.toList args.toList ds p hp (fun j t v ht hv => hval j t v (by simpa using ht) (by simpa using hv)) hA
  refine ((hpure ps h1).elim.2 NoT W args.toList (fun b hb => hb.elim) h2).mono ?_
  rintro e W' ⟨v, rfl, hv, hB⟩
  obtain rfl : v = .bool true := by cases hv; rfl
  have hlen : ds.length = fn.params.toList.length := by
    have : ∀ (ts : List TypeId) (vs : List Value) (ds : List (DataW H)) (q : List MemPlace), DataW.TrodAll enc P W 0 (fun _ => true) true ts vs ds q → ds.length = ts.length := by
      intro ts
      induction ts with
      | nil => intro vs ds q h; cases vs <;> cases ds <;> first | rfl | exact h.elim
      | cons t ts ih =>
        intro vs ds q h
        cases vs with
        | nil => cases ds <;> exact h.elim
        | cons v vs =>
          cases ds with
          | nil => exact h.elim
          | cons d ds => obtain ⟨a, c, _, h2, _⟩ := h; simp [ih vs ds c h2]
    exact this _ _ _ _ hA
  have hlt : ∀ x ∈ p, x.block < W.heap.size := fun x hx => hW'.lt x (by simpa using hx)
  have e1 : s.fn H (ds ++ []) = { results := [.lit (.bool true)], args := ds } := by rw [List.append_nil]; exact hs ds hlen
  refine ⟨_, rfl, ds, [], _, [], p, [], hW', ?_, ?_, ?_, hB.frame _, fun h => by cases h⟩
  · rw [e1, hres]
    exact trodAll_mk1 (shut_bool' hb)
  · rw [e1]
    exact trods_stay hl hB fn.params.toList args.toList ds p hr hlt hA
  · rw [e1, hvs]
    exact rfl
end
end Go.Dv
set_option maxRecDepth 100000
set_option maxHeartbeats 4000000
namespace Go.Proofs.Ytibenjpkinhjhaa
open Go Go.Dv

theorem bb (b : Bool) : (b == b) = true := by cases b <;> rfl
end Go.Proofs.Ytibenjpkinhjhaa
set_option maxRecDepth 100000
set_option maxHeartbeats 4000000
namespace Go.Proofs.Ytibenjpkinhjhaa
open Go Go.Dv

theorem Try.own : ownKnob Try.prog.godebug = none := by kernel_rfl
theorem Try.laidOut : laidOutB Try.prog = true := by kernel_rfl
theorem u_int : Try.prog.underlying 3 = some (.int .i64) := by kernel_rfl
theorem u_nodes : Try.prog.underlying 39 = some (.slice 92) := by kernel_rfl

theorem int_of {n : Nat} {cs : List PV} (h : TyC Try.prog (n + 1) 3 cs) : ∃ i : Int, cs = [.int .i64 i] ∧ (Lit.int .i64 i).wf = true := by
  simp only [TyC, u_int] at h
  obtain ⟨m, rfl, hm⟩ := h
  exact ⟨m, rfl, hm⟩
theorem arg_int {n : Nat} {p : PV} (h : TyA Try.prog (n + 1) 3 p) : ∃ i : Int, p = .int .i64 i ∧ (Lit.int .i64 i).wf = true := by
  obtain ⟨cs, h1, rfl⟩ := h
  obtain ⟨i, rfl, hi⟩ := int_of h1
  exact ⟨i, by simp only [mkE, kindT, u_int], hi⟩
theorem u_node : ∃ fs : Array Field, Try.prog.underlying 92 = some (.struct fs) ∧ fs.toList.map (·.type) = [3, 3, 3, 3, 3, 3] := ⟨_, rfl, by kernel_rfl⟩
theorem nd_of {n : Nat} {cs : List PV} (h : TyC Try.prog (n + 2) 92 cs) : ∃ x : Nd, mkE Try.prog 92 cs = x.pv := by
  obtain ⟨fs, hu, hf⟩ := u_node
  simp only [TyC, hu] at h
  have key : ∀ (l : List Field) (k : Nat) (ps : List PV), l.map (·.type) = List.replicate k 3 → TyFs (TyC Try.prog (n + 1)) l ps → ∃ is : List Int, is.length = k ∧ ps = is.map (PV.int .i64) := by
    intro l
    induction l with
    | nil => intro k ps hk hp; simp only [TyFs] at hp; subst hp; cases k with
      | zero => exact ⟨[], rfl, rfl⟩
      | succ k => simp [List.replicate] at hk
    | cons f r ih =>
      intro k ps hk hp
      cases k with
      | zero => simp at hk
      | succ k =>
        simp only [List.map_cons, List.replicate_succ, List.cons.injEq] at hk
        obtain ⟨a, b, rfl, h1, h2⟩ := hp
        rw [hk.1] at h1
        obtain ⟨i, rfl, _⟩ := int_of h1
        obtain ⟨is, h3, rfl⟩ := ih k b hk.2 h2
        exact ⟨i :: is, by simp [h3], rfl⟩
  obtain ⟨is, h1, rfl⟩ := key fs.toList 6 cs hf h
  match is, h1 with
  | [a, b, c, d, e, f], _ => exact ⟨⟨a, b, c, d, e, f⟩, by simp only [mkE, kindT, hu]; rfl⟩
theorem arg_nodes {n : Nat} {p : PV} (h : TyA Try.prog (n + 3) 39 p) : ∃ f : List Nd, PLe p (fpv f) := by
  obtain ⟨cs, h1, rfl⟩ := h
  simp only [TyC, u_nodes] at h1
  rcases h1 with rfl | ⟨l, rfl, hl⟩
  · exact ⟨[], by simp only [mkE, kindT, u_nodes]; exact .nil⟩
  · have : ∃ f : List Nd, l = f.map Nd.pv := by
      induction l with
      | nil => exact ⟨[], rfl⟩
      | cons p r ih =>
        obtain ⟨cs, g1, g2⟩ := hl p (by simp)
        obtain ⟨x, hx⟩ := nd_of g1
        obtain ⟨f, rfl⟩ := ih fun q hq => hl q (by simp [hq])
        exact ⟨x :: f, by rw [g2, hx]; rfl⟩
    obtain ⟨f, rfl⟩ := this
    exact ⟨f, by simp only [mkE, kindT, u_nodes]; exact .refl _⟩
end Go.Proofs.Ytibenjpkinhjhaa
set_option maxRecDepth 100000
set_option maxHeartbeats 4000000
namespace Go.Proofs.Ytibenjpkinhjhaa
open Go Go.Dv

theorem u_u64 : Try.prog.underlying 34 = some (.int .u64) := by kernel_rfl
theorem u_arrI : Try.prog.underlying 60 = some (.array 2 3) := by kernel_rfl
theorem u64_of {n : Nat} {cs : List PV} (h : TyC Try.prog (n + 1) 34 cs) : ∃ s : Nat, cs = [u64 s] ∧ s < 2 ^ 64 := by
  simp only [TyC, u_u64] at h
  obtain ⟨m, rfl, hm⟩ := h
  simp [Lit.wf, IntKind.min, IntKind.max, IntKind.signed, IntKind.bits] at hm
  refine ⟨m.toNat, ?_, by omega⟩
  rw [u64, show ((m.toNat : Nat) : Int) = m by omega]
theorem arg_u64 {n : Nat} {p : PV} (h : TyA Try.prog (n + 1) 34 p) : ∃ s : Nat, p = u64 s ∧ s < 2 ^ 64 := by
  obtain ⟨cs, h1, rfl⟩ := h
  obtain ⟨s, rfl, hs⟩ := u64_of h1
  exact ⟨s, by simp only [mkE, kindT, u_u64], hs⟩
theorem arg_arrI {n : Nat} {p : PV} (h : TyA Try.prog (n + 2) 60 p) : ∃ u v : Int, p = .agg [.int .i64 u, .int .i64 v] := by
  obtain ⟨cs, h1, rfl⟩ := h
  simp only [TyC, u_arrI] at h1
  obtain ⟨a, b, rfl, ha, c, d, rfl, hc, rfl⟩ := h1
  obtain ⟨u, rfl, _⟩ := int_of (n := n) ha
  obtain ⟨v, rfl, _⟩ := int_of (n := n) hc
  exact ⟨u, v, by simp only [mkE, kindT, u_arrI]; rfl⟩
theorem u_arrI3 : Try.prog.underlying 54 = some (.array 3 3) := by kernel_rfl
theorem arg_arrI3 {n : Nat} {p : PV} (h : TyA Try.prog (n + 2) 54 p) : ∃ u v w : Int, p = .agg [.int .i64 u, .int .i64 v, .int .i64 w] := by
  obtain ⟨cs, h1, rfl⟩ := h
  simp only [TyC, u_arrI3] at h1
  obtain ⟨a, b, rfl, ha, c, d, rfl, hc, e, g, rfl, he, rfl⟩ := h1
  obtain ⟨u, rfl, _⟩ := int_of (n := n) ha
  obtain ⟨v, rfl, _⟩ := int_of (n := n) hc
  obtain ⟨w, rfl, _⟩ := int_of (n := n) he
  exact ⟨u, v, w, by simp only [mkE, kindT, u_arrI3]; rfl⟩
theorem u_u8 : Try.prog.underlying 5 = some (.int .u8) := by kernel_rfl
theorem arg_u8 {n : Nat} {p : PV} (h : TyA Try.prog (n + 1) 5 p) : ∃ s : Nat, p = .int .u8 (s : Int) ∧ s < 256 := by
  obtain ⟨cs, h1, rfl⟩ := h
  simp only [TyC, u_u8] at h1
  obtain ⟨m, rfl, hm⟩ := h1
  simp [Lit.wf, IntKind.min, IntKind.max, IntKind.signed, IntKind.bits] at hm
  refine ⟨m.toNat, ?_, by omega⟩
  simp only [mkE, kindT, u_u8]
  rw [show ((m.toNat : Nat) : Int) = m by omega]
end Go.Proofs.Ytibenjpkinhjhaa
