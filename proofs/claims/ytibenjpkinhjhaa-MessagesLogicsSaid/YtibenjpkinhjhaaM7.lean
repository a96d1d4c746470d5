/- Parts of the proof, one after the other: Messages: Change of the program walked; Public and Skip of action models. Messages: Look of the program walked. Messages: errors, relations and Suspected, Private, Semi, Change, Secret, Toss of the reference walked. Messages: Look of the reference walked. Messages: the comparisons of action models with themselves, walked. Messages: the examples of the laws walked. Messages: the laws that compare with the reference, walked. Messages: the law about changes, walked. Action models: errors (plain). -/
import Derived.Test.YtibenjpkinhjhaaM6
set_option maxRecDepth 100000
set_option maxHeartbeats 4000000
namespace Go.Proofs.Ytibenjpkinhjhaa
open Go Go.Dv

theorem ac_static (f : List Nd) (ag n : Int) : PureFn Try.prog 68 [fpv f, .int .i64 ag, .int .i64 n] (.int .i64 (statI ag n f)) := by
  refine PureFn.intro mixed (fn := Try.f68) rfl rfl rfl fun M w0 => ?_
  (try (conv => whnf)); repeat' (first | (apply And.intro <;> (try (conv => whnf))) | (intro h; first | (with_reducible exact tf0 h) | (with_reducible exact ft0 h) | (with_reducible exact nt0 h) | (with_reducible exact nf0 h) | (exact litz h rfl) | (with_reducible exact tf h (by with_reducible assumption)) | (with_reducible exact tf (by with_reducible assumption) h) | (try (conv => whnf))) | (with_reducible rfl) | (apply True.intro) | (apply infoT; rfl) | (apply bleI; rfl) | (apply fitI; rfl) | (apply cellsI; rfl) | (apply szI; rfl) | (apply guardI; kernel_rfl) | (apply WhenQ.mk; (try (conv => whnf)); rotate_left; (try (conv => whnf)); rotate_right) | (with_reducible assumption) | (apply not_of; with_reducible assumption) | (apply left_of; with_reducible assumption) | (apply left_of; apply left_of; with_reducible assumption) | (apply and_of <;> first | (with_reducible assumption) | (apply not_of; with_reducible assumption))| (refine lin_plan (by kernel_rfl) ?_; (try (conv => whnf))) | (refine ⟨_, _, rfl, idx_map (by with_reducible assumption), rfl, ?_⟩; (try (conv => whnf))) | (refine ⟨rfl, ?_⟩; (try (conv => whnf))) | (exact Nat.le_refl 1) | ((apply ex3); (focus (with_reducible assumption)); (focus (with_reducible assumption)); (try (conv => whnf))) | ((apply ex2); (focus (with_reducible assumption)); (try (conv => whnf))) | (refine PureFn.dcq (f := 59) rfl ?_; (try (conv => whnf))) | (refine PureFn.dcq (f := 60) rfl ?_; (try (conv => whnf))) | (refine PureFn.dcq (f := 61) rfl ?_; (try (conv => whnf))) | ((refine ⟨_, _, fm_Check ?_, ?_, ?_⟩); rotate_left 1; (focus (first | (refine ⟨?_, trivial⟩ <;> first | (exact PLe.refl _) | (exact PLe.nil)) | (exact trivial))); (try (conv => whnf))) | (refine ⟨_, (by (conv => whnf); exact fm_Check _), rfl, ?_⟩; (try (conv => whnf))) | ((refine ⟨_, _, fm_Frags ?_, ?_, ?_⟩); rotate_left 1; (focus (first | (refine ⟨?_, trivial⟩ <;> first | (exact PLe.refl _) | (exact PLe.nil)) | (exact trivial))); (try (conv => whnf))) | (refine ⟨_, (by (conv => whnf); exact fm_Frags _), rfl, ?_⟩; (try (conv => whnf))) | ((refine ⟨_, _, fm_Fits ?_ ?_ ?_, ?_, ?_⟩); rotate_left 3; (focus (first | (refine ⟨?_, ?_, ?_, trivial⟩ <;> first | (exact PLe.refl _) | (exact PLe.nil)) | (exact trivial))); (try (conv => whnf))) | (refine ⟨_, (by (conv => whnf); exact fm_Fits _ _ _), rfl, ?_⟩; (try (conv => whnf))) | fail)
  · refine le_int ?_
    rw [statI, h]; rfl
  · rename_i h1
    refine le_int ?_
    rw [statI, h1, show (nand64' (frags f : Nat) 15 != 0) = true from h]; rfl
  · rename_i h2 h1
    refine le_int ?_
    rw [statI, h2, show (nand64' (frags f : Nat) 15 != 0) = false from h1, h]; rfl
  · rename_i h2 h1
    refine le_int ?_
    rw [statI, h2, show (nand64' (frags f : Nat) 15 != 0) = false from h1, h]; rfl
def onesL (n : Nat) : List (List Nat) := List.replicate n [1]
def pubI (ag : Int) (f : List Nd) : Act × Int := bif badAg ag then (noAct, 2) else bif statI ag 8 f != 0 then (noAct, statI ag 8 f) else (⟨[comp f], [[]], onesL ag.toNat⟩, 0)
theorem onesL_succ (n : Nat) : (onesL n).map rowPV ++ [.sl [.int .u64 1]] = (onesL (n + 1)).map rowPV := by
  simp only [onesL, List.replicate_succ', List.map_append]; rfl
theorem onesL_rel (n : Nat) : relOf n 1 (fun _ => 1) = onesL n := by
  apply List.ext_getElem (by simp [relOf, onesL])
  intro i h1 h2
  simp [relOf, onesL, List.range_succ, rcell]
theorem ac_Public (ag : Int) (f : List Nd) : PureFn Try.prog 36 [.int .i64 ag, fpv f] (pairA (pubI ag f)) := by
  refine PureFn.introC [11] mixed (fn := Try.f36) rfl rfl rfl fun M w0 => ?_
  have hS := ac_static f ag 8
  have hC := fm_Compact f
  (try (conv => whnf)); repeat' (first | (apply And.intro <;> (try (conv => whnf))) | (intro h; first | (with_reducible exact tf0 h) | (with_reducible exact ft0 h) | (with_reducible exact nt0 h) | (with_reducible exact nf0 h) | (exact litz h rfl) | (with_reducible exact tf h (by with_reducible assumption)) | (with_reducible exact tf (by with_reducible assumption) h) | (try (conv => whnf))) | (with_reducible rfl) | (apply True.intro) | (apply infoT; rfl) | (apply bleI; rfl) | (apply fitI; rfl) | (apply cellsI; rfl) | (apply szI; rfl) | (apply guardI; kernel_rfl) | (apply WhenQ.mk; (try (conv => whnf)); rotate_left; (try (conv => whnf)); rotate_right) | (with_reducible assumption) | (apply not_of; with_reducible assumption) | (apply left_of; with_reducible assumption) | (apply left_of; apply left_of; with_reducible assumption) | (apply and_of <;> first | (with_reducible assumption) | (apply not_of; with_reducible assumption))| (refine lin_plan (by kernel_rfl) ?_; (try (conv => whnf))) | (refine ⟨_, _, rfl, idx_map (by with_reducible assumption), rfl, ?_⟩; (try (conv => whnf))) | (refine ⟨rfl, ?_⟩; (try (conv => whnf))) | (exact Nat.le_refl 1) | ((apply ex3); (focus (with_reducible assumption)); (focus (with_reducible assumption)); (try (conv => whnf))) | ((apply ex2); (focus (with_reducible assumption)); (try (conv => whnf))) | (refine PureFn.dcq (f := 68) rfl ?_; (try (conv => whnf))) | (refine PureFn.dcq (f := 83) rfl ?_; (try (conv => whnf))) | ((refine ⟨_, _, hS, ?_, ?_⟩); (focus (first | (refine ⟨?_, ?_, ?_, trivial⟩ <;> first | (exact PLe.refl _) | (exact PLe.nil)) | (exact trivial))); (try (conv => whnf))) | (refine ⟨_, (by (conv => whnf); exact hS), rfl, ?_⟩; (try (conv => whnf))) | ((refine ⟨_, _, hC, ?_, ?_⟩); (focus (first | (refine ⟨?_, trivial⟩ <;> first | (exact PLe.refl _) | (exact PLe.nil)) | (exact trivial))); (try (conv => whnf))) | (refine ⟨_, (by (conv => whnf); exact hC), rfl, ?_⟩; (try (conv => whnf))) | fail)
  · rw [pubI, show badAg ag = true from h]; exact le_noAct _
  · rename_i h1
    rw [pubI, show badAg ag = false from h1, h]; exact le_noAct _
  rename_i h1
  rw [pubI, show badAg ag = false from h1, h]
  obtain ⟨n, rfl, hn⟩ := badAg_no (show badAg ag = false from h1)
  refine ⟨Unit, fun _ => [(4, .ref 0 0), (7, .ref 1 0)], fun _ => 3, fun _ => [(0, .var [.pv .nil, .pv .nil, .pv .nil]), (1, .var [.pv (.sl [fpv (comp f)]), .pv (.sl [.nil]), .pv (.sl ((onesL n).map rowPV))])], ?_, ?_⟩
  · (try (conv => whnf)); repeat' (first | (apply And.intro <;> (try (conv => whnf))) | (intro h; first | (with_reducible exact tf0 h) | (with_reducible exact ft0 h) | (with_reducible exact nt0 h) | (with_reducible exact nf0 h) | (exact litz h rfl) | (with_reducible exact tf h (by with_reducible assumption)) | (with_reducible exact tf (by with_reducible assumption) h) | (try (conv => whnf))) | (with_reducible rfl) | (apply True.intro) | (apply infoT; rfl) | (apply bleI; rfl) | (apply fitI; rfl) | (apply cellsI; rfl) | (apply szI; rfl) | (apply guardI; kernel_rfl) | (apply WhenQ.mk; (try (conv => whnf)); rotate_left; (try (conv => whnf)); rotate_right) | (with_reducible assumption) | (apply not_of; with_reducible assumption) | (apply left_of; with_reducible assumption) | (apply left_of; apply left_of; with_reducible assumption) | (apply and_of <;> first | (with_reducible assumption) | (apply not_of; with_reducible assumption))| (refine lin_plan (by kernel_rfl) ?_; (try (conv => whnf))) | (refine ⟨_, _, rfl, idx_map (by with_reducible assumption), rfl, ?_⟩; (try (conv => whnf))) | (refine ⟨rfl, ?_⟩; (try (conv => whnf))) | (exact Nat.le_refl 1) | ((apply ex3); (focus (with_reducible assumption)); (focus (with_reducible assumption)); (try (conv => whnf))) | ((apply ex2); (focus (with_reducible assumption)); (try (conv => whnf))) | fail)
    refine ⟨{ i : Nat // i ≤ n }, fun i => [(4, .ref 0 0), (7, .ref 1 0), (27, .pv (i64 n)), (28, .pv (i64 i.1))], fun _ => 3, fun i => [(0, .var [.pv .nil, .pv .nil, .pv .nil]), (1, .var [.pv (.sl [fpv (comp f)]), .pv (.sl [.nil]), .buf 2 ((onesL i.1).map rowPV).length]), (2, .arr 1 ((onesL i.1).map rowPV))], fun i => n - i.1, ⟨⟨0, Nat.zero_le _⟩, (by refine Wk.of ?_ ?_ rfl rfl rfl <;> (repeat' (first | (exact trivial) | (exact WkD.same _) | (exact WkO.same _ _ rfl) | (exact WkD.any _) | (exact WkD.nil _ (Or.inl rfl)) | (exact WkD.nil _ (Or.inr rfl)) | (exact WkD.fz _ _ _ rfl (Or.inl ⟨_, rfl⟩) rfl) | (exact WkD.fz _ _ _ rfl (Or.inr rfl) rfl) | (refine WkD.int ?_) | (exact WkD.new' rfl rfl rfl) | (exact WkO.new _ _ rfl) | (refine WkO.vars rfl ?_) | (with_reducible rfl) | (exact rfl) | (refine ⟨?_, ?_⟩) | ((refine wrapA ?_ ?_ ?_); (focus (simp; done)); (focus ((try dsimp only); omega)); (focus ((try dsimp only); omega))) | fail)))⟩, ?_⟩
    rintro ⟨i, hi⟩
    (try (conv => whnf)); repeat' (first | (apply And.intro <;> (try (conv => whnf))) | (intro h; first | (with_reducible exact tf0 h) | (with_reducible exact ft0 h) | (with_reducible exact nt0 h) | (with_reducible exact nf0 h) | (exact litz h rfl) | (with_reducible exact tf h (by with_reducible assumption)) | (with_reducible exact tf (by with_reducible assumption) h) | (try (conv => whnf))) | (with_reducible rfl) | (apply True.intro) | (apply infoT; rfl) | (apply bleI; rfl) | (apply fitI; rfl) | (apply cellsI; rfl) | (apply szI; rfl) | (apply guardI; kernel_rfl) | (apply WhenQ.mk; (try (conv => whnf)); rotate_left; (try (conv => whnf)); rotate_right) | (with_reducible assumption) | (apply not_of; with_reducible assumption) | (apply left_of; with_reducible assumption) | (apply left_of; apply left_of; with_reducible assumption) | (apply and_of <;> first | (with_reducible assumption) | (apply not_of; with_reducible assumption))| (refine lin_plan (by kernel_rfl) ?_; (try (conv => whnf))) | (refine ⟨_, _, rfl, idx_map (by with_reducible assumption), rfl, ?_⟩; (try (conv => whnf))) | (refine ⟨rfl, ?_⟩; (try (conv => whnf))) | (exact Nat.le_refl 1) | ((apply ex3); (focus (with_reducible assumption)); (focus (with_reducible assumption)); (try (conv => whnf))) | ((apply ex2); (focus (with_reducible assumption)); (try (conv => whnf))) | fail)
    · show ((onesL i).map rowPV).length + 1 ≤ 4294967296
      rw [List.length_map, onesL, List.length_replicate]; omega
    · have hi' : i < n := lt_dec h
      have er := onesL_succ i
      refine ⟨⟨i + 1, hi'⟩, by show n - (i + 1) < n - i; omega, ?_⟩
      (refine Wk.of ?_ ?_ rfl rfl rfl <;> (repeat' (first | (exact trivial) | (exact WkD.same _) | (exact WkO.same _ _ rfl) | (exact WkD.eq (congrArg (fun z : List PV => DV.buf _ z.length) er)) | (exact WkO.same _ _ (congrArg (fun z => some (DObj.arr _ z)) er)) | (exact WkD.any _) | (exact WkD.nil _ (Or.inl rfl)) | (exact WkD.nil _ (Or.inr rfl)) | (exact WkD.fz _ _ _ rfl (Or.inl ⟨_, rfl⟩) rfl) | (exact WkD.fz _ _ _ rfl (Or.inr rfl) rfl) | (refine WkD.int ?_) | (exact WkD.new' rfl rfl rfl) | (exact WkO.new _ _ rfl) | (refine WkO.vars rfl ?_) | (with_reducible rfl) | (exact rfl) | (refine ⟨?_, ?_⟩) | ((refine wrapA ?_ ?_ ?_); (focus (simp; done)); (focus ((try dsimp only); omega)); (focus ((try dsimp only); omega))) | fail)))
    · have hi' : i = n := ge_dec h hi
      subst hi'
      exact ⟨(), (by refine Wk.of ?_ ?_ rfl rfl rfl <;> (repeat' (first | (exact trivial) | (exact WkD.same _) | (exact WkO.same _ _ rfl) | (exact WkD.any _) | (exact WkD.nil _ (Or.inl rfl)) | (exact WkD.nil _ (Or.inr rfl)) | (exact WkD.fz _ _ _ rfl (Or.inl ⟨_, rfl⟩) rfl) | (exact WkD.fz _ _ _ rfl (Or.inr rfl) rfl) | (refine WkD.int ?_) | (exact WkD.new' rfl rfl rfl) | (exact WkO.new _ _ rfl) | (refine WkO.vars rfl ?_) | (with_reducible rfl) | (exact rfl) | (refine ⟨?_, ?_⟩) | ((refine wrapA ?_ ?_ ?_); (focus (simp; done)); (focus ((try dsimp only); omega)); (focus ((try dsimp only); omega))) | fail)))⟩
  rintro ⟨⟩
  (try (conv => whnf)); repeat' (first | (apply And.intro <;> (try (conv => whnf))) | (intro h; first | (with_reducible exact tf0 h) | (with_reducible exact ft0 h) | (with_reducible exact nt0 h) | (with_reducible exact nf0 h) | (exact litz h rfl) | (with_reducible exact tf h (by with_reducible assumption)) | (with_reducible exact tf (by with_reducible assumption) h) | (try (conv => whnf))) | (with_reducible rfl) | (apply True.intro) | (apply infoT; rfl) | (apply bleI; rfl) | (apply fitI; rfl) | (apply cellsI; rfl) | (apply szI; rfl) | (apply guardI; kernel_rfl) | (apply WhenQ.mk; (try (conv => whnf)); rotate_left; (try (conv => whnf)); rotate_right) | (with_reducible assumption) | (apply not_of; with_reducible assumption) | (apply left_of; with_reducible assumption) | (apply left_of; apply left_of; with_reducible assumption) | (apply and_of <;> first | (with_reducible assumption) | (apply not_of; with_reducible assumption))| (refine lin_plan (by kernel_rfl) ?_; (try (conv => whnf))) | (refine ⟨_, _, rfl, idx_map (by with_reducible assumption), rfl, ?_⟩; (try (conv => whnf))) | (refine ⟨rfl, ?_⟩; (try (conv => whnf))) | (exact Nat.le_refl 1) | ((apply ex3); (focus (with_reducible assumption)); (focus (with_reducible assumption)); (try (conv => whnf))) | ((apply ex2); (focus (with_reducible assumption)); (try (conv => whnf))) | fail)
  exact PLe.tups ⟨PLe.aggs ⟨.refl _, PLe.sls ⟨.nil, trivial⟩, .refl _, trivial⟩, .refl _, trivial⟩
theorem ac_Skip (ag : Int) : PureFn Try.prog 39 [.int .i64 ag] (pairA (pubI ag (buildL (n0 1) []))) := by
  have hP := ac_Public ag (buildL (n0 1) [])
  generalize pubI ag (buildL (n0 1) []) = X at hP
  refine PureFn.intro mixed (fn := Try.f39) rfl rfl rfl fun M w0 => ?_
  (try (conv => whnf)); repeat' (first | (apply And.intro <;> (try (conv => whnf))) | (intro h; first | (with_reducible exact tf0 h) | (with_reducible exact ft0 h) | (with_reducible exact nt0 h) | (with_reducible exact nf0 h) | (exact litz h rfl) | (with_reducible exact tf h (by with_reducible assumption)) | (with_reducible exact tf (by with_reducible assumption) h) | (try (conv => whnf))) | (with_reducible rfl) | (apply True.intro) | (apply infoT; rfl) | (apply bleI; rfl) | (apply fitI; rfl) | (apply cellsI; rfl) | (apply szI; rfl) | (apply guardI; kernel_rfl) | (apply WhenQ.mk; (try (conv => whnf)); rotate_left; (try (conv => whnf)); rotate_right) | (with_reducible assumption) | (apply not_of; with_reducible assumption) | (apply left_of; with_reducible assumption) | (apply left_of; apply left_of; with_reducible assumption) | (apply and_of <;> first | (with_reducible assumption) | (apply not_of; with_reducible assumption))| (refine lin_plan (by kernel_rfl) ?_; (try (conv => whnf))) | (refine ⟨_, _, rfl, idx_map (by with_reducible assumption), rfl, ?_⟩; (try (conv => whnf))) | (refine ⟨rfl, ?_⟩; (try (conv => whnf))) | (exact Nat.le_refl 1) | ((apply ex3); (focus (with_reducible assumption)); (focus (with_reducible assumption)); (try (conv => whnf))) | ((apply ex2); (focus (with_reducible assumption)); (try (conv => whnf))) | (refine PureFn.dcq (f := 101) rfl ?_; (try (conv => whnf))) | (refine PureFn.dcq (f := 36) rfl ?_; (try (conv => whnf))) | ((refine ⟨_, _, fm_True, ?_, ?_⟩); (focus (first | (refine ⟨trivial⟩ <;> first | (exact PLe.refl _) | (exact PLe.nil)) | (exact trivial))); (try (conv => whnf))) | (refine ⟨_, (by (conv => whnf); exact fm_True), rfl, ?_⟩; (try (conv => whnf))) | ((refine ⟨_, _, hP, ?_, ?_⟩); (focus (first | (refine ⟨?_, ?_, trivial⟩ <;> first | (exact PLe.refl _) | (exact PLe.nil)) | (exact trivial))); (try (conv => whnf))) | (refine ⟨_, (by (conv => whnf); exact hP), rfl, ?_⟩; (try (conv => whnf))) | fail)
  exact .refl _
theorem stat0 : statI (0 : Nat) 8 (buildL (n0 1) []) = 0 := by kernel_rfl
theorem stat1 : statI (1 : Nat) 8 (buildL (n0 1) []) = 0 := by kernel_rfl
theorem stat2 : statI (2 : Nat) 8 (buildL (n0 1) []) = 0 := by kernel_rfl
theorem stat3 : statI (3 : Nat) 8 (buildL (n0 1) []) = 0 := by kernel_rfl
theorem stat4 : statI (4 : Nat) 8 (buildL (n0 1) []) = 0 := by kernel_rfl
theorem stat_true {n : Nat} (hn : n ≤ 4) : statI n 8 (buildL (n0 1) []) = 0 := by
  match n, hn with
  | 0, _ => exact stat0
  | 1, _ => exact stat1
  | 2, _ => exact stat2
  | 3, _ => exact stat3
  | 4, _ => exact stat4
theorem comp_true : comp (buildL (n0 1) []) = buildL (n0 1) [] := by kernel_rfl
theorem skip_is {n : Nat} (hn : n ≤ 4) : pubI n (buildL (n0 1) []) = (⟨[buildL (n0 1) []], [[]], relOf n 1 (fun _ => 1)⟩, 0) := by
  have h1 : badAg (n : Int) = false := by
    unfold badAg
    rw [decide_eq_false (by omega), decide_eq_false (by omega)]; rfl
  rw [pubI, h1, stat_true hn, comp_true, onesL_rel]; rfl
theorem ms_Change (ag fact : Int) (f : List Nd) : PureFn Try.prog 53 [.int .i64 ag, .int .i64 fact, fpv f] (pairA (changeI ag fact f)) := by
  refine PureFn.introC [4] mixed (fn := Try.f53) rfl rfl rfl fun M w0 => ?_
  have hE := ms_errors ag fact [] f (by simp)
  have hC := fm_Compact f
  have hS := ac_Skip ag
  (try (conv => whnf)); repeat' (first | (apply And.intro <;> (try (conv => whnf))) | (intro h; first | (with_reducible exact tf0 h) | (with_reducible exact ft0 h) | (with_reducible exact nt0 h) | (with_reducible exact nf0 h) | (exact litz h rfl) | (with_reducible exact tf h (by with_reducible assumption)) | (with_reducible exact tf (by with_reducible assumption) h) | (try (conv => whnf))) | (with_reducible rfl) | (apply True.intro) | (apply infoT; rfl) | (apply bleI; rfl) | (apply fitI; rfl) | (apply cellsI; rfl) | (apply szI; rfl) | (apply guardI; kernel_rfl) | (apply WhenQ.mk; (try (conv => whnf)); rotate_left; (try (conv => whnf)); rotate_right) | (with_reducible assumption) | (apply not_of; with_reducible assumption) | (apply left_of; with_reducible assumption) | (apply left_of; apply left_of; with_reducible assumption) | (apply and_of <;> first | (with_reducible assumption) | (apply not_of; with_reducible assumption))| (refine lin_plan (by kernel_rfl) ?_; (try (conv => whnf))) | (refine ⟨_, _, rfl, idx_map (by with_reducible assumption), rfl, ?_⟩; (try (conv => whnf))) | (refine ⟨rfl, ?_⟩; (try (conv => whnf))) | (exact Nat.le_refl 1) | ((apply ex3); (focus (with_reducible assumption)); (focus (with_reducible assumption)); (try (conv => whnf))) | ((apply ex2); (focus (with_reducible assumption)); (try (conv => whnf))) | fail)
  refine ⟨{ _x : Unit // (errI ag fact [] f != 0) = false }, fun _ => [(0, .pv (.int .i64 ag)), (1, .pv (.int .i64 fact)), (2, .pv (fpv f)), (6, .ref 0 0)], fun _ => 1, fun _ => [(0, .var [.pv .nil, .pv .nil, .pv .nil])], ?_, ?_⟩
  · (try (conv => whnf)); repeat' (first | (apply And.intro <;> (try (conv => whnf))) | (intro h; first | (with_reducible exact tf0 h) | (with_reducible exact ft0 h) | (with_reducible exact nt0 h) | (with_reducible exact nf0 h) | (exact litz h rfl) | (with_reducible exact tf h (by with_reducible assumption)) | (with_reducible exact tf (by with_reducible assumption) h) | (try (conv => whnf))) | (with_reducible rfl) | (apply True.intro) | (apply infoT; rfl) | (apply bleI; rfl) | (apply fitI; rfl) | (apply cellsI; rfl) | (apply szI; rfl) | (apply guardI; kernel_rfl) | (apply WhenQ.mk; (try (conv => whnf)); rotate_left; (try (conv => whnf)); rotate_right) | (with_reducible assumption) | (apply not_of; with_reducible assumption) | (apply left_of; with_reducible assumption) | (apply left_of; apply left_of; with_reducible assumption) | (apply and_of <;> first | (with_reducible assumption) | (apply not_of; with_reducible assumption))| (refine lin_plan (by kernel_rfl) ?_; (try (conv => whnf))) | (refine ⟨_, _, rfl, idx_map (by with_reducible assumption), rfl, ?_⟩; (try (conv => whnf))) | (refine ⟨rfl, ?_⟩; (try (conv => whnf))) | (exact Nat.le_refl 1) | ((apply ex3); (focus (with_reducible assumption)); (focus (with_reducible assumption)); (try (conv => whnf))) | ((apply ex2); (focus (with_reducible assumption)); (try (conv => whnf))) | (refine PureFn.dcq (f := 110) rfl ?_; (try (conv => whnf))) | ((refine ⟨_, _, hE, ?_, ?_⟩); (focus (first | (refine ⟨?_, ?_, ?_, ?_, trivial⟩ <;> first | (exact PLe.refl _) | (exact PLe.nil)) | (exact trivial))); (try (conv => whnf))) | (refine ⟨_, (by (conv => whnf); exact hE), rfl, ?_⟩; (try (conv => whnf))) | fail)
    · rw [changeI, h]; exact le_noAct _
    · exact ⟨⟨(), h⟩, (by refine Wk.of ?_ ?_ rfl rfl rfl <;> (repeat' (first | (exact trivial) | (exact WkD.same _) | (exact WkO.same _ _ rfl) | (exact WkD.any _) | (exact WkD.nil _ (Or.inl rfl)) | (exact WkD.nil _ (Or.inr rfl)) | (exact WkD.fz _ _ _ rfl (Or.inl ⟨_, rfl⟩) rfl) | (exact WkD.fz _ _ _ rfl (Or.inr rfl) rfl) | (refine WkD.int ?_) | (exact WkD.new' rfl rfl rfl) | (exact WkO.new _ _ rfl) | (refine WkO.vars rfl ?_) | (with_reducible rfl) | (exact rfl) | (refine ⟨?_, ?_⟩) | ((refine wrapA ?_ ?_ ?_); (focus (simp; done)); (focus ((try dsimp only); omega)); (focus ((try dsimp only); omega))) | fail)))⟩
  rintro ⟨_, hh⟩
  obtain ⟨g1, g2, _, _⟩ := errI_ok (ag := ag) (fact := fact) (gs := []) (f := f) (by simpa using hh)
  obtain ⟨n, rfl, hn⟩ := badAg_no g1
  rw [skip_is hn] at hS
  (try (conv => whnf)); repeat' (first | (apply And.intro <;> (try (conv => whnf))) | (intro h; first | (with_reducible exact tf0 h) | (with_reducible exact ft0 h) | (with_reducible exact nt0 h) | (with_reducible exact nf0 h) | (exact litz h rfl) | (with_reducible exact tf h (by with_reducible assumption)) | (with_reducible exact tf (by with_reducible assumption) h) | (try (conv => whnf))) | (with_reducible rfl) | (apply True.intro) | (apply infoT; rfl) | (apply bleI; rfl) | (apply fitI; rfl) | (apply cellsI; rfl) | (apply szI; rfl) | (apply guardI; kernel_rfl) | (apply WhenQ.mk; (try (conv => whnf)); rotate_left; (try (conv => whnf)); rotate_right) | (with_reducible assumption) | (apply not_of; with_reducible assumption) | (apply left_of; with_reducible assumption) | (apply left_of; apply left_of; with_reducible assumption) | (apply and_of <;> first | (with_reducible assumption) | (apply not_of; with_reducible assumption))| (refine lin_plan (by kernel_rfl) ?_; (try (conv => whnf))) | (refine ⟨_, _, rfl, idx_map (by with_reducible assumption), rfl, ?_⟩; (try (conv => whnf))) | (refine ⟨rfl, ?_⟩; (try (conv => whnf))) | (exact Nat.le_refl 1) | ((apply ex3); (focus (with_reducible assumption)); (focus (with_reducible assumption)); (try (conv => whnf))) | ((apply ex2); (focus (with_reducible assumption)); (try (conv => whnf))) | (refine PureFn.dcq (f := 39) rfl ?_; (try (conv => whnf))) | (refine PureFn.dcq (f := 83) rfl ?_; (try (conv => whnf))) | ((refine ⟨_, _, hS, ?_, ?_⟩); (focus (first | (refine ⟨?_, trivial⟩ <;> first | (exact PLe.refl _) | (exact PLe.nil)) | (exact trivial))); (try (conv => whnf))) | (refine ⟨_, (by (conv => whnf); exact hS), rfl, ?_⟩; (try (conv => whnf))) | ((refine ⟨_, _, hC, ?_, ?_⟩); (focus (first | (refine ⟨?_, trivial⟩ <;> first | (exact PLe.refl _) | (exact PLe.nil)) | (exact trivial))); (try (conv => whnf))) | (refine ⟨_, (by (conv => whnf); exact hC), rfl, ?_⟩; (try (conv => whnf))) | fail)
  · simp at h
  · rw [changeI, hh]
    exact .refl _
end Go.Proofs.Ytibenjpkinhjhaa
set_option maxRecDepth 100000
set_option maxHeartbeats 4000000
namespace Go.Proofs.Ytibenjpkinhjhaa
open Go Go.Dv

/-! bits -/
def cntB (x : Nat) : Nat → Nat
  | 0 => 0
  | i + 1 => bif x.testBit i then cntB x i + 1 else cntB x i
theorem bits_64 (x : Nat) (hx : x < 256) : PureFn Try.prog 142 [u64 x] (.int .i64 (cntB x 8 : Nat)) := by
  refine PureFn.intro mixed (fn := Try.f142) rfl rfl rfl fun M w0 => ?_
  (try (conv => whnf)); repeat' (first | (apply And.intro <;> (try (conv => whnf))) | (intro h; first | (with_reducible exact tf0 h) | (with_reducible exact ft0 h) | (with_reducible exact nt0 h) | (with_reducible exact nf0 h) | (exact litz h rfl) | (with_reducible exact tf h (by with_reducible assumption)) | (with_reducible exact tf (by with_reducible assumption) h) | (try (conv => whnf))) | (with_reducible rfl) | (apply True.intro) | (apply infoT; rfl) | (apply bleI; rfl) | (apply fitI; rfl) | (apply cellsI; rfl) | (apply szI; rfl) | (apply guardI; kernel_rfl) | (apply WhenQ.mk; (try (conv => whnf)); rotate_left; (try (conv => whnf)); rotate_right) | (with_reducible assumption) | (apply not_of; with_reducible assumption) | (apply left_of; with_reducible assumption) | (apply left_of; apply left_of; with_reducible assumption) | (apply and_of <;> first | (with_reducible assumption) | (apply not_of; with_reducible assumption))| (refine lin_plan (by kernel_rfl) ?_; (try (conv => whnf))) | (refine ⟨_, _, rfl, idx_map (by with_reducible assumption), rfl, ?_⟩; (try (conv => whnf))) | (refine ⟨rfl, ?_⟩; (try (conv => whnf))) | (exact Nat.le_refl 1) | ((apply ex3); (focus (with_reducible assumption)); (focus (with_reducible assumption)); (try (conv => whnf))) | ((apply ex2); (focus (with_reducible assumption)); (try (conv => whnf))) | fail)
  all_goals first | (show (0 : Int) ≤ _; decide) | skip
  refine le_int ?_
  clear M w0
  revert x
  decide +kernel
theorem bits_u (x : Nat) (hx : x < 256) : PureFn Try.prog 119 [u64 x] (.int .i64 (cntB x 8 : Nat)) := by
  have h64 := bits_64 x hx
  refine PureFn.intro mixed (fn := Try.f119) rfl rfl rfl fun M w0 => ?_
  (try (conv => whnf)); repeat' (first | (apply And.intro <;> (try (conv => whnf))) | (intro h; first | (with_reducible exact tf0 h) | (with_reducible exact ft0 h) | (with_reducible exact nt0 h) | (with_reducible exact nf0 h) | (exact litz h rfl) | (with_reducible exact tf h (by with_reducible assumption)) | (with_reducible exact tf (by with_reducible assumption) h) | (try (conv => whnf))) | (with_reducible rfl) | (apply True.intro) | (apply infoT; rfl) | (apply bleI; rfl) | (apply fitI; rfl) | (apply cellsI; rfl) | (apply szI; rfl) | (apply guardI; kernel_rfl) | (apply WhenQ.mk; (try (conv => whnf)); rotate_left; (try (conv => whnf)); rotate_right) | (with_reducible assumption) | (apply not_of; with_reducible assumption) | (apply left_of; with_reducible assumption) | (apply left_of; apply left_of; with_reducible assumption) | (apply and_of <;> first | (with_reducible assumption) | (apply not_of; with_reducible assumption))| (refine lin_plan (by kernel_rfl) ?_; (try (conv => whnf))) | (refine ⟨_, _, rfl, idx_map (by with_reducible assumption), rfl, ?_⟩; (try (conv => whnf))) | (refine ⟨rfl, ?_⟩; (try (conv => whnf))) | (exact Nat.le_refl 1) | ((apply ex3); (focus (with_reducible assumption)); (focus (with_reducible assumption)); (try (conv => whnf))) | ((apply ex2); (focus (with_reducible assumption)); (try (conv => whnf))) | (refine PureFn.dcq (f := 142) rfl ?_; (try (conv => whnf))) | ((refine ⟨_, _, h64, ?_, ?_⟩); (focus (first | (refine ⟨?_, trivial⟩ <;> first | (exact PLe.refl _) | (exact PLe.nil)) | (exact trivial))); (try (conv => whnf))) | (refine ⟨_, (by (conv => whnf); exact h64), rfl, ?_⟩; (try (conv => whnf))) | fail)
  exact .refl _
theorem bit64_one {s v : Nat} (hs : s < 2 ^ 62) (hv : v ≤ 64) : (and64 (shr64 s v) 1 == 1) = s.testBit v := by
  rw [bit64_and hs hv]; cases s.testBit v <;> rfl
theorem bit64_zero {s v : Nat} (hs : s < 2 ^ 62) (hv : v ≤ 64) : (and64 (shr64 s v) 1 == 0) = !s.testBit v := by
  rw [bit64_and hs hv]; cases s.testBit v <;> rfl
theorem nand_eq {a b : Nat} (ha : a < 2 ^ 62) : nand64' a b = ((a ^^^ (a &&& b) : Nat) : Int) := by
  have hlt : a ^^^ (a &&& b) < 2 ^ 62 := Nat.xor_lt_two_pow ha (Nat.lt_of_le_of_lt Nat.and_le_left ha)
  unfold nand64'
  show IntKind.wrap .i64 ((BitVec.ofInt 64 (a : Int) &&& ~~~BitVec.ofInt 64 (b : Int)).toNat : Int) = _
  rw [ofInt_nat, ofInt_nat]
  have h2 : (BitVec.ofNat 64 a &&& ~~~BitVec.ofNat 64 b).toNat = a ^^^ (a &&& b) := by
    apply Nat.eq_of_testBit_eq
    intro i
    rw [BitVec.testBit_toNat, BitVec.getLsbD_and, BitVec.getLsbD_not, BitVec.getLsbD_ofNat, BitVec.getLsbD_ofNat, Nat.testBit_xor, Nat.testBit_and]
    by_cases hi : i < 64
    · simp only [hi, decide_true, Bool.true_and]; cases a.testBit i <;> cases b.testBit i <;> rfl
    · have : a.testBit i = false := Nat.testBit_lt_two_pow (Nat.lt_of_lt_of_le (show a < 2 ^ 64 by omega) (Nat.pow_le_pow_right (by decide) (by omega)))
      simp [hi, this]
  rw [h2, wrap_small (by omega) (by omega)]
def subM (s m : Nat) : Bool := s &&& m == s
theorem nand_zero {a b : Nat} (ha : a < 2 ^ 62) : (nand64' a b == 0) = subM a b := by
  rw [nand_eq ha, subM, Bool.eq_iff_iff, beq_iff_eq, beq_iff_eq]
  constructor
  · intro h
    have h0 : a ^^^ (a &&& b) = 0 := by omega
    have h4 : (a ^^^ (a &&& b)) ^^^ (a &&& b) = a := by rw [Nat.xor_assoc, Nat.xor_self, Nat.xor_zero]
    rw [h0, Nat.zero_xor] at h4; exact h4
  · intro h
    rw [h, Nat.xor_self]; rfl

/-! the formulas of a look -/
def litX (i s : Nat) : List Nd := bif s.testBit i then buildL (nI 3 i) [] else buildL (n0 4) [buildL (nI 3 i) []]
def litsX (s m : Nat) : Nat → List (List Nd)
  | 0 => []
  | i + 1 => bif m.testBit i then litsX s m i ++ [litX i s] else litsX s m i
def litL (s m : Nat) : List Nd := joinL 5 (buildL (n0 1) []) (litsX s m 8)
def lookL (m : Nat) : Nat → List (List Nd)
  | 0 => []
  | s + 1 => bif subM s m then lookL m s ++ [litL s m] else lookL m s
def lookN (m : Nat) : Nat → Nat
  | 0 => 0
  | s + 1 => bif subM s m then lookN m s + 1 else lookN m s
theorem lookL_len (m : Nat) : ∀ s, (lookL m s).length = lookN m s
  | 0 => rfl
  | s + 1 => by
    rw [lookL, lookN]
    cases subM s m with
    | true => simp [lookL_len m s]
    | false => simp [lookL_len m s]
theorem litsX_len (s m : Nat) : ∀ i, (litsX s m i).length ≤ i
  | 0 => Nat.le_refl 0
  | i + 1 => by
    have := litsX_len s m i
    rw [litsX]
    cases m.testBit i with
    | true => simp; omega
    | false => simp; omega
theorem lookN_le (m : Nat) : ∀ s, lookN m s ≤ s
  | 0 => Nat.le_refl 0
  | s + 1 => by
    have := lookN_le m s
    rw [lookN]
    cases subM s m <;> simp <;> omega
/-- Eight events at most are three facts at most. -/
theorem look_few : ∀ m, m < 256 → (decide (lookN m (m + 1) > 8) = decide (cntB m 8 > 3)) ∧ 1 ≤ lookN m (m + 1) := by decide +kernel
def badM (m : Int) : Bool := bif decide (m < 0) then true else decide (m > 255)
def lookI (ag to m : Int) : Act × Int :=
  bif errI ag 0 [to] (buildL (n0 1) []) != 0 then (noAct, errI ag 0 [to] (buildL (n0 1) [])) else bif badM m then (noAct, 1) else bif decide (cntB m.toNat 8 > 3) then (noAct, 8)
  else (⟨lookL m.toNat (m.toNat + 1), List.replicate (lookN m.toNat (m.toNat + 1)) [], relOf ag.toNat (lookN m.toNat (m.toNat + 1)) (pcB to 1)⟩, 0)
theorem badM_no {m : Int} (h : badM m = false) : ∃ k : Nat, m = k ∧ k < 256 := by
  unfold badM at h
  by_cases h1 : m < 0
  · rw [decide_eq_true h1] at h; cases h
  · by_cases h2 : m > 255
    · rw [decide_eq_false h1, decide_eq_true h2] at h; cases h
    · exact ⟨m.toNat, by omega, by omega⟩
theorem litsX_t {s m i : Nat} {p : List Nd} (h : m.testBit i = true) (hp : litX i s = p) : (litsX s m i).map fpv ++ [fpv p] = (litsX s m (i + 1)).map fpv := by rw [litsX, h, ← hp]; simp
theorem litsX_f {s m i : Nat} (h : m.testBit i = false) : (litsX s m i).map fpv = (litsX s m (i + 1)).map fpv := by rw [litsX, h]; rfl
theorem lookL_t {m s : Nat} (h : subM s m = true) : (lookL m s).map fpv ++ [fpv (litL s m)] = (lookL m (s + 1)).map fpv := by rw [lookL, h]; simp
theorem lookL_f {m s : Nat} (h : subM s m = false) : (lookL m s).map fpv = (lookL m (s + 1)).map fpv := by rw [lookL, h]; rfl
theorem lits_t {i s : Nat} (h : s.testBit i = true) : litX i s = buildL (nI 3 i) [] := by rw [litX, h]; rfl
theorem lits_f {i s : Nat} (h : s.testBit i = false) : litX i s = buildL (n0 4) [buildL (nI 3 i) []] := by rw [litX, h]; rfl
theorem nand_t {s k : Nat} (hs : s < 2 ^ 62) (h : (nand64' s k != 0) = true) : subM s k = false := by
  rw [← nand_zero hs]; rw [bne] at h; simpa using h
theorem nand_f {s k : Nat} (hs : s < 2 ^ 62) (h : (nand64' s k != 0) = false) : subM s k = true := by
  rw [← nand_zero hs]; rw [bne] at h; simpa using h
theorem app_big {l : List PV} {n : Nat} {p : PV} (h : l.length ≤ n) (hn : n ≤ 1000) : l.length + [p].length ≤ big := by
  show l.length + 1 ≤ 4294967296; omega
theorem cnt_dec {c : Nat} : decide ((c : Int) > 3) = decide (c > 3) := by rw [Bool.eq_iff_iff, decide_eq_true_iff, decide_eq_true_iff]; omega
theorem ms_Look (ag to m : Int) : PureFn Try.prog 51 [.int .i64 ag, .int .i64 to, .int .i64 m] (pairA (lookI ag to m)) := by
  refine PureFn.introC [4, 24] mixed (fn := Try.f51) rfl rfl rfl fun M w0 => ?_
  have hE := ms_errors ag 0 [to] (buildL (n0 1) []) (by simp)
  (try (conv => whnf)); repeat' (first | (apply And.intro <;> (try (conv => whnf))) | (intro h; first | (with_reducible exact tf0 h) | (with_reducible exact ft0 h) | (with_reducible exact nt0 h) | (with_reducible exact nf0 h) | (exact litz h rfl) | (with_reducible exact tf h (by with_reducible assumption)) | (with_reducible exact tf (by with_reducible assumption) h) | (try (conv => whnf))) | (with_reducible rfl) | (apply True.intro) | (apply infoT; rfl) | (apply bleI; rfl) | (apply fitI; rfl) | (apply cellsI; rfl) | (apply szI; rfl) | (apply guardI; kernel_rfl) | (apply WhenQ.mk; (try (conv => whnf)); rotate_left; (try (conv => whnf)); rotate_right) | (with_reducible assumption) | (apply not_of; with_reducible assumption) | (apply left_of; with_reducible assumption) | (apply left_of; apply left_of; with_reducible assumption) | (apply and_of <;> first | (with_reducible assumption) | (apply not_of; with_reducible assumption))| (refine lin_plan (by kernel_rfl) ?_; (try (conv => whnf))) | (refine ⟨_, _, rfl, idx_map (by with_reducible assumption), rfl, ?_⟩; (try (conv => whnf))) | (refine ⟨rfl, ?_⟩; (try (conv => whnf))) | (exact Nat.le_refl 1) | ((apply ex3); (focus (with_reducible assumption)); (focus (with_reducible assumption)); (try (conv => whnf))) | ((apply ex2); (focus (with_reducible assumption)); (try (conv => whnf))) | fail)
  refine ⟨{ _x : Unit // (errI ag 0 [to] (buildL (n0 1) []) != 0) = false }, fun _ => [(0, .pv (.int .i64 ag)), (1, .pv (.int .i64 to)), (2, .pv (.int .i64 m)), (6, .ref 0 0)], fun _ => 1, fun _ => [(0, .var [.pv .nil, .pv .nil, .pv .nil])], ?_, ?_⟩
  · (try (conv => whnf)); repeat' (first | (apply And.intro <;> (try (conv => whnf))) | (intro h; first | (with_reducible exact tf0 h) | (with_reducible exact ft0 h) | (with_reducible exact nt0 h) | (with_reducible exact nf0 h) | (exact litz h rfl) | (with_reducible exact tf h (by with_reducible assumption)) | (with_reducible exact tf (by with_reducible assumption) h) | (try (conv => whnf))) | (with_reducible rfl) | (apply True.intro) | (apply infoT; rfl) | (apply bleI; rfl) | (apply fitI; rfl) | (apply cellsI; rfl) | (apply szI; rfl) | (apply guardI; kernel_rfl) | (apply WhenQ.mk; (try (conv => whnf)); rotate_left; (try (conv => whnf)); rotate_right) | (with_reducible assumption) | (apply not_of; with_reducible assumption) | (apply left_of; with_reducible assumption) | (apply left_of; apply left_of; with_reducible assumption) | (apply and_of <;> first | (with_reducible assumption) | (apply not_of; with_reducible assumption))| (refine lin_plan (by kernel_rfl) ?_; (try (conv => whnf))) | (refine ⟨_, _, rfl, idx_map (by with_reducible assumption), rfl, ?_⟩; (try (conv => whnf))) | (refine ⟨rfl, ?_⟩; (try (conv => whnf))) | (exact Nat.le_refl 1) | ((apply ex3); (focus (with_reducible assumption)); (focus (with_reducible assumption)); (try (conv => whnf))) | ((apply ex2); (focus (with_reducible assumption)); (try (conv => whnf))) | (refine PureFn.dcq (f := 110) rfl ?_; (try (conv => whnf))) | (refine PureFn.dcq (f := 101) rfl ?_; (try (conv => whnf))) | ((refine ⟨_, _, hE, ?_, ?_⟩); (focus (first | (refine ⟨?_, ?_, ?_, ?_, trivial⟩ <;> first | (exact PLe.refl _) | (exact PLe.nil)) | (exact trivial))); (try (conv => whnf))) | (refine ⟨_, (by (conv => whnf); exact hE), rfl, ?_⟩; (try (conv => whnf))) | ((refine ⟨_, _, fm_True, ?_, ?_⟩); (focus (first | (refine ⟨trivial⟩ <;> first | (exact PLe.refl _) | (exact PLe.nil)) | (exact trivial))); (try (conv => whnf))) | (refine ⟨_, (by (conv => whnf); exact fm_True), rfl, ?_⟩; (try (conv => whnf))) | fail)
    · rw [lookI, h]; exact le_noAct _
    · exact ⟨⟨(), h⟩, (by refine Wk.of ?_ ?_ rfl rfl rfl <;> (repeat' (first | (exact trivial) | (exact WkD.same _) | (exact WkO.same _ _ rfl) | (exact WkD.any _) | (exact WkD.nil _ (Or.inl rfl)) | (exact WkD.nil _ (Or.inr rfl)) | (exact WkD.fz _ _ _ rfl (Or.inl ⟨_, rfl⟩) rfl) | (exact WkD.fz _ _ _ rfl (Or.inr rfl) rfl) | (refine WkD.int ?_) | (exact WkD.new' rfl rfl rfl) | (exact WkO.new _ _ rfl) | (refine WkO.vars rfl ?_) | (with_reducible rfl) | (exact rfl) | (refine ⟨?_, ?_⟩) | ((refine wrapA ?_ ?_ ?_); (focus (simp; done)); (focus ((try dsimp only); omega)); (focus ((try dsimp only); omega))) | fail)))⟩
  rintro ⟨_, hh⟩
  obtain ⟨g1, g2, _, _⟩ := errI_ok (ag := ag) (fact := 0) (gs := [to]) (f := buildL (n0 1) []) (by simpa using hh)
  obtain ⟨n, rfl, hn⟩ := badAg_no g1
  have hU : ∀ k : Nat, m = k → k < 256 → PureFn Try.prog 119 [.int .u64 (IntKind.wrap .u64 m)] (.int .i64 (cntB k 8 : Nat)) := fun k e hk => by
    rw [e, wrapU (by omega) (by omega)]
    exact bits_u k hk
  (try (conv => whnf)); repeat' (first | (apply And.intro <;> (try (conv => whnf))) | (intro h; first | (with_reducible exact tf0 h) | (with_reducible exact ft0 h) | (with_reducible exact nt0 h) | (with_reducible exact nf0 h) | (exact litz h rfl) | (with_reducible exact tf h (by with_reducible assumption)) | (with_reducible exact tf (by with_reducible assumption) h) | (try (conv => whnf))) | (with_reducible rfl) | (apply True.intro) | (apply infoT; rfl) | (apply bleI; rfl) | (apply fitI; rfl) | (apply cellsI; rfl) | (apply szI; rfl) | (apply guardI; kernel_rfl) | (apply WhenQ.mk; (try (conv => whnf)); rotate_left; (try (conv => whnf)); rotate_right) | (with_reducible assumption) | (apply not_of; with_reducible assumption) | (apply left_of; with_reducible assumption) | (apply left_of; apply left_of; with_reducible assumption) | (apply and_of <;> first | (with_reducible assumption) | (apply not_of; with_reducible assumption))| (refine lin_plan (by kernel_rfl) ?_; (try (conv => whnf))) | (refine ⟨_, _, rfl, idx_map (by with_reducible assumption), rfl, ?_⟩; (try (conv => whnf))) | (refine ⟨rfl, ?_⟩; (try (conv => whnf))) | (exact Nat.le_refl 1) | ((apply ex3); (focus (with_reducible assumption)); (focus (with_reducible assumption)); (try (conv => whnf))) | ((apply ex2); (focus (with_reducible assumption)); (try (conv => whnf))) | fail)
  · rw [lookI, hh, show badM m = true from h]; exact le_noAct _
  have e1 : badM m = false := h
  obtain ⟨k, rfl, hk⟩ := badM_no e1
  have hU' := hU k rfl hk
  (try (conv => whnf)); repeat' (first | (apply And.intro <;> (try (conv => whnf))) | (intro h; first | (with_reducible exact tf0 h) | (with_reducible exact ft0 h) | (with_reducible exact nt0 h) | (with_reducible exact nf0 h) | (exact litz h rfl) | (with_reducible exact tf h (by with_reducible assumption)) | (with_reducible exact tf (by with_reducible assumption) h) | (try (conv => whnf))) | (with_reducible rfl) | (apply True.intro) | (apply infoT; rfl) | (apply bleI; rfl) | (apply fitI; rfl) | (apply cellsI; rfl) | (apply szI; rfl) | (apply guardI; kernel_rfl) | (apply WhenQ.mk; (try (conv => whnf)); rotate_left; (try (conv => whnf)); rotate_right) | (with_reducible assumption) | (apply not_of; with_reducible assumption) | (apply left_of; with_reducible assumption) | (apply left_of; apply left_of; with_reducible assumption) | (apply and_of <;> first | (with_reducible assumption) | (apply not_of; with_reducible assumption))| (refine lin_plan (by kernel_rfl) ?_; (try (conv => whnf))) | (refine ⟨_, _, rfl, idx_map (by with_reducible assumption), rfl, ?_⟩; (try (conv => whnf))) | (refine ⟨rfl, ?_⟩; (try (conv => whnf))) | (exact Nat.le_refl 1) | ((apply ex3); (focus (with_reducible assumption)); (focus (with_reducible assumption)); (try (conv => whnf))) | ((apply ex2); (focus (with_reducible assumption)); (try (conv => whnf))) | (refine PureFn.dcq (f := 119) rfl ?_; (try (conv => whnf))) | ((refine ⟨_, _, hU', ?_, ?_⟩); (focus (first | (refine ⟨?_, trivial⟩ <;> first | (exact PLe.refl _) | (exact PLe.nil)) | (exact trivial))); (try (conv => whnf))) | (refine ⟨_, (by (conv => whnf); exact hU'), rfl, ?_⟩; (try (conv => whnf))) | fail)
  · rw [lookI, hh, e1, Int.toNat_natCast, ← cnt_dec, show decide (((cntB k 8 : Nat) : Int) > 3) = true from h]; exact le_noAct _
  have e2 : decide (cntB k 8 > 3) = false := cnt_dec.symm.trans h
  have e3 := (look_few k hk).1.trans e2
  have e4 := (look_few k hk).2
  have e5 : lookN k (k + 1) ≤ 8 := Nat.not_lt.1 (of_decide_eq_false e3)
  refine ⟨Unit, fun _ => [(0, .pv (i64 n)), (1, .pv (.int .i64 to)), (6, .ref 0 0), (9, .pv (.sl ((lookL k (k + 1)).map fpv)))], fun _ => 1, fun _ => [(0, .var [.pv .nil, .pv .nil, .pv .nil])], ?_, ?_⟩
  · (try (conv => whnf)); repeat' (first | (apply And.intro <;> (try (conv => whnf))) | (intro h; first | (with_reducible exact tf0 h) | (with_reducible exact ft0 h) | (with_reducible exact nt0 h) | (with_reducible exact nf0 h) | (exact litz h rfl) | (with_reducible exact tf h (by with_reducible assumption)) | (with_reducible exact tf (by with_reducible assumption) h) | (try (conv => whnf))) | (with_reducible rfl) | (apply True.intro) | (apply infoT; rfl) | (apply bleI; rfl) | (apply fitI; rfl) | (apply cellsI; rfl) | (apply szI; rfl) | (apply guardI; kernel_rfl) | (apply WhenQ.mk; (try (conv => whnf)); rotate_left; (try (conv => whnf)); rotate_right) | (with_reducible assumption) | (apply not_of; with_reducible assumption) | (apply left_of; with_reducible assumption) | (apply left_of; apply left_of; with_reducible assumption) | (apply and_of <;> first | (with_reducible assumption) | (apply not_of; with_reducible assumption))| (refine lin_plan (by kernel_rfl) ?_; (try (conv => whnf))) | (refine ⟨_, _, rfl, idx_map (by with_reducible assumption), rfl, ?_⟩; (try (conv => whnf))) | (refine ⟨rfl, ?_⟩; (try (conv => whnf))) | (exact Nat.le_refl 1) | ((apply ex3); (focus (with_reducible assumption)); (focus (with_reducible assumption)); (try (conv => whnf))) | ((apply ex2); (focus (with_reducible assumption)); (try (conv => whnf))) | fail)
    refine ⟨{ s : Nat // s ≤ k + 1 }, fun s => [(0, .pv (i64 n)), (1, .pv (.int .i64 to)), (2, .pv (i64 k)), (6, .ref 0 0), (9, .buf 1 ((lookL k s.1).map fpv).length), (35, .pv (i64 (k + 1))), (36, .pv (i64 s.1))], fun _ => 2, fun s => [(0, .var [.pv .nil, .pv .nil, .pv .nil]), (1, .arr 1 ((lookL k s.1).map fpv))], fun s => k + 1 - s.1, ⟨⟨0, Nat.zero_le _⟩, ?_⟩, ?_⟩
    · (refine Wk.of ?_ ?_ rfl rfl rfl <;> (repeat' (first | (exact trivial) | (exact WkD.same _) | (exact WkO.same _ _ rfl) | (exact WkD.any _) | (exact WkD.nil _ (Or.inl rfl)) | (exact WkD.nil _ (Or.inr rfl)) | (exact WkD.fz _ _ _ rfl (Or.inl ⟨_, rfl⟩) rfl) | (exact WkD.fz _ _ _ rfl (Or.inr rfl) rfl) | (refine WkD.int ?_) | (exact WkD.new' rfl rfl rfl) | (exact WkO.new _ _ rfl) | (refine WkO.vars rfl ?_) | (with_reducible rfl) | (exact rfl) | (refine ⟨?_, ?_⟩) | ((refine wrapA ?_ ?_ ?_); (focus (simp; done)); (focus ((try dsimp only); omega)); (focus ((try dsimp only); omega))) | fail)))
    rintro ⟨s, hs⟩
    have hll := lookL_len k s
    have hln := lookN_le k s
    (try (conv => whnf)); repeat' (first | (apply And.intro <;> (try (conv => whnf))) | (intro h; first | (with_reducible exact tf0 h) | (with_reducible exact ft0 h) | (with_reducible exact nt0 h) | (with_reducible exact nf0 h) | (exact litz h rfl) | (with_reducible exact tf h (by with_reducible assumption)) | (with_reducible exact tf (by with_reducible assumption) h) | (try (conv => whnf))) | (with_reducible rfl) | (apply True.intro) | (apply infoT; rfl) | (apply bleI; rfl) | (apply fitI; rfl) | (apply cellsI; rfl) | (apply szI; rfl) | (apply guardI; kernel_rfl) | (apply WhenQ.mk; (try (conv => whnf)); rotate_left; (try (conv => whnf)); rotate_right) | (with_reducible assumption) | (apply not_of; with_reducible assumption) | (apply left_of; with_reducible assumption) | (apply left_of; apply left_of; with_reducible assumption) | (apply and_of <;> first | (with_reducible assumption) | (apply not_of; with_reducible assumption))| (refine lin_plan (by kernel_rfl) ?_; (try (conv => whnf))) | (refine ⟨_, _, rfl, idx_map (by with_reducible assumption), rfl, ?_⟩; (try (conv => whnf))) | (refine ⟨rfl, ?_⟩; (try (conv => whnf))) | (exact Nat.le_refl 1) | ((apply ex3); (focus (with_reducible assumption)); (focus (with_reducible assumption)); (try (conv => whnf))) | ((apply ex2); (focus (with_reducible assumption)); (try (conv => whnf))) | fail)
    · rename_i h1
      have hs' : s < k + 1 := lt_dec h1
      have hn := nand_t (show s < 2 ^ 62 by omega) h
      have er := lookL_f hn
      refine ⟨⟨s + 1, hs'⟩, by show k + 1 - (s + 1) < k + 1 - s; omega, ?_⟩
      (refine Wk.of ?_ ?_ rfl rfl rfl <;> (repeat' (first | (exact trivial) | (exact WkD.same _) | (exact WkO.same _ _ rfl) | (exact WkD.eq (congrArg (fun z : List PV => DV.buf _ z.length) er)) | (exact WkO.same _ _ (congrArg (fun z => some (DObj.arr _ z)) er)) | (exact WkD.any _) | (exact WkD.nil _ (Or.inl rfl)) | (exact WkD.nil _ (Or.inr rfl)) | (exact WkD.fz _ _ _ rfl (Or.inl ⟨_, rfl⟩) rfl) | (exact WkD.fz _ _ _ rfl (Or.inr rfl) rfl) | (refine WkD.int ?_) | (exact WkD.new' rfl rfl rfl) | (exact WkO.new _ _ rfl) | (refine WkO.vars rfl ?_) | (with_reducible rfl) | (exact rfl) | (refine ⟨?_, ?_⟩) | ((refine wrapA ?_ ?_ ?_); (focus (simp; done)); (focus ((try dsimp only); omega)); (focus ((try dsimp only); omega))) | fail)))
    · rename_i h1
      have hs' : s < k + 1 := lt_dec h1
      have hy := nand_f (show s < 2 ^ 62 by omega) h
      refine ⟨{ i : Nat // i ≤ 8 }, fun i => [(0, .pv (i64 n)), (1, .pv (.int .i64 to)), (2, .pv (i64 k)), (6, .ref 0 0), (9, .buf 1 ((lookL k s).map fpv).length), (10, .pv (i64 s)), (11, .buf 2 ((litsX s k i.1).map fpv).length), (35, .pv (i64 (k + 1))), (36, .pv (i64 s)), (43, .pv (i64 i.1))], fun _ => 3, fun i => [(0, .var [.pv .nil, .pv .nil, .pv .nil]), (1, .arr 1 ((lookL k s).map fpv)), (2, .arr 1 ((litsX s k i.1).map fpv))], fun i => 8 - i.1, ⟨⟨0, Nat.zero_le _⟩, (by refine Wk.of ?_ ?_ rfl rfl rfl <;> (repeat' (first | (exact trivial) | (exact WkD.same _) | (exact WkO.same _ _ rfl) | (exact WkD.any _) | (exact WkD.nil _ (Or.inl rfl)) | (exact WkD.nil _ (Or.inr rfl)) | (exact WkD.fz _ _ _ rfl (Or.inl ⟨_, rfl⟩) rfl) | (exact WkD.fz _ _ _ rfl (Or.inr rfl) rfl) | (refine WkD.int ?_) | (exact WkD.new' rfl rfl rfl) | (exact WkO.new _ _ rfl) | (refine WkO.vars rfl ?_) | (with_reducible rfl) | (exact rfl) | (refine ⟨?_, ?_⟩) | ((refine wrapA ?_ ?_ ?_); (focus (simp; done)); (focus ((try dsimp only); omega)); (focus ((try dsimp only); omega))) | fail)))⟩, ?_⟩
      rintro ⟨i, hi⟩
      have hxl := litsX_len s k i
      have hF := fm_Fact (i : Int)
      have hNo := fm_Not (buildL (nI 3 i) [])
      have hAl := fm_All (litsX s k i) (by omega)
      (try (conv => whnf)); repeat' (first | (apply And.intro <;> (try (conv => whnf))) | (intro h; first | (with_reducible exact tf0 h) | (with_reducible exact ft0 h) | (with_reducible exact nt0 h) | (with_reducible exact nf0 h) | (exact litz h rfl) | (with_reducible exact tf h (by with_reducible assumption)) | (with_reducible exact tf (by with_reducible assumption) h) | (try (conv => whnf))) | (with_reducible rfl) | (apply True.intro) | (apply infoT; rfl) | (apply bleI; rfl) | (apply fitI; rfl) | (apply cellsI; rfl) | (apply szI; rfl) | (apply guardI; kernel_rfl) | (apply WhenQ.mk; (try (conv => whnf)); rotate_left; (try (conv => whnf)); rotate_right) | (with_reducible assumption) | (apply not_of; with_reducible assumption) | (apply left_of; with_reducible assumption) | (apply left_of; apply left_of; with_reducible assumption) | (apply and_of <;> first | (with_reducible assumption) | (apply not_of; with_reducible assumption))| (refine lin_plan (by kernel_rfl) ?_; (try (conv => whnf))) | (refine ⟨_, _, rfl, idx_map (by with_reducible assumption), rfl, ?_⟩; (try (conv => whnf))) | (refine ⟨rfl, ?_⟩; (try (conv => whnf))) | (exact Nat.le_refl 1) | ((apply ex3); (focus (with_reducible assumption)); (focus (with_reducible assumption)); (try (conv => whnf))) | ((apply ex2); (focus (with_reducible assumption)); (try (conv => whnf))) | (refine PureFn.dcq (f := 62) rfl ?_; (try (conv => whnf))) | (refine PureFn.dcq (f := 106) rfl ?_; (try (conv => whnf))) | (refine PureFn.dcq (f := 120) rfl ?_; (try (conv => whnf))) | ((refine ⟨_, _, hF, ?_, ?_⟩); (focus (first | (refine ⟨?_, trivial⟩ <;> first | (exact PLe.refl _) | (exact PLe.nil)) | (exact trivial))); (try (conv => whnf))) | (refine ⟨_, (by (conv => whnf); exact hF), rfl, ?_⟩; (try (conv => whnf))) | ((refine ⟨_, _, hNo, ?_, ?_⟩); (focus (first | (refine ⟨?_, trivial⟩ <;> first | (exact PLe.refl _) | (exact PLe.nil)) | (exact trivial))); (try (conv => whnf))) | (refine ⟨_, (by (conv => whnf); exact hNo), rfl, ?_⟩; (try (conv => whnf))) | ((refine ⟨_, _, hAl, ?_, ?_⟩); (focus (first | (refine ⟨?_, trivial⟩ <;> first | (exact PLe.refl _) | (exact PLe.nil)) | (exact trivial))); (try (conv => whnf))) | (refine ⟨_, (by (conv => whnf); exact hAl), rfl, ?_⟩; (try (conv => whnf))) | fail)
      · exact Int.natCast_nonneg _
      · rename_i h2
        have hi' : i < 8 := lt_dec h2
        have hb : k.testBit i = false := by simpa using (bit64_zero (s := k) (v := i) (by omega) (by omega)).symm.trans h
        have er := litsX_f (s := s) hb
        refine ⟨⟨i + 1, hi'⟩, by show 8 - (i + 1) < 8 - i; omega, ?_⟩
        (refine Wk.of ?_ ?_ rfl rfl rfl <;> (repeat' (first | (exact trivial) | (exact WkD.same _) | (exact WkO.same _ _ rfl) | (exact WkD.eq (congrArg (fun z : List PV => DV.buf _ z.length) er)) | (exact WkO.same _ _ (congrArg (fun z => some (DObj.arr _ z)) er)) | (exact WkD.any _) | (exact WkD.nil _ (Or.inl rfl)) | (exact WkD.nil _ (Or.inr rfl)) | (exact WkD.fz _ _ _ rfl (Or.inl ⟨_, rfl⟩) rfl) | (exact WkD.fz _ _ _ rfl (Or.inr rfl) rfl) | (refine WkD.int ?_) | (exact WkD.new' rfl rfl rfl) | (exact WkO.new _ _ rfl) | (refine WkO.vars rfl ?_) | (with_reducible rfl) | (exact rfl) | (refine ⟨?_, ?_⟩) | ((refine wrapA ?_ ?_ ?_); (focus (simp; done)); (focus ((try dsimp only); omega)); (focus ((try dsimp only); omega))) | fail)))
      · exact Int.natCast_nonneg _
      · exact app_big (n := 8) (by simp; omega) (by decide)
      · rename_i h3 h2
        have hi' : i < 8 := lt_dec h3
        have hb : k.testBit i = true := by simpa using (bit64_zero (s := k) (v := i) (by omega) (by omega)).symm.trans h2
        have hc : s.testBit i = true := by simpa using (bit64_one (s := s) (v := i) (by omega) (by omega)).symm.trans h
        have er := litsX_t hb (lits_t hc)
        refine ⟨⟨i + 1, hi'⟩, by show 8 - (i + 1) < 8 - i; omega, ?_⟩
        (refine Wk.of ?_ ?_ rfl rfl rfl <;> (repeat' (first | (exact trivial) | (exact WkD.same _) | (exact WkO.same _ _ rfl) | (exact WkD.eq (congrArg (fun z : List PV => DV.buf _ z.length) er)) | (exact WkO.same _ _ (congrArg (fun z => some (DObj.arr _ z)) er)) | (exact WkD.any _) | (exact WkD.nil _ (Or.inl rfl)) | (exact WkD.nil _ (Or.inr rfl)) | (exact WkD.fz _ _ _ rfl (Or.inl ⟨_, rfl⟩) rfl) | (exact WkD.fz _ _ _ rfl (Or.inr rfl) rfl) | (refine WkD.int ?_) | (exact WkD.new' rfl rfl rfl) | (exact WkO.new _ _ rfl) | (refine WkO.vars rfl ?_) | (with_reducible rfl) | (exact rfl) | (refine ⟨?_, ?_⟩) | ((refine wrapA ?_ ?_ ?_); (focus (simp; done)); (focus ((try dsimp only); omega)); (focus ((try dsimp only); omega))) | fail)))
      · exact app_big (n := 8) (by simp; omega) (by decide)
      · rename_i h3 h2
        have hi' : i < 8 := lt_dec h3
        have hb : k.testBit i = true := by simpa using (bit64_zero (s := k) (v := i) (by omega) (by omega)).symm.trans h2
        have hc : s.testBit i = false := by simpa using (bit64_one (s := s) (v := i) (by omega) (by omega)).symm.trans h
        have er := litsX_t hb (lits_f hc)
        refine ⟨⟨i + 1, hi'⟩, by show 8 - (i + 1) < 8 - i; omega, ?_⟩
        (refine Wk.of ?_ ?_ rfl rfl rfl <;> (repeat' (first | (exact trivial) | (exact WkD.same _) | (exact WkO.same _ _ rfl) | (exact WkD.eq (congrArg (fun z : List PV => DV.buf _ z.length) er)) | (exact WkO.same _ _ (congrArg (fun z => some (DObj.arr _ z)) er)) | (exact WkD.any _) | (exact WkD.nil _ (Or.inl rfl)) | (exact WkD.nil _ (Or.inr rfl)) | (exact WkD.fz _ _ _ rfl (Or.inl ⟨_, rfl⟩) rfl) | (exact WkD.fz _ _ _ rfl (Or.inr rfl) rfl) | (refine WkD.int ?_) | (exact WkD.new' rfl rfl rfl) | (exact WkO.new _ _ rfl) | (refine WkO.vars rfl ?_) | (with_reducible rfl) | (exact rfl) | (refine ⟨?_, ?_⟩) | ((refine wrapA ?_ ?_ ?_); (focus (simp; done)); (focus ((try dsimp only); omega)); (focus ((try dsimp only); omega))) | fail)))
      · exact app_big (n := 257) (by simp; omega) (by decide)
      · have hi' : i = 8 := ge_dec h hi
        subst hi'
        have hs' : s < k + 1 := lt_dec h1
        have er := lookL_t hy
        refine ⟨⟨s + 1, hs'⟩, by show k + 1 - (s + 1) < k + 1 - s; omega, ?_⟩
        (refine Wk.of ?_ ?_ rfl rfl rfl <;> (repeat' (first | (exact trivial) | (exact WkD.same _) | (exact WkO.same _ _ rfl) | (exact WkD.eq (congrArg (fun z : List PV => DV.buf _ z.length) er)) | (exact WkO.same _ _ (congrArg (fun z => some (DObj.arr _ z)) er)) | (exact WkD.any _) | (exact WkD.nil _ (Or.inl rfl)) | (exact WkD.nil _ (Or.inr rfl)) | (exact WkD.fz _ _ _ rfl (Or.inl ⟨_, rfl⟩) rfl) | (exact WkD.fz _ _ _ rfl (Or.inr rfl) rfl) | (refine WkD.int ?_) | (exact WkD.new' rfl rfl rfl) | (exact WkO.new _ _ rfl) | (refine WkO.vars rfl ?_) | (with_reducible rfl) | (exact rfl) | (refine ⟨?_, ?_⟩) | ((refine wrapA ?_ ?_ ?_); (focus (simp; done)); (focus ((try dsimp only); omega)); (focus ((try dsimp only); omega))) | fail)))
    · have hs' : s = k + 1 := ge_dec h hs
      subst hs'
      exact ⟨(), (by refine Wk.of ?_ ?_ rfl rfl rfl <;> (repeat' (first | (exact trivial) | (exact WkD.same _) | (exact WkO.same _ _ rfl) | (exact WkD.any _) | (exact WkD.nil _ (Or.inl rfl)) | (exact WkD.nil _ (Or.inr rfl)) | (exact WkD.fz _ _ _ rfl (Or.inl ⟨_, rfl⟩) rfl) | (exact WkD.fz _ _ _ rfl (Or.inr rfl) rfl) | (refine WkD.int ?_) | (exact WkD.new' rfl rfl rfl) | (exact WkO.new _ _ rfl) | (refine WkO.vars rfl ?_) | (with_reducible rfl) | (exact rfl) | (refine ⟨?_, ?_⟩) | ((refine wrapA ?_ ?_ ?_); (focus (simp; done)); (focus ((try dsimp only); omega)); (focus ((try dsimp only); omega))) | fail)))⟩
  rintro ⟨⟩
  (try (conv => whnf)); repeat' (first | (apply And.intro <;> (try (conv => whnf))) | (intro h; first | (with_reducible exact tf0 h) | (with_reducible exact ft0 h) | (with_reducible exact nt0 h) | (with_reducible exact nf0 h) | (exact litz h rfl) | (with_reducible exact tf h (by with_reducible assumption)) | (with_reducible exact tf (by with_reducible assumption) h) | (try (conv => whnf))) | (with_reducible rfl) | (apply True.intro) | (apply infoT; rfl) | (apply bleI; rfl) | (apply fitI; rfl) | (apply cellsI; rfl) | (apply szI; rfl) | (apply guardI; kernel_rfl) | (apply WhenQ.mk; (try (conv => whnf)); rotate_left; (try (conv => whnf)); rotate_right) | (with_reducible assumption) | (apply not_of; with_reducible assumption) | (apply left_of; with_reducible assumption) | (apply left_of; apply left_of; with_reducible assumption) | (apply and_of <;> first | (with_reducible assumption) | (apply not_of; with_reducible assumption))| (refine lin_plan (by kernel_rfl) ?_; (try (conv => whnf))) | (refine ⟨_, _, rfl, idx_map (by with_reducible assumption), rfl, ?_⟩; (try (conv => whnf))) | (refine ⟨rfl, ?_⟩; (try (conv => whnf))) | (exact Nat.le_refl 1) | ((apply ex3); (focus (with_reducible assumption)); (focus (with_reducible assumption)); (try (conv => whnf))) | ((apply ex2); (focus (with_reducible assumption)); (try (conv => whnf))) | fail)
  refine ms_in to 1 _ _ ?_
  (try (conv => whnf)); repeat' (first | (apply And.intro <;> (try (conv => whnf))) | (intro h; first | (with_reducible exact tf0 h) | (with_reducible exact ft0 h) | (with_reducible exact nt0 h) | (with_reducible exact nf0 h) | (exact litz h rfl) | (with_reducible exact tf h (by with_reducible assumption)) | (with_reducible exact tf (by with_reducible assumption) h) | (try (conv => whnf))) | (with_reducible rfl) | (apply True.intro) | (apply infoT; rfl) | (apply bleI; rfl) | (apply fitI; rfl) | (apply cellsI; rfl) | (apply szI; rfl) | (apply guardI; kernel_rfl) | (apply WhenQ.mk; (try (conv => whnf)); rotate_left; (try (conv => whnf)); rotate_right) | (with_reducible assumption) | (apply not_of; with_reducible assumption) | (apply left_of; with_reducible assumption) | (apply left_of; apply left_of; with_reducible assumption) | (apply and_of <;> first | (with_reducible assumption) | (apply not_of; with_reducible assumption))| (refine lin_plan (by kernel_rfl) ?_; (try (conv => whnf))) | (refine ⟨_, _, rfl, idx_map (by with_reducible assumption), rfl, ?_⟩; (try (conv => whnf))) | (refine ⟨rfl, ?_⟩; (try (conv => whnf))) | (exact Nat.le_refl 1) | ((apply ex3); (focus (with_reducible assumption)); (focus (with_reducible assumption)); (try (conv => whnf))) | ((apply ex2); (focus (with_reducible assumption)); (try (conv => whnf))) | fail)
  have e6 : (lookL k (k + 1)).length = lookN k (k + 1) := lookL_len k (k + 1)
  refine model_in n (lookL k (k + 1)) to 1 hn (by omega) (by omega) _ (by decide) _ ?_
  (try (conv => whnf)); repeat' (first | (apply And.intro <;> (try (conv => whnf))) | (intro h; first | (with_reducible exact tf0 h) | (with_reducible exact ft0 h) | (with_reducible exact nt0 h) | (with_reducible exact nf0 h) | (exact litz h rfl) | (with_reducible exact tf h (by with_reducible assumption)) | (with_reducible exact tf (by with_reducible assumption) h) | (try (conv => whnf))) | (with_reducible rfl) | (apply True.intro) | (apply infoT; rfl) | (apply bleI; rfl) | (apply fitI; rfl) | (apply cellsI; rfl) | (apply szI; rfl) | (apply guardI; kernel_rfl) | (apply WhenQ.mk; (try (conv => whnf)); rotate_left; (try (conv => whnf)); rotate_right) | (with_reducible assumption) | (apply not_of; with_reducible assumption) | (apply left_of; with_reducible assumption) | (apply left_of; apply left_of; with_reducible assumption) | (apply and_of <;> first | (with_reducible assumption) | (apply not_of; with_reducible assumption))| (refine lin_plan (by kernel_rfl) ?_; (try (conv => whnf))) | (refine ⟨_, _, rfl, idx_map (by with_reducible assumption), rfl, ?_⟩; (try (conv => whnf))) | (refine ⟨rfl, ?_⟩; (try (conv => whnf))) | (exact Nat.le_refl 1) | ((apply ex3); (focus (with_reducible assumption)); (focus (with_reducible assumption)); (try (conv => whnf))) | ((apply ex2); (focus (with_reducible assumption)); (try (conv => whnf))) | fail)
  rw [e6, lookI, hh, e1, Int.toNat_natCast, e2]
  exact PLe.tups ⟨PLe.aggs ⟨.refl _, le_post _, .refl _, trivial⟩, .refl _, trivial⟩
end Go.Proofs.Ytibenjpkinhjhaa
set_option maxRecDepth 100000
set_option maxHeartbeats 4000000
namespace Go.Proofs.Ytibenjpkinhjhaa
open Go Go.Dv

theorem wrapU_pos (a : Int) : 0 ≤ IntKind.wrap .u64 a := Int.emod_nonneg _ (by decide)
theorem wrapU_nat {n : Nat} (h : n < 1000000) : IntKind.wrap .u64 (n : Int) = (n : Int) := wrapU (by omega) (by omega)
/-! relations -/
end Go.Proofs.Ytibenjpkinhjhaa
set_option maxRecDepth 100000
set_option maxHeartbeats 4000000
namespace Go.Proofs.Ytibenjpkinhjhaa
open Go Go.Dv

theorem not_gd {n k : Nat} {f : List Nd} (h : Gd n f k) (hk : k + 1 ≤ 200) : Gd n (buildL (n0 4) [f]) (k + 1) := (Go.Proofs.Ytibenjpkinhjhaa.neg_gd h hk).1
theorem litX_gd {i : Nat} (hi : i < 8) (s : Nat) : Gd 8 (litX i s) 2 := by
  have h1 := (fact_gd (n := 8) (by decide) hi).1
  unfold litX
  cases s.testBit i with
  | true => exact h1.more (by omega)
  | false => exact not_gd h1 (by omega)
theorem litsX_mem {s m : Nat} : ∀ {i : Nat}, i ≤ 8 → ∀ g, g ∈ litsX s m i → Gd 8 g 2
  | 0, _, g, h => by cases h
  | i + 1, hi, g, h => by
    rw [litsX] at h
    cases hb : m.testBit i with
    | false => rw [hb] at h; exact litsX_mem (by omega) g h
    | true =>
      rw [hb] at h
      rcases List.mem_append.1 h with h | h
      · exact litsX_mem (by omega) g h
      · rw [List.mem_singleton.1 h]; exact litX_gd (by omega) s
end Go.Proofs.Ytibenjpkinhjhaa
set_option maxRecDepth 100000
set_option maxHeartbeats 4000000
namespace Go.Proofs.Ytibenjpkinhjhaa
open Go Go.Dv

theorem rs_Same (r : List Nat) (hl : r.length ≤ 1000) : PureFn Try.prog 63 [rowPV r, rowPV r] (.bool true) := by
  refine PureFn.intro mixed (fn := Try.f63) rfl rfl rfl fun M w0 => ?_
  (try (conv => whnf)); repeat' (first | (apply And.intro <;> (try (conv => whnf))) | (intro h; first | (with_reducible exact tf0 h) | (with_reducible exact ft0 h) | (with_reducible exact nt0 h) | (with_reducible exact nf0 h) | (exact litz h rfl) | (with_reducible exact tf h (by with_reducible assumption)) | (with_reducible exact tf (by with_reducible assumption) h) | (try (conv => whnf))) | (with_reducible rfl) | (apply True.intro) | (apply infoT; rfl) | (apply bleI; rfl) | (apply fitI; rfl) | (apply cellsI; rfl) | (apply szI; rfl) | (apply guardI; kernel_rfl) | (apply WhenQ.mk; (try (conv => whnf)); rotate_left; (try (conv => whnf)); rotate_right) | (with_reducible assumption) | (apply not_of; with_reducible assumption) | (apply left_of; with_reducible assumption) | (apply left_of; apply left_of; with_reducible assumption) | (apply and_of <;> first | (with_reducible assumption) | (apply not_of; with_reducible assumption))| (refine lin_plan (by kernel_rfl) ?_; (try (conv => whnf))) | (refine ⟨_, _, rfl, idx_map (by with_reducible assumption), rfl, ?_⟩; (try (conv => whnf))) | (refine ⟨rfl, ?_⟩; (try (conv => whnf))) | (exact Nat.le_refl 1) | ((apply ex3); (focus (with_reducible assumption)); (focus (with_reducible assumption)); (try (conv => whnf))) | ((apply ex2); (focus (with_reducible assumption)); (try (conv => whnf))) | fail)
  · simp at h
  refine ⟨{ i : Nat // i ≤ r.length }, fun i => [(0, .pv (rowPV r)), (1, .pv (rowPV r)), (5, .pv (i64 i.1))], fun _ => 0, fun _ => [], fun i => r.length - i.1, ⟨⟨0, Nat.zero_le _⟩, (by refine Wk.of ?_ ?_ rfl rfl rfl <;> (repeat' (first | (exact trivial) | (exact WkD.same _) | (exact WkO.same _ _ rfl) | (exact WkD.any _) | (exact WkD.nil _ (Or.inl rfl)) | (exact WkD.nil _ (Or.inr rfl)) | (exact WkD.fz _ _ _ rfl (Or.inl ⟨_, rfl⟩) rfl) | (exact WkD.fz _ _ _ rfl (Or.inr rfl) rfl) | (refine WkD.int ?_) | (exact WkD.new' rfl rfl rfl) | (exact WkO.new _ _ rfl) | (refine WkO.vars rfl ?_) | (with_reducible rfl) | (exact rfl) | (refine ⟨?_, ?_⟩) | ((refine wrapA ?_ ?_ ?_); (focus (simp; done)); (focus ((try dsimp only); omega)); (focus ((try dsimp only); omega))) | fail)))⟩, ?_⟩
  rintro ⟨i, hi⟩
  (try (conv => whnf)); repeat' (first | (apply And.intro <;> (try (conv => whnf))) | (intro h; first | (with_reducible exact tf0 h) | (with_reducible exact ft0 h) | (with_reducible exact nt0 h) | (with_reducible exact nf0 h) | (exact litz h rfl) | (with_reducible exact tf h (by with_reducible assumption)) | (with_reducible exact tf (by with_reducible assumption) h) | (try (conv => whnf))) | (with_reducible rfl) | (apply True.intro) | (apply infoT; rfl) | (apply bleI; rfl) | (apply fitI; rfl) | (apply cellsI; rfl) | (apply szI; rfl) | (apply guardI; kernel_rfl) | (apply WhenQ.mk; (try (conv => whnf)); rotate_left; (try (conv => whnf)); rotate_right) | (with_reducible assumption) | (apply not_of; with_reducible assumption) | (apply left_of; with_reducible assumption) | (apply left_of; apply left_of; with_reducible assumption) | (apply and_of <;> first | (with_reducible assumption) | (apply not_of; with_reducible assumption))| (refine lin_plan (by kernel_rfl) ?_; (try (conv => whnf))) | (refine ⟨_, _, rfl, idx_map (by with_reducible assumption), rfl, ?_⟩; (try (conv => whnf))) | (refine ⟨rfl, ?_⟩; (try (conv => whnf))) | (exact Nat.le_refl 1) | ((apply ex3); (focus (with_reducible assumption)); (focus (with_reducible assumption)); (try (conv => whnf))) | ((apply ex2); (focus (with_reducible assumption)); (try (conv => whnf))) | fail)
  · have hi' : i < r.length := by simpa using lt_dec h
    have hn : r[i]? = some r[i] := List.getElem?_eq_getElem hi'
    refine ⟨_, _, rfl, idx_map hn, rfl, ?_⟩
    (try (conv => whnf)); repeat' (first | (apply And.intro <;> (try (conv => whnf))) | (intro h; first | (with_reducible exact tf0 h) | (with_reducible exact ft0 h) | (with_reducible exact nt0 h) | (with_reducible exact nf0 h) | (exact litz h rfl) | (with_reducible exact tf h (by with_reducible assumption)) | (with_reducible exact tf (by with_reducible assumption) h) | (try (conv => whnf))) | (with_reducible rfl) | (apply True.intro) | (apply infoT; rfl) | (apply bleI; rfl) | (apply fitI; rfl) | (apply cellsI; rfl) | (apply szI; rfl) | (apply guardI; kernel_rfl) | (apply WhenQ.mk; (try (conv => whnf)); rotate_left; (try (conv => whnf)); rotate_right) | (with_reducible assumption) | (apply not_of; with_reducible assumption) | (apply left_of; with_reducible assumption) | (apply left_of; apply left_of; with_reducible assumption) | (apply and_of <;> first | (with_reducible assumption) | (apply not_of; with_reducible assumption))| (refine lin_plan (by kernel_rfl) ?_; (try (conv => whnf))) | (refine ⟨_, _, rfl, idx_map (by with_reducible assumption), rfl, ?_⟩; (try (conv => whnf))) | (refine ⟨rfl, ?_⟩; (try (conv => whnf))) | (exact Nat.le_refl 1) | ((apply ex3); (focus (with_reducible assumption)); (focus (with_reducible assumption)); (try (conv => whnf))) | ((apply ex2); (focus (with_reducible assumption)); (try (conv => whnf))) | fail)
    · simp at h
    · exact ⟨⟨i + 1, hi'⟩, by show r.length - (i + 1) < r.length - i; omega, (by refine Wk.of ?_ ?_ rfl rfl rfl <;> (repeat' (first | (exact trivial) | (exact WkD.same _) | (exact WkO.same _ _ rfl) | (exact WkD.any _) | (exact WkD.nil _ (Or.inl rfl)) | (exact WkD.nil _ (Or.inr rfl)) | (exact WkD.fz _ _ _ rfl (Or.inl ⟨_, rfl⟩) rfl) | (exact WkD.fz _ _ _ rfl (Or.inr rfl) rfl) | (refine WkD.int ?_) | (exact WkD.new' rfl rfl rfl) | (exact WkO.new _ _ rfl) | (refine WkO.vars rfl ?_) | (with_reducible rfl) | (exact rfl) | (refine ⟨?_, ?_⟩) | ((refine wrapA ?_ ?_ ?_); (focus (simp; done)); (focus ((try dsimp only); omega)); (focus ((try dsimp only); omega))) | fail)))⟩
  · exact .refl _
/-- What Same needs of an action model: its formulas are not beyond the limits. -/
structure Small (a : Act) : Prop where
  pre : ∀ f, f ∈ a.pre → f.length ≤ 200
  post : ∀ l, l ∈ a.post → l.length ≤ 100 ∧ ∀ x, x ∈ l → x.to.length ≤ 200
  n1 : a.pre.length ≤ 1000
  n2 : a.post.length ≤ 1000
  n3 : a.rel.length ≤ 1000 ∧ ∀ r, r ∈ a.rel → r.length ≤ 1000
def cellsA (a : Act) : List DV := [.pv (.sl (a.pre.map fpv)), .pv (.sl (a.post.map postPV)), .pv (.sl (a.rel.map rowPV))]
theorem flat_len : ∀ {rows : List (List Nat)}, (∀ r, r ∈ rows → r.length = 2) → rows.flatten.length = 2 * rows.length
  | [], _ => rfl
  | r :: s, h => by
    have h1 := h r (by simp)
    have h2 := flat_len (rows := s) fun q hq => h q (by simp [hq])
    rw [List.flatten_cons, List.length_append, h1, h2, List.length_cons]; omega
theorem flat_at : ∀ {rows : List (List Nat)} {i : Nat} {r : List Nat}, (∀ r, r ∈ rows → r.length = 2) → rows[i]? = some r → (rows.flatten.drop (2 * i)).take 2 = r
  | [], i, r, _, h => by simp at h
  | q :: s, 0, r, h, hr => by
    have h1 := h q (by simp)
    simp at hr; subst hr
    rw [List.flatten_cons]
    simp only [Nat.mul_zero, List.drop_zero]
    rw [List.take_append_of_le_length (by omega), List.take_of_length_le (by omega)]
  | q :: s, i + 1, r, h, hr => by
    have h1 := h q (by simp)
    have h2 := flat_at (rows := s) (i := i) (r := r) (fun q hq => h q (by simp [hq])) (by simpa using hr)
    rw [List.flatten_cons, show 2 * (i + 1) = q.length + 2 * i by omega, List.drop_length_add_append]
    exact h2
theorem cells_u64 (l : List Nat) : cellsAll 1 (l.map u64) = true := by simp [cellsAll, u64, PV.cells, PV.one]
theorem lw_related (pre post : List PV) (rows : List (List Nat)) (hl : rows.length ≤ 100) (h2 : ∀ r, r ∈ rows → r.length = 2) :
    PureFn Try.prog 105 [.agg [.sl pre, .sl post, .sl (rows.map rowPV)], .int .i64 0, .sl (rows.flatten.map u64)] (.bool true) := by
  refine PureFn.intro mixed (fn := Try.f105) rfl rfl rfl fun M w0 => ?_
  have hfl := flat_len h2
  (try (conv => whnf)); repeat' (first | (apply And.intro <;> (try (conv => whnf))) | (intro h; first | (with_reducible exact tf0 h) | (with_reducible exact ft0 h) | (with_reducible exact nt0 h) | (with_reducible exact nf0 h) | (exact litz h rfl) | (with_reducible exact tf h (by with_reducible assumption)) | (with_reducible exact tf (by with_reducible assumption) h) | (try (conv => whnf))) | (with_reducible rfl) | (apply True.intro) | (apply infoT; rfl) | (apply bleI; rfl) | (apply fitI; rfl) | (apply cellsI; rfl) | (apply szI; rfl) | (apply guardI; kernel_rfl) | (apply WhenQ.mk; (try (conv => whnf)); rotate_left; (try (conv => whnf)); rotate_right) | (with_reducible assumption) | (apply not_of; with_reducible assumption) | (apply left_of; with_reducible assumption) | (apply left_of; apply left_of; with_reducible assumption) | (apply and_of <;> first | (with_reducible assumption) | (apply not_of; with_reducible assumption))| (refine lin_plan (by kernel_rfl) ?_; (try (conv => whnf))) | (refine ⟨_, _, rfl, idx_map (by with_reducible assumption), rfl, ?_⟩; (try (conv => whnf))) | (refine ⟨rfl, ?_⟩; (try (conv => whnf))) | (exact Nat.le_refl 1) | ((apply ex3); (focus (with_reducible assumption)); (focus (with_reducible assumption)); (try (conv => whnf))) | ((apply ex2); (focus (with_reducible assumption)); (try (conv => whnf))) | fail)
  · exfalso
    have h3 : (IntKind.wrap .i64 (2 * ((rows.map rowPV).length : Int)) != ((rows.flatten.map u64).length : Int)) = true := h
    rw [List.length_map, List.length_map, hfl, wrap_small (by omega) (by omega)] at h3
    simp at h3
  refine ⟨{ i : Nat // i ≤ rows.length }, fun i => [(2, .pv (.sl (rows.flatten.map u64))), (3, .ref 0 0), (7, .pv (i64 i.1))], fun _ => 1, fun _ => [(0, .var [.pv (.sl pre), .pv (.sl post), .pv (.sl (rows.map rowPV))])], fun i => rows.length - i.1, ⟨⟨0, Nat.zero_le _⟩, (by refine Wk.of ?_ ?_ rfl rfl rfl <;> (repeat' (first | (exact trivial) | (exact WkD.same _) | (exact WkO.same _ _ rfl) | (exact WkD.any _) | (exact WkD.nil _ (Or.inl rfl)) | (exact WkD.nil _ (Or.inr rfl)) | (exact WkD.fz _ _ _ rfl (Or.inl ⟨_, rfl⟩) rfl) | (exact WkD.fz _ _ _ rfl (Or.inr rfl) rfl) | (refine WkD.int ?_) | (exact WkD.new' rfl rfl rfl) | (exact WkO.new _ _ rfl) | (refine WkO.vars rfl ?_) | (with_reducible rfl) | (exact rfl) | (refine ⟨?_, ?_⟩) | ((refine wrapA ?_ ?_ ?_); (focus (simp; done)); (focus ((try dsimp only); omega)); (focus ((try dsimp only); omega))) | fail)))⟩, ?_⟩
  rintro ⟨i, hi⟩
  (try (conv => whnf)); repeat' (first | (apply And.intro <;> (try (conv => whnf))) | (intro h; first | (with_reducible exact tf0 h) | (with_reducible exact ft0 h) | (with_reducible exact nt0 h) | (with_reducible exact nf0 h) | (exact litz h rfl) | (with_reducible exact tf h (by with_reducible assumption)) | (with_reducible exact tf (by with_reducible assumption) h) | (try (conv => whnf))) | (with_reducible rfl) | (apply True.intro) | (apply infoT; rfl) | (apply bleI; rfl) | (apply fitI; rfl) | (apply cellsI; rfl) | (apply szI; rfl) | (apply guardI; kernel_rfl) | (apply WhenQ.mk; (try (conv => whnf)); rotate_left; (try (conv => whnf)); rotate_right) | (with_reducible assumption) | (apply not_of; with_reducible assumption) | (apply left_of; with_reducible assumption) | (apply left_of; apply left_of; with_reducible assumption) | (apply and_of <;> first | (with_reducible assumption) | (apply not_of; with_reducible assumption))| (refine lin_plan (by kernel_rfl) ?_; (try (conv => whnf))) | (refine ⟨_, _, rfl, idx_map (by with_reducible assumption), rfl, ?_⟩; (try (conv => whnf))) | (refine ⟨rfl, ?_⟩; (try (conv => whnf))) | (exact Nat.le_refl 1) | ((apply ex3); (focus (with_reducible assumption)); (focus (with_reducible assumption)); (try (conv => whnf))) | ((apply ex2); (focus (with_reducible assumption)); (try (conv => whnf))) | fail)
  · have hi' : i < rows.length := by simpa using lt_dec h
    have hn : rows[i]? = some rows[i] := List.getElem?_eq_getElem hi'
    have hr2 := h2 _ (List.getElem_mem hi')
    have hS := rs_Same rows[i] (by omega)
    have hfa := flat_at h2 hn
    refine ⟨_, _, rfl, idx_map hn, rfl, ?_⟩
    have hS' : PureFn Try.prog 63 [rowPV rows[i], .sl (((rows.flatten.map u64).drop (2 * i)).take (2 * i + 2 - 2 * i))] (.bool true) := by
      rw [← List.map_drop, ← List.map_take, show 2 * i + 2 - 2 * i = 2 by omega, hfa]; exact hS
    (try (conv => whnf)); repeat' (first | (apply And.intro <;> (try (conv => whnf))) | (intro h; first | (with_reducible exact tf0 h) | (with_reducible exact ft0 h) | (with_reducible exact nt0 h) | (with_reducible exact nf0 h) | (exact litz h rfl) | (with_reducible exact tf h (by with_reducible assumption)) | (with_reducible exact tf (by with_reducible assumption) h) | (try (conv => whnf))) | (with_reducible rfl) | (apply True.intro) | (apply infoT; rfl) | (apply bleI; rfl) | (apply fitI; rfl) | (apply cellsI; rfl) | (apply szI; rfl) | (apply guardI; kernel_rfl) | (apply WhenQ.mk; (try (conv => whnf)); rotate_left; (try (conv => whnf)); rotate_right) | (with_reducible assumption) | (apply not_of; with_reducible assumption) | (apply left_of; with_reducible assumption) | (apply left_of; apply left_of; with_reducible assumption) | (apply and_of <;> first | (with_reducible assumption) | (apply not_of; with_reducible assumption))| (refine lin_plan (by kernel_rfl) ?_; (try (conv => whnf))) | (refine ⟨_, _, rfl, idx_map (by with_reducible assumption), rfl, ?_⟩; (try (conv => whnf))) | (refine ⟨rfl, ?_⟩; (try (conv => whnf))) | (exact Nat.le_refl 1) | ((apply ex3); (focus (with_reducible assumption)); (focus (with_reducible assumption)); (try (conv => whnf))) | ((apply ex2); (focus (with_reducible assumption)); (try (conv => whnf))) | fail)
    · exact cells_u64 _
    refine ⟨2 * i, 2 * i + 2, ?_, ?_, by omega, by rw [List.length_map, hfl]; omega, ?_⟩
    · exact wrapA (a := 2 * (i : Int)) (by omega) (by omega) (by omega)
    · have : IntKind.wrap .i64 (IntKind.wrap .i64 (2 * (i : Int)) + 2) = ((2 * i + 2 : Nat) : Int) := by
        rw [wrap_small (n := 2 * (i : Int)) (by omega) (by omega), wrap_small (by omega) (by omega)]; omega
      exact this
    (try (conv => whnf)); repeat' (first | (apply And.intro <;> (try (conv => whnf))) | (intro h; first | (with_reducible exact tf0 h) | (with_reducible exact ft0 h) | (with_reducible exact nt0 h) | (with_reducible exact nf0 h) | (exact litz h rfl) | (with_reducible exact tf h (by with_reducible assumption)) | (with_reducible exact tf (by with_reducible assumption) h) | (try (conv => whnf))) | (with_reducible rfl) | (apply True.intro) | (apply infoT; rfl) | (apply bleI; rfl) | (apply fitI; rfl) | (apply cellsI; rfl) | (apply szI; rfl) | (apply guardI; kernel_rfl) | (apply WhenQ.mk; (try (conv => whnf)); rotate_left; (try (conv => whnf)); rotate_right) | (with_reducible assumption) | (apply not_of; with_reducible assumption) | (apply left_of; with_reducible assumption) | (apply left_of; apply left_of; with_reducible assumption) | (apply and_of <;> first | (with_reducible assumption) | (apply not_of; with_reducible assumption))| (refine lin_plan (by kernel_rfl) ?_; (try (conv => whnf))) | (refine ⟨_, _, rfl, idx_map (by with_reducible assumption), rfl, ?_⟩; (try (conv => whnf))) | (refine ⟨rfl, ?_⟩; (try (conv => whnf))) | (exact Nat.le_refl 1) | ((apply ex3); (focus (with_reducible assumption)); (focus (with_reducible assumption)); (try (conv => whnf))) | ((apply ex2); (focus (with_reducible assumption)); (try (conv => whnf))) | (refine PureFn.dcq (f := 63) rfl ?_; (try (conv => whnf))) | ((refine ⟨_, _, hS', ?_, ?_⟩); (focus (first | (refine ⟨?_, ?_, trivial⟩ <;> first | (exact PLe.refl _) | (exact PLe.nil)) | (exact trivial))); (try (conv => whnf))) | (refine ⟨_, (by (conv => whnf); exact hS'), rfl, ?_⟩; (try (conv => whnf))) | fail)
    exact ⟨⟨i + 1, hi'⟩, by show rows.length - (i + 1) < rows.length - i; omega, (by refine Wk.of ?_ ?_ rfl rfl rfl <;> (repeat' (first | (exact trivial) | (exact WkD.same _) | (exact WkO.same _ _ rfl) | (exact WkD.any _) | (exact WkD.nil _ (Or.inl rfl)) | (exact WkD.nil _ (Or.inr rfl)) | (exact WkD.fz _ _ _ rfl (Or.inl ⟨_, rfl⟩) rfl) | (exact WkD.fz _ _ _ rfl (Or.inr rfl) rfl) | (refine WkD.int ?_) | (exact WkD.new' rfl rfl rfl) | (exact WkO.new _ _ rfl) | (refine WkO.vars rfl ?_) | (with_reducible rfl) | (exact rfl) | (refine ⟨?_, ?_⟩) | ((refine wrapA ?_ ?_ ?_); (focus (simp; done)); (focus ((try dsimp only); omega)); (focus ((try dsimp only); omega))) | fail)))⟩
  · exact .refl _
end Go.Proofs.Ytibenjpkinhjhaa
set_option maxRecDepth 100000
set_option maxHeartbeats 4000000
namespace Go.Proofs.Ytibenjpkinhjhaa
open Go Go.Dv

theorem ml_awake : PureFn Try.prog 43 [] (.bool true) := by
  obtain ⟨P, qP⟩ : ∃ z : List Nd, z = buildL (nI 3 0) [] := ⟨_, rfl⟩
  obtain ⟨R, qR⟩ : ∃ z : List Nd, z = buildL (nI 3 2) [] := ⟨_, rfl⟩
  obtain ⟨T, qT⟩ : ∃ z : List Nd, z = buildL (n0 1) [] := ⟨_, rfl⟩
  obtain ⟨F, qF⟩ : ∃ z : List Nd, z = buildL (n0 2) [] := ⟨_, rfl⟩
  obtain ⟨NP, qNP⟩ : ∃ z : List Nd, z = buildL (n0 4) [P] := ⟨_, rfl⟩
  obtain ⟨NR, qNR⟩ : ∃ z : List Nd, z = buildL (n0 4) [R] := ⟨_, rfl⟩
  obtain ⟨PN, qPN⟩ : ∃ z : List Nd, z = buildL (n0 5) [P, NR] := ⟨_, rfl⟩
  obtain ⟨L0, qL0⟩ : ∃ z : List Nd, z = litL 0 5 := ⟨_, rfl⟩
  obtain ⟨L1, qL1⟩ : ∃ z : List Nd, z = litL 1 5 := ⟨_, rfl⟩
  obtain ⟨L4, qL4⟩ : ∃ z : List Nd, z = litL 4 5 := ⟨_, rfl⟩
  obtain ⟨L5, qL5⟩ : ∃ z : List Nd, z = litL 5 5 := ⟨_, rfl⟩
  have hP := fm_Fact 0
  rw [← qP] at hP
  have hR := fm_Fact 2
  rw [← qR] at hR
  have hF := fm_False
  rw [← qF] at hF
  have hNP := fm_Not P
  rw [← qNP] at hNP
  have hNR := fm_Not R
  rw [← qNR] at hNR
  have hPN := fm_And P NR
  rw [← qPN] at hPN
  have h1 := (ms_Private 2 1 P).to (q := .tup [.agg [.sl [fpv P, fpv T], .sl [.sl [], .sl []], .sl [rowPV [1, 2], rowPV [2, 2]]], .int .i64 0]) (by rw [qP, qT]; kernel_rfl)
  have h2 := (ms_Semi 2 2 P).to (q := .tup [.agg [.sl [fpv P, fpv NP], .sl [.sl [], .sl []], .sl [rowPV [3, 3], rowPV [1, 2]]], .int .i64 0]) (by rw [qNP, qP]; kernel_rfl)
  have h3 := (ms_Suspected 3 1 2 P).to (q := .tup [.agg [.sl [fpv P, fpv T], .sl [.sl [], .sl []], .sl [rowPV [1, 2], rowPV [3, 3], rowPV [2, 2]]], .int .i64 0]) (by rw [qP, qT]; kernel_rfl)
  have h4 := (ms_Look 1 0 5).to (q := .tup [.agg [.sl [fpv L0, fpv L1, fpv L4, fpv L5], .sl [.sl [], .sl [], .sl [], .sl []], .sl [rowPV [15, 15, 15, 15]]], .int .i64 0]) (by rw [qL0, qL1, qL4, qL5]; kernel_rfl)
  have h5 := (ms_Toss 1 1 0).to (q := .tup [.agg [.sl [fpv T, fpv T], .sl [.sl [.agg [.int .i64 0, fpv T]], .sl [.agg [.int .i64 0, fpv F]]], .sl [rowPV [1, 2]]], .int .i64 0]) (by rw [qT, qF]; kernel_rfl)
  have r1 : PureFn Try.prog 105 [.agg [.sl [fpv P, fpv T], .sl [.sl [], .sl []], .sl [rowPV [1, 2], rowPV [2, 2]]], .int .i64 0, .sl [.int .u64 1, .int .u64 2, .int .u64 2, .int .u64 2]] (.bool true) := lw_related _ _ [[1, 2], [2, 2]] (by decide) (by decide)
  have r2 : PureFn Try.prog 105 [.agg [.sl [fpv P, fpv NP], .sl [.sl [], .sl []], .sl [rowPV [3, 3], rowPV [1, 2]]], .int .i64 0, .sl [.int .u64 3, .int .u64 3, .int .u64 1, .int .u64 2]] (.bool true) := lw_related _ _ [[3, 3], [1, 2]] (by decide) (by decide)
  have r3 : PureFn Try.prog 105 [.agg [.sl [fpv P, fpv T], .sl [.sl [], .sl []], .sl [rowPV [1, 2], rowPV [3, 3], rowPV [2, 2]]], .int .i64 0, .sl [.int .u64 1, .int .u64 2, .int .u64 3, .int .u64 3, .int .u64 2, .int .u64 2]] (.bool true) := lw_related _ _ [[1, 2], [3, 3], [2, 2]] (by decide) (by decide)
  have r5 : PureFn Try.prog 105 [.agg [.sl [fpv T, fpv T], .sl [.sl [.agg [.int .i64 0, fpv T]], .sl [.agg [.int .i64 0, fpv F]]], .sl [rowPV [1, 2]]], .int .i64 0, .sl [.int .u64 1, .int .u64 2]] (.bool true) := lw_related _ _ [[1, 2]] (by decide) (by decide)
  have s1 := (fm_Same NP NP).to (q := .bool true) (by rw [qNP, qP]; kernel_rfl)
  have s2 := (fm_Same L1 PN).to (q := .bool true) (by rw [qL1, qPN, qNR, qP, qR]; kernel_rfl)
  have s3 := (fm_Same F F).to (q := .bool true) (by rw [qF]; kernel_rfl)
  have w1 : PureFn Try.prog 63 [rowPV [15, 15, 15, 15], .sl [.int .u64 15, .int .u64 15, .int .u64 15, .int .u64 15]] (.bool true) := rs_Same [15, 15, 15, 15] (by decide)
  clear qP qR qT qF qNP qNR qPN qL0 qL1 qL4 qL5
  refine PureFn.introC [2, 3, 4, 5, 6, 7, 9] mixed (fn := Try.f43) rfl rfl rfl fun M w0 => ?_
  (try (conv => whnf)); repeat' (first | (apply And.intro <;> (try (conv => whnf))) | (intro h; first | (with_reducible exact tf0 h) | (with_reducible exact ft0 h) | (with_reducible exact nt0 h) | (with_reducible exact nf0 h) | (exact litz h rfl) | (with_reducible exact tf h (by with_reducible assumption)) | (with_reducible exact tf (by with_reducible assumption) h) | (try (conv => whnf))) | (with_reducible rfl) | (apply True.intro) | (apply infoT; rfl) | (apply bleI; rfl) | (apply fitI; rfl) | (apply cellsI; rfl) | (apply szI; rfl) | (apply guardI; kernel_rfl) | (apply WhenQ.mk; (try (conv => whnf)); rotate_left; (try (conv => whnf)); rotate_right) | (with_reducible assumption) | (apply not_of; with_reducible assumption) | (apply left_of; with_reducible assumption) | (apply left_of; apply left_of; with_reducible assumption) | (apply and_of <;> first | (with_reducible assumption) | (apply not_of; with_reducible assumption))| (refine lin_plan (by kernel_rfl) ?_; (try (conv => whnf))) | (refine ⟨_, _, rfl, idx_map (by with_reducible assumption), rfl, ?_⟩; (try (conv => whnf))) | (refine ⟨rfl, ?_⟩; (try (conv => whnf))) | (exact Nat.le_refl 1) | ((apply ex3); (focus (with_reducible assumption)); (focus (with_reducible assumption)); (try (conv => whnf))) | ((apply ex2); (focus (with_reducible assumption)); (try (conv => whnf))) | fail)
  refine ⟨Unit, fun _ => [(1, .pv (fpv P)), (2, .pv (fpv R))], fun _ => 0, fun _ => [], ?_, ?_⟩
  · (try (conv => whnf)); repeat' (first | (apply And.intro <;> (try (conv => whnf))) | (intro h; first | (with_reducible exact tf0 h) | (with_reducible exact ft0 h) | (with_reducible exact nt0 h) | (with_reducible exact nf0 h) | (exact litz h rfl) | (with_reducible exact tf h (by with_reducible assumption)) | (with_reducible exact tf (by with_reducible assumption) h) | (try (conv => whnf))) | (with_reducible rfl) | (apply True.intro) | (apply infoT; rfl) | (apply bleI; rfl) | (apply fitI; rfl) | (apply cellsI; rfl) | (apply szI; rfl) | (apply guardI; kernel_rfl) | (apply WhenQ.mk; (try (conv => whnf)); rotate_left; (try (conv => whnf)); rotate_right) | (with_reducible assumption) | (apply not_of; with_reducible assumption) | (apply left_of; with_reducible assumption) | (apply left_of; apply left_of; with_reducible assumption) | (apply and_of <;> first | (with_reducible assumption) | (apply not_of; with_reducible assumption))| (refine lin_plan (by kernel_rfl) ?_; (try (conv => whnf))) | (refine ⟨_, _, rfl, idx_map (by with_reducible assumption), rfl, ?_⟩; (try (conv => whnf))) | (refine ⟨rfl, ?_⟩; (try (conv => whnf))) | (exact Nat.le_refl 1) | ((apply ex3); (focus (with_reducible assumption)); (focus (with_reducible assumption)); (try (conv => whnf))) | ((apply ex2); (focus (with_reducible assumption)); (try (conv => whnf))) | (refine PureFn.dcq (f := 62) rfl ?_; (try (conv => whnf))) | (refine PureFn.dcq (f := 62) rfl ?_; (try (conv => whnf))) | ((refine ⟨_, _, hP, ?_, ?_⟩); (focus (first | (refine ⟨?_, trivial⟩ <;> first | (exact PLe.refl _) | (exact PLe.nil)) | (exact trivial))); (try (conv => whnf))) | (refine ⟨_, (by (conv => whnf); exact hP), rfl, ?_⟩; (try (conv => whnf))) | ((refine ⟨_, _, hR, ?_, ?_⟩); (focus (first | (refine ⟨?_, trivial⟩ <;> first | (exact PLe.refl _) | (exact PLe.nil)) | (exact trivial))); (try (conv => whnf))) | (refine ⟨_, (by (conv => whnf); exact hR), rfl, ?_⟩; (try (conv => whnf))) | fail)
    exact ⟨(), (by refine Wk.of ?_ ?_ rfl rfl rfl <;> (repeat' (first | (exact trivial) | (exact WkD.same _) | (exact WkO.same _ _ rfl) | (exact WkD.any _) | (exact WkD.nil _ (Or.inl rfl)) | (exact WkD.nil _ (Or.inr rfl)) | (exact WkD.fz _ _ _ rfl (Or.inl ⟨_, rfl⟩) rfl) | (exact WkD.fz _ _ _ rfl (Or.inr rfl) rfl) | (refine WkD.int ?_) | (exact WkD.new' rfl rfl rfl) | (exact WkO.new _ _ rfl) | (refine WkO.vars rfl ?_) | (with_reducible rfl) | (exact rfl) | (refine ⟨?_, ?_⟩) | ((refine wrapA ?_ ?_ ?_); (focus (simp; done)); (focus ((try dsimp only); omega)); (focus ((try dsimp only); omega))) | fail)))⟩
  rintro ⟨⟩
  refine ⟨Unit, fun _ => [(1, .pv (fpv P)), (2, .pv (fpv R)), (3, .ref 0 0), (4, .pv (.int .i64 0))], fun _ => 1, fun _ => [(0, .var [.pv (.sl [fpv P, fpv T]), .pv (.sl [.sl [], .sl []]), .pv (.sl [rowPV [1, 2], rowPV [2, 2]])])], ?_, ?_⟩
  · (try (conv => whnf)); repeat' (first | (apply And.intro <;> (try (conv => whnf))) | (intro h; first | (with_reducible exact tf0 h) | (with_reducible exact ft0 h) | (with_reducible exact nt0 h) | (with_reducible exact nf0 h) | (exact litz h rfl) | (with_reducible exact tf h (by with_reducible assumption)) | (with_reducible exact tf (by with_reducible assumption) h) | (try (conv => whnf))) | (with_reducible rfl) | (apply True.intro) | (apply infoT; rfl) | (apply bleI; rfl) | (apply fitI; rfl) | (apply cellsI; rfl) | (apply szI; rfl) | (apply guardI; kernel_rfl) | (apply WhenQ.mk; (try (conv => whnf)); rotate_left; (try (conv => whnf)); rotate_right) | (with_reducible assumption) | (apply not_of; with_reducible assumption) | (apply left_of; with_reducible assumption) | (apply left_of; apply left_of; with_reducible assumption) | (apply and_of <;> first | (with_reducible assumption) | (apply not_of; with_reducible assumption))| (refine lin_plan (by kernel_rfl) ?_; (try (conv => whnf))) | (refine ⟨_, _, rfl, idx_map (by with_reducible assumption), rfl, ?_⟩; (try (conv => whnf))) | (refine ⟨rfl, ?_⟩; (try (conv => whnf))) | (exact Nat.le_refl 1) | ((apply ex3); (focus (with_reducible assumption)); (focus (with_reducible assumption)); (try (conv => whnf))) | ((apply ex2); (focus (with_reducible assumption)); (try (conv => whnf))) | (refine PureFn.dcq (f := 44) rfl ?_; (try (conv => whnf))) | ((refine ⟨_, _, h1, ?_, ?_⟩); (focus (first | (refine ⟨?_, ?_, ?_, trivial⟩ <;> first | (exact PLe.refl _) | (exact PLe.nil)) | (exact trivial))); (try (conv => whnf))) | (refine ⟨_, (by (conv => whnf); exact h1), rfl, ?_⟩; (try (conv => whnf))) | fail)
    exact ⟨(), (by refine Wk.of ?_ ?_ rfl rfl rfl <;> (repeat' (first | (exact trivial) | (exact WkD.same _) | (exact WkO.same _ _ rfl) | (exact WkD.any _) | (exact WkD.nil _ (Or.inl rfl)) | (exact WkD.nil _ (Or.inr rfl)) | (exact WkD.fz _ _ _ rfl (Or.inl ⟨_, rfl⟩) rfl) | (exact WkD.fz _ _ _ rfl (Or.inr rfl) rfl) | (refine WkD.int ?_) | (exact WkD.new' rfl rfl rfl) | (exact WkO.new _ _ rfl) | (refine WkO.vars rfl ?_) | (with_reducible rfl) | (exact rfl) | (refine ⟨?_, ?_⟩) | ((refine wrapA ?_ ?_ ?_); (focus (simp; done)); (focus ((try dsimp only); omega)); (focus ((try dsimp only); omega))) | fail)))⟩
  rintro ⟨⟩
  refine ⟨Unit, fun _ => [(1, .pv (fpv P)), (2, .pv (fpv R)), (3, .ref 0 0), (4, .pv (.int .i64 0)), (5, .ref 1 0), (6, .pv (.int .i64 0))], fun _ => 2, fun _ => [(0, .var [.pv (.sl [fpv P, fpv T]), .pv (.sl [.sl [], .sl []]), .pv (.sl [rowPV [1, 2], rowPV [2, 2]])]), (1, .var [.pv (.sl [fpv P, fpv NP]), .pv (.sl [.sl [], .sl []]), .pv (.sl [rowPV [3, 3], rowPV [1, 2]])])], ?_, ?_⟩
  · (try (conv => whnf)); repeat' (first | (apply And.intro <;> (try (conv => whnf))) | (intro h; first | (with_reducible exact tf0 h) | (with_reducible exact ft0 h) | (with_reducible exact nt0 h) | (with_reducible exact nf0 h) | (exact litz h rfl) | (with_reducible exact tf h (by with_reducible assumption)) | (with_reducible exact tf (by with_reducible assumption) h) | (try (conv => whnf))) | (with_reducible rfl) | (apply True.intro) | (apply infoT; rfl) | (apply bleI; rfl) | (apply fitI; rfl) | (apply cellsI; rfl) | (apply szI; rfl) | (apply guardI; kernel_rfl) | (apply WhenQ.mk; (try (conv => whnf)); rotate_left; (try (conv => whnf)); rotate_right) | (with_reducible assumption) | (apply not_of; with_reducible assumption) | (apply left_of; with_reducible assumption) | (apply left_of; apply left_of; with_reducible assumption) | (apply and_of <;> first | (with_reducible assumption) | (apply not_of; with_reducible assumption))| (refine lin_plan (by kernel_rfl) ?_; (try (conv => whnf))) | (refine ⟨_, _, rfl, idx_map (by with_reducible assumption), rfl, ?_⟩; (try (conv => whnf))) | (refine ⟨rfl, ?_⟩; (try (conv => whnf))) | (exact Nat.le_refl 1) | ((apply ex3); (focus (with_reducible assumption)); (focus (with_reducible assumption)); (try (conv => whnf))) | ((apply ex2); (focus (with_reducible assumption)); (try (conv => whnf))) | (refine PureFn.dcq (f := 49) rfl ?_; (try (conv => whnf))) | ((refine ⟨_, _, h2, ?_, ?_⟩); (focus (first | (refine ⟨?_, ?_, ?_, trivial⟩ <;> first | (exact PLe.refl _) | (exact PLe.nil)) | (exact trivial))); (try (conv => whnf))) | (refine ⟨_, (by (conv => whnf); exact h2), rfl, ?_⟩; (try (conv => whnf))) | fail)
    exact ⟨(), (by refine Wk.of ?_ ?_ rfl rfl rfl <;> (repeat' (first | (exact trivial) | (exact WkD.same _) | (exact WkO.same _ _ rfl) | (exact WkD.any _) | (exact WkD.nil _ (Or.inl rfl)) | (exact WkD.nil _ (Or.inr rfl)) | (exact WkD.fz _ _ _ rfl (Or.inl ⟨_, rfl⟩) rfl) | (exact WkD.fz _ _ _ rfl (Or.inr rfl) rfl) | (refine WkD.int ?_) | (exact WkD.new' rfl rfl rfl) | (exact WkO.new _ _ rfl) | (refine WkO.vars rfl ?_) | (with_reducible rfl) | (exact rfl) | (refine ⟨?_, ?_⟩) | ((refine wrapA ?_ ?_ ?_); (focus (simp; done)); (focus ((try dsimp only); omega)); (focus ((try dsimp only); omega))) | fail)))⟩
  rintro ⟨⟩
  refine ⟨Unit, fun _ => [(1, .pv (fpv P)), (2, .pv (fpv R)), (3, .ref 0 0), (4, .pv (.int .i64 0)), (5, .ref 1 0), (6, .pv (.int .i64 0)), (7, .ref 2 0), (8, .pv (.int .i64 0))], fun _ => 3, fun _ => [(0, .var [.pv (.sl [fpv P, fpv T]), .pv (.sl [.sl [], .sl []]), .pv (.sl [rowPV [1, 2], rowPV [2, 2]])]), (1, .var [.pv (.sl [fpv P, fpv NP]), .pv (.sl [.sl [], .sl []]), .pv (.sl [rowPV [3, 3], rowPV [1, 2]])]), (2, .var [.pv (.sl [fpv P, fpv T]), .pv (.sl [.sl [], .sl []]), .pv (.sl [rowPV [1, 2], rowPV [3, 3], rowPV [2, 2]])])], ?_, ?_⟩
  · (try (conv => whnf)); repeat' (first | (apply And.intro <;> (try (conv => whnf))) | (intro h; first | (with_reducible exact tf0 h) | (with_reducible exact ft0 h) | (with_reducible exact nt0 h) | (with_reducible exact nf0 h) | (exact litz h rfl) | (with_reducible exact tf h (by with_reducible assumption)) | (with_reducible exact tf (by with_reducible assumption) h) | (try (conv => whnf))) | (with_reducible rfl) | (apply True.intro) | (apply infoT; rfl) | (apply bleI; rfl) | (apply fitI; rfl) | (apply cellsI; rfl) | (apply szI; rfl) | (apply guardI; kernel_rfl) | (apply WhenQ.mk; (try (conv => whnf)); rotate_left; (try (conv => whnf)); rotate_right) | (with_reducible assumption) | (apply not_of; with_reducible assumption) | (apply left_of; with_reducible assumption) | (apply left_of; apply left_of; with_reducible assumption) | (apply and_of <;> first | (with_reducible assumption) | (apply not_of; with_reducible assumption))| (refine lin_plan (by kernel_rfl) ?_; (try (conv => whnf))) | (refine ⟨_, _, rfl, idx_map (by with_reducible assumption), rfl, ?_⟩; (try (conv => whnf))) | (refine ⟨rfl, ?_⟩; (try (conv => whnf))) | (exact Nat.le_refl 1) | ((apply ex3); (focus (with_reducible assumption)); (focus (with_reducible assumption)); (try (conv => whnf))) | ((apply ex2); (focus (with_reducible assumption)); (try (conv => whnf))) | (refine PureFn.dcq (f := 47) rfl ?_; (try (conv => whnf))) | ((refine ⟨_, _, h3, ?_, ?_⟩); (focus (first | (refine ⟨?_, ?_, ?_, ?_, trivial⟩ <;> first | (exact PLe.refl _) | (exact PLe.nil)) | (exact trivial))); (try (conv => whnf))) | (refine ⟨_, (by (conv => whnf); exact h3), rfl, ?_⟩; (try (conv => whnf))) | fail)
    exact ⟨(), (by refine Wk.of ?_ ?_ rfl rfl rfl <;> (repeat' (first | (exact trivial) | (exact WkD.same _) | (exact WkO.same _ _ rfl) | (exact WkD.any _) | (exact WkD.nil _ (Or.inl rfl)) | (exact WkD.nil _ (Or.inr rfl)) | (exact WkD.fz _ _ _ rfl (Or.inl ⟨_, rfl⟩) rfl) | (exact WkD.fz _ _ _ rfl (Or.inr rfl) rfl) | (refine WkD.int ?_) | (exact WkD.new' rfl rfl rfl) | (exact WkO.new _ _ rfl) | (refine WkO.vars rfl ?_) | (with_reducible rfl) | (exact rfl) | (refine ⟨?_, ?_⟩) | ((refine wrapA ?_ ?_ ?_); (focus (simp; done)); (focus ((try dsimp only); omega)); (focus ((try dsimp only); omega))) | fail)))⟩
  rintro ⟨⟩
  refine ⟨Unit, fun _ => [(1, .pv (fpv P)), (2, .pv (fpv R)), (3, .ref 0 0), (4, .pv (.int .i64 0)), (5, .ref 1 0), (6, .pv (.int .i64 0)), (7, .ref 2 0), (8, .pv (.int .i64 0)), (9, .ref 3 0), (10, .pv (.int .i64 0))], fun _ => 4, fun _ => [(0, .var [.pv (.sl [fpv P, fpv T]), .pv (.sl [.sl [], .sl []]), .pv (.sl [rowPV [1, 2], rowPV [2, 2]])]), (1, .var [.pv (.sl [fpv P, fpv NP]), .pv (.sl [.sl [], .sl []]), .pv (.sl [rowPV [3, 3], rowPV [1, 2]])]), (2, .var [.pv (.sl [fpv P, fpv T]), .pv (.sl [.sl [], .sl []]), .pv (.sl [rowPV [1, 2], rowPV [3, 3], rowPV [2, 2]])]), (3, .var [.pv (.sl [fpv L0, fpv L1, fpv L4, fpv L5]), .pv (.sl [.sl [], .sl [], .sl [], .sl []]), .pv (.sl [rowPV [15, 15, 15, 15]])])], ?_, ?_⟩
  · (try (conv => whnf)); repeat' (first | (apply And.intro <;> (try (conv => whnf))) | (intro h; first | (with_reducible exact tf0 h) | (with_reducible exact ft0 h) | (with_reducible exact nt0 h) | (with_reducible exact nf0 h) | (exact litz h rfl) | (with_reducible exact tf h (by with_reducible assumption)) | (with_reducible exact tf (by with_reducible assumption) h) | (try (conv => whnf))) | (with_reducible rfl) | (apply True.intro) | (apply infoT; rfl) | (apply bleI; rfl) | (apply fitI; rfl) | (apply cellsI; rfl) | (apply szI; rfl) | (apply guardI; kernel_rfl) | (apply WhenQ.mk; (try (conv => whnf)); rotate_left; (try (conv => whnf)); rotate_right) | (with_reducible assumption) | (apply not_of; with_reducible assumption) | (apply left_of; with_reducible assumption) | (apply left_of; apply left_of; with_reducible assumption) | (apply and_of <;> first | (with_reducible assumption) | (apply not_of; with_reducible assumption))| (refine lin_plan (by kernel_rfl) ?_; (try (conv => whnf))) | (refine ⟨_, _, rfl, idx_map (by with_reducible assumption), rfl, ?_⟩; (try (conv => whnf))) | (refine ⟨rfl, ?_⟩; (try (conv => whnf))) | (exact Nat.le_refl 1) | ((apply ex3); (focus (with_reducible assumption)); (focus (with_reducible assumption)); (try (conv => whnf))) | ((apply ex2); (focus (with_reducible assumption)); (try (conv => whnf))) | (refine PureFn.dcq (f := 51) rfl ?_; (try (conv => whnf))) | ((refine ⟨_, _, h4, ?_, ?_⟩); (focus (first | (refine ⟨?_, ?_, ?_, trivial⟩ <;> first | (exact PLe.refl _) | (exact PLe.nil)) | (exact trivial))); (try (conv => whnf))) | (refine ⟨_, (by (conv => whnf); exact h4), rfl, ?_⟩; (try (conv => whnf))) | fail)
    exact ⟨(), (by refine Wk.of ?_ ?_ rfl rfl rfl <;> (repeat' (first | (exact trivial) | (exact WkD.same _) | (exact WkO.same _ _ rfl) | (exact WkD.any _) | (exact WkD.nil _ (Or.inl rfl)) | (exact WkD.nil _ (Or.inr rfl)) | (exact WkD.fz _ _ _ rfl (Or.inl ⟨_, rfl⟩) rfl) | (exact WkD.fz _ _ _ rfl (Or.inr rfl) rfl) | (refine WkD.int ?_) | (exact WkD.new' rfl rfl rfl) | (exact WkO.new _ _ rfl) | (refine WkO.vars rfl ?_) | (with_reducible rfl) | (exact rfl) | (refine ⟨?_, ?_⟩) | ((refine wrapA ?_ ?_ ?_); (focus (simp; done)); (focus ((try dsimp only); omega)); (focus ((try dsimp only); omega))) | fail)))⟩
  rintro ⟨⟩
  refine ⟨Unit, fun _ => [(1, .pv (fpv P)), (2, .pv (fpv R)), (3, .ref 0 0), (4, .pv (.int .i64 0)), (5, .ref 1 0), (6, .pv (.int .i64 0)), (7, .ref 2 0), (8, .pv (.int .i64 0)), (9, .ref 3 0), (10, .pv (.int .i64 0)), (11, .ref 4 0), (12, .pv (.int .i64 0))], fun _ => 5, fun _ => [(0, .var [.pv (.sl [fpv P, fpv T]), .pv (.sl [.sl [], .sl []]), .pv (.sl [rowPV [1, 2], rowPV [2, 2]])]), (1, .var [.pv (.sl [fpv P, fpv NP]), .pv (.sl [.sl [], .sl []]), .pv (.sl [rowPV [3, 3], rowPV [1, 2]])]), (2, .var [.pv (.sl [fpv P, fpv T]), .pv (.sl [.sl [], .sl []]), .pv (.sl [rowPV [1, 2], rowPV [3, 3], rowPV [2, 2]])]), (3, .var [.pv (.sl [fpv L0, fpv L1, fpv L4, fpv L5]), .pv (.sl [.sl [], .sl [], .sl [], .sl []]), .pv (.sl [rowPV [15, 15, 15, 15]])]), (4, .var [.pv (.sl [fpv T, fpv T]), .pv (.sl [.sl [.agg [.int .i64 0, fpv T]], .sl [.agg [.int .i64 0, fpv F]]]), .pv (.sl [rowPV [1, 2]])])], ?_, ?_⟩
  · (try (conv => whnf)); repeat' (first | (apply And.intro <;> (try (conv => whnf))) | (intro h; first | (with_reducible exact tf0 h) | (with_reducible exact ft0 h) | (with_reducible exact nt0 h) | (with_reducible exact nf0 h) | (exact litz h rfl) | (with_reducible exact tf h (by with_reducible assumption)) | (with_reducible exact tf (by with_reducible assumption) h) | (try (conv => whnf))) | (with_reducible rfl) | (apply True.intro) | (apply infoT; rfl) | (apply bleI; rfl) | (apply fitI; rfl) | (apply cellsI; rfl) | (apply szI; rfl) | (apply guardI; kernel_rfl) | (apply WhenQ.mk; (try (conv => whnf)); rotate_left; (try (conv => whnf)); rotate_right) | (with_reducible assumption) | (apply not_of; with_reducible assumption) | (apply left_of; with_reducible assumption) | (apply left_of; apply left_of; with_reducible assumption) | (apply and_of <;> first | (with_reducible assumption) | (apply not_of; with_reducible assumption))| (refine lin_plan (by kernel_rfl) ?_; (try (conv => whnf))) | (refine ⟨_, _, rfl, idx_map (by with_reducible assumption), rfl, ?_⟩; (try (conv => whnf))) | (refine ⟨rfl, ?_⟩; (try (conv => whnf))) | (exact Nat.le_refl 1) | ((apply ex3); (focus (with_reducible assumption)); (focus (with_reducible assumption)); (try (conv => whnf))) | ((apply ex2); (focus (with_reducible assumption)); (try (conv => whnf))) | (refine PureFn.dcq (f := 57) rfl ?_; (try (conv => whnf))) | ((refine ⟨_, _, h5, ?_, ?_⟩); (focus (first | (refine ⟨?_, ?_, ?_, trivial⟩ <;> first | (exact PLe.refl _) | (exact PLe.nil)) | (exact trivial))); (try (conv => whnf))) | (refine ⟨_, (by (conv => whnf); exact h5), rfl, ?_⟩; (try (conv => whnf))) | fail)
    exact ⟨(), (by refine Wk.of ?_ ?_ rfl rfl rfl <;> (repeat' (first | (exact trivial) | (exact WkD.same _) | (exact WkO.same _ _ rfl) | (exact WkD.any _) | (exact WkD.nil _ (Or.inl rfl)) | (exact WkD.nil _ (Or.inr rfl)) | (exact WkD.fz _ _ _ rfl (Or.inl ⟨_, rfl⟩) rfl) | (exact WkD.fz _ _ _ rfl (Or.inr rfl) rfl) | (refine WkD.int ?_) | (exact WkD.new' rfl rfl rfl) | (exact WkO.new _ _ rfl) | (refine WkO.vars rfl ?_) | (with_reducible rfl) | (exact rfl) | (refine ⟨?_, ?_⟩) | ((refine wrapA ?_ ?_ ?_); (focus (simp; done)); (focus ((try dsimp only); omega)); (focus ((try dsimp only); omega))) | fail)))⟩
  rintro ⟨⟩
  refine ⟨Unit, fun _ => [(1, .pv (fpv P)), (2, .pv (fpv R)), (9, .ref 3 0), (10, .pv (.int .i64 0)), (11, .ref 4 0)], fun _ => 5, fun _ => [(3, .var [.pv (.sl [fpv L0, fpv L1, fpv L4, fpv L5]), .pv (.sl [.sl [], .sl [], .sl [], .sl []]), .pv (.sl [rowPV [15, 15, 15, 15]])]), (4, .var [.pv (.sl [fpv T, fpv T]), .pv (.sl [.sl [.agg [.int .i64 0, fpv T]], .sl [.agg [.int .i64 0, fpv F]]]), .pv (.sl [rowPV [1, 2]])])], ?_, ?_⟩
  · (try (conv => whnf)); repeat' (first | (apply And.intro <;> (try (conv => whnf))) | (intro h; first | (with_reducible exact tf0 h) | (with_reducible exact ft0 h) | (with_reducible exact nt0 h) | (with_reducible exact nf0 h) | (exact litz h rfl) | (with_reducible exact tf h (by with_reducible assumption)) | (with_reducible exact tf (by with_reducible assumption) h) | (try (conv => whnf))) | (with_reducible rfl) | (apply True.intro) | (apply infoT; rfl) | (apply bleI; rfl) | (apply fitI; rfl) | (apply cellsI; rfl) | (apply szI; rfl) | (apply guardI; kernel_rfl) | (apply WhenQ.mk; (try (conv => whnf)); rotate_left; (try (conv => whnf)); rotate_right) | (with_reducible assumption) | (apply not_of; with_reducible assumption) | (apply left_of; with_reducible assumption) | (apply left_of; apply left_of; with_reducible assumption) | (apply and_of <;> first | (with_reducible assumption) | (apply not_of; with_reducible assumption))| (refine lin_plan (by kernel_rfl) ?_; (try (conv => whnf))) | (refine ⟨_, _, rfl, idx_map (by with_reducible assumption), rfl, ?_⟩; (try (conv => whnf))) | (refine ⟨rfl, ?_⟩; (try (conv => whnf))) | (exact Nat.le_refl 1) | ((apply ex3); (focus (with_reducible assumption)); (focus (with_reducible assumption)); (try (conv => whnf))) | ((apply ex2); (focus (with_reducible assumption)); (try (conv => whnf))) | (refine PureFn.dcq (f := 105) rfl ?_; (try (conv => whnf))) | (refine PureFn.dcq (f := 105) rfl ?_; (try (conv => whnf))) | (refine PureFn.dcq (f := 105) rfl ?_; (try (conv => whnf))) | (refine PureFn.dcq (f := 105) rfl ?_; (try (conv => whnf))) | (refine PureFn.dcq (f := 106) rfl ?_; (try (conv => whnf))) | (refine PureFn.dcq (f := 64) rfl ?_; (try (conv => whnf))) | (refine ⟨1, _, rfl, rfl, rfl, ?_⟩; (try (conv => whnf))) | ((refine ⟨_, _, r1, ?_, ?_⟩); (focus (first | (refine ⟨?_, ?_, ?_, trivial⟩ <;> first | (exact PLe.refl _) | (exact PLe.nil)) | (exact trivial))); (try (conv => whnf))) | (refine ⟨_, (by (conv => whnf); exact r1), rfl, ?_⟩; (try (conv => whnf))) | ((refine ⟨_, _, r2, ?_, ?_⟩); (focus (first | (refine ⟨?_, ?_, ?_, trivial⟩ <;> first | (exact PLe.refl _) | (exact PLe.nil)) | (exact trivial))); (try (conv => whnf))) | (refine ⟨_, (by (conv => whnf); exact r2), rfl, ?_⟩; (try (conv => whnf))) | ((refine ⟨_, _, r3, ?_, ?_⟩); (focus (first | (refine ⟨?_, ?_, ?_, trivial⟩ <;> first | (exact PLe.refl _) | (exact PLe.nil)) | (exact trivial))); (try (conv => whnf))) | (refine ⟨_, (by (conv => whnf); exact r3), rfl, ?_⟩; (try (conv => whnf))) | ((refine ⟨_, _, r5, ?_, ?_⟩); (focus (first | (refine ⟨?_, ?_, ?_, trivial⟩ <;> first | (exact PLe.refl _) | (exact PLe.nil)) | (exact trivial))); (try (conv => whnf))) | (refine ⟨_, (by (conv => whnf); exact r5), rfl, ?_⟩; (try (conv => whnf))) | ((refine ⟨_, _, hNP, ?_, ?_⟩); (focus (first | (refine ⟨?_, trivial⟩ <;> first | (exact PLe.refl _) | (exact PLe.nil)) | (exact trivial))); (try (conv => whnf))) | (refine ⟨_, (by (conv => whnf); exact hNP), rfl, ?_⟩; (try (conv => whnf))) | ((refine ⟨_, _, s1, ?_, ?_⟩); (focus (first | (refine ⟨?_, ?_, trivial⟩ <;> first | (exact PLe.refl _) | (exact PLe.nil)) | (exact trivial))); (try (conv => whnf))) | (refine ⟨_, (by (conv => whnf); exact s1), rfl, ?_⟩; (try (conv => whnf))) | fail)
    · simp at h
    · exact ⟨(), (by refine Wk.of ?_ ?_ rfl rfl rfl <;> (repeat' (first | (exact trivial) | (exact WkD.same _) | (exact WkO.same _ _ rfl) | (exact WkD.any _) | (exact WkD.nil _ (Or.inl rfl)) | (exact WkD.nil _ (Or.inr rfl)) | (exact WkD.fz _ _ _ rfl (Or.inl ⟨_, rfl⟩) rfl) | (exact WkD.fz _ _ _ rfl (Or.inr rfl) rfl) | (refine WkD.int ?_) | (exact WkD.new' rfl rfl rfl) | (exact WkO.new _ _ rfl) | (refine WkO.vars rfl ?_) | (with_reducible rfl) | (exact rfl) | (refine ⟨?_, ?_⟩) | ((refine wrapA ?_ ?_ ?_); (focus (simp; done)); (focus ((try dsimp only); omega)); (focus ((try dsimp only); omega))) | fail)))⟩
  rintro ⟨⟩
  (try (conv => whnf)); repeat' (first | (apply And.intro <;> (try (conv => whnf))) | (intro h; first | (with_reducible exact tf0 h) | (with_reducible exact ft0 h) | (with_reducible exact nt0 h) | (with_reducible exact nf0 h) | (exact litz h rfl) | (with_reducible exact tf h (by with_reducible assumption)) | (with_reducible exact tf (by with_reducible assumption) h) | (try (conv => whnf))) | (with_reducible rfl) | (apply True.intro) | (apply infoT; rfl) | (apply bleI; rfl) | (apply fitI; rfl) | (apply cellsI; rfl) | (apply szI; rfl) | (apply guardI; kernel_rfl) | (apply WhenQ.mk; (try (conv => whnf)); rotate_left; (try (conv => whnf)); rotate_right) | (with_reducible assumption) | (apply not_of; with_reducible assumption) | (apply left_of; with_reducible assumption) | (apply left_of; apply left_of; with_reducible assumption) | (apply and_of <;> first | (with_reducible assumption) | (apply not_of; with_reducible assumption))| (refine lin_plan (by kernel_rfl) ?_; (try (conv => whnf))) | (refine ⟨_, _, rfl, idx_map (by with_reducible assumption), rfl, ?_⟩; (try (conv => whnf))) | (refine ⟨rfl, ?_⟩; (try (conv => whnf))) | (exact Nat.le_refl 1) | ((apply ex3); (focus (with_reducible assumption)); (focus (with_reducible assumption)); (try (conv => whnf))) | ((apply ex2); (focus (with_reducible assumption)); (try (conv => whnf))) | (refine PureFn.dcq (f := 106) rfl ?_; (try (conv => whnf))) | (refine PureFn.dcq (f := 107) rfl ?_; (try (conv => whnf))) | (refine PureFn.dcq (f := 64) rfl ?_; (try (conv => whnf))) | (refine PureFn.dcq (f := 64) rfl ?_; (try (conv => whnf))) | (refine PureFn.dcq (f := 108) rfl ?_; (try (conv => whnf))) | (refine PureFn.dcq (f := 63) rfl ?_; (try (conv => whnf))) | (refine ⟨0, _, rfl, rfl, rfl, ?_⟩; (try (conv => whnf))) | (refine ⟨1, _, rfl, rfl, rfl, ?_⟩; (try (conv => whnf))) | ((refine ⟨_, _, hNR, ?_, ?_⟩); (focus (first | (refine ⟨?_, trivial⟩ <;> first | (exact PLe.refl _) | (exact PLe.nil)) | (exact trivial))); (try (conv => whnf))) | (refine ⟨_, (by (conv => whnf); exact hNR), rfl, ?_⟩; (try (conv => whnf))) | ((refine ⟨_, _, hPN, ?_, ?_⟩); (focus (first | (refine ⟨?_, ?_, trivial⟩ <;> first | (exact PLe.refl _) | (exact PLe.nil)) | (exact trivial))); (try (conv => whnf))) | (refine ⟨_, (by (conv => whnf); exact hPN), rfl, ?_⟩; (try (conv => whnf))) | ((refine ⟨_, _, s2, ?_, ?_⟩); (focus (first | (refine ⟨?_, ?_, trivial⟩ <;> first | (exact PLe.refl _) | (exact PLe.nil)) | (exact trivial))); (try (conv => whnf))) | (refine ⟨_, (by (conv => whnf); exact s2), rfl, ?_⟩; (try (conv => whnf))) | ((refine ⟨_, _, s3, ?_, ?_⟩); (focus (first | (refine ⟨?_, ?_, trivial⟩ <;> first | (exact PLe.refl _) | (exact PLe.nil)) | (exact trivial))); (try (conv => whnf))) | (refine ⟨_, (by (conv => whnf); exact s3), rfl, ?_⟩; (try (conv => whnf))) | ((refine ⟨_, _, hF, ?_, ?_⟩); (focus (first | (refine ⟨trivial⟩ <;> first | (exact PLe.refl _) | (exact PLe.nil)) | (exact trivial))); (try (conv => whnf))) | (refine ⟨_, (by (conv => whnf); exact hF), rfl, ?_⟩; (try (conv => whnf))) | ((refine ⟨_, _, w1, ?_, ?_⟩); (focus (first | (refine ⟨?_, ?_, trivial⟩ <;> first | (exact PLe.refl _) | (exact PLe.nil)) | (exact trivial))); (try (conv => whnf))) | (refine ⟨_, (by (conv => whnf); exact w1), rfl, ?_⟩; (try (conv => whnf))) | fail)
  exact le_bool (by simp)
end Go.Proofs.Ytibenjpkinhjhaa
set_option maxRecDepth 100000
set_option maxHeartbeats 4000000
namespace Go.Proofs.Ytibenjpkinhjhaa
open Go Go.Dv

theorem rel_small {ag n : Nat} {pc : Nat → Int} (h1 : ag ≤ 1000) (h2 : n ≤ 1000) : (relOf ag n pc).length ≤ 1000 ∧ ∀ r, r ∈ relOf ag n pc → r.length ≤ 1000 := by
  refine ⟨by simp [relOf]; omega, fun r hr => ?_⟩
  obtain ⟨a, _, rfl⟩ := List.mem_map.1 hr
  simp; omega
theorem small_no : Small noAct := ⟨fun f h => (by cases h), fun l h => (by cases h), by decide, by decide, by decide, fun r h => (by cases h)⟩
theorem ag_le {ag fact : Int} {gs : List Int} {f : List Nd} (h : (errI ag fact gs f != 0) = false) : ag.toNat ≤ 1000 := by
  obtain ⟨g1, _⟩ := errI_ok (ag := ag) (fact := fact) (gs := gs) (f := f) (by simpa using h)
  obtain ⟨n, rfl, hn⟩ := badAg_no g1
  omega
theorem one_len (x : Nd) : (buildL x []).length ≤ 200 := buildL_len _ _
theorem small_susp (ag to who : Int) (f : List Nd) : Small (suspI ag to who f).1 := by
  unfold suspI
  cases h : (errI ag 0 [to, who] f != 0) with
  | true => exact small_no
  | false =>
    refine ⟨?_, ?_, by simp, by simp, (rel_small (ag_le h) (by decide)).1, (rel_small (ag_le h) (by decide)).2⟩
    · intro g hg
      simp at hg
      rcases hg with rfl | rfl
      · exact comp_len f
      · exact one_len _
    · intro l hl; simp at hl; subst hl; exact ⟨by simp, fun x hx => by cases hx⟩
theorem small_semi (ag to : Int) (f : List Nd) : Small (semiI ag to f).1 := by
  unfold semiI
  cases h : (errI ag 0 [to] f != 0) with
  | true => exact small_no
  | false =>
    cases (((buildL (n0 4) [f]).length : Int) == 0) with
    | true => exact small_no
    | false =>
      refine ⟨?_, ?_, by simp, by simp, (rel_small (ag_le h) (by decide)).1, (rel_small (ag_le h) (by decide)).2⟩
      · intro g hg
        simp at hg
        rcases hg with rfl | rfl
        · exact comp_len f
        · exact buildL_len _ _
      · intro l hl; simp at hl; subst hl; exact ⟨by simp, fun x hx => by cases hx⟩
theorem look_mem {m : Nat} : ∀ {s : Nat} {g : List Nd}, g ∈ lookL m s → g.length ≤ 200
  | 0, g, h => by cases h
  | s + 1, g, h => by
    rw [lookL] at h
    cases hb : subM s m with
    | false => rw [hb] at h; exact look_mem h
    | true =>
      rw [hb] at h
      rcases List.mem_append.1 h with h | h
      · exact look_mem h
      · rw [List.mem_singleton.1 h]; exact joinL_len _ _ _ (buildL_len _ _)
theorem small_look (ag to m : Int) : Small (lookI ag to m).1 := by
  unfold lookI
  cases h : (errI ag 0 [to] (buildL (n0 1) []) != 0) with
  | true => exact small_no
  | false =>
    cases hm : badM m with
    | true => exact small_no
    | false =>
      cases decide (cntB m.toNat 8 > 3) with
      | true => exact small_no
      | false =>
        obtain ⟨k, rfl, hk⟩ := badM_no hm
        have hn := lookN_le k (k + 1)
        simp only [cond_false, Int.toNat_natCast]
        refine ⟨fun g hg => look_mem hg, ?_, by simp only [lookL_len]; omega, by simp; omega, (rel_small (ag_le h) (by omega)).1, (rel_small (ag_le h) (by omega)).2⟩
        intro l hl; simp at hl; rw [hl.2]; exact ⟨by simp, fun x hx => by cases hx⟩
end Go.Proofs.Ytibenjpkinhjhaa
set_option maxRecDepth 100000
set_option maxHeartbeats 4000000
namespace Go.Proofs.Ytibenjpkinhjhaa
open Go Go.Dv

theorem small_change (ag fact : Int) (f : List Nd) : Small (changeI ag fact f).1 := by
  unfold changeI
  cases h : (errI ag fact [] f != 0) with
  | true => exact small_no
  | false =>
    refine ⟨?_, ?_, by simp, by simp, (rel_small (ag_le h) (by decide)).1, (rel_small (ag_le h) (by decide)).2⟩
    · intro g hg; simp at hg; subst hg; exact one_len _
    · intro l hl; simp at hl; subst hl; exact ⟨by simp, fun x hx => by simp at hx; subst hx; exact comp_len f⟩
theorem small_secret (ag to fact : Int) (f : List Nd) : Small (secretI ag to fact f).1 := by
  unfold secretI
  cases h : (errI ag fact [to] f != 0) with
  | true => exact small_no
  | false =>
    refine ⟨?_, ?_, by simp, by simp, (rel_small (ag_le h) (by decide)).1, (rel_small (ag_le h) (by decide)).2⟩
    · intro g hg; simp at hg; subst hg; exact one_len _
    · intro l hl
      simp at hl
      rcases hl with rfl | rfl
      · exact ⟨by simp, fun x hx => by simp at hx; subst hx; exact comp_len f⟩
      · exact ⟨by simp, fun x hx => by cases hx⟩
theorem small_toss (ag to fact : Int) : Small (tossI ag to fact).1 := by
  unfold tossI
  cases h : (errI ag fact [to] (buildL (n0 1) []) != 0) with
  | true => exact small_no
  | false =>
    refine ⟨?_, ?_, by simp, by simp, (rel_small (ag_le h) (by decide)).1, (rel_small (ag_le h) (by decide)).2⟩
    · intro g hg; simp at hg; subst hg; exact one_len _
    · intro l hl
      simp at hl
      rcases hl with rfl | rfl <;> exact ⟨by simp, fun x hx => by simp at hx; subst hx; first | exact one_len (n0 1) | exact one_len (n0 2)⟩
end Go.Proofs.Ytibenjpkinhjhaa
set_option maxRecDepth 100000
namespace Go.Proofs.Ytibenjpkinhjhaa
open Go Go.Dv

/-! the length of a number in bits -/
def len64 (x : Nat) : Nat := if x = 0 then 0 else Nat.log2 x + 1
theorem len64_lt {x k : Nat} : len64 x ≤ k ↔ x < 2 ^ k := by
  unfold len64
  by_cases h : x = 0
  · subst h; simp [Nat.two_pow_pos]
  · rw [if_neg h, ← Nat.log2_lt h]; omega
theorem len64_shift {x k : Nat} (h : 2 ^ k ≤ x) : len64 x = k + len64 (x >>> k) := by
  have key : ∀ j, len64 x ≤ k + j ↔ len64 (x >>> k) ≤ j := fun j => by
    rw [len64_lt, len64_lt, Nat.shiftRight_eq_div_pow, Nat.div_lt_iff_lt_mul (Nat.two_pow_pos k), Nat.pow_add, Nat.mul_comm]
  have h1 : k < len64 x := by
    rcases Nat.lt_or_ge k (len64 x) with q | q
    · exact q
    · have q2 : len64 x ≤ k := q
      rw [len64_lt] at q2; omega
  have h2 := (key (len64 x - k)).1 (by omega)
  have h3 := (key (len64 (x >>> k))).2 (Nat.le_refl _)
  omega

/-! errors -/
def chgs (ag n : Int) : List Asg → Int → Int
  | [], _ => 0
  | x :: r, last => bif (bif decide (x.fact < 0) then true else decide (x.fact ≥ n)) then 2 else bif decide (x.fact ≤ last) then 9 else bif statI ag n x.to != 0 then statI ag n x.to else chgs ag n r x.fact
def evs' (ag n : Int) : List (List Nd) → List (List Asg) → Int
  | [], _ => 0
  | f :: r, post => bif statI ag n f != 0 then statI ag n f else bif chgs ag n (post.headD []) (-1) != 0 then chgs ag n (post.headD []) (-1) else evs' ag n r post.tail
def rowsBad (rel : List (List Nat)) (n : Nat) : Bool := rel.any fun r => ((r.length : Int) != (n : Int))
def bitsBad (rel : List (List Nat)) (n : Nat) : Bool := rel.any fun r => r.any fun s => decide ((len64 s : Int) > (n : Int))
def shapeI (a : Act) (ag : Int) : Int :=
  bif (bif decide ((a.pre.length : Int) < 1) then true else decide ((a.pre.length : Int) > 8)) then 2 else
  bif (bif (bif (a.post.length : Int) != (a.pre.length : Int) then true else (a.rel.length : Int) != ag) then true else rowsBad a.rel a.pre.length) then 3 else bif bitsBad a.rel a.pre.length then 2 else 0
def actI (a : Act) (ag n : Int) : Int :=
  bif (bif bif bif decide (ag < 0) then true else decide (ag > 4) then true else decide (n < 0) then true else decide (n > 8)) then 2 else bif shapeI a ag != 0 then shapeI a ag else evs' ag n a.pre a.post
/-- The error of an action model by itself. -/
def aloneI (a : Act) : Int := actI a (a.rel.length : Int) 8
theorem shapeI_ok {a : Act} {ag : Int} (h : shapeI a ag = 0) : 1 ≤ a.pre.length ∧ a.pre.length ≤ 8 ∧ a.post.length = a.pre.length ∧ (a.rel.length : Int) = ag ∧ rowsBad a.rel a.pre.length = false ∧ bitsBad a.rel a.pre.length = false := by
  unfold shapeI at h
  cases h1 : (bif decide ((a.pre.length : Int) < 1) then true else decide ((a.pre.length : Int) > 8)) with
  | true => rw [h1] at h; cases h
  | false =>
    rw [h1] at h
    cases h2 : (bif (bif (a.post.length : Int) != (a.pre.length : Int) then true else (a.rel.length : Int) != ag) then true else rowsBad a.rel a.pre.length) with
    | true => rw [h2] at h; cases h
    | false =>
      rw [h2] at h
      cases h3 : bitsBad a.rel a.pre.length with
      | true => rw [h3] at h; cases h
      | false =>
        cases h4 : ((a.post.length : Int) != (a.pre.length : Int)) with
        | true => rw [h4] at h2; cases h2
        | false =>
          rw [h4] at h2
          cases h5 : ((a.rel.length : Int) != ag) with
          | true => rw [h5] at h2; cases h2
          | false =>
            rw [h5] at h2
            by_cases h6 : (a.pre.length : Int) < 1
            · rw [decide_eq_true h6] at h1; cases h1
            · rw [decide_eq_false h6] at h1
              by_cases h7 : (a.pre.length : Int) > 8
              · rw [decide_eq_true h7] at h1; cases h1
              · have h8 : (a.post.length : Int) = a.pre.length := by simpa using h4
                exact ⟨by omega, by omega, by omega, by simpa using h5, h2, rfl⟩
theorem rows_ok {rel : List (List Nat)} {n : Nat} (h : rowsBad rel n = false) : ∀ r, r ∈ rel → r.length = n := by
  intro r hr
  have := List.any_eq_false.1 h r hr
  have h2 : ((r.length : Int) != (n : Int)) = false := by simpa using this
  have h3 : (r.length : Int) = (n : Int) := by simpa using h2
  omega
theorem bits_ok {rel : List (List Nat)} {n : Nat} (h : bitsBad rel n = false) : ∀ r, r ∈ rel → ∀ s, s ∈ r → s < 2 ^ n := by
  intro r hr s hs
  have h1 := List.any_eq_false.1 h r hr
  rw [← len64_lt]
  rcases Nat.lt_or_ge n (len64 s) with q | q
  · exact absurd (List.any_eq_true.2 ⟨s, hs, decide_eq_true (by omega)⟩) h1
  · exact q
/-- What an action model consists of that is without error. -/
structure OkA (a : Act) (ag n : Int) : Prop where
  ags : ag = (a.rel.length : Int)
  agn : a.rel.length ≤ 4
  n1 : 1 ≤ a.pre.length
  n8 : a.pre.length ≤ 8
  post : a.post.length = a.pre.length
  rows : ∀ r, r ∈ a.rel → r.length = a.pre.length
  bits : ∀ r, r ∈ a.rel → ∀ s, s ∈ r → s < 2 ^ a.pre.length
  ev : evs' ag n a.pre a.post = 0
theorem actI_ok {a : Act} {ag n : Int} (h : actI a ag n = 0) : OkA a ag n := by
  unfold actI at h
  cases h1 : (bif bif bif decide (ag < 0) then true else decide (ag > 4) then true else decide (n < 0) then true else decide (n > 8)) with
  | true => rw [h1] at h; cases h
  | false =>
    rw [h1] at h
    cases h2 : (shapeI a ag != 0) with
    | true => rw [h2] at h; simp only [cond_false, cond_true] at h; rw [h] at h2; cases h2
    | false =>
      rw [h2] at h
      obtain ⟨s1, s2, s3, s4, s5, s6⟩ := shapeI_ok (a := a) (ag := ag) (by simpa using h2)
      have h4 : ¬ ag > 4 := by
        intro hh
        by_cases h5 : ag < 0
        · omega
        · rw [decide_eq_false h5, decide_eq_true hh] at h1; cases h1
      exact ⟨s4.symm, by omega, s1, s2, s3, rows_ok s5, bits_ok s6, h⟩
theorem evs_drop {ag n : Int} {pre : List (List Nd)} {post : List (List Asg)} {i : Nat} (h : i < pre.length) (h2 : i < post.length) :
    evs' ag n (pre.drop i) (post.drop i) = bif statI ag n pre[i] != 0 then statI ag n pre[i] else bif chgs ag n post[i] (-1) != 0 then chgs ag n post[i] (-1) else evs' ag n (pre.drop (i + 1)) (post.drop (i + 1)) := by
  rw [List.drop_eq_getElem_cons h, List.drop_eq_getElem_cons h2]; rfl
theorem chgs_drop {ag n last : Int} {l : List Asg} {i : Nat} (h : i < l.length) :
    chgs ag n (l.drop i) last = bif (bif decide (l[i].fact < 0) then true else decide (l[i].fact ≥ n)) then 2 else bif decide (l[i].fact ≤ last) then 9 else bif statI ag n l[i].to != 0 then statI ag n l[i].to else chgs ag n (l.drop (i + 1)) l[i].fact := by
  rw [List.drop_eq_getElem_cons h]; rfl
/-- All numbers of a relation fit a word. -/
def Fit (a : Act) : Prop := ∀ r, r ∈ a.rel → ∀ s, s ∈ r → s < 2 ^ 64
end Go.Proofs.Ytibenjpkinhjhaa
