/- Parts of the proof, one after the other: Messages: Change of the program walked; Public and Skip of action models. Messages: Look of the program walked. Messages: errors, relations and Suspected, Private, Semi, Change, Secret, Toss of the reference walked. Messages: Suspected, Private, Semi, Change, Secret and Toss of the reference walked. -/
import Derived.Test.YtibenjpkinhjhaaM8
set_option maxRecDepth 100000
set_option maxHeartbeats 4000000
namespace Go.Proofs.Ytibenjpkinhjhaa
open Go Go.Dv

theorem ac_static (f : List Nd) (ag n : Int) : PureFn Try.prog 68 [fpv f, .int .i64 ag, .int .i64 n] (.int .i64 (statI ag n f)) := by
  refine PureFn.intro mixed (fn := Try.f68) rfl rfl rfl fun M w0 => ?_
  (try (conv => whnf)); repeat' (first | (apply And.intro <;> (try (conv => whnf))) | (intro h; first | (with_reducible exact tf0 h) | (with_reducible exact ft0 h) | (with_reducible exact nt0 h) | (with_reducible exact nf0 h) | (exact litz h rfl) | (with_reducible exact tf h (by with_reducible assumption)) | (with_reducible exact tf (by with_reducible assumption) h) | (try (conv => whnf))) | (with_reducible rfl) | (apply True.intro) | (apply infoT; rfl) | (apply bleI; rfl) | (apply fitI; rfl) | (apply cellsI; rfl) | (apply szI; rfl) | (apply guardI; kernel_rfl) | (apply WhenQ.mk; (try (conv => whnf)); rotate_left; (try (conv => whnf)); rotate_right) | (with_reducible assumption) | (apply not_of; with_reducible assumption) | (apply left_of; with_reducible assumption) | (apply left_of; apply left_of; with_reducible assumption) | (apply and_of <;> first | (with_reducible assumption) | (apply not_of; with_reducible assumption))| (refine lin_plan (by kernel_rfl) ?_; (try (conv => whnf))) | (refine ⟨_, _, rfl, idx_map (by with_reducible assumption), rfl, ?_⟩; (try (conv => whnf))) | (refine ⟨rfl, ?_⟩; (try (conv => whnf))) | (exact Nat.le_refl 1) | ((apply ex3); (focus (with_reducible assumption)); (focus (with_reducible assumption)); (try (conv => whnf))) | ((apply ex2); (focus (with_reducible assumption)); (try (conv => whnf))) | (refine PureFn.dcq (f := 59) rfl ?_; (try (conv => whnf))) | (refine PureFn.dcq (f := 60) rfl ?_; (try (conv => whnf))) | (refine PureFn.dcq (f := 61) rfl ?_; (try (conv => whnf))) | ((refine ⟨_, _, fm_Check ?_, ?_, ?_⟩); rotate_left 1; (focus (first | (refine ⟨?_, trivial⟩ <;> first | (exact PLe.refl _) | (exact PLe.nil)) | (exact trivial))); (try (conv => whnf))) | (refine ⟨_, (by (conv => whnf); exact fm_Check _), rfl, ?_⟩; (try (conv => whnf))) | ((refine ⟨_, _, fm_Frags ?_, ?_, ?_⟩); rotate_left 1; (focus (first | (refine ⟨?_, trivial⟩ <;> first | (exact PLe.refl _) | (exact PLe.nil)) | (exact trivial))); (try (conv => whnf))) | (refine ⟨_, (by (conv => whnf); exact fm_Frags _), rfl, ?_⟩; (try (conv => whnf))) | ((refine ⟨_, _, fm_Fits ?_ ?_ ?_, ?_, ?_⟩); rotate_left 3; (focus (first | (refine ⟨?_, ?_, ?_, trivial⟩ <;> first | (exact PLe.refl _) | (exact PLe.nil)) | (exact trivial))); (try (conv => whnf))) | (refine ⟨_, (by (conv => whnf); exact fm_Fits _ _ _), rfl, ?_⟩; (try (conv => whnf))) | fail)
  · refine le_int ?_
    rw [statI, h]; rfl
  · rename_i h1
    refine le_int ?_
    rw [statI, h1, show (nand64' (frags f : Nat) 15 != 0) = true from h]; rfl
  · rename_i h2 h1
    refine le_int ?_
    rw [statI, h2, show (nand64' (frags f : Nat) 15 != 0) = false from h1, h]; rfl
  · rename_i h2 h1
    refine le_int ?_
    rw [statI, h2, show (nand64' (frags f : Nat) 15 != 0) = false from h1, h]; rfl
def onesL (n : Nat) : List (List Nat) := List.replicate n [1]
def pubI (ag : Int) (f : List Nd) : Act × Int := bif badAg ag then (noAct, 2) else bif statI ag 8 f != 0 then (noAct, statI ag 8 f) else (⟨[comp f], [[]], onesL ag.toNat⟩, 0)
theorem onesL_succ (n : Nat) : (onesL n).map rowPV ++ [.sl [.int .u64 1]] = (onesL (n + 1)).map rowPV := by
  simp only [onesL, List.replicate_succ', List.map_append]; rfl
theorem onesL_rel (n : Nat) : relOf n 1 (fun _ => 1) = onesL n := by
  apply List.ext_getElem (by simp [relOf, onesL])
  intro i h1 h2
  simp [relOf, onesL, List.range_succ, rcell]
theorem ac_Public (ag : Int) (f : List Nd) : PureFn Try.prog 36 [.int .i64 ag, fpv f] (pairA (pubI ag f)) := by
  refine PureFn.introC [11] mixed (fn := Try.f36) rfl rfl rfl fun M w0 => ?_
  have hS := ac_static f ag 8
  have hC := fm_Compact f
  (try (conv => whnf)); repeat' (first | (apply And.intro <;> (try (conv => whnf))) | (intro h; first | (with_reducible exact tf0 h) | (with_reducible exact ft0 h) | (with_reducible exact nt0 h) | (with_reducible exact nf0 h) | (exact litz h rfl) | (with_reducible exact tf h (by with_reducible assumption)) | (with_reducible exact tf (by with_reducible assumption) h) | (try (conv => whnf))) | (with_reducible rfl) | (apply True.intro) | (apply infoT; rfl) | (apply bleI; rfl) | (apply fitI; rfl) | (apply cellsI; rfl) | (apply szI; rfl) | (apply guardI; kernel_rfl) | (apply WhenQ.mk; (try (conv => whnf)); rotate_left; (try (conv => whnf)); rotate_right) | (with_reducible assumption) | (apply not_of; with_reducible assumption) | (apply left_of; with_reducible assumption) | (apply left_of; apply left_of; with_reducible assumption) | (apply and_of <;> first | (with_reducible assumption) | (apply not_of; with_reducible assumption))| (refine lin_plan (by kernel_rfl) ?_; (try (conv => whnf))) | (refine ⟨_, _, rfl, idx_map (by with_reducible assumption), rfl, ?_⟩; (try (conv => whnf))) | (refine ⟨rfl, ?_⟩; (try (conv => whnf))) | (exact Nat.le_refl 1) | ((apply ex3); (focus (with_reducible assumption)); (focus (with_reducible assumption)); (try (conv => whnf))) | ((apply ex2); (focus (with_reducible assumption)); (try (conv => whnf))) | (refine PureFn.dcq (f := 68) rfl ?_; (try (conv => whnf))) | (refine PureFn.dcq (f := 83) rfl ?_; (try (conv => whnf))) | ((refine ⟨_, _, hS, ?_, ?_⟩); (focus (first | (refine ⟨?_, ?_, ?_, trivial⟩ <;> first | (exact PLe.refl _) | (exact PLe.nil)) | (exact trivial))); (try (conv => whnf))) | (refine ⟨_, (by (conv => whnf); exact hS), rfl, ?_⟩; (try (conv => whnf))) | ((refine ⟨_, _, hC, ?_, ?_⟩); (focus (first | (refine ⟨?_, trivial⟩ <;> first | (exact PLe.refl _) | (exact PLe.nil)) | (exact trivial))); (try (conv => whnf))) | (refine ⟨_, (by (conv => whnf); exact hC), rfl, ?_⟩; (try (conv => whnf))) | fail)
  · rw [pubI, show badAg ag = true from h]; exact le_noAct _
  · rename_i h1
    rw [pubI, show badAg ag = false from h1, h]; exact le_noAct _
  rename_i h1
  rw [pubI, show badAg ag = false from h1, h]
  obtain ⟨n, rfl, hn⟩ := badAg_no (show badAg ag = false from h1)
  refine ⟨Unit, fun _ => [(4, .ref 0 0), (7, .ref 1 0)], fun _ => 3, fun _ => [(0, .var [.pv .nil, .pv .nil, .pv .nil]), (1, .var [.pv (.sl [fpv (comp f)]), .pv (.sl [.nil]), .pv (.sl ((onesL n).map rowPV))])], ?_, ?_⟩
  · (try (conv => whnf)); repeat' (first | (apply And.intro <;> (try (conv => whnf))) | (intro h; first | (with_reducible exact tf0 h) | (with_reducible exact ft0 h) | (with_reducible exact nt0 h) | (with_reducible exact nf0 h) | (exact litz h rfl) | (with_reducible exact tf h (by with_reducible assumption)) | (with_reducible exact tf (by with_reducible assumption) h) | (try (conv => whnf))) | (with_reducible rfl) | (apply True.intro) | (apply infoT; rfl) | (apply bleI; rfl) | (apply fitI; rfl) | (apply cellsI; rfl) | (apply szI; rfl) | (apply guardI; kernel_rfl) | (apply WhenQ.mk; (try (conv => whnf)); rotate_left; (try (conv => whnf)); rotate_right) | (with_reducible assumption) | (apply not_of; with_reducible assumption) | (apply left_of; with_reducible assumption) | (apply left_of; apply left_of; with_reducible assumption) | (apply and_of <;> first | (with_reducible assumption) | (apply not_of; with_reducible assumption))| (refine lin_plan (by kernel_rfl) ?_; (try (conv => whnf))) | (refine ⟨_, _, rfl, idx_map (by with_reducible assumption), rfl, ?_⟩; (try (conv => whnf))) | (refine ⟨rfl, ?_⟩; (try (conv => whnf))) | (exact Nat.le_refl 1) | ((apply ex3); (focus (with_reducible assumption)); (focus (with_reducible assumption)); (try (conv => whnf))) | ((apply ex2); (focus (with_reducible assumption)); (try (conv => whnf))) | fail)
    refine ⟨{ i : Nat // i ≤ n }, fun i => [(4, .ref 0 0), (7, .ref 1 0), (27, .pv (i64 n)), (28, .pv (i64 i.1))], fun _ => 3, fun i => [(0, .var [.pv .nil, .pv .nil, .pv .nil]), (1, .var [.pv (.sl [fpv (comp f)]), .pv (.sl [.nil]), .buf 2 ((onesL i.1).map rowPV).length]), (2, .arr 1 ((onesL i.1).map rowPV))], fun i => n - i.1, ⟨⟨0, Nat.zero_le _⟩, (by refine Wk.of ?_ ?_ rfl rfl rfl <;> (repeat' (first | (exact trivial) | (exact WkD.same _) | (exact WkO.same _ _ rfl) | (exact WkD.any _) | (exact WkD.nil _ (Or.inl rfl)) | (exact WkD.nil _ (Or.inr rfl)) | (exact WkD.fz _ _ _ rfl (Or.inl ⟨_, rfl⟩) rfl) | (exact WkD.fz _ _ _ rfl (Or.inr rfl) rfl) | (refine WkD.int ?_) | (exact WkD.new' rfl rfl rfl) | (exact WkO.new _ _ rfl) | (refine WkO.vars rfl ?_) | (with_reducible rfl) | (exact rfl) | (refine ⟨?_, ?_⟩) | ((refine wrapA ?_ ?_ ?_); (focus (simp; done)); (focus ((try dsimp only); omega)); (focus ((try dsimp only); omega))) | fail)))⟩, ?_⟩
    rintro ⟨i, hi⟩
    (try (conv => whnf)); repeat' (first | (apply And.intro <;> (try (conv => whnf))) | (intro h; first | (with_reducible exact tf0 h) | (with_reducible exact ft0 h) | (with_reducible exact nt0 h) | (with_reducible exact nf0 h) | (exact litz h rfl) | (with_reducible exact tf h (by with_reducible assumption)) | (with_reducible exact tf (by with_reducible assumption) h) | (try (conv => whnf))) | (with_reducible rfl) | (apply True.intro) | (apply infoT; rfl) | (apply bleI; rfl) | (apply fitI; rfl) | (apply cellsI; rfl) | (apply szI; rfl) | (apply guardI; kernel_rfl) | (apply WhenQ.mk; (try (conv => whnf)); rotate_left; (try (conv => whnf)); rotate_right) | (with_reducible assumption) | (apply not_of; with_reducible assumption) | (apply left_of; with_reducible assumption) | (apply left_of; apply left_of; with_reducible assumption) | (apply and_of <;> first | (with_reducible assumption) | (apply not_of; with_reducible assumption))| (refine lin_plan (by kernel_rfl) ?_; (try (conv => whnf))) | (refine ⟨_, _, rfl, idx_map (by with_reducible assumption), rfl, ?_⟩; (try (conv => whnf))) | (refine ⟨rfl, ?_⟩; (try (conv => whnf))) | (exact Nat.le_refl 1) | ((apply ex3); (focus (with_reducible assumption)); (focus (with_reducible assumption)); (try (conv => whnf))) | ((apply ex2); (focus (with_reducible assumption)); (try (conv => whnf))) | fail)
    · show ((onesL i).map rowPV).length + 1 ≤ 4294967296
      rw [List.length_map, onesL, List.length_replicate]; omega
    · have hi' : i < n := lt_dec h
      have er := onesL_succ i
      refine ⟨⟨i + 1, hi'⟩, by show n - (i + 1) < n - i; omega, ?_⟩
      (refine Wk.of ?_ ?_ rfl rfl rfl <;> (repeat' (first | (exact trivial) | (exact WkD.same _) | (exact WkO.same _ _ rfl) | (exact WkD.eq (congrArg (fun z : List PV => DV.buf _ z.length) er)) | (exact WkO.same _ _ (congrArg (fun z => some (DObj.arr _ z)) er)) | (exact WkD.any _) | (exact WkD.nil _ (Or.inl rfl)) | (exact WkD.nil _ (Or.inr rfl)) | (exact WkD.fz _ _ _ rfl (Or.inl ⟨_, rfl⟩) rfl) | (exact WkD.fz _ _ _ rfl (Or.inr rfl) rfl) | (refine WkD.int ?_) | (exact WkD.new' rfl rfl rfl) | (exact WkO.new _ _ rfl) | (refine WkO.vars rfl ?_) | (with_reducible rfl) | (exact rfl) | (refine ⟨?_, ?_⟩) | ((refine wrapA ?_ ?_ ?_); (focus (simp; done)); (focus ((try dsimp only); omega)); (focus ((try dsimp only); omega))) | fail)))
    · have hi' : i = n := ge_dec h hi
      subst hi'
      exact ⟨(), (by refine Wk.of ?_ ?_ rfl rfl rfl <;> (repeat' (first | (exact trivial) | (exact WkD.same _) | (exact WkO.same _ _ rfl) | (exact WkD.any _) | (exact WkD.nil _ (Or.inl rfl)) | (exact WkD.nil _ (Or.inr rfl)) | (exact WkD.fz _ _ _ rfl (Or.inl ⟨_, rfl⟩) rfl) | (exact WkD.fz _ _ _ rfl (Or.inr rfl) rfl) | (refine WkD.int ?_) | (exact WkD.new' rfl rfl rfl) | (exact WkO.new _ _ rfl) | (refine WkO.vars rfl ?_) | (with_reducible rfl) | (exact rfl) | (refine ⟨?_, ?_⟩) | ((refine wrapA ?_ ?_ ?_); (focus (simp; done)); (focus ((try dsimp only); omega)); (focus ((try dsimp only); omega))) | fail)))⟩
  rintro ⟨⟩
  (try (conv => whnf)); repeat' (first | (apply And.intro <;> (try (conv => whnf))) | (intro h; first | (with_reducible exact tf0 h) | (with_reducible exact ft0 h) | (with_reducible exact nt0 h) | (with_reducible exact nf0 h) | (exact litz h rfl) | (with_reducible exact tf h (by with_reducible assumption)) | (with_reducible exact tf (by with_reducible assumption) h) | (try (conv => whnf))) | (with_reducible rfl) | (apply True.intro) | (apply infoT; rfl) | (apply bleI; rfl) | (apply fitI; rfl) | (apply cellsI; rfl) | (apply szI; rfl) | (apply guardI; kernel_rfl) | (apply WhenQ.mk; (try (conv => whnf)); rotate_left; (try (conv => whnf)); rotate_right) | (with_reducible assumption) | (apply not_of; with_reducible assumption) | (apply left_of; with_reducible assumption) | (apply left_of; apply left_of; with_reducible assumption) | (apply and_of <;> first | (with_reducible assumption) | (apply not_of; with_reducible assumption))| (refine lin_plan (by kernel_rfl) ?_; (try (conv => whnf))) | (refine ⟨_, _, rfl, idx_map (by with_reducible assumption), rfl, ?_⟩; (try (conv => whnf))) | (refine ⟨rfl, ?_⟩; (try (conv => whnf))) | (exact Nat.le_refl 1) | ((apply ex3); (focus (with_reducible assumption)); (focus (with_reducible assumption)); (try (conv => whnf))) | ((apply ex2); (focus (with_reducible assumption)); (try (conv => whnf))) | fail)
  exact PLe.tups ⟨PLe.aggs ⟨.refl _, PLe.sls ⟨.nil, trivial⟩, .refl _, trivial⟩, .refl _, trivial⟩
theorem ac_Skip (ag : Int) : PureFn Try.prog 39 [.int .i64 ag] (pairA (pubI ag (buildL (n0 1) []))) := by
  have hP := ac_Public ag (buildL (n0 1) [])
  generalize pubI ag (buildL (n0 1) []) = X at hP
  refine PureFn.intro mixed (fn := Try.f39) rfl rfl rfl fun M w0 => ?_
  (try (conv => whnf)); repeat' (first | (apply And.intro <;> (try (conv => whnf))) | (intro h; first | (with_reducible exact tf0 h) | (with_reducible exact ft0 h) | (with_reducible exact nt0 h) | (with_reducible exact nf0 h) | (exact litz h rfl) | (with_reducible exact tf h (by with_reducible assumption)) | (with_reducible exact tf (by with_reducible assumption) h) | (try (conv => whnf))) | (with_reducible rfl) | (apply True.intro) | (apply infoT; rfl) | (apply bleI; rfl) | (apply fitI; rfl) | (apply cellsI; rfl) | (apply szI; rfl) | (apply guardI; kernel_rfl) | (apply WhenQ.mk; (try (conv => whnf)); rotate_left; (try (conv => whnf)); rotate_right) | (with_reducible assumption) | (apply not_of; with_reducible assumption) | (apply left_of; with_reducible assumption) | (apply left_of; apply left_of; with_reducible assumption) | (apply and_of <;> first | (with_reducible assumption) | (apply not_of; with_reducible assumption))| (refine lin_plan (by kernel_rfl) ?_; (try (conv => whnf))) | (refine ⟨_, _, rfl, idx_map (by with_reducible assumption), rfl, ?_⟩; (try (conv => whnf))) | (refine ⟨rfl, ?_⟩; (try (conv => whnf))) | (exact Nat.le_refl 1) | ((apply ex3); (focus (with_reducible assumption)); (focus (with_reducible assumption)); (try (conv => whnf))) | ((apply ex2); (focus (with_reducible assumption)); (try (conv => whnf))) | (refine PureFn.dcq (f := 101) rfl ?_; (try (conv => whnf))) | (refine PureFn.dcq (f := 36) rfl ?_; (try (conv => whnf))) | ((refine ⟨_, _, fm_True, ?_, ?_⟩); (focus (first | (refine ⟨trivial⟩ <;> first | (exact PLe.refl _) | (exact PLe.nil)) | (exact trivial))); (try (conv => whnf))) | (refine ⟨_, (by (conv => whnf); exact fm_True), rfl, ?_⟩; (try (conv => whnf))) | ((refine ⟨_, _, hP, ?_, ?_⟩); (focus (first | (refine ⟨?_, ?_, trivial⟩ <;> first | (exact PLe.refl _) | (exact PLe.nil)) | (exact trivial))); (try (conv => whnf))) | (refine ⟨_, (by (conv => whnf); exact hP), rfl, ?_⟩; (try (conv => whnf))) | fail)
  exact .refl _
theorem stat0 : statI (0 : Nat) 8 (buildL (n0 1) []) = 0 := by kernel_rfl
theorem stat1 : statI (1 : Nat) 8 (buildL (n0 1) []) = 0 := by kernel_rfl
theorem stat2 : statI (2 : Nat) 8 (buildL (n0 1) []) = 0 := by kernel_rfl
theorem stat3 : statI (3 : Nat) 8 (buildL (n0 1) []) = 0 := by kernel_rfl
theorem stat4 : statI (4 : Nat) 8 (buildL (n0 1) []) = 0 := by kernel_rfl
theorem stat_true {n : Nat} (hn : n ≤ 4) : statI n 8 (buildL (n0 1) []) = 0 := by
  match n, hn with
  | 0, _ => exact stat0
  | 1, _ => exact stat1
  | 2, _ => exact stat2
  | 3, _ => exact stat3
  | 4, _ => exact stat4
theorem comp_true : comp (buildL (n0 1) []) = buildL (n0 1) [] := by kernel_rfl
theorem skip_is {n : Nat} (hn : n ≤ 4) : pubI n (buildL (n0 1) []) = (⟨[buildL (n0 1) []], [[]], relOf n 1 (fun _ => 1)⟩, 0) := by
  have h1 : badAg (n : Int) = false := by
    unfold badAg
    rw [decide_eq_false (by omega), decide_eq_false (by omega)]; rfl
  rw [pubI, h1, stat_true hn, comp_true, onesL_rel]; rfl
theorem ms_Change (ag fact : Int) (f : List Nd) : PureFn Try.prog 53 [.int .i64 ag, .int .i64 fact, fpv f] (pairA (changeI ag fact f)) := by
  refine PureFn.introC [4] mixed (fn := Try.f53) rfl rfl rfl fun M w0 => ?_
  have hE := ms_errors ag fact [] f (by simp)
  have hC := fm_Compact f
  have hS := ac_Skip ag
  (try (conv => whnf)); repeat' (first | (apply And.intro <;> (try (conv => whnf))) | (intro h; first | (with_reducible exact tf0 h) | (with_reducible exact ft0 h) | (with_reducible exact nt0 h) | (with_reducible exact nf0 h) | (exact litz h rfl) | (with_reducible exact tf h (by with_reducible assumption)) | (with_reducible exact tf (by with_reducible assumption) h) | (try (conv => whnf))) | (with_reducible rfl) | (apply True.intro) | (apply infoT; rfl) | (apply bleI; rfl) | (apply fitI; rfl) | (apply cellsI; rfl) | (apply szI; rfl) | (apply guardI; kernel_rfl) | (apply WhenQ.mk; (try (conv => whnf)); rotate_left; (try (conv => whnf)); rotate_right) | (with_reducible assumption) | (apply not_of; with_reducible assumption) | (apply left_of; with_reducible assumption) | (apply left_of; apply left_of; with_reducible assumption) | (apply and_of <;> first | (with_reducible assumption) | (apply not_of; with_reducible assumption))| (refine lin_plan (by kernel_rfl) ?_; (try (conv => whnf))) | (refine ⟨_, _, rfl, idx_map (by with_reducible assumption), rfl, ?_⟩; (try (conv => whnf))) | (refine ⟨rfl, ?_⟩; (try (conv => whnf))) | (exact Nat.le_refl 1) | ((apply ex3); (focus (with_reducible assumption)); (focus (with_reducible assumption)); (try (conv => whnf))) | ((apply ex2); (focus (with_reducible assumption)); (try (conv => whnf))) | fail)
  refine ⟨{ _x : Unit // (errI ag fact [] f != 0) = false }, fun _ => [(0, .pv (.int .i64 ag)), (1, .pv (.int .i64 fact)), (2, .pv (fpv f)), (6, .ref 0 0)], fun _ => 1, fun _ => [(0, .var [.pv .nil, .pv .nil, .pv .nil])], ?_, ?_⟩
  · (try (conv => whnf)); repeat' (first | (apply And.intro <;> (try (conv => whnf))) | (intro h; first | (with_reducible exact tf0 h) | (with_reducible exact ft0 h) | (with_reducible exact nt0 h) | (with_reducible exact nf0 h) | (exact litz h rfl) | (with_reducible exact tf h (by with_reducible assumption)) | (with_reducible exact tf (by with_reducible assumption) h) | (try (conv => whnf))) | (with_reducible rfl) | (apply True.intro) | (apply infoT; rfl) | (apply bleI; rfl) | (apply fitI; rfl) | (apply cellsI; rfl) | (apply szI; rfl) | (apply guardI; kernel_rfl) | (apply WhenQ.mk; (try (conv => whnf)); rotate_left; (try (conv => whnf)); rotate_right) | (with_reducible assumption) | (apply not_of; with_reducible assumption) | (apply left_of; with_reducible assumption) | (apply left_of; apply left_of; with_reducible assumption) | (apply and_of <;> first | (with_reducible assumption) | (apply not_of; with_reducible assumption))| (refine lin_plan (by kernel_rfl) ?_; (try (conv => whnf))) | (refine ⟨_, _, rfl, idx_map (by with_reducible assumption), rfl, ?_⟩; (try (conv => whnf))) | (refine ⟨rfl, ?_⟩; (try (conv => whnf))) | (exact Nat.le_refl 1) | ((apply ex3); (focus (with_reducible assumption)); (focus (with_reducible assumption)); (try (conv => whnf))) | ((apply ex2); (focus (with_reducible assumption)); (try (conv => whnf))) | (refine PureFn.dcq (f := 110) rfl ?_; (try (conv => whnf))) | ((refine ⟨_, _, hE, ?_, ?_⟩); (focus (first | (refine ⟨?_, ?_, ?_, ?_, trivial⟩ <;> first | (exact PLe.refl _) | (exact PLe.nil)) | (exact trivial))); (try (conv => whnf))) | (refine ⟨_, (by (conv => whnf); exact hE), rfl, ?_⟩; (try (conv => whnf))) | fail)
    · rw [changeI, h]; exact le_noAct _
    · exact ⟨⟨(), h⟩, (by refine Wk.of ?_ ?_ rfl rfl rfl <;> (repeat' (first | (exact trivial) | (exact WkD.same _) | (exact WkO.same _ _ rfl) | (exact WkD.any _) | (exact WkD.nil _ (Or.inl rfl)) | (exact WkD.nil _ (Or.inr rfl)) | (exact WkD.fz _ _ _ rfl (Or.inl ⟨_, rfl⟩) rfl) | (exact WkD.fz _ _ _ rfl (Or.inr rfl) rfl) | (refine WkD.int ?_) | (exact WkD.new' rfl rfl rfl) | (exact WkO.new _ _ rfl) | (refine WkO.vars rfl ?_) | (with_reducible rfl) | (exact rfl) | (refine ⟨?_, ?_⟩) | ((refine wrapA ?_ ?_ ?_); (focus (simp; done)); (focus ((try dsimp only); omega)); (focus ((try dsimp only); omega))) | fail)))⟩
  rintro ⟨_, hh⟩
  obtain ⟨g1, g2, _, _⟩ := errI_ok (ag := ag) (fact := fact) (gs := []) (f := f) (by simpa using hh)
  obtain ⟨n, rfl, hn⟩ := badAg_no g1
  rw [skip_is hn] at hS
  (try (conv => whnf)); repeat' (first | (apply And.intro <;> (try (conv => whnf))) | (intro h; first | (with_reducible exact tf0 h) | (with_reducible exact ft0 h) | (with_reducible exact nt0 h) | (with_reducible exact nf0 h) | (exact litz h rfl) | (with_reducible exact tf h (by with_reducible assumption)) | (with_reducible exact tf (by with_reducible assumption) h) | (try (conv => whnf))) | (with_reducible rfl) | (apply True.intro) | (apply infoT; rfl) | (apply bleI; rfl) | (apply fitI; rfl) | (apply cellsI; rfl) | (apply szI; rfl) | (apply guardI; kernel_rfl) | (apply WhenQ.mk; (try (conv => whnf)); rotate_left; (try (conv => whnf)); rotate_right) | (with_reducible assumption) | (apply not_of; with_reducible assumption) | (apply left_of; with_reducible assumption) | (apply left_of; apply left_of; with_reducible assumption) | (apply and_of <;> first | (with_reducible assumption) | (apply not_of; with_reducible assumption))| (refine lin_plan (by kernel_rfl) ?_; (try (conv => whnf))) | (refine ⟨_, _, rfl, idx_map (by with_reducible assumption), rfl, ?_⟩; (try (conv => whnf))) | (refine ⟨rfl, ?_⟩; (try (conv => whnf))) | (exact Nat.le_refl 1) | ((apply ex3); (focus (with_reducible assumption)); (focus (with_reducible assumption)); (try (conv => whnf))) | ((apply ex2); (focus (with_reducible assumption)); (try (conv => whnf))) | (refine PureFn.dcq (f := 39) rfl ?_; (try (conv => whnf))) | (refine PureFn.dcq (f := 83) rfl ?_; (try (conv => whnf))) | ((refine ⟨_, _, hS, ?_, ?_⟩); (focus (first | (refine ⟨?_, trivial⟩ <;> first | (exact PLe.refl _) | (exact PLe.nil)) | (exact trivial))); (try (conv => whnf))) | (refine ⟨_, (by (conv => whnf); exact hS), rfl, ?_⟩; (try (conv => whnf))) | ((refine ⟨_, _, hC, ?_, ?_⟩); (focus (first | (refine ⟨?_, trivial⟩ <;> first | (exact PLe.refl _) | (exact PLe.nil)) | (exact trivial))); (try (conv => whnf))) | (refine ⟨_, (by (conv => whnf); exact hC), rfl, ?_⟩; (try (conv => whnf))) | fail)
  · simp at h
  · rw [changeI, hh]
    exact .refl _
end Go.Proofs.Ytibenjpkinhjhaa
set_option maxRecDepth 100000
set_option maxHeartbeats 4000000
namespace Go.Proofs.Ytibenjpkinhjhaa
open Go Go.Dv

/-! bits -/
def cntB (x : Nat) : Nat → Nat
  | 0 => 0
  | i + 1 => bif x.testBit i then cntB x i + 1 else cntB x i
theorem bits_64 (x : Nat) (hx : x < 256) : PureFn Try.prog 142 [u64 x] (.int .i64 (cntB x 8 : Nat)) := by
  refine PureFn.intro mixed (fn := Try.f142) rfl rfl rfl fun M w0 => ?_
  (try (conv => whnf)); repeat' (first | (apply And.intro <;> (try (conv => whnf))) | (intro h; first | (with_reducible exact tf0 h) | (with_reducible exact ft0 h) | (with_reducible exact nt0 h) | (with_reducible exact nf0 h) | (exact litz h rfl) | (with_reducible exact tf h (by with_reducible assumption)) | (with_reducible exact tf (by with_reducible assumption) h) | (try (conv => whnf))) | (with_reducible rfl) | (apply True.intro) | (apply infoT; rfl) | (apply bleI; rfl) | (apply fitI; rfl) | (apply cellsI; rfl) | (apply szI; rfl) | (apply guardI; kernel_rfl) | (apply WhenQ.mk; (try (conv => whnf)); rotate_left; (try (conv => whnf)); rotate_right) | (with_reducible assumption) | (apply not_of; with_reducible assumption) | (apply left_of; with_reducible assumption) | (apply left_of; apply left_of; with_reducible assumption) | (apply and_of <;> first | (with_reducible assumption) | (apply not_of; with_reducible assumption))| (refine lin_plan (by kernel_rfl) ?_; (try (conv => whnf))) | (refine ⟨_, _, rfl, idx_map (by with_reducible assumption), rfl, ?_⟩; (try (conv => whnf))) | (refine ⟨rfl, ?_⟩; (try (conv => whnf))) | (exact Nat.le_refl 1) | ((apply ex3); (focus (with_reducible assumption)); (focus (with_reducible assumption)); (try (conv => whnf))) | ((apply ex2); (focus (with_reducible assumption)); (try (conv => whnf))) | fail)
  all_goals first | (show (0 : Int) ≤ _; decide) | skip
  refine le_int ?_
  clear M w0
  revert x
  decide +kernel
theorem bits_u (x : Nat) (hx : x < 256) : PureFn Try.prog 119 [u64 x] (.int .i64 (cntB x 8 : Nat)) := by
  have h64 := bits_64 x hx
  refine PureFn.intro mixed (fn := Try.f119) rfl rfl rfl fun M w0 => ?_
  (try (conv => whnf)); repeat' (first | (apply And.intro <;> (try (conv => whnf))) | (intro h; first | (with_reducible exact tf0 h) | (with_reducible exact ft0 h) | (with_reducible exact nt0 h) | (with_reducible exact nf0 h) | (exact litz h rfl) | (with_reducible exact tf h (by with_reducible assumption)) | (with_reducible exact tf (by with_reducible assumption) h) | (try (conv => whnf))) | (with_reducible rfl) | (apply True.intro) | (apply infoT; rfl) | (apply bleI; rfl) | (apply fitI; rfl) | (apply cellsI; rfl) | (apply szI; rfl) | (apply guardI; kernel_rfl) | (apply WhenQ.mk; (try (conv => whnf)); rotate_left; (try (conv => whnf)); rotate_right) | (with_reducible assumption) | (apply not_of; with_reducible assumption) | (apply left_of; with_reducible assumption) | (apply left_of; apply left_of; with_reducible assumption) | (apply and_of <;> first | (with_reducible assumption) | (apply not_of; with_reducible assumption))| (refine lin_plan (by kernel_rfl) ?_; (try (conv => whnf))) | (refine ⟨_, _, rfl, idx_map (by with_reducible assumption), rfl, ?_⟩; (try (conv => whnf))) | (refine ⟨rfl, ?_⟩; (try (conv => whnf))) | (exact Nat.le_refl 1) | ((apply ex3); (focus (with_reducible assumption)); (focus (with_reducible assumption)); (try (conv => whnf))) | ((apply ex2); (focus (with_reducible assumption)); (try (conv => whnf))) | (refine PureFn.dcq (f := 142) rfl ?_; (try (conv => whnf))) | ((refine ⟨_, _, h64, ?_, ?_⟩); (focus (first | (refine ⟨?_, trivial⟩ <;> first | (exact PLe.refl _) | (exact PLe.nil)) | (exact trivial))); (try (conv => whnf))) | (refine ⟨_, (by (conv => whnf); exact h64), rfl, ?_⟩; (try (conv => whnf))) | fail)
  exact .refl _
theorem bit64_one {s v : Nat} (hs : s < 2 ^ 62) (hv : v ≤ 64) : (and64 (shr64 s v) 1 == 1) = s.testBit v := by
  rw [bit64_and hs hv]; cases s.testBit v <;> rfl
theorem bit64_zero {s v : Nat} (hs : s < 2 ^ 62) (hv : v ≤ 64) : (and64 (shr64 s v) 1 == 0) = !s.testBit v := by
  rw [bit64_and hs hv]; cases s.testBit v <;> rfl
theorem nand_eq {a b : Nat} (ha : a < 2 ^ 62) : nand64' a b = ((a ^^^ (a &&& b) : Nat) : Int) := by
  have hlt : a ^^^ (a &&& b) < 2 ^ 62 := Nat.xor_lt_two_pow ha (Nat.lt_of_le_of_lt Nat.and_le_left ha)
  unfold nand64'
  show IntKind.wrap .i64 ((BitVec.ofInt 64 (a : Int) &&& ~~~BitVec.ofInt 64 (b : Int)).toNat : Int) = _
  rw [ofInt_nat, ofInt_nat]
  have h2 : (BitVec.ofNat 64 a &&& ~~~BitVec.ofNat 64 b).toNat = a ^^^ (a &&& b) := by
    apply Nat.eq_of_testBit_eq
    intro i
    rw [BitVec.testBit_toNat, BitVec.getLsbD_and, BitVec.getLsbD_not, BitVec.getLsbD_ofNat, BitVec.getLsbD_ofNat, Nat.testBit_xor, Nat.testBit_and]
    by_cases hi : i < 64
    · simp only [hi, decide_true, Bool.true_and]; cases a.testBit i <;> cases b.testBit i <;> rfl
    · have : a.testBit i = false := Nat.testBit_lt_two_pow (Nat.lt_of_lt_of_le (show a < 2 ^ 64 by omega) (Nat.pow_le_pow_right (by decide) (by omega)))
      simp [hi, this]
  rw [h2, wrap_small (by omega) (by omega)]
def subM (s m : Nat) : Bool := s &&& m == s
theorem nand_zero {a b : Nat} (ha : a < 2 ^ 62) : (nand64' a b == 0) = subM a b := by
  rw [nand_eq ha, subM, Bool.eq_iff_iff, beq_iff_eq, beq_iff_eq]
  constructor
  · intro h
    have h0 : a ^^^ (a &&& b) = 0 := by omega
    have h4 : (a ^^^ (a &&& b)) ^^^ (a &&& b) = a := by rw [Nat.xor_assoc, Nat.xor_self, Nat.xor_zero]
    rw [h0, Nat.zero_xor] at h4; exact h4
  · intro h
    rw [h, Nat.xor_self]; rfl

/-! the formulas of a look -/
def litX (i s : Nat) : List Nd := bif s.testBit i then buildL (nI 3 i) [] else buildL (n0 4) [buildL (nI 3 i) []]
def litsX (s m : Nat) : Nat → List (List Nd)
  | 0 => []
  | i + 1 => bif m.testBit i then litsX s m i ++ [litX i s] else litsX s m i
def litL (s m : Nat) : List Nd := joinL 5 (buildL (n0 1) []) (litsX s m 8)
def lookL (m : Nat) : Nat → List (List Nd)
  | 0 => []
  | s + 1 => bif subM s m then lookL m s ++ [litL s m] else lookL m s
def lookN (m : Nat) : Nat → Nat
  | 0 => 0
  | s + 1 => bif subM s m then lookN m s + 1 else lookN m s
theorem lookL_len (m : Nat) : ∀ s, (lookL m s).length = lookN m s
  | 0 => rfl
  | s + 1 => by
    rw [lookL, lookN]
    cases subM s m with
    | true => simp [lookL_len m s]
    | false => simp [lookL_len m s]
theorem litsX_len (s m : Nat) : ∀ i, (litsX s m i).length ≤ i
  | 0 => Nat.le_refl 0
  | i + 1 => by
    have := litsX_len s m i
    rw [litsX]
    cases m.testBit i with
    | true => simp; omega
    | false => simp; omega
theorem lookN_le (m : Nat) : ∀ s, lookN m s ≤ s
  | 0 => Nat.le_refl 0
  | s + 1 => by
    have := lookN_le m s
    rw [lookN]
    cases subM s m <;> simp <;> omega
/-- Eight events at most are three facts at most. -/
theorem look_few : ∀ m, m < 256 → (decide (lookN m (m + 1) > 8) = decide (cntB m 8 > 3)) ∧ 1 ≤ lookN m (m + 1) := by decide +kernel
def badM (m : Int) : Bool := bif decide (m < 0) then true else decide (m > 255)
def lookI (ag to m : Int) : Act × Int :=
  bif errI ag 0 [to] (buildL (n0 1) []) != 0 then (noAct, errI ag 0 [to] (buildL (n0 1) [])) else bif badM m then (noAct, 1) else bif decide (cntB m.toNat 8 > 3) then (noAct, 8)
  else (⟨lookL m.toNat (m.toNat + 1), List.replicate (lookN m.toNat (m.toNat + 1)) [], relOf ag.toNat (lookN m.toNat (m.toNat + 1)) (pcB to 1)⟩, 0)
theorem badM_no {m : Int} (h : badM m = false) : ∃ k : Nat, m = k ∧ k < 256 := by
  unfold badM at h
  by_cases h1 : m < 0
  · rw [decide_eq_true h1] at h; cases h
  · by_cases h2 : m > 255
    · rw [decide_eq_false h1, decide_eq_true h2] at h; cases h
    · exact ⟨m.toNat, by omega, by omega⟩
theorem litsX_t {s m i : Nat} {p : List Nd} (h : m.testBit i = true) (hp : litX i s = p) : (litsX s m i).map fpv ++ [fpv p] = (litsX s m (i + 1)).map fpv := by rw [litsX, h, ← hp]; simp
theorem litsX_f {s m i : Nat} (h : m.testBit i = false) : (litsX s m i).map fpv = (litsX s m (i + 1)).map fpv := by rw [litsX, h]; rfl
theorem lookL_t {m s : Nat} (h : subM s m = true) : (lookL m s).map fpv ++ [fpv (litL s m)] = (lookL m (s + 1)).map fpv := by rw [lookL, h]; simp
theorem lookL_f {m s : Nat} (h : subM s m = false) : (lookL m s).map fpv = (lookL m (s + 1)).map fpv := by rw [lookL, h]; rfl
theorem lits_t {i s : Nat} (h : s.testBit i = true) : litX i s = buildL (nI 3 i) [] := by rw [litX, h]; rfl
theorem lits_f {i s : Nat} (h : s.testBit i = false) : litX i s = buildL (n0 4) [buildL (nI 3 i) []] := by rw [litX, h]; rfl
theorem nand_t {s k : Nat} (hs : s < 2 ^ 62) (h : (nand64' s k != 0) = true) : subM s k = false := by
  rw [← nand_zero hs]; rw [bne] at h; simpa using h
theorem nand_f {s k : Nat} (hs : s < 2 ^ 62) (h : (nand64' s k != 0) = false) : subM s k = true := by
  rw [← nand_zero hs]; rw [bne] at h; simpa using h
theorem app_big {l : List PV} {n : Nat} {p : PV} (h : l.length ≤ n) (hn : n ≤ 1000) : l.length + [p].length ≤ big := by
  show l.length + 1 ≤ 4294967296; omega
theorem cnt_dec {c : Nat} : decide ((c : Int) > 3) = decide (c > 3) := by rw [Bool.eq_iff_iff, decide_eq_true_iff, decide_eq_true_iff]; omega
theorem ms_Look (ag to m : Int) : PureFn Try.prog 51 [.int .i64 ag, .int .i64 to, .int .i64 m] (pairA (lookI ag to m)) := by
  refine PureFn.introC [4, 24] mixed (fn := Try.f51) rfl rfl rfl fun M w0 => ?_
  have hE := ms_errors ag 0 [to] (buildL (n0 1) []) (by simp)
  (try (conv => whnf)); repeat' (first | (apply And.intro <;> (try (conv => whnf))) | (intro h; first | (with_reducible exact tf0 h) | (with_reducible exact ft0 h) | (with_reducible exact nt0 h) | (with_reducible exact nf0 h) | (exact litz h rfl) | (with_reducible exact tf h (by with_reducible assumption)) | (with_reducible exact tf (by with_reducible assumption) h) | (try (conv => whnf))) | (with_reducible rfl) | (apply True.intro) | (apply infoT; rfl) | (apply bleI; rfl) | (apply fitI; rfl) | (apply cellsI; rfl) | (apply szI; rfl) | (apply guardI; kernel_rfl) | (apply WhenQ.mk; (try (conv => whnf)); rotate_left; (try (conv => whnf)); rotate_right) | (with_reducible assumption) | (apply not_of; with_reducible assumption) | (apply left_of; with_reducible assumption) | (apply left_of; apply left_of; with_reducible assumption) | (apply and_of <;> first | (with_reducible assumption) | (apply not_of; with_reducible assumption))| (refine lin_plan (by kernel_rfl) ?_; (try (conv => whnf))) | (refine ⟨_, _, rfl, idx_map (by with_reducible assumption), rfl, ?_⟩; (try (conv => whnf))) | (refine ⟨rfl, ?_⟩; (try (conv => whnf))) | (exact Nat.le_refl 1) | ((apply ex3); (focus (with_reducible assumption)); (focus (with_reducible assumption)); (try (conv => whnf))) | ((apply ex2); (focus (with_reducible assumption)); (try (conv => whnf))) | fail)
  refine ⟨{ _x : Unit // (errI ag 0 [to] (buildL (n0 1) []) != 0) = false }, fun _ => [(0, .pv (.int .i64 ag)), (1, .pv (.int .i64 to)), (2, .pv (.int .i64 m)), (6, .ref 0 0)], fun _ => 1, fun _ => [(0, .var [.pv .nil, .pv .nil, .pv .nil])], ?_, ?_⟩
  · (try (conv => whnf)); repeat' (first | (apply And.intro <;> (try (conv => whnf))) | (intro h; first | (with_reducible exact tf0 h) | (with_reducible exact ft0 h) | (with_reducible exact nt0 h) | (with_reducible exact nf0 h) | (exact litz h rfl) | (with_reducible exact tf h (by with_reducible assumption)) | (with_reducible exact tf (by with_reducible assumption) h) | (try (conv => whnf))) | (with_reducible rfl) | (apply True.intro) | (apply infoT; rfl) | (apply bleI; rfl) | (apply fitI; rfl) | (apply cellsI; rfl) | (apply szI; rfl) | (apply guardI; kernel_rfl) | (apply WhenQ.mk; (try (conv => whnf)); rotate_left; (try (conv => whnf)); rotate_right) | (with_reducible assumption) | (apply not_of; with_reducible assumption) | (apply left_of; with_reducible assumption) | (apply left_of; apply left_of; with_reducible assumption) | (apply and_of <;> first | (with_reducible assumption) | (apply not_of; with_reducible assumption))| (refine lin_plan (by kernel_rfl) ?_; (try (conv => whnf))) | (refine ⟨_, _, rfl, idx_map (by with_reducible assumption), rfl, ?_⟩; (try (conv => whnf))) | (refine ⟨rfl, ?_⟩; (try (conv => whnf))) | (exact Nat.le_refl 1) | ((apply ex3); (focus (with_reducible assumption)); (focus (with_reducible assumption)); (try (conv => whnf))) | ((apply ex2); (focus (with_reducible assumption)); (try (conv => whnf))) | (refine PureFn.dcq (f := 110) rfl ?_; (try (conv => whnf))) | (refine PureFn.dcq (f := 101) rfl ?_; (try (conv => whnf))) | ((refine ⟨_, _, hE, ?_, ?_⟩); (focus (first | (refine ⟨?_, ?_, ?_, ?_, trivial⟩ <;> first | (exact PLe.refl _) | (exact PLe.nil)) | (exact trivial))); (try (conv => whnf))) | (refine ⟨_, (by (conv => whnf); exact hE), rfl, ?_⟩; (try (conv => whnf))) | ((refine ⟨_, _, fm_True, ?_, ?_⟩); (focus (first | (refine ⟨trivial⟩ <;> first | (exact PLe.refl _) | (exact PLe.nil)) | (exact trivial))); (try (conv => whnf))) | (refine ⟨_, (by (conv => whnf); exact fm_True), rfl, ?_⟩; (try (conv => whnf))) | fail)
    · rw [lookI, h]; exact le_noAct _
    · exact ⟨⟨(), h⟩, (by refine Wk.of ?_ ?_ rfl rfl rfl <;> (repeat' (first | (exact trivial) | (exact WkD.same _) | (exact WkO.same _ _ rfl) | (exact WkD.any _) | (exact WkD.nil _ (Or.inl rfl)) | (exact WkD.nil _ (Or.inr rfl)) | (exact WkD.fz _ _ _ rfl (Or.inl ⟨_, rfl⟩) rfl) | (exact WkD.fz _ _ _ rfl (Or.inr rfl) rfl) | (refine WkD.int ?_) | (exact WkD.new' rfl rfl rfl) | (exact WkO.new _ _ rfl) | (refine WkO.vars rfl ?_) | (with_reducible rfl) | (exact rfl) | (refine ⟨?_, ?_⟩) | ((refine wrapA ?_ ?_ ?_); (focus (simp; done)); (focus ((try dsimp only); omega)); (focus ((try dsimp only); omega))) | fail)))⟩
  rintro ⟨_, hh⟩
  obtain ⟨g1, g2, _, _⟩ := errI_ok (ag := ag) (fact := 0) (gs := [to]) (f := buildL (n0 1) []) (by simpa using hh)
  obtain ⟨n, rfl, hn⟩ := badAg_no g1
  have hU : ∀ k : Nat, m = k → k < 256 → PureFn Try.prog 119 [.int .u64 (IntKind.wrap .u64 m)] (.int .i64 (cntB k 8 : Nat)) := fun k e hk => by
    rw [e, wrapU (by omega) (by omega)]
    exact bits_u k hk
  (try (conv => whnf)); repeat' (first | (apply And.intro <;> (try (conv => whnf))) | (intro h; first | (with_reducible exact tf0 h) | (with_reducible exact ft0 h) | (with_reducible exact nt0 h) | (with_reducible exact nf0 h) | (exact litz h rfl) | (with_reducible exact tf h (by with_reducible assumption)) | (with_reducible exact tf (by with_reducible assumption) h) | (try (conv => whnf))) | (with_reducible rfl) | (apply True.intro) | (apply infoT; rfl) | (apply bleI; rfl) | (apply fitI; rfl) | (apply cellsI; rfl) | (apply szI; rfl) | (apply guardI; kernel_rfl) | (apply WhenQ.mk; (try (conv => whnf)); rotate_left; (try (conv => whnf)); rotate_right) | (with_reducible assumption) | (apply not_of; with_reducible assumption) | (apply left_of; with_reducible assumption) | (apply left_of; apply left_of; with_reducible assumption) | (apply and_of <;> first | (with_reducible assumption) | (apply not_of; with_reducible assumption))| (refine lin_plan (by kernel_rfl) ?_; (try (conv => whnf))) | (refine ⟨_, _, rfl, idx_map (by with_reducible assumption), rfl, ?_⟩; (try (conv => whnf))) | (refine ⟨rfl, ?_⟩; (try (conv => whnf))) | (exact Nat.le_refl 1) | ((apply ex3); (focus (with_reducible assumption)); (focus (with_reducible assumption)); (try (conv => whnf))) | ((apply ex2); (focus (with_reducible assumption)); (try (conv => whnf))) | fail)
  · rw [lookI, hh, show badM m = true from h]; exact le_noAct _
  have e1 : badM m = false := h
  obtain ⟨k, rfl, hk⟩ := badM_no e1
  have hU' := hU k rfl hk
  (try (conv => whnf)); repeat' (first | (apply And.intro <;> (try (conv => whnf))) | (intro h; first | (with_reducible exact tf0 h) | (with_reducible exact ft0 h) | (with_reducible exact nt0 h) | (with_reducible exact nf0 h) | (exact litz h rfl) | (with_reducible exact tf h (by with_reducible assumption)) | (with_reducible exact tf (by with_reducible assumption) h) | (try (conv => whnf))) | (with_reducible rfl) | (apply True.intro) | (apply infoT; rfl) | (apply bleI; rfl) | (apply fitI; rfl) | (apply cellsI; rfl) | (apply szI; rfl) | (apply guardI; kernel_rfl) | (apply WhenQ.mk; (try (conv => whnf)); rotate_left; (try (conv => whnf)); rotate_right) | (with_reducible assumption) | (apply not_of; with_reducible assumption) | (apply left_of; with_reducible assumption) | (apply left_of; apply left_of; with_reducible assumption) | (apply and_of <;> first | (with_reducible assumption) | (apply not_of; with_reducible assumption))| (refine lin_plan (by kernel_rfl) ?_; (try (conv => whnf))) | (refine ⟨_, _, rfl, idx_map (by with_reducible assumption), rfl, ?_⟩; (try (conv => whnf))) | (refine ⟨rfl, ?_⟩; (try (conv => whnf))) | (exact Nat.le_refl 1) | ((apply ex3); (focus (with_reducible assumption)); (focus (with_reducible assumption)); (try (conv => whnf))) | ((apply ex2); (focus (with_reducible assumption)); (try (conv => whnf))) | (refine PureFn.dcq (f := 119) rfl ?_; (try (conv => whnf))) | ((refine ⟨_, _, hU', ?_, ?_⟩); (focus (first | (refine ⟨?_, trivial⟩ <;> first | (exact PLe.refl _) | (exact PLe.nil)) | (exact trivial))); (try (conv => whnf))) | (refine ⟨_, (by (conv => whnf); exact hU'), rfl, ?_⟩; (try (conv => whnf))) | fail)
  · rw [lookI, hh, e1, Int.toNat_natCast, ← cnt_dec, show decide (((cntB k 8 : Nat) : Int) > 3) = true from h]; exact le_noAct _
  have e2 : decide (cntB k 8 > 3) = false := cnt_dec.symm.trans h
  have e3 := (look_few k hk).1.trans e2
  have e4 := (look_few k hk).2
  have e5 : lookN k (k + 1) ≤ 8 := Nat.not_lt.1 (of_decide_eq_false e3)
  refine ⟨Unit, fun _ => [(0, .pv (i64 n)), (1, .pv (.int .i64 to)), (6, .ref 0 0), (9, .pv (.sl ((lookL k (k + 1)).map fpv)))], fun _ => 1, fun _ => [(0, .var [.pv .nil, .pv .nil, .pv .nil])], ?_, ?_⟩
  · (try (conv => whnf)); repeat' (first | (apply And.intro <;> (try (conv => whnf))) | (intro h; first | (with_reducible exact tf0 h) | (with_reducible exact ft0 h) | (with_reducible exact nt0 h) | (with_reducible exact nf0 h) | (exact litz h rfl) | (with_reducible exact tf h (by with_reducible assumption)) | (with_reducible exact tf (by with_reducible assumption) h) | (try (conv => whnf))) | (with_reducible rfl) | (apply True.intro) | (apply infoT; rfl) | (apply bleI; rfl) | (apply fitI; rfl) | (apply cellsI; rfl) | (apply szI; rfl) | (apply guardI; kernel_rfl) | (apply WhenQ.mk; (try (conv => whnf)); rotate_left; (try (conv => whnf)); rotate_right) | (with_reducible assumption) | (apply not_of; with_reducible assumption) | (apply left_of; with_reducible assumption) | (apply left_of; apply left_of; with_reducible assumption) | (apply and_of <;> first | (with_reducible assumption) | (apply not_of; with_reducible assumption))| (refine lin_plan (by kernel_rfl) ?_; (try (conv => whnf))) | (refine ⟨_, _, rfl, idx_map (by with_reducible assumption), rfl, ?_⟩; (try (conv => whnf))) | (refine ⟨rfl, ?_⟩; (try (conv => whnf))) | (exact Nat.le_refl 1) | ((apply ex3); (focus (with_reducible assumption)); (focus (with_reducible assumption)); (try (conv => whnf))) | ((apply ex2); (focus (with_reducible assumption)); (try (conv => whnf))) | fail)
    refine ⟨{ s : Nat // s ≤ k + 1 }, fun s => [(0, .pv (i64 n)), (1, .pv (.int .i64 to)), (2, .pv (i64 k)), (6, .ref 0 0), (9, .buf 1 ((lookL k s.1).map fpv).length), (35, .pv (i64 (k + 1))), (36, .pv (i64 s.1))], fun _ => 2, fun s => [(0, .var [.pv .nil, .pv .nil, .pv .nil]), (1, .arr 1 ((lookL k s.1).map fpv))], fun s => k + 1 - s.1, ⟨⟨0, Nat.zero_le _⟩, ?_⟩, ?_⟩
    · (refine Wk.of ?_ ?_ rfl rfl rfl <;> (repeat' (first | (exact trivial) | (exact WkD.same _) | (exact WkO.same _ _ rfl) | (exact WkD.any _) | (exact WkD.nil _ (Or.inl rfl)) | (exact WkD.nil _ (Or.inr rfl)) | (exact WkD.fz _ _ _ rfl (Or.inl ⟨_, rfl⟩) rfl) | (exact WkD.fz _ _ _ rfl (Or.inr rfl) rfl) | (refine WkD.int ?_) | (exact WkD.new' rfl rfl rfl) | (exact WkO.new _ _ rfl) | (refine WkO.vars rfl ?_) | (with_reducible rfl) | (exact rfl) | (refine ⟨?_, ?_⟩) | ((refine wrapA ?_ ?_ ?_); (focus (simp; done)); (focus ((try dsimp only); omega)); (focus ((try dsimp only); omega))) | fail)))
    rintro ⟨s, hs⟩
    have hll := lookL_len k s
    have hln := lookN_le k s
    (try (conv => whnf)); repeat' (first | (apply And.intro <;> (try (conv => whnf))) | (intro h; first | (with_reducible exact tf0 h) | (with_reducible exact ft0 h) | (with_reducible exact nt0 h) | (with_reducible exact nf0 h) | (exact litz h rfl) | (with_reducible exact tf h (by with_reducible assumption)) | (with_reducible exact tf (by with_reducible assumption) h) | (try (conv => whnf))) | (with_reducible rfl) | (apply True.intro) | (apply infoT; rfl) | (apply bleI; rfl) | (apply fitI; rfl) | (apply cellsI; rfl) | (apply szI; rfl) | (apply guardI; kernel_rfl) | (apply WhenQ.mk; (try (conv => whnf)); rotate_left; (try (conv => whnf)); rotate_right) | (with_reducible assumption) | (apply not_of; with_reducible assumption) | (apply left_of; with_reducible assumption) | (apply left_of; apply left_of; with_reducible assumption) | (apply and_of <;> first | (with_reducible assumption) | (apply not_of; with_reducible assumption))| (refine lin_plan (by kernel_rfl) ?_; (try (conv => whnf))) | (refine ⟨_, _, rfl, idx_map (by with_reducible assumption), rfl, ?_⟩; (try (conv => whnf))) | (refine ⟨rfl, ?_⟩; (try (conv => whnf))) | (exact Nat.le_refl 1) | ((apply ex3); (focus (with_reducible assumption)); (focus (with_reducible assumption)); (try (conv => whnf))) | ((apply ex2); (focus (with_reducible assumption)); (try (conv => whnf))) | fail)
    · rename_i h1
      have hs' : s < k + 1 := lt_dec h1
      have hn := nand_t (show s < 2 ^ 62 by omega) h
      have er := lookL_f hn
      refine ⟨⟨s + 1, hs'⟩, by show k + 1 - (s + 1) < k + 1 - s; omega, ?_⟩
      (refine Wk.of ?_ ?_ rfl rfl rfl <;> (repeat' (first | (exact trivial) | (exact WkD.same _) | (exact WkO.same _ _ rfl) | (exact WkD.eq (congrArg (fun z : List PV => DV.buf _ z.length) er)) | (exact WkO.same _ _ (congrArg (fun z => some (DObj.arr _ z)) er)) | (exact WkD.any _) | (exact WkD.nil _ (Or.inl rfl)) | (exact WkD.nil _ (Or.inr rfl)) | (exact WkD.fz _ _ _ rfl (Or.inl ⟨_, rfl⟩) rfl) | (exact WkD.fz _ _ _ rfl (Or.inr rfl) rfl) | (refine WkD.int ?_) | (exact WkD.new' rfl rfl rfl) | (exact WkO.new _ _ rfl) | (refine WkO.vars rfl ?_) | (with_reducible rfl) | (exact rfl) | (refine ⟨?_, ?_⟩) | ((refine wrapA ?_ ?_ ?_); (focus (simp; done)); (focus ((try dsimp only); omega)); (focus ((try dsimp only); omega))) | fail)))
    · rename_i h1
      have hs' : s < k + 1 := lt_dec h1
      have hy := nand_f (show s < 2 ^ 62 by omega) h
      refine ⟨{ i : Nat // i ≤ 8 }, fun i => [(0, .pv (i64 n)), (1, .pv (.int .i64 to)), (2, .pv (i64 k)), (6, .ref 0 0), (9, .buf 1 ((lookL k s).map fpv).length), (10, .pv (i64 s)), (11, .buf 2 ((litsX s k i.1).map fpv).length), (35, .pv (i64 (k + 1))), (36, .pv (i64 s)), (43, .pv (i64 i.1))], fun _ => 3, fun i => [(0, .var [.pv .nil, .pv .nil, .pv .nil]), (1, .arr 1 ((lookL k s).map fpv)), (2, .arr 1 ((litsX s k i.1).map fpv))], fun i => 8 - i.1, ⟨⟨0, Nat.zero_le _⟩, (by refine Wk.of ?_ ?_ rfl rfl rfl <;> (repeat' (first | (exact trivial) | (exact WkD.same _) | (exact WkO.same _ _ rfl) | (exact WkD.any _) | (exact WkD.nil _ (Or.inl rfl)) | (exact WkD.nil _ (Or.inr rfl)) | (exact WkD.fz _ _ _ rfl (Or.inl ⟨_, rfl⟩) rfl) | (exact WkD.fz _ _ _ rfl (Or.inr rfl) rfl) | (refine WkD.int ?_) | (exact WkD.new' rfl rfl rfl) | (exact WkO.new _ _ rfl) | (refine WkO.vars rfl ?_) | (with_reducible rfl) | (exact rfl) | (refine ⟨?_, ?_⟩) | ((refine wrapA ?_ ?_ ?_); (focus (simp; done)); (focus ((try dsimp only); omega)); (focus ((try dsimp only); omega))) | fail)))⟩, ?_⟩
      rintro ⟨i, hi⟩
      have hxl := litsX_len s k i
      have hF := fm_Fact (i : Int)
      have hNo := fm_Not (buildL (nI 3 i) [])
      have hAl := fm_All (litsX s k i) (by omega)
      (try (conv => whnf)); repeat' (first | (apply And.intro <;> (try (conv => whnf))) | (intro h; first | (with_reducible exact tf0 h) | (with_reducible exact ft0 h) | (with_reducible exact nt0 h) | (with_reducible exact nf0 h) | (exact litz h rfl) | (with_reducible exact tf h (by with_reducible assumption)) | (with_reducible exact tf (by with_reducible assumption) h) | (try (conv => whnf))) | (with_reducible rfl) | (apply True.intro) | (apply infoT; rfl) | (apply bleI; rfl) | (apply fitI; rfl) | (apply cellsI; rfl) | (apply szI; rfl) | (apply guardI; kernel_rfl) | (apply WhenQ.mk; (try (conv => whnf)); rotate_left; (try (conv => whnf)); rotate_right) | (with_reducible assumption) | (apply not_of; with_reducible assumption) | (apply left_of; with_reducible assumption) | (apply left_of; apply left_of; with_reducible assumption) | (apply and_of <;> first | (with_reducible assumption) | (apply not_of; with_reducible assumption))| (refine lin_plan (by kernel_rfl) ?_; (try (conv => whnf))) | (refine ⟨_, _, rfl, idx_map (by with_reducible assumption), rfl, ?_⟩; (try (conv => whnf))) | (refine ⟨rfl, ?_⟩; (try (conv => whnf))) | (exact Nat.le_refl 1) | ((apply ex3); (focus (with_reducible assumption)); (focus (with_reducible assumption)); (try (conv => whnf))) | ((apply ex2); (focus (with_reducible assumption)); (try (conv => whnf))) | (refine PureFn.dcq (f := 62) rfl ?_; (try (conv => whnf))) | (refine PureFn.dcq (f := 106) rfl ?_; (try (conv => whnf))) | (refine PureFn.dcq (f := 120) rfl ?_; (try (conv => whnf))) | ((refine ⟨_, _, hF, ?_, ?_⟩); (focus (first | (refine ⟨?_, trivial⟩ <;> first | (exact PLe.refl _) | (exact PLe.nil)) | (exact trivial))); (try (conv => whnf))) | (refine ⟨_, (by (conv => whnf); exact hF), rfl, ?_⟩; (try (conv => whnf))) | ((refine ⟨_, _, hNo, ?_, ?_⟩); (focus (first | (refine ⟨?_, trivial⟩ <;> first | (exact PLe.refl _) | (exact PLe.nil)) | (exact trivial))); (try (conv => whnf))) | (refine ⟨_, (by (conv => whnf); exact hNo), rfl, ?_⟩; (try (conv => whnf))) | ((refine ⟨_, _, hAl, ?_, ?_⟩); (focus (first | (refine ⟨?_, trivial⟩ <;> first | (exact PLe.refl _) | (exact PLe.nil)) | (exact trivial))); (try (conv => whnf))) | (refine ⟨_, (by (conv => whnf); exact hAl), rfl, ?_⟩; (try (conv => whnf))) | fail)
      · exact Int.natCast_nonneg _
      · rename_i h2
        have hi' : i < 8 := lt_dec h2
        have hb : k.testBit i = false := by simpa using (bit64_zero (s := k) (v := i) (by omega) (by omega)).symm.trans h
        have er := litsX_f (s := s) hb
        refine ⟨⟨i + 1, hi'⟩, by show 8 - (i + 1) < 8 - i; omega, ?_⟩
        (refine Wk.of ?_ ?_ rfl rfl rfl <;> (repeat' (first | (exact trivial) | (exact WkD.same _) | (exact WkO.same _ _ rfl) | (exact WkD.eq (congrArg (fun z : List PV => DV.buf _ z.length) er)) | (exact WkO.same _ _ (congrArg (fun z => some (DObj.arr _ z)) er)) | (exact WkD.any _) | (exact WkD.nil _ (Or.inl rfl)) | (exact WkD.nil _ (Or.inr rfl)) | (exact WkD.fz _ _ _ rfl (Or.inl ⟨_, rfl⟩) rfl) | (exact WkD.fz _ _ _ rfl (Or.inr rfl) rfl) | (refine WkD.int ?_) | (exact WkD.new' rfl rfl rfl) | (exact WkO.new _ _ rfl) | (refine WkO.vars rfl ?_) | (with_reducible rfl) | (exact rfl) | (refine ⟨?_, ?_⟩) | ((refine wrapA ?_ ?_ ?_); (focus (simp; done)); (focus ((try dsimp only); omega)); (focus ((try dsimp only); omega))) | fail)))
      · exact Int.natCast_nonneg _
      · exact app_big (n := 8) (by simp; omega) (by decide)
      · rename_i h3 h2
        have hi' : i < 8 := lt_dec h3
        have hb : k.testBit i = true := by simpa using (bit64_zero (s := k) (v := i) (by omega) (by omega)).symm.trans h2
        have hc : s.testBit i = true := by simpa using (bit64_one (s := s) (v := i) (by omega) (by omega)).symm.trans h
        have er := litsX_t hb (lits_t hc)
        refine ⟨⟨i + 1, hi'⟩, by show 8 - (i + 1) < 8 - i; omega, ?_⟩
        (refine Wk.of ?_ ?_ rfl rfl rfl <;> (repeat' (first | (exact trivial) | (exact WkD.same _) | (exact WkO.same _ _ rfl) | (exact WkD.eq (congrArg (fun z : List PV => DV.buf _ z.length) er)) | (exact WkO.same _ _ (congrArg (fun z => some (DObj.arr _ z)) er)) | (exact WkD.any _) | (exact WkD.nil _ (Or.inl rfl)) | (exact WkD.nil _ (Or.inr rfl)) | (exact WkD.fz _ _ _ rfl (Or.inl ⟨_, rfl⟩) rfl) | (exact WkD.fz _ _ _ rfl (Or.inr rfl) rfl) | (refine WkD.int ?_) | (exact WkD.new' rfl rfl rfl) | (exact WkO.new _ _ rfl) | (refine WkO.vars rfl ?_) | (with_reducible rfl) | (exact rfl) | (refine ⟨?_, ?_⟩) | ((refine wrapA ?_ ?_ ?_); (focus (simp; done)); (focus ((try dsimp only); omega)); (focus ((try dsimp only); omega))) | fail)))
      · exact app_big (n := 8) (by simp; omega) (by decide)
      · rename_i h3 h2
        have hi' : i < 8 := lt_dec h3
        have hb : k.testBit i = true := by simpa using (bit64_zero (s := k) (v := i) (by omega) (by omega)).symm.trans h2
        have hc : s.testBit i = false := by simpa using (bit64_one (s := s) (v := i) (by omega) (by omega)).symm.trans h
        have er := litsX_t hb (lits_f hc)
        refine ⟨⟨i + 1, hi'⟩, by show 8 - (i + 1) < 8 - i; omega, ?_⟩
        (refine Wk.of ?_ ?_ rfl rfl rfl <;> (repeat' (first | (exact trivial) | (exact WkD.same _) | (exact WkO.same _ _ rfl) | (exact WkD.eq (congrArg (fun z : List PV => DV.buf _ z.length) er)) | (exact WkO.same _ _ (congrArg (fun z => some (DObj.arr _ z)) er)) | (exact WkD.any _) | (exact WkD.nil _ (Or.inl rfl)) | (exact WkD.nil _ (Or.inr rfl)) | (exact WkD.fz _ _ _ rfl (Or.inl ⟨_, rfl⟩) rfl) | (exact WkD.fz _ _ _ rfl (Or.inr rfl) rfl) | (refine WkD.int ?_) | (exact WkD.new' rfl rfl rfl) | (exact WkO.new _ _ rfl) | (refine WkO.vars rfl ?_) | (with_reducible rfl) | (exact rfl) | (refine ⟨?_, ?_⟩) | ((refine wrapA ?_ ?_ ?_); (focus (simp; done)); (focus ((try dsimp only); omega)); (focus ((try dsimp only); omega))) | fail)))
      · exact app_big (n := 257) (by simp; omega) (by decide)
      · have hi' : i = 8 := ge_dec h hi
        subst hi'
        have hs' : s < k + 1 := lt_dec h1
        have er := lookL_t hy
        refine ⟨⟨s + 1, hs'⟩, by show k + 1 - (s + 1) < k + 1 - s; omega, ?_⟩
        (refine Wk.of ?_ ?_ rfl rfl rfl <;> (repeat' (first | (exact trivial) | (exact WkD.same _) | (exact WkO.same _ _ rfl) | (exact WkD.eq (congrArg (fun z : List PV => DV.buf _ z.length) er)) | (exact WkO.same _ _ (congrArg (fun z => some (DObj.arr _ z)) er)) | (exact WkD.any _) | (exact WkD.nil _ (Or.inl rfl)) | (exact WkD.nil _ (Or.inr rfl)) | (exact WkD.fz _ _ _ rfl (Or.inl ⟨_, rfl⟩) rfl) | (exact WkD.fz _ _ _ rfl (Or.inr rfl) rfl) | (refine WkD.int ?_) | (exact WkD.new' rfl rfl rfl) | (exact WkO.new _ _ rfl) | (refine WkO.vars rfl ?_) | (with_reducible rfl) | (exact rfl) | (refine ⟨?_, ?_⟩) | ((refine wrapA ?_ ?_ ?_); (focus (simp; done)); (focus ((try dsimp only); omega)); (focus ((try dsimp only); omega))) | fail)))
    · have hs' : s = k + 1 := ge_dec h hs
      subst hs'
      exact ⟨(), (by refine Wk.of ?_ ?_ rfl rfl rfl <;> (repeat' (first | (exact trivial) | (exact WkD.same _) | (exact WkO.same _ _ rfl) | (exact WkD.any _) | (exact WkD.nil _ (Or.inl rfl)) | (exact WkD.nil _ (Or.inr rfl)) | (exact WkD.fz _ _ _ rfl (Or.inl ⟨_, rfl⟩) rfl) | (exact WkD.fz _ _ _ rfl (Or.inr rfl) rfl) | (refine WkD.int ?_) | (exact WkD.new' rfl rfl rfl) | (exact WkO.new _ _ rfl) | (refine WkO.vars rfl ?_) | (with_reducible rfl) | (exact rfl) | (refine ⟨?_, ?_⟩) | ((refine wrapA ?_ ?_ ?_); (focus (simp; done)); (focus ((try dsimp only); omega)); (focus ((try dsimp only); omega))) | fail)))⟩
  rintro ⟨⟩
  (try (conv => whnf)); repeat' (first | (apply And.intro <;> (try (conv => whnf))) | (intro h; first | (with_reducible exact tf0 h) | (with_reducible exact ft0 h) | (with_reducible exact nt0 h) | (with_reducible exact nf0 h) | (exact litz h rfl) | (with_reducible exact tf h (by with_reducible assumption)) | (with_reducible exact tf (by with_reducible assumption) h) | (try (conv => whnf))) | (with_reducible rfl) | (apply True.intro) | (apply infoT; rfl) | (apply bleI; rfl) | (apply fitI; rfl) | (apply cellsI; rfl) | (apply szI; rfl) | (apply guardI; kernel_rfl) | (apply WhenQ.mk; (try (conv => whnf)); rotate_left; (try (conv => whnf)); rotate_right) | (with_reducible assumption) | (apply not_of; with_reducible assumption) | (apply left_of; with_reducible assumption) | (apply left_of; apply left_of; with_reducible assumption) | (apply and_of <;> first | (with_reducible assumption) | (apply not_of; with_reducible assumption))| (refine lin_plan (by kernel_rfl) ?_; (try (conv => whnf))) | (refine ⟨_, _, rfl, idx_map (by with_reducible assumption), rfl, ?_⟩; (try (conv => whnf))) | (refine ⟨rfl, ?_⟩; (try (conv => whnf))) | (exact Nat.le_refl 1) | ((apply ex3); (focus (with_reducible assumption)); (focus (with_reducible assumption)); (try (conv => whnf))) | ((apply ex2); (focus (with_reducible assumption)); (try (conv => whnf))) | fail)
  refine ms_in to 1 _ _ ?_
  (try (conv => whnf)); repeat' (first | (apply And.intro <;> (try (conv => whnf))) | (intro h; first | (with_reducible exact tf0 h) | (with_reducible exact ft0 h) | (with_reducible exact nt0 h) | (with_reducible exact nf0 h) | (exact litz h rfl) | (with_reducible exact tf h (by with_reducible assumption)) | (with_reducible exact tf (by with_reducible assumption) h) | (try (conv => whnf))) | (with_reducible rfl) | (apply True.intro) | (apply infoT; rfl) | (apply bleI; rfl) | (apply fitI; rfl) | (apply cellsI; rfl) | (apply szI; rfl) | (apply guardI; kernel_rfl) | (apply WhenQ.mk; (try (conv => whnf)); rotate_left; (try (conv => whnf)); rotate_right) | (with_reducible assumption) | (apply not_of; with_reducible assumption) | (apply left_of; with_reducible assumption) | (apply left_of; apply left_of; with_reducible assumption) | (apply and_of <;> first | (with_reducible assumption) | (apply not_of; with_reducible assumption))| (refine lin_plan (by kernel_rfl) ?_; (try (conv => whnf))) | (refine ⟨_, _, rfl, idx_map (by with_reducible assumption), rfl, ?_⟩; (try (conv => whnf))) | (refine ⟨rfl, ?_⟩; (try (conv => whnf))) | (exact Nat.le_refl 1) | ((apply ex3); (focus (with_reducible assumption)); (focus (with_reducible assumption)); (try (conv => whnf))) | ((apply ex2); (focus (with_reducible assumption)); (try (conv => whnf))) | fail)
  have e6 : (lookL k (k + 1)).length = lookN k (k + 1) := lookL_len k (k + 1)
  refine model_in n (lookL k (k + 1)) to 1 hn (by omega) (by omega) _ (by decide) _ ?_
  (try (conv => whnf)); repeat' (first | (apply And.intro <;> (try (conv => whnf))) | (intro h; first | (with_reducible exact tf0 h) | (with_reducible exact ft0 h) | (with_reducible exact nt0 h) | (with_reducible exact nf0 h) | (exact litz h rfl) | (with_reducible exact tf h (by with_reducible assumption)) | (with_reducible exact tf (by with_reducible assumption) h) | (try (conv => whnf))) | (with_reducible rfl) | (apply True.intro) | (apply infoT; rfl) | (apply bleI; rfl) | (apply fitI; rfl) | (apply cellsI; rfl) | (apply szI; rfl) | (apply guardI; kernel_rfl) | (apply WhenQ.mk; (try (conv => whnf)); rotate_left; (try (conv => whnf)); rotate_right) | (with_reducible assumption) | (apply not_of; with_reducible assumption) | (apply left_of; with_reducible assumption) | (apply left_of; apply left_of; with_reducible assumption) | (apply and_of <;> first | (with_reducible assumption) | (apply not_of; with_reducible assumption))| (refine lin_plan (by kernel_rfl) ?_; (try (conv => whnf))) | (refine ⟨_, _, rfl, idx_map (by with_reducible assumption), rfl, ?_⟩; (try (conv => whnf))) | (refine ⟨rfl, ?_⟩; (try (conv => whnf))) | (exact Nat.le_refl 1) | ((apply ex3); (focus (with_reducible assumption)); (focus (with_reducible assumption)); (try (conv => whnf))) | ((apply ex2); (focus (with_reducible assumption)); (try (conv => whnf))) | fail)
  rw [e6, lookI, hh, e1, Int.toNat_natCast, e2]
  exact PLe.tups ⟨PLe.aggs ⟨.refl _, le_post _, .refl _, trivial⟩, .refl _, trivial⟩
end Go.Proofs.Ytibenjpkinhjhaa
set_option maxRecDepth 100000
set_option maxHeartbeats 4000000
namespace Go.Proofs.Ytibenjpkinhjhaa
open Go Go.Dv

theorem wrapU_pos (a : Int) : 0 ≤ IntKind.wrap .u64 a := Int.emod_nonneg _ (by decide)
theorem wrapU_nat {n : Nat} (h : n < 1000000) : IntKind.wrap .u64 (n : Int) = (n : Int) := wrapU (by omega) (by omega)
def grpI (ag to who : Int) : Int := bif badAg ag then 2 else bif [to, who].any (badG ag) then 1 else 0
theorem grp_any {n : Nat} (hn : n ≤ 4) (to who : Int) : (bif bif bif decide (to < 0) then true else decide (to ≥ shl64 1 (IntKind.wrap .u64 (n : Int))) then true else decide (who < 0) then true else decide (who ≥ shl64 1 (IntKind.wrap .u64 (n : Int)))) = [to, who].any (badG n) := by
  rw [wrapU_nat (by omega)]
  simp only [List.any_cons, List.any_nil, Bool.or_false, badG]
  cases decide (to < 0) <;> cases decide (to ≥ shl64 1 (n : Int)) <;> cases decide (who < 0) <;> rfl
theorem rg_groups (ag to who : Int) : PureFn Try.prog 114 [.int .i64 ag, .int .i64 to, .int .i64 who] (.int .i64 (grpI ag to who)) := by
  refine PureFn.intro mixed (fn := Try.f114) rfl rfl rfl fun M w0 => ?_
  (try (conv => whnf)); repeat' (first | (apply And.intro <;> (try (conv => whnf))) | (intro h; first | (with_reducible exact tf0 h) | (with_reducible exact ft0 h) | (with_reducible exact nt0 h) | (with_reducible exact nf0 h) | (exact litz h rfl) | (with_reducible exact tf h (by with_reducible assumption)) | (with_reducible exact tf (by with_reducible assumption) h) | (try (conv => whnf))) | (with_reducible rfl) | (apply True.intro) | (apply infoT; rfl) | (apply bleI; rfl) | (apply fitI; rfl) | (apply cellsI; rfl) | (apply szI; rfl) | (apply guardI; kernel_rfl) | (apply WhenQ.mk; (try (conv => whnf)); rotate_left; (try (conv => whnf)); rotate_right) | (with_reducible assumption) | (apply not_of; with_reducible assumption) | (apply left_of; with_reducible assumption) | (apply left_of; apply left_of; with_reducible assumption) | (apply and_of <;> first | (with_reducible assumption) | (apply not_of; with_reducible assumption))| (refine lin_plan (by kernel_rfl) ?_; (try (conv => whnf))) | (refine ⟨_, _, rfl, idx_map (by with_reducible assumption), rfl, ?_⟩; (try (conv => whnf))) | (refine ⟨rfl, ?_⟩; (try (conv => whnf))) | (exact Nat.le_refl 1) | ((apply ex3); (focus (with_reducible assumption)); (focus (with_reducible assumption)); (try (conv => whnf))) | ((apply ex2); (focus (with_reducible assumption)); (try (conv => whnf))) | fail)
  · refine le_int ?_
    rw [grpI, show badAg ag = true from h]; rfl
  · exact wrapU_pos _
  · exact wrapU_pos _
  · rename_i h1
    have e0 : badAg ag = false := h1
    obtain ⟨n, rfl, hn⟩ := badAg_no e0
    refine le_int ?_
    rw [grpI, e0, ← grp_any hn, show (bif bif bif decide (to < 0) then true else decide (to ≥ shl64 1 (IntKind.wrap .u64 (n : Int))) then true else decide (who < 0) then true else decide (who ≥ shl64 1 (IntKind.wrap .u64 (n : Int)))) = true from h]; rfl
  · rename_i h1
    have e0 : badAg ag = false := h1
    obtain ⟨n, rfl, hn⟩ := badAg_no e0
    refine le_int ?_
    rw [grpI, e0, ← grp_any hn, show (bif bif bif decide (to < 0) then true else decide (to ≥ shl64 1 (IntKind.wrap .u64 (n : Int))) then true else decide (who < 0) then true else decide (who ≥ shl64 1 (IntKind.wrap .u64 (n : Int)))) = false from h]; rfl
theorem rg_static (ag : Int) (f : List Nd) : PureFn Try.prog 115 [.int .i64 ag, fpv f] (.int .i64 (statI ag 8 f)) := by
  refine PureFn.intro mixed (fn := Try.f115) rfl rfl rfl fun M w0 => ?_
  (try (conv => whnf)); repeat' (first | (apply And.intro <;> (try (conv => whnf))) | (intro h; first | (with_reducible exact tf0 h) | (with_reducible exact ft0 h) | (with_reducible exact nt0 h) | (with_reducible exact nf0 h) | (exact litz h rfl) | (with_reducible exact tf h (by with_reducible assumption)) | (with_reducible exact tf (by with_reducible assumption) h) | (try (conv => whnf))) | (with_reducible rfl) | (apply True.intro) | (apply infoT; rfl) | (apply bleI; rfl) | (apply fitI; rfl) | (apply cellsI; rfl) | (apply szI; rfl) | (apply guardI; kernel_rfl) | (apply WhenQ.mk; (try (conv => whnf)); rotate_left; (try (conv => whnf)); rotate_right) | (with_reducible assumption) | (apply not_of; with_reducible assumption) | (apply left_of; with_reducible assumption) | (apply left_of; apply left_of; with_reducible assumption) | (apply and_of <;> first | (with_reducible assumption) | (apply not_of; with_reducible assumption))| (refine lin_plan (by kernel_rfl) ?_; (try (conv => whnf))) | (refine ⟨_, _, rfl, idx_map (by with_reducible assumption), rfl, ?_⟩; (try (conv => whnf))) | (refine ⟨rfl, ?_⟩; (try (conv => whnf))) | (exact Nat.le_refl 1) | ((apply ex3); (focus (with_reducible assumption)); (focus (with_reducible assumption)); (try (conv => whnf))) | ((apply ex2); (focus (with_reducible assumption)); (try (conv => whnf))) | (refine PureFn.dcq (f := 96) rfl ?_; (try (conv => whnf))) | (refine PureFn.dcq (f := 35) rfl ?_; (try (conv => whnf))) | (refine PureFn.dcq (f := 34) rfl ?_; (try (conv => whnf))) | ((refine ⟨_, _, ref_Check ?_, ?_, ?_⟩); rotate_left 1; (focus (first | (refine ⟨?_, trivial⟩ <;> first | (exact PLe.refl _) | (exact PLe.nil)) | (exact trivial))); (try (conv => whnf))) | (refine ⟨_, (by (conv => whnf); exact ref_Check _), rfl, ?_⟩; (try (conv => whnf))) | ((refine ⟨_, _, ref_Frags ?_, ?_, ?_⟩); rotate_left 1; (focus (first | (refine ⟨?_, trivial⟩ <;> first | (exact PLe.refl _) | (exact PLe.nil)) | (exact trivial))); (try (conv => whnf))) | (refine ⟨_, (by (conv => whnf); exact ref_Frags _), rfl, ?_⟩; (try (conv => whnf))) | ((refine ⟨_, _, ref_Fits ?_ ?_ ?_, ?_, ?_⟩); rotate_left 3; (focus (first | (refine ⟨?_, ?_, ?_, trivial⟩ <;> first | (exact PLe.refl _) | (exact PLe.nil)) | (exact trivial))); (try (conv => whnf))) | (refine ⟨_, (by (conv => whnf); exact ref_Fits _ _ _), rfl, ?_⟩; (try (conv => whnf))) | fail)
  · refine le_int ?_
    rw [statI, h]; rfl
  · rename_i h1
    refine le_int ?_
    rw [statI, h1, show (nand64' (frags f : Nat) 15 != 0) = true from h]; rfl
  · rename_i h2 h1
    refine le_int ?_
    rw [statI, h2, show (nand64' (frags f : Nat) 15 != 0) = false from h1, h]; rfl
  · rename_i h2 h1
    refine le_int ?_
    rw [statI, h2, show (nand64' (frags f : Nat) 15 != 0) = false from h1, h]; rfl
theorem rg_yes : PureFn Try.prog 116 [] (fpv (buildL (n0 1) [])) := by
  refine PureFn.intro mixed (fn := Try.f116) rfl rfl rfl fun M w0 => ?_
  (try (conv => whnf)); repeat' (first | (apply And.intro <;> (try (conv => whnf))) | (intro h; first | (with_reducible exact tf0 h) | (with_reducible exact ft0 h) | (with_reducible exact nt0 h) | (with_reducible exact nf0 h) | (exact litz h rfl) | (with_reducible exact tf h (by with_reducible assumption)) | (with_reducible exact tf (by with_reducible assumption) h) | (try (conv => whnf))) | (with_reducible rfl) | (apply True.intro) | (apply infoT; rfl) | (apply bleI; rfl) | (apply fitI; rfl) | (apply cellsI; rfl) | (apply szI; rfl) | (apply guardI; kernel_rfl) | (apply WhenQ.mk; (try (conv => whnf)); rotate_left; (try (conv => whnf)); rotate_right) | (with_reducible assumption) | (apply not_of; with_reducible assumption) | (apply left_of; with_reducible assumption) | (apply left_of; apply left_of; with_reducible assumption) | (apply and_of <;> first | (with_reducible assumption) | (apply not_of; with_reducible assumption))| (refine lin_plan (by kernel_rfl) ?_; (try (conv => whnf))) | (refine ⟨_, _, rfl, idx_map (by with_reducible assumption), rfl, ?_⟩; (try (conv => whnf))) | (refine ⟨rfl, ?_⟩; (try (conv => whnf))) | (exact Nat.le_refl 1) | ((apply ex3); (focus (with_reducible assumption)); (focus (with_reducible assumption)); (try (conv => whnf))) | ((apply ex2); (focus (with_reducible assumption)); (try (conv => whnf))) | fail)
  exact .refl _
def chgI (ag to fact : Int) : Int := bif grpI ag to 0 != 0 then grpI ag to 0 else bif badF fact then 2 else 0
theorem rg_change (ag to fact : Int) : PureFn Try.prog 122 [.int .i64 ag, .int .i64 to, .int .i64 fact] (.int .i64 (chgI ag to fact)) := by
  refine PureFn.intro mixed (fn := Try.f122) rfl rfl rfl fun M w0 => ?_
  have hG := rg_groups ag to 0
  (try (conv => whnf)); repeat' (first | (apply And.intro <;> (try (conv => whnf))) | (intro h; first | (with_reducible exact tf0 h) | (with_reducible exact ft0 h) | (with_reducible exact nt0 h) | (with_reducible exact nf0 h) | (exact litz h rfl) | (with_reducible exact tf h (by with_reducible assumption)) | (with_reducible exact tf (by with_reducible assumption) h) | (try (conv => whnf))) | (with_reducible rfl) | (apply True.intro) | (apply infoT; rfl) | (apply bleI; rfl) | (apply fitI; rfl) | (apply cellsI; rfl) | (apply szI; rfl) | (apply guardI; kernel_rfl) | (apply WhenQ.mk; (try (conv => whnf)); rotate_left; (try (conv => whnf)); rotate_right) | (with_reducible assumption) | (apply not_of; with_reducible assumption) | (apply left_of; with_reducible assumption) | (apply left_of; apply left_of; with_reducible assumption) | (apply and_of <;> first | (with_reducible assumption) | (apply not_of; with_reducible assumption))| (refine lin_plan (by kernel_rfl) ?_; (try (conv => whnf))) | (refine ⟨_, _, rfl, idx_map (by with_reducible assumption), rfl, ?_⟩; (try (conv => whnf))) | (refine ⟨rfl, ?_⟩; (try (conv => whnf))) | (exact Nat.le_refl 1) | ((apply ex3); (focus (with_reducible assumption)); (focus (with_reducible assumption)); (try (conv => whnf))) | ((apply ex2); (focus (with_reducible assumption)); (try (conv => whnf))) | (refine PureFn.dcq (f := 114) rfl ?_; (try (conv => whnf))) | ((refine ⟨_, _, hG, ?_, ?_⟩); (focus (first | (refine ⟨?_, ?_, ?_, trivial⟩ <;> first | (exact PLe.refl _) | (exact PLe.nil)) | (exact trivial))); (try (conv => whnf))) | (refine ⟨_, (by (conv => whnf); exact hG), rfl, ?_⟩; (try (conv => whnf))) | fail)
  · refine le_int ?_
    rw [chgI, h]; rfl
  · rename_i h1
    refine le_int ?_
    rw [chgI, h1, show badF fact = true from h]; rfl
  · rename_i h1
    refine le_int ?_
    rw [chgI, h1, show badF fact = false from h]; rfl

/-! relations -/
def rcR (n e a : Nat) (to who : Int) (other : Nat) : Nat := bif and64 (shr64 to a) 1 == 1 then 2 ^ e else bif and64 (shr64 who a) 1 == 1 then 2 ^ n - 1 else 2 ^ other
def rowR (n a : Nat) (to who : Int) (other : Nat) (e : Nat) : List PV := (List.range e).map fun j => u64 (rcR n j a to who other)
def relR (n : Nat) (to who : Int) (other : Nat) (i : Nat) : List PV := (List.range i).map fun a => PV.sl (rowR n a to who other n)
theorem rowR_succ {n a e other : Nat} {to who : Int} {p : PV} (h : p = u64 (rcR n e a to who other)) : rowR n a to who other e ++ [p] = rowR n a to who other (e + 1) := by rw [h]; simp [rowR, List.range_succ]
theorem rowR_len (n a : Nat) (to who : Int) (other e : Nat) : (rowR n a to who other e).length = e := by simp [rowR]
theorem relR_succ (n : Nat) (to who : Int) (other i : Nat) : relR n to who other i ++ [PV.sl (rowR n i to who other n)] = relR n to who other (i + 1) := by simp [relR, List.range_succ]
theorem relR_len (n : Nat) (to who : Int) (other i : Nat) : (relR n to who other i).length = i := by simp [relR]
theorem relR_eq {n : Nat} {to who : Int} {other ag : Nat} {pc : Nat → Int} (h : ∀ a, a < ag → ∀ e, e < n → rcR n e a to who other = rcell n e (pc a)) : relR n to who other ag = (relOf ag n pc).map rowPV := by
  rw [relR, relOf, List.map_map]
  apply List.map_congr_left
  intro a ha
  show PV.sl _ = PV.sl _
  rw [rowR, List.map_map]
  congr 1
  apply List.map_congr_left
  intro e he
  show u64 _ = u64 _
  rw [h a (List.mem_range.1 ha) e (List.mem_range.1 he)]
theorem val_one {k : Nat} (hk : k ≤ 8) : shlU 1 (IntKind.wrap .u64 (k : Int)) = ((2 ^ k : Nat) : Int) := by rw [wrapU_nat (by omega), shlU_nat (by omega)]
theorem val_all {k : Nat} (hk : k ≤ 8) : IntKind.wrap .u64 (shlU 1 (IntKind.wrap .u64 (k : Int)) - 1) = ((2 ^ k - 1 : Nat) : Int) := by
  have h1 : 2 ^ k ≤ 2 ^ 8 := Nat.pow_le_pow_right (by decide) hk
  have h2 : 1 ≤ 2 ^ k := Nat.one_le_two_pow
  rw [val_one hk, wrapU (by omega) (by omega)]; omega
theorem rg_relation (ag n : Nat) (to who : Int) (other : Nat) (hag : ag ≤ 4) (hn : n ≤ 8) (ho : other ≤ 8) : PureFn Try.prog 117 [.int .i64 (ag : Int), .int .i64 (n : Int), .int .i64 to, .int .i64 who, .int .i64 (other : Int)] (.sl (relR n to who other ag)) := by
  refine PureFn.introC [12, 14] mixed (fn := Try.f117) rfl rfl rfl fun M w0 => ?_
  (try (conv => whnf)); repeat' (first | (apply And.intro <;> (try (conv => whnf))) | (intro h; first | (with_reducible exact tf0 h) | (with_reducible exact ft0 h) | (with_reducible exact nt0 h) | (with_reducible exact nf0 h) | (exact litz h rfl) | (with_reducible exact tf h (by with_reducible assumption)) | (with_reducible exact tf (by with_reducible assumption) h) | (try (conv => whnf))) | (with_reducible rfl) | (apply True.intro) | (apply infoT; rfl) | (apply bleI; rfl) | (apply fitI; rfl) | (apply cellsI; rfl) | (apply szI; rfl) | (apply guardI; kernel_rfl) | (apply WhenQ.mk; (try (conv => whnf)); rotate_left; (try (conv => whnf)); rotate_right) | (with_reducible assumption) | (apply not_of; with_reducible assumption) | (apply left_of; with_reducible assumption) | (apply left_of; apply left_of; with_reducible assumption) | (apply and_of <;> first | (with_reducible assumption) | (apply not_of; with_reducible assumption))| (refine lin_plan (by kernel_rfl) ?_; (try (conv => whnf))) | (refine ⟨_, _, rfl, idx_map (by with_reducible assumption), rfl, ?_⟩; (try (conv => whnf))) | (refine ⟨rfl, ?_⟩; (try (conv => whnf))) | (exact Nat.le_refl 1) | ((apply ex3); (focus (with_reducible assumption)); (focus (with_reducible assumption)); (try (conv => whnf))) | ((apply ex2); (focus (with_reducible assumption)); (try (conv => whnf))) | fail)
  refine ⟨{ i : Nat // i ≤ ag }, fun i => [(0, .pv (i64 ag)), (1, .pv (i64 n)), (2, .pv (.int .i64 to)), (3, .pv (.int .i64 who)), (4, .pv (i64 other)), (11, .buf 0 (relR n to who other i.1).length), (12, .pv (i64 i.1))], fun _ => 1, fun i => [(0, .arr 1 (relR n to who other i.1))], fun i => ag - i.1, ⟨⟨0, Nat.zero_le _⟩, (by refine Wk.of ?_ ?_ rfl rfl rfl <;> (repeat' (first | (exact trivial) | (exact WkD.same _) | (exact WkO.same _ _ rfl) | (exact WkD.any _) | (exact WkD.nil _ (Or.inl rfl)) | (exact WkD.nil _ (Or.inr rfl)) | (exact WkD.fz _ _ _ rfl (Or.inl ⟨_, rfl⟩) rfl) | (exact WkD.fz _ _ _ rfl (Or.inr rfl) rfl) | (refine WkD.int ?_) | (exact WkD.new' rfl rfl rfl) | (exact WkO.new _ _ rfl) | (refine WkO.vars rfl ?_) | (with_reducible rfl) | (exact rfl) | (refine ⟨?_, ?_⟩) | ((refine wrapA ?_ ?_ ?_); (focus (simp; done)); (focus ((try dsimp only); omega)); (focus ((try dsimp only); omega))) | fail)))⟩, ?_⟩
  rintro ⟨i, hi⟩
  have hrl := relR_len n to who other i
  (try (conv => whnf)); repeat' (first | (apply And.intro <;> (try (conv => whnf))) | (intro h; first | (with_reducible exact tf0 h) | (with_reducible exact ft0 h) | (with_reducible exact nt0 h) | (with_reducible exact nf0 h) | (exact litz h rfl) | (with_reducible exact tf h (by with_reducible assumption)) | (with_reducible exact tf (by with_reducible assumption) h) | (try (conv => whnf))) | (with_reducible rfl) | (apply True.intro) | (apply infoT; rfl) | (apply bleI; rfl) | (apply fitI; rfl) | (apply cellsI; rfl) | (apply szI; rfl) | (apply guardI; kernel_rfl) | (apply WhenQ.mk; (try (conv => whnf)); rotate_left; (try (conv => whnf)); rotate_right) | (with_reducible assumption) | (apply not_of; with_reducible assumption) | (apply left_of; with_reducible assumption) | (apply left_of; apply left_of; with_reducible assumption) | (apply and_of <;> first | (with_reducible assumption) | (apply not_of; with_reducible assumption))| (refine lin_plan (by kernel_rfl) ?_; (try (conv => whnf))) | (refine ⟨_, _, rfl, idx_map (by with_reducible assumption), rfl, ?_⟩; (try (conv => whnf))) | (refine ⟨rfl, ?_⟩; (try (conv => whnf))) | (exact Nat.le_refl 1) | ((apply ex3); (focus (with_reducible assumption)); (focus (with_reducible assumption)); (try (conv => whnf))) | ((apply ex2); (focus (with_reducible assumption)); (try (conv => whnf))) | fail)
  · have hi' : i < ag := lt_dec h
    refine ⟨{ e : Nat // e ≤ n }, fun e => [(0, .pv (i64 ag)), (1, .pv (i64 n)), (2, .pv (.int .i64 to)), (3, .pv (.int .i64 who)), (4, .pv (i64 other)), (11, .buf 0 (relR n to who other i).length), (12, .pv (i64 i)), (13, .buf 1 (rowR n i to who other e.1).length), (14, .pv (i64 e.1))], fun _ => 2, fun e => [(0, .arr 1 (relR n to who other i)), (1, .arr 1 (rowR n i to who other e.1))], fun e => n - e.1, ⟨⟨0, Nat.zero_le _⟩, (by refine Wk.of ?_ ?_ rfl rfl rfl <;> (repeat' (first | (exact trivial) | (exact WkD.same _) | (exact WkO.same _ _ rfl) | (exact WkD.any _) | (exact WkD.nil _ (Or.inl rfl)) | (exact WkD.nil _ (Or.inr rfl)) | (exact WkD.fz _ _ _ rfl (Or.inl ⟨_, rfl⟩) rfl) | (exact WkD.fz _ _ _ rfl (Or.inr rfl) rfl) | (refine WkD.int ?_) | (exact WkD.new' rfl rfl rfl) | (exact WkO.new _ _ rfl) | (refine WkO.vars rfl ?_) | (with_reducible rfl) | (exact rfl) | (refine ⟨?_, ?_⟩) | ((refine wrapA ?_ ?_ ?_); (focus (simp; done)); (focus ((try dsimp only); omega)); (focus ((try dsimp only); omega))) | fail)))⟩, ?_⟩
    rintro ⟨e, he⟩
    have hwl := rowR_len n i to who other e
    have hwi := wrapU_nat (n := i) (by omega)
    (try (conv => whnf)); repeat' (first | (apply And.intro <;> (try (conv => whnf))) | (intro h; first | (with_reducible exact tf0 h) | (with_reducible exact ft0 h) | (with_reducible exact nt0 h) | (with_reducible exact nf0 h) | (exact litz h rfl) | (with_reducible exact tf h (by with_reducible assumption)) | (with_reducible exact tf (by with_reducible assumption) h) | (try (conv => whnf))) | (with_reducible rfl) | (apply True.intro) | (apply infoT; rfl) | (apply bleI; rfl) | (apply fitI; rfl) | (apply cellsI; rfl) | (apply szI; rfl) | (apply guardI; kernel_rfl) | (apply WhenQ.mk; (try (conv => whnf)); rotate_left; (try (conv => whnf)); rotate_right) | (with_reducible assumption) | (apply not_of; with_reducible assumption) | (apply left_of; with_reducible assumption) | (apply left_of; apply left_of; with_reducible assumption) | (apply and_of <;> first | (with_reducible assumption) | (apply not_of; with_reducible assumption))| (refine lin_plan (by kernel_rfl) ?_; (try (conv => whnf))) | (refine ⟨_, _, rfl, idx_map (by with_reducible assumption), rfl, ?_⟩; (try (conv => whnf))) | (refine ⟨rfl, ?_⟩; (try (conv => whnf))) | (exact Nat.le_refl 1) | ((apply ex3); (focus (with_reducible assumption)); (focus (with_reducible assumption)); (try (conv => whnf))) | ((apply ex2); (focus (with_reducible assumption)); (try (conv => whnf))) | fail)
    · exact wrapU_pos _
    · have he' : e < n := lt_dec h
      refine ⟨Unit, fun _ => [(0, .pv (i64 ag)), (1, .pv (i64 n)), (2, .pv (.int .i64 to)), (3, .pv (.int .i64 who)), (4, .pv (i64 other)), (11, .buf 0 (relR n to who other i).length), (12, .pv (i64 i)), (13, .buf 1 (rowR n i to who other e).length), (14, .pv (i64 e)), (15, .pv (u64 (bif and64 (shr64 who i) 1 == 1 then 2 ^ n - 1 else 2 ^ other)))], fun _ => 2, fun _ => [(0, .arr 1 (relR n to who other i)), (1, .arr 1 (rowR n i to who other e))], ?_, ?_⟩
      · (try (conv => whnf)); repeat' (first | (apply And.intro <;> (try (conv => whnf))) | (intro h; first | (with_reducible exact tf0 h) | (with_reducible exact ft0 h) | (with_reducible exact nt0 h) | (with_reducible exact nf0 h) | (exact litz h rfl) | (with_reducible exact tf h (by with_reducible assumption)) | (with_reducible exact tf (by with_reducible assumption) h) | (try (conv => whnf))) | (with_reducible rfl) | (apply True.intro) | (apply infoT; rfl) | (apply bleI; rfl) | (apply fitI; rfl) | (apply cellsI; rfl) | (apply szI; rfl) | (apply guardI; kernel_rfl) | (apply WhenQ.mk; (try (conv => whnf)); rotate_left; (try (conv => whnf)); rotate_right) | (with_reducible assumption) | (apply not_of; with_reducible assumption) | (apply left_of; with_reducible assumption) | (apply left_of; apply left_of; with_reducible assumption) | (apply and_of <;> first | (with_reducible assumption) | (apply not_of; with_reducible assumption))| (refine lin_plan (by kernel_rfl) ?_; (try (conv => whnf))) | (refine ⟨_, _, rfl, idx_map (by with_reducible assumption), rfl, ?_⟩; (try (conv => whnf))) | (refine ⟨rfl, ?_⟩; (try (conv => whnf))) | (exact Nat.le_refl 1) | ((apply ex3); (focus (with_reducible assumption)); (focus (with_reducible assumption)); (try (conv => whnf))) | ((apply ex2); (focus (with_reducible assumption)); (try (conv => whnf))) | fail)
        · exact wrapU_pos _
        · exact wrapU_pos _
        · have h2 : (and64 (shr64 who (IntKind.wrap .u64 (i : Int))) 1 == 1) = true := h
          rw [hwi] at h2
          rw [h2]
          refine ⟨(), ?_⟩
          (refine Wk.of ?_ ?_ rfl rfl rfl <;> (repeat' (first | (exact trivial) | (exact WkD.same _) | (exact WkO.same _ _ rfl) | (exact WkD.any _) | (exact WkD.nil _ (Or.inl rfl)) | (exact WkD.nil _ (Or.inr rfl)) | (exact WkD.fz _ _ _ rfl (Or.inl ⟨_, rfl⟩) rfl) | (exact WkD.fz _ _ _ rfl (Or.inr rfl) rfl) | (refine WkD.int ?_) | (exact WkD.new' rfl rfl rfl) | (exact WkO.new _ _ rfl) | (refine WkO.vars rfl ?_) | (with_reducible rfl) | (exact rfl) | (refine ⟨?_, ?_⟩) | ((refine wrapA ?_ ?_ ?_); (focus (simp; done)); (focus ((try dsimp only); omega)); (focus ((try dsimp only); omega))) | fail)))
          exact (val_all (by omega)).trans (by rw [cond_true])
        · have h2 : (and64 (shr64 who (IntKind.wrap .u64 (i : Int))) 1 == 1) = false := h
          rw [hwi] at h2
          rw [h2]
          refine ⟨(), ?_⟩
          (refine Wk.of ?_ ?_ rfl rfl rfl <;> (repeat' (first | (exact trivial) | (exact WkD.same _) | (exact WkO.same _ _ rfl) | (exact WkD.any _) | (exact WkD.nil _ (Or.inl rfl)) | (exact WkD.nil _ (Or.inr rfl)) | (exact WkD.fz _ _ _ rfl (Or.inl ⟨_, rfl⟩) rfl) | (exact WkD.fz _ _ _ rfl (Or.inr rfl) rfl) | (refine WkD.int ?_) | (exact WkD.new' rfl rfl rfl) | (exact WkO.new _ _ rfl) | (refine WkO.vars rfl ?_) | (with_reducible rfl) | (exact rfl) | (refine ⟨?_, ?_⟩) | ((refine wrapA ?_ ?_ ?_); (focus (simp; done)); (focus ((try dsimp only); omega)); (focus ((try dsimp only); omega))) | fail)))
          exact (val_one (by omega)).trans (by rw [cond_false])
      rintro ⟨⟩
      refine ⟨Unit, fun _ => [(0, .pv (i64 ag)), (1, .pv (i64 n)), (2, .pv (.int .i64 to)), (3, .pv (.int .i64 who)), (4, .pv (i64 other)), (11, .buf 0 (relR n to who other i).length), (12, .pv (i64 i)), (13, .buf 1 (rowR n i to who other e).length), (14, .pv (i64 e)), (15, .pv (u64 (rcR n e i to who other)))], fun _ => 2, fun _ => [(0, .arr 1 (relR n to who other i)), (1, .arr 1 (rowR n i to who other e))], ?_, ?_⟩
      · (try (conv => whnf)); repeat' (first | (apply And.intro <;> (try (conv => whnf))) | (intro h; first | (with_reducible exact tf0 h) | (with_reducible exact ft0 h) | (with_reducible exact nt0 h) | (with_reducible exact nf0 h) | (exact litz h rfl) | (with_reducible exact tf h (by with_reducible assumption)) | (with_reducible exact tf (by with_reducible assumption) h) | (try (conv => whnf))) | (with_reducible rfl) | (apply True.intro) | (apply infoT; rfl) | (apply bleI; rfl) | (apply fitI; rfl) | (apply cellsI; rfl) | (apply szI; rfl) | (apply guardI; kernel_rfl) | (apply WhenQ.mk; (try (conv => whnf)); rotate_left; (try (conv => whnf)); rotate_right) | (with_reducible assumption) | (apply not_of; with_reducible assumption) | (apply left_of; with_reducible assumption) | (apply left_of; apply left_of; with_reducible assumption) | (apply and_of <;> first | (with_reducible assumption) | (apply not_of; with_reducible assumption))| (refine lin_plan (by kernel_rfl) ?_; (try (conv => whnf))) | (refine ⟨_, _, rfl, idx_map (by with_reducible assumption), rfl, ?_⟩; (try (conv => whnf))) | (refine ⟨rfl, ?_⟩; (try (conv => whnf))) | (exact Nat.le_refl 1) | ((apply ex3); (focus (with_reducible assumption)); (focus (with_reducible assumption)); (try (conv => whnf))) | ((apply ex2); (focus (with_reducible assumption)); (try (conv => whnf))) | fail)
        · exact wrapU_pos _
        · exact wrapU_pos _
        · have h2 : (and64 (shr64 to (IntKind.wrap .u64 (i : Int))) 1 == 1) = true := h
          rw [hwi] at h2
          refine ⟨(), ?_⟩
          (refine Wk.of ?_ ?_ rfl rfl rfl <;> (repeat' (first | (exact trivial) | (exact WkD.same _) | (exact WkO.same _ _ rfl) | (exact WkD.any _) | (exact WkD.nil _ (Or.inl rfl)) | (exact WkD.nil _ (Or.inr rfl)) | (exact WkD.fz _ _ _ rfl (Or.inl ⟨_, rfl⟩) rfl) | (exact WkD.fz _ _ _ rfl (Or.inr rfl) rfl) | (refine WkD.int ?_) | (exact WkD.new' rfl rfl rfl) | (exact WkO.new _ _ rfl) | (refine WkO.vars rfl ?_) | (with_reducible rfl) | (exact rfl) | (refine ⟨?_, ?_⟩) | ((refine wrapA ?_ ?_ ?_); (focus (simp; done)); (focus ((try dsimp only); omega)); (focus ((try dsimp only); omega))) | fail)))
          rw [rcR, h2]
          exact (val_one (by omega)).trans (by rw [cond_true])
        · have h2 : (and64 (shr64 to (IntKind.wrap .u64 (i : Int))) 1 == 1) = false := h
          rw [hwi] at h2
          refine ⟨(), ?_⟩
          (refine Wk.of ?_ ?_ rfl rfl rfl <;> (repeat' (first | (exact trivial) | (exact WkD.same _) | (exact WkO.same _ _ rfl) | (exact WkD.any _) | (exact WkD.nil _ (Or.inl rfl)) | (exact WkD.nil _ (Or.inr rfl)) | (exact WkD.fz _ _ _ rfl (Or.inl ⟨_, rfl⟩) rfl) | (exact WkD.fz _ _ _ rfl (Or.inr rfl) rfl) | (refine WkD.int ?_) | (exact WkD.new' rfl rfl rfl) | (exact WkO.new _ _ rfl) | (refine WkO.vars rfl ?_) | (with_reducible rfl) | (exact rfl) | (refine ⟨?_, ?_⟩) | ((refine wrapA ?_ ?_ ?_); (focus (simp; done)); (focus ((try dsimp only); omega)); (focus ((try dsimp only); omega))) | fail)))
          rw [rcR, h2]; rfl
      rintro ⟨⟩
      (try (conv => whnf)); repeat' (first | (apply And.intro <;> (try (conv => whnf))) | (intro h; first | (with_reducible exact tf0 h) | (with_reducible exact ft0 h) | (with_reducible exact nt0 h) | (with_reducible exact nf0 h) | (exact litz h rfl) | (with_reducible exact tf h (by with_reducible assumption)) | (with_reducible exact tf (by with_reducible assumption) h) | (try (conv => whnf))) | (with_reducible rfl) | (apply True.intro) | (apply infoT; rfl) | (apply bleI; rfl) | (apply fitI; rfl) | (apply cellsI; rfl) | (apply szI; rfl) | (apply guardI; kernel_rfl) | (apply WhenQ.mk; (try (conv => whnf)); rotate_left; (try (conv => whnf)); rotate_right) | (with_reducible assumption) | (apply not_of; with_reducible assumption) | (apply left_of; with_reducible assumption) | (apply left_of; apply left_of; with_reducible assumption) | (apply and_of <;> first | (with_reducible assumption) | (apply not_of; with_reducible assumption))| (refine lin_plan (by kernel_rfl) ?_; (try (conv => whnf))) | (refine ⟨_, _, rfl, idx_map (by with_reducible assumption), rfl, ?_⟩; (try (conv => whnf))) | (refine ⟨rfl, ?_⟩; (try (conv => whnf))) | (exact Nat.le_refl 1) | ((apply ex3); (focus (with_reducible assumption)); (focus (with_reducible assumption)); (try (conv => whnf))) | ((apply ex2); (focus (with_reducible assumption)); (try (conv => whnf))) | fail)
      · exact app_big (n := 8) (by omega) (by decide)
      · have er := rowR_succ (n := n) (a := i) (e := e) (to := to) (who := who) (other := other) rfl
        refine ⟨⟨e + 1, he'⟩, by show n - (e + 1) < n - e; omega, ?_⟩
        (refine Wk.of ?_ ?_ rfl rfl rfl <;> (repeat' (first | (exact trivial) | (exact WkD.same _) | (exact WkO.same _ _ rfl) | (exact WkD.eq (congrArg (fun z : List PV => DV.buf _ z.length) er)) | (exact WkO.same _ _ (congrArg (fun z => some (DObj.arr _ z)) er)) | (exact WkD.any _) | (exact WkD.nil _ (Or.inl rfl)) | (exact WkD.nil _ (Or.inr rfl)) | (exact WkD.fz _ _ _ rfl (Or.inl ⟨_, rfl⟩) rfl) | (exact WkD.fz _ _ _ rfl (Or.inr rfl) rfl) | (refine WkD.int ?_) | (exact WkD.new' rfl rfl rfl) | (exact WkO.new _ _ rfl) | (refine WkO.vars rfl ?_) | (with_reducible rfl) | (exact rfl) | (refine ⟨?_, ?_⟩) | ((refine wrapA ?_ ?_ ?_); (focus (simp; done)); (focus ((try dsimp only); omega)); (focus ((try dsimp only); omega))) | fail)))
    · exact app_big (n := 8) (by omega) (by decide)
    · have he' : e = n := ge_dec h he
      subst he'
      have er := relR_succ e to who other i
      refine ⟨⟨i + 1, hi'⟩, by show ag - (i + 1) < ag - i; omega, ?_⟩
      (refine Wk.of ?_ ?_ rfl rfl rfl <;> (repeat' (first | (exact trivial) | (exact WkD.same _) | (exact WkO.same _ _ rfl) | (exact WkD.eq (congrArg (fun z : List PV => DV.buf _ z.length) er)) | (exact WkO.same _ _ (congrArg (fun z => some (DObj.arr _ z)) er)) | (exact WkD.any _) | (exact WkD.nil _ (Or.inl rfl)) | (exact WkD.nil _ (Or.inr rfl)) | (exact WkD.fz _ _ _ rfl (Or.inl ⟨_, rfl⟩) rfl) | (exact WkD.fz _ _ _ rfl (Or.inr rfl) rfl) | (refine WkD.int ?_) | (exact WkD.new' rfl rfl rfl) | (exact WkO.new _ _ rfl) | (refine WkO.vars rfl ?_) | (with_reducible rfl) | (exact rfl) | (refine ⟨?_, ?_⟩) | ((refine wrapA ?_ ?_ ?_); (focus (simp; done)); (focus ((try dsimp only); omega)); (focus ((try dsimp only); omega))) | fail)))
  · have hi' : i = ag := ge_dec h hi
    subst hi'
    exact .refl _
end Go.Proofs.Ytibenjpkinhjhaa
set_option maxRecDepth 100000
set_option maxHeartbeats 4000000
namespace Go.Proofs.Ytibenjpkinhjhaa
open Go Go.Dv

/-! errors in the reference's order -/
theorem badG_zero {ag : Int} (h : badAg ag = false) : badG ag 0 = false := by
  obtain ⟨n, rfl, hn⟩ := badAg_no h
  have := Nat.two_pow_pos n
  rw [badG, shl_n hn, decide_eq_false (by omega), decide_eq_false (by omega)]; rfl
theorem err_grp (ag to who : Int) (f : List Nd) : errI ag 0 [to, who] f = bif grpI ag to who != 0 then grpI ag to who else statI ag 8 f := by
  unfold errI grpI
  cases badAg ag with
  | true => rfl
  | false => cases [to, who].any (badG ag) <;> rfl
theorem any_one {ag to : Int} (h : badAg ag = false) : [to, 0].any (badG ag) = [to].any (badG ag) := by simp [badG_zero h]
theorem err_one (ag to : Int) (f : List Nd) : errI ag 0 [to] f = bif grpI ag to 0 != 0 then grpI ag to 0 else statI ag 8 f := by
  unfold errI grpI
  cases h : badAg ag with
  | true => rfl
  | false => rw [any_one h]; cases [to].any (badG ag) <;> rfl
theorem err_chg (ag to fact : Int) (f : List Nd) : errI ag fact [to] f = bif chgI ag to fact != 0 then chgI ag to fact else statI ag 8 f := by
  unfold errI chgI grpI
  cases h : badAg ag with
  | true => rfl
  | false => rw [any_one h]; cases [to].any (badG ag) <;> cases badF fact <;> rfl
theorem err_chg0 (ag fact : Int) (f : List Nd) : errI ag fact [] f = bif chgI ag 0 fact != 0 then chgI ag 0 fact else statI ag 8 f := by
  unfold errI chgI grpI
  cases h : badAg ag with
  | true => rfl
  | false =>
    have : [(0 : Int), 0].any (badG ag) = false := by simp [badG_zero h]
    rw [this]; cases badF fact <;> rfl

/-! perceptions -/
theorem bit01 {s a : Nat} (hs : s < 2 ^ 62) (ha : a ≤ 64) : (and64 (shr64 s a) 1 == 0) = !(and64 (shr64 s a) 1 == 1) := by rw [bit64_zero hs ha, bit64_one hs ha]
theorem rel_A {to who ag : Nat} (ht : to < 16) (hag : ag ≤ 4) : relR 2 to who 1 ag = (relOf ag 2 (pcA to who)).map rowPV := relR_eq fun a ha e _ => by
  rw [rcR, pcA, pcB, bit01 (by omega) (by omega)]
  cases and64 (shr64 (to : Int) a) 1 == 1 <;> cases and64 (shr64 (who : Int) a) 1 == 1 <;> rfl
theorem bit15 {a : Nat} (ha : a < 4) : (and64 (shr64 15 a) 1 == 1) = true := by
  have : a = 0 ∨ a = 1 ∨ a = 2 ∨ a = 3 := by omega
  rcases this with rfl | rfl | rfl | rfl <;> decide
theorem bit_no {a : Nat} (ha : a ≤ 64) : (and64 (shr64 0 a) 1 == 1) = false := by
  have := bit64_one (s := 0) (v := a) (by decide) ha
  rw [Nat.zero_testBit] at this; exact this
theorem rel_B {to : Int} {ag n : Nat} (hag : ag ≤ 4) : relR n to 15 0 ag = (relOf ag n (pcB to 1)).map rowPV := relR_eq fun a ha e _ => by
  rw [rcR, pcB, bit15 (by omega)]
  cases and64 (shr64 (to : Int) a) 1 == 1 <;> rfl
theorem rel_C {to : Int} {ag : Nat} (hag : ag ≤ 4) : relR 2 to 0 1 ag = (relOf ag 2 (pcB to 2)).map rowPV := relR_eq fun a ha e _ => by
  rw [rcR, pcB, bit_no (by omega)]
  cases and64 (shr64 (to : Int) a) 1 == 1 <;> rfl
theorem rel_D {ag : Nat} (hag : ag ≤ 4) : relR 1 0 15 0 ag = (relOf ag 1 (fun _ => 1)).map rowPV := relR_eq fun a ha e _ => by
  rw [rcR, bit15 (by omega), bit_no (by omega)]; rfl
def eP (a : Nat) : Plan := .one a (.one (a + 1) (.one (a + 2) .done))
def susPlan : Plan := .one 0 (.one 5 (.one 6 (.one 7 (.two 1 (.two 2 (.one 3 (.two 8 (.one 4 (eP 9)) 4 (.one 8 (eP 9)))) 4 (.one 2 (.one 3 (.one 8 (eP 9))))) 4 (.one 1 (.one 2 (.one 3 (.one 8 (eP 9)))))))))
theorem rg_Suspected (ag to who : Int) (f : List Nd) : PureFn Try.prog 48 [.int .i64 ag, .int .i64 to, .int .i64 who, fpv f] (pairA (suspI ag to who f)) := by
  refine PureFn.intro mixed (fn := Try.f48) rfl rfl rfl fun M w0 => ?_
  have hG := rg_groups ag to who
  have hS := rg_static ag f
  have he := err_grp ag to who f
  (try (conv => whnf)); repeat' (first | (apply And.intro <;> (try (conv => whnf))) | (intro h; first | (with_reducible exact tf0 h) | (with_reducible exact ft0 h) | (with_reducible exact nt0 h) | (with_reducible exact nf0 h) | (exact litz h rfl) | (with_reducible exact tf h (by with_reducible assumption)) | (with_reducible exact tf (by with_reducible assumption) h) | (try (conv => whnf))) | (with_reducible rfl) | (apply True.intro) | (apply infoT; rfl) | (apply bleI; rfl) | (apply fitI; rfl) | (apply cellsI; rfl) | (apply szI; rfl) | (apply guardI; kernel_rfl) | (apply WhenQ.mk; (try (conv => whnf)); rotate_left; (try (conv => whnf)); rotate_right) | (with_reducible assumption) | (apply not_of; with_reducible assumption) | (apply left_of; with_reducible assumption) | (apply left_of; apply left_of; with_reducible assumption) | (apply and_of <;> first | (with_reducible assumption) | (apply not_of; with_reducible assumption))| (refine ⟨_, _, rfl, idx_map (by with_reducible assumption), rfl, ?_⟩; (try (conv => whnf))) | (refine ⟨rfl, ?_⟩; (try (conv => whnf))) | (exact Nat.le_refl 1) | ((apply ex3); (focus (with_reducible assumption)); (focus (with_reducible assumption)); (try (conv => whnf))) | ((apply ex2); (focus (with_reducible assumption)); (try (conv => whnf))) | (refine PureFn.dcq (f := 114) rfl ?_; (try (conv => whnf))) | (refine PureFn.dcq (f := 115) rfl ?_; (try (conv => whnf))) | ((refine ⟨_, _, hG, ?_, ?_⟩); (focus (first | (refine ⟨?_, ?_, ?_, trivial⟩ <;> first | (exact PLe.refl _) | (exact PLe.nil)) | (exact trivial))); (try (conv => whnf))) | (refine ⟨_, (by (conv => whnf); exact hG), rfl, ?_⟩; (try (conv => whnf))) | ((refine ⟨_, _, hS, ?_, ?_⟩); (focus (first | (refine ⟨?_, ?_, trivial⟩ <;> first | (exact PLe.refl _) | (exact PLe.nil)) | (exact trivial))); (try (conv => whnf))) | (refine ⟨_, (by (conv => whnf); exact hS), rfl, ?_⟩; (try (conv => whnf))) | fail)
  · rw [h] at he
    rw [suspI, he, cond_true, h]; exact le_noAct _
  · rename_i h1
    rw [h1, cond_false] at he
    rw [suspI, he, h]; exact le_noAct _
  rename_i h1
  rw [h1, cond_false] at he
  have he0 : errI ag 0 [to, who] f = 0 := he.trans (by simpa using h)
  obtain ⟨g1, g2, _, _⟩ := errI_ok he0
  obtain ⟨n, rfl, hn⟩ := badAg_no g1
  simp only [List.any_cons, List.any_nil, Bool.or_false, Bool.or_eq_false_iff] at g2
  obtain ⟨t, rfl, ht⟩ := badG_no hn g2.1
  obtain ⟨w, rfl, hw⟩ := badG_no hn g2.2
  have h16 := (vals_le hn).2
  have hR := rg_relation n 2 t w 1 hn (by decide) (by decide)
  rw [rel_A (by omega) hn] at hR
  refine ⟨susPlan, [], by kernel_rfl, ?_⟩
  (try (conv => whnf)); repeat' (first | (apply And.intro <;> (try (conv => whnf))) | (intro h; first | (with_reducible exact tf0 h) | (with_reducible exact ft0 h) | (with_reducible exact nt0 h) | (with_reducible exact nf0 h) | (exact litz h rfl) | (with_reducible exact tf h (by with_reducible assumption)) | (with_reducible exact tf (by with_reducible assumption) h) | (try (conv => whnf))) | (with_reducible rfl) | (apply True.intro) | (apply infoT; rfl) | (apply bleI; rfl) | (apply fitI; rfl) | (apply cellsI; rfl) | (apply szI; rfl) | (apply guardI; kernel_rfl) | (apply WhenQ.mk; (try (conv => whnf)); rotate_left; (try (conv => whnf)); rotate_right) | (with_reducible assumption) | (apply not_of; with_reducible assumption) | (apply left_of; with_reducible assumption) | (apply left_of; apply left_of; with_reducible assumption) | (apply and_of <;> first | (with_reducible assumption) | (apply not_of; with_reducible assumption))| (refine lin_plan (by kernel_rfl) ?_; (try (conv => whnf))) | (refine ⟨_, _, rfl, idx_map (by with_reducible assumption), rfl, ?_⟩; (try (conv => whnf))) | (refine ⟨rfl, ?_⟩; (try (conv => whnf))) | (exact Nat.le_refl 1) | ((apply ex3); (focus (with_reducible assumption)); (focus (with_reducible assumption)); (try (conv => whnf))) | ((apply ex2); (focus (with_reducible assumption)); (try (conv => whnf))) | (refine PureFn.dcq (f := 85) rfl ?_; (try (conv => whnf))) | (refine PureFn.dcq (f := 116) rfl ?_; (try (conv => whnf))) | (refine PureFn.dcq (f := 117) rfl ?_; (try (conv => whnf))) | ((refine ⟨_, _, ref_Compact ?_, ?_, ?_⟩); rotate_left 1; (focus (first | (refine ⟨?_, trivial⟩ <;> first | (exact PLe.refl _) | (exact PLe.nil)) | (exact trivial))); (try (conv => whnf))) | (refine ⟨_, (by (conv => whnf); exact ref_Compact _), rfl, ?_⟩; (try (conv => whnf))) | ((refine ⟨_, _, rg_yes, ?_, ?_⟩); (focus (first | (refine ⟨trivial⟩ <;> first | (exact PLe.refl _) | (exact PLe.nil)) | (exact trivial))); (try (conv => whnf))) | (refine ⟨_, (by (conv => whnf); exact rg_yes), rfl, ?_⟩; (try (conv => whnf))) | ((refine ⟨_, _, hR, ?_, ?_⟩); (focus (first | (refine ⟨?_, ?_, ?_, ?_, ?_, trivial⟩ <;> first | (exact PLe.refl _) | (exact PLe.nil)) | (exact trivial))); (try (conv => whnf))) | (refine ⟨_, (by (conv => whnf); exact hR), rfl, ?_⟩; (try (conv => whnf))) | fail)
  any_goals rfl
  any_goals exact le_big (by decide)
  any_goals exact Int.natCast_nonneg 2
  all_goals
    rw [suspI, he0]
    exact PLe.tups ⟨PLe.aggs ⟨.refl _, le_post 2, .refl _, trivial⟩, .refl _, trivial⟩
theorem rg_Private (ag to : Int) (f : List Nd) : PureFn Try.prog 45 [.int .i64 ag, .int .i64 to, fpv f] (pairA (suspI ag to 0 f)) := by
  refine PureFn.intro mixed (fn := Try.f45) rfl rfl rfl fun M w0 => ?_
  have hS := rg_Suspected ag to 0 f
  generalize suspI ag to 0 f = X at hS
  (try (conv => whnf)); repeat' (first | (apply And.intro <;> (try (conv => whnf))) | (intro h; first | (with_reducible exact tf0 h) | (with_reducible exact ft0 h) | (with_reducible exact nt0 h) | (with_reducible exact nf0 h) | (exact litz h rfl) | (with_reducible exact tf h (by with_reducible assumption)) | (with_reducible exact tf (by with_reducible assumption) h) | (try (conv => whnf))) | (with_reducible rfl) | (apply True.intro) | (apply infoT; rfl) | (apply bleI; rfl) | (apply fitI; rfl) | (apply cellsI; rfl) | (apply szI; rfl) | (apply guardI; kernel_rfl) | (apply WhenQ.mk; (try (conv => whnf)); rotate_left; (try (conv => whnf)); rotate_right) | (with_reducible assumption) | (apply not_of; with_reducible assumption) | (apply left_of; with_reducible assumption) | (apply left_of; apply left_of; with_reducible assumption) | (apply and_of <;> first | (with_reducible assumption) | (apply not_of; with_reducible assumption))| (refine lin_plan (by kernel_rfl) ?_; (try (conv => whnf))) | (refine ⟨_, _, rfl, idx_map (by with_reducible assumption), rfl, ?_⟩; (try (conv => whnf))) | (refine ⟨rfl, ?_⟩; (try (conv => whnf))) | (exact Nat.le_refl 1) | ((apply ex3); (focus (with_reducible assumption)); (focus (with_reducible assumption)); (try (conv => whnf))) | ((apply ex2); (focus (with_reducible assumption)); (try (conv => whnf))) | (refine PureFn.dcq (f := 48) rfl ?_; (try (conv => whnf))) | ((refine ⟨_, _, hS, ?_, ?_⟩); (focus (first | (refine ⟨?_, ?_, ?_, ?_, trivial⟩ <;> first | (exact PLe.refl _) | (exact PLe.nil)) | (exact trivial))); (try (conv => whnf))) | (refine ⟨_, (by (conv => whnf); exact hS), rfl, ?_⟩; (try (conv => whnf))) | fail)
  exact .refl _
def semPlan : Plan := .one 0 (.one 2 (.one 5 (.one 6 (.two 1 (.one 3 (.two 7 (.one 4 (eP 8)) 4 (.one 7 (eP 8)))) 4 (.one 1 (.one 3 (.one 7 (eP 8))))))))
theorem rg_un (f : List Nd) : PureFn Try.prog 118 [(n0 4).pv, fpv f] (fpv (buildL (n0 4) [f])) := by
  rw [build_un _ _ rfl rfl rfl]; exact ref_Unary (n0 4) f
theorem rg_Semi (ag to : Int) (f : List Nd) : PureFn Try.prog 50 [.int .i64 ag, .int .i64 to, fpv f] (pairA (semiI ag to f)) := by
  refine PureFn.intro mixed (fn := Try.f50) rfl rfl rfl fun M w0 => ?_
  have hG := rg_groups ag to 0
  have hS := rg_static ag f
  have hU := rg_un f
  have he := err_one ag to f
  (try (conv => whnf)); repeat' (first | (apply And.intro <;> (try (conv => whnf))) | (intro h; first | (with_reducible exact tf0 h) | (with_reducible exact ft0 h) | (with_reducible exact nt0 h) | (with_reducible exact nf0 h) | (exact litz h rfl) | (with_reducible exact tf h (by with_reducible assumption)) | (with_reducible exact tf (by with_reducible assumption) h) | (try (conv => whnf))) | (with_reducible rfl) | (apply True.intro) | (apply infoT; rfl) | (apply bleI; rfl) | (apply fitI; rfl) | (apply cellsI; rfl) | (apply szI; rfl) | (apply guardI; kernel_rfl) | (apply WhenQ.mk; (try (conv => whnf)); rotate_left; (try (conv => whnf)); rotate_right) | (with_reducible assumption) | (apply not_of; with_reducible assumption) | (apply left_of; with_reducible assumption) | (apply left_of; apply left_of; with_reducible assumption) | (apply and_of <;> first | (with_reducible assumption) | (apply not_of; with_reducible assumption))| (refine ⟨_, _, rfl, idx_map (by with_reducible assumption), rfl, ?_⟩; (try (conv => whnf))) | (refine ⟨rfl, ?_⟩; (try (conv => whnf))) | (exact Nat.le_refl 1) | ((apply ex3); (focus (with_reducible assumption)); (focus (with_reducible assumption)); (try (conv => whnf))) | ((apply ex2); (focus (with_reducible assumption)); (try (conv => whnf))) | (refine PureFn.dcq (f := 114) rfl ?_; (try (conv => whnf))) | (refine PureFn.dcq (f := 115) rfl ?_; (try (conv => whnf))) | (refine PureFn.dcq (f := 118) rfl ?_; (try (conv => whnf))) | ((refine ⟨_, _, hG, ?_, ?_⟩); (focus (first | (refine ⟨?_, ?_, ?_, trivial⟩ <;> first | (exact PLe.refl _) | (exact PLe.nil)) | (exact trivial))); (try (conv => whnf))) | (refine ⟨_, (by (conv => whnf); exact hG), rfl, ?_⟩; (try (conv => whnf))) | ((refine ⟨_, _, hS, ?_, ?_⟩); (focus (first | (refine ⟨?_, ?_, trivial⟩ <;> first | (exact PLe.refl _) | (exact PLe.nil)) | (exact trivial))); (try (conv => whnf))) | (refine ⟨_, (by (conv => whnf); exact hS), rfl, ?_⟩; (try (conv => whnf))) | ((refine ⟨_, _, hU, ?_, ?_⟩); (focus (first | (refine ⟨?_, ?_, trivial⟩ <;> first | (exact PLe.refl _) | (exact PLe.nil)) | (exact trivial))); (try (conv => whnf))) | (refine ⟨_, (by (conv => whnf); exact hU), rfl, ?_⟩; (try (conv => whnf))) | fail)
  · rw [h] at he
    rw [semiI, he, cond_true, h]; exact le_noAct _
  · rename_i h1
    rw [h1, cond_false] at he
    rw [semiI, he, h]; exact le_noAct _
  · rename_i h2 h1
    rw [h2, cond_false] at he
    have e : (((buildL (n0 4) [f]).length : Int) == 0) = true := by rw [← pre_nd]; exact h
    rw [semiI, he, h1, e]; exact le_noAct _
  rename_i h2 h1
  have e : (((buildL (n0 4) [f]).length : Int) == 0) = false := by rw [← pre_nd]; exact h
  rw [h2, cond_false] at he
  have he0 : errI ag 0 [to] f = 0 := he.trans (by simpa using h1)
  obtain ⟨g1, g2, _, _⟩ := errI_ok he0
  obtain ⟨n, rfl, hn⟩ := badAg_no g1
  have hR := rg_relation n 2 to 15 0 hn (by decide) (by decide)
  rw [rel_B hn] at hR
  refine ⟨semPlan, [], by kernel_rfl, ?_⟩
  (try (conv => whnf)); repeat' (first | (apply And.intro <;> (try (conv => whnf))) | (intro h; first | (with_reducible exact tf0 h) | (with_reducible exact ft0 h) | (with_reducible exact nt0 h) | (with_reducible exact nf0 h) | (exact litz h rfl) | (with_reducible exact tf h (by with_reducible assumption)) | (with_reducible exact tf (by with_reducible assumption) h) | (try (conv => whnf))) | (with_reducible rfl) | (apply True.intro) | (apply infoT; rfl) | (apply bleI; rfl) | (apply fitI; rfl) | (apply cellsI; rfl) | (apply szI; rfl) | (apply guardI; kernel_rfl) | (apply WhenQ.mk; (try (conv => whnf)); rotate_left; (try (conv => whnf)); rotate_right) | (with_reducible assumption) | (apply not_of; with_reducible assumption) | (apply left_of; with_reducible assumption) | (apply left_of; apply left_of; with_reducible assumption) | (apply and_of <;> first | (with_reducible assumption) | (apply not_of; with_reducible assumption))| (refine lin_plan (by kernel_rfl) ?_; (try (conv => whnf))) | (refine ⟨_, _, rfl, idx_map (by with_reducible assumption), rfl, ?_⟩; (try (conv => whnf))) | (refine ⟨rfl, ?_⟩; (try (conv => whnf))) | (exact Nat.le_refl 1) | ((apply ex3); (focus (with_reducible assumption)); (focus (with_reducible assumption)); (try (conv => whnf))) | ((apply ex2); (focus (with_reducible assumption)); (try (conv => whnf))) | (refine PureFn.dcq (f := 85) rfl ?_; (try (conv => whnf))) | (refine PureFn.dcq (f := 117) rfl ?_; (try (conv => whnf))) | ((refine ⟨_, _, ref_Compact ?_, ?_, ?_⟩); rotate_left 1; (focus (first | (refine ⟨?_, trivial⟩ <;> first | (exact PLe.refl _) | (exact PLe.nil)) | (exact trivial))); (try (conv => whnf))) | (refine ⟨_, (by (conv => whnf); exact ref_Compact _), rfl, ?_⟩; (try (conv => whnf))) | ((refine ⟨_, _, hR, ?_, ?_⟩); (focus (first | (refine ⟨?_, ?_, ?_, ?_, ?_, trivial⟩ <;> first | (exact PLe.refl _) | (exact PLe.nil)) | (exact trivial))); (try (conv => whnf))) | (refine ⟨_, (by (conv => whnf); exact hR), rfl, ?_⟩; (try (conv => whnf))) | fail)
  any_goals rfl
  any_goals exact le_big (by decide)
  any_goals exact Int.natCast_nonneg 2
  all_goals
    rw [semiI, he0, e]
    exact PLe.tups ⟨PLe.aggs ⟨.refl _, le_post 2, .refl _, trivial⟩, .refl _, trivial⟩
theorem rg_Change (ag fact : Int) (f : List Nd) : PureFn Try.prog 54 [.int .i64 ag, .int .i64 fact, fpv f] (pairA (changeI ag fact f)) := by
  refine PureFn.intro mixed (fn := Try.f54) rfl rfl rfl fun M w0 => ?_
  have hG := rg_change ag 0 fact
  have hS := rg_static ag f
  have he := err_chg0 ag fact f
  have hR : ∀ n : Nat, ag = n → n ≤ 4 → PureFn Try.prog 117 [.int .i64 ag, .int .i64 1, .int .i64 0, .int .i64 15, .int .i64 0] (.sl ((relOf n 1 (fun _ => 1)).map rowPV)) := fun n e hn => by
    rw [e, ← rel_D hn]
    exact rg_relation n 1 0 15 0 hn (by decide) (by decide)
  cases hz : (errI ag fact [] f != 0) with
  | true =>
    (try (conv => whnf)); repeat' (first | (apply And.intro <;> (try (conv => whnf))) | (intro h; first | (with_reducible exact tf0 h) | (with_reducible exact ft0 h) | (with_reducible exact nt0 h) | (with_reducible exact nf0 h) | (exact litz h rfl) | (with_reducible exact tf h (by with_reducible assumption)) | (with_reducible exact tf (by with_reducible assumption) h) | (try (conv => whnf))) | (with_reducible rfl) | (apply True.intro) | (apply infoT; rfl) | (apply bleI; rfl) | (apply fitI; rfl) | (apply cellsI; rfl) | (apply szI; rfl) | (apply guardI; kernel_rfl) | (apply WhenQ.mk; (try (conv => whnf)); rotate_left; (try (conv => whnf)); rotate_right) | (with_reducible assumption) | (apply not_of; with_reducible assumption) | (apply left_of; with_reducible assumption) | (apply left_of; apply left_of; with_reducible assumption) | (apply and_of <;> first | (with_reducible assumption) | (apply not_of; with_reducible assumption))| (refine lin_plan (by kernel_rfl) ?_; (try (conv => whnf))) | (refine ⟨_, _, rfl, idx_map (by with_reducible assumption), rfl, ?_⟩; (try (conv => whnf))) | (refine ⟨rfl, ?_⟩; (try (conv => whnf))) | (exact Nat.le_refl 1) | ((apply ex3); (focus (with_reducible assumption)); (focus (with_reducible assumption)); (try (conv => whnf))) | ((apply ex2); (focus (with_reducible assumption)); (try (conv => whnf))) | (refine PureFn.dcq (f := 122) rfl ?_; (try (conv => whnf))) | (refine PureFn.dcq (f := 115) rfl ?_; (try (conv => whnf))) | ((refine ⟨_, _, hG, ?_, ?_⟩); (focus (first | (refine ⟨?_, ?_, ?_, trivial⟩ <;> first | (exact PLe.refl _) | (exact PLe.nil)) | (exact trivial))); (try (conv => whnf))) | (refine ⟨_, (by (conv => whnf); exact hG), rfl, ?_⟩; (try (conv => whnf))) | ((refine ⟨_, _, hS, ?_, ?_⟩); (focus (first | (refine ⟨?_, ?_, trivial⟩ <;> first | (exact PLe.refl _) | (exact PLe.nil)) | (exact trivial))); (try (conv => whnf))) | (refine ⟨_, (by (conv => whnf); exact hS), rfl, ?_⟩; (try (conv => whnf))) | fail)
    · rw [h] at he
      rw [changeI, he, cond_true, h]; exact le_noAct _
    · rename_i h1
      rw [h1, cond_false] at he
      rw [changeI, he, h]; exact le_noAct _
    · rename_i h1
      rw [h1, cond_false] at he
      rw [he, h] at hz; cases hz
  | false =>
    have he0 : errI ag fact [] f = 0 := by simpa using hz
    obtain ⟨g1, g2, _, _⟩ := errI_ok he0
    obtain ⟨n, rfl, hn⟩ := badAg_no g1
    have hR' := hR n rfl hn
    (try (conv => whnf)); repeat' (first | (apply And.intro <;> (try (conv => whnf))) | (intro h; first | (with_reducible exact tf0 h) | (with_reducible exact ft0 h) | (with_reducible exact nt0 h) | (with_reducible exact nf0 h) | (exact litz h rfl) | (with_reducible exact tf h (by with_reducible assumption)) | (with_reducible exact tf (by with_reducible assumption) h) | (try (conv => whnf))) | (with_reducible rfl) | (apply True.intro) | (apply infoT; rfl) | (apply bleI; rfl) | (apply fitI; rfl) | (apply cellsI; rfl) | (apply szI; rfl) | (apply guardI; kernel_rfl) | (apply WhenQ.mk; (try (conv => whnf)); rotate_left; (try (conv => whnf)); rotate_right) | (with_reducible assumption) | (apply not_of; with_reducible assumption) | (apply left_of; with_reducible assumption) | (apply left_of; apply left_of; with_reducible assumption) | (apply and_of <;> first | (with_reducible assumption) | (apply not_of; with_reducible assumption))| (refine lin_plan (by kernel_rfl) ?_; (try (conv => whnf))) | (refine ⟨_, _, rfl, idx_map (by with_reducible assumption), rfl, ?_⟩; (try (conv => whnf))) | (refine ⟨rfl, ?_⟩; (try (conv => whnf))) | (exact Nat.le_refl 1) | ((apply ex3); (focus (with_reducible assumption)); (focus (with_reducible assumption)); (try (conv => whnf))) | ((apply ex2); (focus (with_reducible assumption)); (try (conv => whnf))) | (refine PureFn.dcq (f := 122) rfl ?_; (try (conv => whnf))) | (refine PureFn.dcq (f := 115) rfl ?_; (try (conv => whnf))) | (refine PureFn.dcq (f := 85) rfl ?_; (try (conv => whnf))) | (refine PureFn.dcq (f := 116) rfl ?_; (try (conv => whnf))) | (refine PureFn.dcq (f := 117) rfl ?_; (try (conv => whnf))) | ((refine ⟨_, _, hG, ?_, ?_⟩); (focus (first | (refine ⟨?_, ?_, ?_, trivial⟩ <;> first | (exact PLe.refl _) | (exact PLe.nil)) | (exact trivial))); (try (conv => whnf))) | (refine ⟨_, (by (conv => whnf); exact hG), rfl, ?_⟩; (try (conv => whnf))) | ((refine ⟨_, _, hS, ?_, ?_⟩); (focus (first | (refine ⟨?_, ?_, trivial⟩ <;> first | (exact PLe.refl _) | (exact PLe.nil)) | (exact trivial))); (try (conv => whnf))) | (refine ⟨_, (by (conv => whnf); exact hS), rfl, ?_⟩; (try (conv => whnf))) | ((refine ⟨_, _, ref_Compact ?_, ?_, ?_⟩); rotate_left 1; (focus (first | (refine ⟨?_, trivial⟩ <;> first | (exact PLe.refl _) | (exact PLe.nil)) | (exact trivial))); (try (conv => whnf))) | (refine ⟨_, (by (conv => whnf); exact ref_Compact _), rfl, ?_⟩; (try (conv => whnf))) | ((refine ⟨_, _, rg_yes, ?_, ?_⟩); (focus (first | (refine ⟨trivial⟩ <;> first | (exact PLe.refl _) | (exact PLe.nil)) | (exact trivial))); (try (conv => whnf))) | (refine ⟨_, (by (conv => whnf); exact rg_yes), rfl, ?_⟩; (try (conv => whnf))) | ((refine ⟨_, _, hR', ?_, ?_⟩); (focus (first | (refine ⟨?_, ?_, ?_, ?_, ?_, trivial⟩ <;> first | (exact PLe.refl _) | (exact PLe.nil)) | (exact trivial))); (try (conv => whnf))) | (refine ⟨_, (by (conv => whnf); exact hR'), rfl, ?_⟩; (try (conv => whnf))) | fail)
    · rw [he, h, cond_true, h] at hz; cases hz
    · rename_i h1
      rw [he, h1, cond_false, h] at hz; cases hz
    · rw [changeI, he0]
      exact .refl _
theorem rg_Secret (ag to fact : Int) (f : List Nd) : PureFn Try.prog 56 [.int .i64 ag, .int .i64 to, .int .i64 fact, fpv f] (pairA (secretI ag to fact f)) := by
  refine PureFn.intro mixed (fn := Try.f56) rfl rfl rfl fun M w0 => ?_
  have hG := rg_change ag to fact
  have hS := rg_static ag f
  have he := err_chg ag to fact f
  cases hz : (errI ag fact [to] f != 0) with
  | true =>
    (try (conv => whnf)); repeat' (first | (apply And.intro <;> (try (conv => whnf))) | (intro h; first | (with_reducible exact tf0 h) | (with_reducible exact ft0 h) | (with_reducible exact nt0 h) | (with_reducible exact nf0 h) | (exact litz h rfl) | (with_reducible exact tf h (by with_reducible assumption)) | (with_reducible exact tf (by with_reducible assumption) h) | (try (conv => whnf))) | (with_reducible rfl) | (apply True.intro) | (apply infoT; rfl) | (apply bleI; rfl) | (apply fitI; rfl) | (apply cellsI; rfl) | (apply szI; rfl) | (apply guardI; kernel_rfl) | (apply WhenQ.mk; (try (conv => whnf)); rotate_left; (try (conv => whnf)); rotate_right) | (with_reducible assumption) | (apply not_of; with_reducible assumption) | (apply left_of; with_reducible assumption) | (apply left_of; apply left_of; with_reducible assumption) | (apply and_of <;> first | (with_reducible assumption) | (apply not_of; with_reducible assumption))| (refine lin_plan (by kernel_rfl) ?_; (try (conv => whnf))) | (refine ⟨_, _, rfl, idx_map (by with_reducible assumption), rfl, ?_⟩; (try (conv => whnf))) | (refine ⟨rfl, ?_⟩; (try (conv => whnf))) | (exact Nat.le_refl 1) | ((apply ex3); (focus (with_reducible assumption)); (focus (with_reducible assumption)); (try (conv => whnf))) | ((apply ex2); (focus (with_reducible assumption)); (try (conv => whnf))) | (refine PureFn.dcq (f := 122) rfl ?_; (try (conv => whnf))) | (refine PureFn.dcq (f := 115) rfl ?_; (try (conv => whnf))) | ((refine ⟨_, _, hG, ?_, ?_⟩); (focus (first | (refine ⟨?_, ?_, ?_, trivial⟩ <;> first | (exact PLe.refl _) | (exact PLe.nil)) | (exact trivial))); (try (conv => whnf))) | (refine ⟨_, (by (conv => whnf); exact hG), rfl, ?_⟩; (try (conv => whnf))) | ((refine ⟨_, _, hS, ?_, ?_⟩); (focus (first | (refine ⟨?_, ?_, trivial⟩ <;> first | (exact PLe.refl _) | (exact PLe.nil)) | (exact trivial))); (try (conv => whnf))) | (refine ⟨_, (by (conv => whnf); exact hS), rfl, ?_⟩; (try (conv => whnf))) | fail)
    · rw [h] at he
      rw [secretI, he, cond_true, h]; exact le_noAct _
    · rename_i h1
      rw [h1, cond_false] at he
      rw [secretI, he, h]; exact le_noAct _
    · rename_i h1
      rw [h1, cond_false] at he
      rw [he, h] at hz; cases hz
  | false =>
    have he0 : errI ag fact [to] f = 0 := by simpa using hz
    obtain ⟨g1, g2, _, _⟩ := errI_ok he0
    obtain ⟨n, rfl, hn⟩ := badAg_no g1
    have hR := rg_relation n 2 to 0 1 hn (by decide) (by decide)
    rw [rel_C hn] at hR
    (try (conv => whnf)); repeat' (first | (apply And.intro <;> (try (conv => whnf))) | (intro h; first | (with_reducible exact tf0 h) | (with_reducible exact ft0 h) | (with_reducible exact nt0 h) | (with_reducible exact nf0 h) | (exact litz h rfl) | (with_reducible exact tf h (by with_reducible assumption)) | (with_reducible exact tf (by with_reducible assumption) h) | (try (conv => whnf))) | (with_reducible rfl) | (apply True.intro) | (apply infoT; rfl) | (apply bleI; rfl) | (apply fitI; rfl) | (apply cellsI; rfl) | (apply szI; rfl) | (apply guardI; kernel_rfl) | (apply WhenQ.mk; (try (conv => whnf)); rotate_left; (try (conv => whnf)); rotate_right) | (with_reducible assumption) | (apply not_of; with_reducible assumption) | (apply left_of; with_reducible assumption) | (apply left_of; apply left_of; with_reducible assumption) | (apply and_of <;> first | (with_reducible assumption) | (apply not_of; with_reducible assumption))| (refine lin_plan (by kernel_rfl) ?_; (try (conv => whnf))) | (refine ⟨_, _, rfl, idx_map (by with_reducible assumption), rfl, ?_⟩; (try (conv => whnf))) | (refine ⟨rfl, ?_⟩; (try (conv => whnf))) | (exact Nat.le_refl 1) | ((apply ex3); (focus (with_reducible assumption)); (focus (with_reducible assumption)); (try (conv => whnf))) | ((apply ex2); (focus (with_reducible assumption)); (try (conv => whnf))) | (refine PureFn.dcq (f := 122) rfl ?_; (try (conv => whnf))) | (refine PureFn.dcq (f := 115) rfl ?_; (try (conv => whnf))) | (refine PureFn.dcq (f := 85) rfl ?_; (try (conv => whnf))) | (refine PureFn.dcq (f := 116) rfl ?_; (try (conv => whnf))) | (refine PureFn.dcq (f := 117) rfl ?_; (try (conv => whnf))) | ((refine ⟨_, _, hG, ?_, ?_⟩); (focus (first | (refine ⟨?_, ?_, ?_, trivial⟩ <;> first | (exact PLe.refl _) | (exact PLe.nil)) | (exact trivial))); (try (conv => whnf))) | (refine ⟨_, (by (conv => whnf); exact hG), rfl, ?_⟩; (try (conv => whnf))) | ((refine ⟨_, _, hS, ?_, ?_⟩); (focus (first | (refine ⟨?_, ?_, trivial⟩ <;> first | (exact PLe.refl _) | (exact PLe.nil)) | (exact trivial))); (try (conv => whnf))) | (refine ⟨_, (by (conv => whnf); exact hS), rfl, ?_⟩; (try (conv => whnf))) | ((refine ⟨_, _, ref_Compact ?_, ?_, ?_⟩); rotate_left 1; (focus (first | (refine ⟨?_, trivial⟩ <;> first | (exact PLe.refl _) | (exact PLe.nil)) | (exact trivial))); (try (conv => whnf))) | (refine ⟨_, (by (conv => whnf); exact ref_Compact _), rfl, ?_⟩; (try (conv => whnf))) | ((refine ⟨_, _, rg_yes, ?_, ?_⟩); (focus (first | (refine ⟨trivial⟩ <;> first | (exact PLe.refl _) | (exact PLe.nil)) | (exact trivial))); (try (conv => whnf))) | (refine ⟨_, (by (conv => whnf); exact rg_yes), rfl, ?_⟩; (try (conv => whnf))) | ((refine ⟨_, _, hR, ?_, ?_⟩); (focus (first | (refine ⟨?_, ?_, ?_, ?_, ?_, trivial⟩ <;> first | (exact PLe.refl _) | (exact PLe.nil)) | (exact trivial))); (try (conv => whnf))) | (refine ⟨_, (by (conv => whnf); exact hR), rfl, ?_⟩; (try (conv => whnf))) | fail)
    · rw [he, h, cond_true, h] at hz; cases hz
    · rename_i h1
      rw [he, h1, cond_false, h] at hz; cases hz
    · rw [secretI, he0]
      exact PLe.tups ⟨PLe.aggs ⟨.refl _, PLe.sls ⟨.refl _, .nil, trivial⟩, .refl _, trivial⟩, .refl _, trivial⟩
theorem rg_Toss (ag to fact : Int) : PureFn Try.prog 58 [.int .i64 ag, .int .i64 to, .int .i64 fact] (pairA (tossI ag to fact)) := by
  refine PureFn.intro mixed (fn := Try.f58) rfl rfl rfl fun M w0 => ?_
  have hG := rg_change ag to fact
  have he := err_chg ag to fact (buildL (n0 1) [])
  cases hz : (errI ag fact [to] (buildL (n0 1) []) != 0) with
  | true =>
    (try (conv => whnf)); repeat' (first | (apply And.intro <;> (try (conv => whnf))) | (intro h; first | (with_reducible exact tf0 h) | (with_reducible exact ft0 h) | (with_reducible exact nt0 h) | (with_reducible exact nf0 h) | (exact litz h rfl) | (with_reducible exact tf h (by with_reducible assumption)) | (with_reducible exact tf (by with_reducible assumption) h) | (try (conv => whnf))) | (with_reducible rfl) | (apply True.intro) | (apply infoT; rfl) | (apply bleI; rfl) | (apply fitI; rfl) | (apply cellsI; rfl) | (apply szI; rfl) | (apply guardI; kernel_rfl) | (apply WhenQ.mk; (try (conv => whnf)); rotate_left; (try (conv => whnf)); rotate_right) | (with_reducible assumption) | (apply not_of; with_reducible assumption) | (apply left_of; with_reducible assumption) | (apply left_of; apply left_of; with_reducible assumption) | (apply and_of <;> first | (with_reducible assumption) | (apply not_of; with_reducible assumption))| (refine lin_plan (by kernel_rfl) ?_; (try (conv => whnf))) | (refine ⟨_, _, rfl, idx_map (by with_reducible assumption), rfl, ?_⟩; (try (conv => whnf))) | (refine ⟨rfl, ?_⟩; (try (conv => whnf))) | (exact Nat.le_refl 1) | ((apply ex3); (focus (with_reducible assumption)); (focus (with_reducible assumption)); (try (conv => whnf))) | ((apply ex2); (focus (with_reducible assumption)); (try (conv => whnf))) | (refine PureFn.dcq (f := 122) rfl ?_; (try (conv => whnf))) | ((refine ⟨_, _, hG, ?_, ?_⟩); (focus (first | (refine ⟨?_, ?_, ?_, trivial⟩ <;> first | (exact PLe.refl _) | (exact PLe.nil)) | (exact trivial))); (try (conv => whnf))) | (refine ⟨_, (by (conv => whnf); exact hG), rfl, ?_⟩; (try (conv => whnf))) | fail)
    · rw [h] at he
      rw [tossI, he, cond_true, h]; exact le_noAct _
    · exfalso
      rw [h, cond_false] at he
      have hb : badAg ag = false := by
        cases hb : badAg ag with
        | false => rfl
        | true => unfold chgI grpI at h; rw [hb] at h; cases h
      obtain ⟨n, rfl, hn⟩ := badAg_no hb
      rw [he, stat_true hn] at hz; cases hz
  | false =>
    have he0 : errI ag fact [to] (buildL (n0 1) []) = 0 := by simpa using hz
    obtain ⟨g1, g2, _, _⟩ := errI_ok he0
    obtain ⟨n, rfl, hn⟩ := badAg_no g1
    have hR := rg_relation n 2 to 15 0 hn (by decide) (by decide)
    rw [rel_B hn] at hR
    (try (conv => whnf)); repeat' (first | (apply And.intro <;> (try (conv => whnf))) | (intro h; first | (with_reducible exact tf0 h) | (with_reducible exact ft0 h) | (with_reducible exact nt0 h) | (with_reducible exact nf0 h) | (exact litz h rfl) | (with_reducible exact tf h (by with_reducible assumption)) | (with_reducible exact tf (by with_reducible assumption) h) | (try (conv => whnf))) | (with_reducible rfl) | (apply True.intro) | (apply infoT; rfl) | (apply bleI; rfl) | (apply fitI; rfl) | (apply cellsI; rfl) | (apply szI; rfl) | (apply guardI; kernel_rfl) | (apply WhenQ.mk; (try (conv => whnf)); rotate_left; (try (conv => whnf)); rotate_right) | (with_reducible assumption) | (apply not_of; with_reducible assumption) | (apply left_of; with_reducible assumption) | (apply left_of; apply left_of; with_reducible assumption) | (apply and_of <;> first | (with_reducible assumption) | (apply not_of; with_reducible assumption))| (refine lin_plan (by kernel_rfl) ?_; (try (conv => whnf))) | (refine ⟨_, _, rfl, idx_map (by with_reducible assumption), rfl, ?_⟩; (try (conv => whnf))) | (refine ⟨rfl, ?_⟩; (try (conv => whnf))) | (exact Nat.le_refl 1) | ((apply ex3); (focus (with_reducible assumption)); (focus (with_reducible assumption)); (try (conv => whnf))) | ((apply ex2); (focus (with_reducible assumption)); (try (conv => whnf))) | (refine PureFn.dcq (f := 122) rfl ?_; (try (conv => whnf))) | (refine PureFn.dcq (f := 116) rfl ?_; (try (conv => whnf))) | (refine PureFn.dcq (f := 117) rfl ?_; (try (conv => whnf))) | ((refine ⟨_, _, hG, ?_, ?_⟩); (focus (first | (refine ⟨?_, ?_, ?_, trivial⟩ <;> first | (exact PLe.refl _) | (exact PLe.nil)) | (exact trivial))); (try (conv => whnf))) | (refine ⟨_, (by (conv => whnf); exact hG), rfl, ?_⟩; (try (conv => whnf))) | ((refine ⟨_, _, rg_yes, ?_, ?_⟩); (focus (first | (refine ⟨trivial⟩ <;> first | (exact PLe.refl _) | (exact PLe.nil)) | (exact trivial))); (try (conv => whnf))) | (refine ⟨_, (by (conv => whnf); exact rg_yes), rfl, ?_⟩; (try (conv => whnf))) | ((refine ⟨_, _, hR, ?_, ?_⟩); (focus (first | (refine ⟨?_, ?_, ?_, ?_, ?_, trivial⟩ <;> first | (exact PLe.refl _) | (exact PLe.nil)) | (exact trivial))); (try (conv => whnf))) | (refine ⟨_, (by (conv => whnf); exact hR), rfl, ?_⟩; (try (conv => whnf))) | fail)
    · rw [he, h, cond_true, h] at hz; cases hz
    · rw [tossI, he0]
      exact .refl _
end Go.Proofs.Ytibenjpkinhjhaa
