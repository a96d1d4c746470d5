/- Parts of the proof, one after the other: Messages: the law about the logics of the results, walked. The layer Dv, part 22: what a law is given, as pure values; a law's row out of its contract. Formulas: the arguments of the laws as pure values. Belief sets: numbers and arrays as arguments of the laws. -/
import Derived.ProofKit
import Derived.OpenShut
import Derived.Test.YtibenjpkinhjhaaRows
import Derived.Test.YtibenjpkinhjhaaM9
set_option maxRecDepth 100000
set_option maxHeartbeats 8000000
namespace Go.Proofs.Ytibenjpkinhjhaa
open Go Go.Dv

theorem u8_mod {u : Nat} (hu : u < 256) (m : Nat) : (IntKind.wrap .i64 (u : Int)).tmod (m : Int) = ((u % m : Nat) : Int) := by
  rw [wrap_small (by omega) (by omega), Int.tmod_eq_emod_of_nonneg (by omega)]; rfl
theorem shl_wn {n : Nat} (hn : n ≤ 8) : shl64 1 (IntKind.wrap .u64 (n : Int)) = ((2 ^ n : Nat) : Int) := by
  rw [wrapU_nat (by omega)]; exact shl64_one (by omega) (by omega)
theorem fit_small {n k : Nat} {pre : List (List Nd)} {post : List (List Asg)} {pc : Nat → Int} (h1 : 1 ≤ k) (hk : k ≤ 8) : Fit ⟨pre, post, relOf n k pc⟩ := fun r hr s hs => by
  obtain ⟨a, _, rfl⟩ := rel_mem hr
  obtain ⟨e, he, rfl⟩ := List.mem_map.1 hs
  have := rcell_lt (c := pc a) h1 (List.mem_range.1 he)
  have : 2 ^ k ≤ 2 ^ 8 := Nat.pow_le_pow_right (by decide) hk
  omega
/-- What the walk needs of an action model. -/
structure Ok7 (a : Act) (n : Nat) : Prop where
  fit : Fit a
  rel : a.rel.length ≤ 1000
  post : ∀ l, l ∈ a.post → l.length ≤ 1000
  chk : actI a n 8 = 0
  kd : inI a 5 = true
theorem ok7 {X : Act × Int} {n : Nat} (hs : Small X.1) (hf : Fit X.1) (hg : Good X n) : Ok7 X.1 n :=
  ⟨hf, hs.n3.1, fun l hl => by have := (hs.post l hl).1; omega, hg.2.1, hg.2.2⟩
theorem ok_chk {a : Act} {n : Nat} (h : Ok7 a n) : PureFn Try.prog 15 [a.pv, .int .i64 (n : Int), .int .i64 8] (.int .i64 0) := by
  rw [← h.chk]; exact ac_Check a n 8 h.fit h.rel h.post
theorem ok_kd {a : Act} {n : Nat} (h : Ok7 a n) : PureFn Try.prog 17 [a.pv, .int .i64 5] (.bool true) := by
  rw [← h.kd]; exact ac_In a 5 h.fit h.rel h.post
theorem ok_s5 {a : Act} {n : Nat} (h : Ok7 a n) (h6 : inI a 6 = true) : PureFn Try.prog 17 [a.pv, .int .i64 6] (.bool true) := by
  rw [← h6]; exact ac_In a 6 h.fit h.rel h.post
theorem fit_no : Fit noAct := fun r hr => (by cases hr)
theorem fit_susp (ag to who : Int) (f : List Nd) : Fit (suspI ag to who f).1 := by
  unfold suspI
  cases (errI ag 0 [to, who] f != 0) with
  | true => exact fit_no
  | false => exact fit_small (by decide) (by decide)
theorem fit_semi (ag to : Int) (f : List Nd) : Fit (semiI ag to f).1 := by
  unfold semiI
  cases (errI ag 0 [to] f != 0) with
  | true => exact fit_no
  | false =>
    cases (((buildL (n0 4) [f]).length : Int) == 0) with
    | true => exact fit_no
    | false => exact fit_small (by decide) (by decide)
theorem fit_change (ag fact : Int) (f : List Nd) : Fit (changeI ag fact f).1 := by
  unfold changeI
  cases (errI ag fact [] f != 0) with
  | true => exact fit_no
  | false => exact fit_small (by decide) (by decide)
theorem fit_secret (ag to fact : Int) (f : List Nd) : Fit (secretI ag to fact f).1 := by
  unfold secretI
  cases (errI ag fact [to] f != 0) with
  | true => exact fit_no
  | false => exact fit_small (by decide) (by decide)
theorem fit_toss (ag to fact : Int) : Fit (tossI ag to fact).1 := by
  unfold tossI
  cases (errI ag fact [to] (buildL (n0 1) []) != 0) with
  | true => exact fit_no
  | false => exact fit_small (by decide) (by decide)
theorem same_self {a : List Nd} (h : check a = 0) : same a a = true := by simp [same, h]
theorem pair_of {X : Act × Int} (h : X.2 = 0) : pairA X = .tup [X.1.pv, .int .i64 0] := by rw [pairA, h]
theorem mlogics_pure (u x y z : Nat) (f : List Nd) (hu : u < 256) (hx : x < 256) (hy : y < 256) (hz : z < 256) : PureFn Try.prog 12 [.int .u8 u, .agg [.int .u8 x, .int .u8 y, .int .u8 z], fpv f] (.bool true) := by
  refine PureFn.introC [2, 4, 5, 7, 8, 9, 10, 11, 12, 13, 14, 19, 20, 22, 27] mixed (fn := Try.f12) rfl rfl rfl fun M w0 => ?_
  obtain ⟨n, qn⟩ : ∃ n, n = u % 5 := ⟨_, rfl⟩
  have hn : n ≤ 4 := by omega
  obtain ⟨to, qt⟩ : ∃ k, k = x % 2 ^ n := ⟨_, rfl⟩
  obtain ⟨who, qw⟩ : ∃ k, k = y % 2 ^ n := ⟨_, rfl⟩
  obtain ⟨fact, qf⟩ : ∃ k, k = z % 8 := ⟨_, rfl⟩
  have hpos := Nat.two_pow_pos n
  have ht : to < 2 ^ n := by rw [qt]; exact Nat.mod_lt _ hpos
  have hw : who < 2 ^ n := by rw [qw]; exact Nat.mod_lt _ hpos
  have hfa : fact < 8 := by omega
  (try (conv => whnf)); repeat' (first | (apply And.intro <;> (try (conv => whnf))) | (intro h; first | (with_reducible exact tf0 h) | (with_reducible exact ft0 h) | (with_reducible exact nt0 h) | (with_reducible exact nf0 h) | (exact litz h rfl) | (with_reducible exact tf h (by with_reducible assumption)) | (with_reducible exact tf (by with_reducible assumption) h) | (try (conv => whnf))) | (with_reducible rfl) | (apply True.intro) | (apply infoT; rfl) | (apply bleI; rfl) | (apply fitI; rfl) | (apply cellsI; rfl) | (apply szI; rfl) | (apply guardI; kernel_rfl) | (apply WhenQ.mk; (try (conv => whnf)); rotate_left; (try (conv => whnf)); rotate_right) | (with_reducible assumption) | (apply not_of; with_reducible assumption) | (apply left_of; with_reducible assumption) | (apply left_of; apply left_of; with_reducible assumption) | (apply and_of <;> first | (with_reducible assumption) | (apply not_of; with_reducible assumption))| (refine lin_plan (by kernel_rfl) ?_; (try (conv => whnf))) | (refine ⟨_, _, rfl, idx_map (by with_reducible assumption), rfl, ?_⟩; (try (conv => whnf))) | (refine ⟨rfl, ?_⟩; (try (conv => whnf))) | (exact Nat.le_refl 1) | ((apply ex3); (focus (with_reducible assumption)); (focus (with_reducible assumption)); (try (conv => whnf))) | ((apply ex2); (focus (with_reducible assumption)); (try (conv => whnf))) | fail)
  refine ⟨Unit, fun _ => [(2, .pv (fpv f)), (4, .ref 0 0), (7, .pv (i64 n))], fun _ => 1, fun _ => [(0, .var [.pv (.int .u8 x), .pv (.int .u8 y), .pv (.int .u8 z)])], ?_, ?_⟩
  · (try (conv => whnf)); repeat' (first | (apply And.intro <;> (try (conv => whnf))) | (intro h; first | (with_reducible exact tf0 h) | (with_reducible exact ft0 h) | (with_reducible exact nt0 h) | (with_reducible exact nf0 h) | (exact litz h rfl) | (with_reducible exact tf h (by with_reducible assumption)) | (with_reducible exact tf (by with_reducible assumption) h) | (try (conv => whnf))) | (with_reducible rfl) | (apply True.intro) | (apply infoT; rfl) | (apply bleI; rfl) | (apply fitI; rfl) | (apply cellsI; rfl) | (apply szI; rfl) | (apply guardI; kernel_rfl) | (apply WhenQ.mk; (try (conv => whnf)); rotate_left; (try (conv => whnf)); rotate_right) | (with_reducible assumption) | (apply not_of; with_reducible assumption) | (apply left_of; with_reducible assumption) | (apply left_of; apply left_of; with_reducible assumption) | (apply and_of <;> first | (with_reducible assumption) | (apply not_of; with_reducible assumption))| (refine lin_plan (by kernel_rfl) ?_; (try (conv => whnf))) | (refine ⟨_, _, rfl, idx_map (by with_reducible assumption), rfl, ?_⟩; (try (conv => whnf))) | (refine ⟨rfl, ?_⟩; (try (conv => whnf))) | (exact Nat.le_refl 1) | ((apply ex3); (focus (with_reducible assumption)); (focus (with_reducible assumption)); (try (conv => whnf))) | ((apply ex2); (focus (with_reducible assumption)); (try (conv => whnf))) | fail)
    refine ⟨(), ?_⟩
    (refine Wk.of ?_ ?_ rfl rfl rfl <;> (repeat' (first | (exact trivial) | (exact WkD.same _) | (exact WkO.same _ _ rfl) | (exact WkD.any _) | (exact WkD.nil _ (Or.inl rfl)) | (exact WkD.nil _ (Or.inr rfl)) | (exact WkD.fz _ _ _ rfl (Or.inl ⟨_, rfl⟩) rfl) | (exact WkD.fz _ _ _ rfl (Or.inr rfl) rfl) | (refine WkD.int ?_) | (exact WkD.new' rfl rfl rfl) | (exact WkO.new _ _ rfl) | (refine WkO.vars rfl ?_) | (with_reducible rfl) | (exact rfl) | (refine ⟨?_, ?_⟩) | ((refine wrapA ?_ ?_ ?_); (focus (simp; done)); (focus ((try dsimp only); omega)); (focus ((try dsimp only); omega))) | fail)))
    exact (u8_mod hu 5).trans (by rw [qn])
  rintro ⟨⟩
  refine ⟨{ _x : Unit // f.length ≤ 40 ∧ statI n 8 f = 0 }, fun _ => [(2, .pv (fpv f)), (4, .ref 0 0), (7, .pv (i64 n))], fun _ => 1, fun _ => [(0, .var [.pv (.int .u8 x), .pv (.int .u8 y), .pv (.int .u8 z)])], ?_, ?_⟩
  · (try (conv => whnf)); repeat' (first | (apply And.intro <;> (try (conv => whnf))) | (intro h; first | (with_reducible exact tf0 h) | (with_reducible exact ft0 h) | (with_reducible exact nt0 h) | (with_reducible exact nf0 h) | (exact litz h rfl) | (with_reducible exact tf h (by with_reducible assumption)) | (with_reducible exact tf (by with_reducible assumption) h) | (try (conv => whnf))) | (with_reducible rfl) | (apply True.intro) | (apply infoT; rfl) | (apply bleI; rfl) | (apply fitI; rfl) | (apply cellsI; rfl) | (apply szI; rfl) | (apply guardI; kernel_rfl) | (apply WhenQ.mk; (try (conv => whnf)); rotate_left; (try (conv => whnf)); rotate_right) | (with_reducible assumption) | (apply not_of; with_reducible assumption) | (apply left_of; with_reducible assumption) | (apply left_of; apply left_of; with_reducible assumption) | (apply and_of <;> first | (with_reducible assumption) | (apply not_of; with_reducible assumption))| (refine lin_plan (by kernel_rfl) ?_; (try (conv => whnf))) | (refine ⟨_, _, rfl, idx_map (by with_reducible assumption), rfl, ?_⟩; (try (conv => whnf))) | (refine ⟨rfl, ?_⟩; (try (conv => whnf))) | (exact Nat.le_refl 1) | ((apply ex3); (focus (with_reducible assumption)); (focus (with_reducible assumption)); (try (conv => whnf))) | ((apply ex2); (focus (with_reducible assumption)); (try (conv => whnf))) | (refine PureFn.dcq (f := 59) rfl ?_; (try (conv => whnf))) | (refine PureFn.dcq (f := 60) rfl ?_; (try (conv => whnf))) | (refine PureFn.dcq (f := 61) rfl ?_; (try (conv => whnf))) | (refine PureFn.dcq (f := 43) rfl ?_; (try (conv => whnf))) | ((refine ⟨_, _, fm_Check ?_, ?_, ?_⟩); rotate_left 1; (focus (first | (refine ⟨?_, trivial⟩ <;> first | (exact PLe.refl _) | (exact PLe.nil)) | (exact trivial))); (try (conv => whnf))) | (refine ⟨_, (by (conv => whnf); exact fm_Check _), rfl, ?_⟩; (try (conv => whnf))) | ((refine ⟨_, _, fm_Frags ?_, ?_, ?_⟩); rotate_left 1; (focus (first | (refine ⟨?_, trivial⟩ <;> first | (exact PLe.refl _) | (exact PLe.nil)) | (exact trivial))); (try (conv => whnf))) | (refine ⟨_, (by (conv => whnf); exact fm_Frags _), rfl, ?_⟩; (try (conv => whnf))) | ((refine ⟨_, _, fm_Fits ?_ ?_ ?_, ?_, ?_⟩); rotate_left 3; (focus (first | (refine ⟨?_, ?_, ?_, trivial⟩ <;> first | (exact PLe.refl _) | (exact PLe.nil)) | (exact trivial))); (try (conv => whnf))) | (refine ⟨_, (by (conv => whnf); exact fm_Fits _ _ _), rfl, ?_⟩; (try (conv => whnf))) | ((refine ⟨_, _, ml_awake, ?_, ?_⟩); (focus (first | (refine ⟨trivial⟩ <;> first | (exact PLe.refl _) | (exact PLe.nil)) | (exact trivial))); (try (conv => whnf))) | (refine ⟨_, (by (conv => whnf); exact ml_awake), rfl, ?_⟩; (try (conv => whnf))) | fail)
    · exact .refl _
    · have h0 : (bif bif bif decide (((f.map Nd.pv).length : Int) > 40) then true else check f != 0 then true else nand64' (frags f : Nat) 15 != 0 then true else !fits f n 8) = false := h
      obtain ⟨h1, b4⟩ := or_ff' h0
      obtain ⟨h2, b3⟩ := or_ff' h1
      obtain ⟨b1, b2⟩ := or_ff' h2
      rw [pre_nd] at b1
      have hl : f.length ≤ 40 := by have := of_decide_eq_false b1; omega
      have hs : statI n 8 f = 0 := by
        have b5 : fits f n 8 = true := by simpa using b4
        rw [statI, b2, b3, b5]; rfl
      exact ⟨⟨(), hl, hs⟩, (by refine Wk.of ?_ ?_ rfl rfl rfl <;> (repeat' (first | (exact trivial) | (exact WkD.same _) | (exact WkO.same _ _ rfl) | (exact WkD.any _) | (exact WkD.nil _ (Or.inl rfl)) | (exact WkD.nil _ (Or.inr rfl)) | (exact WkD.fz _ _ _ rfl (Or.inl ⟨_, rfl⟩) rfl) | (exact WkD.fz _ _ _ rfl (Or.inr rfl) rfl) | (refine WkD.int ?_) | (exact WkD.new' rfl rfl rfl) | (exact WkO.new _ _ rfl) | (refine WkO.vars rfl ?_) | (with_reducible rfl) | (exact rfl) | (refine ⟨?_, ?_⟩) | ((refine wrapA ?_ ?_ ?_); (focus (simp; done)); (focus ((try dsimp only); omega)); (focus ((try dsimp only); omega))) | fail)))⟩
  rintro ⟨_, hl, hs⟩
  refine ⟨Unit, fun _ => [(2, .pv (fpv f)), (7, .pv (i64 n)), (8, .pv (i64 to)), (9, .pv (i64 who)), (10, .pv (i64 fact))], fun _ => 0, fun _ => [], ?_, ?_⟩
  · have hsw := shl_wn (show n ≤ 8 by omega)
    have hne : shl64 1 (IntKind.wrap .u64 (n : Int)) = 0 → False := fun e => by rw [hsw] at e; omega
    (try (conv => whnf)); repeat' (first | (apply And.intro <;> (try (conv => whnf))) | (intro h; first | (with_reducible exact tf0 h) | (with_reducible exact ft0 h) | (with_reducible exact nt0 h) | (with_reducible exact nf0 h) | (exact litz h rfl) | (with_reducible exact tf h (by with_reducible assumption)) | (with_reducible exact tf (by with_reducible assumption) h) | (try (conv => whnf))) | (with_reducible rfl) | (apply True.intro) | (apply infoT; rfl) | (apply bleI; rfl) | (apply fitI; rfl) | (apply cellsI; rfl) | (apply szI; rfl) | (apply guardI; kernel_rfl) | (apply WhenQ.mk; (try (conv => whnf)); rotate_left; (try (conv => whnf)); rotate_right) | (with_reducible assumption) | (apply not_of; with_reducible assumption) | (apply left_of; with_reducible assumption) | (apply left_of; apply left_of; with_reducible assumption) | (apply and_of <;> first | (with_reducible assumption) | (apply not_of; with_reducible assumption))| (refine lin_plan (by kernel_rfl) ?_; (try (conv => whnf))) | (refine ⟨_, _, rfl, idx_map (by with_reducible assumption), rfl, ?_⟩; (try (conv => whnf))) | (refine ⟨rfl, ?_⟩; (try (conv => whnf))) | (exact Nat.le_refl 1) | ((apply ex3); (focus (with_reducible assumption)); (focus (with_reducible assumption)); (try (conv => whnf))) | ((apply ex2); (focus (with_reducible assumption)); (try (conv => whnf))) | fail)
    · exact wrapU_pos _
    · exact hne h
    · exact wrapU_pos _
    · exact hne h
    · refine ⟨(), ?_⟩
      have w1 : (IntKind.wrap .i64 (x : Int)).tmod (shl64 1 (IntKind.wrap .u64 (n : Int))) = (to : Int) := by rw [hsw, u8_mod hx, qt]
      have w2 : (IntKind.wrap .i64 (y : Int)).tmod (shl64 1 (IntKind.wrap .u64 (n : Int))) = (who : Int) := by rw [hsw, u8_mod hy, qw]
      have w3 : (IntKind.wrap .i64 (z : Int)).tmod 8 = (fact : Int) := by rw [qf]; exact u8_mod hz 8
      (refine Wk.of ?_ ?_ rfl rfl rfl <;> (repeat' (first | (exact trivial) | (exact WkD.same _) | (exact WkO.same _ _ rfl) | (exact WkD.any _) | (exact WkD.nil _ (Or.inl rfl)) | (exact WkD.nil _ (Or.inr rfl)) | (exact WkD.fz _ _ _ rfl (Or.inl ⟨_, rfl⟩) rfl) | (exact WkD.fz _ _ _ rfl (Or.inr rfl) rfl) | (refine WkD.int ?_) | (exact WkD.new' rfl rfl rfl) | (exact WkO.new _ _ rfl) | (refine WkO.vars rfl ?_) | (with_reducible rfl) | (exact rfl) | (refine ⟨?_, ?_⟩) | ((refine wrapA ?_ ?_ ?_); (focus (simp; done)); (focus ((try dsimp only); omega)); (focus ((try dsimp only); omega))) | fail)))
      · exact w1
      · exact w2
      · exact w3
  rintro ⟨⟩
  obtain ⟨NF, qNF⟩ : ∃ q : List Nd, q = buildL (n0 4) [buildL (nI 3 fact) []] := ⟨_, rfl⟩
  obtain ⟨FF, qFF⟩ : ∃ q : List Nd, q = buildL (nI 3 fact) [] := ⟨_, rfl⟩
  have hgF := (fact_gd (n := 8) (by decide) hfa).1
  have hgN := (neg_gd hgF (by decide)).1
  have hFF := fm_Fact (fact : Int)
  have s1 := fm_Same FF FF
  have s2 := fm_Same NF NF
  rw [same_self (by rw [qFF]; exact hgF.can.check)] at s1
  rw [same_self (by rw [qNF]; exact hgN.can.check)] at s2
  have g1 := susp_good (who := 0) hn ht hpos hs
  have p1 := ms_Private n to f
  have k1 := ok7 (small_susp n to (0 : Nat) f) (fit_susp n to (0 : Nat) f) g1
  rw [show suspI (n : Int) (to : Int) 0 f = suspI n to (0 : Nat) f from rfl, pair_of g1.1] at p1
  generalize (suspI n to (0 : Nat) f).1 = X1 at p1 k1
  have g2 := susp_good hn ht hw hs
  have p2 := ms_Suspected n to who f
  have k2 := ok7 (small_susp n to who f) (fit_susp n to who f) g2
  rw [pair_of g2.1] at p2
  generalize (suspI n to who f).1 = X2 at p2 k2
  have g3 := secret_good hn ht hfa hs
  have p3 := ms_Secret n to fact f
  have k3 := ok7 (small_secret n to fact f) (fit_secret n to fact f) g3
  rw [pair_of g3.1] at p3
  generalize (secretI n to fact f).1 = X3 at p3 k3
  obtain ⟨g4, t4, _⟩ := semi_good hn ht hs hl
  have p4 := ms_Semi n to f
  have k4 := ok7 (small_semi n to f) (fit_semi n to f) g4
  rw [pair_of g4.1] at p4
  generalize (semiI n to f).1 = X4 at p4 k4 t4
  obtain ⟨g5, t5⟩ := look_good hn ht hfa
  have p5 := ms_Look n to (2 ^ fact : Nat)
  have k5 := ok7 (small_look n to (2 ^ fact : Nat)) (by rw [look_is hn ht hfa]; exact fit_small (by decide) (by decide)) g5
  rw [look_is hn ht hfa, ← qNF, ← qFF] at p5 k5 t5
  rw [← shl_wn (show fact ≤ 8 by omega)] at p5
  obtain ⟨g6, t6⟩ := change_good hn hfa hs
  have p6 := ms_Change n fact f
  have k6 := ok7 (small_change n fact f) (fit_change n fact f) g6
  rw [pair_of g6.1] at p6
  generalize (changeI n fact f).1 = X6 at p6 k6 t6
  obtain ⟨g7, t7⟩ := toss_good hn ht hfa
  have p7 := ms_Toss n to fact
  have k7 := ok7 (small_toss n to fact) (fit_toss n to fact) g7
  rw [pair_of g7.1] at p7
  generalize (tossI n to fact).1 = X7 at p7 k7 t7
  have hsF : statI n 8 (buildL (nI 3 fact) []) = 0 := static_gd hgF
  obtain ⟨_, _, e8⟩ := semi_good hn ht hsF (by rw [(one3 hfa).1]; simp)
  have p8 := ms_Semi n to (buildL (nI 3 fact) [])
  rw [e8, can_comp hgF.can, ← qNF, ← qFF] at p8
  rw [← qFF] at hFF
  have hrl : (relOf n 2 (pcB to 1)).length = n := by simp [relOf]
  have hr2 : ∀ r, r ∈ relOf n 2 (pcB to 1) → r.length ≤ 1000 := fun r hr => by obtain ⟨a, _, rfl⟩ := rel_mem hr; simp
  generalize relOf n 2 (pcB to 1) = rl at p5 k5 t5 p8 hrl hr2
  obtain ⟨X5, qX5⟩ : ∃ q : Act, q = ⟨[NF, FF], [[], []], rl⟩ := ⟨_, rfl⟩
  rw [← qX5] at p5 k5 t5
  have c1 := ok_chk k1
  have d1 := ok_kd k1
  have c2 := ok_chk k2
  have d2 := ok_kd k2
  have c3 := ok_chk k3
  have d3 := ok_kd k3
  have c4 := ok_chk k4
  have d4 := ok_kd k4
  have c5 := ok_chk k5
  have d5 := ok_kd k5
  have c6 := ok_chk k6
  have d6 := ok_kd k6
  have c7 := ok_chk k7
  have d7 := ok_kd k7
  have v4 := ok_s5 k4 t4
  have v5 := ok_s5 k5 t5
  have v6 := ok_s5 k6 t6
  have v7 := ok_s5 k7 t7
  have v1 := ac_In X1 6 k1.fit k1.rel k1.post
  have v2 := ac_In X2 6 k2.fit k2.rel k2.post
  have v3 := ac_In X3 6 k3.fit k3.rel k3.post
  refine ⟨Unit, fun _ => [(2, .pv (fpv f)), (7, .pv (i64 n)), (8, .pv (i64 to)), (9, .pv (i64 who)), (10, .pv (i64 fact)), (11, .ref 0 0), (12, .ref 1 0)], fun _ => 2, fun _ => [(0, .var ([.pv .nil, .pv .nil, .pv .nil] ++ [.pv .nil, .pv .nil, .pv .nil] ++ [.pv .nil, .pv .nil, .pv .nil] ++ [.pv .nil, .pv .nil, .pv .nil] ++ [.pv .nil, .pv .nil, .pv .nil] ++ [.pv .nil, .pv .nil, .pv .nil] ++ [.pv .nil, .pv .nil, .pv .nil])), (1, .var [.pv (.int .i64 0), .pv (.int .i64 0), .pv (.int .i64 0), .pv (.int .i64 0), .pv (.int .i64 0), .pv (.int .i64 0), .pv (.int .i64 0)])], ?_, ?_⟩
  · (try (conv => whnf)); repeat' (first | (apply And.intro <;> (try (conv => whnf))) | (intro h; first | (with_reducible exact tf0 h) | (with_reducible exact ft0 h) | (with_reducible exact nt0 h) | (with_reducible exact nf0 h) | (exact litz h rfl) | (with_reducible exact tf h (by with_reducible assumption)) | (with_reducible exact tf (by with_reducible assumption) h) | (try (conv => whnf))) | (with_reducible rfl) | (apply True.intro) | (apply infoT; rfl) | (apply bleI; rfl) | (apply fitI; rfl) | (apply cellsI; rfl) | (apply szI; rfl) | (apply guardI; kernel_rfl) | (apply WhenQ.mk; (try (conv => whnf)); rotate_left; (try (conv => whnf)); rotate_right) | (with_reducible assumption) | (apply not_of; with_reducible assumption) | (apply left_of; with_reducible assumption) | (apply left_of; apply left_of; with_reducible assumption) | (apply and_of <;> first | (with_reducible assumption) | (apply not_of; with_reducible assumption))| (refine lin_plan (by kernel_rfl) ?_; (try (conv => whnf))) | (refine ⟨_, _, rfl, idx_map (by with_reducible assumption), rfl, ?_⟩; (try (conv => whnf))) | (refine ⟨rfl, ?_⟩; (try (conv => whnf))) | (exact Nat.le_refl 1) | ((apply ex3); (focus (with_reducible assumption)); (focus (with_reducible assumption)); (try (conv => whnf))) | ((apply ex2); (focus (with_reducible assumption)); (try (conv => whnf))) | fail)
    exact ⟨(), (by refine Wk.of ?_ ?_ rfl rfl rfl <;> (repeat' (first | (exact trivial) | (exact WkD.same _) | (exact WkO.same _ _ rfl) | (exact WkD.any _) | (exact WkD.nil _ (Or.inl rfl)) | (exact WkD.nil _ (Or.inr rfl)) | (exact WkD.fz _ _ _ rfl (Or.inl ⟨_, rfl⟩) rfl) | (exact WkD.fz _ _ _ rfl (Or.inr rfl) rfl) | (refine WkD.int ?_) | (exact WkD.new' rfl rfl rfl) | (exact WkO.new _ _ rfl) | (refine WkO.vars rfl ?_) | (with_reducible rfl) | (exact rfl) | (refine ⟨?_, ?_⟩) | ((refine wrapA ?_ ?_ ?_); (focus (simp; done)); (focus ((try dsimp only); omega)); (focus ((try dsimp only); omega))) | fail)))⟩
  rintro ⟨⟩
  refine ⟨Unit, fun _ => [(2, .pv (fpv f)), (7, .pv (i64 n)), (8, .pv (i64 to)), (9, .pv (i64 who)), (10, .pv (i64 fact)), (11, .ref 0 0), (12, .ref 1 0)], fun _ => 2, fun _ => [(0, .var (cellsA X1 ++ [.pv .nil, .pv .nil, .pv .nil] ++ [.pv .nil, .pv .nil, .pv .nil] ++ [.pv .nil, .pv .nil, .pv .nil] ++ [.pv .nil, .pv .nil, .pv .nil] ++ [.pv .nil, .pv .nil, .pv .nil] ++ [.pv .nil, .pv .nil, .pv .nil])), (1, .var [.pv (.int .i64 0), .pv (.int .i64 0), .pv (.int .i64 0), .pv (.int .i64 0), .pv (.int .i64 0), .pv (.int .i64 0), .pv (.int .i64 0)])], ?_, ?_⟩
  · (try (conv => whnf)); repeat' (first | (apply And.intro <;> (try (conv => whnf))) | (intro h; first | (with_reducible exact tf0 h) | (with_reducible exact ft0 h) | (with_reducible exact nt0 h) | (with_reducible exact nf0 h) | (exact litz h rfl) | (with_reducible exact tf h (by with_reducible assumption)) | (with_reducible exact tf (by with_reducible assumption) h) | (try (conv => whnf))) | (with_reducible rfl) | (apply True.intro) | (apply infoT; rfl) | (apply bleI; rfl) | (apply fitI; rfl) | (apply cellsI; rfl) | (apply szI; rfl) | (apply guardI; kernel_rfl) | (apply WhenQ.mk; (try (conv => whnf)); rotate_left; (try (conv => whnf)); rotate_right) | (with_reducible assumption) | (apply not_of; with_reducible assumption) | (apply left_of; with_reducible assumption) | (apply left_of; apply left_of; with_reducible assumption) | (apply and_of <;> first | (with_reducible assumption) | (apply not_of; with_reducible assumption))| (refine lin_plan (by kernel_rfl) ?_; (try (conv => whnf))) | (refine ⟨_, _, rfl, idx_map (by with_reducible assumption), rfl, ?_⟩; (try (conv => whnf))) | (refine ⟨rfl, ?_⟩; (try (conv => whnf))) | (exact Nat.le_refl 1) | ((apply ex3); (focus (with_reducible assumption)); (focus (with_reducible assumption)); (try (conv => whnf))) | ((apply ex2); (focus (with_reducible assumption)); (try (conv => whnf))) | (refine PureFn.dcq (f := 44) rfl ?_; (try (conv => whnf))) | ((refine ⟨_, _, p1, ?_, ?_⟩); (focus (first | (refine ⟨?_, ?_, ?_, trivial⟩ <;> first | (exact PLe.refl _) | (exact PLe.nil)) | (exact trivial))); (try (conv => whnf))) | (refine ⟨_, (by (conv => whnf); exact p1), rfl, ?_⟩; (try (conv => whnf))) | fail)
    exact ⟨(), (by refine Wk.of ?_ ?_ rfl rfl rfl <;> (repeat' (first | (exact trivial) | (exact WkD.same _) | (exact WkO.same _ _ rfl) | (exact WkD.any _) | (exact WkD.nil _ (Or.inl rfl)) | (exact WkD.nil _ (Or.inr rfl)) | (exact WkD.fz _ _ _ rfl (Or.inl ⟨_, rfl⟩) rfl) | (exact WkD.fz _ _ _ rfl (Or.inr rfl) rfl) | (refine WkD.int ?_) | (exact WkD.new' rfl rfl rfl) | (exact WkO.new _ _ rfl) | (refine WkO.vars rfl ?_) | (with_reducible rfl) | (exact rfl) | (refine ⟨?_, ?_⟩) | ((refine wrapA ?_ ?_ ?_); (focus (simp; done)); (focus ((try dsimp only); omega)); (focus ((try dsimp only); omega))) | fail)))⟩
  rintro ⟨⟩
  refine ⟨Unit, fun _ => [(2, .pv (fpv f)), (7, .pv (i64 n)), (8, .pv (i64 to)), (9, .pv (i64 who)), (10, .pv (i64 fact)), (11, .ref 0 0), (12, .ref 1 0)], fun _ => 2, fun _ => [(0, .var (cellsA X1 ++ cellsA X2 ++ [.pv .nil, .pv .nil, .pv .nil] ++ [.pv .nil, .pv .nil, .pv .nil] ++ [.pv .nil, .pv .nil, .pv .nil] ++ [.pv .nil, .pv .nil, .pv .nil] ++ [.pv .nil, .pv .nil, .pv .nil])), (1, .var [.pv (.int .i64 0), .pv (.int .i64 0), .pv (.int .i64 0), .pv (.int .i64 0), .pv (.int .i64 0), .pv (.int .i64 0), .pv (.int .i64 0)])], ?_, ?_⟩
  · (try (conv => whnf)); repeat' (first | (apply And.intro <;> (try (conv => whnf))) | (intro h; first | (with_reducible exact tf0 h) | (with_reducible exact ft0 h) | (with_reducible exact nt0 h) | (with_reducible exact nf0 h) | (exact litz h rfl) | (with_reducible exact tf h (by with_reducible assumption)) | (with_reducible exact tf (by with_reducible assumption) h) | (try (conv => whnf))) | (with_reducible rfl) | (apply True.intro) | (apply infoT; rfl) | (apply bleI; rfl) | (apply fitI; rfl) | (apply cellsI; rfl) | (apply szI; rfl) | (apply guardI; kernel_rfl) | (apply WhenQ.mk; (try (conv => whnf)); rotate_left; (try (conv => whnf)); rotate_right) | (with_reducible assumption) | (apply not_of; with_reducible assumption) | (apply left_of; with_reducible assumption) | (apply left_of; apply left_of; with_reducible assumption) | (apply and_of <;> first | (with_reducible assumption) | (apply not_of; with_reducible assumption))| (refine lin_plan (by kernel_rfl) ?_; (try (conv => whnf))) | (refine ⟨_, _, rfl, idx_map (by with_reducible assumption), rfl, ?_⟩; (try (conv => whnf))) | (refine ⟨rfl, ?_⟩; (try (conv => whnf))) | (exact Nat.le_refl 1) | ((apply ex3); (focus (with_reducible assumption)); (focus (with_reducible assumption)); (try (conv => whnf))) | ((apply ex2); (focus (with_reducible assumption)); (try (conv => whnf))) | (refine PureFn.dcq (f := 47) rfl ?_; (try (conv => whnf))) | ((refine ⟨_, _, p2, ?_, ?_⟩); (focus (first | (refine ⟨?_, ?_, ?_, ?_, trivial⟩ <;> first | (exact PLe.refl _) | (exact PLe.nil)) | (exact trivial))); (try (conv => whnf))) | (refine ⟨_, (by (conv => whnf); exact p2), rfl, ?_⟩; (try (conv => whnf))) | fail)
    exact ⟨(), (by refine Wk.of ?_ ?_ rfl rfl rfl <;> (repeat' (first | (exact trivial) | (exact WkD.same _) | (exact WkO.same _ _ rfl) | (exact WkD.any _) | (exact WkD.nil _ (Or.inl rfl)) | (exact WkD.nil _ (Or.inr rfl)) | (exact WkD.fz _ _ _ rfl (Or.inl ⟨_, rfl⟩) rfl) | (exact WkD.fz _ _ _ rfl (Or.inr rfl) rfl) | (refine WkD.int ?_) | (exact WkD.new' rfl rfl rfl) | (exact WkO.new _ _ rfl) | (refine WkO.vars rfl ?_) | (with_reducible rfl) | (exact rfl) | (refine ⟨?_, ?_⟩) | ((refine wrapA ?_ ?_ ?_); (focus (simp; done)); (focus ((try dsimp only); omega)); (focus ((try dsimp only); omega))) | fail)))⟩
  rintro ⟨⟩
  refine ⟨Unit, fun _ => [(2, .pv (fpv f)), (7, .pv (i64 n)), (8, .pv (i64 to)), (9, .pv (i64 who)), (10, .pv (i64 fact)), (11, .ref 0 0), (12, .ref 1 0)], fun _ => 2, fun _ => [(0, .var (cellsA X1 ++ cellsA X2 ++ cellsA X3 ++ [.pv .nil, .pv .nil, .pv .nil] ++ [.pv .nil, .pv .nil, .pv .nil] ++ [.pv .nil, .pv .nil, .pv .nil] ++ [.pv .nil, .pv .nil, .pv .nil])), (1, .var [.pv (.int .i64 0), .pv (.int .i64 0), .pv (.int .i64 0), .pv (.int .i64 0), .pv (.int .i64 0), .pv (.int .i64 0), .pv (.int .i64 0)])], ?_, ?_⟩
  · (try (conv => whnf)); repeat' (first | (apply And.intro <;> (try (conv => whnf))) | (intro h; first | (with_reducible exact tf0 h) | (with_reducible exact ft0 h) | (with_reducible exact nt0 h) | (with_reducible exact nf0 h) | (exact litz h rfl) | (with_reducible exact tf h (by with_reducible assumption)) | (with_reducible exact tf (by with_reducible assumption) h) | (try (conv => whnf))) | (with_reducible rfl) | (apply True.intro) | (apply infoT; rfl) | (apply bleI; rfl) | (apply fitI; rfl) | (apply cellsI; rfl) | (apply szI; rfl) | (apply guardI; kernel_rfl) | (apply WhenQ.mk; (try (conv => whnf)); rotate_left; (try (conv => whnf)); rotate_right) | (with_reducible assumption) | (apply not_of; with_reducible assumption) | (apply left_of; with_reducible assumption) | (apply left_of; apply left_of; with_reducible assumption) | (apply and_of <;> first | (with_reducible assumption) | (apply not_of; with_reducible assumption))| (refine lin_plan (by kernel_rfl) ?_; (try (conv => whnf))) | (refine ⟨_, _, rfl, idx_map (by with_reducible assumption), rfl, ?_⟩; (try (conv => whnf))) | (refine ⟨rfl, ?_⟩; (try (conv => whnf))) | (exact Nat.le_refl 1) | ((apply ex3); (focus (with_reducible assumption)); (focus (with_reducible assumption)); (try (conv => whnf))) | ((apply ex2); (focus (with_reducible assumption)); (try (conv => whnf))) | (refine PureFn.dcq (f := 55) rfl ?_; (try (conv => whnf))) | ((refine ⟨_, _, p3, ?_, ?_⟩); (focus (first | (refine ⟨?_, ?_, ?_, ?_, trivial⟩ <;> first | (exact PLe.refl _) | (exact PLe.nil)) | (exact trivial))); (try (conv => whnf))) | (refine ⟨_, (by (conv => whnf); exact p3), rfl, ?_⟩; (try (conv => whnf))) | fail)
    exact ⟨(), (by refine Wk.of ?_ ?_ rfl rfl rfl <;> (repeat' (first | (exact trivial) | (exact WkD.same _) | (exact WkO.same _ _ rfl) | (exact WkD.any _) | (exact WkD.nil _ (Or.inl rfl)) | (exact WkD.nil _ (Or.inr rfl)) | (exact WkD.fz _ _ _ rfl (Or.inl ⟨_, rfl⟩) rfl) | (exact WkD.fz _ _ _ rfl (Or.inr rfl) rfl) | (refine WkD.int ?_) | (exact WkD.new' rfl rfl rfl) | (exact WkO.new _ _ rfl) | (refine WkO.vars rfl ?_) | (with_reducible rfl) | (exact rfl) | (refine ⟨?_, ?_⟩) | ((refine wrapA ?_ ?_ ?_); (focus (simp; done)); (focus ((try dsimp only); omega)); (focus ((try dsimp only); omega))) | fail)))⟩
  rintro ⟨⟩
  refine ⟨Unit, fun _ => [(2, .pv (fpv f)), (7, .pv (i64 n)), (8, .pv (i64 to)), (9, .pv (i64 who)), (10, .pv (i64 fact)), (11, .ref 0 0), (12, .ref 1 0)], fun _ => 2, fun _ => [(0, .var (cellsA X1 ++ cellsA X2 ++ cellsA X3 ++ cellsA X4 ++ [.pv .nil, .pv .nil, .pv .nil] ++ [.pv .nil, .pv .nil, .pv .nil] ++ [.pv .nil, .pv .nil, .pv .nil])), (1, .var [.pv (.int .i64 0), .pv (.int .i64 0), .pv (.int .i64 0), .pv (.int .i64 0), .pv (.int .i64 0), .pv (.int .i64 0), .pv (.int .i64 0)])], ?_, ?_⟩
  · (try (conv => whnf)); repeat' (first | (apply And.intro <;> (try (conv => whnf))) | (intro h; first | (with_reducible exact tf0 h) | (with_reducible exact ft0 h) | (with_reducible exact nt0 h) | (with_reducible exact nf0 h) | (exact litz h rfl) | (with_reducible exact tf h (by with_reducible assumption)) | (with_reducible exact tf (by with_reducible assumption) h) | (try (conv => whnf))) | (with_reducible rfl) | (apply True.intro) | (apply infoT; rfl) | (apply bleI; rfl) | (apply fitI; rfl) | (apply cellsI; rfl) | (apply szI; rfl) | (apply guardI; kernel_rfl) | (apply WhenQ.mk; (try (conv => whnf)); rotate_left; (try (conv => whnf)); rotate_right) | (with_reducible assumption) | (apply not_of; with_reducible assumption) | (apply left_of; with_reducible assumption) | (apply left_of; apply left_of; with_reducible assumption) | (apply and_of <;> first | (with_reducible assumption) | (apply not_of; with_reducible assumption))| (refine lin_plan (by kernel_rfl) ?_; (try (conv => whnf))) | (refine ⟨_, _, rfl, idx_map (by with_reducible assumption), rfl, ?_⟩; (try (conv => whnf))) | (refine ⟨rfl, ?_⟩; (try (conv => whnf))) | (exact Nat.le_refl 1) | ((apply ex3); (focus (with_reducible assumption)); (focus (with_reducible assumption)); (try (conv => whnf))) | ((apply ex2); (focus (with_reducible assumption)); (try (conv => whnf))) | (refine PureFn.dcq (f := 49) rfl ?_; (try (conv => whnf))) | ((refine ⟨_, _, p4, ?_, ?_⟩); (focus (first | (refine ⟨?_, ?_, ?_, trivial⟩ <;> first | (exact PLe.refl _) | (exact PLe.nil)) | (exact trivial))); (try (conv => whnf))) | (refine ⟨_, (by (conv => whnf); exact p4), rfl, ?_⟩; (try (conv => whnf))) | fail)
    exact ⟨(), (by refine Wk.of ?_ ?_ rfl rfl rfl <;> (repeat' (first | (exact trivial) | (exact WkD.same _) | (exact WkO.same _ _ rfl) | (exact WkD.any _) | (exact WkD.nil _ (Or.inl rfl)) | (exact WkD.nil _ (Or.inr rfl)) | (exact WkD.fz _ _ _ rfl (Or.inl ⟨_, rfl⟩) rfl) | (exact WkD.fz _ _ _ rfl (Or.inr rfl) rfl) | (refine WkD.int ?_) | (exact WkD.new' rfl rfl rfl) | (exact WkO.new _ _ rfl) | (refine WkO.vars rfl ?_) | (with_reducible rfl) | (exact rfl) | (refine ⟨?_, ?_⟩) | ((refine wrapA ?_ ?_ ?_); (focus (simp; done)); (focus ((try dsimp only); omega)); (focus ((try dsimp only); omega))) | fail)))⟩
  rintro ⟨⟩
  refine ⟨Unit, fun _ => [(2, .pv (fpv f)), (7, .pv (i64 n)), (8, .pv (i64 to)), (9, .pv (i64 who)), (10, .pv (i64 fact)), (11, .ref 0 0), (12, .ref 1 0)], fun _ => 2, fun _ => [(0, .var (cellsA X1 ++ cellsA X2 ++ cellsA X3 ++ cellsA X4 ++ cellsA X5 ++ [.pv .nil, .pv .nil, .pv .nil] ++ [.pv .nil, .pv .nil, .pv .nil])), (1, .var [.pv (.int .i64 0), .pv (.int .i64 0), .pv (.int .i64 0), .pv (.int .i64 0), .pv (.int .i64 0), .pv (.int .i64 0), .pv (.int .i64 0)])], ?_, ?_⟩
  · (try (conv => whnf)); repeat' (first | (apply And.intro <;> (try (conv => whnf))) | (intro h; first | (with_reducible exact tf0 h) | (with_reducible exact ft0 h) | (with_reducible exact nt0 h) | (with_reducible exact nf0 h) | (exact litz h rfl) | (with_reducible exact tf h (by with_reducible assumption)) | (with_reducible exact tf (by with_reducible assumption) h) | (try (conv => whnf))) | (with_reducible rfl) | (apply True.intro) | (apply infoT; rfl) | (apply bleI; rfl) | (apply fitI; rfl) | (apply cellsI; rfl) | (apply szI; rfl) | (apply guardI; kernel_rfl) | (apply WhenQ.mk; (try (conv => whnf)); rotate_left; (try (conv => whnf)); rotate_right) | (with_reducible assumption) | (apply not_of; with_reducible assumption) | (apply left_of; with_reducible assumption) | (apply left_of; apply left_of; with_reducible assumption) | (apply and_of <;> first | (with_reducible assumption) | (apply not_of; with_reducible assumption))| (refine lin_plan (by kernel_rfl) ?_; (try (conv => whnf))) | (refine ⟨_, _, rfl, idx_map (by with_reducible assumption), rfl, ?_⟩; (try (conv => whnf))) | (refine ⟨rfl, ?_⟩; (try (conv => whnf))) | (exact Nat.le_refl 1) | ((apply ex3); (focus (with_reducible assumption)); (focus (with_reducible assumption)); (try (conv => whnf))) | ((apply ex2); (focus (with_reducible assumption)); (try (conv => whnf))) | (refine PureFn.dcq (f := 51) rfl ?_; (try (conv => whnf))) | ((refine ⟨_, _, p5, ?_, ?_⟩); (focus (first | (refine ⟨?_, ?_, ?_, trivial⟩ <;> first | (exact PLe.refl _) | (exact PLe.nil)) | (exact trivial))); (try (conv => whnf))) | (refine ⟨_, (by (conv => whnf); exact p5), rfl, ?_⟩; (try (conv => whnf))) | fail)
    any_goals exact wrapU_pos _
    exact ⟨(), (by refine Wk.of ?_ ?_ rfl rfl rfl <;> (repeat' (first | (exact trivial) | (exact WkD.same _) | (exact WkO.same _ _ rfl) | (exact WkD.any _) | (exact WkD.nil _ (Or.inl rfl)) | (exact WkD.nil _ (Or.inr rfl)) | (exact WkD.fz _ _ _ rfl (Or.inl ⟨_, rfl⟩) rfl) | (exact WkD.fz _ _ _ rfl (Or.inr rfl) rfl) | (refine WkD.int ?_) | (exact WkD.new' rfl rfl rfl) | (exact WkO.new _ _ rfl) | (refine WkO.vars rfl ?_) | (with_reducible rfl) | (exact rfl) | (refine ⟨?_, ?_⟩) | ((refine wrapA ?_ ?_ ?_); (focus (simp; done)); (focus ((try dsimp only); omega)); (focus ((try dsimp only); omega))) | fail)))⟩
  rintro ⟨⟩
  refine ⟨Unit, fun _ => [(2, .pv (fpv f)), (7, .pv (i64 n)), (8, .pv (i64 to)), (9, .pv (i64 who)), (10, .pv (i64 fact)), (11, .ref 0 0), (12, .ref 1 0)], fun _ => 2, fun _ => [(0, .var (cellsA X1 ++ cellsA X2 ++ cellsA X3 ++ cellsA X4 ++ cellsA X5 ++ cellsA X6 ++ [.pv .nil, .pv .nil, .pv .nil])), (1, .var [.pv (.int .i64 0), .pv (.int .i64 0), .pv (.int .i64 0), .pv (.int .i64 0), .pv (.int .i64 0), .pv (.int .i64 0), .pv (.int .i64 0)])], ?_, ?_⟩
  · (try (conv => whnf)); repeat' (first | (apply And.intro <;> (try (conv => whnf))) | (intro h; first | (with_reducible exact tf0 h) | (with_reducible exact ft0 h) | (with_reducible exact nt0 h) | (with_reducible exact nf0 h) | (exact litz h rfl) | (with_reducible exact tf h (by with_reducible assumption)) | (with_reducible exact tf (by with_reducible assumption) h) | (try (conv => whnf))) | (with_reducible rfl) | (apply True.intro) | (apply infoT; rfl) | (apply bleI; rfl) | (apply fitI; rfl) | (apply cellsI; rfl) | (apply szI; rfl) | (apply guardI; kernel_rfl) | (apply WhenQ.mk; (try (conv => whnf)); rotate_left; (try (conv => whnf)); rotate_right) | (with_reducible assumption) | (apply not_of; with_reducible assumption) | (apply left_of; with_reducible assumption) | (apply left_of; apply left_of; with_reducible assumption) | (apply and_of <;> first | (with_reducible assumption) | (apply not_of; with_reducible assumption))| (refine lin_plan (by kernel_rfl) ?_; (try (conv => whnf))) | (refine ⟨_, _, rfl, idx_map (by with_reducible assumption), rfl, ?_⟩; (try (conv => whnf))) | (refine ⟨rfl, ?_⟩; (try (conv => whnf))) | (exact Nat.le_refl 1) | ((apply ex3); (focus (with_reducible assumption)); (focus (with_reducible assumption)); (try (conv => whnf))) | ((apply ex2); (focus (with_reducible assumption)); (try (conv => whnf))) | (refine PureFn.dcq (f := 53) rfl ?_; (try (conv => whnf))) | ((refine ⟨_, _, p6, ?_, ?_⟩); (focus (first | (refine ⟨?_, ?_, ?_, trivial⟩ <;> first | (exact PLe.refl _) | (exact PLe.nil)) | (exact trivial))); (try (conv => whnf))) | (refine ⟨_, (by (conv => whnf); exact p6), rfl, ?_⟩; (try (conv => whnf))) | fail)
    exact ⟨(), (by refine Wk.of ?_ ?_ rfl rfl rfl <;> (repeat' (first | (exact trivial) | (exact WkD.same _) | (exact WkO.same _ _ rfl) | (exact WkD.any _) | (exact WkD.nil _ (Or.inl rfl)) | (exact WkD.nil _ (Or.inr rfl)) | (exact WkD.fz _ _ _ rfl (Or.inl ⟨_, rfl⟩) rfl) | (exact WkD.fz _ _ _ rfl (Or.inr rfl) rfl) | (refine WkD.int ?_) | (exact WkD.new' rfl rfl rfl) | (exact WkO.new _ _ rfl) | (refine WkO.vars rfl ?_) | (with_reducible rfl) | (exact rfl) | (refine ⟨?_, ?_⟩) | ((refine wrapA ?_ ?_ ?_); (focus (simp; done)); (focus ((try dsimp only); omega)); (focus ((try dsimp only); omega))) | fail)))⟩
  rintro ⟨⟩
  refine ⟨Unit, fun _ => [(7, .pv (i64 n)), (8, .pv (i64 to)), (10, .pv (i64 fact)), (11, .ref 0 0), (12, .ref 1 0)], fun _ => 2, fun _ => [(0, .var (cellsA X1 ++ cellsA X2 ++ cellsA X3 ++ cellsA X4 ++ cellsA X5 ++ cellsA X6 ++ cellsA X7)), (1, .var [.pv (.int .i64 0), .pv (.int .i64 0), .pv (.int .i64 0), .pv (.int .i64 0), .pv (.int .i64 0), .pv (.int .i64 0), .pv (.int .i64 0)])], ?_, ?_⟩
  · (try (conv => whnf)); repeat' (first | (apply And.intro <;> (try (conv => whnf))) | (intro h; first | (with_reducible exact tf0 h) | (with_reducible exact ft0 h) | (with_reducible exact nt0 h) | (with_reducible exact nf0 h) | (exact litz h rfl) | (with_reducible exact tf h (by with_reducible assumption)) | (with_reducible exact tf (by with_reducible assumption) h) | (try (conv => whnf))) | (with_reducible rfl) | (apply True.intro) | (apply infoT; rfl) | (apply bleI; rfl) | (apply fitI; rfl) | (apply cellsI; rfl) | (apply szI; rfl) | (apply guardI; kernel_rfl) | (apply WhenQ.mk; (try (conv => whnf)); rotate_left; (try (conv => whnf)); rotate_right) | (with_reducible assumption) | (apply not_of; with_reducible assumption) | (apply left_of; with_reducible assumption) | (apply left_of; apply left_of; with_reducible assumption) | (apply and_of <;> first | (with_reducible assumption) | (apply not_of; with_reducible assumption))| (refine lin_plan (by kernel_rfl) ?_; (try (conv => whnf))) | (refine ⟨_, _, rfl, idx_map (by with_reducible assumption), rfl, ?_⟩; (try (conv => whnf))) | (refine ⟨rfl, ?_⟩; (try (conv => whnf))) | (exact Nat.le_refl 1) | ((apply ex3); (focus (with_reducible assumption)); (focus (with_reducible assumption)); (try (conv => whnf))) | ((apply ex2); (focus (with_reducible assumption)); (try (conv => whnf))) | (refine PureFn.dcq (f := 57) rfl ?_; (try (conv => whnf))) | ((refine ⟨_, _, p7, ?_, ?_⟩); (focus (first | (refine ⟨?_, ?_, ?_, trivial⟩ <;> first | (exact PLe.refl _) | (exact PLe.nil)) | (exact trivial))); (try (conv => whnf))) | (refine ⟨_, (by (conv => whnf); exact p7), rfl, ?_⟩; (try (conv => whnf))) | fail)
    exact ⟨(), (by refine Wk.of ?_ ?_ rfl rfl rfl <;> (repeat' (first | (exact trivial) | (exact WkD.same _) | (exact WkO.same _ _ rfl) | (exact WkD.any _) | (exact WkD.nil _ (Or.inl rfl)) | (exact WkD.nil _ (Or.inr rfl)) | (exact WkD.fz _ _ _ rfl (Or.inl ⟨_, rfl⟩) rfl) | (exact WkD.fz _ _ _ rfl (Or.inr rfl) rfl) | (refine WkD.int ?_) | (exact WkD.new' rfl rfl rfl) | (exact WkO.new _ _ rfl) | (refine WkO.vars rfl ?_) | (with_reducible rfl) | (exact rfl) | (refine ⟨?_, ?_⟩) | ((refine wrapA ?_ ?_ ?_); (focus (simp; done)); (focus ((try dsimp only); omega)); (focus ((try dsimp only); omega))) | fail)))⟩
  rintro ⟨⟩
  refine ⟨Unit, fun _ => [(7, .pv (i64 n)), (8, .pv (i64 to)), (10, .pv (i64 fact)), (11, .ref 0 0)], fun _ => 2, fun _ => [(0, .var (cellsA X1 ++ cellsA X2 ++ cellsA X3 ++ cellsA X4 ++ cellsA X5 ++ cellsA X6 ++ cellsA X7))], ?_, ?_⟩
  · (try (conv => whnf)); repeat' (first | (apply And.intro <;> (try (conv => whnf))) | (intro h; first | (with_reducible exact tf0 h) | (with_reducible exact ft0 h) | (with_reducible exact nt0 h) | (with_reducible exact nf0 h) | (exact litz h rfl) | (with_reducible exact tf h (by with_reducible assumption)) | (with_reducible exact tf (by with_reducible assumption) h) | (try (conv => whnf))) | (with_reducible rfl) | (apply True.intro) | (apply infoT; rfl) | (apply bleI; rfl) | (apply fitI; rfl) | (apply cellsI; rfl) | (apply szI; rfl) | (apply guardI; kernel_rfl) | (apply WhenQ.mk; (try (conv => whnf)); rotate_left; (try (conv => whnf)); rotate_right) | (with_reducible assumption) | (apply not_of; with_reducible assumption) | (apply left_of; with_reducible assumption) | (apply left_of; apply left_of; with_reducible assumption) | (apply and_of <;> first | (with_reducible assumption) | (apply not_of; with_reducible assumption))| (refine lin_plan (by kernel_rfl) ?_; (try (conv => whnf))) | (refine ⟨_, _, rfl, idx_map (by with_reducible assumption), rfl, ?_⟩; (try (conv => whnf))) | (refine ⟨rfl, ?_⟩; (try (conv => whnf))) | (exact Nat.le_refl 1) | ((apply ex3); (focus (with_reducible assumption)); (focus (with_reducible assumption)); (try (conv => whnf))) | ((apply ex2); (focus (with_reducible assumption)); (try (conv => whnf))) | fail)
    refine ⟨{ i : Nat // i ≤ 7 }, fun i => [(7, .pv (i64 n)), (8, .pv (i64 to)), (10, .pv (i64 fact)), (11, .ref 0 0), (12, .ref 1 0), (13, .pv (i64 i.1))], fun _ => 2, fun _ => [(0, .var (cellsA X1 ++ cellsA X2 ++ cellsA X3 ++ cellsA X4 ++ cellsA X5 ++ cellsA X6 ++ cellsA X7)), (1, .var [.pv (.int .i64 0), .pv (.int .i64 0), .pv (.int .i64 0), .pv (.int .i64 0), .pv (.int .i64 0), .pv (.int .i64 0), .pv (.int .i64 0)])], fun i => 7 - i.1, ⟨⟨0, Nat.zero_le _⟩, (by refine Wk.of ?_ ?_ rfl rfl rfl <;> (repeat' (first | (exact trivial) | (exact WkD.same _) | (exact WkO.same _ _ rfl) | (exact WkD.any _) | (exact WkD.nil _ (Or.inl rfl)) | (exact WkD.nil _ (Or.inr rfl)) | (exact WkD.fz _ _ _ rfl (Or.inl ⟨_, rfl⟩) rfl) | (exact WkD.fz _ _ _ rfl (Or.inr rfl) rfl) | (refine WkD.int ?_) | (exact WkD.new' rfl rfl rfl) | (exact WkO.new _ _ rfl) | (refine WkO.vars rfl ?_) | (with_reducible rfl) | (exact rfl) | (refine ⟨?_, ?_⟩) | ((refine wrapA ?_ ?_ ?_); (focus (simp; done)); (focus ((try dsimp only); omega)); (focus ((try dsimp only); omega))) | fail)))⟩, ?_⟩
    rintro ⟨i, hi⟩
    have hcase : i = 0 ∨ i = 1 ∨ i = 2 ∨ i = 3 ∨ i = 4 ∨ i = 5 ∨ i = 6 ∨ i = 7 := by omega
    rcases hcase with rfl | rfl | rfl | rfl | rfl | rfl | rfl | rfl
    · (try (conv => whnf)); repeat' (first | (apply And.intro <;> (try (conv => whnf))) | (intro h; first | (with_reducible exact tf0 h) | (with_reducible exact ft0 h) | (with_reducible exact nt0 h) | (with_reducible exact nf0 h) | (exact litz h rfl) | (with_reducible exact tf h (by with_reducible assumption)) | (with_reducible exact tf (by with_reducible assumption) h) | (try (conv => whnf))) | (with_reducible rfl) | (apply True.intro) | (apply infoT; rfl) | (apply bleI; rfl) | (apply fitI; rfl) | (apply cellsI; rfl) | (apply szI; rfl) | (apply guardI; kernel_rfl) | (apply WhenQ.mk; (try (conv => whnf)); rotate_left; (try (conv => whnf)); rotate_right) | (with_reducible assumption) | (apply not_of; with_reducible assumption) | (apply left_of; with_reducible assumption) | (apply left_of; apply left_of; with_reducible assumption) | (apply and_of <;> first | (with_reducible assumption) | (apply not_of; with_reducible assumption))| (refine lin_plan (by kernel_rfl) ?_; (try (conv => whnf))) | (refine ⟨_, _, rfl, idx_map (by with_reducible assumption), rfl, ?_⟩; (try (conv => whnf))) | (refine ⟨rfl, ?_⟩; (try (conv => whnf))) | (exact Nat.le_refl 1) | ((apply ex3); (focus (with_reducible assumption)); (focus (with_reducible assumption)); (try (conv => whnf))) | ((apply ex2); (focus (with_reducible assumption)); (try (conv => whnf))) | (refine PureFn.dcq (f := 15) rfl ?_; (try (conv => whnf))) | (refine PureFn.dcq (f := 17) rfl ?_; (try (conv => whnf))) | (refine PureFn.dcq (f := 17) rfl ?_; (try (conv => whnf))) | ((refine ⟨_, _, c1, ?_, ?_⟩); (focus (first | (refine ⟨?_, ?_, ?_, trivial⟩ <;> first | (exact PLe.refl _) | (exact PLe.nil)) | (exact trivial))); (try (conv => whnf))) | (refine ⟨_, (by (conv => whnf); exact c1), rfl, ?_⟩; (try (conv => whnf))) | ((refine ⟨_, _, d1, ?_, ?_⟩); (focus (first | (refine ⟨?_, ?_, trivial⟩ <;> first | (exact PLe.refl _) | (exact PLe.nil)) | (exact trivial))); (try (conv => whnf))) | (refine ⟨_, (by (conv => whnf); exact d1), rfl, ?_⟩; (try (conv => whnf))) | ((refine ⟨_, _, v1, ?_, ?_⟩); (focus (first | (refine ⟨?_, ?_, trivial⟩ <;> first | (exact PLe.refl _) | (exact PLe.nil)) | (exact trivial))); (try (conv => whnf))) | (refine ⟨_, (by (conv => whnf); exact v1), rfl, ?_⟩; (try (conv => whnf))) | fail)
      all_goals first | (simp at h; done) | exact ⟨⟨1, by decide⟩, by show 7 - 1 < 7 - 0; decide, (by refine Wk.of ?_ ?_ rfl rfl rfl <;> (repeat' (first | (exact trivial) | (exact WkD.same _) | (exact WkO.same _ _ rfl) | (exact WkD.any _) | (exact WkD.nil _ (Or.inl rfl)) | (exact WkD.nil _ (Or.inr rfl)) | (exact WkD.fz _ _ _ rfl (Or.inl ⟨_, rfl⟩) rfl) | (exact WkD.fz _ _ _ rfl (Or.inr rfl) rfl) | (refine WkD.int ?_) | (exact WkD.new' rfl rfl rfl) | (exact WkO.new _ _ rfl) | (refine WkO.vars rfl ?_) | (with_reducible rfl) | (exact rfl) | (refine ⟨?_, ?_⟩) | ((refine wrapA ?_ ?_ ?_); (focus (simp; done)); (focus ((try dsimp only); omega)); (focus ((try dsimp only); omega))) | fail)))⟩
    · (try (conv => whnf)); repeat' (first | (apply And.intro <;> (try (conv => whnf))) | (intro h; first | (with_reducible exact tf0 h) | (with_reducible exact ft0 h) | (with_reducible exact nt0 h) | (with_reducible exact nf0 h) | (exact litz h rfl) | (with_reducible exact tf h (by with_reducible assumption)) | (with_reducible exact tf (by with_reducible assumption) h) | (try (conv => whnf))) | (with_reducible rfl) | (apply True.intro) | (apply infoT; rfl) | (apply bleI; rfl) | (apply fitI; rfl) | (apply cellsI; rfl) | (apply szI; rfl) | (apply guardI; kernel_rfl) | (apply WhenQ.mk; (try (conv => whnf)); rotate_left; (try (conv => whnf)); rotate_right) | (with_reducible assumption) | (apply not_of; with_reducible assumption) | (apply left_of; with_reducible assumption) | (apply left_of; apply left_of; with_reducible assumption) | (apply and_of <;> first | (with_reducible assumption) | (apply not_of; with_reducible assumption))| (refine lin_plan (by kernel_rfl) ?_; (try (conv => whnf))) | (refine ⟨_, _, rfl, idx_map (by with_reducible assumption), rfl, ?_⟩; (try (conv => whnf))) | (refine ⟨rfl, ?_⟩; (try (conv => whnf))) | (exact Nat.le_refl 1) | ((apply ex3); (focus (with_reducible assumption)); (focus (with_reducible assumption)); (try (conv => whnf))) | ((apply ex2); (focus (with_reducible assumption)); (try (conv => whnf))) | (refine PureFn.dcq (f := 15) rfl ?_; (try (conv => whnf))) | (refine PureFn.dcq (f := 17) rfl ?_; (try (conv => whnf))) | (refine PureFn.dcq (f := 17) rfl ?_; (try (conv => whnf))) | ((refine ⟨_, _, c2, ?_, ?_⟩); (focus (first | (refine ⟨?_, ?_, ?_, trivial⟩ <;> first | (exact PLe.refl _) | (exact PLe.nil)) | (exact trivial))); (try (conv => whnf))) | (refine ⟨_, (by (conv => whnf); exact c2), rfl, ?_⟩; (try (conv => whnf))) | ((refine ⟨_, _, d2, ?_, ?_⟩); (focus (first | (refine ⟨?_, ?_, trivial⟩ <;> first | (exact PLe.refl _) | (exact PLe.nil)) | (exact trivial))); (try (conv => whnf))) | (refine ⟨_, (by (conv => whnf); exact d2), rfl, ?_⟩; (try (conv => whnf))) | ((refine ⟨_, _, v2, ?_, ?_⟩); (focus (first | (refine ⟨?_, ?_, trivial⟩ <;> first | (exact PLe.refl _) | (exact PLe.nil)) | (exact trivial))); (try (conv => whnf))) | (refine ⟨_, (by (conv => whnf); exact v2), rfl, ?_⟩; (try (conv => whnf))) | fail)
      all_goals first | (simp at h; done) | exact ⟨⟨2, by decide⟩, by show 7 - 2 < 7 - 1; decide, (by refine Wk.of ?_ ?_ rfl rfl rfl <;> (repeat' (first | (exact trivial) | (exact WkD.same _) | (exact WkO.same _ _ rfl) | (exact WkD.any _) | (exact WkD.nil _ (Or.inl rfl)) | (exact WkD.nil _ (Or.inr rfl)) | (exact WkD.fz _ _ _ rfl (Or.inl ⟨_, rfl⟩) rfl) | (exact WkD.fz _ _ _ rfl (Or.inr rfl) rfl) | (refine WkD.int ?_) | (exact WkD.new' rfl rfl rfl) | (exact WkO.new _ _ rfl) | (refine WkO.vars rfl ?_) | (with_reducible rfl) | (exact rfl) | (refine ⟨?_, ?_⟩) | ((refine wrapA ?_ ?_ ?_); (focus (simp; done)); (focus ((try dsimp only); omega)); (focus ((try dsimp only); omega))) | fail)))⟩
    · (try (conv => whnf)); repeat' (first | (apply And.intro <;> (try (conv => whnf))) | (intro h; first | (with_reducible exact tf0 h) | (with_reducible exact ft0 h) | (with_reducible exact nt0 h) | (with_reducible exact nf0 h) | (exact litz h rfl) | (with_reducible exact tf h (by with_reducible assumption)) | (with_reducible exact tf (by with_reducible assumption) h) | (try (conv => whnf))) | (with_reducible rfl) | (apply True.intro) | (apply infoT; rfl) | (apply bleI; rfl) | (apply fitI; rfl) | (apply cellsI; rfl) | (apply szI; rfl) | (apply guardI; kernel_rfl) | (apply WhenQ.mk; (try (conv => whnf)); rotate_left; (try (conv => whnf)); rotate_right) | (with_reducible assumption) | (apply not_of; with_reducible assumption) | (apply left_of; with_reducible assumption) | (apply left_of; apply left_of; with_reducible assumption) | (apply and_of <;> first | (with_reducible assumption) | (apply not_of; with_reducible assumption))| (refine lin_plan (by kernel_rfl) ?_; (try (conv => whnf))) | (refine ⟨_, _, rfl, idx_map (by with_reducible assumption), rfl, ?_⟩; (try (conv => whnf))) | (refine ⟨rfl, ?_⟩; (try (conv => whnf))) | (exact Nat.le_refl 1) | ((apply ex3); (focus (with_reducible assumption)); (focus (with_reducible assumption)); (try (conv => whnf))) | ((apply ex2); (focus (with_reducible assumption)); (try (conv => whnf))) | (refine PureFn.dcq (f := 15) rfl ?_; (try (conv => whnf))) | (refine PureFn.dcq (f := 17) rfl ?_; (try (conv => whnf))) | (refine PureFn.dcq (f := 17) rfl ?_; (try (conv => whnf))) | ((refine ⟨_, _, c3, ?_, ?_⟩); (focus (first | (refine ⟨?_, ?_, ?_, trivial⟩ <;> first | (exact PLe.refl _) | (exact PLe.nil)) | (exact trivial))); (try (conv => whnf))) | (refine ⟨_, (by (conv => whnf); exact c3), rfl, ?_⟩; (try (conv => whnf))) | ((refine ⟨_, _, d3, ?_, ?_⟩); (focus (first | (refine ⟨?_, ?_, trivial⟩ <;> first | (exact PLe.refl _) | (exact PLe.nil)) | (exact trivial))); (try (conv => whnf))) | (refine ⟨_, (by (conv => whnf); exact d3), rfl, ?_⟩; (try (conv => whnf))) | ((refine ⟨_, _, v3, ?_, ?_⟩); (focus (first | (refine ⟨?_, ?_, trivial⟩ <;> first | (exact PLe.refl _) | (exact PLe.nil)) | (exact trivial))); (try (conv => whnf))) | (refine ⟨_, (by (conv => whnf); exact v3), rfl, ?_⟩; (try (conv => whnf))) | fail)
      all_goals first | (simp at h; done) | exact ⟨⟨3, by decide⟩, by show 7 - 3 < 7 - 2; decide, (by refine Wk.of ?_ ?_ rfl rfl rfl <;> (repeat' (first | (exact trivial) | (exact WkD.same _) | (exact WkO.same _ _ rfl) | (exact WkD.any _) | (exact WkD.nil _ (Or.inl rfl)) | (exact WkD.nil _ (Or.inr rfl)) | (exact WkD.fz _ _ _ rfl (Or.inl ⟨_, rfl⟩) rfl) | (exact WkD.fz _ _ _ rfl (Or.inr rfl) rfl) | (refine WkD.int ?_) | (exact WkD.new' rfl rfl rfl) | (exact WkO.new _ _ rfl) | (refine WkO.vars rfl ?_) | (with_reducible rfl) | (exact rfl) | (refine ⟨?_, ?_⟩) | ((refine wrapA ?_ ?_ ?_); (focus (simp; done)); (focus ((try dsimp only); omega)); (focus ((try dsimp only); omega))) | fail)))⟩
    · (try (conv => whnf)); repeat' (first | (apply And.intro <;> (try (conv => whnf))) | (intro h; first | (with_reducible exact tf0 h) | (with_reducible exact ft0 h) | (with_reducible exact nt0 h) | (with_reducible exact nf0 h) | (exact litz h rfl) | (with_reducible exact tf h (by with_reducible assumption)) | (with_reducible exact tf (by with_reducible assumption) h) | (try (conv => whnf))) | (with_reducible rfl) | (apply True.intro) | (apply infoT; rfl) | (apply bleI; rfl) | (apply fitI; rfl) | (apply cellsI; rfl) | (apply szI; rfl) | (apply guardI; kernel_rfl) | (apply WhenQ.mk; (try (conv => whnf)); rotate_left; (try (conv => whnf)); rotate_right) | (with_reducible assumption) | (apply not_of; with_reducible assumption) | (apply left_of; with_reducible assumption) | (apply left_of; apply left_of; with_reducible assumption) | (apply and_of <;> first | (with_reducible assumption) | (apply not_of; with_reducible assumption))| (refine lin_plan (by kernel_rfl) ?_; (try (conv => whnf))) | (refine ⟨_, _, rfl, idx_map (by with_reducible assumption), rfl, ?_⟩; (try (conv => whnf))) | (refine ⟨rfl, ?_⟩; (try (conv => whnf))) | (exact Nat.le_refl 1) | ((apply ex3); (focus (with_reducible assumption)); (focus (with_reducible assumption)); (try (conv => whnf))) | ((apply ex2); (focus (with_reducible assumption)); (try (conv => whnf))) | (refine PureFn.dcq (f := 15) rfl ?_; (try (conv => whnf))) | (refine PureFn.dcq (f := 17) rfl ?_; (try (conv => whnf))) | (refine PureFn.dcq (f := 17) rfl ?_; (try (conv => whnf))) | ((refine ⟨_, _, c4, ?_, ?_⟩); (focus (first | (refine ⟨?_, ?_, ?_, trivial⟩ <;> first | (exact PLe.refl _) | (exact PLe.nil)) | (exact trivial))); (try (conv => whnf))) | (refine ⟨_, (by (conv => whnf); exact c4), rfl, ?_⟩; (try (conv => whnf))) | ((refine ⟨_, _, d4, ?_, ?_⟩); (focus (first | (refine ⟨?_, ?_, trivial⟩ <;> first | (exact PLe.refl _) | (exact PLe.nil)) | (exact trivial))); (try (conv => whnf))) | (refine ⟨_, (by (conv => whnf); exact d4), rfl, ?_⟩; (try (conv => whnf))) | ((refine ⟨_, _, v4, ?_, ?_⟩); (focus (first | (refine ⟨?_, ?_, trivial⟩ <;> first | (exact PLe.refl _) | (exact PLe.nil)) | (exact trivial))); (try (conv => whnf))) | (refine ⟨_, (by (conv => whnf); exact v4), rfl, ?_⟩; (try (conv => whnf))) | fail)
      all_goals first | (simp at h; done) | exact ⟨⟨4, by decide⟩, by show 7 - 4 < 7 - 3; decide, (by refine Wk.of ?_ ?_ rfl rfl rfl <;> (repeat' (first | (exact trivial) | (exact WkD.same _) | (exact WkO.same _ _ rfl) | (exact WkD.any _) | (exact WkD.nil _ (Or.inl rfl)) | (exact WkD.nil _ (Or.inr rfl)) | (exact WkD.fz _ _ _ rfl (Or.inl ⟨_, rfl⟩) rfl) | (exact WkD.fz _ _ _ rfl (Or.inr rfl) rfl) | (refine WkD.int ?_) | (exact WkD.new' rfl rfl rfl) | (exact WkO.new _ _ rfl) | (refine WkO.vars rfl ?_) | (with_reducible rfl) | (exact rfl) | (refine ⟨?_, ?_⟩) | ((refine wrapA ?_ ?_ ?_); (focus (simp; done)); (focus ((try dsimp only); omega)); (focus ((try dsimp only); omega))) | fail)))⟩
    · (try (conv => whnf)); repeat' (first | (apply And.intro <;> (try (conv => whnf))) | (intro h; first | (with_reducible exact tf0 h) | (with_reducible exact ft0 h) | (with_reducible exact nt0 h) | (with_reducible exact nf0 h) | (exact litz h rfl) | (with_reducible exact tf h (by with_reducible assumption)) | (with_reducible exact tf (by with_reducible assumption) h) | (try (conv => whnf))) | (with_reducible rfl) | (apply True.intro) | (apply infoT; rfl) | (apply bleI; rfl) | (apply fitI; rfl) | (apply cellsI; rfl) | (apply szI; rfl) | (apply guardI; kernel_rfl) | (apply WhenQ.mk; (try (conv => whnf)); rotate_left; (try (conv => whnf)); rotate_right) | (with_reducible assumption) | (apply not_of; with_reducible assumption) | (apply left_of; with_reducible assumption) | (apply left_of; apply left_of; with_reducible assumption) | (apply and_of <;> first | (with_reducible assumption) | (apply not_of; with_reducible assumption))| (refine lin_plan (by kernel_rfl) ?_; (try (conv => whnf))) | (refine ⟨_, _, rfl, idx_map (by with_reducible assumption), rfl, ?_⟩; (try (conv => whnf))) | (refine ⟨rfl, ?_⟩; (try (conv => whnf))) | (exact Nat.le_refl 1) | ((apply ex3); (focus (with_reducible assumption)); (focus (with_reducible assumption)); (try (conv => whnf))) | ((apply ex2); (focus (with_reducible assumption)); (try (conv => whnf))) | (refine PureFn.dcq (f := 15) rfl ?_; (try (conv => whnf))) | (refine PureFn.dcq (f := 17) rfl ?_; (try (conv => whnf))) | (refine PureFn.dcq (f := 17) rfl ?_; (try (conv => whnf))) | ((refine ⟨_, _, c5, ?_, ?_⟩); (focus (first | (refine ⟨?_, ?_, ?_, trivial⟩ <;> first | (exact PLe.refl _) | (exact PLe.nil)) | (exact trivial))); (try (conv => whnf))) | (refine ⟨_, (by (conv => whnf); exact c5), rfl, ?_⟩; (try (conv => whnf))) | ((refine ⟨_, _, d5, ?_, ?_⟩); (focus (first | (refine ⟨?_, ?_, trivial⟩ <;> first | (exact PLe.refl _) | (exact PLe.nil)) | (exact trivial))); (try (conv => whnf))) | (refine ⟨_, (by (conv => whnf); exact d5), rfl, ?_⟩; (try (conv => whnf))) | ((refine ⟨_, _, v5, ?_, ?_⟩); (focus (first | (refine ⟨?_, ?_, trivial⟩ <;> first | (exact PLe.refl _) | (exact PLe.nil)) | (exact trivial))); (try (conv => whnf))) | (refine ⟨_, (by (conv => whnf); exact v5), rfl, ?_⟩; (try (conv => whnf))) | fail)
      all_goals first | (simp at h; done) | exact ⟨⟨5, by decide⟩, by show 7 - 5 < 7 - 4; decide, (by refine Wk.of ?_ ?_ rfl rfl rfl <;> (repeat' (first | (exact trivial) | (exact WkD.same _) | (exact WkO.same _ _ rfl) | (exact WkD.any _) | (exact WkD.nil _ (Or.inl rfl)) | (exact WkD.nil _ (Or.inr rfl)) | (exact WkD.fz _ _ _ rfl (Or.inl ⟨_, rfl⟩) rfl) | (exact WkD.fz _ _ _ rfl (Or.inr rfl) rfl) | (refine WkD.int ?_) | (exact WkD.new' rfl rfl rfl) | (exact WkO.new _ _ rfl) | (refine WkO.vars rfl ?_) | (with_reducible rfl) | (exact rfl) | (refine ⟨?_, ?_⟩) | ((refine wrapA ?_ ?_ ?_); (focus (simp; done)); (focus ((try dsimp only); omega)); (focus ((try dsimp only); omega))) | fail)))⟩
    · (try (conv => whnf)); repeat' (first | (apply And.intro <;> (try (conv => whnf))) | (intro h; first | (with_reducible exact tf0 h) | (with_reducible exact ft0 h) | (with_reducible exact nt0 h) | (with_reducible exact nf0 h) | (exact litz h rfl) | (with_reducible exact tf h (by with_reducible assumption)) | (with_reducible exact tf (by with_reducible assumption) h) | (try (conv => whnf))) | (with_reducible rfl) | (apply True.intro) | (apply infoT; rfl) | (apply bleI; rfl) | (apply fitI; rfl) | (apply cellsI; rfl) | (apply szI; rfl) | (apply guardI; kernel_rfl) | (apply WhenQ.mk; (try (conv => whnf)); rotate_left; (try (conv => whnf)); rotate_right) | (with_reducible assumption) | (apply not_of; with_reducible assumption) | (apply left_of; with_reducible assumption) | (apply left_of; apply left_of; with_reducible assumption) | (apply and_of <;> first | (with_reducible assumption) | (apply not_of; with_reducible assumption))| (refine lin_plan (by kernel_rfl) ?_; (try (conv => whnf))) | (refine ⟨_, _, rfl, idx_map (by with_reducible assumption), rfl, ?_⟩; (try (conv => whnf))) | (refine ⟨rfl, ?_⟩; (try (conv => whnf))) | (exact Nat.le_refl 1) | ((apply ex3); (focus (with_reducible assumption)); (focus (with_reducible assumption)); (try (conv => whnf))) | ((apply ex2); (focus (with_reducible assumption)); (try (conv => whnf))) | (refine PureFn.dcq (f := 15) rfl ?_; (try (conv => whnf))) | (refine PureFn.dcq (f := 17) rfl ?_; (try (conv => whnf))) | (refine PureFn.dcq (f := 17) rfl ?_; (try (conv => whnf))) | ((refine ⟨_, _, c6, ?_, ?_⟩); (focus (first | (refine ⟨?_, ?_, ?_, trivial⟩ <;> first | (exact PLe.refl _) | (exact PLe.nil)) | (exact trivial))); (try (conv => whnf))) | (refine ⟨_, (by (conv => whnf); exact c6), rfl, ?_⟩; (try (conv => whnf))) | ((refine ⟨_, _, d6, ?_, ?_⟩); (focus (first | (refine ⟨?_, ?_, trivial⟩ <;> first | (exact PLe.refl _) | (exact PLe.nil)) | (exact trivial))); (try (conv => whnf))) | (refine ⟨_, (by (conv => whnf); exact d6), rfl, ?_⟩; (try (conv => whnf))) | ((refine ⟨_, _, v6, ?_, ?_⟩); (focus (first | (refine ⟨?_, ?_, trivial⟩ <;> first | (exact PLe.refl _) | (exact PLe.nil)) | (exact trivial))); (try (conv => whnf))) | (refine ⟨_, (by (conv => whnf); exact v6), rfl, ?_⟩; (try (conv => whnf))) | fail)
      all_goals first | (simp at h; done) | exact ⟨⟨6, by decide⟩, by show 7 - 6 < 7 - 5; decide, (by refine Wk.of ?_ ?_ rfl rfl rfl <;> (repeat' (first | (exact trivial) | (exact WkD.same _) | (exact WkO.same _ _ rfl) | (exact WkD.any _) | (exact WkD.nil _ (Or.inl rfl)) | (exact WkD.nil _ (Or.inr rfl)) | (exact WkD.fz _ _ _ rfl (Or.inl ⟨_, rfl⟩) rfl) | (exact WkD.fz _ _ _ rfl (Or.inr rfl) rfl) | (refine WkD.int ?_) | (exact WkD.new' rfl rfl rfl) | (exact WkO.new _ _ rfl) | (refine WkO.vars rfl ?_) | (with_reducible rfl) | (exact rfl) | (refine ⟨?_, ?_⟩) | ((refine wrapA ?_ ?_ ?_); (focus (simp; done)); (focus ((try dsimp only); omega)); (focus ((try dsimp only); omega))) | fail)))⟩
    · (try (conv => whnf)); repeat' (first | (apply And.intro <;> (try (conv => whnf))) | (intro h; first | (with_reducible exact tf0 h) | (with_reducible exact ft0 h) | (with_reducible exact nt0 h) | (with_reducible exact nf0 h) | (exact litz h rfl) | (with_reducible exact tf h (by with_reducible assumption)) | (with_reducible exact tf (by with_reducible assumption) h) | (try (conv => whnf))) | (with_reducible rfl) | (apply True.intro) | (apply infoT; rfl) | (apply bleI; rfl) | (apply fitI; rfl) | (apply cellsI; rfl) | (apply szI; rfl) | (apply guardI; kernel_rfl) | (apply WhenQ.mk; (try (conv => whnf)); rotate_left; (try (conv => whnf)); rotate_right) | (with_reducible assumption) | (apply not_of; with_reducible assumption) | (apply left_of; with_reducible assumption) | (apply left_of; apply left_of; with_reducible assumption) | (apply and_of <;> first | (with_reducible assumption) | (apply not_of; with_reducible assumption))| (refine lin_plan (by kernel_rfl) ?_; (try (conv => whnf))) | (refine ⟨_, _, rfl, idx_map (by with_reducible assumption), rfl, ?_⟩; (try (conv => whnf))) | (refine ⟨rfl, ?_⟩; (try (conv => whnf))) | (exact Nat.le_refl 1) | ((apply ex3); (focus (with_reducible assumption)); (focus (with_reducible assumption)); (try (conv => whnf))) | ((apply ex2); (focus (with_reducible assumption)); (try (conv => whnf))) | (refine PureFn.dcq (f := 15) rfl ?_; (try (conv => whnf))) | (refine PureFn.dcq (f := 17) rfl ?_; (try (conv => whnf))) | (refine PureFn.dcq (f := 17) rfl ?_; (try (conv => whnf))) | ((refine ⟨_, _, c7, ?_, ?_⟩); (focus (first | (refine ⟨?_, ?_, ?_, trivial⟩ <;> first | (exact PLe.refl _) | (exact PLe.nil)) | (exact trivial))); (try (conv => whnf))) | (refine ⟨_, (by (conv => whnf); exact c7), rfl, ?_⟩; (try (conv => whnf))) | ((refine ⟨_, _, d7, ?_, ?_⟩); (focus (first | (refine ⟨?_, ?_, trivial⟩ <;> first | (exact PLe.refl _) | (exact PLe.nil)) | (exact trivial))); (try (conv => whnf))) | (refine ⟨_, (by (conv => whnf); exact d7), rfl, ?_⟩; (try (conv => whnf))) | ((refine ⟨_, _, v7, ?_, ?_⟩); (focus (first | (refine ⟨?_, ?_, trivial⟩ <;> first | (exact PLe.refl _) | (exact PLe.nil)) | (exact trivial))); (try (conv => whnf))) | (refine ⟨_, (by (conv => whnf); exact v7), rfl, ?_⟩; (try (conv => whnf))) | fail)
      all_goals first | (simp at h; done) | exact ⟨⟨7, by decide⟩, by show 7 - 7 < 7 - 6; decide, (by refine Wk.of ?_ ?_ rfl rfl rfl <;> (repeat' (first | (exact trivial) | (exact WkD.same _) | (exact WkO.same _ _ rfl) | (exact WkD.any _) | (exact WkD.nil _ (Or.inl rfl)) | (exact WkD.nil _ (Or.inr rfl)) | (exact WkD.fz _ _ _ rfl (Or.inl ⟨_, rfl⟩) rfl) | (exact WkD.fz _ _ _ rfl (Or.inr rfl) rfl) | (refine WkD.int ?_) | (exact WkD.new' rfl rfl rfl) | (exact WkO.new _ _ rfl) | (refine WkO.vars rfl ?_) | (with_reducible rfl) | (exact rfl) | (refine ⟨?_, ?_⟩) | ((refine wrapA ?_ ?_ ?_); (focus (simp; done)); (focus ((try dsimp only); omega)); (focus ((try dsimp only); omega))) | fail)))⟩
    · (try (conv => whnf)); repeat' (first | (apply And.intro <;> (try (conv => whnf))) | (intro h; first | (with_reducible exact tf0 h) | (with_reducible exact ft0 h) | (with_reducible exact nt0 h) | (with_reducible exact nf0 h) | (exact litz h rfl) | (with_reducible exact tf h (by with_reducible assumption)) | (with_reducible exact tf (by with_reducible assumption) h) | (try (conv => whnf))) | (with_reducible rfl) | (apply True.intro) | (apply infoT; rfl) | (apply bleI; rfl) | (apply fitI; rfl) | (apply cellsI; rfl) | (apply szI; rfl) | (apply guardI; kernel_rfl) | (apply WhenQ.mk; (try (conv => whnf)); rotate_left; (try (conv => whnf)); rotate_right) | (with_reducible assumption) | (apply not_of; with_reducible assumption) | (apply left_of; with_reducible assumption) | (apply left_of; apply left_of; with_reducible assumption) | (apply and_of <;> first | (with_reducible assumption) | (apply not_of; with_reducible assumption))| (refine lin_plan (by kernel_rfl) ?_; (try (conv => whnf))) | (refine ⟨_, _, rfl, idx_map (by with_reducible assumption), rfl, ?_⟩; (try (conv => whnf))) | (refine ⟨rfl, ?_⟩; (try (conv => whnf))) | (exact Nat.le_refl 1) | ((apply ex3); (focus (with_reducible assumption)); (focus (with_reducible assumption)); (try (conv => whnf))) | ((apply ex2); (focus (with_reducible assumption)); (try (conv => whnf))) | fail)
      all_goals first | (simp at h; done) | exact ⟨(), (by refine Wk.of ?_ ?_ rfl rfl rfl <;> (repeat' (first | (exact trivial) | (exact WkD.same _) | (exact WkO.same _ _ rfl) | (exact WkD.any _) | (exact WkD.nil _ (Or.inl rfl)) | (exact WkD.nil _ (Or.inr rfl)) | (exact WkD.fz _ _ _ rfl (Or.inl ⟨_, rfl⟩) rfl) | (exact WkD.fz _ _ _ rfl (Or.inr rfl) rfl) | (refine WkD.int ?_) | (exact WkD.new' rfl rfl rfl) | (exact WkO.new _ _ rfl) | (refine WkO.vars rfl ?_) | (with_reducible rfl) | (exact rfl) | (refine ⟨?_, ?_⟩) | ((refine wrapA ?_ ?_ ?_); (focus (simp; done)); (focus ((try dsimp only); omega)); (focus ((try dsimp only); omega))) | fail)))⟩
  rintro ⟨⟩
  subst qX5
  refine ⟨Unit, fun _ => [(7, .pv (i64 n)), (11, .ref 0 0), (14, .ref 2 0), (15, .pv (.int .i64 0))], fun _ => 3, fun _ => [(0, .var (cellsA X1 ++ cellsA X2 ++ cellsA X3 ++ cellsA X4 ++ cellsA ⟨[NF, FF], [[], []], rl⟩ ++ cellsA X6 ++ cellsA X7)), (2, .var [.pv (.sl [fpv FF, fpv NF]), .pv (.sl [.sl [], .sl []]), .pv (.sl (rl.map rowPV))])], ?_, ?_⟩
  · (try (conv => whnf)); repeat' (first | (apply And.intro <;> (try (conv => whnf))) | (intro h; first | (with_reducible exact tf0 h) | (with_reducible exact ft0 h) | (with_reducible exact nt0 h) | (with_reducible exact nf0 h) | (exact litz h rfl) | (with_reducible exact tf h (by with_reducible assumption)) | (with_reducible exact tf (by with_reducible assumption) h) | (try (conv => whnf))) | (with_reducible rfl) | (apply True.intro) | (apply infoT; rfl) | (apply bleI; rfl) | (apply fitI; rfl) | (apply cellsI; rfl) | (apply szI; rfl) | (apply guardI; kernel_rfl) | (apply WhenQ.mk; (try (conv => whnf)); rotate_left; (try (conv => whnf)); rotate_right) | (with_reducible assumption) | (apply not_of; with_reducible assumption) | (apply left_of; with_reducible assumption) | (apply left_of; apply left_of; with_reducible assumption) | (apply and_of <;> first | (with_reducible assumption) | (apply not_of; with_reducible assumption))| (refine lin_plan (by kernel_rfl) ?_; (try (conv => whnf))) | (refine ⟨_, _, rfl, idx_map (by with_reducible assumption), rfl, ?_⟩; (try (conv => whnf))) | (refine ⟨rfl, ?_⟩; (try (conv => whnf))) | (exact Nat.le_refl 1) | ((apply ex3); (focus (with_reducible assumption)); (focus (with_reducible assumption)); (try (conv => whnf))) | ((apply ex2); (focus (with_reducible assumption)); (try (conv => whnf))) | (refine PureFn.dcq (f := 62) rfl ?_; (try (conv => whnf))) | (refine PureFn.dcq (f := 49) rfl ?_; (try (conv => whnf))) | ((refine ⟨_, _, hFF, ?_, ?_⟩); (focus (first | (refine ⟨?_, trivial⟩ <;> first | (exact PLe.refl _) | (exact PLe.nil)) | (exact trivial))); (try (conv => whnf))) | (refine ⟨_, (by (conv => whnf); exact hFF), rfl, ?_⟩; (try (conv => whnf))) | ((refine ⟨_, _, p8, ?_, ?_⟩); (focus (first | (refine ⟨?_, ?_, ?_, trivial⟩ <;> first | (exact PLe.refl _) | (exact PLe.nil)) | (exact trivial))); (try (conv => whnf))) | (refine ⟨_, (by (conv => whnf); exact p8), rfl, ?_⟩; (try (conv => whnf))) | fail)
    exact ⟨(), (by refine Wk.of ?_ ?_ rfl rfl rfl <;> (repeat' (first | (exact trivial) | (exact WkD.same _) | (exact WkO.same _ _ rfl) | (exact WkD.any _) | (exact WkD.nil _ (Or.inl rfl)) | (exact WkD.nil _ (Or.inr rfl)) | (exact WkD.fz _ _ _ rfl (Or.inl ⟨_, rfl⟩) rfl) | (exact WkD.fz _ _ _ rfl (Or.inr rfl) rfl) | (refine WkD.int ?_) | (exact WkD.new' rfl rfl rfl) | (exact WkO.new _ _ rfl) | (refine WkO.vars rfl ?_) | (with_reducible rfl) | (exact rfl) | (refine ⟨?_, ?_⟩) | ((refine wrapA ?_ ?_ ?_); (focus (simp; done)); (focus ((try dsimp only); omega)); (focus ((try dsimp only); omega))) | fail)))⟩
  rintro ⟨⟩
  refine ⟨Unit, fun _ => [(7, .pv (i64 n)), (11, .ref 0 0), (14, .ref 2 0)], fun _ => 3, fun _ => [(0, .var (cellsA X1 ++ cellsA X2 ++ cellsA X3 ++ cellsA X4 ++ cellsA ⟨[NF, FF], [[], []], rl⟩ ++ cellsA X6 ++ cellsA X7)), (2, .var [.pv (.sl [fpv FF, fpv NF]), .pv (.sl [.sl [], .sl []]), .pv (.sl (rl.map rowPV))])], ?_, ?_⟩
  · (try (conv => whnf)); repeat' (first | (apply And.intro <;> (try (conv => whnf))) | (intro h; first | (with_reducible exact tf0 h) | (with_reducible exact ft0 h) | (with_reducible exact nt0 h) | (with_reducible exact nf0 h) | (exact litz h rfl) | (with_reducible exact tf h (by with_reducible assumption)) | (with_reducible exact tf (by with_reducible assumption) h) | (try (conv => whnf))) | (with_reducible rfl) | (apply True.intro) | (apply infoT; rfl) | (apply bleI; rfl) | (apply fitI; rfl) | (apply cellsI; rfl) | (apply szI; rfl) | (apply guardI; kernel_rfl) | (apply WhenQ.mk; (try (conv => whnf)); rotate_left; (try (conv => whnf)); rotate_right) | (with_reducible assumption) | (apply not_of; with_reducible assumption) | (apply left_of; with_reducible assumption) | (apply left_of; apply left_of; with_reducible assumption) | (apply and_of <;> first | (with_reducible assumption) | (apply not_of; with_reducible assumption))| (refine lin_plan (by kernel_rfl) ?_; (try (conv => whnf))) | (refine ⟨_, _, rfl, idx_map (by with_reducible assumption), rfl, ?_⟩; (try (conv => whnf))) | (refine ⟨rfl, ?_⟩; (try (conv => whnf))) | (exact Nat.le_refl 1) | ((apply ex3); (focus (with_reducible assumption)); (focus (with_reducible assumption)); (try (conv => whnf))) | ((apply ex2); (focus (with_reducible assumption)); (try (conv => whnf))) | fail)
    · simp [hrl] at h
    · exact ⟨(), (by refine Wk.of ?_ ?_ rfl rfl rfl <;> (repeat' (first | (exact trivial) | (exact WkD.same _) | (exact WkO.same _ _ rfl) | (exact WkD.any _) | (exact WkD.nil _ (Or.inl rfl)) | (exact WkD.nil _ (Or.inr rfl)) | (exact WkD.fz _ _ _ rfl (Or.inl ⟨_, rfl⟩) rfl) | (exact WkD.fz _ _ _ rfl (Or.inr rfl) rfl) | (refine WkD.int ?_) | (exact WkD.new' rfl rfl rfl) | (exact WkO.new _ _ rfl) | (refine WkO.vars rfl ?_) | (with_reducible rfl) | (exact rfl) | (refine ⟨?_, ?_⟩) | ((refine wrapA ?_ ?_ ?_); (focus (simp; done)); (focus ((try dsimp only); omega)); (focus ((try dsimp only); omega))) | fail)))⟩
  rintro ⟨⟩
  refine ⟨Unit, fun _ => [(7, .pv (i64 n)), (11, .ref 0 0), (14, .ref 2 0)], fun _ => 3, fun _ => [(0, .var (cellsA X1 ++ cellsA X2 ++ cellsA X3 ++ cellsA X4 ++ cellsA ⟨[NF, FF], [[], []], rl⟩ ++ cellsA X6 ++ cellsA X7)), (2, .var [.pv (.sl [fpv FF, fpv NF]), .pv (.sl [.sl [], .sl []]), .pv (.sl (rl.map rowPV))])], ?_, ?_⟩
  · (try (conv => whnf)); repeat' (first | (apply And.intro <;> (try (conv => whnf))) | (intro h; first | (with_reducible exact tf0 h) | (with_reducible exact ft0 h) | (with_reducible exact nt0 h) | (with_reducible exact nf0 h) | (exact litz h rfl) | (with_reducible exact tf h (by with_reducible assumption)) | (with_reducible exact tf (by with_reducible assumption) h) | (try (conv => whnf))) | (with_reducible rfl) | (apply True.intro) | (apply infoT; rfl) | (apply bleI; rfl) | (apply fitI; rfl) | (apply cellsI; rfl) | (apply szI; rfl) | (apply guardI; kernel_rfl) | (apply WhenQ.mk; (try (conv => whnf)); rotate_left; (try (conv => whnf)); rotate_right) | (with_reducible assumption) | (apply not_of; with_reducible assumption) | (apply left_of; with_reducible assumption) | (apply left_of; apply left_of; with_reducible assumption) | (apply and_of <;> first | (with_reducible assumption) | (apply not_of; with_reducible assumption))| (refine lin_plan (by kernel_rfl) ?_; (try (conv => whnf))) | (refine ⟨_, _, rfl, idx_map (by with_reducible assumption), rfl, ?_⟩; (try (conv => whnf))) | (refine ⟨rfl, ?_⟩; (try (conv => whnf))) | (exact Nat.le_refl 1) | ((apply ex3); (focus (with_reducible assumption)); (focus (with_reducible assumption)); (try (conv => whnf))) | ((apply ex2); (focus (with_reducible assumption)); (try (conv => whnf))) | fail)
    refine ⟨{ i : Nat // i ≤ n }, fun i => [(7, .pv (i64 n)), (11, .ref 0 0), (14, .ref 2 0), (16, .pv (i64 i.1))], fun _ => 3, fun _ => [(0, .var (cellsA X1 ++ cellsA X2 ++ cellsA X3 ++ cellsA X4 ++ cellsA ⟨[NF, FF], [[], []], rl⟩ ++ cellsA X6 ++ cellsA X7)), (2, .var [.pv (.sl [fpv FF, fpv NF]), .pv (.sl [.sl [], .sl []]), .pv (.sl (rl.map rowPV))])], fun i => n - i.1, ⟨⟨0, Nat.zero_le _⟩, (by refine Wk.of ?_ ?_ rfl rfl rfl <;> (repeat' (first | (exact trivial) | (exact WkD.same _) | (exact WkO.same _ _ rfl) | (exact WkD.any _) | (exact WkD.nil _ (Or.inl rfl)) | (exact WkD.nil _ (Or.inr rfl)) | (exact WkD.fz _ _ _ rfl (Or.inl ⟨_, rfl⟩) rfl) | (exact WkD.fz _ _ _ rfl (Or.inr rfl) rfl) | (refine WkD.int ?_) | (exact WkD.new' rfl rfl rfl) | (exact WkO.new _ _ rfl) | (refine WkO.vars rfl ?_) | (with_reducible rfl) | (exact rfl) | (refine ⟨?_, ?_⟩) | ((refine wrapA ?_ ?_ ?_); (focus (simp; done)); (focus ((try dsimp only); omega)); (focus ((try dsimp only); omega))) | fail)))⟩, ?_⟩
    rintro ⟨i, hi⟩
    (try (conv => whnf)); repeat' (first | (apply And.intro <;> (try (conv => whnf))) | (intro h; first | (with_reducible exact tf0 h) | (with_reducible exact ft0 h) | (with_reducible exact nt0 h) | (with_reducible exact nf0 h) | (exact litz h rfl) | (with_reducible exact tf h (by with_reducible assumption)) | (with_reducible exact tf (by with_reducible assumption) h) | (try (conv => whnf))) | (with_reducible rfl) | (apply True.intro) | (apply infoT; rfl) | (apply bleI; rfl) | (apply fitI; rfl) | (apply cellsI; rfl) | (apply szI; rfl) | (apply guardI; kernel_rfl) | (apply WhenQ.mk; (try (conv => whnf)); rotate_left; (try (conv => whnf)); rotate_right) | (with_reducible assumption) | (apply not_of; with_reducible assumption) | (apply left_of; with_reducible assumption) | (apply left_of; apply left_of; with_reducible assumption) | (apply and_of <;> first | (with_reducible assumption) | (apply not_of; with_reducible assumption))| (refine lin_plan (by kernel_rfl) ?_; (try (conv => whnf))) | (refine ⟨_, _, rfl, idx_map (by with_reducible assumption), rfl, ?_⟩; (try (conv => whnf))) | (refine ⟨rfl, ?_⟩; (try (conv => whnf))) | (exact Nat.le_refl 1) | ((apply ex3); (focus (with_reducible assumption)); (focus (with_reducible assumption)); (try (conv => whnf))) | ((apply ex2); (focus (with_reducible assumption)); (try (conv => whnf))) | fail)
    · have hi' : i < n := lt_dec h
      have hm : rl[i]? = some (rl[i]'(by omega)) := List.getElem?_eq_getElem (by omega)
      have hS := rs_Same (rl[i]'(by omega)) (hr2 _ (List.getElem_mem (by omega)))
      refine ⟨_, _, rfl, idx_map hm, rfl, ?_⟩
      (try (conv => whnf)); repeat' (first | (apply And.intro <;> (try (conv => whnf))) | (intro h; first | (with_reducible exact tf0 h) | (with_reducible exact ft0 h) | (with_reducible exact nt0 h) | (with_reducible exact nf0 h) | (exact litz h rfl) | (with_reducible exact tf h (by with_reducible assumption)) | (with_reducible exact tf (by with_reducible assumption) h) | (try (conv => whnf))) | (with_reducible rfl) | (apply True.intro) | (apply infoT; rfl) | (apply bleI; rfl) | (apply fitI; rfl) | (apply cellsI; rfl) | (apply szI; rfl) | (apply guardI; kernel_rfl) | (apply WhenQ.mk; (try (conv => whnf)); rotate_left; (try (conv => whnf)); rotate_right) | (with_reducible assumption) | (apply not_of; with_reducible assumption) | (apply left_of; with_reducible assumption) | (apply left_of; apply left_of; with_reducible assumption) | (apply and_of <;> first | (with_reducible assumption) | (apply not_of; with_reducible assumption))| (refine lin_plan (by kernel_rfl) ?_; (try (conv => whnf))) | (refine ⟨_, _, rfl, idx_map (by with_reducible assumption), rfl, ?_⟩; (try (conv => whnf))) | (refine ⟨rfl, ?_⟩; (try (conv => whnf))) | (exact Nat.le_refl 1) | ((apply ex3); (focus (with_reducible assumption)); (focus (with_reducible assumption)); (try (conv => whnf))) | ((apply ex2); (focus (with_reducible assumption)); (try (conv => whnf))) | (refine PureFn.dcq (f := 63) rfl ?_; (try (conv => whnf))) | ((refine ⟨_, _, hS, ?_, ?_⟩); (focus (first | (refine ⟨?_, ?_, trivial⟩ <;> first | (exact PLe.refl _) | (exact PLe.nil)) | (exact trivial))); (try (conv => whnf))) | (refine ⟨_, (by (conv => whnf); exact hS), rfl, ?_⟩; (try (conv => whnf))) | fail)
      all_goals first | (simp at h; done) | exact ⟨⟨i + 1, hi'⟩, by show n - (i + 1) < n - i; omega, (by refine Wk.of ?_ ?_ rfl rfl rfl <;> (repeat' (first | (exact trivial) | (exact WkD.same _) | (exact WkO.same _ _ rfl) | (exact WkD.any _) | (exact WkD.nil _ (Or.inl rfl)) | (exact WkD.nil _ (Or.inr rfl)) | (exact WkD.fz _ _ _ rfl (Or.inl ⟨_, rfl⟩) rfl) | (exact WkD.fz _ _ _ rfl (Or.inr rfl) rfl) | (refine WkD.int ?_) | (exact WkD.new' rfl rfl rfl) | (exact WkO.new _ _ rfl) | (refine WkO.vars rfl ?_) | (with_reducible rfl) | (exact rfl) | (refine ⟨?_, ?_⟩) | ((refine wrapA ?_ ?_ ?_); (focus (simp; done)); (focus ((try dsimp only); omega)); (focus ((try dsimp only); omega))) | fail)))⟩
    · exact ⟨(), (by refine Wk.of ?_ ?_ rfl rfl rfl <;> (repeat' (first | (exact trivial) | (exact WkD.same _) | (exact WkO.same _ _ rfl) | (exact WkD.any _) | (exact WkD.nil _ (Or.inl rfl)) | (exact WkD.nil _ (Or.inr rfl)) | (exact WkD.fz _ _ _ rfl (Or.inl ⟨_, rfl⟩) rfl) | (exact WkD.fz _ _ _ rfl (Or.inr rfl) rfl) | (refine WkD.int ?_) | (exact WkD.new' rfl rfl rfl) | (exact WkO.new _ _ rfl) | (refine WkO.vars rfl ?_) | (with_reducible rfl) | (exact rfl) | (refine ⟨?_, ?_⟩) | ((refine wrapA ?_ ?_ ?_); (focus (simp; done)); (focus ((try dsimp only); omega)); (focus ((try dsimp only); omega))) | fail)))⟩
  rintro ⟨⟩
  (try (conv => whnf)); repeat' (first | (apply And.intro <;> (try (conv => whnf))) | (intro h; first | (with_reducible exact tf0 h) | (with_reducible exact ft0 h) | (with_reducible exact nt0 h) | (with_reducible exact nf0 h) | (exact litz h rfl) | (with_reducible exact tf h (by with_reducible assumption)) | (with_reducible exact tf (by with_reducible assumption) h) | (try (conv => whnf))) | (with_reducible rfl) | (apply True.intro) | (apply infoT; rfl) | (apply bleI; rfl) | (apply fitI; rfl) | (apply cellsI; rfl) | (apply szI; rfl) | (apply guardI; kernel_rfl) | (apply WhenQ.mk; (try (conv => whnf)); rotate_left; (try (conv => whnf)); rotate_right) | (with_reducible assumption) | (apply not_of; with_reducible assumption) | (apply left_of; with_reducible assumption) | (apply left_of; apply left_of; with_reducible assumption) | (apply and_of <;> first | (with_reducible assumption) | (apply not_of; with_reducible assumption))| (refine lin_plan (by kernel_rfl) ?_; (try (conv => whnf))) | (refine ⟨_, _, rfl, idx_map (by with_reducible assumption), rfl, ?_⟩; (try (conv => whnf))) | (refine ⟨rfl, ?_⟩; (try (conv => whnf))) | (exact Nat.le_refl 1) | ((apply ex3); (focus (with_reducible assumption)); (focus (with_reducible assumption)); (try (conv => whnf))) | ((apply ex2); (focus (with_reducible assumption)); (try (conv => whnf))) | (refine PureFn.dcq (f := 64) rfl ?_; (try (conv => whnf))) | (refine PureFn.dcq (f := 64) rfl ?_; (try (conv => whnf))) | (refine PureFn.dcq (f := 43) rfl ?_; (try (conv => whnf))) | (refine ⟨0, _, rfl, rfl, rfl, ?_⟩; (try (conv => whnf))) | (refine ⟨1, _, rfl, rfl, rfl, ?_⟩; (try (conv => whnf))) | ((refine ⟨_, _, s1, ?_, ?_⟩); (focus (first | (refine ⟨?_, ?_, trivial⟩ <;> first | (exact PLe.refl _) | (exact PLe.nil)) | (exact trivial))); (try (conv => whnf))) | (refine ⟨_, (by (conv => whnf); exact s1), rfl, ?_⟩; (try (conv => whnf))) | ((refine ⟨_, _, s2, ?_, ?_⟩); (focus (first | (refine ⟨?_, ?_, trivial⟩ <;> first | (exact PLe.refl _) | (exact PLe.nil)) | (exact trivial))); (try (conv => whnf))) | (refine ⟨_, (by (conv => whnf); exact s2), rfl, ?_⟩; (try (conv => whnf))) | ((refine ⟨_, _, ml_awake, ?_, ?_⟩); (focus (first | (refine ⟨trivial⟩ <;> first | (exact PLe.refl _) | (exact PLe.nil)) | (exact trivial))); (try (conv => whnf))) | (refine ⟨_, (by (conv => whnf); exact ml_awake), rfl, ?_⟩; (try (conv => whnf))) | fail)
  exact le_bool (by simp)
end Go.Proofs.Ytibenjpkinhjhaa
namespace Go.Dv
open Go.RowKit (Below Below.trod)
open Go.ChangeShapes

def NoT : Nat → Prop := fun _ => False
def mkE (P : Program) (e : TypeId) (cs : List PV) : PV := match kindT P e with
  | some true => .agg cs
  | _ => (match cs with | [p] => p | _ => .agg cs)
/-- The fields lie without gaps. -/
def gapless (P : Program) : List Field → Nat → Nat → Bool
  | [], off, n => Nat.beq off n
  | f :: r, off, n => Nat.beq f.offset off && gapless P r (off + P.cellsOf f.type) n
/-- Is the type made of bools, integers, strings, slices and structs alone? -/
def plainT (P : Program) : Nat → TypeId → Bool
  | 0, _ => false
  | n + 1, t => match P.underlying t with
    | some .bool => true
    | some (.int _) => true
    | some .string => true
    | some (.slice e) => plainT P n e && !Nat.beq (P.cellsOf e) 0
    | some (.struct fs) => gapless P fs.toList 0 (P.cellsOf t) && fs.toList.all fun f => plainT P n f.type
    | some (.array m e) => Nat.beq (m * P.cellsOf e) (P.cellsOf t) && plainT P n e
    | _ => false
def TyAs (F : TypeId → List PV → Prop) (e : TypeId) : Nat → List PV → Prop
  | 0, ps => ps = []
  | m + 1, ps => ∃ a b, ps = a ++ b ∧ F e a ∧ TyAs F e m b
def TyFs (F : TypeId → List PV → Prop) : List Field → List PV → Prop
  | [], ps => ps = []
  | f :: r, ps => ∃ a b, ps = a ++ b ∧ F f.type a ∧ TyFs F r b
/-- The cells of a value of a type. -/
def TyC (P : Program) : Nat → TypeId → List PV → Prop
  | 0, _, _ => False
  | n + 1, t, ps => match P.underlying t with
    | some .bool => ∃ b, ps = [.bool b]
    | some (.int k) => ∃ m, ps = [.int k m] ∧ (Lit.int k m).wf = true
    | some .string => ∃ s, ps = [.str s]
    | some (.slice e) => ps = [.nil] ∨ ∃ l, ps = [.sl l] ∧ ∀ p, p ∈ l → ∃ cs, TyC P n e cs ∧ p = mkE P e cs
    | some (.struct fs) => TyFs (TyC P n) fs.toList ps
    | some (.array m e) => TyAs (TyC P n) e m ps
    | _ => False

theorem mkE_cells {P : Program} {n : Nat} {e : TypeId} {cs : List PV} (h : TyC P n e cs) : (mkE P e cs).cells = cs := by
  cases n with
  | zero => exact h.elim
  | succ n =>
    simp only [TyC] at h
    unfold mkE kindT
    split at h
    · rename_i hu; obtain ⟨b, rfl⟩ := h; simp [hu, PV.cells]
    · rename_i k hu; obtain ⟨m, rfl, _⟩ := h; simp [hu, PV.cells]
    · rename_i hu; obtain ⟨s, rfl⟩ := h; simp [hu, PV.cells]
    · rename_i e' hu; rcases h with rfl | ⟨l, rfl, _⟩ <;> simp [hu, PV.cells]
    · rename_i fs hu; simp [hu, PV.cells]
    · rename_i m e' hu; simp [hu, PV.cells]
    · exact h.elim

theorem relPs_nil (w : World) : RelPs NoT w [] [] := ⟨rfl, fun i p v h => by simp at h⟩
theorem relPs_one {w : World} {p : PV} {v : Value} (h : RelP NoT w p v) : RelPs NoT w [p] [v] := ⟨rfl, fun i q u hq hu => by
  cases i with
  | zero => simp at hq hu; subst hq; subst hu; exact h
  | succ i => simp at hq⟩
theorem relPs_append {w : World} {ps qs : List PV} {vs us : List Value} (h1 : RelPs NoT w ps vs) (h2 : RelPs NoT w qs us) : RelPs NoT w (ps ++ qs) (vs ++ us) := by
  refine ⟨by simp [h1.1, h2.1], fun i p v hp hv => ?_⟩
  rcases Nat.lt_or_ge i ps.length with hl | hl
  · rw [List.getElem?_append_left hl] at hp
    rw [List.getElem?_append_left (by rw [← h1.1]; exact hl)] at hv
    exact h1.2 i p v hp hv
  · rw [List.getElem?_append_right hl] at hp
    rw [List.getElem?_append_right (by rw [← h1.1]; exact hl), ← h1.1] at hv
    exact h2.2 _ p v hp hv

section
variable {H : Type} {enc : TypeId × Value → H} {P : Program} {w : World}

theorem fields_rel {F : TypeId → List PV → Prop} {cs : List Value} : ∀ (l : List Field) (off : Nat), (∀ f, f ∈ l → ∃ ps, F f.type ps ∧ RelPs NoT w ps ((cs.drop f.offset).take (P.cellsOf f.type))) → gapless P l off cs.length = true →
    ∃ ps, TyFs F l ps ∧ RelPs NoT w ps (cs.drop off)
  | [], off, _, hg => by
    simp only [gapless] at hg
    have : off = cs.length := Nat.eq_of_beq_eq_true hg
    exact ⟨[], rfl, by rw [this, List.drop_length]; exact relPs_nil w⟩
  | f :: r, off, hf, hg => by
    simp only [gapless, Bool.and_eq_true] at hg
    have ho : f.offset = off := Nat.eq_of_beq_eq_true hg.1
    obtain ⟨a, ha1, ha2⟩ := hf f (by simp)
    obtain ⟨b, hb1, hb2⟩ := fields_rel r (off + P.cellsOf f.type) (fun g hg' => hf g (by simp [hg'])) hg.2
    refine ⟨a ++ b, ⟨a, b, rfl, ha1, hb1⟩, ?_⟩
    have e : cs.drop off = (cs.drop off).take (P.cellsOf f.type) ++ cs.drop (off + P.cellsOf f.type) := by
      rw [← List.drop_drop, List.take_append_drop]
    rw [e]
    rw [ho] at ha2
    exact relPs_append ha2 hb2

theorem elems_rel {F : TypeId → List PV → Prop} {cs : List Value} {e : TypeId} : ∀ (m off : Nat), (∀ i, i < m → ∃ ps, F e ps ∧ RelPs NoT w ps ((cs.drop (off + i * P.cellsOf e)).take (P.cellsOf e))) → cs.length = off + m * P.cellsOf e →
    ∃ ps, TyAs F e m ps ∧ RelPs NoT w ps (cs.drop off)
  | 0, off, _, hg => ⟨[], rfl, by rw [show off = cs.length by omega, List.drop_length]; exact relPs_nil w⟩
  | m + 1, off, hf, hg => by
    obtain ⟨a, ha1, ha2⟩ := hf 0 (by omega)
    rw [Nat.zero_mul, Nat.add_zero] at ha2
    obtain ⟨b, hb1, hb2⟩ := elems_rel m (off + P.cellsOf e) (fun i hi => by
      have := hf (i + 1) (by omega)
      rwa [show off + (i + 1) * P.cellsOf e = off + P.cellsOf e + i * P.cellsOf e by rw [Nat.add_mul]; omega] at this) (by rw [hg, Nat.add_mul]; omega)
    refine ⟨a ++ b, ⟨a, b, rfl, ha1, hb1⟩, ?_⟩
    have e' : cs.drop off = (cs.drop off).take (P.cellsOf e) ++ cs.drop (off + P.cellsOf e) := by
      rw [← List.drop_drop, List.take_append_drop]
    rw [e']
    exact relPs_append ha2 hb2

theorem trod_rel : ∀ (n : Nat) (t : TypeId) (fuel : Nat) (cs : List Value) (x : DataW H × List MemPlace), plainT P n t = true → DataW.trod enc P w 0 (fun _ => true) true fuel t cs = some x → ∃ ps, TyC P n t ps ∧ RelPs NoT w ps cs
  | 0, t, fuel, cs, x, hp, _ => by simp [plainT] at hp
  | n + 1, t, fuel, cs, x, hp, h => by
    simp only [plainT] at hp
    simp only [TyC]
    split at hp
    · rename_i hu
      obtain ⟨b, rfl, _⟩ := DataW.trod_bool hu h
      exact ⟨[.bool b], ⟨b, rfl⟩, relPs_one (.bool b)⟩
    · rename_i k hu
      obtain ⟨m, rfl, _, hm⟩ := DataW.trod_int hu h
      exact ⟨[.int k m], ⟨m, rfl, hm⟩, relPs_one (.int k m)⟩
    · rename_i hu
      obtain ⟨s, rfl, _⟩ := DataW.trod_string hu h
      exact ⟨[.str s], ⟨s, rfl⟩, relPs_one (.str s)⟩
    · rename_i e hu
      simp only [Bool.and_eq_true, Bool.not_eq_true'] at hp
      have hpos : 0 < P.cellsOf e := by
        rcases Nat.eq_zero_or_pos (P.cellsOf e) with h0 | h0
        · rw [h0] at hp; simp at hp
        · exact h0
      rcases DataW.trod_slice hu h with ⟨rfl, _⟩ | ⟨a, len, cap, elems, rest, m, _, rfl, _, _, hle, _, hlen, hel, _, _⟩
      · exact ⟨[.nil], .inl rfl, relPs_one .nil⟩
      · -- each element
        have each : ∀ i, i < len → ∃ ps, TyC P n e ps ∧ ∃ us, w.cells? 0 (a.add (i * P.cellsOf e)) (P.cellsOf e) = some us ∧ RelPs NoT w ps us := by
          intro i hi
          have h1 := hel i hi
          rw [List.getElem?_eq_getElem (by omega)] at h1
          obtain ⟨us, h2, h3⟩ := Option.bind_eq_some_iff.1 h1
          obtain ⟨ps, h4, h5⟩ := trod_rel n e m us _ hp.1 h3
          exact ⟨ps, h4, us, h2, h5⟩
        cases len with
        | zero => exact ⟨[.sl []], .inr ⟨[], rfl, fun p hp => by simp at hp⟩, relPs_one (.e0 (some a) cap)⟩
        | succ len =>
          have hspot : a = ⟨a.block, a.off, none⟩ ∧ a.block < w.heap.size := by
            obtain ⟨ps, _, us, h2, _⟩ := each 0 (by omega)
            obtain ⟨_, hl, hc⟩ := World.cells?_some h2
            have := hc 0 hpos
            rw [Nat.zero_mul] at this
            have e0 : (a.add 0).add 0 = a := by simp [Addr.add]
            rw [e0, List.getElem?_eq_getElem (by omega)] at this
            unfold World.cell? at this
            split at this
            · rename_i c _ _ hb
              have hb' := (Array.getElem?_eq_some_iff.1 hb).1
              refine ⟨?_, hb'⟩
              cases hs : a.spot with
              | none => cases a; simp at hs; subst hs; rfl
              | some s => rw [hs] at this; simp at this
            · cases this
          obtain ⟨ha, hb⟩ := hspot
          have hch : ∃ f : Nat → List PV, ∀ i, i < len + 1 → TyC P n e (f i) ∧ ∃ us, w.cells? 0 (a.add (i * P.cellsOf e)) (P.cellsOf e) = some us ∧ RelPs NoT w (f i) us := by
            refine ⟨fun i => if hi : i < len + 1 then Classical.choose (each i hi) else [], fun i hi => ?_⟩
            simp only [dif_pos hi]
            exact Classical.choose_spec (each i hi)
          obtain ⟨f, hf⟩ := hch
          refine ⟨[.sl ((List.range (len + 1)).map fun i => mkE P e (f i))], .inr ⟨_, rfl, fun p hp => ?_⟩, relPs_one ?_⟩
          · obtain ⟨i, hi, rfl⟩ := List.mem_map.1 hp
            exact ⟨f i, (hf i (by simpa using hi)).1, rfl⟩
          · have hll : ((List.range (len + 1)).map fun i => mkE P e (f i)).length = len + 1 := by simp
            have hcell : ∀ i, i < len + 1 → ∃ us : List Value, us.length = P.cellsOf e ∧ (f i).length = P.cellsOf e ∧ (∀ j, j < P.cellsOf e → w.cell? ⟨a.block, a.off + i * P.cellsOf e + j, none⟩ = us[j]?) ∧ RelPs NoT w (f i) us := by
              intro i hi
              obtain ⟨_, us, h2, h3⟩ := hf i hi
              obtain ⟨_, hl, hc⟩ := World.cells?_some h2
              refine ⟨us, hl, by rw [h3.1, hl], fun j hj => ?_, h3⟩
              rw [← hc j hj]
              congr 1
              rw [ha]
              simp only [Addr.add]
              by_cases e1 : i * P.cellsOf e = 0 <;> by_cases e2 : j = 0 <;> simp [e1, e2, Nat.add_assoc]
            have hget : ∀ (i : Nat) p, ((List.range (len + 1)).map fun i => mkE P e (f i))[i]? = some p → i < len + 1 ∧ p.cells = f i := by
              intro i p hp
              have hi : i < len + 1 := by have := (List.getElem?_eq_some_iff.1 hp).1; simpa using this
              rw [List.getElem?_map, List.getElem?_range hi] at hp
              simp at hp; subst hp
              exact ⟨hi, mkE_cells (hf i hi).1⟩
            have key := RelP.sl (T := NoT) (w := w) a.block a.off (P.cellsOf e) cap ((List.range (len + 1)).map fun i => mkE P e (f i)) (fun i j => (w.cell? ⟨a.block, a.off + i * P.cellsOf e + j, none⟩).getD undef) (fun h => h) hb (by rw [hll]; exact hle)
              (fun p hp => by
                obtain ⟨i, hi⟩ := List.mem_iff_getElem?.1 hp
                obtain ⟨h1, h2⟩ := hget i p hi
                obtain ⟨us, _, g2, _⟩ := hcell i h1
                rw [h2, g2])
              (fun i p j q hp hq => by
                obtain ⟨h1, h2⟩ := hget i p hp
                obtain ⟨us, g1, g2, g3, g4⟩ := hcell i h1
                rw [h2] at hq
                have hj : j < P.cellsOf e := by have := (List.getElem?_eq_some_iff.1 hq).1; omega
                rw [g3 j hj, List.getElem?_eq_getElem (by omega)]; rfl)
              (fun i p j q hp hq => by
                obtain ⟨h1, h2⟩ := hget i p hp
                obtain ⟨us, g1, g2, g3, g4⟩ := hcell i h1
                rw [h2] at hq
                have hj : j < P.cellsOf e := by have := (List.getElem?_eq_some_iff.1 hq).1; omega
                rw [g3 j hj, List.getElem?_eq_getElem (by omega)]
                exact g4.2 j q _ hq (List.getElem?_eq_getElem (by omega)))
            rw [hll, ← ha] at key
            exact key
    · rename_i fs hu
      simp only [Bool.and_eq_true, List.all_eq_true] at hp
      obtain ⟨xs, m, _, _, hl, hxl, hx⟩ := DataW.trod_struct hu h
      obtain ⟨ps, h1, h2⟩ := fields_rel (P := P) (w := w) (F := TyC P n) (cs := cs) fs.toList 0 (fun f hf => by
        obtain ⟨i, hi⟩ := List.mem_iff_getElem?.1 hf
        have hi' : fs[i]? = some f := by simpa using hi
        have := hx i f hi'
        have hlt : i < xs.length := by rw [hxl]; exact (Array.getElem?_eq_some_iff.1 hi').1
        rw [List.getElem?_eq_getElem hlt] at this
        exact trod_rel n f.type m _ _ (hp.2 f hf) this) (by rw [hl]; exact hp.1)
      exact ⟨ps, h1, by simpa using h2⟩
    · rename_i m e hu
      simp only [Bool.and_eq_true] at hp
      have hsz : m * P.cellsOf e = P.cellsOf t := Nat.eq_of_beq_eq_true hp.1
      obtain ⟨xs, k, _, _, hl, hxl, hx⟩ := DataW.trod_array hu h
      obtain ⟨ps, h1, h2⟩ := elems_rel (P := P) (w := w) (F := TyC P n) (cs := cs) (e := e) m 0 (fun i hi => by
        have := hx i hi
        rw [List.getElem?_eq_getElem (by omega)] at this
        rw [Nat.zero_add]
        exact trod_rel n e k _ _ hp.2 this) (by rw [hl, ← hsz, Nat.zero_add])
      exact ⟨ps, h1, by simpa using h2⟩
    · cases hp

theorem shut_bool' {w' : World} {base : Nat} {spare : Nat → Bool} {held : Bool} {t : TypeId} (ht : P.underlying t = some .bool) : DataW.Trod enc P w' base spare held t (.bool true) (.lit (.bool true)) [] :=
  ⟨1, by simp [DataW.trod, Value.cells, ht]⟩
/-- A parameter's pure value. -/
def TyA (P : Program) (n : Nat) (t : TypeId) (p : PV) : Prop := ∃ cs, TyC P n t cs ∧ p = mkE P t cs
def TyAll (P : Program) (n : Nat) : List TypeId → List PV → Prop
  | [], ps => ps = []
  | t :: ts, ps => ∃ p r, ps = p :: r ∧ TyA P n t p ∧ TyAll P n ts r

theorem arg_rel {n : Nat} {t : TypeId} {v : Value} {d : DataW H} {q : List MemPlace} {r : Reach} {b : Nat} (hp : plainT P n t = true) (hval : Value.okWide P w r b t v) (h : DataW.Trod enc P w 0 (fun _ => true) true t v d q) :
    ∃ p, TyA P n t p ∧ RelP NoT w p v := by
  obtain ⟨fuel, h⟩ := h
  obtain ⟨ps, h1, h2⟩ := trod_rel n t fuel _ _ hp h
  refine ⟨mkE P t ps, ⟨ps, h1, rfl⟩, ?_⟩
  cases n with
  | zero => exact h1.elim
  | succ n =>
    have h1' := h1
    simp only [TyC] at h1
    have single : ∀ p, ps = [p] → (∀ xs, v = .agg xs → False) → RelP NoT w p v := by
      intro p hps ho
      subst hps
      have hc : v.cells.toList = [v] := by cases v with
        | agg xs => exact (ho xs rfl).elim
        | _ => rfl
      rw [hc] at h2
      exact h2.2 0 p v rfl rfl
    unfold mkE kindT
    split at h1
    · rename_i hu
      obtain ⟨b, rfl⟩ := h1
      simp only [hu]
      exact single _ rfl fun xs e => by subst e; simp [Value.okWide, hu, Cell.okWide, Cell.ok] at hval
    · rename_i k hu
      obtain ⟨m, rfl, _⟩ := h1
      simp only [hu]
      exact single _ rfl fun xs e => by subst e; simp [Value.okWide, hu, Cell.okWide, Cell.ok] at hval
    · rename_i hu
      obtain ⟨s, rfl⟩ := h1
      simp only [hu]
      exact single _ rfl fun xs e => by subst e; simp [Value.okWide, hu, Cell.okWide, Cell.ok] at hval
    · rename_i e hu
      have ho : ∀ xs, v = .agg xs → False := fun xs e => by subst e; simp [Value.okWide, hu, Cell.okWide, Cell.ok] at hval
      rcases h1 with rfl | ⟨l, rfl, _⟩
      · simp only [hu]; exact single _ rfl ho
      · simp only [hu]; exact single _ rfl ho
    · rename_i fs hu
      simp only [hu]
      simp only [Value.okWide, hu] at hval
      obtain ⟨cs, rfl, _⟩ := hval
      exact .agg ps cs.toList h2.1 fun i p v hp hv => h2.2 i p v hp hv
    · rename_i m e hu
      simp only [hu]
      simp only [Value.okWide, hu] at hval
      obtain ⟨cs, rfl, _⟩ := hval
      exact .agg ps cs.toList h2.1 fun i p v hp hv => h2.2 i p v hp hv
    · exact h1.elim

theorem args_rel {n : Nat} {r : Reach} {b : Nat} : ∀ (ts : List TypeId) (vs : List Value) (ds : List (DataW H)) (q : List MemPlace), (ts.all fun t => plainT P n t) = true → (∀ (j : Nat) t v, ts[j]? = some t → vs[j]? = some v → Value.okWide P w r b t v) →
    DataW.TrodAll enc P w 0 (fun _ => true) true ts vs ds q → ∃ ps, TyAll P n ts ps ∧ RelPs NoT w ps vs
  | [], vs, ds, q, _, _, h => by
    cases vs with
    | nil => exact ⟨[], rfl, relPs_nil w⟩
    | cons v vs => cases ds <;> exact h.elim
  | t :: ts, vs, ds, q, hp, hval, h => by
    cases vs with
    | nil => cases ds <;> exact h.elim
    | cons v vs =>
      cases ds with
      | nil => exact h.elim
      | cons d ds =>
        obtain ⟨a, c, h1, h2, _⟩ := h
        simp only [List.all_cons, Bool.and_eq_true] at hp
        obtain ⟨p, g1, g2⟩ := arg_rel hp.1 (hval 0 t v rfl rfl) h1
        obtain ⟨ps, g3, g4⟩ := args_rel ts vs ds c hp.2 (fun j t v ht hv => hval (j + 1) t v (by simpa using ht) (by simpa using hv)) h2
        exact ⟨p :: ps, ⟨p, ps, rfl, g1, g3⟩, relPs_append (relPs_one g2) g4⟩

theorem trods_stay {w' : World} (hl : laidOutB P = true) (hb : Below w.heap.size w w') : ∀ (ts : List TypeId) (vs : List Value) (ds : List (DataW H)) (q : List MemPlace), (ts.all fun t => P.readableRec t && decide (t < P.types.size)) = true → (∀ x ∈ q, x.block < w.heap.size) →
    DataW.TrodAll enc P w 0 (fun _ => true) true ts vs ds q → DataW.TrodAll enc P w' 0 (fun b => decide (b < w.heap.size)) true ts vs ds q
  | [], vs, ds, q, _, _, h => by
    cases vs <;> cases ds <;> exact h
  | t :: ts, vs, ds, q, hr, hlt, h => by
    cases vs with
    | nil => cases ds <;> exact h.elim
    | cons v vs =>
      cases ds with
      | nil => exact h.elim
      | cons d ds =>
        obtain ⟨a, c, h1, h2, rfl⟩ := h
        simp only [List.all_cons, Bool.and_eq_true, decide_eq_true_eq] at hr
        exact ⟨a, c, Below.trod hl hr.1.1 hr.1.2 h1 hb (fun x hx => hlt x (List.mem_append_left _ hx)), trods_stay hl hb ts vs ds c hr.2 (fun x hx => hlt x (List.mem_append_right _ hx)) h2, rfl⟩

/-- What a law's row asks of each call. -/
theorem law_calls {n : Nat} {f : FuncId} {fn : Func} {s : ChangeSpec} {tb : TypeId} {apart : Bool} {W : World} {base : Nat} {args : Array Value} {ds gs : List (DataW H)} {before : List MemPlace} (hl : laidOutB P = true)
    (hr : (fn.params.toList.all fun t => P.readableRec t && decide (t < P.types.size)) = true) (hp : (fn.params.toList.all fun t => plainT P n t) = true) (hres : fn.resultTypes = #[tb]) (hb : P.underlying tb = some .bool) (hvs : s.vars = [])
    (hs : ∀ ds : List (DataW H), ds.length = fn.params.toList.length → s.fn H ds = { results := [.lit (.bool true)], args := ds })
    (hval : ∀ (j : Nat) t v, fn.params[j]? = some t → args[j]? = some v → Value.okWide P W .any base t v) (hW : DataW.Whole enc P fn.params.toList s.vars apart W args.toList ds gs before)
    (hpure : ∀ ps, TyAll P n fn.params.toList ps → PureFn P f ps (.bool true)) :
    Calls P f args W fun e W' => ∃ v, e = .returned v ∧ s.post enc P fn apart true false false W args v W' := by
  have hW' := hW
  obtain ⟨p, q, hA, hV, rfl, hfz, hnd⟩ := hW
  rw [hvs] at hV
  obtain ⟨rfl, rfl⟩ : gs = [] ∧ q = [] := by cases gs with
    | nil => exact ⟨rfl, hV⟩
    | cons g gs => exact hV.elim
  obtain ⟨ps, h1, h2⟩ := args_rel (n := n) (r := .any) (b := base) fn.params.toList args.toList ds p hp (fun j t v ht hv => hval j t v (by simpa using ht) (by simpa using hv)) hA
  refine ((hpure ps h1).elim.2 NoT W args.toList (fun b hb => hb.elim) h2).mono ?_
  rintro e W' ⟨v, rfl, hv, hB⟩
  obtain rfl : v = .bool true := by cases hv; rfl
  have hlen : ds.length = fn.params.toList.length := by
    have : ∀ (ts : List TypeId) (vs : List Value) (ds : List (DataW H)) (q : List MemPlace), DataW.TrodAll enc P W 0 (fun _ => true) true ts vs ds q → ds.length = ts.length := by
      intro ts
      induction ts with
      | nil => intro vs ds q h; cases vs <;> cases ds <;> first | rfl | exact h.elim
      | cons t ts ih =>
        intro vs ds q h
        cases vs with
        | nil => cases ds <;> exact h.elim
        | cons v vs =>
          cases ds with
          | nil => exact h.elim
          | cons d ds => obtain ⟨a, c, _, h2, _⟩ := h; simp [ih vs ds c h2]
    exact this _ _ _ _ hA
  have hlt : ∀ x ∈ p, x.block < W.heap.size := fun x hx => hW'.lt x (by simpa using hx)
  have e1 : s.fn H (ds ++ []) = { results := [.lit (.bool true)], args := ds } := by rw [List.append_nil]; exact hs ds hlen
  refine ⟨_, rfl, ds, [], _, [], p, [], hW', ?_, ?_, ?_, hB.frame _, fun h => by cases h⟩
  · rw [e1, hres]
    exact trodAll_mk1 (shut_bool' hb)
  · rw [e1]
    exact trods_stay hl hB fn.params.toList args.toList ds p hr hlt hA
  · rw [e1, hvs]
    exact rfl
end
end Go.Dv
set_option maxRecDepth 100000
set_option maxHeartbeats 4000000
namespace Go.Proofs.Ytibenjpkinhjhaa
open Go Go.Dv

theorem Try.own : ownKnob Try.prog.godebug = none := by kernel_rfl
theorem Try.laidOut : laidOutB Try.prog = true := by kernel_rfl
theorem u_int : Try.prog.underlying 3 = some (.int .i64) := by kernel_rfl
theorem u_nodes : Try.prog.underlying 39 = some (.slice 92) := by kernel_rfl

theorem int_of {n : Nat} {cs : List PV} (h : TyC Try.prog (n + 1) 3 cs) : ∃ i : Int, cs = [.int .i64 i] ∧ (Lit.int .i64 i).wf = true := by
  simp only [TyC, u_int] at h
  obtain ⟨m, rfl, hm⟩ := h
  exact ⟨m, rfl, hm⟩
theorem u_node : ∃ fs : Array Field, Try.prog.underlying 92 = some (.struct fs) ∧ fs.toList.map (·.type) = [3, 3, 3, 3, 3, 3] := ⟨_, rfl, by kernel_rfl⟩
theorem nd_of {n : Nat} {cs : List PV} (h : TyC Try.prog (n + 2) 92 cs) : ∃ x : Nd, mkE Try.prog 92 cs = x.pv := by
  obtain ⟨fs, hu, hf⟩ := u_node
  simp only [TyC, hu] at h
  have key : ∀ (l : List Field) (k : Nat) (ps : List PV), l.map (·.type) = List.replicate k 3 → TyFs (TyC Try.prog (n + 1)) l ps → ∃ is : List Int, is.length = k ∧ ps = is.map (PV.int .i64) := by
    intro l
    induction l with
    | nil => intro k ps hk hp; simp only [TyFs] at hp; subst hp; cases k with
      | zero => exact ⟨[], rfl, rfl⟩
      | succ k => simp [List.replicate] at hk
    | cons f r ih =>
      intro k ps hk hp
      cases k with
      | zero => simp at hk
      | succ k =>
        simp only [List.map_cons, List.replicate_succ, List.cons.injEq] at hk
        obtain ⟨a, b, rfl, h1, h2⟩ := hp
        rw [hk.1] at h1
        obtain ⟨i, rfl, _⟩ := int_of h1
        obtain ⟨is, h3, rfl⟩ := ih k b hk.2 h2
        exact ⟨i :: is, by simp [h3], rfl⟩
  obtain ⟨is, h1, rfl⟩ := key fs.toList 6 cs hf h
  match is, h1 with
  | [a, b, c, d, e, f], _ => exact ⟨⟨a, b, c, d, e, f⟩, by simp only [mkE, kindT, hu]; rfl⟩
theorem arg_nodes {n : Nat} {p : PV} (h : TyA Try.prog (n + 3) 39 p) : ∃ f : List Nd, PLe p (fpv f) := by
  obtain ⟨cs, h1, rfl⟩ := h
  simp only [TyC, u_nodes] at h1
  rcases h1 with rfl | ⟨l, rfl, hl⟩
  · exact ⟨[], by simp only [mkE, kindT, u_nodes]; exact .nil⟩
  · have : ∃ f : List Nd, l = f.map Nd.pv := by
      induction l with
      | nil => exact ⟨[], rfl⟩
      | cons p r ih =>
        obtain ⟨cs, g1, g2⟩ := hl p (by simp)
        obtain ⟨x, hx⟩ := nd_of g1
        obtain ⟨f, rfl⟩ := ih fun q hq => hl q (by simp [hq])
        exact ⟨x :: f, by rw [g2, hx]; rfl⟩
    obtain ⟨f, rfl⟩ := this
    exact ⟨f, by simp only [mkE, kindT, u_nodes]; exact .refl _⟩
end Go.Proofs.Ytibenjpkinhjhaa
set_option maxRecDepth 100000
set_option maxHeartbeats 4000000
namespace Go.Proofs.Ytibenjpkinhjhaa
open Go Go.Dv

theorem u_u8 : Try.prog.underlying 5 = some (.int .u8) := by kernel_rfl
theorem u8_of {n : Nat} {cs : List PV} (h : TyC Try.prog (n + 1) 5 cs) : ∃ s : Nat, cs = [.int .u8 (s : Int)] ∧ s < 256 := by
  simp only [TyC, u_u8] at h
  obtain ⟨m, rfl, hm⟩ := h
  simp [Lit.wf, IntKind.min, IntKind.max, IntKind.signed, IntKind.bits] at hm
  refine ⟨m.toNat, ?_, by omega⟩
  rw [show ((m.toNat : Nat) : Int) = m by omega]
theorem u_arrB3 : Try.prog.underlying 62 = some (.array 3 5) := by kernel_rfl
theorem arg_arrB3 {n : Nat} {p : PV} (h : TyA Try.prog (n + 2) 62 p) : ∃ u v w : Nat, p = .agg [.int .u8 (u : Int), .int .u8 (v : Int), .int .u8 (w : Int)] ∧ u < 256 ∧ v < 256 ∧ w < 256 := by
  obtain ⟨cs, h1, rfl⟩ := h
  simp only [TyC, u_arrB3] at h1
  obtain ⟨a, b, rfl, ha, c, d, rfl, hc, e, g, rfl, he, rfl⟩ := h1
  obtain ⟨u, rfl, hu⟩ := u8_of (n := n) ha
  obtain ⟨v, rfl, hv⟩ := u8_of (n := n) hc
  obtain ⟨w, rfl, hw⟩ := u8_of (n := n) he
  exact ⟨u, v, w, by simp only [mkE, kindT, u_arrB3]; rfl, hu, hv, hw⟩
theorem arg_u8 {n : Nat} {p : PV} (h : TyA Try.prog (n + 1) 5 p) : ∃ s : Nat, p = .int .u8 (s : Int) ∧ s < 256 := by
  obtain ⟨cs, h1, rfl⟩ := h
  simp only [TyC, u_u8] at h1
  obtain ⟨m, rfl, hm⟩ := h1
  simp [Lit.wf, IntKind.min, IntKind.max, IntKind.signed, IntKind.bits] at hm
  refine ⟨m.toNat, ?_, by omega⟩
  simp only [mkE, kindT, u_u8]
  rw [show ((m.toNat : Nat) : Int) = m by omega]
end Go.Proofs.Ytibenjpkinhjhaa
