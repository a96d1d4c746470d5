/- Parts of the proof, one after the other: Action models: the conditions of the logics, of the program, walked. Messages: all results are valid and have the relations of their logics (plain). Messages: validity and logics of the results (plain). -/
import Derived.Test.YtibenjpkinhjhaaM8
set_option maxRecDepth 100000
set_option maxHeartbeats 4000000
namespace Go.Proofs.Ytibenjpkinhjhaa
open Go Go.Dv

theorem andNotU_eq {a b : Nat} (ha : a < 2 ^ 64) : andNotU a b = ((a ^^^ (a &&& b) : Nat) : Int) := by
  have hlt : a ^^^ (a &&& b) < 2 ^ 64 := Nat.xor_lt_two_pow ha (Nat.lt_of_le_of_lt Nat.and_le_left ha)
  unfold andNotU
  show IntKind.wrap .u64 ((BitVec.ofInt 64 (a : Int) &&& ~~~BitVec.ofInt 64 (b : Int)).toNat : Int) = _
  rw [ofInt_nat, ofInt_nat]
  have h2 : (BitVec.ofNat 64 a &&& ~~~BitVec.ofNat 64 b).toNat = a ^^^ (a &&& b) := by
    apply Nat.eq_of_testBit_eq
    intro i
    rw [BitVec.testBit_toNat, BitVec.getLsbD_and, BitVec.getLsbD_not, BitVec.getLsbD_ofNat, BitVec.getLsbD_ofNat, Nat.testBit_xor, Nat.testBit_and]
    by_cases hi : i < 64
    · simp only [hi, decide_true, Bool.true_and]; cases a.testBit i <;> cases b.testBit i <;> rfl
    · have : a.testBit i = false := Nat.testBit_lt_two_pow (Nat.lt_of_lt_of_le ha (Nat.pow_le_pow_right (by decide) (by omega)))
      simp [hi, this]
  rw [h2, wrapU (by omega) (by omega)]
theorem andNotU_subM {a b : Nat} (ha : a < 2 ^ 64) : (andNotU a b == 0) = subM a b := by
  rw [andNotU_eq ha, subM, Bool.eq_iff_iff, beq_iff_eq, beq_iff_eq]
  constructor
  · intro h
    have h0 : a ^^^ (a &&& b) = 0 := by omega
    have h4 : (a ^^^ (a &&& b)) ^^^ (a &&& b) = a := by rw [Nat.xor_assoc, Nat.xor_self, Nat.xor_zero]
    rw [h0, Nat.zero_xor] at h4; exact h4
  · intro h
    rw [h, Nat.xor_self]; rfl

/-! the conditions -/
def serP (r : List Nat) (i : Nat) : Bool := (List.range i).all fun e => r.getD e 0 != 0
def refP (r : List Nat) (i : Nat) : Bool := (List.range i).all fun e => (r.getD e 0).testBit e
def traQ (r : List Nat) (e j : Nat) : Bool := (List.range j).all fun f => !(r.getD e 0).testBit f || subM (r.getD f 0) (r.getD e 0)
def eucQ (r : List Nat) (e j : Nat) : Bool := (List.range j).all fun f => !(r.getD e 0).testBit f || subM (r.getD e 0) (r.getD f 0)
def traP (r : List Nat) (i : Nat) : Bool := (List.range i).all fun e => traQ r e r.length
def eucP (r : List Nat) (i : Nat) : Bool := (List.range i).all fun e => eucQ r e r.length
theorem all_succ {p : Nat → Bool} {i : Nat} : (List.range (i + 1)).all p = ((List.range i).all p && p i) := by simp [List.range_succ]
def condPV (r : List Nat) : PV := .agg [.bool (serP r r.length), .bool (refP r r.length), .bool (traP r r.length), .bool (eucP r r.length)]
theorem ac_has (s e : Nat) (hs : s < 2 ^ 64) (he : e < 64) : PureFn Try.prog 82 [u64 s, .int .i64 (e : Int)] (.bool (s.testBit e)) := by
  refine PureFn.intro mixed (fn := Try.f82) rfl rfl rfl fun M w0 => ?_
  (try (conv => whnf)); repeat' (first | (apply And.intro <;> (try (conv => whnf))) | (intro h; first | (with_reducible exact tf0 h) | (with_reducible exact ft0 h) | (with_reducible exact nt0 h) | (with_reducible exact nf0 h) | (exact litz h rfl) | (with_reducible exact tf h (by with_reducible assumption)) | (with_reducible exact tf (by with_reducible assumption) h) | (try (conv => whnf))) | (with_reducible rfl) | (apply True.intro) | (apply infoT; rfl) | (apply bleI; rfl) | (apply fitI; rfl) | (apply cellsI; rfl) | (apply szI; rfl) | (apply guardI; kernel_rfl) | (apply WhenQ.mk; (try (conv => whnf)); rotate_left; (try (conv => whnf)); rotate_right) | (with_reducible assumption) | (apply not_of; with_reducible assumption) | (apply left_of; with_reducible assumption) | (apply left_of; apply left_of; with_reducible assumption) | (apply and_of <;> first | (with_reducible assumption) | (apply not_of; with_reducible assumption))| (refine lin_plan (by kernel_rfl) ?_; (try (conv => whnf))) | (refine ⟨_, _, rfl, idx_map (by with_reducible assumption), rfl, ?_⟩; (try (conv => whnf))) | (refine ⟨rfl, ?_⟩; (try (conv => whnf))) | (exact Nat.le_refl 1) | ((apply ex3); (focus (with_reducible assumption)); (focus (with_reducible assumption)); (try (conv => whnf))) | ((apply ex2); (focus (with_reducible assumption)); (try (conv => whnf))) | fail)
  · exact Int.natCast_nonneg _
  · exact le_bool (bit_one hs he)
theorem getD_at {r : List Nat} {e : Nat} (h : e < r.length) : r.getD e 0 = r[e] := by rw [List.getD_eq_getElem?_getD, List.getElem?_eq_getElem h]; rfl
theorem ac_of (r : List Nat) (hl : r.length ≤ 60) (hf : ∀ s, s ∈ r → s < 2 ^ 64) : PureFn Try.prog 75 [rowPV r] (condPV r) := by
  refine PureFn.introC [6, 7] mixed (fn := Try.f75) rfl rfl rfl fun M w0 => ?_
  (try (conv => whnf)); repeat' (first | (apply And.intro <;> (try (conv => whnf))) | (intro h; first | (with_reducible exact tf0 h) | (with_reducible exact ft0 h) | (with_reducible exact nt0 h) | (with_reducible exact nf0 h) | (exact litz h rfl) | (with_reducible exact tf h (by with_reducible assumption)) | (with_reducible exact tf (by with_reducible assumption) h) | (try (conv => whnf))) | (with_reducible rfl) | (apply True.intro) | (apply infoT; rfl) | (apply bleI; rfl) | (apply fitI; rfl) | (apply cellsI; rfl) | (apply szI; rfl) | (apply guardI; kernel_rfl) | (apply WhenQ.mk; (try (conv => whnf)); rotate_left; (try (conv => whnf)); rotate_right) | (with_reducible assumption) | (apply not_of; with_reducible assumption) | (apply left_of; with_reducible assumption) | (apply left_of; apply left_of; with_reducible assumption) | (apply and_of <;> first | (with_reducible assumption) | (apply not_of; with_reducible assumption))| (refine lin_plan (by kernel_rfl) ?_; (try (conv => whnf))) | (refine ⟨_, _, rfl, idx_map (by with_reducible assumption), rfl, ?_⟩; (try (conv => whnf))) | (refine ⟨rfl, ?_⟩; (try (conv => whnf))) | (exact Nat.le_refl 1) | ((apply ex3); (focus (with_reducible assumption)); (focus (with_reducible assumption)); (try (conv => whnf))) | ((apply ex2); (focus (with_reducible assumption)); (try (conv => whnf))) | fail)
  refine ⟨{ i : Nat // i ≤ r.length }, fun i => [(0, .pv (rowPV r)), (2, .ref 0 0), (3, .ref 1 0), (9, .pv (rowPV r)), (10, .pv (i64 (r.map u64).length)), (11, .pv (i64 i.1))], fun _ => 2, fun i => [(0, .var [.pv (.bool false), .pv (.bool false), .pv (.bool false), .pv (.bool false)]), (1, .var [.pv (.bool (serP r i.1)), .pv (.bool (refP r i.1)), .pv (.bool (traP r i.1)), .pv (.bool (eucP r i.1))])], fun i => r.length - i.1, ⟨⟨0, Nat.zero_le _⟩, (by refine Wk.of ?_ ?_ rfl rfl rfl <;> (repeat' (first | (exact trivial) | (exact WkD.same _) | (exact WkO.same _ _ rfl) | (exact WkD.any _) | (exact WkD.nil _ (Or.inl rfl)) | (exact WkD.nil _ (Or.inr rfl)) | (exact WkD.fz _ _ _ rfl (Or.inl ⟨_, rfl⟩) rfl) | (exact WkD.fz _ _ _ rfl (Or.inr rfl) rfl) | (refine WkD.int ?_) | (exact WkD.new' rfl rfl rfl) | (exact WkO.new _ _ rfl) | (refine WkO.vars rfl ?_) | (with_reducible rfl) | (exact rfl) | (refine ⟨?_, ?_⟩) | ((refine wrapA ?_ ?_ ?_); (focus (simp; done)); (focus ((try dsimp only); omega)); (focus ((try dsimp only); omega))) | fail)))⟩, ?_⟩
  rintro ⟨i, hi⟩
  (try (conv => whnf)); repeat' (first | (apply And.intro <;> (try (conv => whnf))) | (intro h; first | (with_reducible exact tf0 h) | (with_reducible exact ft0 h) | (with_reducible exact nt0 h) | (with_reducible exact nf0 h) | (exact litz h rfl) | (with_reducible exact tf h (by with_reducible assumption)) | (with_reducible exact tf (by with_reducible assumption) h) | (try (conv => whnf))) | (with_reducible rfl) | (apply True.intro) | (apply infoT; rfl) | (apply bleI; rfl) | (apply fitI; rfl) | (apply cellsI; rfl) | (apply szI; rfl) | (apply guardI; kernel_rfl) | (apply WhenQ.mk; (try (conv => whnf)); rotate_left; (try (conv => whnf)); rotate_right) | (with_reducible assumption) | (apply not_of; with_reducible assumption) | (apply left_of; with_reducible assumption) | (apply left_of; apply left_of; with_reducible assumption) | (apply and_of <;> first | (with_reducible assumption) | (apply not_of; with_reducible assumption))| (refine lin_plan (by kernel_rfl) ?_; (try (conv => whnf))) | (refine ⟨_, _, rfl, idx_map (by with_reducible assumption), rfl, ?_⟩; (try (conv => whnf))) | (refine ⟨rfl, ?_⟩; (try (conv => whnf))) | (exact Nat.le_refl 1) | ((apply ex3); (focus (with_reducible assumption)); (focus (with_reducible assumption)); (try (conv => whnf))) | ((apply ex2); (focus (with_reducible assumption)); (try (conv => whnf))) | fail)
  · have hi' : i < r.length := by simpa using lt_dec h
    have hn : r[i]? = some r[i] := List.getElem?_eq_getElem hi'
    have hfi := hf _ (List.getElem_mem hi')
    have hg := getD_at hi'
    have hH := ac_has r[i] i hfi (by omega)
    refine ⟨_, _, rfl, idx_map hn, rfl, ?_⟩
    (try (conv => whnf)); repeat' (first | (apply And.intro <;> (try (conv => whnf))) | (intro h; first | (with_reducible exact tf0 h) | (with_reducible exact ft0 h) | (with_reducible exact nt0 h) | (with_reducible exact nf0 h) | (exact litz h rfl) | (with_reducible exact tf h (by with_reducible assumption)) | (with_reducible exact tf (by with_reducible assumption) h) | (try (conv => whnf))) | (with_reducible rfl) | (apply True.intro) | (apply infoT; rfl) | (apply bleI; rfl) | (apply fitI; rfl) | (apply cellsI; rfl) | (apply szI; rfl) | (apply guardI; kernel_rfl) | (apply WhenQ.mk; (try (conv => whnf)); rotate_left; (try (conv => whnf)); rotate_right) | (with_reducible assumption) | (apply not_of; with_reducible assumption) | (apply left_of; with_reducible assumption) | (apply left_of; apply left_of; with_reducible assumption) | (apply and_of <;> first | (with_reducible assumption) | (apply not_of; with_reducible assumption))| (refine lin_plan (by kernel_rfl) ?_; (try (conv => whnf))) | (refine ⟨_, _, rfl, idx_map (by with_reducible assumption), rfl, ?_⟩; (try (conv => whnf))) | (refine ⟨rfl, ?_⟩; (try (conv => whnf))) | (exact Nat.le_refl 1) | ((apply ex3); (focus (with_reducible assumption)); (focus (with_reducible assumption)); (try (conv => whnf))) | ((apply ex2); (focus (with_reducible assumption)); (try (conv => whnf))) | fail)
    refine ⟨Unit, fun _ => [(0, .pv (rowPV r)), (2, .ref 0 0), (3, .ref 1 0), (4, .pv (i64 i)), (5, .pv (u64 r[i])), (9, .pv (rowPV r)), (10, .pv (i64 (r.map u64).length)), (11, .pv (i64 i))], fun _ => 2, fun _ => [(0, .var [.pv (.bool false), .pv (.bool false), .pv (.bool false), .pv (.bool false)]), (1, .var [.pv (.bool (serP r (i + 1))), .pv (.bool (refP r i)), .pv (.bool (traP r i)), .pv (.bool (eucP r i))])], ?_, ?_⟩
    · (try (conv => whnf)); repeat' (first | (apply And.intro <;> (try (conv => whnf))) | (intro h; first | (with_reducible exact tf0 h) | (with_reducible exact ft0 h) | (with_reducible exact nt0 h) | (with_reducible exact nf0 h) | (exact litz h rfl) | (with_reducible exact tf h (by with_reducible assumption)) | (with_reducible exact tf (by with_reducible assumption) h) | (try (conv => whnf))) | (with_reducible rfl) | (apply True.intro) | (apply infoT; rfl) | (apply bleI; rfl) | (apply fitI; rfl) | (apply cellsI; rfl) | (apply szI; rfl) | (apply guardI; kernel_rfl) | (apply WhenQ.mk; (try (conv => whnf)); rotate_left; (try (conv => whnf)); rotate_right) | (with_reducible assumption) | (apply not_of; with_reducible assumption) | (apply left_of; with_reducible assumption) | (apply left_of; apply left_of; with_reducible assumption) | (apply and_of <;> first | (with_reducible assumption) | (apply not_of; with_reducible assumption))| (refine lin_plan (by kernel_rfl) ?_; (try (conv => whnf))) | (refine ⟨_, _, rfl, idx_map (by with_reducible assumption), rfl, ?_⟩; (try (conv => whnf))) | (refine ⟨rfl, ?_⟩; (try (conv => whnf))) | (exact Nat.le_refl 1) | ((apply ex3); (focus (with_reducible assumption)); (focus (with_reducible assumption)); (try (conv => whnf))) | ((apply ex2); (focus (with_reducible assumption)); (try (conv => whnf))) | fail)
      refine ⟨(), ?_⟩
      have e : (bif serP r i then ((r[i] : Nat) : Int) != 0 else false) = serP r (i + 1) := by
        rw [serP, serP, all_succ, getD_at hi']
        rw [show (((r[i] : Nat) : Int) != 0) = (r[i] != 0) by rw [Bool.eq_iff_iff, bne_iff_ne, bne_iff_ne]; omega]
        cases (List.range i).all fun e => r.getD e 0 != 0 <;> simp
      (refine Wk.of ?_ ?_ rfl rfl rfl <;> (repeat' (first | (exact trivial) | (exact WkD.same _) | (exact WkO.same _ _ rfl) | (exact WkD.any _) | (exact WkD.nil _ (Or.inl rfl)) | (exact WkD.nil _ (Or.inr rfl)) | (exact WkD.fz _ _ _ rfl (Or.inl ⟨_, rfl⟩) rfl) | (exact WkD.fz _ _ _ rfl (Or.inr rfl) rfl) | (refine WkD.int ?_) | (exact WkD.new' rfl rfl rfl) | (exact WkO.new _ _ rfl) | (refine WkO.vars rfl ?_) | (with_reducible rfl) | (exact rfl) | (refine ⟨?_, ?_⟩) | ((refine wrapA ?_ ?_ ?_); (focus (simp; done)); (focus ((try dsimp only); omega)); (focus ((try dsimp only); omega))) | fail)))
      exact WkD.eq (congrArg (fun z => DV.pv (PV.bool z)) e)
    rintro ⟨⟩
    refine ⟨Unit, fun _ => [(0, .pv (rowPV r)), (2, .ref 0 0), (3, .ref 1 0), (4, .pv (i64 i)), (5, .pv (u64 r[i])), (9, .pv (rowPV r)), (10, .pv (i64 (r.map u64).length)), (11, .pv (i64 i))], fun _ => 2, fun _ => [(0, .var [.pv (.bool false), .pv (.bool false), .pv (.bool false), .pv (.bool false)]), (1, .var [.pv (.bool (serP r (i + 1))), .pv (.bool (refP r (i + 1))), .pv (.bool (traP r i)), .pv (.bool (eucP r i))])], ?_, ?_⟩
    · (try (conv => whnf)); repeat' (first | (apply And.intro <;> (try (conv => whnf))) | (intro h; first | (with_reducible exact tf0 h) | (with_reducible exact ft0 h) | (with_reducible exact nt0 h) | (with_reducible exact nf0 h) | (exact litz h rfl) | (with_reducible exact tf h (by with_reducible assumption)) | (with_reducible exact tf (by with_reducible assumption) h) | (try (conv => whnf))) | (with_reducible rfl) | (apply True.intro) | (apply infoT; rfl) | (apply bleI; rfl) | (apply fitI; rfl) | (apply cellsI; rfl) | (apply szI; rfl) | (apply guardI; kernel_rfl) | (apply WhenQ.mk; (try (conv => whnf)); rotate_left; (try (conv => whnf)); rotate_right) | (with_reducible assumption) | (apply not_of; with_reducible assumption) | (apply left_of; with_reducible assumption) | (apply left_of; apply left_of; with_reducible assumption) | (apply and_of <;> first | (with_reducible assumption) | (apply not_of; with_reducible assumption))| (refine lin_plan (by kernel_rfl) ?_; (try (conv => whnf))) | (refine ⟨_, _, rfl, idx_map (by with_reducible assumption), rfl, ?_⟩; (try (conv => whnf))) | (refine ⟨rfl, ?_⟩; (try (conv => whnf))) | (exact Nat.le_refl 1) | ((apply ex3); (focus (with_reducible assumption)); (focus (with_reducible assumption)); (try (conv => whnf))) | ((apply ex2); (focus (with_reducible assumption)); (try (conv => whnf))) | (refine PureFn.dcq (f := 82) rfl ?_; (try (conv => whnf))) | ((refine ⟨_, _, hH, ?_, ?_⟩); (focus (first | (refine ⟨?_, ?_, trivial⟩ <;> first | (exact PLe.refl _) | (exact PLe.nil)) | (exact trivial))); (try (conv => whnf))) | (refine ⟨_, (by (conv => whnf); exact hH), rfl, ?_⟩; (try (conv => whnf))) | fail)
      refine ⟨(), ?_⟩
      have e : (bif refP r i then (r[i]).testBit i else false) = refP r (i + 1) := by
        rw [refP, refP, all_succ, getD_at hi']
        cases (List.range i).all fun e => (r.getD e 0).testBit e <;> simp
      (refine Wk.of ?_ ?_ rfl rfl rfl <;> (repeat' (first | (exact trivial) | (exact WkD.same _) | (exact WkO.same _ _ rfl) | (exact WkD.any _) | (exact WkD.nil _ (Or.inl rfl)) | (exact WkD.nil _ (Or.inr rfl)) | (exact WkD.fz _ _ _ rfl (Or.inl ⟨_, rfl⟩) rfl) | (exact WkD.fz _ _ _ rfl (Or.inr rfl) rfl) | (refine WkD.int ?_) | (exact WkD.new' rfl rfl rfl) | (exact WkO.new _ _ rfl) | (refine WkO.vars rfl ?_) | (with_reducible rfl) | (exact rfl) | (refine ⟨?_, ?_⟩) | ((refine wrapA ?_ ?_ ?_); (focus (simp; done)); (focus ((try dsimp only); omega)); (focus ((try dsimp only); omega))) | fail)))
      exact WkD.eq (congrArg (fun z => DV.pv (PV.bool z)) e)
    rintro ⟨⟩
    (try (conv => whnf)); repeat' (first | (apply And.intro <;> (try (conv => whnf))) | (intro h; first | (with_reducible exact tf0 h) | (with_reducible exact ft0 h) | (with_reducible exact nt0 h) | (with_reducible exact nf0 h) | (exact litz h rfl) | (with_reducible exact tf h (by with_reducible assumption)) | (with_reducible exact tf (by with_reducible assumption) h) | (try (conv => whnf))) | (with_reducible rfl) | (apply True.intro) | (apply infoT; rfl) | (apply bleI; rfl) | (apply fitI; rfl) | (apply cellsI; rfl) | (apply szI; rfl) | (apply guardI; kernel_rfl) | (apply WhenQ.mk; (try (conv => whnf)); rotate_left; (try (conv => whnf)); rotate_right) | (with_reducible assumption) | (apply not_of; with_reducible assumption) | (apply left_of; with_reducible assumption) | (apply left_of; apply left_of; with_reducible assumption) | (apply and_of <;> first | (with_reducible assumption) | (apply not_of; with_reducible assumption))| (refine lin_plan (by kernel_rfl) ?_; (try (conv => whnf))) | (refine ⟨_, _, rfl, idx_map (by with_reducible assumption), rfl, ?_⟩; (try (conv => whnf))) | (refine ⟨rfl, ?_⟩; (try (conv => whnf))) | (exact Nat.le_refl 1) | ((apply ex3); (focus (with_reducible assumption)); (focus (with_reducible assumption)); (try (conv => whnf))) | ((apply ex2); (focus (with_reducible assumption)); (try (conv => whnf))) | fail)
    refine ⟨{ j : Nat // j ≤ r.length }, fun j => [(0, .pv (rowPV r)), (2, .ref 0 0), (3, .ref 1 0), (4, .pv (i64 i)), (5, .pv (u64 r[i])), (9, .pv (rowPV r)), (10, .pv (i64 (r.map u64).length)), (11, .pv (i64 i)), (31, .pv (rowPV r)), (32, .pv (i64 (r.map u64).length)), (33, .pv (i64 j.1))], fun _ => 2, fun j => [(0, .var [.pv (.bool false), .pv (.bool false), .pv (.bool false), .pv (.bool false)]), (1, .var [.pv (.bool (serP r (i + 1))), .pv (.bool (refP r (i + 1))), .pv (.bool (traP r i && traQ r i j.1)), .pv (.bool (eucP r i && eucQ r i j.1))])], fun j => r.length - j.1, ⟨⟨0, Nat.zero_le _⟩, ?_⟩, ?_⟩
    · have ez1 : traP r i = (traP r i && traQ r i 0) := by simp [traQ]
      have ez2 : eucP r i = (eucP r i && eucQ r i 0) := by simp [eucQ]
      (refine Wk.of ?_ ?_ rfl rfl rfl <;> (repeat' (first | (exact trivial) | (exact WkD.same _) | (exact WkO.same _ _ rfl) | (exact WkD.any _) | (exact WkD.nil _ (Or.inl rfl)) | (exact WkD.nil _ (Or.inr rfl)) | (exact WkD.fz _ _ _ rfl (Or.inl ⟨_, rfl⟩) rfl) | (exact WkD.fz _ _ _ rfl (Or.inr rfl) rfl) | (refine WkD.int ?_) | (exact WkD.new' rfl rfl rfl) | (exact WkO.new _ _ rfl) | (refine WkO.vars rfl ?_) | (with_reducible rfl) | (exact rfl) | (refine ⟨?_, ?_⟩) | ((refine wrapA ?_ ?_ ?_); (focus (simp; done)); (focus ((try dsimp only); omega)); (focus ((try dsimp only); omega))) | fail)))
      · exact WkD.eq (congrArg (fun z => DV.pv (PV.bool z)) ez1)
      · exact WkD.eq (congrArg (fun z => DV.pv (PV.bool z)) ez2)
    rintro ⟨j, hj⟩
    (try (conv => whnf)); repeat' (first | (apply And.intro <;> (try (conv => whnf))) | (intro h; first | (with_reducible exact tf0 h) | (with_reducible exact ft0 h) | (with_reducible exact nt0 h) | (with_reducible exact nf0 h) | (exact litz h rfl) | (with_reducible exact tf h (by with_reducible assumption)) | (with_reducible exact tf (by with_reducible assumption) h) | (try (conv => whnf))) | (with_reducible rfl) | (apply True.intro) | (apply infoT; rfl) | (apply bleI; rfl) | (apply fitI; rfl) | (apply cellsI; rfl) | (apply szI; rfl) | (apply guardI; kernel_rfl) | (apply WhenQ.mk; (try (conv => whnf)); rotate_left; (try (conv => whnf)); rotate_right) | (with_reducible assumption) | (apply not_of; with_reducible assumption) | (apply left_of; with_reducible assumption) | (apply left_of; apply left_of; with_reducible assumption) | (apply and_of <;> first | (with_reducible assumption) | (apply not_of; with_reducible assumption))| (refine lin_plan (by kernel_rfl) ?_; (try (conv => whnf))) | (refine ⟨_, _, rfl, idx_map (by with_reducible assumption), rfl, ?_⟩; (try (conv => whnf))) | (refine ⟨rfl, ?_⟩; (try (conv => whnf))) | (exact Nat.le_refl 1) | ((apply ex3); (focus (with_reducible assumption)); (focus (with_reducible assumption)); (try (conv => whnf))) | ((apply ex2); (focus (with_reducible assumption)); (try (conv => whnf))) | fail)
    · have hj' : j < r.length := by simpa using lt_dec h
      have hm : r[j]? = some r[j] := List.getElem?_eq_getElem hj'
      have hfj := hf _ (List.getElem_mem hj')
      have hG := ac_has r[i] j hfi (by omega)
      refine ⟨_, _, rfl, idx_map hm, rfl, ?_⟩
      (try (conv => whnf)); repeat' (first | (apply And.intro <;> (try (conv => whnf))) | (intro h; first | (with_reducible exact tf0 h) | (with_reducible exact ft0 h) | (with_reducible exact nt0 h) | (with_reducible exact nf0 h) | (exact litz h rfl) | (with_reducible exact tf h (by with_reducible assumption)) | (with_reducible exact tf (by with_reducible assumption) h) | (try (conv => whnf))) | (with_reducible rfl) | (apply True.intro) | (apply infoT; rfl) | (apply bleI; rfl) | (apply fitI; rfl) | (apply cellsI; rfl) | (apply szI; rfl) | (apply guardI; kernel_rfl) | (apply WhenQ.mk; (try (conv => whnf)); rotate_left; (try (conv => whnf)); rotate_right) | (with_reducible assumption) | (apply not_of; with_reducible assumption) | (apply left_of; with_reducible assumption) | (apply left_of; apply left_of; with_reducible assumption) | (apply and_of <;> first | (with_reducible assumption) | (apply not_of; with_reducible assumption))| (refine lin_plan (by kernel_rfl) ?_; (try (conv => whnf))) | (refine ⟨_, _, rfl, idx_map (by with_reducible assumption), rfl, ?_⟩; (try (conv => whnf))) | (refine ⟨rfl, ?_⟩; (try (conv => whnf))) | (exact Nat.le_refl 1) | ((apply ex3); (focus (with_reducible assumption)); (focus (with_reducible assumption)); (try (conv => whnf))) | ((apply ex2); (focus (with_reducible assumption)); (try (conv => whnf))) | (refine PureFn.dcq (f := 82) rfl ?_; (try (conv => whnf))) | ((refine ⟨_, _, hG, ?_, ?_⟩); (focus (first | (refine ⟨?_, ?_, trivial⟩ <;> first | (exact PLe.refl _) | (exact PLe.nil)) | (exact trivial))); (try (conv => whnf))) | (refine ⟨_, (by (conv => whnf); exact hG), rfl, ?_⟩; (try (conv => whnf))) | fail)
      · have e1 : (bif (traP r i && traQ r i j) then andNotU (r[j] : Nat) (r[i] : Nat) == 0 else false) = (traP r i && traQ r i (j + 1)) := by
          rw [andNotU_subM hfj, traQ, traQ, all_succ, getD_at hi', getD_at hj', h]
          cases traP r i <;> simp
        have e2 : (bif (eucP r i && eucQ r i j) then andNotU (r[i] : Nat) (r[j] : Nat) == 0 else false) = (eucP r i && eucQ r i (j + 1)) := by
          rw [andNotU_subM hfi, eucQ, eucQ, all_succ, getD_at hi', getD_at hj', h]
          cases eucP r i <;> simp
        refine ⟨⟨j + 1, hj'⟩, by show r.length - (j + 1) < r.length - j; omega, ?_⟩
        (refine Wk.of ?_ ?_ rfl rfl rfl <;> (repeat' (first | (exact trivial) | (exact WkD.same _) | (exact WkO.same _ _ rfl) | (exact WkD.any _) | (exact WkD.nil _ (Or.inl rfl)) | (exact WkD.nil _ (Or.inr rfl)) | (exact WkD.fz _ _ _ rfl (Or.inl ⟨_, rfl⟩) rfl) | (exact WkD.fz _ _ _ rfl (Or.inr rfl) rfl) | (refine WkD.int ?_) | (exact WkD.new' rfl rfl rfl) | (exact WkO.new _ _ rfl) | (refine WkO.vars rfl ?_) | (with_reducible rfl) | (exact rfl) | (refine ⟨?_, ?_⟩) | ((refine wrapA ?_ ?_ ?_); (focus (simp; done)); (focus ((try dsimp only); omega)); (focus ((try dsimp only); omega))) | fail)))
        · exact WkD.eq (congrArg (fun z => DV.pv (PV.bool z)) e1)
        · exact WkD.eq (congrArg (fun z => DV.pv (PV.bool z)) e2)
      · have e1 : (traP r i && traQ r i j) = (traP r i && traQ r i (j + 1)) := by
          rw [traQ, traQ, all_succ, getD_at hi', getD_at hj', h]
          simp
        have e2 : (eucP r i && eucQ r i j) = (eucP r i && eucQ r i (j + 1)) := by
          rw [eucQ, eucQ, all_succ, getD_at hi', getD_at hj', h]
          simp
        refine ⟨⟨j + 1, hj'⟩, by show r.length - (j + 1) < r.length - j; omega, ?_⟩
        (refine Wk.of ?_ ?_ rfl rfl rfl <;> (repeat' (first | (exact trivial) | (exact WkD.same _) | (exact WkO.same _ _ rfl) | (exact WkD.any _) | (exact WkD.nil _ (Or.inl rfl)) | (exact WkD.nil _ (Or.inr rfl)) | (exact WkD.fz _ _ _ rfl (Or.inl ⟨_, rfl⟩) rfl) | (exact WkD.fz _ _ _ rfl (Or.inr rfl) rfl) | (refine WkD.int ?_) | (exact WkD.new' rfl rfl rfl) | (exact WkO.new _ _ rfl) | (refine WkO.vars rfl ?_) | (with_reducible rfl) | (exact rfl) | (refine ⟨?_, ?_⟩) | ((refine wrapA ?_ ?_ ?_); (focus (simp; done)); (focus ((try dsimp only); omega)); (focus ((try dsimp only); omega))) | fail)))
        · exact WkD.eq (congrArg (fun z => DV.pv (PV.bool z)) e1)
        · exact WkD.eq (congrArg (fun z => DV.pv (PV.bool z)) e2)
    · have hj' : j = r.length := by have := ge_dec (m := (r.map u64).length) h (by simpa using hj); simpa using this
      have e1 : (traP r i && traQ r i j) = traP r (i + 1) := by rw [traP, traP, all_succ, hj']
      have e2 : (eucP r i && eucQ r i j) = eucP r (i + 1) := by rw [eucP, eucP, all_succ, hj']
      refine ⟨⟨i + 1, hi'⟩, by show r.length - (i + 1) < r.length - i; omega, ?_⟩
      (refine Wk.of ?_ ?_ rfl rfl rfl <;> (repeat' (first | (exact trivial) | (exact WkD.same _) | (exact WkO.same _ _ rfl) | (exact WkD.any _) | (exact WkD.nil _ (Or.inl rfl)) | (exact WkD.nil _ (Or.inr rfl)) | (exact WkD.fz _ _ _ rfl (Or.inl ⟨_, rfl⟩) rfl) | (exact WkD.fz _ _ _ rfl (Or.inr rfl) rfl) | (refine WkD.int ?_) | (exact WkD.new' rfl rfl rfl) | (exact WkO.new _ _ rfl) | (refine WkO.vars rfl ?_) | (with_reducible rfl) | (exact rfl) | (refine ⟨?_, ?_⟩) | ((refine wrapA ?_ ?_ ?_); (focus (simp; done)); (focus ((try dsimp only); omega)); (focus ((try dsimp only); omega))) | fail)))
      · exact WkD.eq (congrArg (fun z => DV.pv (PV.bool z)) e1)
      · exact WkD.eq (congrArg (fun z => DV.pv (PV.bool z)) e2)
  · have hi' : i = r.length := by have := ge_dec (m := (r.map u64).length) h (by simpa using hi); simpa using this
    subst hi'
    exact .refl _
/-! the logics -/
def meetsB (s f t e : Bool) (lg : Int) : Bool :=
  bif lg == 0 then true else bif lg == 1 then s else bif lg == 2 then f else bif lg == 3 then t else bif lg == 4 then (bif f then t else false) else bif lg == 5 then (bif (bif s then t else false) then e else false) else bif lg == 6 then (bif (bif f then t else false) then e else false) else false
def meetsR (lg : Int) (r : List Nat) : Bool := meetsB (serP r r.length) (refP r r.length) (traP r r.length) (eucP r r.length) lg
def inI (a : Act) (lg : Int) : Bool := bif aloneI a != 0 then false else bif (bif decide (lg < 0) then true else decide (lg > 6)) then false else !(a.rel.any fun r => !meetsR lg r)
def HI (a : Act) (lg : Int) : List (Nat × DObj) := [(0, .var (cellsA a)), (1, .var [.pv (.int .i64 lg)]), (2, .var [.clo 72 [] [.ref 1 0]])]
theorem meets1 {M : Nat → Prop} {w0 : World} (a : Act) (lg : Int) (s f t e : Bool) (base : Nat) (K : DV → DH → Prop) (hK : K (.pv (.bool (meetsB s f t e lg))) ⟨3, 0, base, objsOf (HI a lg)⟩) :
    DC Try.prog M w0 72 [.agg [.pv (.bool s), .pv (.bool f), .pv (.bool t), .pv (.bool e)], .ref 1 0] ⟨3, 0, base, objsOf (HI a lg)⟩ K := by
  refine DC.weaken (DC.intro mixed (fn := Try.f72) rfl rfl rfl ?_)
  (try (conv => whnf)); repeat' (first | (apply And.intro <;> (try (conv => whnf))) | (intro h; first | (with_reducible exact tf0 h) | (with_reducible exact ft0 h) | (with_reducible exact nt0 h) | (with_reducible exact nf0 h) | (exact litz h rfl) | (with_reducible exact tf h (by with_reducible assumption)) | (with_reducible exact tf (by with_reducible assumption) h) | (try (conv => whnf))) | (with_reducible rfl) | (apply True.intro) | (apply infoT; rfl) | (apply bleI; rfl) | (apply fitI; rfl) | (apply cellsI; rfl) | (apply szI; rfl) | (apply guardI; kernel_rfl) | (apply WhenQ.mk; (try (conv => whnf)); rotate_left; (try (conv => whnf)); rotate_right) | (with_reducible assumption) | (apply not_of; with_reducible assumption) | (apply left_of; with_reducible assumption) | (apply left_of; apply left_of; with_reducible assumption) | (apply and_of <;> first | (with_reducible assumption) | (apply not_of; with_reducible assumption))| (refine lin_plan (by kernel_rfl) ?_; (try (conv => whnf))) | (refine ⟨_, _, rfl, idx_map (by with_reducible assumption), rfl, ?_⟩; (try (conv => whnf))) | (refine ⟨rfl, ?_⟩; (try (conv => whnf))) | (exact Nat.le_refl 1) | ((apply ex3); (focus (with_reducible assumption)); (focus (with_reducible assumption)); (try (conv => whnf))) | ((apply ex2); (focus (with_reducible assumption)); (try (conv => whnf))) | fail)
  · have ev : meetsB s f t e lg = true := by simp only [meetsB, *, cond_true, cond_false]
    rw [ev] at hK
    exact ⟨.pv (.bool true), 3, HI a lg, (by refine Wk.of ?_ ?_ rfl rfl rfl <;> (repeat' (first | (exact trivial) | (exact WkD.same _) | (exact WkO.same _ _ rfl) | (exact WkD.any _) | (exact WkD.nil _ (Or.inl rfl)) | (exact WkD.nil _ (Or.inr rfl)) | (exact WkD.fz _ _ _ rfl (Or.inl ⟨_, rfl⟩) rfl) | (exact WkD.fz _ _ _ rfl (Or.inr rfl) rfl) | (refine WkD.int ?_) | (exact WkD.new' rfl rfl rfl) | (exact WkO.new _ _ rfl) | (refine WkO.vars rfl ?_) | (with_reducible rfl) | (exact rfl) | (refine ⟨?_, ?_⟩) | ((refine wrapA ?_ ?_ ?_); (focus (simp; done)); (focus ((try dsimp only); omega)); (focus ((try dsimp only); omega))) | fail))), hK⟩
  · have ev : meetsB s f t e lg = s := by simp only [meetsB, *, cond_true, cond_false]
    rw [ev] at hK
    exact ⟨.pv (.bool s), 3, HI a lg, (by refine Wk.of ?_ ?_ rfl rfl rfl <;> (repeat' (first | (exact trivial) | (exact WkD.same _) | (exact WkO.same _ _ rfl) | (exact WkD.any _) | (exact WkD.nil _ (Or.inl rfl)) | (exact WkD.nil _ (Or.inr rfl)) | (exact WkD.fz _ _ _ rfl (Or.inl ⟨_, rfl⟩) rfl) | (exact WkD.fz _ _ _ rfl (Or.inr rfl) rfl) | (refine WkD.int ?_) | (exact WkD.new' rfl rfl rfl) | (exact WkO.new _ _ rfl) | (refine WkO.vars rfl ?_) | (with_reducible rfl) | (exact rfl) | (refine ⟨?_, ?_⟩) | ((refine wrapA ?_ ?_ ?_); (focus (simp; done)); (focus ((try dsimp only); omega)); (focus ((try dsimp only); omega))) | fail))), hK⟩
  · have ev : meetsB s f t e lg = f := by simp only [meetsB, *, cond_true, cond_false]
    rw [ev] at hK
    exact ⟨.pv (.bool f), 3, HI a lg, (by refine Wk.of ?_ ?_ rfl rfl rfl <;> (repeat' (first | (exact trivial) | (exact WkD.same _) | (exact WkO.same _ _ rfl) | (exact WkD.any _) | (exact WkD.nil _ (Or.inl rfl)) | (exact WkD.nil _ (Or.inr rfl)) | (exact WkD.fz _ _ _ rfl (Or.inl ⟨_, rfl⟩) rfl) | (exact WkD.fz _ _ _ rfl (Or.inr rfl) rfl) | (refine WkD.int ?_) | (exact WkD.new' rfl rfl rfl) | (exact WkO.new _ _ rfl) | (refine WkO.vars rfl ?_) | (with_reducible rfl) | (exact rfl) | (refine ⟨?_, ?_⟩) | ((refine wrapA ?_ ?_ ?_); (focus (simp; done)); (focus ((try dsimp only); omega)); (focus ((try dsimp only); omega))) | fail))), hK⟩
  · have ev : meetsB s f t e lg = t := by simp only [meetsB, *, cond_true, cond_false]
    rw [ev] at hK
    exact ⟨.pv (.bool t), 3, HI a lg, (by refine Wk.of ?_ ?_ rfl rfl rfl <;> (repeat' (first | (exact trivial) | (exact WkD.same _) | (exact WkO.same _ _ rfl) | (exact WkD.any _) | (exact WkD.nil _ (Or.inl rfl)) | (exact WkD.nil _ (Or.inr rfl)) | (exact WkD.fz _ _ _ rfl (Or.inl ⟨_, rfl⟩) rfl) | (exact WkD.fz _ _ _ rfl (Or.inr rfl) rfl) | (refine WkD.int ?_) | (exact WkD.new' rfl rfl rfl) | (exact WkO.new _ _ rfl) | (refine WkO.vars rfl ?_) | (with_reducible rfl) | (exact rfl) | (refine ⟨?_, ?_⟩) | ((refine wrapA ?_ ?_ ?_); (focus (simp; done)); (focus ((try dsimp only); omega)); (focus ((try dsimp only); omega))) | fail))), hK⟩
  · have ev : meetsB s f t e lg = (bif f then t else false) := by simp only [meetsB, *, cond_true, cond_false]
    rw [ev] at hK
    exact ⟨.pv (.bool (bif f then t else false)), 3, HI a lg, (by refine Wk.of ?_ ?_ rfl rfl rfl <;> (repeat' (first | (exact trivial) | (exact WkD.same _) | (exact WkO.same _ _ rfl) | (exact WkD.any _) | (exact WkD.nil _ (Or.inl rfl)) | (exact WkD.nil _ (Or.inr rfl)) | (exact WkD.fz _ _ _ rfl (Or.inl ⟨_, rfl⟩) rfl) | (exact WkD.fz _ _ _ rfl (Or.inr rfl) rfl) | (refine WkD.int ?_) | (exact WkD.new' rfl rfl rfl) | (exact WkO.new _ _ rfl) | (refine WkO.vars rfl ?_) | (with_reducible rfl) | (exact rfl) | (refine ⟨?_, ?_⟩) | ((refine wrapA ?_ ?_ ?_); (focus (simp; done)); (focus ((try dsimp only); omega)); (focus ((try dsimp only); omega))) | fail))), hK⟩
  · have ev : meetsB s f t e lg = (bif (bif s then t else false) then e else false) := by simp only [meetsB, *, cond_true, cond_false]
    rw [ev] at hK
    exact ⟨.pv (.bool (bif (bif s then t else false) then e else false)), 3, HI a lg, (by refine Wk.of ?_ ?_ rfl rfl rfl <;> (repeat' (first | (exact trivial) | (exact WkD.same _) | (exact WkO.same _ _ rfl) | (exact WkD.any _) | (exact WkD.nil _ (Or.inl rfl)) | (exact WkD.nil _ (Or.inr rfl)) | (exact WkD.fz _ _ _ rfl (Or.inl ⟨_, rfl⟩) rfl) | (exact WkD.fz _ _ _ rfl (Or.inr rfl) rfl) | (refine WkD.int ?_) | (exact WkD.new' rfl rfl rfl) | (exact WkO.new _ _ rfl) | (refine WkO.vars rfl ?_) | (with_reducible rfl) | (exact rfl) | (refine ⟨?_, ?_⟩) | ((refine wrapA ?_ ?_ ?_); (focus (simp; done)); (focus ((try dsimp only); omega)); (focus ((try dsimp only); omega))) | fail))), hK⟩
  · have ev : meetsB s f t e lg = (bif (bif f then t else false) then e else false) := by simp only [meetsB, *, cond_true, cond_false]
    rw [ev] at hK
    exact ⟨.pv (.bool (bif (bif f then t else false) then e else false)), 3, HI a lg, (by refine Wk.of ?_ ?_ rfl rfl rfl <;> (repeat' (first | (exact trivial) | (exact WkD.same _) | (exact WkO.same _ _ rfl) | (exact WkD.any _) | (exact WkD.nil _ (Or.inl rfl)) | (exact WkD.nil _ (Or.inr rfl)) | (exact WkD.fz _ _ _ rfl (Or.inl ⟨_, rfl⟩) rfl) | (exact WkD.fz _ _ _ rfl (Or.inr rfl) rfl) | (refine WkD.int ?_) | (exact WkD.new' rfl rfl rfl) | (exact WkO.new _ _ rfl) | (refine WkO.vars rfl ?_) | (with_reducible rfl) | (exact rfl) | (refine ⟨?_, ?_⟩) | ((refine wrapA ?_ ?_ ?_); (focus (simp; done)); (focus ((try dsimp only); omega)); (focus ((try dsimp only); omega))) | fail))), hK⟩
  · have ev : meetsB s f t e lg = false := by simp only [meetsB, *, cond_true, cond_false]
    rw [ev] at hK
    exact ⟨.pv (.bool false), 3, HI a lg, (by refine Wk.of ?_ ?_ rfl rfl rfl <;> (repeat' (first | (exact trivial) | (exact WkD.same _) | (exact WkO.same _ _ rfl) | (exact WkD.any _) | (exact WkD.nil _ (Or.inl rfl)) | (exact WkD.nil _ (Or.inr rfl)) | (exact WkD.fz _ _ _ rfl (Or.inl ⟨_, rfl⟩) rfl) | (exact WkD.fz _ _ _ rfl (Or.inr rfl) rfl) | (refine WkD.int ?_) | (exact WkD.new' rfl rfl rfl) | (exact WkO.new _ _ rfl) | (refine WkO.vars rfl ?_) | (with_reducible rfl) | (exact rfl) | (refine ⟨?_, ?_⟩) | ((refine wrapA ?_ ?_ ?_); (focus (simp; done)); (focus ((try dsimp only); omega)); (focus ((try dsimp only); omega))) | fail))), hK⟩
theorem in2 {M : Nat → Prop} {w0 : World} (a : Act) (lg : Int) (r : List Nat) (hr : r.length ≤ 60 ∧ ∀ s, s ∈ r → s < 2 ^ 64) (base : Nat) (K : DV → DH → Prop) (hK : K (.pv (.bool (!meetsR lg r))) ⟨3, 0, base, objsOf (HI a lg)⟩) :
    DC Try.prog M w0 74 [.pv (rowPV r), .ref 2 0] ⟨3, 0, base, objsOf (HI a lg)⟩ K := by
  refine DC.weaken (DC.intro mixed (fn := Try.f74) rfl rfl rfl ?_)
  have hO := ac_of r hr.1 hr.2
  (try (conv => whnf)); repeat' (first | (apply And.intro <;> (try (conv => whnf))) | (intro h; first | (with_reducible exact tf0 h) | (with_reducible exact ft0 h) | (with_reducible exact nt0 h) | (with_reducible exact nf0 h) | (exact litz h rfl) | (with_reducible exact tf h (by with_reducible assumption)) | (with_reducible exact tf (by with_reducible assumption) h) | (try (conv => whnf))) | (with_reducible rfl) | (apply True.intro) | (apply infoT; rfl) | (apply bleI; rfl) | (apply fitI; rfl) | (apply cellsI; rfl) | (apply szI; rfl) | (apply guardI; kernel_rfl) | (apply WhenQ.mk; (try (conv => whnf)); rotate_left; (try (conv => whnf)); rotate_right) | (with_reducible assumption) | (apply not_of; with_reducible assumption) | (apply left_of; with_reducible assumption) | (apply left_of; apply left_of; with_reducible assumption) | (apply and_of <;> first | (with_reducible assumption) | (apply not_of; with_reducible assumption))| (refine ⟨_, _, rfl, idx_map (by with_reducible assumption), rfl, ?_⟩; (try (conv => whnf))) | (refine ⟨rfl, ?_⟩; (try (conv => whnf))) | (exact Nat.le_refl 1) | ((apply ex3); (focus (with_reducible assumption)); (focus (with_reducible assumption)); (try (conv => whnf))) | ((apply ex2); (focus (with_reducible assumption)); (try (conv => whnf))) | fail)
  refine ⟨Plan.lin 0 6, [3], by kernel_rfl, ?_⟩
  (try (conv => whnf)); repeat' (first | (apply And.intro <;> (try (conv => whnf))) | (intro h; first | (with_reducible exact tf0 h) | (with_reducible exact ft0 h) | (with_reducible exact nt0 h) | (with_reducible exact nf0 h) | (exact litz h rfl) | (with_reducible exact tf h (by with_reducible assumption)) | (with_reducible exact tf (by with_reducible assumption) h) | (try (conv => whnf))) | (with_reducible rfl) | (apply True.intro) | (apply infoT; rfl) | (apply bleI; rfl) | (apply fitI; rfl) | (apply cellsI; rfl) | (apply szI; rfl) | (apply guardI; kernel_rfl) | (apply WhenQ.mk; (try (conv => whnf)); rotate_left; (try (conv => whnf)); rotate_right) | (with_reducible assumption) | (apply not_of; with_reducible assumption) | (apply left_of; with_reducible assumption) | (apply left_of; apply left_of; with_reducible assumption) | (apply and_of <;> first | (with_reducible assumption) | (apply not_of; with_reducible assumption))| (refine lin_plan (by kernel_rfl) ?_; (try (conv => whnf))) | (refine ⟨_, _, rfl, idx_map (by with_reducible assumption), rfl, ?_⟩; (try (conv => whnf))) | (refine ⟨rfl, ?_⟩; (try (conv => whnf))) | (exact Nat.le_refl 1) | ((apply ex3); (focus (with_reducible assumption)); (focus (with_reducible assumption)); (try (conv => whnf))) | ((apply ex2); (focus (with_reducible assumption)); (try (conv => whnf))) | (refine PureFn.dcq (f := 75) rfl ?_; (try (conv => whnf))) | ((refine ⟨_, _, hO, ?_, ?_⟩); (focus (first | (refine ⟨?_, trivial⟩ <;> first | (exact PLe.refl _) | (exact PLe.nil)) | (exact trivial))); (try (conv => whnf))) | (refine ⟨_, (by (conv => whnf); exact hO), rfl, ?_⟩; (try (conv => whnf))) | fail)
  refine meets1 a lg (serP r r.length) (refP r r.length) (traP r r.length) (eucP r r.length) 3 _ ?_
  (try (conv => whnf)); repeat' (first | (apply And.intro <;> (try (conv => whnf))) | (intro h; first | (with_reducible exact tf0 h) | (with_reducible exact ft0 h) | (with_reducible exact nt0 h) | (with_reducible exact nf0 h) | (exact litz h rfl) | (with_reducible exact tf h (by with_reducible assumption)) | (with_reducible exact tf (by with_reducible assumption) h) | (try (conv => whnf))) | (with_reducible rfl) | (apply True.intro) | (apply infoT; rfl) | (apply bleI; rfl) | (apply fitI; rfl) | (apply cellsI; rfl) | (apply szI; rfl) | (apply guardI; kernel_rfl) | (apply WhenQ.mk; (try (conv => whnf)); rotate_left; (try (conv => whnf)); rotate_right) | (with_reducible assumption) | (apply not_of; with_reducible assumption) | (apply left_of; with_reducible assumption) | (apply left_of; apply left_of; with_reducible assumption) | (apply and_of <;> first | (with_reducible assumption) | (apply not_of; with_reducible assumption))| (refine lin_plan (by kernel_rfl) ?_; (try (conv => whnf))) | (refine ⟨_, _, rfl, idx_map (by with_reducible assumption), rfl, ?_⟩; (try (conv => whnf))) | (refine ⟨rfl, ?_⟩; (try (conv => whnf))) | (exact Nat.le_refl 1) | ((apply ex3); (focus (with_reducible assumption)); (focus (with_reducible assumption)); (try (conv => whnf))) | ((apply ex2); (focus (with_reducible assumption)); (try (conv => whnf))) | fail)
  exact ⟨.pv (.bool (!meetsR lg r)), 3, HI a lg, (by refine Wk.of ?_ ?_ rfl rfl rfl <;> (repeat' (first | (exact trivial) | (exact WkD.same _) | (exact WkO.same _ _ rfl) | (exact WkD.any _) | (exact WkD.nil _ (Or.inl rfl)) | (exact WkD.nil _ (Or.inr rfl)) | (exact WkD.fz _ _ _ rfl (Or.inl ⟨_, rfl⟩) rfl) | (exact WkD.fz _ _ _ rfl (Or.inr rfl) rfl) | (refine WkD.int ?_) | (exact WkD.new' rfl rfl rfl) | (exact WkO.new _ _ rfl) | (refine WkO.vars rfl ?_) | (with_reducible rfl) | (exact rfl) | (refine ⟨?_, ?_⟩) | ((refine wrapA ?_ ?_ ?_); (focus (simp; done)); (focus ((try dsimp only); omega)); (focus ((try dsimp only); omega))) | fail))), hK⟩
theorem idx_I {M : Nat → Prop} {w0 : World} (a : Act) (lg : Int) (rows : List (List Nat)) (hl : rows.length ≤ 1000) (hr : ∀ r, r ∈ rows → (r.length ≤ 60 ∧ ∀ s, s ∈ r → s < 2 ^ 64)) (base : Nat) (K : DV → DH → Prop) (hK : ∀ r : Int, decide (r ≥ 0) = rows.any (fun r => !meetsR lg r) → K (.pv (.int .i64 r)) ⟨3, 0, base, objsOf (HI a lg)⟩) :
    DC Try.prog M w0 133 [.pv (.sl (rows.map rowPV)), .clo 74 [] [.ref 2 0]] ⟨3, 0, base, objsOf (HI a lg)⟩ K := by
  refine DC.weaken (DC.intro mixed (fn := Try.f133) rfl rfl rfl ?_)
  (try (conv => whnf)); repeat' (first | (apply And.intro <;> (try (conv => whnf))) | (intro h; first | (with_reducible exact tf0 h) | (with_reducible exact ft0 h) | (with_reducible exact nt0 h) | (with_reducible exact nf0 h) | (exact litz h rfl) | (with_reducible exact tf h (by with_reducible assumption)) | (with_reducible exact tf (by with_reducible assumption) h) | (try (conv => whnf))) | (with_reducible rfl) | (apply True.intro) | (apply infoT; rfl) | (apply bleI; rfl) | (apply fitI; rfl) | (apply cellsI; rfl) | (apply szI; rfl) | (apply guardI; kernel_rfl) | (apply WhenQ.mk; (try (conv => whnf)); rotate_left; (try (conv => whnf)); rotate_right) | (with_reducible assumption) | (apply not_of; with_reducible assumption) | (apply left_of; with_reducible assumption) | (apply left_of; apply left_of; with_reducible assumption) | (apply and_of <;> first | (with_reducible assumption) | (apply not_of; with_reducible assumption))| (refine lin_plan (by kernel_rfl) ?_; (try (conv => whnf))) | (refine ⟨_, _, rfl, idx_map (by with_reducible assumption), rfl, ?_⟩; (try (conv => whnf))) | (refine ⟨rfl, ?_⟩; (try (conv => whnf))) | (exact Nat.le_refl 1) | ((apply ex3); (focus (with_reducible assumption)); (focus (with_reducible assumption)); (try (conv => whnf))) | ((apply ex2); (focus (with_reducible assumption)); (try (conv => whnf))) | fail)
  refine ⟨{ i : Nat // i ≤ rows.length ∧ (rows.take i).any (fun r => !meetsR lg r) = false }, fun i => [(0, .pv (.sl (rows.map rowPV))), (1, .clo 74 [] [.ref 2 0]), (7, .pv (i64 (rows.map rowPV).length)), (8, .pv (i64 i.1))], fun _ => 3, fun _ => HI a lg, fun i => rows.length - i.1, ⟨⟨0, Nat.zero_le _, rfl⟩, (by refine Wk.of ?_ ?_ rfl rfl rfl <;> (repeat' (first | (exact trivial) | (exact WkD.same _) | (exact WkO.same _ _ rfl) | (exact WkD.any _) | (exact WkD.nil _ (Or.inl rfl)) | (exact WkD.nil _ (Or.inr rfl)) | (exact WkD.fz _ _ _ rfl (Or.inl ⟨_, rfl⟩) rfl) | (exact WkD.fz _ _ _ rfl (Or.inr rfl) rfl) | (refine WkD.int ?_) | (exact WkD.new' rfl rfl rfl) | (exact WkO.new _ _ rfl) | (refine WkO.vars rfl ?_) | (with_reducible rfl) | (exact rfl) | (refine ⟨?_, ?_⟩) | ((refine wrapA ?_ ?_ ?_); (focus (simp; done)); (focus ((try dsimp only); omega)); (focus ((try dsimp only); omega))) | fail)))⟩, ?_⟩
  rintro ⟨i, hi, ha⟩
  (try (conv => whnf)); repeat' (first | (apply And.intro <;> (try (conv => whnf))) | (intro h; first | (with_reducible exact tf0 h) | (with_reducible exact ft0 h) | (with_reducible exact nt0 h) | (with_reducible exact nf0 h) | (exact litz h rfl) | (with_reducible exact tf h (by with_reducible assumption)) | (with_reducible exact tf (by with_reducible assumption) h) | (try (conv => whnf))) | (with_reducible rfl) | (apply True.intro) | (apply infoT; rfl) | (apply bleI; rfl) | (apply fitI; rfl) | (apply cellsI; rfl) | (apply szI; rfl) | (apply guardI; kernel_rfl) | (apply WhenQ.mk; (try (conv => whnf)); rotate_left; (try (conv => whnf)); rotate_right) | (with_reducible assumption) | (apply not_of; with_reducible assumption) | (apply left_of; with_reducible assumption) | (apply left_of; apply left_of; with_reducible assumption) | (apply and_of <;> first | (with_reducible assumption) | (apply not_of; with_reducible assumption))| (refine lin_plan (by kernel_rfl) ?_; (try (conv => whnf))) | (refine ⟨_, _, rfl, idx_map (by with_reducible assumption), rfl, ?_⟩; (try (conv => whnf))) | (refine ⟨rfl, ?_⟩; (try (conv => whnf))) | (exact Nat.le_refl 1) | ((apply ex3); (focus (with_reducible assumption)); (focus (with_reducible assumption)); (try (conv => whnf))) | ((apply ex2); (focus (with_reducible assumption)); (try (conv => whnf))) | fail)
  · have hi' : i < rows.length := by simpa using lt_dec h
    have hn : rows[i]? = some rows[i] := List.getElem?_eq_getElem hi'
    have _hri := hr _ (List.getElem_mem hi')
    refine ⟨_, _, rfl, idx_map hn, rfl, ?_⟩
    (try (conv => whnf)); repeat' (first | (apply And.intro <;> (try (conv => whnf))) | (intro h; first | (with_reducible exact tf0 h) | (with_reducible exact ft0 h) | (with_reducible exact nt0 h) | (with_reducible exact nf0 h) | (exact litz h rfl) | (with_reducible exact tf h (by with_reducible assumption)) | (with_reducible exact tf (by with_reducible assumption) h) | (try (conv => whnf))) | (with_reducible rfl) | (apply True.intro) | (apply infoT; rfl) | (apply bleI; rfl) | (apply fitI; rfl) | (apply cellsI; rfl) | (apply szI; rfl) | (apply guardI; kernel_rfl) | (apply WhenQ.mk; (try (conv => whnf)); rotate_left; (try (conv => whnf)); rotate_right) | (with_reducible assumption) | (apply not_of; with_reducible assumption) | (apply left_of; with_reducible assumption) | (apply left_of; apply left_of; with_reducible assumption) | (apply and_of <;> first | (with_reducible assumption) | (apply not_of; with_reducible assumption))| (refine lin_plan (by kernel_rfl) ?_; (try (conv => whnf))) | (refine ⟨_, _, rfl, idx_map (by with_reducible assumption), rfl, ?_⟩; (try (conv => whnf))) | (refine ⟨rfl, ?_⟩; (try (conv => whnf))) | (exact Nat.le_refl 1) | ((apply ex3); (focus (with_reducible assumption)); (focus (with_reducible assumption)); (try (conv => whnf))) | ((apply ex2); (focus (with_reducible assumption)); (try (conv => whnf))) | fail)
    refine in2 a lg rows[i] _hri _ _ ?_
    (try (conv => whnf)); repeat' (first | (apply And.intro <;> (try (conv => whnf))) | (intro h; first | (with_reducible exact tf0 h) | (with_reducible exact ft0 h) | (with_reducible exact nt0 h) | (with_reducible exact nf0 h) | (exact litz h rfl) | (with_reducible exact tf h (by with_reducible assumption)) | (with_reducible exact tf (by with_reducible assumption) h) | (try (conv => whnf))) | (with_reducible rfl) | (apply True.intro) | (apply infoT; rfl) | (apply bleI; rfl) | (apply fitI; rfl) | (apply cellsI; rfl) | (apply szI; rfl) | (apply guardI; kernel_rfl) | (apply WhenQ.mk; (try (conv => whnf)); rotate_left; (try (conv => whnf)); rotate_right) | (with_reducible assumption) | (apply not_of; with_reducible assumption) | (apply left_of; with_reducible assumption) | (apply left_of; apply left_of; with_reducible assumption) | (apply and_of <;> first | (with_reducible assumption) | (apply not_of; with_reducible assumption))| (refine lin_plan (by kernel_rfl) ?_; (try (conv => whnf))) | (refine ⟨_, _, rfl, idx_map (by with_reducible assumption), rfl, ?_⟩; (try (conv => whnf))) | (refine ⟨rfl, ?_⟩; (try (conv => whnf))) | (exact Nat.le_refl 1) | ((apply ex3); (focus (with_reducible assumption)); (focus (with_reducible assumption)); (try (conv => whnf))) | ((apply ex2); (focus (with_reducible assumption)); (try (conv => whnf))) | fail)
    · have e : rows.any (fun r => !meetsR lg r) = true := any_at hi' h
      exact ⟨.pv (.int .i64 (i : Int)), 3, HI a lg, (by refine Wk.of ?_ ?_ rfl rfl rfl <;> (repeat' (first | (exact trivial) | (exact WkD.same _) | (exact WkO.same _ _ rfl) | (exact WkD.any _) | (exact WkD.nil _ (Or.inl rfl)) | (exact WkD.nil _ (Or.inr rfl)) | (exact WkD.fz _ _ _ rfl (Or.inl ⟨_, rfl⟩) rfl) | (exact WkD.fz _ _ _ rfl (Or.inr rfl) rfl) | (refine WkD.int ?_) | (exact WkD.new' rfl rfl rfl) | (exact WkO.new _ _ rfl) | (refine WkO.vars rfl ?_) | (with_reducible rfl) | (exact rfl) | (refine ⟨?_, ?_⟩) | ((refine wrapA ?_ ?_ ?_); (focus (simp; done)); (focus ((try dsimp only); omega)); (focus ((try dsimp only); omega))) | fail))), hK i (by rw [e]; simp)⟩
    · exact ⟨⟨i + 1, hi', any_take hi' ha h⟩, by show rows.length - (i + 1) < rows.length - i; omega, (by refine Wk.of ?_ ?_ rfl rfl rfl <;> (repeat' (first | (exact trivial) | (exact WkD.same _) | (exact WkO.same _ _ rfl) | (exact WkD.any _) | (exact WkD.nil _ (Or.inl rfl)) | (exact WkD.nil _ (Or.inr rfl)) | (exact WkD.fz _ _ _ rfl (Or.inl ⟨_, rfl⟩) rfl) | (exact WkD.fz _ _ _ rfl (Or.inr rfl) rfl) | (refine WkD.int ?_) | (exact WkD.new' rfl rfl rfl) | (exact WkO.new _ _ rfl) | (refine WkO.vars rfl ?_) | (with_reducible rfl) | (exact rfl) | (refine ⟨?_, ?_⟩) | ((refine wrapA ?_ ?_ ?_); (focus (simp; done)); (focus ((try dsimp only); omega)); (focus ((try dsimp only); omega))) | fail)))⟩
  · have hi' : i = rows.length := by have := ge_dec (m := (rows.map rowPV).length) h (by simpa using hi); simpa using this
    subst hi'
    rw [List.take_length] at ha
    exact ⟨.pv (.int .i64 (-1)), 3, HI a lg, (by refine Wk.of ?_ ?_ rfl rfl rfl <;> (repeat' (first | (exact trivial) | (exact WkD.same _) | (exact WkO.same _ _ rfl) | (exact WkD.any _) | (exact WkD.nil _ (Or.inl rfl)) | (exact WkD.nil _ (Or.inr rfl)) | (exact WkD.fz _ _ _ rfl (Or.inl ⟨_, rfl⟩) rfl) | (exact WkD.fz _ _ _ rfl (Or.inr rfl) rfl) | (refine WkD.int ?_) | (exact WkD.new' rfl rfl rfl) | (exact WkO.new _ _ rfl) | (refine WkO.vars rfl ?_) | (with_reducible rfl) | (exact rfl) | (refine ⟨?_, ?_⟩) | ((refine wrapA ?_ ?_ ?_); (focus (simp; done)); (focus ((try dsimp only); omega)); (focus ((try dsimp only); omega))) | fail))), hK (-1) (by rw [ha]; decide)⟩
theorem cont_I {M : Nat → Prop} {w0 : World} (a : Act) (lg : Int) (rows : List (List Nat)) (hl : rows.length ≤ 1000) (hr : ∀ r, r ∈ rows → (r.length ≤ 60 ∧ ∀ s, s ∈ r → s < 2 ^ 64)) (base : Nat) (K : DV → DH → Prop) (hK : K (.pv (.bool (rows.any (fun r => !meetsR lg r)))) ⟨3, 0, base, objsOf (HI a lg)⟩) :
    DC Try.prog M w0 73 [.pv (.sl (rows.map rowPV)), .clo 74 [] [.ref 2 0]] ⟨3, 0, base, objsOf (HI a lg)⟩ K := by
  refine DC.intro mixed (fn := Try.f73) rfl rfl rfl ?_
  (try (conv => whnf)); repeat' (first | (apply And.intro <;> (try (conv => whnf))) | (intro h; first | (with_reducible exact tf0 h) | (with_reducible exact ft0 h) | (with_reducible exact nt0 h) | (with_reducible exact nf0 h) | (exact litz h rfl) | (with_reducible exact tf h (by with_reducible assumption)) | (with_reducible exact tf (by with_reducible assumption) h) | (try (conv => whnf))) | (with_reducible rfl) | (apply True.intro) | (apply infoT; rfl) | (apply bleI; rfl) | (apply fitI; rfl) | (apply cellsI; rfl) | (apply szI; rfl) | (apply guardI; kernel_rfl) | (apply WhenQ.mk; (try (conv => whnf)); rotate_left; (try (conv => whnf)); rotate_right) | (with_reducible assumption) | (apply not_of; with_reducible assumption) | (apply left_of; with_reducible assumption) | (apply left_of; apply left_of; with_reducible assumption) | (apply and_of <;> first | (with_reducible assumption) | (apply not_of; with_reducible assumption))| (refine lin_plan (by kernel_rfl) ?_; (try (conv => whnf))) | (refine ⟨_, _, rfl, idx_map (by with_reducible assumption), rfl, ?_⟩; (try (conv => whnf))) | (refine ⟨rfl, ?_⟩; (try (conv => whnf))) | (exact Nat.le_refl 1) | ((apply ex3); (focus (with_reducible assumption)); (focus (with_reducible assumption)); (try (conv => whnf))) | ((apply ex2); (focus (with_reducible assumption)); (try (conv => whnf))) | fail)
  refine idx_I a lg rows hl hr 3 _ fun r e => ?_
  rw [← e] at hK
  (try (conv => whnf)); repeat' (first | (apply And.intro <;> (try (conv => whnf))) | (intro h; first | (with_reducible exact tf0 h) | (with_reducible exact ft0 h) | (with_reducible exact nt0 h) | (with_reducible exact nf0 h) | (exact litz h rfl) | (with_reducible exact tf h (by with_reducible assumption)) | (with_reducible exact tf (by with_reducible assumption) h) | (try (conv => whnf))) | (with_reducible rfl) | (apply True.intro) | (apply infoT; rfl) | (apply bleI; rfl) | (apply fitI; rfl) | (apply cellsI; rfl) | (apply szI; rfl) | (apply guardI; kernel_rfl) | (apply WhenQ.mk; (try (conv => whnf)); rotate_left; (try (conv => whnf)); rotate_right) | (with_reducible assumption) | (apply not_of; with_reducible assumption) | (apply left_of; with_reducible assumption) | (apply left_of; apply left_of; with_reducible assumption) | (apply and_of <;> first | (with_reducible assumption) | (apply not_of; with_reducible assumption))| (refine lin_plan (by kernel_rfl) ?_; (try (conv => whnf))) | (refine ⟨_, _, rfl, idx_map (by with_reducible assumption), rfl, ?_⟩; (try (conv => whnf))) | (refine ⟨rfl, ?_⟩; (try (conv => whnf))) | (exact Nat.le_refl 1) | ((apply ex3); (focus (with_reducible assumption)); (focus (with_reducible assumption)); (try (conv => whnf))) | ((apply ex2); (focus (with_reducible assumption)); (try (conv => whnf))) | fail)
  exact hK
theorem ac_In (a : Act) (lg : Int) (hf : Fit a) (hl : a.rel.length ≤ 1000) (hp : ∀ l, l ∈ a.post → l.length ≤ 1000) : PureFn Try.prog 17 [a.pv, .int .i64 lg] (.bool (inI a lg)) := by
  refine PureFn.introC [4, 6] mixed (fn := Try.f17) rfl rfl rfl fun M w0 => ?_
  have hA := ac_alone a hf hl hp
  (try (conv => whnf)); repeat' (first | (apply And.intro <;> (try (conv => whnf))) | (intro h; first | (with_reducible exact tf0 h) | (with_reducible exact ft0 h) | (with_reducible exact nt0 h) | (with_reducible exact nf0 h) | (exact litz h rfl) | (with_reducible exact tf h (by with_reducible assumption)) | (with_reducible exact tf (by with_reducible assumption) h) | (try (conv => whnf))) | (with_reducible rfl) | (apply True.intro) | (apply infoT; rfl) | (apply bleI; rfl) | (apply fitI; rfl) | (apply cellsI; rfl) | (apply szI; rfl) | (apply guardI; kernel_rfl) | (apply WhenQ.mk; (try (conv => whnf)); rotate_left; (try (conv => whnf)); rotate_right) | (with_reducible assumption) | (apply not_of; with_reducible assumption) | (apply left_of; with_reducible assumption) | (apply left_of; apply left_of; with_reducible assumption) | (apply and_of <;> first | (with_reducible assumption) | (apply not_of; with_reducible assumption))| (refine lin_plan (by kernel_rfl) ?_; (try (conv => whnf))) | (refine ⟨_, _, rfl, idx_map (by with_reducible assumption), rfl, ?_⟩; (try (conv => whnf))) | (refine ⟨rfl, ?_⟩; (try (conv => whnf))) | (exact Nat.le_refl 1) | ((apply ex3); (focus (with_reducible assumption)); (focus (with_reducible assumption)); (try (conv => whnf))) | ((apply ex2); (focus (with_reducible assumption)); (try (conv => whnf))) | (refine PureFn.dcq (f := 71) rfl ?_; (try (conv => whnf))) | ((refine ⟨_, _, hA, ?_, ?_⟩); (focus (first | (refine ⟨?_, trivial⟩ <;> first | (exact PLe.refl _) | (exact PLe.nil)) | (exact trivial))); (try (conv => whnf))) | (refine ⟨_, (by (conv => whnf); exact hA), rfl, ?_⟩; (try (conv => whnf))) | fail)
  · rw [inI, h]; exact .refl _
  have h0 : aloneI a = 0 := by simpa using h
  have hO := actI_ok h0
  have hrows : ∀ r, r ∈ a.rel → r.length ≤ 60 ∧ ∀ s, s ∈ r → s < 2 ^ 64 := fun r hr => ⟨by rw [hO.rows r hr]; have := hO.n8; omega, hf r hr⟩
  refine ⟨Unit, fun _ => [(2, .ref 0 0), (3, .ref 1 0), (5, .ref 2 0)], fun _ => 3, fun _ => HI a lg, ?_, ?_⟩
  · (try (conv => whnf)); repeat' (first | (apply And.intro <;> (try (conv => whnf))) | (intro h; first | (with_reducible exact tf0 h) | (with_reducible exact ft0 h) | (with_reducible exact nt0 h) | (with_reducible exact nf0 h) | (exact litz h rfl) | (with_reducible exact tf h (by with_reducible assumption)) | (with_reducible exact tf (by with_reducible assumption) h) | (try (conv => whnf))) | (with_reducible rfl) | (apply True.intro) | (apply infoT; rfl) | (apply bleI; rfl) | (apply fitI; rfl) | (apply cellsI; rfl) | (apply szI; rfl) | (apply guardI; kernel_rfl) | (apply WhenQ.mk; (try (conv => whnf)); rotate_left; (try (conv => whnf)); rotate_right) | (with_reducible assumption) | (apply not_of; with_reducible assumption) | (apply left_of; with_reducible assumption) | (apply left_of; apply left_of; with_reducible assumption) | (apply and_of <;> first | (with_reducible assumption) | (apply not_of; with_reducible assumption))| (refine lin_plan (by kernel_rfl) ?_; (try (conv => whnf))) | (refine ⟨_, _, rfl, idx_map (by with_reducible assumption), rfl, ?_⟩; (try (conv => whnf))) | (refine ⟨rfl, ?_⟩; (try (conv => whnf))) | (exact Nat.le_refl 1) | ((apply ex3); (focus (with_reducible assumption)); (focus (with_reducible assumption)); (try (conv => whnf))) | ((apply ex2); (focus (with_reducible assumption)); (try (conv => whnf))) | fail)
    exact ⟨(), (by refine Wk.of ?_ ?_ rfl rfl rfl <;> (repeat' (first | (exact trivial) | (exact WkD.same _) | (exact WkO.same _ _ rfl) | (exact WkD.any _) | (exact WkD.nil _ (Or.inl rfl)) | (exact WkD.nil _ (Or.inr rfl)) | (exact WkD.fz _ _ _ rfl (Or.inl ⟨_, rfl⟩) rfl) | (exact WkD.fz _ _ _ rfl (Or.inr rfl) rfl) | (refine WkD.int ?_) | (exact WkD.new' rfl rfl rfl) | (exact WkO.new _ _ rfl) | (refine WkO.vars rfl ?_) | (with_reducible rfl) | (exact rfl) | (refine ⟨?_, ?_⟩) | ((refine wrapA ?_ ?_ ?_); (focus (simp; done)); (focus ((try dsimp only); omega)); (focus ((try dsimp only); omega))) | fail)))⟩
  rintro ⟨⟩
  refine ⟨{ _x : Unit // (bif decide (lg < 0) then true else decide (lg > 6)) = false }, fun _ => [(2, .ref 0 0), (3, .ref 1 0), (5, .ref 2 0)], fun _ => 3, fun _ => HI a lg, ?_, ?_⟩
  · (try (conv => whnf)); repeat' (first | (apply And.intro <;> (try (conv => whnf))) | (intro h; first | (with_reducible exact tf0 h) | (with_reducible exact ft0 h) | (with_reducible exact nt0 h) | (with_reducible exact nf0 h) | (exact litz h rfl) | (with_reducible exact tf h (by with_reducible assumption)) | (with_reducible exact tf (by with_reducible assumption) h) | (try (conv => whnf))) | (with_reducible rfl) | (apply True.intro) | (apply infoT; rfl) | (apply bleI; rfl) | (apply fitI; rfl) | (apply cellsI; rfl) | (apply szI; rfl) | (apply guardI; kernel_rfl) | (apply WhenQ.mk; (try (conv => whnf)); rotate_left; (try (conv => whnf)); rotate_right) | (with_reducible assumption) | (apply not_of; with_reducible assumption) | (apply left_of; with_reducible assumption) | (apply left_of; apply left_of; with_reducible assumption) | (apply and_of <;> first | (with_reducible assumption) | (apply not_of; with_reducible assumption))| (refine lin_plan (by kernel_rfl) ?_; (try (conv => whnf))) | (refine ⟨_, _, rfl, idx_map (by with_reducible assumption), rfl, ?_⟩; (try (conv => whnf))) | (refine ⟨rfl, ?_⟩; (try (conv => whnf))) | (exact Nat.le_refl 1) | ((apply ex3); (focus (with_reducible assumption)); (focus (with_reducible assumption)); (try (conv => whnf))) | ((apply ex2); (focus (with_reducible assumption)); (try (conv => whnf))) | fail)
    · rename_i h1
      rw [inI, h1, show (bif decide (lg < 0) then true else decide (lg > 6)) = true from h]; exact .refl _
    · exact ⟨⟨(), h⟩, (by refine Wk.of ?_ ?_ rfl rfl rfl <;> (repeat' (first | (exact trivial) | (exact WkD.same _) | (exact WkO.same _ _ rfl) | (exact WkD.any _) | (exact WkD.nil _ (Or.inl rfl)) | (exact WkD.nil _ (Or.inr rfl)) | (exact WkD.fz _ _ _ rfl (Or.inl ⟨_, rfl⟩) rfl) | (exact WkD.fz _ _ _ rfl (Or.inr rfl) rfl) | (refine WkD.int ?_) | (exact WkD.new' rfl rfl rfl) | (exact WkO.new _ _ rfl) | (refine WkO.vars rfl ?_) | (with_reducible rfl) | (exact rfl) | (refine ⟨?_, ?_⟩) | ((refine wrapA ?_ ?_ ?_); (focus (simp; done)); (focus ((try dsimp only); omega)); (focus ((try dsimp only); omega))) | fail)))⟩
  rintro ⟨_, h2⟩
  (try (conv => whnf)); repeat' (first | (apply And.intro <;> (try (conv => whnf))) | (intro h; first | (with_reducible exact tf0 h) | (with_reducible exact ft0 h) | (with_reducible exact nt0 h) | (with_reducible exact nf0 h) | (exact litz h rfl) | (with_reducible exact tf h (by with_reducible assumption)) | (with_reducible exact tf (by with_reducible assumption) h) | (try (conv => whnf))) | (with_reducible rfl) | (apply True.intro) | (apply infoT; rfl) | (apply bleI; rfl) | (apply fitI; rfl) | (apply cellsI; rfl) | (apply szI; rfl) | (apply guardI; kernel_rfl) | (apply WhenQ.mk; (try (conv => whnf)); rotate_left; (try (conv => whnf)); rotate_right) | (with_reducible assumption) | (apply not_of; with_reducible assumption) | (apply left_of; with_reducible assumption) | (apply left_of; apply left_of; with_reducible assumption) | (apply and_of <;> first | (with_reducible assumption) | (apply not_of; with_reducible assumption))| (refine lin_plan (by kernel_rfl) ?_; (try (conv => whnf))) | (refine ⟨_, _, rfl, idx_map (by with_reducible assumption), rfl, ?_⟩; (try (conv => whnf))) | (refine ⟨rfl, ?_⟩; (try (conv => whnf))) | (exact Nat.le_refl 1) | ((apply ex3); (focus (with_reducible assumption)); (focus (with_reducible assumption)); (try (conv => whnf))) | ((apply ex2); (focus (with_reducible assumption)); (try (conv => whnf))) | fail)
  refine cont_I a lg a.rel hl hrows 0 _ ?_
  (try (conv => whnf)); repeat' (first | (apply And.intro <;> (try (conv => whnf))) | (intro h; first | (with_reducible exact tf0 h) | (with_reducible exact ft0 h) | (with_reducible exact nt0 h) | (with_reducible exact nf0 h) | (exact litz h rfl) | (with_reducible exact tf h (by with_reducible assumption)) | (with_reducible exact tf (by with_reducible assumption) h) | (try (conv => whnf))) | (with_reducible rfl) | (apply True.intro) | (apply infoT; rfl) | (apply bleI; rfl) | (apply fitI; rfl) | (apply cellsI; rfl) | (apply szI; rfl) | (apply guardI; kernel_rfl) | (apply WhenQ.mk; (try (conv => whnf)); rotate_left; (try (conv => whnf)); rotate_right) | (with_reducible assumption) | (apply not_of; with_reducible assumption) | (apply left_of; with_reducible assumption) | (apply left_of; apply left_of; with_reducible assumption) | (apply and_of <;> first | (with_reducible assumption) | (apply not_of; with_reducible assumption))| (refine lin_plan (by kernel_rfl) ?_; (try (conv => whnf))) | (refine ⟨_, _, rfl, idx_map (by with_reducible assumption), rfl, ?_⟩; (try (conv => whnf))) | (refine ⟨rfl, ?_⟩; (try (conv => whnf))) | (exact Nat.le_refl 1) | ((apply ex3); (focus (with_reducible assumption)); (focus (with_reducible assumption)); (try (conv => whnf))) | ((apply ex2); (focus (with_reducible assumption)); (try (conv => whnf))) | fail)
  rw [inI, h, h2]; exact .refl _
end Go.Proofs.Ytibenjpkinhjhaa
set_option maxRecDepth 100000
set_option maxHeartbeats 4000000
namespace Go.Proofs.Ytibenjpkinhjhaa
open Go Go.Dv

/-! nodes of a canonical list and of a tree -/
def allT (Q : Int → Int → Int → Int → Bool) : Tr → Bool
  | .none => true
  | .nd op i e g a b => Q op i e g && allT Q a && allT Q b
theorem finT_all {Q : Int → Int → Int → Int → Bool} : ∀ (t : Tr) (out : List Nd), allT Q t = true → (∀ y, y ∈ out → Q y.op y.i y.e y.g = true) → ∀ y, y ∈ (finT t out).2 → Q y.op y.i y.e y.g = true
  | .none, out, _, ho, y, hy => ho y hy
  | .nd op i e g a b, out, ht, ho, y, hy => by
    rw [allT, Bool.and_eq_true, Bool.and_eq_true] at ht
    rw [finT] at hy
    obtain ⟨_, _, t, h1, h2⟩ := putN_spec (finT b (finT a out).2).2 ⟨op, i, e, g, ((finT a out).1 : Int), ((finT b (finT a out).2).1 : Int)⟩
    rw [h1] at hy
    rcases List.mem_append.1 hy with h | h
    · exact finT_all b _ ht.2 (finT_all a out ht.1.2 ho) y h
    · rw [h2 y h]; exact ht.1.1
theorem trn_all {Q : Int → Int → Int → Int → Bool} {f : List Nd} (hf : ∀ y, y ∈ f → Q y.op y.i y.e y.g = true) : ∀ (n i : Nat), allT Q (trn f n i) = true
  | 0, _ => rfl
  | n + 1, i => by
    rw [trn]
    cases h : f[i]? with
    | none => rfl
    | some x =>
      have h1 := hf x (List.mem_iff_getElem?.2 ⟨i, h⟩)
      simp only [allT, h1, Bool.true_and]
      cases usesX x.op <;> cases usesY x.op <;> simp [allT, trn_all hf n]
theorem buildL_comp {x : Nd} {f : List Nd} (h : check f = 0) : buildL x [f] = buildL x [comp f] := by
  simp [buildL, bfold, h, comp_check h, bstep, comp_comp h]
theorem un_can' {op : Int} {f : List Nd} (hf : Can f) (hx : usesX op = true) (hy : usesY op = false) (hok : OkNd { n0 op with x := (f.length : Int) - 1 } f.length) (hs : f.length + 1 ≤ 200) :
    Can (buildL (n0 op) [f]) ∧ root (buildL (n0 op) [f]) = .nd op 0 0 0 (root f) .none := by
  have hp := hf.pos
  have hF := okl_snoc hf.ok hok
  have hT : tree (f ++ [{ n0 op with x := (f.length : Int) - 1 }]) f.length = .nd op 0 0 0 (root f) .none := by
    rw [tree_nd hF (x := { n0 op with x := (f.length : Int) - 1 }) (by simp)]
    simp only [n0, hx, hy, cond_true, cond_false]
    rw [show ((f.length : Int) - 1).toNat = f.length - 1 by omega, tree_append hf.ok (by omega)]; rfl
  have hk : f.length < (f ++ [{ n0 op with x := (f.length : Int) - 1 }]).length := by simp
  have h1 := canon_can hF (by simpa using hs) hk
  have h2 := (canon_root hF hk).2
  have e : buildL (n0 op) [f] = canon (f ++ [{ n0 op with x := (f.length : Int) - 1 }]) f.length := by
    rw [build_un (n0 op) f hx hy rfl]
    refine un_tree (t := canon (f ++ [{ n0 op with x := (f.length : Int) - 1 }]) f.length) hf hx hy hok ?_ h1.len
    rw [canon_tree hF hk, hT]; rfl
  rw [e]
  exact ⟨h1, h2.trans hT⟩

/-! static formulas -/
def stQ (n : Nat) (op i e g : Int) : Bool := decide (fragN ⟨op, i, e, g, 0, 0⟩ < 16) && decide (agN ⟨op, i, e, g, 0, 0⟩ < 2 ^ n)
theorem orN_le {m : Nd → Nat} : ∀ {c : List Nd} {y : Nd}, y ∈ c → m y ≤ orN m c
  | x :: r, y, h => by
    rw [orN_cons]
    rcases List.mem_cons.1 h with rfl | h
    · exact Nat.left_le_or
    · exact Nat.le_trans (orN_le h) Nat.right_le_or
theorem frag_low {m : Nat} (hm : m < 2 ^ 62) : nand64' (m : Int) 15 = 0 ↔ m < 16 := by
  have h1 : nand64' (m : Int) ((15 : Nat) : Int) == 0 ↔ m < 16 := by
    rw [nand_zero hm, subM, beq_iff_eq, show 15 = 2 ^ 4 - 1 from rfl, Nat.and_two_pow_sub_one_eq_mod]
    omega
  rw [show ((15 : Nat) : Int) = 15 from rfl, beq_iff_eq] at h1
  exact h1
theorem below_lt {m k n : Nat} (hm : m < 2 ^ k) (hk : k ≤ 31) : belowB m n = true ↔ m < 2 ^ n := by
  rw [below_iff hm hk]
  constructor
  · intro h
    apply Nat.lt_pow_two_of_testBit
    intro j hj
    cases hb : m.testBit j with
    | false => rfl
    | true =>
      exfalso
      have hjk : j < k := by
        rcases Nat.lt_or_ge j k with q | q
        · exact q
        · rw [Nat.testBit_lt_two_pow (Nat.lt_of_lt_of_le hm (Nat.pow_le_pow_right (by decide) q))] at hb; cases hb
      rw [testBit_mod, decide_eq_true_eq] at hb
      have := h j hjk hb
      omega
  · intro h j hj hb
    rcases Nat.lt_or_ge j n with q | q
    · omega
    · have h2 : m.testBit j = false := Nat.testBit_lt_two_pow (Nat.lt_of_lt_of_le h (Nat.pow_le_pow_right (by decide) q))
      rw [testBit_mod, decide_eq_false_iff_not] at h2
      exact absurd hb h2
theorem stat_iff {n : Nat} {f : List Nd} : statI n 8 f = 0 ↔ check f = 0 ∧ ∀ x, x ∈ comp f → stQ n x.op x.i x.e x.g = true := by
  have hfr : frags f < 2 ^ 62 := Nat.lt_of_lt_of_le (frags_lt f) (by decide)
  have hag := agents_lt f
  have hfa := facts_lt f
  have e1 : ∀ x : Nd, fragN ⟨x.op, x.i, x.e, x.g, 0, 0⟩ = fragN x := fun x => rfl
  have e2 : ∀ x : Nd, agN ⟨x.op, x.i, x.e, x.g, 0, 0⟩ = agN x := fun x => rfl
  constructor
  · intro h
    obtain ⟨h1, h2, h3⟩ := statI_ok h
    refine ⟨h1, fun x hx => ?_⟩
    rw [frag_low hfr] at h2
    have h4 : belowB (agents f) n = true := by
      unfold fits at h3
      rw [h1] at h3
      cases hb : belowB (agents f) n with
      | true => rfl
      | false => rw [hb] at h3; cases h3
    rw [below_lt hag (by decide)] at h4
    have h5 : fragN x ≤ frags f := orN_le hx
    have h6 : agN x ≤ agents f := orN_le hx
    simp only [stQ, e1, e2, Bool.and_eq_true, decide_eq_true_eq]
    exact ⟨by omega, by omega⟩
  · rintro ⟨h1, h2⟩
    have h3 : frags f < 16 := orN_lt (k := 4) fun x hx => by
      have := h2 x hx
      simp only [stQ, e1, e2, Bool.and_eq_true, decide_eq_true_eq] at this
      exact this.1
    have h4 : agents f < 2 ^ n := orN_lt fun x hx => by
      have := h2 x hx
      simp only [stQ, e1, e2, Bool.and_eq_true, decide_eq_true_eq] at this
      exact this.2
    have h5 : fits f n 8 = true := by
      unfold fits
      rw [h1, (below_lt hag (by decide)).2 h4, show belowB (facts f) 8 = true from (below_lt (n := 8) hfa (by decide)).2 hfa]; rfl
    rw [statI, h1, (frag_low hfr).2 h3, h5]; rfl
theorem static_comp {n : Nat} {f : List Nd} (h : statI n 8 f = 0) : statI n 8 (comp f) = 0 := by
  obtain ⟨h1, h2⟩ := stat_iff.1 h
  exact stat_iff.2 ⟨comp_check h1, by rw [comp_comp h1]; exact h2⟩
theorem comp_le {f : List Nd} (h : check f = 0) : (comp f).length ≤ f.length := by
  rw [comp_eq h]
  have := check_ok h
  exact canon_len (check_wf h) (by omega)
theorem static_not {n : Nat} {f : List Nd} (h : statI n 8 f = 0) (hl : f.length ≤ 40) : statI n 8 (buildL (n0 4) [f]) = 0 ∧ (((buildL (n0 4) [f]).length : Int) == 0) = false := by
  obtain ⟨h1, h2⟩ := stat_iff.1 h
  have hc := comp_can h1
  have hp := hc.pos
  have hle := comp_le h1
  rw [buildL_comp h1]
  have hok : OkNd { n0 4 with x := ((comp f).length : Int) - 1 } (comp f).length := by
    constructor <;> simp [n0, usesX, usesY, isAgent, isGroup] <;> omega
  obtain ⟨g1, g2⟩ := un_can' hc (op := 4) rfl rfl hok (by omega)
  have hr : allT (stQ n) (root (comp f)) = true := trn_all h2 _ _
  refine ⟨stat_iff.2 ⟨g1.check, ?_⟩, ?_⟩
  · rw [can_comp g1, ← g1.fix, g2]
    have h0 : stQ n 4 0 0 0 = true := by
      have := Nat.two_pow_pos n
      simp [stQ, fragN, frag, agN, isAgent]; exact this
    exact finT_all _ [] (by simp only [allT, hr, h0]; rfl) (fun y hy => by cases hy)
  · have := g1.pos
    simp; intro e; rw [e] at this; simp at this
theorem static_gd {n k : Nat} {f : List Nd} (h : Gd 8 f k) : statI n 8 f = 0 := by
  refine stat_iff.2 ⟨h.can.check, fun x hx => ?_⟩
  rw [can_comp h.can, ← h.can.fix] at hx
  have h1 := finT_prop (root f) [] h.ok (fun y hy => by cases hy) x hx
  simp only [opN, Bool.and_eq_true, decide_eq_true_eq, Bool.or_eq_true, bne_iff_ne, beq_iff_eq] at h1
  obtain ⟨⟨⟨o1, o2⟩, _⟩, hg⟩ := h1
  have hz := Nat.two_pow_pos n
  have : x.op = 1 ∨ x.op = 2 ∨ x.op = 3 ∨ x.op = 4 ∨ x.op = 5 ∨ x.op = 6 ∨ x.op = 7 ∨ x.op = 8 := by omega
  rcases this with h | h | h | h | h | h | h | h <;> rw [h, hg] <;> simp [stQ, fragN, frag, agN, isAgent] <;> exact hz
theorem static_true (n : Nat) : statI n 8 (buildL (n0 1) []) = 0 := static_gd (true_gd 8).1
theorem static_false (n : Nat) : statI n 8 (buildL (n0 2) []) = 0 := static_gd (false_gd 8).1
theorem static_lit (n s m : Nat) : statI n 8 (litL s m) = 0 := by
  have h1 := litsX_len s m 8
  exact static_gd (joinL_gd (k := 2) (.inl rfl) _ (true_gd 8).1 _ (litsX_mem (Nat.le_refl 8)) (by omega) 100 (by omega) (by omega)).1
end Go.Proofs.Ytibenjpkinhjhaa
set_option maxRecDepth 100000
set_option maxHeartbeats 4000000
namespace Go.Proofs.Ytibenjpkinhjhaa
open Go Go.Dv

theorem rcell_lt {k e : Nat} {c : Int} (hk : 1 ≤ k) (he : e < k) : rcell k e c < 2 ^ k := by
  unfold rcell
  cases c == 0 with
  | true => exact Nat.pow_lt_pow_right (by decide) he
  | false =>
    cases c == 1 with
    | true => have := Nat.two_pow_pos k; simp only [cond_false, cond_true]; omega
    | false => exact Nat.pow_lt_pow_right (by decide) (by omega)
theorem rel_mem {n k : Nat} {pc : Nat → Int} {r : List Nat} (h : r ∈ relOf n k pc) : ∃ a, a < n ∧ r = (List.range k).map fun e => rcell k e (pc a) := by
  obtain ⟨a, ha, rfl⟩ := List.mem_map.1 h
  exact ⟨a, List.mem_range.1 ha, rfl⟩
theorem evs_zero {ag n : Int} : ∀ {pre : List (List Nd)} {post : List (List Asg)}, (∀ f, f ∈ pre → statI ag n f = 0) → (∀ l, l ∈ post → chgs ag n l (-1) = 0) → evs' ag n pre post = 0
  | [], _, _, _ => rfl
  | f :: r, post, h1, h2 => by
    have e1 := h1 f (by simp)
    have e2 : chgs ag n (post.headD []) (-1) = 0 := by
      cases post with
      | nil => rfl
      | cons l s => exact h2 l (by simp)
    rw [evs', e1, e2]
    exact evs_zero (fun g hg => h1 g (by simp [hg])) fun l hl => h2 l (List.mem_of_mem_tail hl)
theorem valid_act {n k : Nat} {pre : List (List Nd)} {post : List (List Asg)} {pc : Nat → Int} (hn : n ≤ 4) (h1 : 1 ≤ k) (h8 : k ≤ 8) (hpre : pre.length = k) (hpost : post.length = k)
    (hs : ∀ f, f ∈ pre → statI n 8 f = 0) (hc : ∀ l, l ∈ post → chgs n 8 l (-1) = 0) : actI ⟨pre, post, relOf n k pc⟩ n 8 = 0 := by
  have hrl : (relOf n k pc).length = n := by simp [relOf]
  have hrb : rowsBad (relOf n k pc) k = false := by
    rw [rowsBad, List.any_eq_false]
    intro r hr
    obtain ⟨a, _, rfl⟩ := rel_mem hr
    simp
  have hbb : bitsBad (relOf n k pc) k = false := by
    rw [bitsBad, List.any_eq_false]
    intro r hr
    obtain ⟨a, _, rfl⟩ := rel_mem hr
    intro hh
    obtain ⟨s, hs, hd⟩ := List.any_eq_true.1 hh
    obtain ⟨e, he, rfl⟩ := List.mem_map.1 hs
    have := len64_lt.2 (rcell_lt (c := pc a) h1 (List.mem_range.1 he))
    have := of_decide_eq_true hd
    omega
  have hsh : shapeI ⟨pre, post, relOf n k pc⟩ n = 0 := by
    unfold shapeI
    simp only [hpre, hpost, hrl, hrb, hbb]
    rw [decide_eq_false (by omega), decide_eq_false (by omega)]
    simp
  rw [actI, decide_eq_false (by omega), decide_eq_false (by omega), hsh]
  exact evs_zero hs hc
/-! the logics -/
theorem row_kd45 : ∀ k, k < 9 → 1 ≤ k → (meetsR 5 ((List.range k).map fun e => rcell k e 0) && meetsR 5 ((List.range k).map fun e => rcell k e 1) && meetsR 5 ((List.range k).map fun e => rcell k e 2)) = true := by decide +kernel
theorem row_s5 : ∀ k, k < 9 → 1 ≤ k → (meetsR 6 ((List.range k).map fun e => rcell k e 0) && meetsR 6 ((List.range k).map fun e => rcell k e 1)) = true := by decide +kernel
theorem pcB_val (g : Int) (o : Int) (a : Nat) : pcB g o a = 0 ∨ pcB g o a = o := by unfold pcB; cases and64 (shr64 g a) 1 == 1 <;> simp
theorem pcA_val (to who : Int) (a : Nat) : pcA to who a = 0 ∨ pcA to who a = 1 ∨ pcA to who a = 2 := by
  unfold pcA
  cases (bif and64 (shr64 to a) 1 == 0 then and64 (shr64 who a) 1 == 1 else false) with
  | true => simp
  | false => rcases pcB_val to 2 a with h | h <;> simp [h]
theorem in_act {n k : Nat} {pre : List (List Nd)} {post : List (List Asg)} {pc : Nat → Int} {lg : Int} (hv : actI ⟨pre, post, relOf n k pc⟩ n 8 = 0) (hlg : (bif decide (lg < 0) then true else decide (lg > 6)) = false)
    (h : ∀ a, a < n → meetsR lg ((List.range k).map fun e => rcell k e (pc a)) = true) : inI ⟨pre, post, relOf n k pc⟩ lg = true := by
  have hrl : (relOf n k pc).length = n := by simp [relOf]
  have ha : aloneI ⟨pre, post, relOf n k pc⟩ = 0 := by rw [aloneI]; simp only [hrl]; exact hv
  rw [inI, ha, hlg]
  have : ((relOf n k pc).any fun r => !meetsR lg r) = false := by
    rw [List.any_eq_false]
    intro r hr
    obtain ⟨a, ha, rfl⟩ := rel_mem hr
    simp [h a ha]
  simp [this]
theorem kd45_of {n k : Nat} {pre : List (List Nd)} {post : List (List Asg)} {pc : Nat → Int} (h1 : 1 ≤ k) (h8 : k ≤ 8) (hv : actI ⟨pre, post, relOf n k pc⟩ n 8 = 0) (hp : ∀ a, pc a = 0 ∨ pc a = 1 ∨ pc a = 2) : inI ⟨pre, post, relOf n k pc⟩ 5 = true := by
  have := row_kd45 k (by omega) h1
  simp only [Bool.and_eq_true] at this
  refine in_act hv rfl fun a _ => ?_
  rcases hp a with h | h | h <;> rw [h]
  · exact this.1.1
  · exact this.1.2
  · exact this.2
theorem s5_of {n k : Nat} {pre : List (List Nd)} {post : List (List Asg)} {pc : Nat → Int} (h1 : 1 ≤ k) (h8 : k ≤ 8) (hv : actI ⟨pre, post, relOf n k pc⟩ n 8 = 0) (hp : ∀ a, pc a = 0 ∨ pc a = 1) : inI ⟨pre, post, relOf n k pc⟩ 6 = true := by
  have := row_s5 k (by omega) h1
  simp only [Bool.and_eq_true] at this
  refine in_act hv rfl fun a _ => ?_
  rcases hp a with h | h <;> rw [h]
  · exact this.1
  · exact this.2
/-- An action model that is valid for n agents and satisfies a logic. -/
def Good (X : Act × Int) (n : Nat) : Prop := X.2 = 0 ∧ actI X.1 n 8 = 0 ∧ inI X.1 5 = true
theorem err_zero {n : Nat} (hn : n ≤ 4) {fact : Int} (hf : badF fact = false) {gs : List Int} (hg : gs.any (badG n) = false) {f : List Nd} (hs : statI n 8 f = 0) : errI n fact gs f = 0 := by
  have h1 : badAg (n : Int) = false := by
    unfold badAg
    rw [decide_eq_false (by omega), decide_eq_false (by omega)]; rfl
  rw [errI, h1, hg, hf, hs]; rfl
theorem badG_of {n k : Nat} (hn : n ≤ 4) (hk : k < 2 ^ n) : badG n k = false := by
  rw [badG, shl_n hn, decide_eq_false (by omega), decide_eq_false (by omega)]; rfl
theorem badF_of {k : Nat} (hk : k < 8) : badF k = false := by rw [badF, decide_eq_false (by omega), decide_eq_false (by omega)]; rfl
section
variable {n to who fact : Nat} {f : List Nd}
theorem susp_good (hn : n ≤ 4) (ht : to < 2 ^ n) (hw : who < 2 ^ n) (hs : statI n 8 f = 0) : Good (suspI n to who f) n := by
  have he : errI n 0 [(to : Int), (who : Int)] f = 0 := err_zero hn rfl (by simp [badG_of hn ht, badG_of hn hw]) hs
  rw [Good, suspI, he]
  have hv : actI ⟨[comp f, buildL (n0 1) []], [[], []], relOf n 2 (pcA to who)⟩ n 8 = 0 := valid_act hn (by decide) (by decide) rfl rfl
    (fun g hg => by
      simp at hg
      rcases hg with rfl | rfl
      · exact static_comp hs
      · exact static_true n) (fun l hl => by simp at hl; subst hl; rfl)
  exact ⟨rfl, hv, kd45_of (by decide) (by decide) hv (pcA_val _ _)⟩
theorem semi_good (hn : n ≤ 4) (ht : to < 2 ^ n) (hs : statI n 8 f = 0) (hl : f.length ≤ 40) : Good (semiI n to f) n ∧ inI (semiI n to f).1 6 = true ∧ semiI n to f = (⟨[comp f, buildL (n0 4) [f]], [[], []], relOf n 2 (pcB to 1)⟩, 0) := by
  have he : errI n 0 [(to : Int)] f = 0 := err_zero hn rfl (by simp [badG_of hn ht]) hs
  obtain ⟨hno, hne⟩ := static_not hs hl
  have e : semiI n to f = (⟨[comp f, buildL (n0 4) [f]], [[], []], relOf n 2 (pcB to 1)⟩, 0) := by rw [semiI, he, hne]; rfl
  rw [Good, e]
  have hv : actI ⟨[comp f, buildL (n0 4) [f]], [[], []], relOf n 2 (pcB to 1)⟩ n 8 = 0 := valid_act hn (by decide) (by decide) rfl rfl
    (fun g hg => by
      simp at hg
      rcases hg with rfl | rfl
      · exact static_comp hs
      · exact hno) (fun l hl => by simp at hl; subst hl; rfl)
  exact ⟨⟨rfl, hv, kd45_of (by decide) (by decide) hv fun a => by rcases pcB_val to 1 a with h | h <;> simp [h]⟩, s5_of (by decide) (by decide) hv (pcB_val _ _), rfl⟩
theorem chg_one (hf : fact < 8) {g : List Nd} (hs : statI n 8 g = 0) : chgs n 8 [⟨(fact : Int), g⟩] (-1) = 0 := by
  simp only [chgs]
  rw [decide_eq_false (by omega), decide_eq_false (by omega), decide_eq_false (by omega), hs]; rfl
theorem change_good (hn : n ≤ 4) (hf : fact < 8) (hs : statI n 8 f = 0) : Good (changeI n fact f) n ∧ inI (changeI n fact f).1 6 = true := by
  have he : errI n fact [] f = 0 := err_zero hn (badF_of hf) rfl hs
  rw [Good, changeI, he]
  have hv : actI ⟨[buildL (n0 1) []], [[⟨(fact : Int), comp f⟩]], relOf n 1 (fun _ => 1)⟩ n 8 = 0 := valid_act hn (by decide) (by decide) rfl rfl
    (fun g hg => by simp at hg; subst hg; exact static_true n) (fun l hl => by simp at hl; subst hl; exact chg_one hf (static_comp hs))
  exact ⟨⟨rfl, hv, kd45_of (by decide) (by decide) hv fun _ => .inr (.inl rfl)⟩, s5_of (by decide) (by decide) hv fun _ => .inr rfl⟩
theorem secret_good (hn : n ≤ 4) (ht : to < 2 ^ n) (hf : fact < 8) (hs : statI n 8 f = 0) : Good (secretI n to fact f) n := by
  have he : errI n fact [(to : Int)] f = 0 := err_zero hn (badF_of hf) (by simp [badG_of hn ht]) hs
  rw [Good, secretI, he]
  have hv : actI ⟨[buildL (n0 1) [], buildL (n0 1) []], [[⟨(fact : Int), comp f⟩], []], relOf n 2 (pcB to 2)⟩ n 8 = 0 := valid_act hn (by decide) (by decide) rfl rfl
    (fun g hg => by simp at hg; subst hg; exact static_true n) (fun l hl => by
      simp at hl
      rcases hl with rfl | rfl
      · exact chg_one hf (static_comp hs)
      · rfl)
  exact ⟨rfl, hv, kd45_of (by decide) (by decide) hv fun a => by rcases pcB_val to 2 a with h | h <;> simp [h]⟩
theorem toss_good (hn : n ≤ 4) (ht : to < 2 ^ n) (hf : fact < 8) : Good (tossI n to fact) n ∧ inI (tossI n to fact).1 6 = true := by
  have he : errI n fact [(to : Int)] (buildL (n0 1) []) = 0 := err_zero hn (badF_of hf) (by simp [badG_of hn ht]) (static_true n)
  rw [Good, tossI, he]
  have hv : actI ⟨[buildL (n0 1) [], buildL (n0 1) []], [[⟨(fact : Int), buildL (n0 1) []⟩], [⟨(fact : Int), buildL (n0 2) []⟩]], relOf n 2 (pcB to 1)⟩ n 8 = 0 := valid_act hn (by decide) (by decide) rfl rfl
    (fun g hg => by simp at hg; subst hg; exact static_true n) (fun l hl => by
      simp at hl
      rcases hl with rfl | rfl
      · exact chg_one hf (static_true n)
      · exact chg_one hf (static_false n))
  exact ⟨⟨rfl, hv, kd45_of (by decide) (by decide) hv fun a => by rcases pcB_val to 1 a with h | h <;> simp [h]⟩, s5_of (by decide) (by decide) hv (pcB_val _ _)⟩
theorem look_stat : ∀ {m s : Nat} {g : List Nd}, g ∈ lookL m s → statI n 8 g = 0
  | m, 0, g, h => by cases h
  | m, s + 1, g, h => by
    rw [lookL] at h
    cases hb : subM s m with
    | false => rw [hb] at h; exact look_stat h
    | true =>
      rw [hb] at h
      rcases List.mem_append.1 h with h | h
      · exact look_stat h
      · rw [List.mem_singleton.1 h]; exact static_lit n s m
/-- A look at one fact. -/
theorem look_one : ∀ k : Nat, k < 8 → decide (cntB (2 ^ k) 8 > 3) = false ∧ lookN (2 ^ k) (2 ^ k + 1) = 2 ∧ (lookL (2 ^ k) (2 ^ k + 1) == [buildL (n0 4) [buildL (nI 3 k) []], buildL (nI 3 k) []]) = true := by decide +kernel
theorem look_is (hn : n ≤ 4) (ht : to < 2 ^ n) (hf : fact < 8) : lookI n to (2 ^ fact : Nat) = (⟨[buildL (n0 4) [buildL (nI 3 fact) []], buildL (nI 3 fact) []], [[], []], relOf n 2 (pcB to 1)⟩, 0) := by
  have he : errI n 0 [(to : Int)] (buildL (n0 1) []) = 0 := err_zero hn rfl (by simp [badG_of hn ht]) (static_true n)
  obtain ⟨h1, h2, h3⟩ := look_one fact hf
  have hlt : 2 ^ fact < 2 ^ 8 := Nat.pow_lt_pow_right (by decide) hf
  have hq : ∀ q : Nat, q < 256 → badM (q : Int) = false := fun q hq => by rw [badM, decide_eq_false (by omega), decide_eq_false (by omega)]; rfl
  have hm := hq _ hlt
  rw [lookI, he, hm]
  simp only [Int.toNat_natCast, h1, h2]
  rw [beq_iff_eq.1 h3]; rfl
theorem look_good (hn : n ≤ 4) (ht : to < 2 ^ n) (hf : fact < 8) : Good (lookI n to (2 ^ fact : Nat)) n ∧ inI (lookI n to (2 ^ fact : Nat)).1 6 = true := by
  have hst := look_one fact hf
  have hmem : ∀ g, g ∈ [buildL (n0 4) [buildL (nI 3 fact) []], buildL (nI 3 fact) []] → statI n 8 g = 0 := fun g hg => by
    rw [← beq_iff_eq.1 hst.2.2] at hg; exact look_stat hg
  rw [Good, look_is hn ht hf]
  have hv : actI ⟨[buildL (n0 4) [buildL (nI 3 fact) []], buildL (nI 3 fact) []], [[], []], relOf n 2 (pcB to 1)⟩ n 8 = 0 := valid_act hn (by decide) (by decide) rfl rfl hmem (fun l hl => by simp at hl; subst hl; rfl)
  exact ⟨⟨rfl, hv, kd45_of (by decide) (by decide) hv fun a => by rcases pcB_val to 1 a with h | h <;> simp [h]⟩, s5_of (by decide) (by decide) hv (pcB_val _ _)⟩
end
end Go.Proofs.Ytibenjpkinhjhaa
