/- Parts of the proof, one after the other: Action models: their values; errors, relations and models of usual messages (plain). Messages: errors and perceptions of the program walked. Messages: the action model with given preconditions and perceptions, of the program, walked. Messages: Change of the program walked; Public and Skip of action models. Messages: Look of the program walked. Messages: the comparisons of action models with themselves, walked. Action models: errors (plain). Action models: Check of the program walked. -/
import Derived.Test.YtibenjpkinhjhaaM6
set_option maxRecDepth 100000
namespace Go.Proofs.Ytibenjpkinhjhaa
open Go Go.Dv

structure Asg where
  fact : Int
  to : List Nd
structure Act where
  pre : List (List Nd)
  post : List (List Asg)
  rel : List (List Nat)
def Asg.pv (a : Asg) : PV := .agg [.int .i64 a.fact, fpv a.to]
def rowPV (r : List Nat) : PV := .sl (r.map u64)
def postPV (l : List Asg) : PV := .sl (l.map Asg.pv)
def Act.pv (a : Act) : PV := .agg [.sl (a.pre.map fpv), .sl (a.post.map postPV), .sl (a.rel.map rowPV)]
def noAct : Act := ⟨[], [], []⟩
def pairA (x : Act × Int) : PV := .tup [x.1.pv, .int .i64 x.2]

/-! lists in which a nil slice stands for an empty one -/
theorem PLe.sls {l l' : List PV} (h : PLes l l') : PLe (.sl l) (.sl l') := by
  have h1 : ∀ {l l' : List PV}, PLes l l' → l.length = l'.length ∧ ∀ (i : Nat) p q, l[i]? = some p → l'[i]? = some q → PLe p q := by
    intro l
    induction l with
    | nil => intro l' h; cases l' with
      | nil => exact ⟨rfl, fun i p q hp => by simp at hp⟩
      | cons => exact h.elim
    | cons a r ih => intro l' h; cases l' with
      | nil => exact h.elim
      | cons b s =>
        obtain ⟨e, k⟩ := ih h.2
        refine ⟨by simp [e], fun i p q hp hq => ?_⟩
        cases i with
        | zero => simp at hp hq; subst hp; subst hq; exact h.1
        | succ i => exact k i p q (by simpa using hp) (by simpa using hq)
  exact .sl _ _ (h1 h).1 (h1 h).2
theorem PLe.aggs {l l' : List PV} (h : PLes l l') : PLe (.agg l) (.agg l') := by
  have := PLe.sls h
  cases this with
  | refl => exact .refl _
  | sl _ _ h1 h2 => exact .agg _ _ h1 h2
theorem PLe.tups {l l' : List PV} (h : PLes l l') : PLe (.tup l) (.tup l') := by
  have := PLe.sls h
  cases this with
  | refl => exact .refl _
  | sl _ _ h1 h2 => exact .tup _ _ h1 h2
theorem le_noAct (e : Int) : PLe (.tup [.agg [.nil, .nil, .nil], .int .i64 e]) (pairA (noAct, e)) := PLe.tups ⟨PLe.aggs ⟨.nil, .nil, .nil, trivial⟩, .refl _, trivial⟩

/-! errors -/
def nand64' (a b : Int) : Int := IntKind.wrap .i64 ((BitVec.ofInt (IntKind.bits .i64) a &&& ~~~BitVec.ofInt (IntKind.bits .i64) b).toNat : Int)
def statI (ag : Int) (n : Int) (f : List Nd) : Int := bif check f != 0 then check f else bif nand64' (frags f : Nat) 15 != 0 then 10 else bif !fits f ag n then 2 else 0
def badAg (ag : Int) : Bool := bif decide (ag < 0) then true else decide (ag > 4)
def badF (fact : Int) : Bool := bif decide (fact < 0) then true else decide (fact ≥ 8)
theorem badAg_no {ag : Int} (h : badAg ag = false) : ∃ n : Nat, ag = n ∧ n ≤ 4 := by
  unfold badAg at h
  by_cases h1 : ag < 0
  · rw [decide_eq_true h1] at h; cases h
  · by_cases h2 : ag > 4
    · rw [decide_eq_false h1, decide_eq_true h2] at h; cases h
    · exact ⟨ag.toNat, by omega, by omega⟩
theorem statI_ok {ag n : Int} {f : List Nd} (h : statI ag n f = 0) : check f = 0 ∧ nand64' (frags f : Nat) 15 = 0 ∧ fits f ag n = true := by
  unfold statI at h
  cases h1 : (check f != 0) with
  | true => rw [h1] at h; simp only [cond_true] at h; rw [h] at h1; cases h1
  | false =>
    rw [h1] at h
    cases h2 : (nand64' (frags f : Nat) 15 != 0) with
    | true => rw [h2] at h; cases h
    | false =>
      rw [h2] at h
      cases h3 : fits f ag n with
      | false => rw [h3] at h; cases h
      | true => exact ⟨by simpa using h1, by simpa using h2, rfl⟩
/-! relations -/
/-! how the agents perceive the events -/
/-! the messages -/
end Go.Proofs.Ytibenjpkinhjhaa
set_option maxRecDepth 100000
set_option maxHeartbeats 4000000
namespace Go.Proofs.Ytibenjpkinhjhaa
open Go Go.Dv

theorem any_take {α : Type} {p : α → Bool} {l : List α} {i : Nat} (hi : i < l.length) (h : (l.take i).any p = false) (h2 : p l[i] = false) : (l.take (i + 1)).any p = false := by
  rw [List.take_succ_eq_append_getElem hi, List.any_append, h]; simp [h2]
theorem any_at {α : Type} {p : α → Bool} {l : List α} {i : Nat} (hi : i < l.length) (h2 : p l[i] = true) : l.any p = true := List.any_eq_true.2 ⟨l[i], List.getElem_mem hi, h2⟩
end Go.Proofs.Ytibenjpkinhjhaa
set_option maxRecDepth 100000
set_option maxHeartbeats 4000000
namespace Go.Proofs.Ytibenjpkinhjhaa
open Go Go.Dv

theorem shlU_nat {e : Nat} (h : e < 63) : shlU 1 (e : Int) = ((2 ^ e : Nat) : Int) := shlU_one (by omega)
end Go.Proofs.Ytibenjpkinhjhaa
set_option maxRecDepth 100000
set_option maxHeartbeats 4000000
namespace Go.Proofs.Ytibenjpkinhjhaa
open Go Go.Dv

theorem ac_static (f : List Nd) (ag n : Int) : PureFn Try.prog 68 [fpv f, .int .i64 ag, .int .i64 n] (.int .i64 (statI ag n f)) := by
  refine PureFn.intro mixed (fn := Try.f68) rfl rfl rfl fun M w0 => ?_
  (try (conv => whnf)); repeat' (first | (apply And.intro <;> (try (conv => whnf))) | (intro h; first | (with_reducible exact tf0 h) | (with_reducible exact ft0 h) | (with_reducible exact nt0 h) | (with_reducible exact nf0 h) | (exact litz h rfl) | (with_reducible exact tf h (by with_reducible assumption)) | (with_reducible exact tf (by with_reducible assumption) h) | (try (conv => whnf))) | (with_reducible rfl) | (apply True.intro) | (apply infoT; rfl) | (apply bleI; rfl) | (apply fitI; rfl) | (apply cellsI; rfl) | (apply szI; rfl) | (apply guardI; kernel_rfl) | (apply WhenQ.mk; (try (conv => whnf)); rotate_left; (try (conv => whnf)); rotate_right) | (with_reducible assumption) | (apply not_of; with_reducible assumption) | (apply left_of; with_reducible assumption) | (apply left_of; apply left_of; with_reducible assumption) | (apply and_of <;> first | (with_reducible assumption) | (apply not_of; with_reducible assumption))| (refine lin_plan (by kernel_rfl) ?_; (try (conv => whnf))) | (refine ⟨_, _, rfl, idx_map (by with_reducible assumption), rfl, ?_⟩; (try (conv => whnf))) | (refine ⟨rfl, ?_⟩; (try (conv => whnf))) | (exact Nat.le_refl 1) | ((apply ex3); (focus (with_reducible assumption)); (focus (with_reducible assumption)); (try (conv => whnf))) | ((apply ex2); (focus (with_reducible assumption)); (try (conv => whnf))) | (refine PureFn.dcq (f := 59) rfl ?_; (try (conv => whnf))) | (refine PureFn.dcq (f := 60) rfl ?_; (try (conv => whnf))) | (refine PureFn.dcq (f := 61) rfl ?_; (try (conv => whnf))) | ((refine ⟨_, _, fm_Check ?_, ?_, ?_⟩); rotate_left 1; (focus (first | (refine ⟨?_, trivial⟩ <;> first | (exact PLe.refl _) | (exact PLe.nil)) | (exact trivial))); (try (conv => whnf))) | (refine ⟨_, (by (conv => whnf); exact fm_Check _), rfl, ?_⟩; (try (conv => whnf))) | ((refine ⟨_, _, fm_Frags ?_, ?_, ?_⟩); rotate_left 1; (focus (first | (refine ⟨?_, trivial⟩ <;> first | (exact PLe.refl _) | (exact PLe.nil)) | (exact trivial))); (try (conv => whnf))) | (refine ⟨_, (by (conv => whnf); exact fm_Frags _), rfl, ?_⟩; (try (conv => whnf))) | ((refine ⟨_, _, fm_Fits ?_ ?_ ?_, ?_, ?_⟩); rotate_left 3; (focus (first | (refine ⟨?_, ?_, ?_, trivial⟩ <;> first | (exact PLe.refl _) | (exact PLe.nil)) | (exact trivial))); (try (conv => whnf))) | (refine ⟨_, (by (conv => whnf); exact fm_Fits _ _ _), rfl, ?_⟩; (try (conv => whnf))) | fail)
  · refine le_int ?_
    rw [statI, h]; rfl
  · rename_i h1
    refine le_int ?_
    rw [statI, h1, show (nand64' (frags f : Nat) 15 != 0) = true from h]; rfl
  · rename_i h2 h1
    refine le_int ?_
    rw [statI, h2, show (nand64' (frags f : Nat) 15 != 0) = false from h1, h]; rfl
  · rename_i h2 h1
    refine le_int ?_
    rw [statI, h2, show (nand64' (frags f : Nat) 15 != 0) = false from h1, h]; rfl
def onesL (n : Nat) : List (List Nat) := List.replicate n [1]
def pubI (ag : Int) (f : List Nd) : Act × Int := bif badAg ag then (noAct, 2) else bif statI ag 8 f != 0 then (noAct, statI ag 8 f) else (⟨[comp f], [[]], onesL ag.toNat⟩, 0)
theorem onesL_succ (n : Nat) : (onesL n).map rowPV ++ [.sl [.int .u64 1]] = (onesL (n + 1)).map rowPV := by
  simp only [onesL, List.replicate_succ', List.map_append]; rfl
theorem ac_Public (ag : Int) (f : List Nd) : PureFn Try.prog 36 [.int .i64 ag, fpv f] (pairA (pubI ag f)) := by
  refine PureFn.introC [11] mixed (fn := Try.f36) rfl rfl rfl fun M w0 => ?_
  have hS := ac_static f ag 8
  have hC := fm_Compact f
  (try (conv => whnf)); repeat' (first | (apply And.intro <;> (try (conv => whnf))) | (intro h; first | (with_reducible exact tf0 h) | (with_reducible exact ft0 h) | (with_reducible exact nt0 h) | (with_reducible exact nf0 h) | (exact litz h rfl) | (with_reducible exact tf h (by with_reducible assumption)) | (with_reducible exact tf (by with_reducible assumption) h) | (try (conv => whnf))) | (with_reducible rfl) | (apply True.intro) | (apply infoT; rfl) | (apply bleI; rfl) | (apply fitI; rfl) | (apply cellsI; rfl) | (apply szI; rfl) | (apply guardI; kernel_rfl) | (apply WhenQ.mk; (try (conv => whnf)); rotate_left; (try (conv => whnf)); rotate_right) | (with_reducible assumption) | (apply not_of; with_reducible assumption) | (apply left_of; with_reducible assumption) | (apply left_of; apply left_of; with_reducible assumption) | (apply and_of <;> first | (with_reducible assumption) | (apply not_of; with_reducible assumption))| (refine lin_plan (by kernel_rfl) ?_; (try (conv => whnf))) | (refine ⟨_, _, rfl, idx_map (by with_reducible assumption), rfl, ?_⟩; (try (conv => whnf))) | (refine ⟨rfl, ?_⟩; (try (conv => whnf))) | (exact Nat.le_refl 1) | ((apply ex3); (focus (with_reducible assumption)); (focus (with_reducible assumption)); (try (conv => whnf))) | ((apply ex2); (focus (with_reducible assumption)); (try (conv => whnf))) | (refine PureFn.dcq (f := 68) rfl ?_; (try (conv => whnf))) | (refine PureFn.dcq (f := 83) rfl ?_; (try (conv => whnf))) | ((refine ⟨_, _, hS, ?_, ?_⟩); (focus (first | (refine ⟨?_, ?_, ?_, trivial⟩ <;> first | (exact PLe.refl _) | (exact PLe.nil)) | (exact trivial))); (try (conv => whnf))) | (refine ⟨_, (by (conv => whnf); exact hS), rfl, ?_⟩; (try (conv => whnf))) | ((refine ⟨_, _, hC, ?_, ?_⟩); (focus (first | (refine ⟨?_, trivial⟩ <;> first | (exact PLe.refl _) | (exact PLe.nil)) | (exact trivial))); (try (conv => whnf))) | (refine ⟨_, (by (conv => whnf); exact hC), rfl, ?_⟩; (try (conv => whnf))) | fail)
  · rw [pubI, show badAg ag = true from h]; exact le_noAct _
  · rename_i h1
    rw [pubI, show badAg ag = false from h1, h]; exact le_noAct _
  rename_i h1
  rw [pubI, show badAg ag = false from h1, h]
  obtain ⟨n, rfl, hn⟩ := badAg_no (show badAg ag = false from h1)
  refine ⟨Unit, fun _ => [(4, .ref 0 0), (7, .ref 1 0)], fun _ => 3, fun _ => [(0, .var [.pv .nil, .pv .nil, .pv .nil]), (1, .var [.pv (.sl [fpv (comp f)]), .pv (.sl [.nil]), .pv (.sl ((onesL n).map rowPV))])], ?_, ?_⟩
  · (try (conv => whnf)); repeat' (first | (apply And.intro <;> (try (conv => whnf))) | (intro h; first | (with_reducible exact tf0 h) | (with_reducible exact ft0 h) | (with_reducible exact nt0 h) | (with_reducible exact nf0 h) | (exact litz h rfl) | (with_reducible exact tf h (by with_reducible assumption)) | (with_reducible exact tf (by with_reducible assumption) h) | (try (conv => whnf))) | (with_reducible rfl) | (apply True.intro) | (apply infoT; rfl) | (apply bleI; rfl) | (apply fitI; rfl) | (apply cellsI; rfl) | (apply szI; rfl) | (apply guardI; kernel_rfl) | (apply WhenQ.mk; (try (conv => whnf)); rotate_left; (try (conv => whnf)); rotate_right) | (with_reducible assumption) | (apply not_of; with_reducible assumption) | (apply left_of; with_reducible assumption) | (apply left_of; apply left_of; with_reducible assumption) | (apply and_of <;> first | (with_reducible assumption) | (apply not_of; with_reducible assumption))| (refine lin_plan (by kernel_rfl) ?_; (try (conv => whnf))) | (refine ⟨_, _, rfl, idx_map (by with_reducible assumption), rfl, ?_⟩; (try (conv => whnf))) | (refine ⟨rfl, ?_⟩; (try (conv => whnf))) | (exact Nat.le_refl 1) | ((apply ex3); (focus (with_reducible assumption)); (focus (with_reducible assumption)); (try (conv => whnf))) | ((apply ex2); (focus (with_reducible assumption)); (try (conv => whnf))) | fail)
    refine ⟨{ i : Nat // i ≤ n }, fun i => [(4, .ref 0 0), (7, .ref 1 0), (27, .pv (i64 n)), (28, .pv (i64 i.1))], fun _ => 3, fun i => [(0, .var [.pv .nil, .pv .nil, .pv .nil]), (1, .var [.pv (.sl [fpv (comp f)]), .pv (.sl [.nil]), .buf 2 ((onesL i.1).map rowPV).length]), (2, .arr 1 ((onesL i.1).map rowPV))], fun i => n - i.1, ⟨⟨0, Nat.zero_le _⟩, (by refine Wk.of ?_ ?_ rfl rfl rfl <;> (repeat' (first | (exact trivial) | (exact WkD.same _) | (exact WkO.same _ _ rfl) | (exact WkD.any _) | (exact WkD.nil _ (Or.inl rfl)) | (exact WkD.nil _ (Or.inr rfl)) | (exact WkD.fz _ _ _ rfl (Or.inl ⟨_, rfl⟩) rfl) | (exact WkD.fz _ _ _ rfl (Or.inr rfl) rfl) | (refine WkD.int ?_) | (exact WkD.new' rfl rfl rfl) | (exact WkO.new _ _ rfl) | (refine WkO.vars rfl ?_) | (with_reducible rfl) | (exact rfl) | (refine ⟨?_, ?_⟩) | ((refine wrapA ?_ ?_ ?_); (focus (simp; done)); (focus ((try dsimp only); omega)); (focus ((try dsimp only); omega))) | fail)))⟩, ?_⟩
    rintro ⟨i, hi⟩
    (try (conv => whnf)); repeat' (first | (apply And.intro <;> (try (conv => whnf))) | (intro h; first | (with_reducible exact tf0 h) | (with_reducible exact ft0 h) | (with_reducible exact nt0 h) | (with_reducible exact nf0 h) | (exact litz h rfl) | (with_reducible exact tf h (by with_reducible assumption)) | (with_reducible exact tf (by with_reducible assumption) h) | (try (conv => whnf))) | (with_reducible rfl) | (apply True.intro) | (apply infoT; rfl) | (apply bleI; rfl) | (apply fitI; rfl) | (apply cellsI; rfl) | (apply szI; rfl) | (apply guardI; kernel_rfl) | (apply WhenQ.mk; (try (conv => whnf)); rotate_left; (try (conv => whnf)); rotate_right) | (with_reducible assumption) | (apply not_of; with_reducible assumption) | (apply left_of; with_reducible assumption) | (apply left_of; apply left_of; with_reducible assumption) | (apply and_of <;> first | (with_reducible assumption) | (apply not_of; with_reducible assumption))| (refine lin_plan (by kernel_rfl) ?_; (try (conv => whnf))) | (refine ⟨_, _, rfl, idx_map (by with_reducible assumption), rfl, ?_⟩; (try (conv => whnf))) | (refine ⟨rfl, ?_⟩; (try (conv => whnf))) | (exact Nat.le_refl 1) | ((apply ex3); (focus (with_reducible assumption)); (focus (with_reducible assumption)); (try (conv => whnf))) | ((apply ex2); (focus (with_reducible assumption)); (try (conv => whnf))) | fail)
    · show ((onesL i).map rowPV).length + 1 ≤ 4294967296
      rw [List.length_map, onesL, List.length_replicate]; omega
    · have hi' : i < n := lt_dec h
      have er := onesL_succ i
      refine ⟨⟨i + 1, hi'⟩, by show n - (i + 1) < n - i; omega, ?_⟩
      (refine Wk.of ?_ ?_ rfl rfl rfl <;> (repeat' (first | (exact trivial) | (exact WkD.same _) | (exact WkO.same _ _ rfl) | (exact WkD.eq (congrArg (fun z : List PV => DV.buf _ z.length) er)) | (exact WkO.same _ _ (congrArg (fun z => some (DObj.arr _ z)) er)) | (exact WkD.any _) | (exact WkD.nil _ (Or.inl rfl)) | (exact WkD.nil _ (Or.inr rfl)) | (exact WkD.fz _ _ _ rfl (Or.inl ⟨_, rfl⟩) rfl) | (exact WkD.fz _ _ _ rfl (Or.inr rfl) rfl) | (refine WkD.int ?_) | (exact WkD.new' rfl rfl rfl) | (exact WkO.new _ _ rfl) | (refine WkO.vars rfl ?_) | (with_reducible rfl) | (exact rfl) | (refine ⟨?_, ?_⟩) | ((refine wrapA ?_ ?_ ?_); (focus (simp; done)); (focus ((try dsimp only); omega)); (focus ((try dsimp only); omega))) | fail)))
    · have hi' : i = n := ge_dec h hi
      subst hi'
      exact ⟨(), (by refine Wk.of ?_ ?_ rfl rfl rfl <;> (repeat' (first | (exact trivial) | (exact WkD.same _) | (exact WkO.same _ _ rfl) | (exact WkD.any _) | (exact WkD.nil _ (Or.inl rfl)) | (exact WkD.nil _ (Or.inr rfl)) | (exact WkD.fz _ _ _ rfl (Or.inl ⟨_, rfl⟩) rfl) | (exact WkD.fz _ _ _ rfl (Or.inr rfl) rfl) | (refine WkD.int ?_) | (exact WkD.new' rfl rfl rfl) | (exact WkO.new _ _ rfl) | (refine WkO.vars rfl ?_) | (with_reducible rfl) | (exact rfl) | (refine ⟨?_, ?_⟩) | ((refine wrapA ?_ ?_ ?_); (focus (simp; done)); (focus ((try dsimp only); omega)); (focus ((try dsimp only); omega))) | fail)))⟩
  rintro ⟨⟩
  (try (conv => whnf)); repeat' (first | (apply And.intro <;> (try (conv => whnf))) | (intro h; first | (with_reducible exact tf0 h) | (with_reducible exact ft0 h) | (with_reducible exact nt0 h) | (with_reducible exact nf0 h) | (exact litz h rfl) | (with_reducible exact tf h (by with_reducible assumption)) | (with_reducible exact tf (by with_reducible assumption) h) | (try (conv => whnf))) | (with_reducible rfl) | (apply True.intro) | (apply infoT; rfl) | (apply bleI; rfl) | (apply fitI; rfl) | (apply cellsI; rfl) | (apply szI; rfl) | (apply guardI; kernel_rfl) | (apply WhenQ.mk; (try (conv => whnf)); rotate_left; (try (conv => whnf)); rotate_right) | (with_reducible assumption) | (apply not_of; with_reducible assumption) | (apply left_of; with_reducible assumption) | (apply left_of; apply left_of; with_reducible assumption) | (apply and_of <;> first | (with_reducible assumption) | (apply not_of; with_reducible assumption))| (refine lin_plan (by kernel_rfl) ?_; (try (conv => whnf))) | (refine ⟨_, _, rfl, idx_map (by with_reducible assumption), rfl, ?_⟩; (try (conv => whnf))) | (refine ⟨rfl, ?_⟩; (try (conv => whnf))) | (exact Nat.le_refl 1) | ((apply ex3); (focus (with_reducible assumption)); (focus (with_reducible assumption)); (try (conv => whnf))) | ((apply ex2); (focus (with_reducible assumption)); (try (conv => whnf))) | fail)
  exact PLe.tups ⟨PLe.aggs ⟨.refl _, PLe.sls ⟨.nil, trivial⟩, .refl _, trivial⟩, .refl _, trivial⟩
end Go.Proofs.Ytibenjpkinhjhaa
set_option maxRecDepth 100000
set_option maxHeartbeats 4000000
namespace Go.Proofs.Ytibenjpkinhjhaa
open Go Go.Dv

/-! bits -/
theorem nand_eq {a b : Nat} (ha : a < 2 ^ 62) : nand64' a b = ((a ^^^ (a &&& b) : Nat) : Int) := by
  have hlt : a ^^^ (a &&& b) < 2 ^ 62 := Nat.xor_lt_two_pow ha (Nat.lt_of_le_of_lt Nat.and_le_left ha)
  unfold nand64'
  show IntKind.wrap .i64 ((BitVec.ofInt 64 (a : Int) &&& ~~~BitVec.ofInt 64 (b : Int)).toNat : Int) = _
  rw [ofInt_nat, ofInt_nat]
  have h2 : (BitVec.ofNat 64 a &&& ~~~BitVec.ofNat 64 b).toNat = a ^^^ (a &&& b) := by
    apply Nat.eq_of_testBit_eq
    intro i
    rw [BitVec.testBit_toNat, BitVec.getLsbD_and, BitVec.getLsbD_not, BitVec.getLsbD_ofNat, BitVec.getLsbD_ofNat, Nat.testBit_xor, Nat.testBit_and]
    by_cases hi : i < 64
    · simp only [hi, decide_true, Bool.true_and]; cases a.testBit i <;> cases b.testBit i <;> rfl
    · have : a.testBit i = false := Nat.testBit_lt_two_pow (Nat.lt_of_lt_of_le (show a < 2 ^ 64 by omega) (Nat.pow_le_pow_right (by decide) (by omega)))
      simp [hi, this]
  rw [h2, wrap_small (by omega) (by omega)]
def subM (s m : Nat) : Bool := s &&& m == s
theorem nand_zero {a b : Nat} (ha : a < 2 ^ 62) : (nand64' a b == 0) = subM a b := by
  rw [nand_eq ha, subM, Bool.eq_iff_iff, beq_iff_eq, beq_iff_eq]
  constructor
  · intro h
    have h0 : a ^^^ (a &&& b) = 0 := by omega
    have h4 : (a ^^^ (a &&& b)) ^^^ (a &&& b) = a := by rw [Nat.xor_assoc, Nat.xor_self, Nat.xor_zero]
    rw [h0, Nat.zero_xor] at h4; exact h4
  · intro h
    rw [h, Nat.xor_self]; rfl

/-! the formulas of a look -/
theorem app_big {l : List PV} {n : Nat} {p : PV} (h : l.length ≤ n) (hn : n ≤ 1000) : l.length + [p].length ≤ big := by
  show l.length + 1 ≤ 4294967296; omega
end Go.Proofs.Ytibenjpkinhjhaa
set_option maxRecDepth 100000
set_option maxHeartbeats 4000000
namespace Go.Proofs.Ytibenjpkinhjhaa
open Go Go.Dv

def cellsA (a : Act) : List DV := [.pv (.sl (a.pre.map fpv)), .pv (.sl (a.post.map postPV)), .pv (.sl (a.rel.map rowPV))]
end Go.Proofs.Ytibenjpkinhjhaa
set_option maxRecDepth 100000
namespace Go.Proofs.Ytibenjpkinhjhaa
open Go Go.Dv

/-! the length of a number in bits -/
def len64 (x : Nat) : Nat := if x = 0 then 0 else Nat.log2 x + 1
theorem len64_lt {x k : Nat} : len64 x ≤ k ↔ x < 2 ^ k := by
  unfold len64
  by_cases h : x = 0
  · subst h; simp [Nat.two_pow_pos]
  · rw [if_neg h, ← Nat.log2_lt h]; omega
theorem len64_shift {x k : Nat} (h : 2 ^ k ≤ x) : len64 x = k + len64 (x >>> k) := by
  have key : ∀ j, len64 x ≤ k + j ↔ len64 (x >>> k) ≤ j := fun j => by
    rw [len64_lt, len64_lt, Nat.shiftRight_eq_div_pow, Nat.div_lt_iff_lt_mul (Nat.two_pow_pos k), Nat.pow_add, Nat.mul_comm]
  have h1 : k < len64 x := by
    rcases Nat.lt_or_ge k (len64 x) with q | q
    · exact q
    · have q2 : len64 x ≤ k := q
      rw [len64_lt] at q2; omega
  have h2 := (key (len64 x - k)).1 (by omega)
  have h3 := (key (len64 (x >>> k))).2 (Nat.le_refl _)
  omega

/-! errors -/
def chgs (ag n : Int) : List Asg → Int → Int
  | [], _ => 0
  | x :: r, last => bif (bif decide (x.fact < 0) then true else decide (x.fact ≥ n)) then 2 else bif decide (x.fact ≤ last) then 9 else bif statI ag n x.to != 0 then statI ag n x.to else chgs ag n r x.fact
def evs' (ag n : Int) : List (List Nd) → List (List Asg) → Int
  | [], _ => 0
  | f :: r, post => bif statI ag n f != 0 then statI ag n f else bif chgs ag n (post.headD []) (-1) != 0 then chgs ag n (post.headD []) (-1) else evs' ag n r post.tail
def rowsBad (rel : List (List Nat)) (n : Nat) : Bool := rel.any fun r => ((r.length : Int) != (n : Int))
def bitsBad (rel : List (List Nat)) (n : Nat) : Bool := rel.any fun r => r.any fun s => decide ((len64 s : Int) > (n : Int))
def shapeI (a : Act) (ag : Int) : Int :=
  bif (bif decide ((a.pre.length : Int) < 1) then true else decide ((a.pre.length : Int) > 8)) then 2 else
  bif (bif (bif (a.post.length : Int) != (a.pre.length : Int) then true else (a.rel.length : Int) != ag) then true else rowsBad a.rel a.pre.length) then 3 else bif bitsBad a.rel a.pre.length then 2 else 0
def actI (a : Act) (ag n : Int) : Int :=
  bif (bif bif bif decide (ag < 0) then true else decide (ag > 4) then true else decide (n < 0) then true else decide (n > 8)) then 2 else bif shapeI a ag != 0 then shapeI a ag else evs' ag n a.pre a.post
/-- The error of an action model by itself. -/
def aloneI (a : Act) : Int := actI a (a.rel.length : Int) 8
theorem shapeI_ok {a : Act} {ag : Int} (h : shapeI a ag = 0) : 1 ≤ a.pre.length ∧ a.pre.length ≤ 8 ∧ a.post.length = a.pre.length ∧ (a.rel.length : Int) = ag ∧ rowsBad a.rel a.pre.length = false ∧ bitsBad a.rel a.pre.length = false := by
  unfold shapeI at h
  cases h1 : (bif decide ((a.pre.length : Int) < 1) then true else decide ((a.pre.length : Int) > 8)) with
  | true => rw [h1] at h; cases h
  | false =>
    rw [h1] at h
    cases h2 : (bif (bif (a.post.length : Int) != (a.pre.length : Int) then true else (a.rel.length : Int) != ag) then true else rowsBad a.rel a.pre.length) with
    | true => rw [h2] at h; cases h
    | false =>
      rw [h2] at h
      cases h3 : bitsBad a.rel a.pre.length with
      | true => rw [h3] at h; cases h
      | false =>
        cases h4 : ((a.post.length : Int) != (a.pre.length : Int)) with
        | true => rw [h4] at h2; cases h2
        | false =>
          rw [h4] at h2
          cases h5 : ((a.rel.length : Int) != ag) with
          | true => rw [h5] at h2; cases h2
          | false =>
            rw [h5] at h2
            by_cases h6 : (a.pre.length : Int) < 1
            · rw [decide_eq_true h6] at h1; cases h1
            · rw [decide_eq_false h6] at h1
              by_cases h7 : (a.pre.length : Int) > 8
              · rw [decide_eq_true h7] at h1; cases h1
              · have h8 : (a.post.length : Int) = a.pre.length := by simpa using h4
                exact ⟨by omega, by omega, by omega, by simpa using h5, h2, rfl⟩
theorem rows_ok {rel : List (List Nat)} {n : Nat} (h : rowsBad rel n = false) : ∀ r, r ∈ rel → r.length = n := by
  intro r hr
  have := List.any_eq_false.1 h r hr
  have h2 : ((r.length : Int) != (n : Int)) = false := by simpa using this
  have h3 : (r.length : Int) = (n : Int) := by simpa using h2
  omega
theorem bits_ok {rel : List (List Nat)} {n : Nat} (h : bitsBad rel n = false) : ∀ r, r ∈ rel → ∀ s, s ∈ r → s < 2 ^ n := by
  intro r hr s hs
  have h1 := List.any_eq_false.1 h r hr
  rw [← len64_lt]
  rcases Nat.lt_or_ge n (len64 s) with q | q
  · exact absurd (List.any_eq_true.2 ⟨s, hs, decide_eq_true (by omega)⟩) h1
  · exact q
/-- What an action model consists of that is without error. -/
structure OkA (a : Act) (ag n : Int) : Prop where
  ags : ag = (a.rel.length : Int)
  agn : a.rel.length ≤ 4
  n1 : 1 ≤ a.pre.length
  n8 : a.pre.length ≤ 8
  post : a.post.length = a.pre.length
  rows : ∀ r, r ∈ a.rel → r.length = a.pre.length
  bits : ∀ r, r ∈ a.rel → ∀ s, s ∈ r → s < 2 ^ a.pre.length
  ev : evs' ag n a.pre a.post = 0
theorem actI_ok {a : Act} {ag n : Int} (h : actI a ag n = 0) : OkA a ag n := by
  unfold actI at h
  cases h1 : (bif bif bif decide (ag < 0) then true else decide (ag > 4) then true else decide (n < 0) then true else decide (n > 8)) with
  | true => rw [h1] at h; cases h
  | false =>
    rw [h1] at h
    cases h2 : (shapeI a ag != 0) with
    | true => rw [h2] at h; simp only [cond_false, cond_true] at h; rw [h] at h2; cases h2
    | false =>
      rw [h2] at h
      obtain ⟨s1, s2, s3, s4, s5, s6⟩ := shapeI_ok (a := a) (ag := ag) (by simpa using h2)
      have h4 : ¬ ag > 4 := by
        intro hh
        by_cases h5 : ag < 0
        · omega
        · rw [decide_eq_false h5, decide_eq_true hh] at h1; cases h1
      exact ⟨s4.symm, by omega, s1, s2, s3, rows_ok s5, bits_ok s6, h⟩
theorem evs_drop {ag n : Int} {pre : List (List Nd)} {post : List (List Asg)} {i : Nat} (h : i < pre.length) (h2 : i < post.length) :
    evs' ag n (pre.drop i) (post.drop i) = bif statI ag n pre[i] != 0 then statI ag n pre[i] else bif chgs ag n post[i] (-1) != 0 then chgs ag n post[i] (-1) else evs' ag n (pre.drop (i + 1)) (post.drop (i + 1)) := by
  rw [List.drop_eq_getElem_cons h, List.drop_eq_getElem_cons h2]; rfl
theorem chgs_drop {ag n last : Int} {l : List Asg} {i : Nat} (h : i < l.length) :
    chgs ag n (l.drop i) last = bif (bif decide (l[i].fact < 0) then true else decide (l[i].fact ≥ n)) then 2 else bif decide (l[i].fact ≤ last) then 9 else bif statI ag n l[i].to != 0 then statI ag n l[i].to else chgs ag n (l.drop (i + 1)) l[i].fact := by
  rw [List.drop_eq_getElem_cons h]; rfl
/-- All numbers of a relation fit a word. -/
def Fit (a : Act) : Prop := ∀ r, r ∈ a.rel → ∀ s, s ∈ r → s < 2 ^ 64
end Go.Proofs.Ytibenjpkinhjhaa
set_option maxRecDepth 100000
set_option maxHeartbeats 4000000
namespace Go.Proofs.Ytibenjpkinhjhaa
open Go Go.Dv

theorem shr_lt {x k m : Nat} (h : x < 2 ^ (k + m)) : x >>> k < 2 ^ m := by
  rw [Nat.shiftRight_eq_div_pow]
  exact Nat.div_lt_of_lt_mul (by rw [← Nat.pow_add]; exact h)
theorem bits_Len64 (x : Nat) (hx : x < 2 ^ 64) : PureFn Try.prog 132 [u64 x] (.int .i64 (len64 x : Nat)) := by
  refine PureFn.introC [4, 7, 10] mixed (fn := Try.f132) rfl rfl rfl fun M w0 => ?_
  (try (conv => whnf)); repeat' (first | (apply And.intro <;> (try (conv => whnf))) | (intro h; first | (with_reducible exact tf0 h) | (with_reducible exact ft0 h) | (with_reducible exact nt0 h) | (with_reducible exact nf0 h) | (exact litz h rfl) | (with_reducible exact tf h (by with_reducible assumption)) | (with_reducible exact tf (by with_reducible assumption) h) | (try (conv => whnf))) | (with_reducible rfl) | (apply True.intro) | (apply infoT; rfl) | (apply bleI; rfl) | (apply fitI; rfl) | (apply cellsI; rfl) | (apply szI; rfl) | (apply guardI; kernel_rfl) | (apply WhenQ.mk; (try (conv => whnf)); rotate_left; (try (conv => whnf)); rotate_right) | (with_reducible assumption) | (apply not_of; with_reducible assumption) | (apply left_of; with_reducible assumption) | (apply left_of; apply left_of; with_reducible assumption) | (apply and_of <;> first | (with_reducible assumption) | (apply not_of; with_reducible assumption))| (refine lin_plan (by kernel_rfl) ?_; (try (conv => whnf))) | (refine ⟨_, _, rfl, idx_map (by with_reducible assumption), rfl, ?_⟩; (try (conv => whnf))) | (refine ⟨rfl, ?_⟩; (try (conv => whnf))) | (exact Nat.le_refl 1) | ((apply ex3); (focus (with_reducible assumption)); (focus (with_reducible assumption)); (try (conv => whnf))) | ((apply ex2); (focus (with_reducible assumption)); (try (conv => whnf))) | fail)
  refine ⟨{ q : Nat × Nat // q.1 < 2 ^ 32 ∧ q.2 ≤ 32 ∧ len64 x = q.2 + len64 q.1 }, fun q => [(0, .pv (u64 q.1.1)), (2, .pv (i64 q.1.2))], fun _ => 0, fun _ => [], ?_, ?_⟩
  · (try (conv => whnf)); repeat' (first | (apply And.intro <;> (try (conv => whnf))) | (intro h; first | (with_reducible exact tf0 h) | (with_reducible exact ft0 h) | (with_reducible exact nt0 h) | (with_reducible exact nf0 h) | (exact litz h rfl) | (with_reducible exact tf h (by with_reducible assumption)) | (with_reducible exact tf (by with_reducible assumption) h) | (try (conv => whnf))) | (with_reducible rfl) | (apply True.intro) | (apply infoT; rfl) | (apply bleI; rfl) | (apply fitI; rfl) | (apply cellsI; rfl) | (apply szI; rfl) | (apply guardI; kernel_rfl) | (apply WhenQ.mk; (try (conv => whnf)); rotate_left; (try (conv => whnf)); rotate_right) | (with_reducible assumption) | (apply not_of; with_reducible assumption) | (apply left_of; with_reducible assumption) | (apply left_of; apply left_of; with_reducible assumption) | (apply and_of <;> first | (with_reducible assumption) | (apply not_of; with_reducible assumption))| (refine lin_plan (by kernel_rfl) ?_; (try (conv => whnf))) | (refine ⟨_, _, rfl, idx_map (by with_reducible assumption), rfl, ?_⟩; (try (conv => whnf))) | (refine ⟨rfl, ?_⟩; (try (conv => whnf))) | (exact Nat.le_refl 1) | ((apply ex3); (focus (with_reducible assumption)); (focus (with_reducible assumption)); (try (conv => whnf))) | ((apply ex2); (focus (with_reducible assumption)); (try (conv => whnf))) | fail)
    · exact Int.natCast_nonneg 32
    · have h1 : 2 ^ 32 ≤ x := by have := of_decide_eq_true h; omega
      refine ⟨⟨(x >>> 32, 32), shr_lt hx, by omega, len64_shift h1⟩, ?_⟩
      (refine Wk.of ?_ ?_ rfl rfl rfl <;> (repeat' (first | (exact trivial) | (exact WkD.same _) | (exact WkO.same _ _ rfl) | (exact WkD.any _) | (exact WkD.nil _ (Or.inl rfl)) | (exact WkD.nil _ (Or.inr rfl)) | (exact WkD.fz _ _ _ rfl (Or.inl ⟨_, rfl⟩) rfl) | (exact WkD.fz _ _ _ rfl (Or.inr rfl) rfl) | (refine WkD.int ?_) | (exact WkD.new' rfl rfl rfl) | (exact WkO.new _ _ rfl) | (refine WkO.vars rfl ?_) | (with_reducible rfl) | (exact rfl) | (refine ⟨?_, ?_⟩) | ((refine wrapA ?_ ?_ ?_); (focus (simp; done)); (focus ((try dsimp only); omega)); (focus ((try dsimp only); omega))) | fail)))
      exact shrU_nat x 32 (by omega)
    · have h1 : ¬ 2 ^ 32 ≤ x := by have := of_decide_eq_false h; omega
      refine ⟨⟨(x, 0), by omega, by omega, by simp⟩, ?_⟩
      (refine Wk.of ?_ ?_ rfl rfl rfl <;> (repeat' (first | (exact trivial) | (exact WkD.same _) | (exact WkO.same _ _ rfl) | (exact WkD.any _) | (exact WkD.nil _ (Or.inl rfl)) | (exact WkD.nil _ (Or.inr rfl)) | (exact WkD.fz _ _ _ rfl (Or.inl ⟨_, rfl⟩) rfl) | (exact WkD.fz _ _ _ rfl (Or.inr rfl) rfl) | (refine WkD.int ?_) | (exact WkD.new' rfl rfl rfl) | (exact WkO.new _ _ rfl) | (refine WkO.vars rfl ?_) | (with_reducible rfl) | (exact rfl) | (refine ⟨?_, ?_⟩) | ((refine wrapA ?_ ?_ ?_); (focus (simp; done)); (focus ((try dsimp only); omega)); (focus ((try dsimp only); omega))) | fail)))
  rintro ⟨⟨y, n⟩, hy, hn, he⟩
  simp only at hy hn he
  refine ⟨{ q : Nat × Nat // q.1 < 2 ^ 16 ∧ q.2 ≤ 48 ∧ len64 x = q.2 + len64 q.1 }, fun q => [(0, .pv (u64 q.1.1)), (2, .pv (i64 q.1.2))], fun _ => 0, fun _ => [], ?_, ?_⟩
  · (try (conv => whnf)); repeat' (first | (apply And.intro <;> (try (conv => whnf))) | (intro h; first | (with_reducible exact tf0 h) | (with_reducible exact ft0 h) | (with_reducible exact nt0 h) | (with_reducible exact nf0 h) | (exact litz h rfl) | (with_reducible exact tf h (by with_reducible assumption)) | (with_reducible exact tf (by with_reducible assumption) h) | (try (conv => whnf))) | (with_reducible rfl) | (apply True.intro) | (apply infoT; rfl) | (apply bleI; rfl) | (apply fitI; rfl) | (apply cellsI; rfl) | (apply szI; rfl) | (apply guardI; kernel_rfl) | (apply WhenQ.mk; (try (conv => whnf)); rotate_left; (try (conv => whnf)); rotate_right) | (with_reducible assumption) | (apply not_of; with_reducible assumption) | (apply left_of; with_reducible assumption) | (apply left_of; apply left_of; with_reducible assumption) | (apply and_of <;> first | (with_reducible assumption) | (apply not_of; with_reducible assumption))| (refine lin_plan (by kernel_rfl) ?_; (try (conv => whnf))) | (refine ⟨_, _, rfl, idx_map (by with_reducible assumption), rfl, ?_⟩; (try (conv => whnf))) | (refine ⟨rfl, ?_⟩; (try (conv => whnf))) | (exact Nat.le_refl 1) | ((apply ex3); (focus (with_reducible assumption)); (focus (with_reducible assumption)); (try (conv => whnf))) | ((apply ex2); (focus (with_reducible assumption)); (try (conv => whnf))) | fail)
    · exact Int.natCast_nonneg 16
    · have h1 : 2 ^ 16 ≤ y := by have := of_decide_eq_true h; simp only at *; omega
      have h2 := len64_shift h1
      refine ⟨⟨(y >>> 16, n + 16), shr_lt hy, by simp only at *; omega, by simp only at *; omega⟩, ?_⟩
      (refine Wk.of ?_ ?_ rfl rfl rfl <;> (repeat' (first | (exact trivial) | (exact WkD.same _) | (exact WkO.same _ _ rfl) | (exact WkD.any _) | (exact WkD.nil _ (Or.inl rfl)) | (exact WkD.nil _ (Or.inr rfl)) | (exact WkD.fz _ _ _ rfl (Or.inl ⟨_, rfl⟩) rfl) | (exact WkD.fz _ _ _ rfl (Or.inr rfl) rfl) | (refine WkD.int ?_) | (exact WkD.new' rfl rfl rfl) | (exact WkO.new _ _ rfl) | (refine WkO.vars rfl ?_) | (with_reducible rfl) | (exact rfl) | (refine ⟨?_, ?_⟩) | ((refine wrapA ?_ ?_ ?_); (focus (simp; done)); (focus ((try dsimp only); omega)); (focus ((try dsimp only); omega))) | fail)))
      all_goals first | exact shrU_nat y 16 (by omega) | exact (wrap_small (by simp only at *; omega) (by simp only at *; omega)).trans (by simp)
    · have h1 : ¬ 2 ^ 16 ≤ y := by have := of_decide_eq_false h; simp only at *; omega
      exact ⟨⟨(y, n), by simp only at *; omega, by simp only at *; omega, he⟩, (by refine Wk.of ?_ ?_ rfl rfl rfl <;> (repeat' (first | (exact trivial) | (exact WkD.same _) | (exact WkO.same _ _ rfl) | (exact WkD.any _) | (exact WkD.nil _ (Or.inl rfl)) | (exact WkD.nil _ (Or.inr rfl)) | (exact WkD.fz _ _ _ rfl (Or.inl ⟨_, rfl⟩) rfl) | (exact WkD.fz _ _ _ rfl (Or.inr rfl) rfl) | (refine WkD.int ?_) | (exact WkD.new' rfl rfl rfl) | (exact WkO.new _ _ rfl) | (refine WkO.vars rfl ?_) | (with_reducible rfl) | (exact rfl) | (refine ⟨?_, ?_⟩) | ((refine wrapA ?_ ?_ ?_); (focus (simp; done)); (focus ((try dsimp only); omega)); (focus ((try dsimp only); omega))) | fail)))⟩
  rintro ⟨⟨y, n⟩, hy, hn, he⟩
  simp only at hy hn he
  refine ⟨{ q : Nat × Nat // q.1 < 2 ^ 8 ∧ q.2 ≤ 56 ∧ len64 x = q.2 + len64 q.1 }, fun q => [(0, .pv (u64 q.1.1)), (2, .pv (i64 q.1.2))], fun _ => 0, fun _ => [], ?_, ?_⟩
  · (try (conv => whnf)); repeat' (first | (apply And.intro <;> (try (conv => whnf))) | (intro h; first | (with_reducible exact tf0 h) | (with_reducible exact ft0 h) | (with_reducible exact nt0 h) | (with_reducible exact nf0 h) | (exact litz h rfl) | (with_reducible exact tf h (by with_reducible assumption)) | (with_reducible exact tf (by with_reducible assumption) h) | (try (conv => whnf))) | (with_reducible rfl) | (apply True.intro) | (apply infoT; rfl) | (apply bleI; rfl) | (apply fitI; rfl) | (apply cellsI; rfl) | (apply szI; rfl) | (apply guardI; kernel_rfl) | (apply WhenQ.mk; (try (conv => whnf)); rotate_left; (try (conv => whnf)); rotate_right) | (with_reducible assumption) | (apply not_of; with_reducible assumption) | (apply left_of; with_reducible assumption) | (apply left_of; apply left_of; with_reducible assumption) | (apply and_of <;> first | (with_reducible assumption) | (apply not_of; with_reducible assumption))| (refine lin_plan (by kernel_rfl) ?_; (try (conv => whnf))) | (refine ⟨_, _, rfl, idx_map (by with_reducible assumption), rfl, ?_⟩; (try (conv => whnf))) | (refine ⟨rfl, ?_⟩; (try (conv => whnf))) | (exact Nat.le_refl 1) | ((apply ex3); (focus (with_reducible assumption)); (focus (with_reducible assumption)); (try (conv => whnf))) | ((apply ex2); (focus (with_reducible assumption)); (try (conv => whnf))) | fail)
    · exact Int.natCast_nonneg 8
    · have h1 : 2 ^ 8 ≤ y := by have := of_decide_eq_true h; simp only at *; omega
      have h2 := len64_shift h1
      refine ⟨⟨(y >>> 8, n + 8), shr_lt hy, by simp only at *; omega, by simp only at *; omega⟩, ?_⟩
      (refine Wk.of ?_ ?_ rfl rfl rfl <;> (repeat' (first | (exact trivial) | (exact WkD.same _) | (exact WkO.same _ _ rfl) | (exact WkD.any _) | (exact WkD.nil _ (Or.inl rfl)) | (exact WkD.nil _ (Or.inr rfl)) | (exact WkD.fz _ _ _ rfl (Or.inl ⟨_, rfl⟩) rfl) | (exact WkD.fz _ _ _ rfl (Or.inr rfl) rfl) | (refine WkD.int ?_) | (exact WkD.new' rfl rfl rfl) | (exact WkO.new _ _ rfl) | (refine WkO.vars rfl ?_) | (with_reducible rfl) | (exact rfl) | (refine ⟨?_, ?_⟩) | ((refine wrapA ?_ ?_ ?_); (focus (simp; done)); (focus ((try dsimp only); omega)); (focus ((try dsimp only); omega))) | fail)))
      all_goals first | exact shrU_nat y 8 (by omega) | exact (wrap_small (by simp only at *; omega) (by simp only at *; omega)).trans (by simp)
    · have h1 : ¬ 2 ^ 8 ≤ y := by have := of_decide_eq_false h; simp only at *; omega
      exact ⟨⟨(y, n), by simp only at *; omega, by simp only at *; omega, he⟩, (by refine Wk.of ?_ ?_ rfl rfl rfl <;> (repeat' (first | (exact trivial) | (exact WkD.same _) | (exact WkO.same _ _ rfl) | (exact WkD.any _) | (exact WkD.nil _ (Or.inl rfl)) | (exact WkD.nil _ (Or.inr rfl)) | (exact WkD.fz _ _ _ rfl (Or.inl ⟨_, rfl⟩) rfl) | (exact WkD.fz _ _ _ rfl (Or.inr rfl) rfl) | (refine WkD.int ?_) | (exact WkD.new' rfl rfl rfl) | (exact WkO.new _ _ rfl) | (refine WkO.vars rfl ?_) | (with_reducible rfl) | (exact rfl) | (refine ⟨?_, ?_⟩) | ((refine wrapA ?_ ?_ ?_); (focus (simp; done)); (focus ((try dsimp only); omega)); (focus ((try dsimp only); omega))) | fail)))⟩
  rintro ⟨⟨y, n⟩, hy, hn, he⟩
  simp only at hy hn he
  (try (conv => whnf)); repeat' (first | (apply And.intro <;> (try (conv => whnf))) | (intro h; first | (with_reducible exact tf0 h) | (with_reducible exact ft0 h) | (with_reducible exact nt0 h) | (with_reducible exact nf0 h) | (exact litz h rfl) | (with_reducible exact tf h (by with_reducible assumption)) | (with_reducible exact tf (by with_reducible assumption) h) | (try (conv => whnf))) | (with_reducible rfl) | (apply True.intro) | (apply infoT; rfl) | (apply bleI; rfl) | (apply fitI; rfl) | (apply cellsI; rfl) | (apply szI; rfl) | (apply guardI; kernel_rfl) | (apply WhenQ.mk; (try (conv => whnf)); rotate_left; (try (conv => whnf)); rotate_right) | (with_reducible assumption) | (apply not_of; with_reducible assumption) | (apply left_of; with_reducible assumption) | (apply left_of; apply left_of; with_reducible assumption) | (apply and_of <;> first | (with_reducible assumption) | (apply not_of; with_reducible assumption))| (refine lin_plan (by kernel_rfl) ?_; (try (conv => whnf))) | (refine ⟨_, _, rfl, idx_map (by with_reducible assumption), rfl, ?_⟩; (try (conv => whnf))) | (refine ⟨rfl, ?_⟩; (try (conv => whnf))) | (exact Nat.le_refl 1) | ((apply ex3); (focus (with_reducible assumption)); (focus (with_reducible assumption)); (try (conv => whnf))) | ((apply ex2); (focus (with_reducible assumption)); (try (conv => whnf))) | fail)
  refine ⟨y, len64 y, ?_, ?_, ?_⟩
  · have h1 : IntKind.wrap .u8 (y : Int) = (y : Int) % 256 := rfl
    exact h1.trans (Int.emod_eq_of_lt (by omega) (by omega))
  · clear he
    revert y
    decide +kernel
  (try (conv => whnf)); repeat' (first | (apply And.intro <;> (try (conv => whnf))) | (intro h; first | (with_reducible exact tf0 h) | (with_reducible exact ft0 h) | (with_reducible exact nt0 h) | (with_reducible exact nf0 h) | (exact litz h rfl) | (with_reducible exact tf h (by with_reducible assumption)) | (with_reducible exact tf (by with_reducible assumption) h) | (try (conv => whnf))) | (with_reducible rfl) | (apply True.intro) | (apply infoT; rfl) | (apply bleI; rfl) | (apply fitI; rfl) | (apply cellsI; rfl) | (apply szI; rfl) | (apply guardI; kernel_rfl) | (apply WhenQ.mk; (try (conv => whnf)); rotate_left; (try (conv => whnf)); rotate_right) | (with_reducible assumption) | (apply not_of; with_reducible assumption) | (apply left_of; with_reducible assumption) | (apply left_of; apply left_of; with_reducible assumption) | (apply and_of <;> first | (with_reducible assumption) | (apply not_of; with_reducible assumption))| (refine lin_plan (by kernel_rfl) ?_; (try (conv => whnf))) | (refine ⟨_, _, rfl, idx_map (by with_reducible assumption), rfl, ?_⟩; (try (conv => whnf))) | (refine ⟨rfl, ?_⟩; (try (conv => whnf))) | (exact Nat.le_refl 1) | ((apply ex3); (focus (with_reducible assumption)); (focus (with_reducible assumption)); (try (conv => whnf))) | ((apply ex2); (focus (with_reducible assumption)); (try (conv => whnf))) | fail)
  have h8 : len64 y ≤ 8 := len64_lt.2 hy
  refine le_int ?_
  have e : IntKind.wrap .i64 ((n : Int) + IntKind.wrap .i64 (len64 y : Nat)) = ((len64 x : Nat) : Int) := by
    rw [wrap_small (n := ((len64 y : Nat) : Int)) (by omega) (by omega), wrap_small (by omega) (by omega), he]; omega
  exact e
theorem ac_changes (l : List Asg) (ag n : Int) (hl : l.length ≤ 1000) : PureFn Try.prog 69 [postPV l, .int .i64 ag, .int .i64 n] (.int .i64 (chgs ag n l (-1))) := by
  refine PureFn.intro mixed (fn := Try.f69) rfl rfl rfl fun M w0 => ?_
  (try (conv => whnf)); repeat' (first | (apply And.intro <;> (try (conv => whnf))) | (intro h; first | (with_reducible exact tf0 h) | (with_reducible exact ft0 h) | (with_reducible exact nt0 h) | (with_reducible exact nf0 h) | (exact litz h rfl) | (with_reducible exact tf h (by with_reducible assumption)) | (with_reducible exact tf (by with_reducible assumption) h) | (try (conv => whnf))) | (with_reducible rfl) | (apply True.intro) | (apply infoT; rfl) | (apply bleI; rfl) | (apply fitI; rfl) | (apply cellsI; rfl) | (apply szI; rfl) | (apply guardI; kernel_rfl) | (apply WhenQ.mk; (try (conv => whnf)); rotate_left; (try (conv => whnf)); rotate_right) | (with_reducible assumption) | (apply not_of; with_reducible assumption) | (apply left_of; with_reducible assumption) | (apply left_of; apply left_of; with_reducible assumption) | (apply and_of <;> first | (with_reducible assumption) | (apply not_of; with_reducible assumption))| (refine lin_plan (by kernel_rfl) ?_; (try (conv => whnf))) | (refine ⟨_, _, rfl, idx_map (by with_reducible assumption), rfl, ?_⟩; (try (conv => whnf))) | (refine ⟨rfl, ?_⟩; (try (conv => whnf))) | (exact Nat.le_refl 1) | ((apply ex3); (focus (with_reducible assumption)); (focus (with_reducible assumption)); (try (conv => whnf))) | ((apply ex2); (focus (with_reducible assumption)); (try (conv => whnf))) | fail)
  refine ⟨{ q : Nat × Int // q.1 ≤ l.length ∧ chgs ag n l (-1) = chgs ag n (l.drop q.1) q.2 }, fun q => [(1, .pv (.int .i64 ag)), (2, .pv (.int .i64 n)), (7, .pv (.int .i64 q.1.2)), (11, .pv (postPV l)), (12, .pv (i64 (l.map Asg.pv).length)), (13, .pv (i64 q.1.1))], fun _ => 0, fun _ => [], fun q => l.length - q.1.1, ⟨⟨(0, -1), Nat.zero_le _, rfl⟩, (by refine Wk.of ?_ ?_ rfl rfl rfl <;> (repeat' (first | (exact trivial) | (exact WkD.same _) | (exact WkO.same _ _ rfl) | (exact WkD.any _) | (exact WkD.nil _ (Or.inl rfl)) | (exact WkD.nil _ (Or.inr rfl)) | (exact WkD.fz _ _ _ rfl (Or.inl ⟨_, rfl⟩) rfl) | (exact WkD.fz _ _ _ rfl (Or.inr rfl) rfl) | (refine WkD.int ?_) | (exact WkD.new' rfl rfl rfl) | (exact WkO.new _ _ rfl) | (refine WkO.vars rfl ?_) | (with_reducible rfl) | (exact rfl) | (refine ⟨?_, ?_⟩) | ((refine wrapA ?_ ?_ ?_); (focus (simp; done)); (focus ((try dsimp only); omega)); (focus ((try dsimp only); omega))) | fail)))⟩, ?_⟩
  rintro ⟨⟨i, last⟩, hi, he⟩
  simp only at hi he
  (try (conv => whnf)); repeat' (first | (apply And.intro <;> (try (conv => whnf))) | (intro h; first | (with_reducible exact tf0 h) | (with_reducible exact ft0 h) | (with_reducible exact nt0 h) | (with_reducible exact nf0 h) | (exact litz h rfl) | (with_reducible exact tf h (by with_reducible assumption)) | (with_reducible exact tf (by with_reducible assumption) h) | (try (conv => whnf))) | (with_reducible rfl) | (apply True.intro) | (apply infoT; rfl) | (apply bleI; rfl) | (apply fitI; rfl) | (apply cellsI; rfl) | (apply szI; rfl) | (apply guardI; kernel_rfl) | (apply WhenQ.mk; (try (conv => whnf)); rotate_left; (try (conv => whnf)); rotate_right) | (with_reducible assumption) | (apply not_of; with_reducible assumption) | (apply left_of; with_reducible assumption) | (apply left_of; apply left_of; with_reducible assumption) | (apply and_of <;> first | (with_reducible assumption) | (apply not_of; with_reducible assumption))| (refine lin_plan (by kernel_rfl) ?_; (try (conv => whnf))) | (refine ⟨_, _, rfl, idx_map (by with_reducible assumption), rfl, ?_⟩; (try (conv => whnf))) | (refine ⟨rfl, ?_⟩; (try (conv => whnf))) | (exact Nat.le_refl 1) | ((apply ex3); (focus (with_reducible assumption)); (focus (with_reducible assumption)); (try (conv => whnf))) | ((apply ex2); (focus (with_reducible assumption)); (try (conv => whnf))) | fail)
  · have hi' : i < l.length := by simpa using lt_dec h
    have hn : l[i]? = some l[i] := List.getElem?_eq_getElem hi'
    have hS := ac_static l[i].to ag n
    rw [chgs_drop hi'] at he
    refine ⟨_, _, rfl, idx_map hn, rfl, ?_⟩
    (try (conv => whnf)); repeat' (first | (apply And.intro <;> (try (conv => whnf))) | (intro h; first | (with_reducible exact tf0 h) | (with_reducible exact ft0 h) | (with_reducible exact nt0 h) | (with_reducible exact nf0 h) | (exact litz h rfl) | (with_reducible exact tf h (by with_reducible assumption)) | (with_reducible exact tf (by with_reducible assumption) h) | (try (conv => whnf))) | (with_reducible rfl) | (apply True.intro) | (apply infoT; rfl) | (apply bleI; rfl) | (apply fitI; rfl) | (apply cellsI; rfl) | (apply szI; rfl) | (apply guardI; kernel_rfl) | (apply WhenQ.mk; (try (conv => whnf)); rotate_left; (try (conv => whnf)); rotate_right) | (with_reducible assumption) | (apply not_of; with_reducible assumption) | (apply left_of; with_reducible assumption) | (apply left_of; apply left_of; with_reducible assumption) | (apply and_of <;> first | (with_reducible assumption) | (apply not_of; with_reducible assumption))| (refine lin_plan (by kernel_rfl) ?_; (try (conv => whnf))) | (refine ⟨_, _, rfl, idx_map (by with_reducible assumption), rfl, ?_⟩; (try (conv => whnf))) | (refine ⟨rfl, ?_⟩; (try (conv => whnf))) | (exact Nat.le_refl 1) | ((apply ex3); (focus (with_reducible assumption)); (focus (with_reducible assumption)); (try (conv => whnf))) | ((apply ex2); (focus (with_reducible assumption)); (try (conv => whnf))) | (refine PureFn.dcq (f := 68) rfl ?_; (try (conv => whnf))) | ((refine ⟨_, _, hS, ?_, ?_⟩); (focus (first | (refine ⟨?_, ?_, ?_, trivial⟩ <;> first | (exact PLe.refl _) | (exact PLe.nil)) | (exact trivial))); (try (conv => whnf))) | (refine ⟨_, (by (conv => whnf); exact hS), rfl, ?_⟩; (try (conv => whnf))) | fail)
    · refine le_int ?_
      rw [he, show (bif decide (l[i].fact < 0) then true else decide (l[i].fact ≥ n)) = true from h]; rfl
    · rename_i h1
      refine le_int ?_
      rw [he, show (bif decide (l[i].fact < 0) then true else decide (l[i].fact ≥ n)) = false from h1, show decide (l[i].fact ≤ last) = true from h]; rfl
    · rename_i h2 h1
      refine le_int ?_
      rw [he, show (bif decide (l[i].fact < 0) then true else decide (l[i].fact ≥ n)) = false from h2, show decide (l[i].fact ≤ last) = false from h1, h]; rfl
    · rename_i h2 h1
      rw [show (bif decide (l[i].fact < 0) then true else decide (l[i].fact ≥ n)) = false from h2, show decide (l[i].fact ≤ last) = false from h1, h] at he
      exact ⟨⟨(i + 1, l[i].fact), hi', he⟩, by show l.length - (i + 1) < l.length - i; omega, (by refine Wk.of ?_ ?_ rfl rfl rfl <;> (repeat' (first | (exact trivial) | (exact WkD.same _) | (exact WkO.same _ _ rfl) | (exact WkD.any _) | (exact WkD.nil _ (Or.inl rfl)) | (exact WkD.nil _ (Or.inr rfl)) | (exact WkD.fz _ _ _ rfl (Or.inl ⟨_, rfl⟩) rfl) | (exact WkD.fz _ _ _ rfl (Or.inr rfl) rfl) | (refine WkD.int ?_) | (exact WkD.new' rfl rfl rfl) | (exact WkO.new _ _ rfl) | (refine WkO.vars rfl ?_) | (with_reducible rfl) | (exact rfl) | (refine ⟨?_, ?_⟩) | ((refine wrapA ?_ ?_ ?_); (focus (simp; done)); (focus ((try dsimp only); omega)); (focus ((try dsimp only); omega))) | fail)))⟩
  · have hi' : i = l.length := by have := ge_dec (m := (l.map Asg.pv).length) h (by simpa using hi); simpa using this
    subst hi'
    rw [he, List.drop_eq_nil_of_le (Nat.le_refl _)]; exact .refl _
def HS (a : Act) : List (Nat × DObj) := [(0, .var (cellsA a)), (1, .var [.pv (i64 a.pre.length)])]
theorem shp1 {M : Nat → Prop} {w0 : World} (a : Act) (r : List Nat) (base : Nat) (K : DV → DH → Prop) (hK : K (.pv (.bool ((r.length : Int) != (a.pre.length : Int)))) ⟨2, 0, base, objsOf (HS a)⟩) :
    DC Try.prog M w0 131 [.pv (rowPV r), .ref 1 0] ⟨2, 0, base, objsOf (HS a)⟩ K := by
  refine DC.intro mixed (fn := Try.f131) rfl rfl rfl ?_
  have e : ((r.map u64).length : Int) = (r.length : Int) := by simp
  rw [← e] at hK
  (try (conv => whnf)); repeat' (first | (apply And.intro <;> (try (conv => whnf))) | (intro h; first | (with_reducible exact tf0 h) | (with_reducible exact ft0 h) | (with_reducible exact nt0 h) | (with_reducible exact nf0 h) | (exact litz h rfl) | (with_reducible exact tf h (by with_reducible assumption)) | (with_reducible exact tf (by with_reducible assumption) h) | (try (conv => whnf))) | (with_reducible rfl) | (apply True.intro) | (apply infoT; rfl) | (apply bleI; rfl) | (apply fitI; rfl) | (apply cellsI; rfl) | (apply szI; rfl) | (apply guardI; kernel_rfl) | (apply WhenQ.mk; (try (conv => whnf)); rotate_left; (try (conv => whnf)); rotate_right) | (with_reducible assumption) | (apply not_of; with_reducible assumption) | (apply left_of; with_reducible assumption) | (apply left_of; apply left_of; with_reducible assumption) | (apply and_of <;> first | (with_reducible assumption) | (apply not_of; with_reducible assumption))| (refine lin_plan (by kernel_rfl) ?_; (try (conv => whnf))) | (refine ⟨_, _, rfl, idx_map (by with_reducible assumption), rfl, ?_⟩; (try (conv => whnf))) | (refine ⟨rfl, ?_⟩; (try (conv => whnf))) | (exact Nat.le_refl 1) | ((apply ex3); (focus (with_reducible assumption)); (focus (with_reducible assumption)); (try (conv => whnf))) | ((apply ex2); (focus (with_reducible assumption)); (try (conv => whnf))) | fail)
  exact hK
theorem idx_S {M : Nat → Prop} {w0 : World} (a : Act) (rows : List (List Nat)) (hl : rows.length ≤ 1000) (hr : ∀ r, r ∈ rows → True) (base : Nat) (K : DV → DH → Prop) (hK : ∀ r : Int, decide (r ≥ 0) = rows.any (fun r => ((r.length : Int) != (a.pre.length : Int))) → K (.pv (.int .i64 r)) ⟨2, 0, base, objsOf (HS a)⟩) :
    DC Try.prog M w0 133 [.pv (.sl (rows.map rowPV)), .clo 131 [] [.ref 1 0]] ⟨2, 0, base, objsOf (HS a)⟩ K := by
  refine DC.weaken (DC.intro mixed (fn := Try.f133) rfl rfl rfl ?_)
  (try (conv => whnf)); repeat' (first | (apply And.intro <;> (try (conv => whnf))) | (intro h; first | (with_reducible exact tf0 h) | (with_reducible exact ft0 h) | (with_reducible exact nt0 h) | (with_reducible exact nf0 h) | (exact litz h rfl) | (with_reducible exact tf h (by with_reducible assumption)) | (with_reducible exact tf (by with_reducible assumption) h) | (try (conv => whnf))) | (with_reducible rfl) | (apply True.intro) | (apply infoT; rfl) | (apply bleI; rfl) | (apply fitI; rfl) | (apply cellsI; rfl) | (apply szI; rfl) | (apply guardI; kernel_rfl) | (apply WhenQ.mk; (try (conv => whnf)); rotate_left; (try (conv => whnf)); rotate_right) | (with_reducible assumption) | (apply not_of; with_reducible assumption) | (apply left_of; with_reducible assumption) | (apply left_of; apply left_of; with_reducible assumption) | (apply and_of <;> first | (with_reducible assumption) | (apply not_of; with_reducible assumption))| (refine lin_plan (by kernel_rfl) ?_; (try (conv => whnf))) | (refine ⟨_, _, rfl, idx_map (by with_reducible assumption), rfl, ?_⟩; (try (conv => whnf))) | (refine ⟨rfl, ?_⟩; (try (conv => whnf))) | (exact Nat.le_refl 1) | ((apply ex3); (focus (with_reducible assumption)); (focus (with_reducible assumption)); (try (conv => whnf))) | ((apply ex2); (focus (with_reducible assumption)); (try (conv => whnf))) | fail)
  refine ⟨{ i : Nat // i ≤ rows.length ∧ (rows.take i).any (fun r => ((r.length : Int) != (a.pre.length : Int))) = false }, fun i => [(0, .pv (.sl (rows.map rowPV))), (1, .clo 131 [] [.ref 1 0]), (7, .pv (i64 (rows.map rowPV).length)), (8, .pv (i64 i.1))], fun _ => 2, fun _ => HS a, fun i => rows.length - i.1, ⟨⟨0, Nat.zero_le _, rfl⟩, (by refine Wk.of ?_ ?_ rfl rfl rfl <;> (repeat' (first | (exact trivial) | (exact WkD.same _) | (exact WkO.same _ _ rfl) | (exact WkD.any _) | (exact WkD.nil _ (Or.inl rfl)) | (exact WkD.nil _ (Or.inr rfl)) | (exact WkD.fz _ _ _ rfl (Or.inl ⟨_, rfl⟩) rfl) | (exact WkD.fz _ _ _ rfl (Or.inr rfl) rfl) | (refine WkD.int ?_) | (exact WkD.new' rfl rfl rfl) | (exact WkO.new _ _ rfl) | (refine WkO.vars rfl ?_) | (with_reducible rfl) | (exact rfl) | (refine ⟨?_, ?_⟩) | ((refine wrapA ?_ ?_ ?_); (focus (simp; done)); (focus ((try dsimp only); omega)); (focus ((try dsimp only); omega))) | fail)))⟩, ?_⟩
  rintro ⟨i, hi, ha⟩
  (try (conv => whnf)); repeat' (first | (apply And.intro <;> (try (conv => whnf))) | (intro h; first | (with_reducible exact tf0 h) | (with_reducible exact ft0 h) | (with_reducible exact nt0 h) | (with_reducible exact nf0 h) | (exact litz h rfl) | (with_reducible exact tf h (by with_reducible assumption)) | (with_reducible exact tf (by with_reducible assumption) h) | (try (conv => whnf))) | (with_reducible rfl) | (apply True.intro) | (apply infoT; rfl) | (apply bleI; rfl) | (apply fitI; rfl) | (apply cellsI; rfl) | (apply szI; rfl) | (apply guardI; kernel_rfl) | (apply WhenQ.mk; (try (conv => whnf)); rotate_left; (try (conv => whnf)); rotate_right) | (with_reducible assumption) | (apply not_of; with_reducible assumption) | (apply left_of; with_reducible assumption) | (apply left_of; apply left_of; with_reducible assumption) | (apply and_of <;> first | (with_reducible assumption) | (apply not_of; with_reducible assumption))| (refine lin_plan (by kernel_rfl) ?_; (try (conv => whnf))) | (refine ⟨_, _, rfl, idx_map (by with_reducible assumption), rfl, ?_⟩; (try (conv => whnf))) | (refine ⟨rfl, ?_⟩; (try (conv => whnf))) | (exact Nat.le_refl 1) | ((apply ex3); (focus (with_reducible assumption)); (focus (with_reducible assumption)); (try (conv => whnf))) | ((apply ex2); (focus (with_reducible assumption)); (try (conv => whnf))) | fail)
  · have hi' : i < rows.length := by simpa using lt_dec h
    have hn : rows[i]? = some rows[i] := List.getElem?_eq_getElem hi'
    have _hri := hr _ (List.getElem_mem hi')
    refine ⟨_, _, rfl, idx_map hn, rfl, ?_⟩
    (try (conv => whnf)); repeat' (first | (apply And.intro <;> (try (conv => whnf))) | (intro h; first | (with_reducible exact tf0 h) | (with_reducible exact ft0 h) | (with_reducible exact nt0 h) | (with_reducible exact nf0 h) | (exact litz h rfl) | (with_reducible exact tf h (by with_reducible assumption)) | (with_reducible exact tf (by with_reducible assumption) h) | (try (conv => whnf))) | (with_reducible rfl) | (apply True.intro) | (apply infoT; rfl) | (apply bleI; rfl) | (apply fitI; rfl) | (apply cellsI; rfl) | (apply szI; rfl) | (apply guardI; kernel_rfl) | (apply WhenQ.mk; (try (conv => whnf)); rotate_left; (try (conv => whnf)); rotate_right) | (with_reducible assumption) | (apply not_of; with_reducible assumption) | (apply left_of; with_reducible assumption) | (apply left_of; apply left_of; with_reducible assumption) | (apply and_of <;> first | (with_reducible assumption) | (apply not_of; with_reducible assumption))| (refine lin_plan (by kernel_rfl) ?_; (try (conv => whnf))) | (refine ⟨_, _, rfl, idx_map (by with_reducible assumption), rfl, ?_⟩; (try (conv => whnf))) | (refine ⟨rfl, ?_⟩; (try (conv => whnf))) | (exact Nat.le_refl 1) | ((apply ex3); (focus (with_reducible assumption)); (focus (with_reducible assumption)); (try (conv => whnf))) | ((apply ex2); (focus (with_reducible assumption)); (try (conv => whnf))) | fail)
    refine shp1 a rows[i] _ _ ?_
    (try (conv => whnf)); repeat' (first | (apply And.intro <;> (try (conv => whnf))) | (intro h; first | (with_reducible exact tf0 h) | (with_reducible exact ft0 h) | (with_reducible exact nt0 h) | (with_reducible exact nf0 h) | (exact litz h rfl) | (with_reducible exact tf h (by with_reducible assumption)) | (with_reducible exact tf (by with_reducible assumption) h) | (try (conv => whnf))) | (with_reducible rfl) | (apply True.intro) | (apply infoT; rfl) | (apply bleI; rfl) | (apply fitI; rfl) | (apply cellsI; rfl) | (apply szI; rfl) | (apply guardI; kernel_rfl) | (apply WhenQ.mk; (try (conv => whnf)); rotate_left; (try (conv => whnf)); rotate_right) | (with_reducible assumption) | (apply not_of; with_reducible assumption) | (apply left_of; with_reducible assumption) | (apply left_of; apply left_of; with_reducible assumption) | (apply and_of <;> first | (with_reducible assumption) | (apply not_of; with_reducible assumption))| (refine lin_plan (by kernel_rfl) ?_; (try (conv => whnf))) | (refine ⟨_, _, rfl, idx_map (by with_reducible assumption), rfl, ?_⟩; (try (conv => whnf))) | (refine ⟨rfl, ?_⟩; (try (conv => whnf))) | (exact Nat.le_refl 1) | ((apply ex3); (focus (with_reducible assumption)); (focus (with_reducible assumption)); (try (conv => whnf))) | ((apply ex2); (focus (with_reducible assumption)); (try (conv => whnf))) | fail)
    · have e : rows.any (fun r => ((r.length : Int) != (a.pre.length : Int))) = true := any_at hi' h
      exact ⟨.pv (.int .i64 (i : Int)), 2, HS a, (by refine Wk.of ?_ ?_ rfl rfl rfl <;> (repeat' (first | (exact trivial) | (exact WkD.same _) | (exact WkO.same _ _ rfl) | (exact WkD.any _) | (exact WkD.nil _ (Or.inl rfl)) | (exact WkD.nil _ (Or.inr rfl)) | (exact WkD.fz _ _ _ rfl (Or.inl ⟨_, rfl⟩) rfl) | (exact WkD.fz _ _ _ rfl (Or.inr rfl) rfl) | (refine WkD.int ?_) | (exact WkD.new' rfl rfl rfl) | (exact WkO.new _ _ rfl) | (refine WkO.vars rfl ?_) | (with_reducible rfl) | (exact rfl) | (refine ⟨?_, ?_⟩) | ((refine wrapA ?_ ?_ ?_); (focus (simp; done)); (focus ((try dsimp only); omega)); (focus ((try dsimp only); omega))) | fail))), hK i (by rw [e]; simp)⟩
    · exact ⟨⟨i + 1, hi', any_take hi' ha h⟩, by show rows.length - (i + 1) < rows.length - i; omega, (by refine Wk.of ?_ ?_ rfl rfl rfl <;> (repeat' (first | (exact trivial) | (exact WkD.same _) | (exact WkO.same _ _ rfl) | (exact WkD.any _) | (exact WkD.nil _ (Or.inl rfl)) | (exact WkD.nil _ (Or.inr rfl)) | (exact WkD.fz _ _ _ rfl (Or.inl ⟨_, rfl⟩) rfl) | (exact WkD.fz _ _ _ rfl (Or.inr rfl) rfl) | (refine WkD.int ?_) | (exact WkD.new' rfl rfl rfl) | (exact WkO.new _ _ rfl) | (refine WkO.vars rfl ?_) | (with_reducible rfl) | (exact rfl) | (refine ⟨?_, ?_⟩) | ((refine wrapA ?_ ?_ ?_); (focus (simp; done)); (focus ((try dsimp only); omega)); (focus ((try dsimp only); omega))) | fail)))⟩
  · have hi' : i = rows.length := by have := ge_dec (m := (rows.map rowPV).length) h (by simpa using hi); simpa using this
    subst hi'
    rw [List.take_length] at ha
    exact ⟨.pv (.int .i64 (-1)), 2, HS a, (by refine Wk.of ?_ ?_ rfl rfl rfl <;> (repeat' (first | (exact trivial) | (exact WkD.same _) | (exact WkO.same _ _ rfl) | (exact WkD.any _) | (exact WkD.nil _ (Or.inl rfl)) | (exact WkD.nil _ (Or.inr rfl)) | (exact WkD.fz _ _ _ rfl (Or.inl ⟨_, rfl⟩) rfl) | (exact WkD.fz _ _ _ rfl (Or.inr rfl) rfl) | (refine WkD.int ?_) | (exact WkD.new' rfl rfl rfl) | (exact WkO.new _ _ rfl) | (refine WkO.vars rfl ?_) | (with_reducible rfl) | (exact rfl) | (refine ⟨?_, ?_⟩) | ((refine wrapA ?_ ?_ ?_); (focus (simp; done)); (focus ((try dsimp only); omega)); (focus ((try dsimp only); omega))) | fail))), hK (-1) (by rw [ha]; decide)⟩
theorem cont_S {M : Nat → Prop} {w0 : World} (a : Act) (rows : List (List Nat)) (hl : rows.length ≤ 1000) (hr : ∀ r, r ∈ rows → True) (base : Nat) (K : DV → DH → Prop) (hK : K (.pv (.bool (rows.any (fun r => ((r.length : Int) != (a.pre.length : Int)))))) ⟨2, 0, base, objsOf (HS a)⟩) :
    DC Try.prog M w0 73 [.pv (.sl (rows.map rowPV)), .clo 131 [] [.ref 1 0]] ⟨2, 0, base, objsOf (HS a)⟩ K := by
  refine DC.intro mixed (fn := Try.f73) rfl rfl rfl ?_
  (try (conv => whnf)); repeat' (first | (apply And.intro <;> (try (conv => whnf))) | (intro h; first | (with_reducible exact tf0 h) | (with_reducible exact ft0 h) | (with_reducible exact nt0 h) | (with_reducible exact nf0 h) | (exact litz h rfl) | (with_reducible exact tf h (by with_reducible assumption)) | (with_reducible exact tf (by with_reducible assumption) h) | (try (conv => whnf))) | (with_reducible rfl) | (apply True.intro) | (apply infoT; rfl) | (apply bleI; rfl) | (apply fitI; rfl) | (apply cellsI; rfl) | (apply szI; rfl) | (apply guardI; kernel_rfl) | (apply WhenQ.mk; (try (conv => whnf)); rotate_left; (try (conv => whnf)); rotate_right) | (with_reducible assumption) | (apply not_of; with_reducible assumption) | (apply left_of; with_reducible assumption) | (apply left_of; apply left_of; with_reducible assumption) | (apply and_of <;> first | (with_reducible assumption) | (apply not_of; with_reducible assumption))| (refine lin_plan (by kernel_rfl) ?_; (try (conv => whnf))) | (refine ⟨_, _, rfl, idx_map (by with_reducible assumption), rfl, ?_⟩; (try (conv => whnf))) | (refine ⟨rfl, ?_⟩; (try (conv => whnf))) | (exact Nat.le_refl 1) | ((apply ex3); (focus (with_reducible assumption)); (focus (with_reducible assumption)); (try (conv => whnf))) | ((apply ex2); (focus (with_reducible assumption)); (try (conv => whnf))) | fail)
  refine idx_S a rows hl hr 2 _ fun r e => ?_
  rw [← e] at hK
  (try (conv => whnf)); repeat' (first | (apply And.intro <;> (try (conv => whnf))) | (intro h; first | (with_reducible exact tf0 h) | (with_reducible exact ft0 h) | (with_reducible exact nt0 h) | (with_reducible exact nf0 h) | (exact litz h rfl) | (with_reducible exact tf h (by with_reducible assumption)) | (with_reducible exact tf (by with_reducible assumption) h) | (try (conv => whnf))) | (with_reducible rfl) | (apply True.intro) | (apply infoT; rfl) | (apply bleI; rfl) | (apply fitI; rfl) | (apply cellsI; rfl) | (apply szI; rfl) | (apply guardI; kernel_rfl) | (apply WhenQ.mk; (try (conv => whnf)); rotate_left; (try (conv => whnf)); rotate_right) | (with_reducible assumption) | (apply not_of; with_reducible assumption) | (apply left_of; with_reducible assumption) | (apply left_of; apply left_of; with_reducible assumption) | (apply and_of <;> first | (with_reducible assumption) | (apply not_of; with_reducible assumption))| (refine lin_plan (by kernel_rfl) ?_; (try (conv => whnf))) | (refine ⟨_, _, rfl, idx_map (by with_reducible assumption), rfl, ?_⟩; (try (conv => whnf))) | (refine ⟨rfl, ?_⟩; (try (conv => whnf))) | (exact Nat.le_refl 1) | ((apply ex3); (focus (with_reducible assumption)); (focus (with_reducible assumption)); (try (conv => whnf))) | ((apply ex2); (focus (with_reducible assumption)); (try (conv => whnf))) | fail)
  exact hK
theorem ac_shape (a : Act) (ag : Int) (hf : Fit a) (hl : a.rel.length ≤ 1000) : PureFn Try.prog 67 [a.pv, .int .i64 ag] (.int .i64 (shapeI a ag)) := by
  refine PureFn.introC [2, 4, 6] mixed (fn := Try.f67) rfl rfl rfl fun M w0 => ?_
  have e1 : ((a.pre.map fpv).length : Int) = (a.pre.length : Int) := by simp
  have e2 : ((a.post.map postPV).length : Int) = (a.post.length : Int) := by simp
  have e3 : ((a.rel.map rowPV).length : Int) = (a.rel.length : Int) := by simp
  (try (conv => whnf)); repeat' (first | (apply And.intro <;> (try (conv => whnf))) | (intro h; first | (with_reducible exact tf0 h) | (with_reducible exact ft0 h) | (with_reducible exact nt0 h) | (with_reducible exact nf0 h) | (exact litz h rfl) | (with_reducible exact tf h (by with_reducible assumption)) | (with_reducible exact tf (by with_reducible assumption) h) | (try (conv => whnf))) | (with_reducible rfl) | (apply True.intro) | (apply infoT; rfl) | (apply bleI; rfl) | (apply fitI; rfl) | (apply cellsI; rfl) | (apply szI; rfl) | (apply guardI; kernel_rfl) | (apply WhenQ.mk; (try (conv => whnf)); rotate_left; (try (conv => whnf)); rotate_right) | (with_reducible assumption) | (apply not_of; with_reducible assumption) | (apply left_of; with_reducible assumption) | (apply left_of; apply left_of; with_reducible assumption) | (apply and_of <;> first | (with_reducible assumption) | (apply not_of; with_reducible assumption))| (refine lin_plan (by kernel_rfl) ?_; (try (conv => whnf))) | (refine ⟨_, _, rfl, idx_map (by with_reducible assumption), rfl, ?_⟩; (try (conv => whnf))) | (refine ⟨rfl, ?_⟩; (try (conv => whnf))) | (exact Nat.le_refl 1) | ((apply ex3); (focus (with_reducible assumption)); (focus (with_reducible assumption)); (try (conv => whnf))) | ((apply ex2); (focus (with_reducible assumption)); (try (conv => whnf))) | fail)
  refine ⟨Unit, fun _ => [(1, .pv (.int .i64 ag)), (2, .ref 0 0), (5, .ref 1 0)], fun _ => 2, fun _ => HS a, ?_, ?_⟩
  · (try (conv => whnf)); repeat' (first | (apply And.intro <;> (try (conv => whnf))) | (intro h; first | (with_reducible exact tf0 h) | (with_reducible exact ft0 h) | (with_reducible exact nt0 h) | (with_reducible exact nf0 h) | (exact litz h rfl) | (with_reducible exact tf h (by with_reducible assumption)) | (with_reducible exact tf (by with_reducible assumption) h) | (try (conv => whnf))) | (with_reducible rfl) | (apply True.intro) | (apply infoT; rfl) | (apply bleI; rfl) | (apply fitI; rfl) | (apply cellsI; rfl) | (apply szI; rfl) | (apply guardI; kernel_rfl) | (apply WhenQ.mk; (try (conv => whnf)); rotate_left; (try (conv => whnf)); rotate_right) | (with_reducible assumption) | (apply not_of; with_reducible assumption) | (apply left_of; with_reducible assumption) | (apply left_of; apply left_of; with_reducible assumption) | (apply and_of <;> first | (with_reducible assumption) | (apply not_of; with_reducible assumption))| (refine lin_plan (by kernel_rfl) ?_; (try (conv => whnf))) | (refine ⟨_, _, rfl, idx_map (by with_reducible assumption), rfl, ?_⟩; (try (conv => whnf))) | (refine ⟨rfl, ?_⟩; (try (conv => whnf))) | (exact Nat.le_refl 1) | ((apply ex3); (focus (with_reducible assumption)); (focus (with_reducible assumption)); (try (conv => whnf))) | ((apply ex2); (focus (with_reducible assumption)); (try (conv => whnf))) | fail)
    refine ⟨(), ?_⟩
    (refine Wk.of ?_ ?_ rfl rfl rfl <;> (repeat' (first | (exact trivial) | (exact WkD.same _) | (exact WkO.same _ _ rfl) | (exact WkD.any _) | (exact WkD.nil _ (Or.inl rfl)) | (exact WkD.nil _ (Or.inr rfl)) | (exact WkD.fz _ _ _ rfl (Or.inl ⟨_, rfl⟩) rfl) | (exact WkD.fz _ _ _ rfl (Or.inr rfl) rfl) | (refine WkD.int ?_) | (exact WkD.new' rfl rfl rfl) | (exact WkO.new _ _ rfl) | (refine WkO.vars rfl ?_) | (with_reducible rfl) | (exact rfl) | (refine ⟨?_, ?_⟩) | ((refine wrapA ?_ ?_ ?_); (focus (simp; done)); (focus ((try dsimp only); omega)); (focus ((try dsimp only); omega))) | fail)))
    exact e1
  rintro ⟨⟩
  refine ⟨{ _x : Unit // (bif decide ((a.pre.length : Int) < 1) then true else decide ((a.pre.length : Int) > 8)) = false }, fun _ => [(1, .pv (.int .i64 ag)), (2, .ref 0 0), (5, .ref 1 0)], fun _ => 2, fun _ => HS a, ?_, ?_⟩
  · (try (conv => whnf)); repeat' (first | (apply And.intro <;> (try (conv => whnf))) | (intro h; first | (with_reducible exact tf0 h) | (with_reducible exact ft0 h) | (with_reducible exact nt0 h) | (with_reducible exact nf0 h) | (exact litz h rfl) | (with_reducible exact tf h (by with_reducible assumption)) | (with_reducible exact tf (by with_reducible assumption) h) | (try (conv => whnf))) | (with_reducible rfl) | (apply True.intro) | (apply infoT; rfl) | (apply bleI; rfl) | (apply fitI; rfl) | (apply cellsI; rfl) | (apply szI; rfl) | (apply guardI; kernel_rfl) | (apply WhenQ.mk; (try (conv => whnf)); rotate_left; (try (conv => whnf)); rotate_right) | (with_reducible assumption) | (apply not_of; with_reducible assumption) | (apply left_of; with_reducible assumption) | (apply left_of; apply left_of; with_reducible assumption) | (apply and_of <;> first | (with_reducible assumption) | (apply not_of; with_reducible assumption))| (refine lin_plan (by kernel_rfl) ?_; (try (conv => whnf))) | (refine ⟨_, _, rfl, idx_map (by with_reducible assumption), rfl, ?_⟩; (try (conv => whnf))) | (refine ⟨rfl, ?_⟩; (try (conv => whnf))) | (exact Nat.le_refl 1) | ((apply ex3); (focus (with_reducible assumption)); (focus (with_reducible assumption)); (try (conv => whnf))) | ((apply ex2); (focus (with_reducible assumption)); (try (conv => whnf))) | fail)
    · refine le_int ?_
      rw [shapeI, show (bif decide ((a.pre.length : Int) < 1) then true else decide ((a.pre.length : Int) > 8)) = true from h]; rfl
    · exact ⟨⟨(), h⟩, (by refine Wk.of ?_ ?_ rfl rfl rfl <;> (repeat' (first | (exact trivial) | (exact WkD.same _) | (exact WkO.same _ _ rfl) | (exact WkD.any _) | (exact WkD.nil _ (Or.inl rfl)) | (exact WkD.nil _ (Or.inr rfl)) | (exact WkD.fz _ _ _ rfl (Or.inl ⟨_, rfl⟩) rfl) | (exact WkD.fz _ _ _ rfl (Or.inr rfl) rfl) | (refine WkD.int ?_) | (exact WkD.new' rfl rfl rfl) | (exact WkO.new _ _ rfl) | (refine WkO.vars rfl ?_) | (with_reducible rfl) | (exact rfl) | (refine ⟨?_, ?_⟩) | ((refine wrapA ?_ ?_ ?_); (focus (simp; done)); (focus ((try dsimp only); omega)); (focus ((try dsimp only); omega))) | fail)))⟩
  rintro ⟨_, h1⟩
  refine ⟨{ _x : Unit // (bif (bif (a.post.length : Int) != (a.pre.length : Int) then true else (a.rel.length : Int) != ag) then true else rowsBad a.rel a.pre.length) = false }, fun _ => [(2, .ref 0 0), (5, .ref 1 0)], fun _ => 2, fun _ => HS a, ?_, ?_⟩
  · (try (conv => whnf)); repeat' (first | (apply And.intro <;> (try (conv => whnf))) | (intro h; first | (with_reducible exact tf0 h) | (with_reducible exact ft0 h) | (with_reducible exact nt0 h) | (with_reducible exact nf0 h) | (exact litz h rfl) | (with_reducible exact tf h (by with_reducible assumption)) | (with_reducible exact tf (by with_reducible assumption) h) | (try (conv => whnf))) | (with_reducible rfl) | (apply True.intro) | (apply infoT; rfl) | (apply bleI; rfl) | (apply fitI; rfl) | (apply cellsI; rfl) | (apply szI; rfl) | (apply guardI; kernel_rfl) | (apply WhenQ.mk; (try (conv => whnf)); rotate_left; (try (conv => whnf)); rotate_right) | (with_reducible assumption) | (apply not_of; with_reducible assumption) | (apply left_of; with_reducible assumption) | (apply left_of; apply left_of; with_reducible assumption) | (apply and_of <;> first | (with_reducible assumption) | (apply not_of; with_reducible assumption))| (refine lin_plan (by kernel_rfl) ?_; (try (conv => whnf))) | (refine ⟨_, _, rfl, idx_map (by with_reducible assumption), rfl, ?_⟩; (try (conv => whnf))) | (refine ⟨rfl, ?_⟩; (try (conv => whnf))) | (exact Nat.le_refl 1) | ((apply ex3); (focus (with_reducible assumption)); (focus (with_reducible assumption)); (try (conv => whnf))) | ((apply ex2); (focus (with_reducible assumption)); (try (conv => whnf))) | fail)
    · refine cont_S a a.rel hl (fun _ _ => trivial) 0 _ ?_
      (try (conv => whnf)); repeat' (first | (apply And.intro <;> (try (conv => whnf))) | (intro h; first | (with_reducible exact tf0 h) | (with_reducible exact ft0 h) | (with_reducible exact nt0 h) | (with_reducible exact nf0 h) | (exact litz h rfl) | (with_reducible exact tf h (by with_reducible assumption)) | (with_reducible exact tf (by with_reducible assumption) h) | (try (conv => whnf))) | (with_reducible rfl) | (apply True.intro) | (apply infoT; rfl) | (apply bleI; rfl) | (apply fitI; rfl) | (apply cellsI; rfl) | (apply szI; rfl) | (apply guardI; kernel_rfl) | (apply WhenQ.mk; (try (conv => whnf)); rotate_left; (try (conv => whnf)); rotate_right) | (with_reducible assumption) | (apply not_of; with_reducible assumption) | (apply left_of; with_reducible assumption) | (apply left_of; apply left_of; with_reducible assumption) | (apply and_of <;> first | (with_reducible assumption) | (apply not_of; with_reducible assumption))| (refine lin_plan (by kernel_rfl) ?_; (try (conv => whnf))) | (refine ⟨_, _, rfl, idx_map (by with_reducible assumption), rfl, ?_⟩; (try (conv => whnf))) | (refine ⟨rfl, ?_⟩; (try (conv => whnf))) | (exact Nat.le_refl 1) | ((apply ex3); (focus (with_reducible assumption)); (focus (with_reducible assumption)); (try (conv => whnf))) | ((apply ex2); (focus (with_reducible assumption)); (try (conv => whnf))) | fail)
    · (try (conv => whnf)); repeat' (first | (apply And.intro <;> (try (conv => whnf))) | (intro h; first | (with_reducible exact tf0 h) | (with_reducible exact ft0 h) | (with_reducible exact nt0 h) | (with_reducible exact nf0 h) | (exact litz h rfl) | (with_reducible exact tf h (by with_reducible assumption)) | (with_reducible exact tf (by with_reducible assumption) h) | (try (conv => whnf))) | (with_reducible rfl) | (apply True.intro) | (apply infoT; rfl) | (apply bleI; rfl) | (apply fitI; rfl) | (apply cellsI; rfl) | (apply szI; rfl) | (apply guardI; kernel_rfl) | (apply WhenQ.mk; (try (conv => whnf)); rotate_left; (try (conv => whnf)); rotate_right) | (with_reducible assumption) | (apply not_of; with_reducible assumption) | (apply left_of; with_reducible assumption) | (apply left_of; apply left_of; with_reducible assumption) | (apply and_of <;> first | (with_reducible assumption) | (apply not_of; with_reducible assumption))| (refine lin_plan (by kernel_rfl) ?_; (try (conv => whnf))) | (refine ⟨_, _, rfl, idx_map (by with_reducible assumption), rfl, ?_⟩; (try (conv => whnf))) | (refine ⟨rfl, ?_⟩; (try (conv => whnf))) | (exact Nat.le_refl 1) | ((apply ex3); (focus (with_reducible assumption)); (focus (with_reducible assumption)); (try (conv => whnf))) | ((apply ex2); (focus (with_reducible assumption)); (try (conv => whnf))) | fail)
      · have h3 : (bif (bif (a.post.length : Int) != (a.pre.length : Int) then true else (a.rel.length : Int) != ag) then true else rowsBad a.rel a.pre.length) = true := by rw [← e2, ← e3]; exact h
        refine le_int ?_
        rw [shapeI, h1, h3]; rfl
      · have h3 : (bif (bif (a.post.length : Int) != (a.pre.length : Int) then true else (a.rel.length : Int) != ag) then true else rowsBad a.rel a.pre.length) = false := by rw [← e2, ← e3]; exact h
        exact ⟨⟨(), h3⟩, (by refine Wk.of ?_ ?_ rfl rfl rfl <;> (repeat' (first | (exact trivial) | (exact WkD.same _) | (exact WkO.same _ _ rfl) | (exact WkD.any _) | (exact WkD.nil _ (Or.inl rfl)) | (exact WkD.nil _ (Or.inr rfl)) | (exact WkD.fz _ _ _ rfl (Or.inl ⟨_, rfl⟩) rfl) | (exact WkD.fz _ _ _ rfl (Or.inr rfl) rfl) | (refine WkD.int ?_) | (exact WkD.new' rfl rfl rfl) | (exact WkO.new _ _ rfl) | (refine WkO.vars rfl ?_) | (with_reducible rfl) | (exact rfl) | (refine ⟨?_, ?_⟩) | ((refine wrapA ?_ ?_ ?_); (focus (simp; done)); (focus ((try dsimp only); omega)); (focus ((try dsimp only); omega))) | fail)))⟩
  rintro ⟨_, h2⟩
  have hsh : shapeI a ag = bif bitsBad a.rel a.pre.length then 2 else 0 := by rw [shapeI, h1, h2]; rfl
  have hrw : rowsBad a.rel a.pre.length = false := by
    cases h4 : rowsBad a.rel a.pre.length with
    | false => rfl
    | true =>
      rw [h4] at h2
      cases hh : (bif (a.post.length : Int) != (a.pre.length : Int) then true else (a.rel.length : Int) != ag) <;> rw [hh] at h2 <;> cases h2
  have hrow := rows_ok hrw
  have hn8 : a.pre.length ≤ 8 := by
    by_cases h6 : (a.pre.length : Int) < 1
    · omega
    · rw [decide_eq_false h6] at h1
      have := of_decide_eq_false h1
      omega
  rw [hsh]
  (try (conv => whnf)); repeat' (first | (apply And.intro <;> (try (conv => whnf))) | (intro h; first | (with_reducible exact tf0 h) | (with_reducible exact ft0 h) | (with_reducible exact nt0 h) | (with_reducible exact nf0 h) | (exact litz h rfl) | (with_reducible exact tf h (by with_reducible assumption)) | (with_reducible exact tf (by with_reducible assumption) h) | (try (conv => whnf))) | (with_reducible rfl) | (apply True.intro) | (apply infoT; rfl) | (apply bleI; rfl) | (apply fitI; rfl) | (apply cellsI; rfl) | (apply szI; rfl) | (apply guardI; kernel_rfl) | (apply WhenQ.mk; (try (conv => whnf)); rotate_left; (try (conv => whnf)); rotate_right) | (with_reducible assumption) | (apply not_of; with_reducible assumption) | (apply left_of; with_reducible assumption) | (apply left_of; apply left_of; with_reducible assumption) | (apply and_of <;> first | (with_reducible assumption) | (apply not_of; with_reducible assumption))| (refine lin_plan (by kernel_rfl) ?_; (try (conv => whnf))) | (refine ⟨_, _, rfl, idx_map (by with_reducible assumption), rfl, ?_⟩; (try (conv => whnf))) | (refine ⟨rfl, ?_⟩; (try (conv => whnf))) | (exact Nat.le_refl 1) | ((apply ex3); (focus (with_reducible assumption)); (focus (with_reducible assumption)); (try (conv => whnf))) | ((apply ex2); (focus (with_reducible assumption)); (try (conv => whnf))) | fail)
  refine ⟨{ i : Nat // i ≤ a.rel.length ∧ bitsBad (a.rel.take i) a.pre.length = false }, fun i => [(2, .ref 0 0), (5, .ref 1 0), (38, .pv (.sl (a.rel.map rowPV))), (39, .pv (i64 (a.rel.map rowPV).length)), (40, .pv (i64 i.1))], fun _ => 2, fun _ => HS a, fun i => a.rel.length - i.1, ⟨⟨0, Nat.zero_le _, rfl⟩, (by refine Wk.of ?_ ?_ rfl rfl rfl <;> (repeat' (first | (exact trivial) | (exact WkD.same _) | (exact WkO.same _ _ rfl) | (exact WkD.any _) | (exact WkD.nil _ (Or.inl rfl)) | (exact WkD.nil _ (Or.inr rfl)) | (exact WkD.fz _ _ _ rfl (Or.inl ⟨_, rfl⟩) rfl) | (exact WkD.fz _ _ _ rfl (Or.inr rfl) rfl) | (refine WkD.int ?_) | (exact WkD.new' rfl rfl rfl) | (exact WkO.new _ _ rfl) | (refine WkO.vars rfl ?_) | (with_reducible rfl) | (exact rfl) | (refine ⟨?_, ?_⟩) | ((refine wrapA ?_ ?_ ?_); (focus (simp; done)); (focus ((try dsimp only); omega)); (focus ((try dsimp only); omega))) | fail)))⟩, ?_⟩
  rintro ⟨i, hi, hb⟩
  (try (conv => whnf)); repeat' (first | (apply And.intro <;> (try (conv => whnf))) | (intro h; first | (with_reducible exact tf0 h) | (with_reducible exact ft0 h) | (with_reducible exact nt0 h) | (with_reducible exact nf0 h) | (exact litz h rfl) | (with_reducible exact tf h (by with_reducible assumption)) | (with_reducible exact tf (by with_reducible assumption) h) | (try (conv => whnf))) | (with_reducible rfl) | (apply True.intro) | (apply infoT; rfl) | (apply bleI; rfl) | (apply fitI; rfl) | (apply cellsI; rfl) | (apply szI; rfl) | (apply guardI; kernel_rfl) | (apply WhenQ.mk; (try (conv => whnf)); rotate_left; (try (conv => whnf)); rotate_right) | (with_reducible assumption) | (apply not_of; with_reducible assumption) | (apply left_of; with_reducible assumption) | (apply left_of; apply left_of; with_reducible assumption) | (apply and_of <;> first | (with_reducible assumption) | (apply not_of; with_reducible assumption))| (refine lin_plan (by kernel_rfl) ?_; (try (conv => whnf))) | (refine ⟨_, _, rfl, idx_map (by with_reducible assumption), rfl, ?_⟩; (try (conv => whnf))) | (refine ⟨rfl, ?_⟩; (try (conv => whnf))) | (exact Nat.le_refl 1) | ((apply ex3); (focus (with_reducible assumption)); (focus (with_reducible assumption)); (try (conv => whnf))) | ((apply ex2); (focus (with_reducible assumption)); (try (conv => whnf))) | fail)
  · have hi' : i < a.rel.length := by simpa using lt_dec h
    have hn : a.rel[i]? = some a.rel[i] := List.getElem?_eq_getElem hi'
    have hri := hrow _ (List.getElem_mem hi')
    have hfi := hf _ (List.getElem_mem hi')
    have hat := fun (hh : (a.rel[i]).any (fun s => decide ((len64 s : Int) > (a.pre.length : Int))) = true) => any_at (p := fun r : List Nat => r.any fun s => decide ((len64 s : Int) > (a.pre.length : Int))) hi' hh
    have htk := any_take (p := fun r : List Nat => r.any fun s => decide ((len64 s : Int) > (a.pre.length : Int))) hi' hb
    refine ⟨_, _, rfl, idx_map hn, rfl, ?_⟩
    generalize a.rel[i] = r at hn hri hfi hat htk
    (try (conv => whnf)); repeat' (first | (apply And.intro <;> (try (conv => whnf))) | (intro h; first | (with_reducible exact tf0 h) | (with_reducible exact ft0 h) | (with_reducible exact nt0 h) | (with_reducible exact nf0 h) | (exact litz h rfl) | (with_reducible exact tf h (by with_reducible assumption)) | (with_reducible exact tf (by with_reducible assumption) h) | (try (conv => whnf))) | (with_reducible rfl) | (apply True.intro) | (apply infoT; rfl) | (apply bleI; rfl) | (apply fitI; rfl) | (apply cellsI; rfl) | (apply szI; rfl) | (apply guardI; kernel_rfl) | (apply WhenQ.mk; (try (conv => whnf)); rotate_left; (try (conv => whnf)); rotate_right) | (with_reducible assumption) | (apply not_of; with_reducible assumption) | (apply left_of; with_reducible assumption) | (apply left_of; apply left_of; with_reducible assumption) | (apply and_of <;> first | (with_reducible assumption) | (apply not_of; with_reducible assumption))| (refine lin_plan (by kernel_rfl) ?_; (try (conv => whnf))) | (refine ⟨_, _, rfl, idx_map (by with_reducible assumption), rfl, ?_⟩; (try (conv => whnf))) | (refine ⟨rfl, ?_⟩; (try (conv => whnf))) | (exact Nat.le_refl 1) | ((apply ex3); (focus (with_reducible assumption)); (focus (with_reducible assumption)); (try (conv => whnf))) | ((apply ex2); (focus (with_reducible assumption)); (try (conv => whnf))) | fail)
    refine ⟨{ j : Nat // j ≤ r.length ∧ (r.take j).any (fun s => decide ((len64 s : Int) > (a.pre.length : Int))) = false }, fun j => [(2, .ref 0 0), (5, .ref 1 0), (38, .pv (.sl (a.rel.map rowPV))), (39, .pv (i64 (a.rel.map rowPV).length)), (40, .pv (i64 i)), (44, .pv (rowPV r)), (45, .pv (i64 (r.map u64).length)), (46, .pv (i64 j.1))], fun _ => 2, fun _ => HS a, fun j => r.length - j.1, ⟨⟨0, Nat.zero_le _, rfl⟩, (by refine Wk.of ?_ ?_ rfl rfl rfl <;> (repeat' (first | (exact trivial) | (exact WkD.same _) | (exact WkO.same _ _ rfl) | (exact WkD.any _) | (exact WkD.nil _ (Or.inl rfl)) | (exact WkD.nil _ (Or.inr rfl)) | (exact WkD.fz _ _ _ rfl (Or.inl ⟨_, rfl⟩) rfl) | (exact WkD.fz _ _ _ rfl (Or.inr rfl) rfl) | (refine WkD.int ?_) | (exact WkD.new' rfl rfl rfl) | (exact WkO.new _ _ rfl) | (refine WkO.vars rfl ?_) | (with_reducible rfl) | (exact rfl) | (refine ⟨?_, ?_⟩) | ((refine wrapA ?_ ?_ ?_); (focus (simp; done)); (focus ((try dsimp only); omega)); (focus ((try dsimp only); omega))) | fail)))⟩, ?_⟩
    rintro ⟨j, hj, hc⟩
    (try (conv => whnf)); repeat' (first | (apply And.intro <;> (try (conv => whnf))) | (intro h; first | (with_reducible exact tf0 h) | (with_reducible exact ft0 h) | (with_reducible exact nt0 h) | (with_reducible exact nf0 h) | (exact litz h rfl) | (with_reducible exact tf h (by with_reducible assumption)) | (with_reducible exact tf (by with_reducible assumption) h) | (try (conv => whnf))) | (with_reducible rfl) | (apply True.intro) | (apply infoT; rfl) | (apply bleI; rfl) | (apply fitI; rfl) | (apply cellsI; rfl) | (apply szI; rfl) | (apply guardI; kernel_rfl) | (apply WhenQ.mk; (try (conv => whnf)); rotate_left; (try (conv => whnf)); rotate_right) | (with_reducible assumption) | (apply not_of; with_reducible assumption) | (apply left_of; with_reducible assumption) | (apply left_of; apply left_of; with_reducible assumption) | (apply and_of <;> first | (with_reducible assumption) | (apply not_of; with_reducible assumption))| (refine lin_plan (by kernel_rfl) ?_; (try (conv => whnf))) | (refine ⟨_, _, rfl, idx_map (by with_reducible assumption), rfl, ?_⟩; (try (conv => whnf))) | (refine ⟨rfl, ?_⟩; (try (conv => whnf))) | (exact Nat.le_refl 1) | ((apply ex3); (focus (with_reducible assumption)); (focus (with_reducible assumption)); (try (conv => whnf))) | ((apply ex2); (focus (with_reducible assumption)); (try (conv => whnf))) | fail)
    · have hj' : j < r.length := by simpa using lt_dec h
      have hm : r[j]? = some r[j] := List.getElem?_eq_getElem hj'
      have hL := bits_Len64 r[j] (hfi _ (List.getElem_mem hj'))
      refine ⟨_, _, rfl, idx_map hm, rfl, ?_⟩
      (try (conv => whnf)); repeat' (first | (apply And.intro <;> (try (conv => whnf))) | (intro h; first | (with_reducible exact tf0 h) | (with_reducible exact ft0 h) | (with_reducible exact nt0 h) | (with_reducible exact nf0 h) | (exact litz h rfl) | (with_reducible exact tf h (by with_reducible assumption)) | (with_reducible exact tf (by with_reducible assumption) h) | (try (conv => whnf))) | (with_reducible rfl) | (apply True.intro) | (apply infoT; rfl) | (apply bleI; rfl) | (apply fitI; rfl) | (apply cellsI; rfl) | (apply szI; rfl) | (apply guardI; kernel_rfl) | (apply WhenQ.mk; (try (conv => whnf)); rotate_left; (try (conv => whnf)); rotate_right) | (with_reducible assumption) | (apply not_of; with_reducible assumption) | (apply left_of; with_reducible assumption) | (apply left_of; apply left_of; with_reducible assumption) | (apply and_of <;> first | (with_reducible assumption) | (apply not_of; with_reducible assumption))| (refine lin_plan (by kernel_rfl) ?_; (try (conv => whnf))) | (refine ⟨_, _, rfl, idx_map (by with_reducible assumption), rfl, ?_⟩; (try (conv => whnf))) | (refine ⟨rfl, ?_⟩; (try (conv => whnf))) | (exact Nat.le_refl 1) | ((apply ex3); (focus (with_reducible assumption)); (focus (with_reducible assumption)); (try (conv => whnf))) | ((apply ex2); (focus (with_reducible assumption)); (try (conv => whnf))) | (refine PureFn.dcq (f := 132) rfl ?_; (try (conv => whnf))) | ((refine ⟨_, _, hL, ?_, ?_⟩); (focus (first | (refine ⟨?_, trivial⟩ <;> first | (exact PLe.refl _) | (exact PLe.nil)) | (exact trivial))); (try (conv => whnf))) | (refine ⟨_, (by (conv => whnf); exact hL), rfl, ?_⟩; (try (conv => whnf))) | fail)
      · have e : r.any (fun s => decide ((len64 s : Int) > (a.pre.length : Int))) = true := any_at hj' h
        rw [show bitsBad a.rel a.pre.length = true from hat e]; exact .refl _
      · exact ⟨⟨j + 1, hj', any_take hj' hc h⟩, by show r.length - (j + 1) < r.length - j; omega, (by refine Wk.of ?_ ?_ rfl rfl rfl <;> (repeat' (first | (exact trivial) | (exact WkD.same _) | (exact WkO.same _ _ rfl) | (exact WkD.any _) | (exact WkD.nil _ (Or.inl rfl)) | (exact WkD.nil _ (Or.inr rfl)) | (exact WkD.fz _ _ _ rfl (Or.inl ⟨_, rfl⟩) rfl) | (exact WkD.fz _ _ _ rfl (Or.inr rfl) rfl) | (refine WkD.int ?_) | (exact WkD.new' rfl rfl rfl) | (exact WkO.new _ _ rfl) | (refine WkO.vars rfl ?_) | (with_reducible rfl) | (exact rfl) | (refine ⟨?_, ?_⟩) | ((refine wrapA ?_ ?_ ?_); (focus (simp; done)); (focus ((try dsimp only); omega)); (focus ((try dsimp only); omega))) | fail)))⟩
    · have hj' : j = r.length := by have := ge_dec (m := (r.map u64).length) h (by simpa using hj); simpa using this
      subst hj'
      rw [List.take_length] at hc
      exact ⟨⟨i + 1, hi', htk hc⟩, by show a.rel.length - (i + 1) < a.rel.length - i; omega, (by refine Wk.of ?_ ?_ rfl rfl rfl <;> (repeat' (first | (exact trivial) | (exact WkD.same _) | (exact WkO.same _ _ rfl) | (exact WkD.any _) | (exact WkD.nil _ (Or.inl rfl)) | (exact WkD.nil _ (Or.inr rfl)) | (exact WkD.fz _ _ _ rfl (Or.inl ⟨_, rfl⟩) rfl) | (exact WkD.fz _ _ _ rfl (Or.inr rfl) rfl) | (refine WkD.int ?_) | (exact WkD.new' rfl rfl rfl) | (exact WkO.new _ _ rfl) | (refine WkO.vars rfl ?_) | (with_reducible rfl) | (exact rfl) | (refine ⟨?_, ?_⟩) | ((refine wrapA ?_ ?_ ?_); (focus (simp; done)); (focus ((try dsimp only); omega)); (focus ((try dsimp only); omega))) | fail)))⟩
  · have hi' : i = a.rel.length := by have := ge_dec (m := (a.rel.map rowPV).length) h (by simpa using hi); simpa using this
    subst hi'
    rw [List.take_length] at hb
    rw [hb]; exact .refl _
theorem ac_Check (a : Act) (ag n : Int) (hf : Fit a) (hl : a.rel.length ≤ 1000) (hp : ∀ l, l ∈ a.post → l.length ≤ 1000) : PureFn Try.prog 15 [a.pv, .int .i64 ag, .int .i64 n] (.int .i64 (actI a ag n)) := by
  refine PureFn.introC [3, 6] mixed (fn := Try.f15) rfl rfl rfl fun M w0 => ?_
  have hS := ac_shape a ag hf hl
  (try (conv => whnf)); repeat' (first | (apply And.intro <;> (try (conv => whnf))) | (intro h; first | (with_reducible exact tf0 h) | (with_reducible exact ft0 h) | (with_reducible exact nt0 h) | (with_reducible exact nf0 h) | (exact litz h rfl) | (with_reducible exact tf h (by with_reducible assumption)) | (with_reducible exact tf (by with_reducible assumption) h) | (try (conv => whnf))) | (with_reducible rfl) | (apply True.intro) | (apply infoT; rfl) | (apply bleI; rfl) | (apply fitI; rfl) | (apply cellsI; rfl) | (apply szI; rfl) | (apply guardI; kernel_rfl) | (apply WhenQ.mk; (try (conv => whnf)); rotate_left; (try (conv => whnf)); rotate_right) | (with_reducible assumption) | (apply not_of; with_reducible assumption) | (apply left_of; with_reducible assumption) | (apply left_of; apply left_of; with_reducible assumption) | (apply and_of <;> first | (with_reducible assumption) | (apply not_of; with_reducible assumption))| (refine lin_plan (by kernel_rfl) ?_; (try (conv => whnf))) | (refine ⟨_, _, rfl, idx_map (by with_reducible assumption), rfl, ?_⟩; (try (conv => whnf))) | (refine ⟨rfl, ?_⟩; (try (conv => whnf))) | (exact Nat.le_refl 1) | ((apply ex3); (focus (with_reducible assumption)); (focus (with_reducible assumption)); (try (conv => whnf))) | ((apply ex2); (focus (with_reducible assumption)); (try (conv => whnf))) | fail)
  refine ⟨{ _x : Unit // (bif bif bif decide (ag < 0) then true else decide (ag > 4) then true else decide (n < 0) then true else decide (n > 8)) = false }, fun _ => [(1, .pv (.int .i64 ag)), (2, .pv (.int .i64 n)), (3, .ref 0 0)], fun _ => 1, fun _ => [(0, .var (cellsA a))], ?_, ?_⟩
  · (try (conv => whnf)); repeat' (first | (apply And.intro <;> (try (conv => whnf))) | (intro h; first | (with_reducible exact tf0 h) | (with_reducible exact ft0 h) | (with_reducible exact nt0 h) | (with_reducible exact nf0 h) | (exact litz h rfl) | (with_reducible exact tf h (by with_reducible assumption)) | (with_reducible exact tf (by with_reducible assumption) h) | (try (conv => whnf))) | (with_reducible rfl) | (apply True.intro) | (apply infoT; rfl) | (apply bleI; rfl) | (apply fitI; rfl) | (apply cellsI; rfl) | (apply szI; rfl) | (apply guardI; kernel_rfl) | (apply WhenQ.mk; (try (conv => whnf)); rotate_left; (try (conv => whnf)); rotate_right) | (with_reducible assumption) | (apply not_of; with_reducible assumption) | (apply left_of; with_reducible assumption) | (apply left_of; apply left_of; with_reducible assumption) | (apply and_of <;> first | (with_reducible assumption) | (apply not_of; with_reducible assumption))| (refine lin_plan (by kernel_rfl) ?_; (try (conv => whnf))) | (refine ⟨_, _, rfl, idx_map (by with_reducible assumption), rfl, ?_⟩; (try (conv => whnf))) | (refine ⟨rfl, ?_⟩; (try (conv => whnf))) | (exact Nat.le_refl 1) | ((apply ex3); (focus (with_reducible assumption)); (focus (with_reducible assumption)); (try (conv => whnf))) | ((apply ex2); (focus (with_reducible assumption)); (try (conv => whnf))) | fail)
    · refine le_int ?_
      rw [actI, show (bif bif bif decide (ag < 0) then true else decide (ag > 4) then true else decide (n < 0) then true else decide (n > 8)) = true from h]; rfl
    · exact ⟨⟨(), h⟩, (by refine Wk.of ?_ ?_ rfl rfl rfl <;> (repeat' (first | (exact trivial) | (exact WkD.same _) | (exact WkO.same _ _ rfl) | (exact WkD.any _) | (exact WkD.nil _ (Or.inl rfl)) | (exact WkD.nil _ (Or.inr rfl)) | (exact WkD.fz _ _ _ rfl (Or.inl ⟨_, rfl⟩) rfl) | (exact WkD.fz _ _ _ rfl (Or.inr rfl) rfl) | (refine WkD.int ?_) | (exact WkD.new' rfl rfl rfl) | (exact WkO.new _ _ rfl) | (refine WkO.vars rfl ?_) | (with_reducible rfl) | (exact rfl) | (refine ⟨?_, ?_⟩) | ((refine wrapA ?_ ?_ ?_); (focus (simp; done)); (focus ((try dsimp only); omega)); (focus ((try dsimp only); omega))) | fail)))⟩
  rintro ⟨_, h1⟩
  refine ⟨{ _x : Unit // (shapeI a ag != 0) = false }, fun _ => [(1, .pv (.int .i64 ag)), (2, .pv (.int .i64 n)), (3, .ref 0 0)], fun _ => 1, fun _ => [(0, .var (cellsA a))], ?_, ?_⟩
  · (try (conv => whnf)); repeat' (first | (apply And.intro <;> (try (conv => whnf))) | (intro h; first | (with_reducible exact tf0 h) | (with_reducible exact ft0 h) | (with_reducible exact nt0 h) | (with_reducible exact nf0 h) | (exact litz h rfl) | (with_reducible exact tf h (by with_reducible assumption)) | (with_reducible exact tf (by with_reducible assumption) h) | (try (conv => whnf))) | (with_reducible rfl) | (apply True.intro) | (apply infoT; rfl) | (apply bleI; rfl) | (apply fitI; rfl) | (apply cellsI; rfl) | (apply szI; rfl) | (apply guardI; kernel_rfl) | (apply WhenQ.mk; (try (conv => whnf)); rotate_left; (try (conv => whnf)); rotate_right) | (with_reducible assumption) | (apply not_of; with_reducible assumption) | (apply left_of; with_reducible assumption) | (apply left_of; apply left_of; with_reducible assumption) | (apply and_of <;> first | (with_reducible assumption) | (apply not_of; with_reducible assumption))| (refine lin_plan (by kernel_rfl) ?_; (try (conv => whnf))) | (refine ⟨_, _, rfl, idx_map (by with_reducible assumption), rfl, ?_⟩; (try (conv => whnf))) | (refine ⟨rfl, ?_⟩; (try (conv => whnf))) | (exact Nat.le_refl 1) | ((apply ex3); (focus (with_reducible assumption)); (focus (with_reducible assumption)); (try (conv => whnf))) | ((apply ex2); (focus (with_reducible assumption)); (try (conv => whnf))) | (refine PureFn.dcq (f := 67) rfl ?_; (try (conv => whnf))) | ((refine ⟨_, _, hS, ?_, ?_⟩); (focus (first | (refine ⟨?_, ?_, trivial⟩ <;> first | (exact PLe.refl _) | (exact PLe.nil)) | (exact trivial))); (try (conv => whnf))) | (refine ⟨_, (by (conv => whnf); exact hS), rfl, ?_⟩; (try (conv => whnf))) | fail)
    · refine le_int ?_
      rw [actI, h1, h]; rfl
    · exact ⟨⟨(), h⟩, (by refine Wk.of ?_ ?_ rfl rfl rfl <;> (repeat' (first | (exact trivial) | (exact WkD.same _) | (exact WkO.same _ _ rfl) | (exact WkD.any _) | (exact WkD.nil _ (Or.inl rfl)) | (exact WkD.nil _ (Or.inr rfl)) | (exact WkD.fz _ _ _ rfl (Or.inl ⟨_, rfl⟩) rfl) | (exact WkD.fz _ _ _ rfl (Or.inr rfl) rfl) | (refine WkD.int ?_) | (exact WkD.new' rfl rfl rfl) | (exact WkO.new _ _ rfl) | (refine WkO.vars rfl ?_) | (with_reducible rfl) | (exact rfl) | (refine ⟨?_, ?_⟩) | ((refine wrapA ?_ ?_ ?_); (focus (simp; done)); (focus ((try dsimp only); omega)); (focus ((try dsimp only); omega))) | fail)))⟩
  rintro ⟨_, h2⟩
  obtain ⟨_, n8, npost, _, _, _⟩ := shapeI_ok (a := a) (ag := ag) (by simpa using h2)
  have hact : actI a ag n = evs' ag n a.pre a.post := by rw [actI, h1, h2]; rfl
  rw [hact]
  (try (conv => whnf)); repeat' (first | (apply And.intro <;> (try (conv => whnf))) | (intro h; first | (with_reducible exact tf0 h) | (with_reducible exact ft0 h) | (with_reducible exact nt0 h) | (with_reducible exact nf0 h) | (exact litz h rfl) | (with_reducible exact tf h (by with_reducible assumption)) | (with_reducible exact tf (by with_reducible assumption) h) | (try (conv => whnf))) | (with_reducible rfl) | (apply True.intro) | (apply infoT; rfl) | (apply bleI; rfl) | (apply fitI; rfl) | (apply cellsI; rfl) | (apply szI; rfl) | (apply guardI; kernel_rfl) | (apply WhenQ.mk; (try (conv => whnf)); rotate_left; (try (conv => whnf)); rotate_right) | (with_reducible assumption) | (apply not_of; with_reducible assumption) | (apply left_of; with_reducible assumption) | (apply left_of; apply left_of; with_reducible assumption) | (apply and_of <;> first | (with_reducible assumption) | (apply not_of; with_reducible assumption))| (refine lin_plan (by kernel_rfl) ?_; (try (conv => whnf))) | (refine ⟨_, _, rfl, idx_map (by with_reducible assumption), rfl, ?_⟩; (try (conv => whnf))) | (refine ⟨rfl, ?_⟩; (try (conv => whnf))) | (exact Nat.le_refl 1) | ((apply ex3); (focus (with_reducible assumption)); (focus (with_reducible assumption)); (try (conv => whnf))) | ((apply ex2); (focus (with_reducible assumption)); (try (conv => whnf))) | fail)
  refine ⟨{ i : Nat // i ≤ a.pre.length ∧ evs' ag n a.pre a.post = evs' ag n (a.pre.drop i) (a.post.drop i) }, fun i => [(1, .pv (.int .i64 ag)), (2, .pv (.int .i64 n)), (3, .ref 0 0), (33, .pv (.sl (a.pre.map fpv))), (34, .pv (i64 (a.pre.map fpv).length)), (35, .pv (i64 i.1))], fun _ => 1, fun _ => [(0, .var (cellsA a))], fun i => a.pre.length - i.1, ⟨⟨0, Nat.zero_le _, rfl⟩, (by refine Wk.of ?_ ?_ rfl rfl rfl <;> (repeat' (first | (exact trivial) | (exact WkD.same _) | (exact WkO.same _ _ rfl) | (exact WkD.any _) | (exact WkD.nil _ (Or.inl rfl)) | (exact WkD.nil _ (Or.inr rfl)) | (exact WkD.fz _ _ _ rfl (Or.inl ⟨_, rfl⟩) rfl) | (exact WkD.fz _ _ _ rfl (Or.inr rfl) rfl) | (refine WkD.int ?_) | (exact WkD.new' rfl rfl rfl) | (exact WkO.new _ _ rfl) | (refine WkO.vars rfl ?_) | (with_reducible rfl) | (exact rfl) | (refine ⟨?_, ?_⟩) | ((refine wrapA ?_ ?_ ?_); (focus (simp; done)); (focus ((try dsimp only); omega)); (focus ((try dsimp only); omega))) | fail)))⟩, ?_⟩
  rintro ⟨i, hi, he⟩
  (try (conv => whnf)); repeat' (first | (apply And.intro <;> (try (conv => whnf))) | (intro h; first | (with_reducible exact tf0 h) | (with_reducible exact ft0 h) | (with_reducible exact nt0 h) | (with_reducible exact nf0 h) | (exact litz h rfl) | (with_reducible exact tf h (by with_reducible assumption)) | (with_reducible exact tf (by with_reducible assumption) h) | (try (conv => whnf))) | (with_reducible rfl) | (apply True.intro) | (apply infoT; rfl) | (apply bleI; rfl) | (apply fitI; rfl) | (apply cellsI; rfl) | (apply szI; rfl) | (apply guardI; kernel_rfl) | (apply WhenQ.mk; (try (conv => whnf)); rotate_left; (try (conv => whnf)); rotate_right) | (with_reducible assumption) | (apply not_of; with_reducible assumption) | (apply left_of; with_reducible assumption) | (apply left_of; apply left_of; with_reducible assumption) | (apply and_of <;> first | (with_reducible assumption) | (apply not_of; with_reducible assumption))| (refine lin_plan (by kernel_rfl) ?_; (try (conv => whnf))) | (refine ⟨_, _, rfl, idx_map (by with_reducible assumption), rfl, ?_⟩; (try (conv => whnf))) | (refine ⟨rfl, ?_⟩; (try (conv => whnf))) | (exact Nat.le_refl 1) | ((apply ex3); (focus (with_reducible assumption)); (focus (with_reducible assumption)); (try (conv => whnf))) | ((apply ex2); (focus (with_reducible assumption)); (try (conv => whnf))) | fail)
  · have hi' : i < a.pre.length := by simpa using lt_dec h
    have hn : a.pre[i]? = some a.pre[i] := List.getElem?_eq_getElem hi'
    have hm : a.post[i]? = some a.post[i] := List.getElem?_eq_getElem (by omega)
    have hT := ac_static a.pre[i] ag n
    have hC := ac_changes a.post[i] ag n (hp _ (List.getElem_mem (by omega)))
    rw [evs_drop hi' (by omega)] at he
    refine ⟨_, _, rfl, idx_map hn, rfl, ?_⟩
    (try (conv => whnf)); repeat' (first | (apply And.intro <;> (try (conv => whnf))) | (intro h; first | (with_reducible exact tf0 h) | (with_reducible exact ft0 h) | (with_reducible exact nt0 h) | (with_reducible exact nf0 h) | (exact litz h rfl) | (with_reducible exact tf h (by with_reducible assumption)) | (with_reducible exact tf (by with_reducible assumption) h) | (try (conv => whnf))) | (with_reducible rfl) | (apply True.intro) | (apply infoT; rfl) | (apply bleI; rfl) | (apply fitI; rfl) | (apply cellsI; rfl) | (apply szI; rfl) | (apply guardI; kernel_rfl) | (apply WhenQ.mk; (try (conv => whnf)); rotate_left; (try (conv => whnf)); rotate_right) | (with_reducible assumption) | (apply not_of; with_reducible assumption) | (apply left_of; with_reducible assumption) | (apply left_of; apply left_of; with_reducible assumption) | (apply and_of <;> first | (with_reducible assumption) | (apply not_of; with_reducible assumption))| (refine lin_plan (by kernel_rfl) ?_; (try (conv => whnf))) | (refine ⟨_, _, rfl, idx_map (by with_reducible assumption), rfl, ?_⟩; (try (conv => whnf))) | (refine ⟨rfl, ?_⟩; (try (conv => whnf))) | (exact Nat.le_refl 1) | ((apply ex3); (focus (with_reducible assumption)); (focus (with_reducible assumption)); (try (conv => whnf))) | ((apply ex2); (focus (with_reducible assumption)); (try (conv => whnf))) | (refine PureFn.dcq (f := 68) rfl ?_; (try (conv => whnf))) | (refine PureFn.dcq (f := 69) rfl ?_; (try (conv => whnf))) | ((refine ⟨_, _, hT, ?_, ?_⟩); (focus (first | (refine ⟨?_, ?_, ?_, trivial⟩ <;> first | (exact PLe.refl _) | (exact PLe.nil)) | (exact trivial))); (try (conv => whnf))) | (refine ⟨_, (by (conv => whnf); exact hT), rfl, ?_⟩; (try (conv => whnf))) | ((refine ⟨_, _, hC, ?_, ?_⟩); (focus (first | (refine ⟨?_, ?_, ?_, trivial⟩ <;> first | (exact PLe.refl _) | (exact PLe.nil)) | (exact trivial))); (try (conv => whnf))) | (refine ⟨_, (by (conv => whnf); exact hC), rfl, ?_⟩; (try (conv => whnf))) | fail)
    · refine le_int ?_
      rw [he, h]; rfl
    · rename_i h3
      refine le_int ?_
      rw [he, h3, h]; rfl
    · rename_i h3
      rw [h3, h] at he
      exact ⟨⟨i + 1, hi', he⟩, by show a.pre.length - (i + 1) < a.pre.length - i; omega, (by refine Wk.of ?_ ?_ rfl rfl rfl <;> (repeat' (first | (exact trivial) | (exact WkD.same _) | (exact WkO.same _ _ rfl) | (exact WkD.any _) | (exact WkD.nil _ (Or.inl rfl)) | (exact WkD.nil _ (Or.inr rfl)) | (exact WkD.fz _ _ _ rfl (Or.inl ⟨_, rfl⟩) rfl) | (exact WkD.fz _ _ _ rfl (Or.inr rfl) rfl) | (refine WkD.int ?_) | (exact WkD.new' rfl rfl rfl) | (exact WkO.new _ _ rfl) | (refine WkO.vars rfl ?_) | (with_reducible rfl) | (exact rfl) | (refine ⟨?_, ?_⟩) | ((refine wrapA ?_ ?_ ?_); (focus (simp; done)); (focus ((try dsimp only); omega)); (focus ((try dsimp only); omega))) | fail)))⟩
  · have hi' : i = a.pre.length := by have := ge_dec (m := (a.pre.map fpv).length) h (by simpa using hi); simpa using this
    subst hi'
    rw [he, List.drop_eq_nil_of_le (Nat.le_refl _)]; exact .refl _
theorem ac_alone (a : Act) (hf : Fit a) (hl : a.rel.length ≤ 1000) (hp : ∀ l, l ∈ a.post → l.length ≤ 1000) : PureFn Try.prog 71 [a.pv] (.int .i64 (aloneI a)) := by
  refine PureFn.intro mixed (fn := Try.f71) rfl rfl rfl fun M w0 => ?_
  have hC := ac_Check a (((a.rel.map rowPV).length : Nat) : Int) 8 hf hl hp
  have e3 : ((a.rel.map rowPV).length : Int) = (a.rel.length : Int) := by simp
  (try (conv => whnf)); repeat' (first | (apply And.intro <;> (try (conv => whnf))) | (intro h; first | (with_reducible exact tf0 h) | (with_reducible exact ft0 h) | (with_reducible exact nt0 h) | (with_reducible exact nf0 h) | (exact litz h rfl) | (with_reducible exact tf h (by with_reducible assumption)) | (with_reducible exact tf (by with_reducible assumption) h) | (try (conv => whnf))) | (with_reducible rfl) | (apply True.intro) | (apply infoT; rfl) | (apply bleI; rfl) | (apply fitI; rfl) | (apply cellsI; rfl) | (apply szI; rfl) | (apply guardI; kernel_rfl) | (apply WhenQ.mk; (try (conv => whnf)); rotate_left; (try (conv => whnf)); rotate_right) | (with_reducible assumption) | (apply not_of; with_reducible assumption) | (apply left_of; with_reducible assumption) | (apply left_of; apply left_of; with_reducible assumption) | (apply and_of <;> first | (with_reducible assumption) | (apply not_of; with_reducible assumption))| (refine lin_plan (by kernel_rfl) ?_; (try (conv => whnf))) | (refine ⟨_, _, rfl, idx_map (by with_reducible assumption), rfl, ?_⟩; (try (conv => whnf))) | (refine ⟨rfl, ?_⟩; (try (conv => whnf))) | (exact Nat.le_refl 1) | ((apply ex3); (focus (with_reducible assumption)); (focus (with_reducible assumption)); (try (conv => whnf))) | ((apply ex2); (focus (with_reducible assumption)); (try (conv => whnf))) | (refine PureFn.dcq (f := 15) rfl ?_; (try (conv => whnf))) | ((refine ⟨_, _, hC, ?_, ?_⟩); (focus (first | (refine ⟨?_, ?_, ?_, trivial⟩ <;> first | (exact PLe.refl _) | (exact PLe.nil)) | (exact trivial))); (try (conv => whnf))) | (refine ⟨_, (by (conv => whnf); exact hC), rfl, ?_⟩; (try (conv => whnf))) | fail)
  refine le_int ?_
  rw [aloneI, ← e3]
end Go.Proofs.Ytibenjpkinhjhaa
