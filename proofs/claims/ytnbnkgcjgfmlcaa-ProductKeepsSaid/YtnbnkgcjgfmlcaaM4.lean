/- Parts of the proof, one after the other: Formulas: nodes. Formulas: checks. Formulas: the canonical list (plain). Formulas: what the walk keeps. Formulas: the closure 'finish' of compact. Formulas: compact, Sub, Compact, Size. The layer Dv, part 21: helps of the walk. -/
import Derived.Test.YtnbnkgcjgfmlcaaProg
import Derived.Test.YtnbnkgcjgfmlcaaM3
set_option maxRecDepth 100000
set_option maxHeartbeats 2000000
namespace Go.Proofs.Ytnbnkgcjgfmlcaa
open Go Go.Dv

theorem mixed : Try.prog.follows .mixedOrders = true := by kernel_rfl

structure Nd where
  op : Int
  i : Int
  e : Int
  g : Int
  x : Int
  y : Int
  deriving DecidableEq

def Nd.pv (n : Nd) : PV := .agg [.int .i64 n.op, .int .i64 n.i, .int .i64 n.e, .int .i64 n.g, .int .i64 n.x, .int .i64 n.y]

def usesX (op : Int) : Bool := decide (4 ≤ op) && decide (op ≤ 21)
def usesY (op : Int) : Bool := decide (5 ≤ op) && decide (op ≤ 8) || op == 13 || op == 14 || op == 16 || op == 19 || op == 21
def isAgent (op : Int) : Bool := op == 9 || op == 10 || op == 14 || op == 15
def isGroup (op : Int) : Bool := decide (11 ≤ op) && decide (op ≤ 13)
/-- The error of a node at a position. -/
def nodeErr (n : Nd) (at_ : Int) : Int :=
  bif bif decide (n.op < 1) then true else decide (n.op > 21) then 10
  else bif bif bif usesX n.op then bif decide (n.x < 0) then true else decide (n.x ≥ at_) else false then true else bif !usesX n.op then n.x != 0 else false then 3
  else bif bif bif usesY n.op then bif decide (n.y < 0) then true else decide (n.y ≥ at_) else false then true else bif !usesY n.op then n.y != 0 else false then 3
  else bif bif bif bif !(bif bif n.op == 3 then true else isAgent n.op then true else n.op == 17) then n.i != 0 else false then true else bif n.op != 17 then n.e != 0 else false then true else bif !isGroup n.op then n.g != 0 else false then 3
  else bif bif bif n.op == 3 then bif decide (n.i < 0) then true else decide (n.i ≥ 8) else false then true else bif isAgent n.op then bif decide (n.i < 0) then true else decide (n.i ≥ 4) else false then 2
  else bif bif n.op == 17 then bif bif bif decide (n.i < 0) then true else decide (n.i ≥ 8) then true else decide (n.e < 0) then true else decide (n.e ≥ 8) else false then 2
  else bif bif isGroup n.op then bif decide (n.g < 1) then true else decide (n.g ≥ 16) else false then 2
  else 0

theorem ref_UsesX (op : Int) : PureFn Try.prog 136 [.int .i64 op] (.bool (usesX op)) := by
  refine PureFn.intro mixed (fn := Try.f136) rfl rfl rfl fun M w0 => ?_
  (try conv=>whnf);repeat' (first|(apply And.intro<;>try conv=>whnf)|(intro h;first|(with_reducible first|exact tf0 h|exact ft0 h|exact nt0 h|exact nf0 h)|exact litz h rfl|(with_reducible first|exact tf h (by assumption)|exact tf (by assumption) h)|try conv=>whnf)|with_reducible rfl|apply True.intro|((first|apply infoT|apply bleI|apply fitI|apply cellsI|apply szI);rfl)|(apply guardI;kernel_rfl)|(apply WhenQ.mk;(try conv=>whnf);rotate_left;(try conv=>whnf);rotate_right)|(with_reducible first|assumption|(apply not_of;assumption)|(apply left_of;assumption)|(apply left_of;apply left_of;assumption)|(apply and_of<;>first|assumption|(apply not_of;assumption)))|(refine lin_plan (by kernel_rfl) ?_;try conv=>whnf)|(refine ⟨_, _, rfl, idx_map (by with_reducible assumption), rfl, ?_⟩;try conv=>whnf)|(refine ⟨rfl, ?_⟩;try conv=>whnf)|exact Nat.le_refl 1|((first|(apply ex3;(focus with_reducible assumption);(focus with_reducible assumption))|(apply ex2;(focus with_reducible assumption)));try conv=>whnf)|fail)
  all_goals (refine le_bool ?_; simp_all [usesX]; try omega)

theorem ref_UsesY (op : Int) : PureFn Try.prog 137 [.int .i64 op] (.bool (usesY op)) := by
  refine PureFn.intro mixed (fn := Try.f137) rfl rfl rfl fun M w0 => ?_
  (try conv=>whnf);repeat' (first|(apply And.intro<;>try conv=>whnf)|(intro h;first|(with_reducible first|exact tf0 h|exact ft0 h|exact nt0 h|exact nf0 h)|exact litz h rfl|(with_reducible first|exact tf h (by assumption)|exact tf (by assumption) h)|try conv=>whnf)|with_reducible rfl|apply True.intro|((first|apply infoT|apply bleI|apply fitI|apply cellsI|apply szI);rfl)|(apply guardI;kernel_rfl)|(apply WhenQ.mk;(try conv=>whnf);rotate_left;(try conv=>whnf);rotate_right)|(with_reducible first|assumption|(apply not_of;assumption)|(apply left_of;assumption)|(apply left_of;apply left_of;assumption)|(apply and_of<;>first|assumption|(apply not_of;assumption)))|(refine lin_plan (by kernel_rfl) ?_;try conv=>whnf)|(refine ⟨_, _, rfl, idx_map (by with_reducible assumption), rfl, ?_⟩;try conv=>whnf)|(refine ⟨rfl, ?_⟩;try conv=>whnf)|exact Nat.le_refl 1|((first|(apply ex3;(focus with_reducible assumption);(focus with_reducible assumption))|(apply ex2;(focus with_reducible assumption)));try conv=>whnf)|fail)
  all_goals (refine le_bool ?_; simp_all [usesY]; try omega)

theorem ref_agent (op : Int) : PureFn Try.prog 138 [.int .i64 op] (.bool (isAgent op)) := by
  refine PureFn.intro mixed (fn := Try.f138) rfl rfl rfl fun M w0 => ?_
  (try conv=>whnf);repeat' (first|(apply And.intro<;>try conv=>whnf)|(intro h;first|(with_reducible first|exact tf0 h|exact ft0 h|exact nt0 h|exact nf0 h)|exact litz h rfl|(with_reducible first|exact tf h (by assumption)|exact tf (by assumption) h)|try conv=>whnf)|with_reducible rfl|apply True.intro|((first|apply infoT|apply bleI|apply fitI|apply cellsI|apply szI);rfl)|(apply guardI;kernel_rfl)|(apply WhenQ.mk;(try conv=>whnf);rotate_left;(try conv=>whnf);rotate_right)|(with_reducible first|assumption|(apply not_of;assumption)|(apply left_of;assumption)|(apply left_of;apply left_of;assumption)|(apply and_of<;>first|assumption|(apply not_of;assumption)))|(refine lin_plan (by kernel_rfl) ?_;try conv=>whnf)|(refine ⟨_, _, rfl, idx_map (by with_reducible assumption), rfl, ?_⟩;try conv=>whnf)|(refine ⟨rfl, ?_⟩;try conv=>whnf)|exact Nat.le_refl 1|((first|(apply ex3;(focus with_reducible assumption);(focus with_reducible assumption))|(apply ex2;(focus with_reducible assumption)));try conv=>whnf)|fail)
  all_goals (refine le_bool ?_; simp_all [isAgent]; try omega)

theorem ref_group (op : Int) : PureFn Try.prog 139 [.int .i64 op] (.bool (isGroup op)) := by
  refine PureFn.intro mixed (fn := Try.f139) rfl rfl rfl fun M w0 => ?_
  (try conv=>whnf);repeat' (first|(apply And.intro<;>try conv=>whnf)|(intro h;first|(with_reducible first|exact tf0 h|exact ft0 h|exact nt0 h|exact nf0 h)|exact litz h rfl|(with_reducible first|exact tf h (by assumption)|exact tf (by assumption) h)|try conv=>whnf)|with_reducible rfl|apply True.intro|((first|apply infoT|apply bleI|apply fitI|apply cellsI|apply szI);rfl)|(apply guardI;kernel_rfl)|(apply WhenQ.mk;(try conv=>whnf);rotate_left;(try conv=>whnf);rotate_right)|(with_reducible first|assumption|(apply not_of;assumption)|(apply left_of;assumption)|(apply left_of;apply left_of;assumption)|(apply and_of<;>first|assumption|(apply not_of;assumption)))|(refine lin_plan (by kernel_rfl) ?_;try conv=>whnf)|(refine ⟨_, _, rfl, idx_map (by with_reducible assumption), rfl, ?_⟩;try conv=>whnf)|(refine ⟨rfl, ?_⟩;try conv=>whnf)|exact Nat.le_refl 1|((first|(apply ex3;(focus with_reducible assumption);(focus with_reducible assumption))|(apply ex2;(focus with_reducible assumption)));try conv=>whnf)|fail)
  all_goals (refine le_bool ?_; simp_all [isGroup]; try omega)

theorem ref_node (n : Nd) (at_ : Int) : PureFn Try.prog 131 [n.pv, .int .i64 at_] (.int .i64 (nodeErr n at_)) := by
  refine PureFn.intro mixed (fn := Try.f131) rfl rfl rfl fun M w0 => ?_
  (try conv=>whnf);repeat' (first|(apply And.intro<;>try conv=>whnf)|(intro h;first|(with_reducible first|exact tf0 h|exact ft0 h|exact nt0 h|exact nf0 h)|exact litz h rfl|(with_reducible first|exact tf h (by assumption)|exact tf (by assumption) h)|try conv=>whnf)|with_reducible rfl|apply True.intro|((first|apply infoT|apply bleI|apply fitI|apply cellsI|apply szI);rfl)|(apply guardI;kernel_rfl)|(apply WhenQ.mk;(try conv=>whnf);rotate_left;(try conv=>whnf);rotate_right)|(with_reducible first|assumption|(apply not_of;assumption)|(apply left_of;assumption)|(apply left_of;apply left_of;assumption)|(apply and_of<;>first|assumption|(apply not_of;assumption)))|(refine lin_plan (by kernel_rfl) ?_;try conv=>whnf)|(refine ⟨_, _, rfl, idx_map (by with_reducible assumption), rfl, ?_⟩;try conv=>whnf)|(refine ⟨rfl, ?_⟩;try conv=>whnf)|exact Nat.le_refl 1|((first|(apply ex3;(focus with_reducible assumption);(focus with_reducible assumption))|(apply ex2;(focus with_reducible assumption)));try conv=>whnf)|(refine PureFn.dcq (f := 136) rfl ?_;try conv=>whnf)|(refine PureFn.dcq (f := 137) rfl ?_;try conv=>whnf)|(refine PureFn.dcq (f := 138) rfl ?_;try conv=>whnf)|(refine PureFn.dcq (f := 139) rfl ?_;try conv=>whnf)|((refine ⟨_, _, ref_UsesX ?_, ?_, ?_⟩);rotate_left 1;(focus (first|(refine ⟨?_, trivial⟩<;>first|exact PLe.refl _|exact PLe.nil)|exact trivial));try conv=>whnf)|(refine ⟨_, (by (conv=>whnf);exact ref_UsesX _), rfl, ?_⟩;try conv=>whnf)|((refine ⟨_, _, ref_UsesY ?_, ?_, ?_⟩);rotate_left 1;(focus (first|(refine ⟨?_, trivial⟩<;>first|exact PLe.refl _|exact PLe.nil)|exact trivial));try conv=>whnf)|(refine ⟨_, (by (conv=>whnf);exact ref_UsesY _), rfl, ?_⟩;try conv=>whnf)|((refine ⟨_, _, ref_agent ?_, ?_, ?_⟩);rotate_left 1;(focus (first|(refine ⟨?_, trivial⟩<;>first|exact PLe.refl _|exact PLe.nil)|exact trivial));try conv=>whnf)|(refine ⟨_, (by (conv=>whnf);exact ref_agent _), rfl, ?_⟩;try conv=>whnf)|((refine ⟨_, _, ref_group ?_, ?_, ?_⟩);rotate_left 1;(focus (first|(refine ⟨?_, trivial⟩<;>first|exact PLe.refl _|exact PLe.nil)|exact trivial));try conv=>whnf)|(refine ⟨_, (by (conv=>whnf);exact ref_group _), rfl, ?_⟩;try conv=>whnf)|fail)
  all_goals (refine le_int ?_; unfold nodeErr; simp only [*, cond_true, cond_false])

/-- What an operator uses. -/
def frag (op : Int) : Int :=
  bif op == 9 || op == 10 then 1 else bif decide (11 ≤ op) && decide (op ≤ 17) then 2 ^ (op - 10).toNat else bif decide (18 ≤ op) && decide (op ≤ 21) then 256 else 0
def usesPV (op : Int) : PV :=
  .tup [.agg [.bool (usesX op), .bool (usesY op), .bool (op == 3), .bool (isAgent op), .bool (isGroup op), .bool (op == 17), .int .i64 (frag op)], .bool (decide (1 ≤ op) && decide (op ≤ 21))]

theorem fm_uses (op : Int) : PureFn Try.prog 91 [.int .i64 op] (usesPV op) := by
  refine PureFn.intro mixed (fn := Try.f91) rfl rfl rfl fun M w0 => ?_
  (try conv=>whnf);repeat' (first|(apply And.intro<;>try conv=>whnf)|(intro h;first|(with_reducible first|exact tf0 h|exact ft0 h|exact nt0 h|exact nf0 h)|exact litz h rfl|(with_reducible first|exact tf h (by assumption)|exact tf (by assumption) h)|try conv=>whnf)|with_reducible rfl|apply True.intro|((first|apply infoT|apply bleI|apply fitI|apply cellsI|apply szI);rfl)|(apply guardI;kernel_rfl)|(apply WhenQ.mk;(try conv=>whnf);rotate_left;(try conv=>whnf);rotate_right)|(with_reducible first|assumption|(apply not_of;assumption)|(apply left_of;assumption)|(apply left_of;apply left_of;assumption)|(apply and_of<;>first|assumption|(apply not_of;assumption)))|(refine lin_plan (by kernel_rfl) ?_;try conv=>whnf)|(refine ⟨_, _, rfl, idx_map (by with_reducible assumption), rfl, ?_⟩;try conv=>whnf)|(refine ⟨rfl, ?_⟩;try conv=>whnf)|exact Nat.le_refl 1|((first|(apply ex3;(focus with_reducible assumption);(focus with_reducible assumption))|(apply ex2;(focus with_reducible assumption)));try conv=>whnf)|fail)
  all_goals (
    refine (?_ : usesPV op = _) ▸ PLe.refl _
    first
    | (have hk := eq_of_beq (by with_reducible assumption : (op == _) = true); subst hk; rfl)
    | (have hx : usesX op = false := by simp only [beq_eq_false_iff_ne, ne_eq] at *; simp [usesX]; omega
       have hy : usesY op = false := by simp only [beq_eq_false_iff_ne, ne_eq] at *; simp [usesY]; omega
       have ha : isAgent op = false := by simp only [isAgent, *]; rfl
       have hg : isGroup op = false := by simp only [beq_eq_false_iff_ne, ne_eq] at *; simp [isGroup]; omega
       have hr : (decide (1 ≤ op) && decide (op ≤ 21)) = false := by simp only [beq_eq_false_iff_ne, ne_eq] at *; simp; omega
       have hf : frag op = 0 := by
         have q1 : (decide (11 ≤ op) && decide (op ≤ 17)) = false := by simp only [beq_eq_false_iff_ne, ne_eq] at *; simp; omega
         have q2 : (decide (18 ≤ op) && decide (op ≤ 21)) = false := by simp only [beq_eq_false_iff_ne, ne_eq] at *; simp; omega
         simp only [frag, *]; rfl
       simp only [usesPV, *]))
end Go.Proofs.Ytnbnkgcjgfmlcaa
set_option maxRecDepth 100000
set_option maxHeartbeats 4000000
namespace Go.Proofs.Ytnbnkgcjgfmlcaa
open Go Go.Dv

def operandOk (used : Bool) (field at_ : Int) : Bool := bif bif bif used then decide (field ≥ 0) else false then decide (field < at_) else false then true else bif !used then field == 0 else false
def outside (used : Bool) (v low high : Int) : Bool := bif used then bif decide (v < low) then true else decide (v > high) else false

theorem fm_operand (used : Bool) (field at_ : Int) : PureFn Try.prog 108 [.bool used, .int .i64 field, .int .i64 at_] (.bool (operandOk used field at_)) := by
  refine PureFn.intro mixed (fn := Try.f108) rfl rfl rfl fun M w0 => ?_
  (try conv=>whnf);repeat' (first|(apply And.intro<;>try conv=>whnf)|(intro h;first|(with_reducible first|exact tf0 h|exact ft0 h|exact nt0 h|exact nf0 h)|exact litz h rfl|(with_reducible first|exact tf h (by assumption)|exact tf (by assumption) h)|try conv=>whnf)|with_reducible rfl|apply True.intro|((first|apply infoT|apply bleI|apply fitI|apply cellsI|apply szI);rfl)|(apply guardI;kernel_rfl)|(apply WhenQ.mk;(try conv=>whnf);rotate_left;(try conv=>whnf);rotate_right)|(with_reducible first|assumption|(apply not_of;assumption)|(apply left_of;assumption)|(apply left_of;apply left_of;assumption)|(apply and_of<;>first|assumption|(apply not_of;assumption)))|(refine lin_plan (by kernel_rfl) ?_;try conv=>whnf)|(refine ⟨_, _, rfl, idx_map (by with_reducible assumption), rfl, ?_⟩;try conv=>whnf)|(refine ⟨rfl, ?_⟩;try conv=>whnf)|exact Nat.le_refl 1|((first|(apply ex3;(focus with_reducible assumption);(focus with_reducible assumption))|(apply ex2;(focus with_reducible assumption)));try conv=>whnf)|fail)
  all_goals exact PLe.refl _
theorem fm_outside (used : Bool) (v low high : Int) : PureFn Try.prog 109 [.bool used, .int .i64 v, .int .i64 low, .int .i64 high] (.bool (outside used v low high)) := by
  refine PureFn.intro mixed (fn := Try.f109) rfl rfl rfl fun M w0 => ?_
  (try conv=>whnf);repeat' (first|(apply And.intro<;>try conv=>whnf)|(intro h;first|(with_reducible first|exact tf0 h|exact ft0 h|exact nt0 h|exact nf0 h)|exact litz h rfl|(with_reducible first|exact tf h (by assumption)|exact tf (by assumption) h)|try conv=>whnf)|with_reducible rfl|apply True.intro|((first|apply infoT|apply bleI|apply fitI|apply cellsI|apply szI);rfl)|(apply guardI;kernel_rfl)|(apply WhenQ.mk;(try conv=>whnf);rotate_left;(try conv=>whnf);rotate_right)|(with_reducible first|assumption|(apply not_of;assumption)|(apply left_of;assumption)|(apply left_of;apply left_of;assumption)|(apply and_of<;>first|assumption|(apply not_of;assumption)))|(refine lin_plan (by kernel_rfl) ?_;try conv=>whnf)|(refine ⟨_, _, rfl, idx_map (by with_reducible assumption), rfl, ?_⟩;try conv=>whnf)|(refine ⟨rfl, ?_⟩;try conv=>whnf)|exact Nat.le_refl 1|((first|(apply ex3;(focus with_reducible assumption);(focus with_reducible assumption))|(apply ex2;(focus with_reducible assumption)));try conv=>whnf)|fail)
  all_goals exact PLe.refl _

theorem operandOk_not (u : Bool) (f a : Int) : (!operandOk u f a) = (bif bif u then bif decide (f < 0) then true else decide (f ≥ a) else false then true else bif !u then f != 0 else false) := by
  unfold operandOk
  cases u with
  | true => simp only [cond_true, Bool.not_true, cond_false]; by_cases a1 : f < 0 <;> by_cases a2 : f ≥ a <;> simp [a1, a2] <;> omega
  | false => simp only [cond_false, Bool.not_false, cond_true, bne]
theorem outside_to (u : Bool) (v a b : Int) : outside u v a (b - 1) = (bif u then bif decide (v < a) then true else decide (v ≥ b) else false) := by
  unfold outside
  cases u with
  | true => simp only [cond_true]; rw [Bool.eq_iff_iff]; simp; omega
  | false => rfl

def nodeErrF (n : Nd) (at_ : Int) : Int :=
  bif !(decide (1 ≤ n.op) && decide (n.op ≤ 21)) then 10
  else bif bif !operandOk (usesX n.op) n.x at_ then true else !operandOk (usesY n.op) n.y at_ then 3
  else bif bif bif bif !(bif bif n.op == 3 then true else isAgent n.op then true else n.op == 17) then n.i != 0 else false then true else bif !(n.op == 17) then n.e != 0 else false then true else bif !isGroup n.op then n.g != 0 else false then 3
  else bif bif bif bif bif outside (n.op == 3) n.i 0 7 then true else outside (isAgent n.op) n.i 0 3 then true else outside (n.op == 17) n.i 0 7 then true else outside (n.op == 17) n.e 0 7 then true else outside (isGroup n.op) n.g 1 15 then 2
  else 0
theorem nodeErrF_eq (n : Nd) (at_ : Int) : nodeErrF n at_ = nodeErr n at_ := by
  have h0 : (!(decide (1 ≤ n.op) && decide (n.op ≤ 21))) = (bif decide (n.op < 1) then true else decide (n.op > 21)) := by
    rw [Bool.eq_iff_iff]; by_cases a1 : n.op < 1 <;> by_cases a2 : n.op > 21 <;> simp [a1, a2] <;> omega
  have hb : (!(n.op == 17)) = (n.op != 17) := rfl
  have o1 := outside_to (n.op == 3) n.i 0 8
  have o2 := outside_to (isAgent n.op) n.i 0 4
  have o3 := outside_to (n.op == 17) n.i 0 8
  have o4 := outside_to (n.op == 17) n.e 0 8
  have o5 := outside_to (isGroup n.op) n.g 1 16
  simp only [show (8 : Int) - 1 = 7 from rfl, show (4 : Int) - 1 = 3 from rfl, show (16 : Int) - 1 = 15 from rfl] at o1 o2 o3 o4 o5
  unfold nodeErrF nodeErr
  rw [h0, hb, operandOk_not, operandOk_not, o1, o2, o3, o4, o5]
  generalize (bif decide (n.op < 1) then true else decide (n.op > 21)) = c1
  generalize (bif bif usesX n.op then bif decide (n.x < 0) then true else decide (n.x ≥ at_) else false then true else bif !usesX n.op then n.x != 0 else false) = c2
  generalize (bif bif usesY n.op then bif decide (n.y < 0) then true else decide (n.y ≥ at_) else false then true else bif !usesY n.op then n.y != 0 else false) = c3
  generalize (bif n.op == 3 then bif decide (n.i < 0) then true else decide (n.i ≥ 8) else false) = c4
  generalize (bif isAgent n.op then bif decide (n.i < 0) then true else decide (n.i ≥ 4) else false) = c5
  generalize (bif isGroup n.op then bif decide (n.g < 1) then true else decide (n.g ≥ 16) else false) = c6
  generalize (bif decide (n.i < 0) then true else decide (n.i ≥ 8)) = c7
  generalize decide (n.e < 0) = c8
  generalize decide (n.e ≥ 8) = c9
  generalize (bif bif bif !(bif bif n.op == 3 then true else isAgent n.op then true else n.op == 17) then n.i != 0 else false then true else bif n.op != 17 then n.e != 0 else false then true else bif !isGroup n.op then n.g != 0 else false) = c10
  generalize (n.op == 17) = c11
  cases c1
  · cases c2
    · cases c3
      · cases c10
        · cases c4 <;> cases c5 <;> cases c6 <;> cases c7 <;> cases c8 <;> cases c9 <;> cases c11 <;> rfl
        · rfl
      · rfl
    · rfl
  · rfl

theorem fm_nodeError (n : Nd) (at_ : Int) : PureFn Try.prog 92 [n.pv, .int .i64 at_] (.int .i64 (nodeErr n at_)) := by
  rw [← nodeErrF_eq]
  refine PureFn.intro mixed (fn := Try.f92) rfl rfl rfl fun M w0 => ?_
  (try conv=>whnf);repeat' (first|(apply And.intro<;>try conv=>whnf)|(intro h;first|(with_reducible first|exact tf0 h|exact ft0 h|exact nt0 h|exact nf0 h)|exact litz h rfl|(with_reducible first|exact tf h (by assumption)|exact tf (by assumption) h)|try conv=>whnf)|with_reducible rfl|apply True.intro|((first|apply infoT|apply bleI|apply fitI|apply cellsI|apply szI);rfl)|(apply guardI;kernel_rfl)|(apply WhenQ.mk;(try conv=>whnf);rotate_left;(try conv=>whnf);rotate_right)|(with_reducible first|assumption|(apply not_of;assumption)|(apply left_of;assumption)|(apply left_of;apply left_of;assumption)|(apply and_of<;>first|assumption|(apply not_of;assumption)))|(refine lin_plan (by kernel_rfl) ?_;try conv=>whnf)|(refine ⟨_, _, rfl, idx_map (by with_reducible assumption), rfl, ?_⟩;try conv=>whnf)|(refine ⟨rfl, ?_⟩;try conv=>whnf)|exact Nat.le_refl 1|((first|(apply ex3;(focus with_reducible assumption);(focus with_reducible assumption))|(apply ex2;(focus with_reducible assumption)));try conv=>whnf)|(refine PureFn.dcq (f := 91) rfl ?_;try conv=>whnf)|(refine PureFn.dcq (f := 108) rfl ?_;try conv=>whnf)|(refine PureFn.dcq (f := 109) rfl ?_;try conv=>whnf)|((refine ⟨_, _, fm_uses ?_, ?_, ?_⟩);rotate_left 1;(focus (first|(refine ⟨?_, trivial⟩<;>first|exact PLe.refl _|exact PLe.nil)|exact trivial));try conv=>whnf)|(refine ⟨_, (by (conv=>whnf);exact fm_uses _), rfl, ?_⟩;try conv=>whnf)|((refine ⟨_, _, fm_operand ?_ ?_ ?_, ?_, ?_⟩);rotate_left 3;(focus (first|(refine ⟨?_, ?_, ?_, trivial⟩<;>first|exact PLe.refl _|exact PLe.nil)|exact trivial));try conv=>whnf)|(refine ⟨_, (by (conv=>whnf);exact fm_operand _ _ _), rfl, ?_⟩;try conv=>whnf)|((refine ⟨_, _, fm_outside ?_ ?_ ?_ ?_, ?_, ?_⟩);rotate_left 4;(focus (first|(refine ⟨?_, ?_, ?_, ?_, trivial⟩<;>first|exact PLe.refl _|exact PLe.nil)|exact trivial));try conv=>whnf)|(refine ⟨_, (by (conv=>whnf);exact fm_outside _ _ _ _), rfl, ?_⟩;try conv=>whnf)|fail)
  all_goals (refine le_int ?_; unfold nodeErrF; simp only [*, cond_true, cond_false])

def firstErr : List Nd → Nat → Int
  | [], _ => 0
  | n :: r, i => bif nodeErr n i != 0 then nodeErr n i else firstErr r (i + 1)
/-- The error of a formula. -/
def check (f : List Nd) : Int := bif (f.length : Int) == 0 then 3 else bif decide ((f.length : Int) > 200) then 8 else firstErr f 0
def fpv (f : List Nd) : PV := .sl (f.map Nd.pv)

theorem firstErr_drop {f : List Nd} {i : Nat} (h : i < f.length) : firstErr (f.drop i) i = bif nodeErr f[i] i != 0 then nodeErr f[i] i else firstErr (f.drop (i + 1)) (i + 1) := by
  rw [List.drop_eq_getElem_cons h]; rfl
theorem check_of {f : List Nd} (h1 : ((f.map Nd.pv).length == (0 : Int)) = false) (h2 : decide (((f.map Nd.pv).length : Int) > 200) = false) : check f = firstErr f 0 := by
  simp only [List.length_map] at h1 h2
  simp only [check, h1, h2, cond_false]

theorem fm_Check (f : List Nd) : PureFn Try.prog 90 [fpv f] (.int .i64 (check f)) := by
  refine PureFn.intro mixed (fn := Try.f90) rfl rfl rfl fun M w0 => ?_
  (try conv=>whnf);repeat' (first|(apply And.intro<;>try conv=>whnf)|(intro h;first|(with_reducible first|exact tf0 h|exact ft0 h|exact nt0 h|exact nf0 h)|exact litz h rfl|(with_reducible first|exact tf h (by assumption)|exact tf (by assumption) h)|try conv=>whnf)|with_reducible rfl|apply True.intro|((first|apply infoT|apply bleI|apply fitI|apply cellsI|apply szI);rfl)|(apply guardI;kernel_rfl)|(apply WhenQ.mk;(try conv=>whnf);rotate_left;(try conv=>whnf);rotate_right)|(with_reducible first|assumption|(apply not_of;assumption)|(apply left_of;assumption)|(apply left_of;apply left_of;assumption)|(apply and_of<;>first|assumption|(apply not_of;assumption)))|(refine lin_plan (by kernel_rfl) ?_;try conv=>whnf)|(refine ⟨_, _, rfl, idx_map (by with_reducible assumption), rfl, ?_⟩;try conv=>whnf)|(refine ⟨rfl, ?_⟩;try conv=>whnf)|exact Nat.le_refl 1|((first|(apply ex3;(focus with_reducible assumption);(focus with_reducible assumption))|(apply ex2;(focus with_reducible assumption)));try conv=>whnf)|(refine PureFn.dcq (f := 92) rfl ?_;try conv=>whnf)|((refine ⟨_, _, fm_nodeError ?_ ?_, ?_, ?_⟩);rotate_left 2;(focus (first|(refine ⟨?_, ?_, trivial⟩<;>first|exact PLe.refl _|exact PLe.nil)|exact trivial));try conv=>whnf)|(refine ⟨_, (by (conv=>whnf);exact fm_nodeError _ _), rfl, ?_⟩;try conv=>whnf)|fail)
  · simp only [List.length_map] at h; refine le_int ?_; simp only [check, h, cond_true]
  · rename_i h2; simp only [List.length_map] at h h2; refine le_int ?_; simp only [check, h, h2, cond_true, cond_false]
  · rename_i h2
    have hck := check_of h2 h
    have hlen : f.length ≤ 200 := by simp at h; omega
    refine ⟨{ i : Nat // i ≤ f.length ∧ firstErr f 0 = firstErr (f.drop i) i }, fun i => [(12, .pv (fpv f)), (13, .pv (.int .i64 (f.map Nd.pv).length)), (14, .pv (.int .i64 (i.1 : Nat)))], fun _ => 0, fun _ => [], fun i => f.length - i.1,
      ⟨⟨0, Nat.zero_le _, rfl⟩, Wk.of ⟨.same _, .same _, .same _, trivial⟩ trivial rfl rfl rfl⟩, ?_⟩
    rintro ⟨i, hi, hf⟩
    (try conv=>whnf);repeat' (first|(apply And.intro<;>try conv=>whnf)|(intro h;first|(with_reducible first|exact tf0 h|exact ft0 h|exact nt0 h|exact nf0 h)|exact litz h rfl|(with_reducible first|exact tf h (by assumption)|exact tf (by assumption) h)|try conv=>whnf)|with_reducible rfl|apply True.intro|((first|apply infoT|apply bleI|apply fitI|apply cellsI|apply szI);rfl)|(apply guardI;kernel_rfl)|(apply WhenQ.mk;(try conv=>whnf);rotate_left;(try conv=>whnf);rotate_right)|(with_reducible first|assumption|(apply not_of;assumption)|(apply left_of;assumption)|(apply left_of;apply left_of;assumption)|(apply and_of<;>first|assumption|(apply not_of;assumption)))|(refine lin_plan (by kernel_rfl) ?_;try conv=>whnf)|(refine ⟨_, _, rfl, idx_map (by with_reducible assumption), rfl, ?_⟩;try conv=>whnf)|(refine ⟨rfl, ?_⟩;try conv=>whnf)|exact Nat.le_refl 1|((first|(apply ex3;(focus with_reducible assumption);(focus with_reducible assumption))|(apply ex2;(focus with_reducible assumption)));try conv=>whnf)|(refine PureFn.dcq (f := 92) rfl ?_;try conv=>whnf)|((refine ⟨_, _, fm_nodeError ?_ ?_, ?_, ?_⟩);rotate_left 2;(focus (first|(refine ⟨?_, ?_, trivial⟩<;>first|exact PLe.refl _|exact PLe.nil)|exact trivial));try conv=>whnf)|(refine ⟨_, (by (conv=>whnf);exact fm_nodeError _ _), rfl, ?_⟩;try conv=>whnf)|fail)
    · have hi' : i < f.length := by simpa using h
      have hn : f[i]? = some f[i] := List.getElem?_eq_getElem hi'
      have hd := firstErr_drop hi'
      refine ⟨i, (f[i]).pv, rfl, by simp [hn], rfl, ?_⟩
      (try conv=>whnf);repeat' (first|(apply And.intro<;>try conv=>whnf)|(intro h;first|(with_reducible first|exact tf0 h|exact ft0 h|exact nt0 h|exact nf0 h)|exact litz h rfl|(with_reducible first|exact tf h (by assumption)|exact tf (by assumption) h)|try conv=>whnf)|with_reducible rfl|apply True.intro|((first|apply infoT|apply bleI|apply fitI|apply cellsI|apply szI);rfl)|(apply guardI;kernel_rfl)|(apply WhenQ.mk;(try conv=>whnf);rotate_left;(try conv=>whnf);rotate_right)|(with_reducible first|assumption|(apply not_of;assumption)|(apply left_of;assumption)|(apply left_of;apply left_of;assumption)|(apply and_of<;>first|assumption|(apply not_of;assumption)))|(refine lin_plan (by kernel_rfl) ?_;try conv=>whnf)|(refine ⟨_, _, rfl, idx_map (by with_reducible assumption), rfl, ?_⟩;try conv=>whnf)|(refine ⟨rfl, ?_⟩;try conv=>whnf)|exact Nat.le_refl 1|((first|(apply ex3;(focus with_reducible assumption);(focus with_reducible assumption))|(apply ex2;(focus with_reducible assumption)));try conv=>whnf)|(refine PureFn.dcq (f := 92) rfl ?_;try conv=>whnf)|((refine ⟨_, _, fm_nodeError ?_ ?_, ?_, ?_⟩);rotate_left 2;(focus (first|(refine ⟨?_, ?_, trivial⟩<;>first|exact PLe.refl _|exact PLe.nil)|exact trivial));try conv=>whnf)|(refine ⟨_, (by (conv=>whnf);exact fm_nodeError _ _), rfl, ?_⟩;try conv=>whnf)|fail)
      · have h' : (nodeErr f[i] i != 0) = true := h
        have he : check f = nodeErr f[i] i := by rw [hck, hf, hd, h']; rfl
        exact le_int he.symm
      · have h' : (nodeErr f[i] i != 0) = false := h
        refine ⟨⟨i + 1, hi', by rw [hf, hd, h']; rfl⟩, by show f.length - (i + 1) < f.length - i; omega, Wk.of ⟨.same _, .same _, WkD.int ?_, trivial⟩ trivial rfl rfl rfl⟩
        exact wrap_small (by show _ ≤ (i : Int) + 1; omega) (by show (i : Int) + 1 ≤ _; omega)
    · have hi' : ¬ i < f.length := by simpa using h
      refine le_int ?_
      rw [hck, hf, List.drop_eq_nil_of_le (by omega)]; rfl

theorem ref_Check (f : List Nd) : PureFn Try.prog 127 [fpv f] (.int .i64 (check f)) := by
  refine PureFn.intro mixed (fn := Try.f127) rfl rfl rfl fun M w0 => ?_
  (try conv=>whnf);repeat' (first|(apply And.intro<;>try conv=>whnf)|(intro h;first|(with_reducible first|exact tf0 h|exact ft0 h|exact nt0 h|exact nf0 h)|exact litz h rfl|(with_reducible first|exact tf h (by assumption)|exact tf (by assumption) h)|try conv=>whnf)|with_reducible rfl|apply True.intro|((first|apply infoT|apply bleI|apply fitI|apply cellsI|apply szI);rfl)|(apply guardI;kernel_rfl)|(apply WhenQ.mk;(try conv=>whnf);rotate_left;(try conv=>whnf);rotate_right)|(with_reducible first|assumption|(apply not_of;assumption)|(apply left_of;assumption)|(apply left_of;apply left_of;assumption)|(apply and_of<;>first|assumption|(apply not_of;assumption)))|(refine lin_plan (by kernel_rfl) ?_;try conv=>whnf)|(refine ⟨_, _, rfl, idx_map (by with_reducible assumption), rfl, ?_⟩;try conv=>whnf)|(refine ⟨rfl, ?_⟩;try conv=>whnf)|exact Nat.le_refl 1|((first|(apply ex3;(focus with_reducible assumption);(focus with_reducible assumption))|(apply ex2;(focus with_reducible assumption)));try conv=>whnf)|(refine PureFn.dcq (f := 131) rfl ?_;try conv=>whnf)|((refine ⟨_, _, ref_node ?_ ?_, ?_, ?_⟩);rotate_left 2;(focus (first|(refine ⟨?_, ?_, trivial⟩<;>first|exact PLe.refl _|exact PLe.nil)|exact trivial));try conv=>whnf)|(refine ⟨_, (by (conv=>whnf);exact ref_node _ _), rfl, ?_⟩;try conv=>whnf)|fail)
  · simp only [List.length_map] at h; refine le_int ?_; simp only [check, h, cond_true]
  · rename_i h2; simp only [List.length_map] at h h2; refine le_int ?_; simp only [check, h, h2, cond_true, cond_false]
  · rename_i h2
    have hck := check_of h2 h
    have hlen : f.length ≤ 200 := by simp at h; omega
    refine ⟨{ i : Nat // i ≤ f.length ∧ firstErr f 0 = firstErr (f.drop i) i }, fun i => [(0, .pv (fpv f)), (3, .pv (.int .i64 (i.1 : Nat)))], fun _ => 0, fun _ => [], fun i => f.length - i.1,
      ⟨⟨0, Nat.zero_le _, rfl⟩, Wk.of ⟨.same _, .same _, trivial⟩ trivial rfl rfl rfl⟩, ?_⟩
    rintro ⟨i, hi, hf⟩
    (try conv=>whnf);repeat' (first|(apply And.intro<;>try conv=>whnf)|(intro h;first|(with_reducible first|exact tf0 h|exact ft0 h|exact nt0 h|exact nf0 h)|exact litz h rfl|(with_reducible first|exact tf h (by assumption)|exact tf (by assumption) h)|try conv=>whnf)|with_reducible rfl|apply True.intro|((first|apply infoT|apply bleI|apply fitI|apply cellsI|apply szI);rfl)|(apply guardI;kernel_rfl)|(apply WhenQ.mk;(try conv=>whnf);rotate_left;(try conv=>whnf);rotate_right)|(with_reducible first|assumption|(apply not_of;assumption)|(apply left_of;assumption)|(apply left_of;apply left_of;assumption)|(apply and_of<;>first|assumption|(apply not_of;assumption)))|(refine lin_plan (by kernel_rfl) ?_;try conv=>whnf)|(refine ⟨_, _, rfl, idx_map (by with_reducible assumption), rfl, ?_⟩;try conv=>whnf)|(refine ⟨rfl, ?_⟩;try conv=>whnf)|exact Nat.le_refl 1|((first|(apply ex3;(focus with_reducible assumption);(focus with_reducible assumption))|(apply ex2;(focus with_reducible assumption)));try conv=>whnf)|(refine PureFn.dcq (f := 131) rfl ?_;try conv=>whnf)|((refine ⟨_, _, ref_node ?_ ?_, ?_, ?_⟩);rotate_left 2;(focus (first|(refine ⟨?_, ?_, trivial⟩<;>first|exact PLe.refl _|exact PLe.nil)|exact trivial));try conv=>whnf)|(refine ⟨_, (by (conv=>whnf);exact ref_node _ _), rfl, ?_⟩;try conv=>whnf)|fail)
    · have hi' : i < f.length := by simpa using h
      have hn : f[i]? = some f[i] := List.getElem?_eq_getElem hi'
      have hd := firstErr_drop hi'
      refine ⟨i, (f[i]).pv, rfl, by simp [hn], rfl, ?_⟩
      (try conv=>whnf);repeat' (first|(apply And.intro<;>try conv=>whnf)|(intro h;first|(with_reducible first|exact tf0 h|exact ft0 h|exact nt0 h|exact nf0 h)|exact litz h rfl|(with_reducible first|exact tf h (by assumption)|exact tf (by assumption) h)|try conv=>whnf)|with_reducible rfl|apply True.intro|((first|apply infoT|apply bleI|apply fitI|apply cellsI|apply szI);rfl)|(apply guardI;kernel_rfl)|(apply WhenQ.mk;(try conv=>whnf);rotate_left;(try conv=>whnf);rotate_right)|(with_reducible first|assumption|(apply not_of;assumption)|(apply left_of;assumption)|(apply left_of;apply left_of;assumption)|(apply and_of<;>first|assumption|(apply not_of;assumption)))|(refine lin_plan (by kernel_rfl) ?_;try conv=>whnf)|(refine ⟨_, _, rfl, idx_map (by with_reducible assumption), rfl, ?_⟩;try conv=>whnf)|(refine ⟨rfl, ?_⟩;try conv=>whnf)|exact Nat.le_refl 1|((first|(apply ex3;(focus with_reducible assumption);(focus with_reducible assumption))|(apply ex2;(focus with_reducible assumption)));try conv=>whnf)|(refine PureFn.dcq (f := 131) rfl ?_;try conv=>whnf)|((refine ⟨_, _, ref_node ?_ ?_, ?_, ?_⟩);rotate_left 2;(focus (first|(refine ⟨?_, ?_, trivial⟩<;>first|exact PLe.refl _|exact PLe.nil)|exact trivial));try conv=>whnf)|(refine ⟨_, (by (conv=>whnf);exact ref_node _ _), rfl, ?_⟩;try conv=>whnf)|fail)
      · have h' : (nodeErr f[i] i != 0) = true := h
        have he : check f = nodeErr f[i] i := by rw [hck, hf, hd, h']; rfl
        exact le_int he.symm
      · have h' : (nodeErr f[i] i != 0) = false := h
        refine ⟨⟨i + 1, hi', by rw [hf, hd, h']; rfl⟩, by show f.length - (i + 1) < f.length - i; omega, Wk.of ⟨.same _, WkD.int ?_, trivial⟩ trivial rfl rfl rfl⟩
        exact wrap_small (by show _ ≤ (i : Int) + 1; omega) (by show (i : Int) + 1 ≤ _; omega)
    · have hi' : ¬ i < f.length := by simpa using h
      refine le_int ?_
      rw [hck, hf, List.drop_eq_nil_of_le (by omega)]; rfl
end Go.Proofs.Ytnbnkgcjgfmlcaa
namespace Go.Proofs.Ytnbnkgcjgfmlcaa
open Go Go.Dv

theorem Nd.pv_inj {a b : Nd} (h : a.pv = b.pv) : a = b := by
  cases a; cases b
  simp only [Nd.pv, PV.agg.injEq, List.cons.injEq, PV.int.injEq, true_and, and_true] at h
  simp only [Nd.mk.injEq]
  exact h

/-- The first place of a node. -/
def idx (x : Nd) : List Nd → Nat → Option Nat
  | [], _ => none
  | n :: r, i => if n = x then some i else idx x r (i + 1)
def look (i : Nat) : List (Nat × Nat) → Option Nat
  | [] => none
  | e :: r => if e.1 = i then some e.2 else look i r
def dput (i k : Nat) : List (Nat × Nat) → List (Nat × Nat)
  | [] => [(i, k)]
  | e :: r => if e.1 = i then (i, k) :: r else e :: dput i k r

def putN (out : List Nd) (x : Nd) : Nat × List Nd := match idx x out 0 with | some k => (k, out) | none => (out.length, out ++ [x])

/-- The walk from a node: its number; the list and the numbers so far. -/
def fin (f : List Nd) : Nat → Nat → List Nd × List (Nat × Nat) → Nat × List Nd × List (Nat × Nat)
  | 0, _, s => (0, s)
  | n + 1, i, s =>
    match look i s.2 with
    | some k => (k, s)
    | none => match f[i]? with
      | none => (0, s)
      | some x =>
        let a := bif usesX x.op then fin f n x.x.toNat s else (0, s)
        let x1 := bif usesX x.op then { x with x := (a.1 : Int) } else x
        let b := bif usesY x.op then fin f n x.y.toNat a.2 else (0, a.2)
        let x2 := bif usesY x.op then { x1 with y := (b.1 : Int) } else x1
        let p := putN b.2.1 x2
        (p.1, p.2, dput i p.1 b.2.2)

def canon (f : List Nd) (i : Nat) : List Nd := (fin f (i + 1) i ([], [])).2.1

/-! maps of the program -/
def nums : List Nd → Nat → List (PV × PV)
  | [], _ => []
  | n :: r, i => (n.pv, .int .i64 (i : Int)) :: nums r (i + 1)
def dones (ds : List (Nat × Nat)) : List (PV × PV) := ds.map fun e => (.int .i64 (e.1 : Int), .int .i64 (e.2 : Int))

theorem mfnd_nums (x : Nd) : ∀ (out : List Nd) (i s : Nat), (mfnd x.pv (nums out i) s).map Prod.snd = (idx x out i).map fun k => PV.int .i64 (k : Int)
  | [], i, s => rfl
  | n :: r, i, s => by
    simp only [nums, mfnd, idx]
    by_cases h : n = x
    · subst h; simp
    · have : ¬ n.pv = x.pv := fun e => h (Nd.pv_inj e)
      rw [if_neg this, if_neg h]
      exact mfnd_nums x r (i + 1) (s + 1)
theorem mfind_nums (x : Nd) (out : List Nd) : mfind (nums out 0) x.pv = (idx x out 0).map fun k => PV.int .i64 (k : Int) := mfnd_nums x out 0 0
theorem nums_append (x : Nd) : ∀ (out : List Nd) (i : Nat), nums (out ++ [x]) i = nums out i ++ [(x.pv, .int .i64 ((i + out.length : Nat) : Int))]
  | [], i => rfl
  | n :: r, i => by
    simp only [List.cons_append, nums, nums_append x r (i + 1), List.length_cons]
    rw [show i + 1 + r.length = i + (r.length + 1) by omega]
theorem mput_nums (x : Nd) (out : List Nd) (h : idx x out 0 = none) : mput (nums out 0) x.pv (.int .i64 (out.length : Int)) = nums (out ++ [x]) 0 := by
  have hf := mfnd_nums x out 0 0
  rw [h] at hf
  have : mfnd x.pv (nums out 0) 0 = none := by
    cases hm : mfnd x.pv (nums out 0) 0 with
    | none => rfl
    | some y => rw [hm] at hf; simp at hf
  simp only [mput, this]
  rw [nums_append, Nat.zero_add]
theorem int_eq {a b : Nat} : (PV.int .i64 (a : Int) = PV.int .i64 (b : Int)) ↔ a = b := by simp only [PV.int.injEq, true_and]; omega
theorem mfnd_dones (i : Nat) : ∀ (ds : List (Nat × Nat)) (s : Nat), (mfnd (.int .i64 (i : Int)) (dones ds) s).map Prod.snd = (look i ds).map fun k => PV.int .i64 (k : Int)
  | [], s => rfl
  | e :: r, s => by
    simp only [dones, List.map_cons, mfnd, look]
    by_cases h : e.1 = i
    · rw [if_pos (int_eq.2 h), if_pos h]; rfl
    · rw [if_neg (fun e => h (int_eq.1 e)), if_neg h]
      exact mfnd_dones i r (s + 1)
theorem mfind_dones (i : Nat) (ds : List (Nat × Nat)) : mfind (dones ds) (.int .i64 (i : Int)) = (look i ds).map fun k => PV.int .i64 (k : Int) := mfnd_dones i ds 0
theorem mfnd_shift {k : PV} : ∀ (es : List (PV × PV)) (s : Nat), mfnd k es (s + 1) = (mfnd k es s).map fun q => (q.1 + 1, q.2)
  | [], s => rfl
  | e :: r, s => by
    simp only [mfnd]
    by_cases h : e.1 = k
    · rw [if_pos h, if_pos h]; rfl
    · rw [if_neg h, if_neg h]; exact mfnd_shift r (s + 1)
theorem mput_cons {k v : PV} {e : PV × PV} {r : List (PV × PV)} : mput (e :: r) k v = open Classical in if e.1 = k then (k, v) :: r else e :: mput r k v := by
  unfold mput
  simp only [mfnd]
  by_cases h : e.1 = k
  · rw [if_pos h, if_pos h]; rfl
  · rw [if_neg h, if_neg h, mfnd_shift]
    cases hm : mfnd k r 0 with
    | none => rfl
    | some y => rfl
theorem mput_dones (i k : Nat) : ∀ (ds : List (Nat × Nat)), mput (dones ds) (.int .i64 (i : Int)) (.int .i64 (k : Int)) = dones (dput i k ds)
  | [] => rfl
  | e :: r => by
    simp only [dones, List.map_cons, mput_cons, dput]
    by_cases h : e.1 = i
    · rw [if_pos (int_eq.2 h), if_pos h]; rfl
    · rw [if_neg (fun e => h (int_eq.1 e)), if_neg h]
      rw [List.map_cons]
      congr 1
      exact mput_dones i k r
end Go.Proofs.Ytnbnkgcjgfmlcaa
namespace Go.Proofs.Ytnbnkgcjgfmlcaa
open Go Go.Dv

def Wf (f : List Nd) : Prop := ∀ (i : Nat) x, f[i]? = some x → (usesX x.op = true → 0 ≤ x.x ∧ x.x < i) ∧ (usesY x.op = true → 0 ≤ x.y ∧ x.y < i)
def cnt (ds : List (Nat × Nat)) : Nat → Nat
  | 0 => 0
  | n + 1 => cnt ds n + (match look n ds with | none => 1 | some _ => 0)

theorem look_dput (i k j : Nat) : ∀ ds : List (Nat × Nat), look j (dput i k ds) = if j = i then some k else look j ds
  | [] => by
    simp only [dput, look]
    by_cases h : i = j
    · rw [if_pos h, if_pos h.symm]
    · rw [if_neg h, if_neg (Ne.symm h)]
  | e :: r => by
    simp only [dput]
    by_cases h : e.1 = i
    · rw [if_pos h]
      simp only [look]
      by_cases hj : i = j
      · rw [if_pos hj, if_pos hj.symm]
      · rw [if_neg hj, if_neg (Ne.symm hj), if_neg (by rw [h]; exact hj)]
    · rw [if_neg h]
      simp only [look]
      by_cases hj : e.1 = j
      · rw [if_pos hj, if_pos hj, if_neg (by rw [← hj]; exact h)]
      · rw [if_neg hj, if_neg hj]
        exact look_dput i k j r

theorem cnt_dput {i k : Nat} {ds : List (Nat × Nat)} (h : look i ds = none) : ∀ N, cnt (dput i k ds) N + (if i < N then 1 else 0) = cnt ds N
  | 0 => by simp [cnt]
  | N + 1 => by
    have ih := cnt_dput (k := k) h N
    simp only [cnt, look_dput]
    by_cases hN : N = i
    · subst hN
      rw [if_pos rfl, h, if_pos (Nat.lt_succ_self N)]
      rw [if_neg (Nat.lt_irrefl N)] at ih
      simp only at ih ⊢
      omega
    · rw [if_neg hN]
      by_cases hl : i < N
      · rw [if_pos (by omega)]; rw [if_pos hl] at ih; omega
      · rw [if_neg (by omega)]; rw [if_neg hl] at ih; omega
theorem cnt_pos {i : Nat} {ds : List (Nat × Nat)} (h : look i ds = none) {N : Nat} (hi : i < N) : 1 ≤ cnt ds N := by
  have := cnt_dput (k := 0) h N
  rw [if_pos hi] at this
  omega

theorem put_keep {out : List Nd} {ds : List (Nat × Nat)} {i N : Nat} {x : Nd} (h : look i ds = none) (hi : i < N) (hb : out.length + cnt ds N ≤ N) : (putN out x).2.length + cnt (dput i (putN out x).1 ds) N ≤ N := by
  have hc := cnt_dput (k := (putN out x).1) h N
  rw [if_pos hi] at hc
  have hp : (putN out x).2.length ≤ out.length + 1 := by
    unfold putN
    split
    · simp
    · simp
  omega

/-- What comes behind a node's operands. -/
theorem fin_keep {f : List Nd} (hwf : Wf f) : ∀ (n i : Nat) (s : List Nd × List (Nat × Nat)), i < n → i < f.length →
    (∀ j, i < j → look j (fin f n i s).2.2 = look j s.2) ∧ (s.1.length + cnt s.2 f.length ≤ f.length → (fin f n i s).2.1.length + cnt (fin f n i s).2.2 f.length ≤ f.length)
  | 0, i, s, h, _ => by omega
  | n + 1, i, s, hin, hif => by
    have hn : f[i]? = some f[i] := List.getElem?_eq_getElem hif
    simp only [fin]
    cases hl : look i s.2 with
    | some k => exact ⟨fun _ _ => rfl, fun h => h⟩
    | none =>
      simp only [hn]
      obtain ⟨hx, hy⟩ := hwf i _ hn
      -- the first operand
      have ha : (∀ j, i ≤ j → look j (bif usesX f[i].op then fin f n f[i].x.toNat s else (0, s)).2.2 = look j s.2) ∧
          (s.1.length + cnt s.2 f.length ≤ f.length → (bif usesX f[i].op then fin f n f[i].x.toNat s else (0, s)).2.1.length + cnt (bif usesX f[i].op then fin f n f[i].x.toNat s else (0, s)).2.2 f.length ≤ f.length) := by
        cases hu : usesX f[i].op with
        | false => exact ⟨fun _ _ => rfl, fun h => h⟩
        | true =>
          have := hx hu
          obtain ⟨q1, q2⟩ := fin_keep hwf n f[i].x.toNat s (by omega) (by omega)
          exact ⟨fun j hj => q1 j (by omega), q2⟩
      generalize (bif usesX f[i].op then fin f n f[i].x.toNat s else (0, s)) = a at ha ⊢
      have hb : (∀ j, i ≤ j → look j (bif usesY f[i].op then fin f n f[i].y.toNat a.2 else (0, a.2)).2.2 = look j a.2.2) ∧
          (a.2.1.length + cnt a.2.2 f.length ≤ f.length → (bif usesY f[i].op then fin f n f[i].y.toNat a.2 else (0, a.2)).2.1.length + cnt (bif usesY f[i].op then fin f n f[i].y.toNat a.2 else (0, a.2)).2.2 f.length ≤ f.length) := by
        cases hu : usesY f[i].op with
        | false => exact ⟨fun _ _ => rfl, fun h => h⟩
        | true =>
          have := hy hu
          obtain ⟨q1, q2⟩ := fin_keep hwf n f[i].y.toNat a.2 (by omega) (by omega)
          exact ⟨fun j hj => q1 j (by omega), q2⟩
      generalize (bif usesY f[i].op then fin f n f[i].y.toNat a.2 else (0, a.2)) = b at hb ⊢
      have hbn : look i b.2.2 = none := by rw [hb.1 i (Nat.le_refl i), ha.1 i (Nat.le_refl i), hl]
      refine ⟨fun j hj => ?_, fun h => ?_⟩
      · simp only [look_dput, if_neg (show ¬ j = i by omega)]
        rw [hb.1 j (by omega), ha.1 j (by omega)]
      · have h2 := hb.2 (ha.2 h)
        exact put_keep hbn hif h2
end Go.Proofs.Ytnbnkgcjgfmlcaa
set_option maxRecDepth 100000
set_option maxHeartbeats 4000000
namespace Go.Proofs.Ytnbnkgcjgfmlcaa
open Go Go.Dv

def Hc (f out : List Nd) (ds : List (Nat × Nat)) : List (Nat × DObj) :=
  [(0, .var [.pv (fpv f)]), (1, .var [.buf 7 (out.map Nd.pv).length]), (2, .mp (nums out 0)), (3, .var [.mp 2]), (4, .mp (dones ds)), (5, .var [.mp 4]),
   (6, .var [.clo 110 [] [.ref 5 0, .ref 0 0, .ref 6 0, .ref 3 0, .ref 1 0]]), (7, .arr 6 (out.map Nd.pv))]

theorem mem_nums {kv : PV × PV} : ∀ {out : List Nd} {i : Nat}, kv ∈ nums out i → ∃ n : Nd, kv.1 = n.pv
  | [], _, h => by simp [nums] at h
  | n :: r, i, h => by
    simp only [nums, List.mem_cons] at h
    rcases h with rfl | h
    · exact ⟨n, rfl⟩
    · exact mem_nums h

/-- Behind the first operand. -/
def opA (f : List Nd) (n : Nat) (x : Nd) (s : List Nd × List (Nat × Nat)) : Nat × List Nd × List (Nat × Nat) := bif usesX x.op then fin f n x.x.toNat s else (0, s)
def ndA (x : Nd) (k : Nat) : Nd := bif usesX x.op then { x with x := (k : Int) } else x
def opB (f : List Nd) (n : Nat) (x : Nd) (s : List Nd × List (Nat × Nat)) : Nat × List Nd × List (Nat × Nat) := bif usesY x.op then fin f n x.y.toNat s else (0, s)
def ndB (op : Int) (x : Nd) (k : Nat) : Nd := bif usesY op then { x with y := (k : Int) } else x
theorem fin_none {f : List Nd} {n i : Nat} {s : List Nd × List (Nat × Nat)} {x : Nd} (hl : look i s.2 = none) (hx : f[i]? = some x) :
    fin f (n + 1) i s = ((putN (opB f n x (opA f n x s).2).2.1 (ndB x.op (ndA x (opA f n x s).1) (opB f n x (opA f n x s).2).1)).1, (putN (opB f n x (opA f n x s).2).2.1 (ndB x.op (ndA x (opA f n x s).1) (opB f n x (opA f n x s).2).1)).2,
      dput i (putN (opB f n x (opA f n x s).2).2.1 (ndB x.op (ndA x (opA f n x s).1) (opB f n x (opA f n x s).2).1)).1 (opB f n x (opA f n x s).2).2.2) := by
  simp only [fin, hl, hx, opA, opB, ndB, ndA]
theorem opA_keep {f : List Nd} (hwf : Wf f) {n i : Nat} {x : Nd} (hx : f[i]? = some x) (hin : i < n + 1) (hif : i < f.length) (s : List Nd × List (Nat × Nat)) :
    (∀ j, i ≤ j → look j (opA f n x s).2.2 = look j s.2) ∧ (s.1.length + cnt s.2 f.length ≤ f.length → (opA f n x s).2.1.length + cnt (opA f n x s).2.2 f.length ≤ f.length) := by
  unfold opA
  cases hu : usesX x.op with
  | false => exact ⟨fun _ _ => rfl, fun h => h⟩
  | true =>
    have := (hwf i x hx).1 hu
    obtain ⟨q1, q2⟩ := fin_keep hwf n x.x.toNat s (by omega) (by omega)
    exact ⟨fun j hj => q1 j (by omega), q2⟩
theorem opB_keep {f : List Nd} (hwf : Wf f) {n i : Nat} {x : Nd} (hx : f[i]? = some x) (hin : i < n + 1) (hif : i < f.length) (s : List Nd × List (Nat × Nat)) :
    (∀ j, i ≤ j → look j (opB f n x s).2.2 = look j s.2) ∧ (s.1.length + cnt s.2 f.length ≤ f.length → (opB f n x s).2.1.length + cnt (opB f n x s).2.2 f.length ≤ f.length) := by
  unfold opB
  cases hu : usesY x.op with
  | false => exact ⟨fun _ _ => rfl, fun h => h⟩
  | true =>
    have := (hwf i x hx).2 hu
    obtain ⟨q1, q2⟩ := fin_keep hwf n x.y.toNat s (by omega) (by omega)
    exact ⟨fun j hj => q1 j (by omega), q2⟩
def Nd.dvs (x : Nd) : List DV := [.pv (.int .i64 x.op), .pv (.int .i64 x.i), .pv (.int .i64 x.e), .pv (.int .i64 x.g), .pv (.int .i64 x.x), .pv (.int .i64 x.y)]
def usesDvs (op : Int) : List DV := [.pv (.bool (usesX op)), .pv (.bool (usesY op)), .pv (.bool (op == 3)), .pv (.bool (isAgent op)), .pv (.bool (isGroup op)), .pv (.bool (op == 17)), .pv (.int .i64 (frag op))]

/-- The state behind the walk is told by the list and the numbers. -/
theorem close_ok {L : DH} {f out : List Nd} {ds : List (Nat × Nat)} {d : DV} {base : Nat} {K : DV → DH → Prop} (hK : K d ⟨8, 0, base, objsOf (Hc f out ds)⟩) (hd : d.under 8 = true) (hlo : Nat.ble L.lo 8 = true) (hb : Nat.ble L.base 8 = true)
    (h0 : L.get 0 = some (.var [.pv (fpv f)])) (h1 : L.get 1 = some (.var [.buf 7 (out.map Nd.pv).length])) (h2 : L.get 2 = some (.mp (nums out 0))) (h3 : L.get 3 = some (.var [.mp 2])) (h4 : L.get 4 = some (.mp (dones ds))) (h5 : L.get 5 = some (.var [.mp 4]))
    (h6 : L.get 6 = some (.var [.clo 110 [] [.ref 5 0, .ref 0 0, .ref 6 0, .ref 3 0, .ref 1 0]])) (h7 : L.get 7 = some (.arr 6 (out.map Nd.pv))) :
    ∃ d' nx Hl, Wk (fun _ => d) L [(0, d')] nx Hl ∧ K d' ⟨nx, 0, base, objsOf Hl⟩ := by
  have tr : ∀ {k : Nat} {o : DObj}, L.get k = some o → (match L.get k with | some _ => True | none => Nat.ble L.next k = true) := fun h => by rw [h]; trivial
  refine ⟨d, 8, Hc f out ds, Wk.of ⟨.same _, trivial⟩ ⟨.same _ _ h0, tr h0, .same _ _ h1, tr h1, .same _ _ h2, tr h2, .same _ _ h3, tr h3, .same _ _ h4, tr h4, .same _ _ h5, tr h5, .same _ _ h6, tr h6, .same _ _ h7, tr h7, trivial⟩ ?_ hlo hb, hK⟩
  simp only [wkU, List.all_cons, List.all_nil, hd, Bool.and_true, Bool.true_and]
  rfl

theorem finish_dc (f : List Nd) (hwf : Wf f) (hN : f.length ≤ 1000000) : ∀ (n i : Nat) (s : List Nd × List (Nat × Nat)), i < n → i < f.length → s.1.length + cnt s.2 f.length ≤ f.length →
    ∀ (M : Nat → Prop) (w0 : World) (base : Nat) (K : DV → DH → Prop), base ≤ 8 → K (.pv (.int .i64 ((fin f n i s).1 : Int))) ⟨8, 0, base, objsOf (Hc f (fin f n i s).2.1 (fin f n i s).2.2)⟩ →
      DC Try.prog M w0 110 [.pv (.int .i64 (i : Int)), .ref 5 0, .ref 0 0, .ref 6 0, .ref 3 0, .ref 1 0] ⟨8, 0, base, objsOf (Hc f s.1 s.2)⟩ K := by
  intro n
  induction n with
  | zero => intro i s h; omega
  | succ n ih =>
    intro i s hin hif hb M w0 base K hbase hK
    obtain ⟨out, ds⟩ := s
    refine DC.weaken (DC.introC [8, 10, 15] mixed (fn := Try.f110) rfl rfl rfl ?_)
    cases hl : look i ds with
    | some k =>
      have hfin : fin f (n + 1) i (out, ds) = (k, out, ds) := by simp only [fin, hl]
      rw [hfin] at hK
      (try conv=>whnf);repeat' (first|(apply And.intro<;>try conv=>whnf)|(intro h;first|(with_reducible first|exact tf0 h|exact ft0 h|exact nt0 h|exact nf0 h)|exact litz h rfl|(with_reducible first|exact tf h (by assumption)|exact tf (by assumption) h)|try conv=>whnf)|with_reducible rfl|apply True.intro|((first|apply infoT|apply bleI|apply fitI|apply cellsI|apply szI);rfl)|(apply guardI;kernel_rfl)|(apply WhenQ.mk;(try conv=>whnf);rotate_left;(try conv=>whnf);rotate_right)|(with_reducible first|assumption|(apply not_of;assumption)|(apply left_of;assumption)|(apply left_of;apply left_of;assumption)|(apply and_of<;>first|assumption|(apply not_of;assumption)))|(refine lin_plan (by kernel_rfl) ?_;try conv=>whnf)|(refine ⟨_, _, rfl, idx_map (by with_reducible assumption), rfl, ?_⟩;try conv=>whnf)|(refine ⟨rfl, ?_⟩;try conv=>whnf)|exact Nat.le_refl 1|((first|(apply ex3;(focus with_reducible assumption);(focus with_reducible assumption))|(apply ex2;(focus with_reducible assumption)));try conv=>whnf)|fail)
      · obtain ⟨e, _, rfl⟩ := List.mem_map.1 h; rfl
      · refine ⟨some (.int .i64 (k : Int)), by rw [mfind_dones, hl]; rfl, ?_⟩
        (try conv=>whnf);repeat' (first|(apply And.intro<;>try conv=>whnf)|(intro h;first|(with_reducible first|exact tf0 h|exact ft0 h|exact nt0 h|exact nf0 h)|exact litz h rfl|(with_reducible first|exact tf h (by assumption)|exact tf (by assumption) h)|try conv=>whnf)|with_reducible rfl|apply True.intro|((first|apply infoT|apply bleI|apply fitI|apply cellsI|apply szI);rfl)|(apply guardI;kernel_rfl)|(apply WhenQ.mk;(try conv=>whnf);rotate_left;(try conv=>whnf);rotate_right)|(with_reducible first|assumption|(apply not_of;assumption)|(apply left_of;assumption)|(apply left_of;apply left_of;assumption)|(apply and_of<;>first|assumption|(apply not_of;assumption)))|(refine lin_plan (by kernel_rfl) ?_;try conv=>whnf)|(refine ⟨_, _, rfl, idx_map (by with_reducible assumption), rfl, ?_⟩;try conv=>whnf)|(refine ⟨rfl, ?_⟩;try conv=>whnf)|exact Nat.le_refl 1|((first|(apply ex3;(focus with_reducible assumption);(focus with_reducible assumption))|(apply ex2;(focus with_reducible assumption)));try conv=>whnf)|fail)
        exact ⟨_, 8, Hc f out ds, (by refine Wk.of ?_ ?_ rfl rfl rfl<;>(repeat' (first|exact trivial|exact WkD.same _|exact WkO.same _ _ rfl|exact WkD.any _|(apply WkD.nil;first|exact Or.inl rfl|exact Or.inr rfl)|(exact WkD.fz _ _ _ rfl (Or.inl ⟨_, rfl⟩) rfl)|(exact WkD.fz _ _ _ rfl (Or.inr rfl) rfl)|refine WkD.int ?_|exact WkD.new' rfl rfl rfl|exact WkO.new _ _ rfl|refine WkO.vars rfl ?_|with_reducible rfl|exact rfl|refine ⟨?_, ?_⟩|((refine wrapA ?_ ?_ ?_);(focus simp;done);(focus (try dsimp only);omega);(focus (try dsimp only);omega))|fail))), hK⟩
    | none =>
      have hn : f[i]? = some f[i] := List.getElem?_eq_getElem hif
      obtain ⟨x, hx⟩ : ∃ x, x = f[i] := ⟨_, rfl⟩
      rw [← hx] at hn
      obtain ⟨hfx, hfy⟩ := hwf i x hn
      have kA := opA_keep hwf hn hin hif (out, ds)
      have kB := opB_keep hwf hn hin hif (opA f n x (out, ds)).2
      have hfin := fin_none (f := f) (n := n) (i := i) (s := (out, ds)) hl hn
      rw [hfin] at hK
      obtain ⟨A, hA⟩ : ∃ A, A = opA f n x (out, ds) := ⟨_, rfl⟩
      rw [← hA] at hK kA kB
      obtain ⟨B, hB⟩ : ∃ B, B = opB f n x A.2 := ⟨_, rfl⟩
      rw [← hB] at hK kB
      have hK' : K (.pv (.int .i64 ((putN B.2.1 (ndB x.op (ndA x A.1) B.1)).1 : Int))) ⟨8, 0, base, objsOf (Hc f (putN B.2.1 (ndB x.op (ndA x A.1) B.1)).2 (dput i (putN B.2.1 (ndB x.op (ndA x A.1) B.1)).1 B.2.2))⟩ := hK
      clear hfin hK hx
      have b1 := kA.2 hb
      have b2 := kB.2 b1
      have hlB : look i B.2.2 = none := by rw [kB.1 i (Nat.le_refl i), kA.1 i (Nat.le_refl i)]; exact hl
      have hcB := cnt_pos hlB hif
      (try conv=>whnf);repeat' (first|(apply And.intro<;>try conv=>whnf)|(intro h;first|(with_reducible first|exact tf0 h|exact ft0 h|exact nt0 h|exact nf0 h)|exact litz h rfl|(with_reducible first|exact tf h (by assumption)|exact tf (by assumption) h)|try conv=>whnf)|with_reducible rfl|apply True.intro|((first|apply infoT|apply bleI|apply fitI|apply cellsI|apply szI);rfl)|(apply guardI;kernel_rfl)|(apply WhenQ.mk;(try conv=>whnf);rotate_left;(try conv=>whnf);rotate_right)|(with_reducible first|assumption|(apply not_of;assumption)|(apply left_of;assumption)|(apply left_of;apply left_of;assumption)|(apply and_of<;>first|assumption|(apply not_of;assumption)))|(refine lin_plan (by kernel_rfl) ?_;try conv=>whnf)|(refine ⟨_, _, rfl, idx_map (by with_reducible assumption), rfl, ?_⟩;try conv=>whnf)|(refine ⟨rfl, ?_⟩;try conv=>whnf)|exact Nat.le_refl 1|((first|(apply ex3;(focus with_reducible assumption);(focus with_reducible assumption))|(apply ex2;(focus with_reducible assumption)));try conv=>whnf)|fail)
      · obtain ⟨e, _, rfl⟩ := List.mem_map.1 h; rfl
      · refine ⟨none, by rw [mfind_dones, hl]; rfl, ?_⟩
        (try conv=>whnf);repeat' (first|(apply And.intro<;>try conv=>whnf)|(intro h;first|(with_reducible first|exact tf0 h|exact ft0 h|exact nt0 h|exact nf0 h)|exact litz h rfl|(with_reducible first|exact tf h (by assumption)|exact tf (by assumption) h)|try conv=>whnf)|with_reducible rfl|apply True.intro|((first|apply infoT|apply bleI|apply fitI|apply cellsI|apply szI);rfl)|(apply guardI;kernel_rfl)|(apply WhenQ.mk;(try conv=>whnf);rotate_left;(try conv=>whnf);rotate_right)|(with_reducible first|assumption|(apply not_of;assumption)|(apply left_of;assumption)|(apply left_of;apply left_of;assumption)|(apply and_of<;>first|assumption|(apply not_of;assumption)))|(refine lin_plan (by kernel_rfl) ?_;try conv=>whnf)|(refine ⟨_, _, rfl, idx_map (by with_reducible assumption), rfl, ?_⟩;try conv=>whnf)|(refine ⟨rfl, ?_⟩;try conv=>whnf)|exact Nat.le_refl 1|((first|(apply ex3;(focus with_reducible assumption);(focus with_reducible assumption))|(apply ex2;(focus with_reducible assumption)));try conv=>whnf)|fail)
        refine ⟨i, x.pv, rfl, by simp [hn], rfl, ?_⟩
        (try conv=>whnf);repeat' (first|(apply And.intro<;>try conv=>whnf)|(intro h;first|(with_reducible first|exact tf0 h|exact ft0 h|exact nt0 h|exact nf0 h)|exact litz h rfl|(with_reducible first|exact tf h (by assumption)|exact tf (by assumption) h)|try conv=>whnf)|with_reducible rfl|apply True.intro|((first|apply infoT|apply bleI|apply fitI|apply cellsI|apply szI);rfl)|(apply guardI;kernel_rfl)|(apply WhenQ.mk;(try conv=>whnf);rotate_left;(try conv=>whnf);rotate_right)|(with_reducible first|assumption|(apply not_of;assumption)|(apply left_of;assumption)|(apply left_of;apply left_of;assumption)|(apply and_of<;>first|assumption|(apply not_of;assumption)))|(refine lin_plan (by kernel_rfl) ?_;try conv=>whnf)|(refine ⟨_, _, rfl, idx_map (by with_reducible assumption), rfl, ?_⟩;try conv=>whnf)|(refine ⟨rfl, ?_⟩;try conv=>whnf)|exact Nat.le_refl 1|((first|(apply ex3;(focus with_reducible assumption);(focus with_reducible assumption))|(apply ex2;(focus with_reducible assumption)));try conv=>whnf)|(refine PureFn.dcq (f := 91) rfl ?_;try conv=>whnf)|((refine ⟨_, _, fm_uses ?_, ?_, ?_⟩);rotate_left 1;(focus (first|(refine ⟨?_, trivial⟩<;>first|exact PLe.refl _|exact PLe.nil)|exact trivial));try conv=>whnf)|(refine ⟨_, (by (conv=>whnf);exact fm_uses _), rfl, ?_⟩;try conv=>whnf)|fail)
        refine ⟨{ q : Nd × List Nd × List (Nat × Nat) // q.2 = A.2 ∧ q.1 = ndA x A.1 },
          fun q => [(0, .pv (.int .i64 (i : Int))), (1, .ref 5 0), (2, .ref 0 0), (3, .ref 6 0), (4, .ref 3 0), (5, .ref 1 0), (10, .ref 8 0), (11, .ref 9 0)], fun _ => 10,
          fun q => Hc f q.1.2.1 q.1.2.2 ++ [(8, .var q.1.1.dvs), (9, .var (usesDvs x.op))], ?_, ?_⟩
        · (try conv=>whnf);repeat' (first|(apply And.intro<;>try conv=>whnf)|(intro h;first|(with_reducible first|exact tf0 h|exact ft0 h|exact nt0 h|exact nf0 h)|exact litz h rfl|(with_reducible first|exact tf h (by assumption)|exact tf (by assumption) h)|try conv=>whnf)|with_reducible rfl|apply True.intro|((first|apply infoT|apply bleI|apply fitI|apply cellsI|apply szI);rfl)|(apply guardI;kernel_rfl)|(apply WhenQ.mk;(try conv=>whnf);rotate_left;(try conv=>whnf);rotate_right)|(with_reducible first|assumption|(apply not_of;assumption)|(apply left_of;assumption)|(apply left_of;apply left_of;assumption)|(apply and_of<;>first|assumption|(apply not_of;assumption)))|(refine lin_plan (by kernel_rfl) ?_;try conv=>whnf)|(refine ⟨_, _, rfl, idx_map (by with_reducible assumption), rfl, ?_⟩;try conv=>whnf)|(refine ⟨rfl, ?_⟩;try conv=>whnf)|exact Nat.le_refl 1|((first|(apply ex3;(focus with_reducible assumption);(focus with_reducible assumption))|(apply ex2;(focus with_reducible assumption)));try conv=>whnf)|(refine PureFn.dcq (f := 91) rfl ?_;try conv=>whnf)|((refine ⟨_, _, fm_uses ?_, ?_, ?_⟩);rotate_left 1;(focus (first|(refine ⟨?_, trivial⟩<;>first|exact PLe.refl _|exact PLe.nil)|exact trivial));try conv=>whnf)|(refine ⟨_, (by (conv=>whnf);exact fm_uses _), rfl, ?_⟩;try conv=>whnf)|fail)
          · have hx0 := hfx h
            refine DC.call 8 (Hc f out ds) ⟨rfl, rfl, rfl, rfl, rfl, rfl, rfl, rfl, trivial⟩ rfl rfl rfl rfl fun M' => ?_
            have hxe : x.x = ((x.x.toNat : Nat) : Int) := by omega
            refine (?_ : DC Try.prog M' w0 110 [.pv (.int .i64 x.x), .ref 5 0, .ref 0 0, .ref 6 0, .ref 3 0, .ref 1 0] ⟨8, 0, 8, objsOf (Hc f out ds)⟩ _)
            rw [hxe]
            refine ih x.x.toNat (out, ds) (by omega) (by omega) hb M' w0 8 _ (Nat.le_refl 8) ⟨rfl, ?_⟩
            have hAe : A = fin f n x.x.toNat (out, ds) := by rw [hA, opA, h]; rfl
            rw [← hAe]
            (try conv=>whnf);repeat' (first|(apply And.intro<;>try conv=>whnf)|(intro h;first|(with_reducible first|exact tf0 h|exact ft0 h|exact nt0 h|exact nf0 h)|exact litz h rfl|(with_reducible first|exact tf h (by assumption)|exact tf (by assumption) h)|try conv=>whnf)|with_reducible rfl|apply True.intro|((first|apply infoT|apply bleI|apply fitI|apply cellsI|apply szI);rfl)|(apply guardI;kernel_rfl)|(apply WhenQ.mk;(try conv=>whnf);rotate_left;(try conv=>whnf);rotate_right)|(with_reducible first|assumption|(apply not_of;assumption)|(apply left_of;assumption)|(apply left_of;apply left_of;assumption)|(apply and_of<;>first|assumption|(apply not_of;assumption)))|(refine lin_plan (by kernel_rfl) ?_;try conv=>whnf)|(refine ⟨_, _, rfl, idx_map (by with_reducible assumption), rfl, ?_⟩;try conv=>whnf)|(refine ⟨rfl, ?_⟩;try conv=>whnf)|exact Nat.le_refl 1|((first|(apply ex3;(focus with_reducible assumption);(focus with_reducible assumption))|(apply ex2;(focus with_reducible assumption)));try conv=>whnf)|fail)
            exact ⟨⟨(⟨x.op, x.i, x.e, x.g, (A.1 : Int), x.y⟩, A.2), rfl, by unfold ndA; rw [h]; rfl⟩, (by refine Wk.of ?_ ?_ rfl rfl rfl<;>(repeat' (first|exact trivial|exact WkD.same _|exact WkO.same _ _ rfl|exact WkD.any _|(apply WkD.nil;first|exact Or.inl rfl|exact Or.inr rfl)|(exact WkD.fz _ _ _ rfl (Or.inl ⟨_, rfl⟩) rfl)|(exact WkD.fz _ _ _ rfl (Or.inr rfl) rfl)|refine WkD.int ?_|exact WkD.new' rfl rfl rfl|exact WkO.new _ _ rfl|refine WkO.vars rfl ?_|with_reducible rfl|exact rfl|refine ⟨?_, ?_⟩|((refine wrapA ?_ ?_ ?_);(focus simp;done);(focus (try dsimp only);omega);(focus (try dsimp only);omega))|fail)))⟩
          · have hAe : A = (0, (out, ds)) := by rw [hA, opA, h]; rfl
            exact ⟨⟨(x, (out, ds)), by rw [hAe], by unfold ndA; rw [h]; rfl⟩, (by refine Wk.of ?_ ?_ rfl rfl rfl<;>(repeat' (first|exact trivial|exact WkD.same _|exact WkO.same _ _ rfl|exact WkD.any _|(apply WkD.nil;first|exact Or.inl rfl|exact Or.inr rfl)|(exact WkD.fz _ _ _ rfl (Or.inl ⟨_, rfl⟩) rfl)|(exact WkD.fz _ _ _ rfl (Or.inr rfl) rfl)|refine WkD.int ?_|exact WkD.new' rfl rfl rfl|exact WkO.new _ _ rfl|refine WkO.vars rfl ?_|with_reducible rfl|exact rfl|refine ⟨?_, ?_⟩|((refine wrapA ?_ ?_ ?_);(focus simp;done);(focus (try dsimp only);omega);(focus (try dsimp only);omega))|fail)))⟩
        · rintro ⟨⟨y, out1, ds1⟩, hq1, hq2⟩
          have e1 : out1 = A.2.1 := congrArg Prod.fst hq1
          have e2 : ds1 = A.2.2 := congrArg Prod.snd hq1
          subst e1; subst e2
          have hq3 : y = ndA x A.1 := hq2
          have hyop : y.op = x.op := by rw [hq3]; unfold ndA; cases usesX x.op <;> rfl
          have hyy : y.y = x.y := by rw [hq3]; unfold ndA; cases usesX x.op <;> rfl
          (try conv=>whnf);repeat' (first|(apply And.intro<;>try conv=>whnf)|(intro h;first|(with_reducible first|exact tf0 h|exact ft0 h|exact nt0 h|exact nf0 h)|exact litz h rfl|(with_reducible first|exact tf h (by assumption)|exact tf (by assumption) h)|try conv=>whnf)|with_reducible rfl|apply True.intro|((first|apply infoT|apply bleI|apply fitI|apply cellsI|apply szI);rfl)|(apply guardI;kernel_rfl)|(apply WhenQ.mk;(try conv=>whnf);rotate_left;(try conv=>whnf);rotate_right)|(with_reducible first|assumption|(apply not_of;assumption)|(apply left_of;assumption)|(apply left_of;apply left_of;assumption)|(apply and_of<;>first|assumption|(apply not_of;assumption)))|(refine lin_plan (by kernel_rfl) ?_;try conv=>whnf)|(refine ⟨_, _, rfl, idx_map (by with_reducible assumption), rfl, ?_⟩;try conv=>whnf)|(refine ⟨rfl, ?_⟩;try conv=>whnf)|exact Nat.le_refl 1|((first|(apply ex3;(focus with_reducible assumption);(focus with_reducible assumption))|(apply ex2;(focus with_reducible assumption)));try conv=>whnf)|fail)
          refine ⟨{ q : Nd × List Nd × List (Nat × Nat) // q.2 = B.2 ∧ q.1 = ndB x.op (ndA x A.1) B.1 },
            fun q => [(0, .pv (.int .i64 (i : Int))), (1, .ref 5 0), (2, .ref 0 0), (3, .ref 6 0), (4, .ref 3 0), (5, .ref 1 0), (10, .ref 8 0)], fun _ => 9,
            fun q => Hc f q.1.2.1 q.1.2.2 ++ [(8, .var q.1.1.dvs)], ?_, ?_⟩
          · (try conv=>whnf);repeat' (first|(apply And.intro<;>try conv=>whnf)|(intro h;first|(with_reducible first|exact tf0 h|exact ft0 h|exact nt0 h|exact nf0 h)|exact litz h rfl|(with_reducible first|exact tf h (by assumption)|exact tf (by assumption) h)|try conv=>whnf)|with_reducible rfl|apply True.intro|((first|apply infoT|apply bleI|apply fitI|apply cellsI|apply szI);rfl)|(apply guardI;kernel_rfl)|(apply WhenQ.mk;(try conv=>whnf);rotate_left;(try conv=>whnf);rotate_right)|(with_reducible first|assumption|(apply not_of;assumption)|(apply left_of;assumption)|(apply left_of;apply left_of;assumption)|(apply and_of<;>first|assumption|(apply not_of;assumption)))|(refine lin_plan (by kernel_rfl) ?_;try conv=>whnf)|(refine ⟨_, _, rfl, idx_map (by with_reducible assumption), rfl, ?_⟩;try conv=>whnf)|(refine ⟨rfl, ?_⟩;try conv=>whnf)|exact Nat.le_refl 1|((first|(apply ex3;(focus with_reducible assumption);(focus with_reducible assumption))|(apply ex2;(focus with_reducible assumption)));try conv=>whnf)|fail)
            · have hy0 := hfy h
              refine DC.call 8 (Hc f A.2.1 A.2.2) ⟨rfl, rfl, rfl, rfl, rfl, rfl, rfl, rfl, trivial⟩ rfl rfl rfl rfl fun M' => ?_
              have hye : y.y = ((x.y.toNat : Nat) : Int) := by omega
              refine (?_ : DC Try.prog M' w0 110 [.pv (.int .i64 y.y), .ref 5 0, .ref 0 0, .ref 6 0, .ref 3 0, .ref 1 0] ⟨8, 0, 8, objsOf (Hc f A.2.1 A.2.2)⟩ _)
              rw [hye]
              refine ih x.y.toNat A.2 (by omega) (by omega) b1 M' w0 8 _ (Nat.le_refl 8) ⟨rfl, ?_⟩
              have hBe : B = fin f n x.y.toNat A.2 := by rw [hB, opB, h]; rfl
              rw [← hBe]
              (try conv=>whnf);repeat' (first|(apply And.intro<;>try conv=>whnf)|(intro h;first|(with_reducible first|exact tf0 h|exact ft0 h|exact nt0 h|exact nf0 h)|exact litz h rfl|(with_reducible first|exact tf h (by assumption)|exact tf (by assumption) h)|try conv=>whnf)|with_reducible rfl|apply True.intro|((first|apply infoT|apply bleI|apply fitI|apply cellsI|apply szI);rfl)|(apply guardI;kernel_rfl)|(apply WhenQ.mk;(try conv=>whnf);rotate_left;(try conv=>whnf);rotate_right)|(with_reducible first|assumption|(apply not_of;assumption)|(apply left_of;assumption)|(apply left_of;apply left_of;assumption)|(apply and_of<;>first|assumption|(apply not_of;assumption)))|(refine lin_plan (by kernel_rfl) ?_;try conv=>whnf)|(refine ⟨_, _, rfl, idx_map (by with_reducible assumption), rfl, ?_⟩;try conv=>whnf)|(refine ⟨rfl, ?_⟩;try conv=>whnf)|exact Nat.le_refl 1|((first|(apply ex3;(focus with_reducible assumption);(focus with_reducible assumption))|(apply ex2;(focus with_reducible assumption)));try conv=>whnf)|fail)
              exact ⟨⟨(⟨y.op, y.i, y.e, y.g, y.x, (B.1 : Int)⟩, B.2), rfl, by rw [← hq3]; unfold ndB; rw [h]; rfl⟩, (by refine Wk.of ?_ ?_ rfl rfl rfl<;>(repeat' (first|exact trivial|exact WkD.same _|exact WkO.same _ _ rfl|exact WkD.any _|(apply WkD.nil;first|exact Or.inl rfl|exact Or.inr rfl)|(exact WkD.fz _ _ _ rfl (Or.inl ⟨_, rfl⟩) rfl)|(exact WkD.fz _ _ _ rfl (Or.inr rfl) rfl)|refine WkD.int ?_|exact WkD.new' rfl rfl rfl|exact WkO.new _ _ rfl|refine WkO.vars rfl ?_|with_reducible rfl|exact rfl|refine ⟨?_, ?_⟩|((refine wrapA ?_ ?_ ?_);(focus simp;done);(focus (try dsimp only);omega);(focus (try dsimp only);omega))|fail)))⟩
            · have hBe : B = (0, A.2) := by rw [hB, opB, h]; rfl
              exact ⟨⟨(y, A.2), by rw [hBe], by rw [← hq3]; unfold ndB; rw [h]; rfl⟩, (by refine Wk.of ?_ ?_ rfl rfl rfl<;>(repeat' (first|exact trivial|exact WkD.same _|exact WkO.same _ _ rfl|exact WkD.any _|(apply WkD.nil;first|exact Or.inl rfl|exact Or.inr rfl)|(exact WkD.fz _ _ _ rfl (Or.inl ⟨_, rfl⟩) rfl)|(exact WkD.fz _ _ _ rfl (Or.inr rfl) rfl)|refine WkD.int ?_|exact WkD.new' rfl rfl rfl|exact WkO.new _ _ rfl|refine WkO.vars rfl ?_|with_reducible rfl|exact rfl|refine ⟨?_, ?_⟩|((refine wrapA ?_ ?_ ?_);(focus simp;done);(focus (try dsimp only);omega);(focus (try dsimp only);omega))|fail)))⟩
          · rintro ⟨⟨z, out2, ds2⟩, hr1, hr2⟩
            have e1 : out2 = B.2.1 := congrArg Prod.fst hr1
            have e2 : ds2 = B.2.2 := congrArg Prod.snd hr1
            subst e1; subst e2
            have hr3 : z = ndB x.op (ndA x A.1) B.1 := hr2
            rw [← hr3] at hK'
            (try conv=>whnf);repeat' (first|(apply And.intro<;>try conv=>whnf)|(intro h;first|(with_reducible first|exact tf0 h|exact ft0 h|exact nt0 h|exact nf0 h)|exact litz h rfl|(with_reducible first|exact tf h (by assumption)|exact tf (by assumption) h)|try conv=>whnf)|with_reducible rfl|apply True.intro|((first|apply infoT|apply bleI|apply fitI|apply cellsI|apply szI);rfl)|(apply guardI;kernel_rfl)|(apply WhenQ.mk;(try conv=>whnf);rotate_left;(try conv=>whnf);rotate_right)|(with_reducible first|assumption|(apply not_of;assumption)|(apply left_of;assumption)|(apply left_of;apply left_of;assumption)|(apply and_of<;>first|assumption|(apply not_of;assumption)))|(refine lin_plan (by kernel_rfl) ?_;try conv=>whnf)|(refine ⟨_, _, rfl, idx_map (by with_reducible assumption), rfl, ?_⟩;try conv=>whnf)|(refine ⟨rfl, ?_⟩;try conv=>whnf)|exact Nat.le_refl 1|((first|(apply ex3;(focus with_reducible assumption);(focus with_reducible assumption))|(apply ex2;(focus with_reducible assumption)));try conv=>whnf)|fail)
            · obtain ⟨n', hn'⟩ := mem_nums h; rw [hn']; rfl
            · have hmf := mfind_nums z B.2.1
              obtain ⟨p, hp⟩ : ∃ p, p = putN B.2.1 z := ⟨_, rfl⟩
              rw [← hp] at hK'
              refine ⟨(idx z B.2.1 0).map fun k => PV.int .i64 (k : Int), hmf, ?_⟩
              cases hid : idx z B.2.1 0 with
              | some k =>
                have hp' : p = (k, B.2.1) := by rw [hp, putN, hid]
                (try conv=>whnf);repeat' (first|(apply And.intro<;>try conv=>whnf)|(intro h;first|(with_reducible first|exact tf0 h|exact ft0 h|exact nt0 h|exact nf0 h)|exact litz h rfl|(with_reducible first|exact tf h (by assumption)|exact tf (by assumption) h)|try conv=>whnf)|with_reducible rfl|apply True.intro|((first|apply infoT|apply bleI|apply fitI|apply cellsI|apply szI);rfl)|(apply guardI;kernel_rfl)|(apply WhenQ.mk;(try conv=>whnf);rotate_left;(try conv=>whnf);rotate_right)|(with_reducible first|assumption|(apply not_of;assumption)|(apply left_of;assumption)|(apply left_of;apply left_of;assumption)|(apply and_of<;>first|assumption|(apply not_of;assumption)))|(refine lin_plan (by kernel_rfl) ?_;try conv=>whnf)|(refine ⟨_, _, rfl, idx_map (by with_reducible assumption), rfl, ?_⟩;try conv=>whnf)|(refine ⟨rfl, ?_⟩;try conv=>whnf)|exact Nat.le_refl 1|((first|(apply ex3;(focus with_reducible assumption);(focus with_reducible assumption))|(apply ex2;(focus with_reducible assumption)));try conv=>whnf)|fail)
                refine ⟨{ q : Nat × List Nd // q = p }, fun q => [(0, .pv (.int .i64 (i : Int))), (1, .ref 5 0), (13, .pv (.int .i64 (q.1.1 : Int)))], fun _ => 8, fun q => Hc f q.1.2 B.2.2, ?_, ?_⟩
                · (try conv=>whnf);repeat' (first|(apply And.intro<;>try conv=>whnf)|(intro h;first|(with_reducible first|exact tf0 h|exact ft0 h|exact nt0 h|exact nf0 h)|exact litz h rfl|(with_reducible first|exact tf h (by assumption)|exact tf (by assumption) h)|try conv=>whnf)|with_reducible rfl|apply True.intro|((first|apply infoT|apply bleI|apply fitI|apply cellsI|apply szI);rfl)|(apply guardI;kernel_rfl)|(apply WhenQ.mk;(try conv=>whnf);rotate_left;(try conv=>whnf);rotate_right)|(with_reducible first|assumption|(apply not_of;assumption)|(apply left_of;assumption)|(apply left_of;apply left_of;assumption)|(apply and_of<;>first|assumption|(apply not_of;assumption)))|(refine lin_plan (by kernel_rfl) ?_;try conv=>whnf)|(refine ⟨_, _, rfl, idx_map (by with_reducible assumption), rfl, ?_⟩;try conv=>whnf)|(refine ⟨rfl, ?_⟩;try conv=>whnf)|exact Nat.le_refl 1|((first|(apply ex3;(focus with_reducible assumption);(focus with_reducible assumption))|(apply ex2;(focus with_reducible assumption)));try conv=>whnf)|fail)
                  exact ⟨⟨(k, B.2.1), hp'.symm⟩, (by refine Wk.of ?_ ?_ rfl rfl rfl<;>(repeat' (first|exact trivial|exact WkD.same _|exact WkO.same _ _ rfl|exact WkD.any _|(apply WkD.nil;first|exact Or.inl rfl|exact Or.inr rfl)|(exact WkD.fz _ _ _ rfl (Or.inl ⟨_, rfl⟩) rfl)|(exact WkD.fz _ _ _ rfl (Or.inr rfl) rfl)|refine WkD.int ?_|exact WkD.new' rfl rfl rfl|exact WkO.new _ _ rfl|refine WkO.vars rfl ?_|with_reducible rfl|exact rfl|refine ⟨?_, ?_⟩|((refine wrapA ?_ ?_ ?_);(focus simp;done);(focus (try dsimp only);omega);(focus (try dsimp only);omega))|fail)))⟩
                · rintro ⟨q, rfl⟩
                  (try conv=>whnf);repeat' (first|(apply And.intro<;>try conv=>whnf)|(intro h;first|(with_reducible first|exact tf0 h|exact ft0 h|exact nt0 h|exact nf0 h)|exact litz h rfl|(with_reducible first|exact tf h (by assumption)|exact tf (by assumption) h)|try conv=>whnf)|with_reducible rfl|apply True.intro|((first|apply infoT|apply bleI|apply fitI|apply cellsI|apply szI);rfl)|(apply guardI;kernel_rfl)|(apply WhenQ.mk;(try conv=>whnf);rotate_left;(try conv=>whnf);rotate_right)|(with_reducible first|assumption|(apply not_of;assumption)|(apply left_of;assumption)|(apply left_of;apply left_of;assumption)|(apply and_of<;>first|assumption|(apply not_of;assumption)))|(refine lin_plan (by kernel_rfl) ?_;try conv=>whnf)|(refine ⟨_, _, rfl, idx_map (by with_reducible assumption), rfl, ?_⟩;try conv=>whnf)|(refine ⟨rfl, ?_⟩;try conv=>whnf)|exact Nat.le_refl 1|((first|(apply ex3;(focus with_reducible assumption);(focus with_reducible assumption))|(apply ex2;(focus with_reducible assumption)));try conv=>whnf)|fail)
                  · obtain ⟨e, _, rfl⟩ := List.mem_map.1 h; rfl
                  · exact close_ok hK' rfl rfl rfl rfl rfl rfl rfl (congrArg (fun z => some (DObj.mp z)) (mput_dones i q.1 B.2.2)) rfl rfl rfl
              | none =>
                have hp' : p = (B.2.1.length, B.2.1 ++ [z]) := by rw [hp, putN, hid]
                have hbig : B.2.1.length + 1 ≤ 4294967296 := by omega
                (try conv=>whnf);repeat' (first|(apply And.intro<;>try conv=>whnf)|(intro h;first|(with_reducible first|exact tf0 h|exact ft0 h|exact nt0 h|exact nf0 h)|exact litz h rfl|(with_reducible first|exact tf h (by assumption)|exact tf (by assumption) h)|try conv=>whnf)|with_reducible rfl|apply True.intro|((first|apply infoT|apply bleI|apply fitI|apply cellsI|apply szI);rfl)|(apply guardI;kernel_rfl)|(apply WhenQ.mk;(try conv=>whnf);rotate_left;(try conv=>whnf);rotate_right)|(with_reducible first|assumption|(apply not_of;assumption)|(apply left_of;assumption)|(apply left_of;apply left_of;assumption)|(apply and_of<;>first|assumption|(apply not_of;assumption)))|(refine lin_plan (by kernel_rfl) ?_;try conv=>whnf)|(refine ⟨_, _, rfl, idx_map (by with_reducible assumption), rfl, ?_⟩;try conv=>whnf)|(refine ⟨rfl, ?_⟩;try conv=>whnf)|exact Nat.le_refl 1|((first|(apply ex3;(focus with_reducible assumption);(focus with_reducible assumption))|(apply ex2;(focus with_reducible assumption)));try conv=>whnf)|fail)
                refine ⟨{ q : Nat × List Nd // q = p }, fun q => [(0, .pv (.int .i64 (i : Int))), (1, .ref 5 0), (13, .pv (.int .i64 (q.1.1 : Int)))], fun _ => 8, fun q => Hc f q.1.2 B.2.2, ?_, ?_⟩
                · (try conv=>whnf);repeat' (first|(apply And.intro<;>try conv=>whnf)|(intro h;first|(with_reducible first|exact tf0 h|exact ft0 h|exact nt0 h|exact nf0 h)|exact litz h rfl|(with_reducible first|exact tf h (by assumption)|exact tf (by assumption) h)|try conv=>whnf)|with_reducible rfl|apply True.intro|((first|apply infoT|apply bleI|apply fitI|apply cellsI|apply szI);rfl)|(apply guardI;kernel_rfl)|(apply WhenQ.mk;(try conv=>whnf);rotate_left;(try conv=>whnf);rotate_right)|(with_reducible first|assumption|(apply not_of;assumption)|(apply left_of;assumption)|(apply left_of;apply left_of;assumption)|(apply and_of<;>first|assumption|(apply not_of;assumption)))|(refine lin_plan (by kernel_rfl) ?_;try conv=>whnf)|(refine ⟨_, _, rfl, idx_map (by with_reducible assumption), rfl, ?_⟩;try conv=>whnf)|(refine ⟨rfl, ?_⟩;try conv=>whnf)|exact Nat.le_refl 1|((first|(apply ex3;(focus with_reducible assumption);(focus with_reducible assumption))|(apply ex2;(focus with_reducible assumption)));try conv=>whnf)|fail)
                  · show (B.2.1.map Nd.pv).length + 1 ≤ 4294967296
                    rw [List.length_map]; exact hbig
                  · obtain ⟨n', hn'⟩ := mem_nums h; rw [hn']; rfl
                  · refine ⟨⟨(B.2.1.length, B.2.1 ++ [z]), hp'.symm⟩, Wk.of ?_ ?_ rfl rfl rfl⟩
                    · (repeat' (first | (exact trivial) | (exact WkD.same _) | (refine WkD.int ?_) | (refine ⟨?_, ?_⟩) | fail)) <;> exact congrArg Int.ofNat (List.length_map _)
                    · refine ⟨.same _ _ rfl, trivial, .same _ _ ?_, trivial, .same _ _ ?_, trivial, .same _ _ rfl, trivial, .same _ _ rfl, trivial, .same _ _ rfl, trivial, .same _ _ rfl, trivial, .same _ _ ?_, trivial, trivial⟩
                      · refine congrArg (fun z => some (DObj.var [DV.buf 7 z])) ?_
                        simp
                      · refine Eq.trans (congrArg (fun v => some (DObj.mp (mput (nums B.2.1 0) z.pv (.int .i64 v)))) (congrArg Int.ofNat (List.length_map _))) ?_
                        exact congrArg (fun z => some (DObj.mp z)) (mput_nums z B.2.1 hid)
                      · exact congrArg (fun z => some (DObj.arr 6 z)) (List.map_append (f := Nd.pv) (l₁ := B.2.1) (l₂ := [z])).symm
                · rintro ⟨q, rfl⟩
                  (try conv=>whnf);repeat' (first|(apply And.intro<;>try conv=>whnf)|(intro h;first|(with_reducible first|exact tf0 h|exact ft0 h|exact nt0 h|exact nf0 h)|exact litz h rfl|(with_reducible first|exact tf h (by assumption)|exact tf (by assumption) h)|try conv=>whnf)|with_reducible rfl|apply True.intro|((first|apply infoT|apply bleI|apply fitI|apply cellsI|apply szI);rfl)|(apply guardI;kernel_rfl)|(apply WhenQ.mk;(try conv=>whnf);rotate_left;(try conv=>whnf);rotate_right)|(with_reducible first|assumption|(apply not_of;assumption)|(apply left_of;assumption)|(apply left_of;apply left_of;assumption)|(apply and_of<;>first|assumption|(apply not_of;assumption)))|(refine lin_plan (by kernel_rfl) ?_;try conv=>whnf)|(refine ⟨_, _, rfl, idx_map (by with_reducible assumption), rfl, ?_⟩;try conv=>whnf)|(refine ⟨rfl, ?_⟩;try conv=>whnf)|exact Nat.le_refl 1|((first|(apply ex3;(focus with_reducible assumption);(focus with_reducible assumption))|(apply ex2;(focus with_reducible assumption)));try conv=>whnf)|fail)
                  · obtain ⟨e, _, rfl⟩ := List.mem_map.1 h; rfl
                  · exact close_ok hK' rfl rfl rfl rfl rfl rfl rfl (congrArg (fun z => some (DObj.mp z)) (mput_dones i q.1 B.2.2)) rfl rfl rfl
end Go.Proofs.Ytnbnkgcjgfmlcaa
set_option maxRecDepth 100000
set_option maxHeartbeats 4000000
namespace Go.Proofs.Ytnbnkgcjgfmlcaa
open Go Go.Dv

theorem cnt_nil : ∀ n, cnt [] n = n
  | 0 => rfl
  | n + 1 => by simp only [cnt, cnt_nil n, look]

theorem fm_compact (f : List Nd) (i : Nat) (hwf : Wf f) (hi : i < f.length) (hN : f.length ≤ 1000000) : PureFn Try.prog 93 [fpv f, .int .i64 (i : Int)] (fpv (canon f i)) := by
  refine PureFn.intro mixed (fn := Try.f93) rfl rfl rfl fun M w0 => ?_
  (try conv=>whnf);repeat' (first|(apply And.intro<;>try conv=>whnf)|(intro h;first|(with_reducible first|exact tf0 h|exact ft0 h|exact nt0 h|exact nf0 h)|exact litz h rfl|(with_reducible first|exact tf h (by assumption)|exact tf (by assumption) h)|try conv=>whnf)|with_reducible rfl|apply True.intro|((first|apply infoT|apply bleI|apply fitI|apply cellsI|apply szI);rfl)|(apply guardI;kernel_rfl)|(apply WhenQ.mk;(try conv=>whnf);rotate_left;(try conv=>whnf);rotate_right)|(with_reducible first|assumption|(apply not_of;assumption)|(apply left_of;assumption)|(apply left_of;apply left_of;assumption)|(apply and_of<;>first|assumption|(apply not_of;assumption)))|(refine lin_plan (by kernel_rfl) ?_;try conv=>whnf)|(refine ⟨_, _, rfl, idx_map (by with_reducible assumption), rfl, ?_⟩;try conv=>whnf)|(refine ⟨rfl, ?_⟩;try conv=>whnf)|exact Nat.le_refl 1|((first|(apply ex3;(focus with_reducible assumption);(focus with_reducible assumption))|(apply ex2;(focus with_reducible assumption)));try conv=>whnf)|fail)
  refine DC.wkIn (args' := [.pv (.int .i64 (i : Int)), .ref 5 0, .ref 0 0, .ref 6 0, .ref 3 0, .ref 1 0]) (nx := 8) (Hl := Hc f [] []) (finish_dc f hwf hN (i + 1) i ([], []) (by omega) hi ?_ M w0 _ _ (Nat.zero_le _) ?_) (by refine Wk.of ?_ ?_ rfl rfl rfl<;>(repeat' (first|exact trivial|exact WkD.same _|exact WkO.same _ _ rfl|exact WkD.any _|(apply WkD.nil;first|exact Or.inl rfl|exact Or.inr rfl)|(exact WkD.fz _ _ _ rfl (Or.inl ⟨_, rfl⟩) rfl)|(exact WkD.fz _ _ _ rfl (Or.inr rfl) rfl)|refine WkD.int ?_|exact WkD.new' rfl rfl rfl|exact WkO.new _ _ rfl|refine WkO.vars rfl ?_|with_reducible rfl|exact rfl|refine ⟨?_, ?_⟩|((refine wrapA ?_ ?_ ?_);(focus simp;done);(focus (try dsimp only);omega);(focus (try dsimp only);omega))|fail))) (by show 7 ≤ 8; omega) ?_ rfl
  · show 0 + cnt [] f.length ≤ f.length
    rw [cnt_nil]; omega
  · (try conv=>whnf);repeat' (first|(apply And.intro<;>try conv=>whnf)|(intro h;first|(with_reducible first|exact tf0 h|exact ft0 h|exact nt0 h|exact nf0 h)|exact litz h rfl|(with_reducible first|exact tf h (by assumption)|exact tf (by assumption) h)|try conv=>whnf)|with_reducible rfl|apply True.intro|((first|apply infoT|apply bleI|apply fitI|apply cellsI|apply szI);rfl)|(apply guardI;kernel_rfl)|(apply WhenQ.mk;(try conv=>whnf);rotate_left;(try conv=>whnf);rotate_right)|(with_reducible first|assumption|(apply not_of;assumption)|(apply left_of;assumption)|(apply left_of;apply left_of;assumption)|(apply and_of<;>first|assumption|(apply not_of;assumption)))|(refine lin_plan (by kernel_rfl) ?_;try conv=>whnf)|(refine ⟨_, _, rfl, idx_map (by with_reducible assumption), rfl, ?_⟩;try conv=>whnf)|(refine ⟨rfl, ?_⟩;try conv=>whnf)|exact Nat.le_refl 1|((first|(apply ex3;(focus with_reducible assumption);(focus with_reducible assumption))|(apply ex2;(focus with_reducible assumption)));try conv=>whnf)|fail)
    exact PLe.refl _
  · exact ⟨.same _, .same _, .same _, .same _, .same _, .same _, trivial⟩
end Go.Proofs.Ytnbnkgcjgfmlcaa
namespace Go.Dv

theorem guardI {P : Program} {n : Nat} {t : TypeId} (h : P.eqGuardType n t = false) : P.eqGuardType n t = false := h
theorem litz {a : Int} (h : a = 0) (hd : (a == 0) = false) : False := by rw [h] at hd; cases hd
theorem lin_plan {ops : Array Oper} {X : Plan → List Nat → Prop} (h1 : drawOk ops [] (Plan.lin 0 ops.size) = true) (h2 : X (Plan.lin 0 ops.size) []) : ∃ (pl : Plan) (eff : List Nat), drawOk ops eff pl = true ∧ X pl eff := ⟨_, _, h1, h2⟩
theorem idx_map {α β : Type} {f : List α} {g : α → β} {i : Nat} {x : α} (h : f[i]? = some x) : (f.map g)[i]? = some (g x) := by simp [h]
theorem wrapA {a b : Int} (h : a = b) (h1 : -9223372036854775808 ≤ a) (h2 : a ≤ 9223372036854775807) : IntKind.wrap .i64 a = b := (wrap_small h1 h2).trans h
end Go.Dv
