/- Formulas: nodes. -/
import Derived.Test.YtlmgodcfjaagpaaDv20
import Derived.Test.YtlmgodcfjaagpaaProg
set_option maxRecDepth 100000
set_option maxHeartbeats 2000000
namespace Go.Proofs.Ytlmgodcfjaagpaa
open Go Go.Dv

theorem mixed : Try.prog.follows .mixedOrders = true := by kernel_rfl

structure Nd where
  op : Int
  i : Int
  e : Int
  g : Int
  x : Int
  y : Int
  deriving DecidableEq

def Nd.pv (n : Nd) : PV := .agg [.int .i64 n.op, .int .i64 n.i, .int .i64 n.e, .int .i64 n.g, .int .i64 n.x, .int .i64 n.y]

def usesX (op : Int) : Bool := decide (4 ≤ op) && decide (op ≤ 21)
def usesY (op : Int) : Bool := decide (5 ≤ op) && decide (op ≤ 8) || op == 13 || op == 14 || op == 16 || op == 19 || op == 21
def isAgent (op : Int) : Bool := op == 9 || op == 10 || op == 14 || op == 15
def isGroup (op : Int) : Bool := decide (11 ≤ op) && decide (op ≤ 13)
/-- The error of a node at a position. -/
def nodeErr (n : Nd) (at_ : Int) : Int :=
  bif bif decide (n.op < 1) then true else decide (n.op > 21) then 10
  else bif bif bif usesX n.op then bif decide (n.x < 0) then true else decide (n.x ≥ at_) else false then true else bif !usesX n.op then n.x != 0 else false then 3
  else bif bif bif usesY n.op then bif decide (n.y < 0) then true else decide (n.y ≥ at_) else false then true else bif !usesY n.op then n.y != 0 else false then 3
  else bif bif bif bif !(bif bif n.op == 3 then true else isAgent n.op then true else n.op == 17) then n.i != 0 else false then true else bif n.op != 17 then n.e != 0 else false then true else bif !isGroup n.op then n.g != 0 else false then 3
  else bif bif bif n.op == 3 then bif decide (n.i < 0) then true else decide (n.i ≥ 8) else false then true else bif isAgent n.op then bif decide (n.i < 0) then true else decide (n.i ≥ 4) else false then 2
  else bif bif n.op == 17 then bif bif bif decide (n.i < 0) then true else decide (n.i ≥ 8) then true else decide (n.e < 0) then true else decide (n.e ≥ 8) else false then 2
  else bif bif isGroup n.op then bif decide (n.g < 1) then true else decide (n.g ≥ 16) else false then 2
  else 0

theorem ref_UsesX (op : Int) : PureFn Try.prog 39 [.int .i64 op] (.bool (usesX op)) := by
  refine PureFn.intro mixed (fn := Try.f39) rfl rfl rfl fun M w0 => ?_
  (try (conv => whnf)); repeat' (first | (apply And.intro <;> (try (conv => whnf))) | (intro h; first | (with_reducible exact tf0 h) | (with_reducible exact ft0 h) | (with_reducible exact nt0 h) | (with_reducible exact nf0 h) | (exact litz h rfl) | (with_reducible exact tf h (by with_reducible assumption)) | (with_reducible exact tf (by with_reducible assumption) h) | (try (conv => whnf))) | (with_reducible rfl) | (apply True.intro) | (apply infoT; rfl) | (apply bleI; rfl) | (apply fitI; rfl) | (apply cellsI; rfl) | (apply szI; rfl) | (apply guardI; kernel_rfl) | (apply WhenQ.mk; (try (conv => whnf)); rotate_left; (try (conv => whnf)); rotate_right) | (with_reducible assumption) | (apply not_of; with_reducible assumption) | (apply left_of; with_reducible assumption) | (apply left_of; apply left_of; with_reducible assumption) | (apply and_of <;> first | (with_reducible assumption) | (apply not_of; with_reducible assumption))| (refine lin_plan (by kernel_rfl) ?_; (try (conv => whnf))) | (refine ⟨_, _, rfl, idx_map (by with_reducible assumption), rfl, ?_⟩; (try (conv => whnf))) | (refine ⟨rfl, ?_⟩; (try (conv => whnf))) | fail)
  all_goals (refine le_bool ?_; simp_all [usesX]; try omega)

theorem ref_UsesY (op : Int) : PureFn Try.prog 40 [.int .i64 op] (.bool (usesY op)) := by
  refine PureFn.intro mixed (fn := Try.f40) rfl rfl rfl fun M w0 => ?_
  (try (conv => whnf)); repeat' (first | (apply And.intro <;> (try (conv => whnf))) | (intro h; first | (with_reducible exact tf0 h) | (with_reducible exact ft0 h) | (with_reducible exact nt0 h) | (with_reducible exact nf0 h) | (exact litz h rfl) | (with_reducible exact tf h (by with_reducible assumption)) | (with_reducible exact tf (by with_reducible assumption) h) | (try (conv => whnf))) | (with_reducible rfl) | (apply True.intro) | (apply infoT; rfl) | (apply bleI; rfl) | (apply fitI; rfl) | (apply cellsI; rfl) | (apply szI; rfl) | (apply guardI; kernel_rfl) | (apply WhenQ.mk; (try (conv => whnf)); rotate_left; (try (conv => whnf)); rotate_right) | (with_reducible assumption) | (apply not_of; with_reducible assumption) | (apply left_of; with_reducible assumption) | (apply left_of; apply left_of; with_reducible assumption) | (apply and_of <;> first | (with_reducible assumption) | (apply not_of; with_reducible assumption))| (refine lin_plan (by kernel_rfl) ?_; (try (conv => whnf))) | (refine ⟨_, _, rfl, idx_map (by with_reducible assumption), rfl, ?_⟩; (try (conv => whnf))) | (refine ⟨rfl, ?_⟩; (try (conv => whnf))) | fail)
  all_goals (refine le_bool ?_; simp_all [usesY]; try omega)

theorem ref_agent (op : Int) : PureFn Try.prog 59 [.int .i64 op] (.bool (isAgent op)) := by
  refine PureFn.intro mixed (fn := Try.f59) rfl rfl rfl fun M w0 => ?_
  (try (conv => whnf)); repeat' (first | (apply And.intro <;> (try (conv => whnf))) | (intro h; first | (with_reducible exact tf0 h) | (with_reducible exact ft0 h) | (with_reducible exact nt0 h) | (with_reducible exact nf0 h) | (exact litz h rfl) | (with_reducible exact tf h (by with_reducible assumption)) | (with_reducible exact tf (by with_reducible assumption) h) | (try (conv => whnf))) | (with_reducible rfl) | (apply True.intro) | (apply infoT; rfl) | (apply bleI; rfl) | (apply fitI; rfl) | (apply cellsI; rfl) | (apply szI; rfl) | (apply guardI; kernel_rfl) | (apply WhenQ.mk; (try (conv => whnf)); rotate_left; (try (conv => whnf)); rotate_right) | (with_reducible assumption) | (apply not_of; with_reducible assumption) | (apply left_of; with_reducible assumption) | (apply left_of; apply left_of; with_reducible assumption) | (apply and_of <;> first | (with_reducible assumption) | (apply not_of; with_reducible assumption))| (refine lin_plan (by kernel_rfl) ?_; (try (conv => whnf))) | (refine ⟨_, _, rfl, idx_map (by with_reducible assumption), rfl, ?_⟩; (try (conv => whnf))) | (refine ⟨rfl, ?_⟩; (try (conv => whnf))) | fail)
  all_goals (refine le_bool ?_; simp_all [isAgent]; try omega)

theorem ref_group (op : Int) : PureFn Try.prog 88 [.int .i64 op] (.bool (isGroup op)) := by
  refine PureFn.intro mixed (fn := Try.f88) rfl rfl rfl fun M w0 => ?_
  (try (conv => whnf)); repeat' (first | (apply And.intro <;> (try (conv => whnf))) | (intro h; first | (with_reducible exact tf0 h) | (with_reducible exact ft0 h) | (with_reducible exact nt0 h) | (with_reducible exact nf0 h) | (exact litz h rfl) | (with_reducible exact tf h (by with_reducible assumption)) | (with_reducible exact tf (by with_reducible assumption) h) | (try (conv => whnf))) | (with_reducible rfl) | (apply True.intro) | (apply infoT; rfl) | (apply bleI; rfl) | (apply fitI; rfl) | (apply cellsI; rfl) | (apply szI; rfl) | (apply guardI; kernel_rfl) | (apply WhenQ.mk; (try (conv => whnf)); rotate_left; (try (conv => whnf)); rotate_right) | (with_reducible assumption) | (apply not_of; with_reducible assumption) | (apply left_of; with_reducible assumption) | (apply left_of; apply left_of; with_reducible assumption) | (apply and_of <;> first | (with_reducible assumption) | (apply not_of; with_reducible assumption))| (refine lin_plan (by kernel_rfl) ?_; (try (conv => whnf))) | (refine ⟨_, _, rfl, idx_map (by with_reducible assumption), rfl, ?_⟩; (try (conv => whnf))) | (refine ⟨rfl, ?_⟩; (try (conv => whnf))) | fail)
  all_goals (refine le_bool ?_; simp_all [isGroup]; try omega)

theorem ref_node (n : Nd) (at_ : Int) : PureFn Try.prog 52 [n.pv, .int .i64 at_] (.int .i64 (nodeErr n at_)) := by
  refine PureFn.intro mixed (fn := Try.f52) rfl rfl rfl fun M w0 => ?_
  (try (conv => whnf)); repeat' (first | (apply And.intro <;> (try (conv => whnf))) | (intro h; first | (with_reducible exact tf0 h) | (with_reducible exact ft0 h) | (with_reducible exact nt0 h) | (with_reducible exact nf0 h) | (exact litz h rfl) | (with_reducible exact tf h (by with_reducible assumption)) | (with_reducible exact tf (by with_reducible assumption) h) | (try (conv => whnf))) | (with_reducible rfl) | (apply True.intro) | (apply infoT; rfl) | (apply bleI; rfl) | (apply fitI; rfl) | (apply cellsI; rfl) | (apply szI; rfl) | (apply guardI; kernel_rfl) | (apply WhenQ.mk; (try (conv => whnf)); rotate_left; (try (conv => whnf)); rotate_right) | (with_reducible assumption) | (apply not_of; with_reducible assumption) | (apply left_of; with_reducible assumption) | (apply left_of; apply left_of; with_reducible assumption) | (apply and_of <;> first | (with_reducible assumption) | (apply not_of; with_reducible assumption))| (refine lin_plan (by kernel_rfl) ?_; (try (conv => whnf))) | (refine ⟨_, _, rfl, idx_map (by with_reducible assumption), rfl, ?_⟩; (try (conv => whnf))) | (refine ⟨rfl, ?_⟩; (try (conv => whnf))) | (refine PureFn.dcq (f := 39) rfl ?_; (try (conv => whnf))) | (refine PureFn.dcq (f := 40) rfl ?_; (try (conv => whnf))) | (refine PureFn.dcq (f := 59) rfl ?_; (try (conv => whnf))) | (refine PureFn.dcq (f := 88) rfl ?_; (try (conv => whnf))) | ((refine ⟨_, _, ref_UsesX ?_, ?_, ?_⟩); rotate_left 1; (focus (first | (refine ⟨?_, trivial⟩ <;> first | (exact PLe.refl _) | (exact PLe.nil)) | (exact trivial))); (try (conv => whnf))) | (refine ⟨_, (by (conv => whnf); exact ref_UsesX _), rfl, ?_⟩; (try (conv => whnf))) | ((refine ⟨_, _, ref_UsesY ?_, ?_, ?_⟩); rotate_left 1; (focus (first | (refine ⟨?_, trivial⟩ <;> first | (exact PLe.refl _) | (exact PLe.nil)) | (exact trivial))); (try (conv => whnf))) | (refine ⟨_, (by (conv => whnf); exact ref_UsesY _), rfl, ?_⟩; (try (conv => whnf))) | ((refine ⟨_, _, ref_agent ?_, ?_, ?_⟩); rotate_left 1; (focus (first | (refine ⟨?_, trivial⟩ <;> first | (exact PLe.refl _) | (exact PLe.nil)) | (exact trivial))); (try (conv => whnf))) | (refine ⟨_, (by (conv => whnf); exact ref_agent _), rfl, ?_⟩; (try (conv => whnf))) | ((refine ⟨_, _, ref_group ?_, ?_, ?_⟩); rotate_left 1; (focus (first | (refine ⟨?_, trivial⟩ <;> first | (exact PLe.refl _) | (exact PLe.nil)) | (exact trivial))); (try (conv => whnf))) | (refine ⟨_, (by (conv => whnf); exact ref_group _), rfl, ?_⟩; (try (conv => whnf))) | fail)
  all_goals (refine le_int ?_; unfold nodeErr; simp only [*, cond_true, cond_false])

/-- What an operator uses. -/
def frag (op : Int) : Int :=
  bif op == 9 || op == 10 then 1 else bif decide (11 ≤ op) && decide (op ≤ 17) then 2 ^ (op - 10).toNat else bif decide (18 ≤ op) && decide (op ≤ 21) then 256 else 0
def usesPV (op : Int) : PV :=
  .tup [.agg [.bool (usesX op), .bool (usesY op), .bool (op == 3), .bool (isAgent op), .bool (isGroup op), .bool (op == 17), .int .i64 (frag op)], .bool (decide (1 ≤ op) && decide (op ≤ 21))]

theorem fm_uses (op : Int) : PureFn Try.prog 53 [.int .i64 op] (usesPV op) := by
  refine PureFn.intro mixed (fn := Try.f53) rfl rfl rfl fun M w0 => ?_
  (try (conv => whnf)); repeat' (first | (apply And.intro <;> (try (conv => whnf))) | (intro h; first | (with_reducible exact tf0 h) | (with_reducible exact ft0 h) | (with_reducible exact nt0 h) | (with_reducible exact nf0 h) | (exact litz h rfl) | (with_reducible exact tf h (by with_reducible assumption)) | (with_reducible exact tf (by with_reducible assumption) h) | (try (conv => whnf))) | (with_reducible rfl) | (apply True.intro) | (apply infoT; rfl) | (apply bleI; rfl) | (apply fitI; rfl) | (apply cellsI; rfl) | (apply szI; rfl) | (apply guardI; kernel_rfl) | (apply WhenQ.mk; (try (conv => whnf)); rotate_left; (try (conv => whnf)); rotate_right) | (with_reducible assumption) | (apply not_of; with_reducible assumption) | (apply left_of; with_reducible assumption) | (apply left_of; apply left_of; with_reducible assumption) | (apply and_of <;> first | (with_reducible assumption) | (apply not_of; with_reducible assumption))| (refine lin_plan (by kernel_rfl) ?_; (try (conv => whnf))) | (refine ⟨_, _, rfl, idx_map (by with_reducible assumption), rfl, ?_⟩; (try (conv => whnf))) | (refine ⟨rfl, ?_⟩; (try (conv => whnf))) | fail)
  all_goals (
    refine (?_ : usesPV op = _) ▸ PLe.refl _
    first
    | (have hk := eq_of_beq (by with_reducible assumption : (op == _) = true); subst hk; rfl)
    | (have hx : usesX op = false := by simp only [beq_eq_false_iff_ne, ne_eq] at *; simp [usesX]; omega
       have hy : usesY op = false := by simp only [beq_eq_false_iff_ne, ne_eq] at *; simp [usesY]; omega
       have ha : isAgent op = false := by simp only [isAgent, *]; rfl
       have hg : isGroup op = false := by simp only [beq_eq_false_iff_ne, ne_eq] at *; simp [isGroup]; omega
       have hr : (decide (1 ≤ op) && decide (op ≤ 21)) = false := by simp only [beq_eq_false_iff_ne, ne_eq] at *; simp; omega
       have hf : frag op = 0 := by
         have q1 : (decide (11 ≤ op) && decide (op ≤ 17)) = false := by simp only [beq_eq_false_iff_ne, ne_eq] at *; simp; omega
         have q2 : (decide (18 ≤ op) && decide (op ≤ 21)) = false := by simp only [beq_eq_false_iff_ne, ne_eq] at *; simp; omega
         simp only [frag, q1, q2, *]; rfl
       simp only [usesPV, hx, hy, ha, hg, hr, hf, *]))
end Go.Proofs.Ytlmgodcfjaagpaa
