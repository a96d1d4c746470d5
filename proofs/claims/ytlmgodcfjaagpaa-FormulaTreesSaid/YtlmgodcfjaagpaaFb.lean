/- Formulas: checks. -/
import Derived.Test.YtlmgodcfjaagpaaFa
set_option maxRecDepth 100000
set_option maxHeartbeats 4000000
namespace Go.Proofs.Ytlmgodcfjaagpaa
open Go Go.Dv

def operandOk (used : Bool) (field at_ : Int) : Bool := bif bif bif used then decide (field ≥ 0) else false then decide (field < at_) else false then true else bif !used then field == 0 else false
def outside (used : Bool) (v low high : Int) : Bool := bif used then bif decide (v < low) then true else decide (v > high) else false

theorem fm_operand (used : Bool) (field at_ : Int) : PureFn Try.prog 86 [.bool used, .int .i64 field, .int .i64 at_] (.bool (operandOk used field at_)) := by
  refine PureFn.intro mixed (fn := Try.f86) rfl rfl rfl fun M w0 => ?_
  (try (conv => whnf)); repeat' (first | (apply And.intro <;> (try (conv => whnf))) | (intro h; first | (with_reducible exact tf0 h) | (with_reducible exact ft0 h) | (with_reducible exact nt0 h) | (with_reducible exact nf0 h) | (exact litz h rfl) | (with_reducible exact tf h (by with_reducible assumption)) | (with_reducible exact tf (by with_reducible assumption) h) | (try (conv => whnf))) | (with_reducible rfl) | (apply True.intro) | (apply infoT; rfl) | (apply bleI; rfl) | (apply fitI; rfl) | (apply cellsI; rfl) | (apply szI; rfl) | (apply guardI; kernel_rfl) | (apply WhenQ.mk; (try (conv => whnf)); rotate_left; (try (conv => whnf)); rotate_right) | (with_reducible assumption) | (apply not_of; with_reducible assumption) | (apply left_of; with_reducible assumption) | (apply left_of; apply left_of; with_reducible assumption) | (apply and_of <;> first | (with_reducible assumption) | (apply not_of; with_reducible assumption))| (refine lin_plan (by kernel_rfl) ?_; (try (conv => whnf))) | (refine ⟨_, _, rfl, idx_map (by with_reducible assumption), rfl, ?_⟩; (try (conv => whnf))) | (refine ⟨rfl, ?_⟩; (try (conv => whnf))) | fail)
  all_goals exact PLe.refl _
theorem fm_outside (used : Bool) (v low high : Int) : PureFn Try.prog 87 [.bool used, .int .i64 v, .int .i64 low, .int .i64 high] (.bool (outside used v low high)) := by
  refine PureFn.intro mixed (fn := Try.f87) rfl rfl rfl fun M w0 => ?_
  (try (conv => whnf)); repeat' (first | (apply And.intro <;> (try (conv => whnf))) | (intro h; first | (with_reducible exact tf0 h) | (with_reducible exact ft0 h) | (with_reducible exact nt0 h) | (with_reducible exact nf0 h) | (exact litz h rfl) | (with_reducible exact tf h (by with_reducible assumption)) | (with_reducible exact tf (by with_reducible assumption) h) | (try (conv => whnf))) | (with_reducible rfl) | (apply True.intro) | (apply infoT; rfl) | (apply bleI; rfl) | (apply fitI; rfl) | (apply cellsI; rfl) | (apply szI; rfl) | (apply guardI; kernel_rfl) | (apply WhenQ.mk; (try (conv => whnf)); rotate_left; (try (conv => whnf)); rotate_right) | (with_reducible assumption) | (apply not_of; with_reducible assumption) | (apply left_of; with_reducible assumption) | (apply left_of; apply left_of; with_reducible assumption) | (apply and_of <;> first | (with_reducible assumption) | (apply not_of; with_reducible assumption))| (refine lin_plan (by kernel_rfl) ?_; (try (conv => whnf))) | (refine ⟨_, _, rfl, idx_map (by with_reducible assumption), rfl, ?_⟩; (try (conv => whnf))) | (refine ⟨rfl, ?_⟩; (try (conv => whnf))) | fail)
  all_goals exact PLe.refl _

theorem operandOk_not (u : Bool) (f a : Int) : (!operandOk u f a) = (bif bif u then bif decide (f < 0) then true else decide (f ≥ a) else false then true else bif !u then f != 0 else false) := by
  unfold operandOk
  cases u with
  | true => simp only [cond_true, Bool.not_true, cond_false]; by_cases a1 : f < 0 <;> by_cases a2 : f ≥ a <;> simp [a1, a2] <;> omega
  | false => simp only [cond_false, Bool.not_false, cond_true, bne]
theorem outside_to (u : Bool) (v a b : Int) : outside u v a (b - 1) = (bif u then bif decide (v < a) then true else decide (v ≥ b) else false) := by
  unfold outside
  cases u with
  | true => simp only [cond_true]; rw [Bool.eq_iff_iff]; simp; omega
  | false => rfl

def nodeErrF (n : Nd) (at_ : Int) : Int :=
  bif !(decide (1 ≤ n.op) && decide (n.op ≤ 21)) then 10
  else bif bif !operandOk (usesX n.op) n.x at_ then true else !operandOk (usesY n.op) n.y at_ then 3
  else bif bif bif bif !(bif bif n.op == 3 then true else isAgent n.op then true else n.op == 17) then n.i != 0 else false then true else bif !(n.op == 17) then n.e != 0 else false then true else bif !isGroup n.op then n.g != 0 else false then 3
  else bif bif bif bif bif outside (n.op == 3) n.i 0 7 then true else outside (isAgent n.op) n.i 0 3 then true else outside (n.op == 17) n.i 0 7 then true else outside (n.op == 17) n.e 0 7 then true else outside (isGroup n.op) n.g 1 15 then 2
  else 0
theorem nodeErrF_eq (n : Nd) (at_ : Int) : nodeErrF n at_ = nodeErr n at_ := by
  have h0 : (!(decide (1 ≤ n.op) && decide (n.op ≤ 21))) = (bif decide (n.op < 1) then true else decide (n.op > 21)) := by
    rw [Bool.eq_iff_iff]; by_cases a1 : n.op < 1 <;> by_cases a2 : n.op > 21 <;> simp [a1, a2] <;> omega
  have hb : (!(n.op == 17)) = (n.op != 17) := rfl
  have o1 := outside_to (n.op == 3) n.i 0 8
  have o2 := outside_to (isAgent n.op) n.i 0 4
  have o3 := outside_to (n.op == 17) n.i 0 8
  have o4 := outside_to (n.op == 17) n.e 0 8
  have o5 := outside_to (isGroup n.op) n.g 1 16
  simp only [show (8 : Int) - 1 = 7 from rfl, show (4 : Int) - 1 = 3 from rfl, show (16 : Int) - 1 = 15 from rfl] at o1 o2 o3 o4 o5
  unfold nodeErrF nodeErr
  rw [h0, hb, operandOk_not, operandOk_not, o1, o2, o3, o4, o5]
  generalize (bif decide (n.op < 1) then true else decide (n.op > 21)) = c1
  generalize (bif bif usesX n.op then bif decide (n.x < 0) then true else decide (n.x ≥ at_) else false then true else bif !usesX n.op then n.x != 0 else false) = c2
  generalize (bif bif usesY n.op then bif decide (n.y < 0) then true else decide (n.y ≥ at_) else false then true else bif !usesY n.op then n.y != 0 else false) = c3
  generalize (bif n.op == 3 then bif decide (n.i < 0) then true else decide (n.i ≥ 8) else false) = c4
  generalize (bif isAgent n.op then bif decide (n.i < 0) then true else decide (n.i ≥ 4) else false) = c5
  generalize (bif isGroup n.op then bif decide (n.g < 1) then true else decide (n.g ≥ 16) else false) = c6
  generalize (bif decide (n.i < 0) then true else decide (n.i ≥ 8)) = c7
  generalize decide (n.e < 0) = c8
  generalize decide (n.e ≥ 8) = c9
  generalize (bif bif bif !(bif bif n.op == 3 then true else isAgent n.op then true else n.op == 17) then n.i != 0 else false then true else bif n.op != 17 then n.e != 0 else false then true else bif !isGroup n.op then n.g != 0 else false) = c10
  generalize (n.op == 17) = c11
  cases c1
  · cases c2
    · cases c3
      · cases c10
        · cases c4 <;> cases c5 <;> cases c6 <;> cases c7 <;> cases c8 <;> cases c9 <;> cases c11 <;> rfl
        · rfl
      · rfl
    · rfl
  · rfl

theorem fm_nodeError (n : Nd) (at_ : Int) : PureFn Try.prog 51 [n.pv, .int .i64 at_] (.int .i64 (nodeErr n at_)) := by
  rw [← nodeErrF_eq]
  refine PureFn.intro mixed (fn := Try.f51) rfl rfl rfl fun M w0 => ?_
  (try (conv => whnf)); repeat' (first | (apply And.intro <;> (try (conv => whnf))) | (intro h; first | (with_reducible exact tf0 h) | (with_reducible exact ft0 h) | (with_reducible exact nt0 h) | (with_reducible exact nf0 h) | (exact litz h rfl) | (with_reducible exact tf h (by with_reducible assumption)) | (with_reducible exact tf (by with_reducible assumption) h) | (try (conv => whnf))) | (with_reducible rfl) | (apply True.intro) | (apply infoT; rfl) | (apply bleI; rfl) | (apply fitI; rfl) | (apply cellsI; rfl) | (apply szI; rfl) | (apply guardI; kernel_rfl) | (apply WhenQ.mk; (try (conv => whnf)); rotate_left; (try (conv => whnf)); rotate_right) | (with_reducible assumption) | (apply not_of; with_reducible assumption) | (apply left_of; with_reducible assumption) | (apply left_of; apply left_of; with_reducible assumption) | (apply and_of <;> first | (with_reducible assumption) | (apply not_of; with_reducible assumption))| (refine lin_plan (by kernel_rfl) ?_; (try (conv => whnf))) | (refine ⟨_, _, rfl, idx_map (by with_reducible assumption), rfl, ?_⟩; (try (conv => whnf))) | (refine ⟨rfl, ?_⟩; (try (conv => whnf))) | (refine PureFn.dcq (f := 53) rfl ?_; (try (conv => whnf))) | (refine PureFn.dcq (f := 86) rfl ?_; (try (conv => whnf))) | (refine PureFn.dcq (f := 87) rfl ?_; (try (conv => whnf))) | ((refine ⟨_, _, fm_uses ?_, ?_, ?_⟩); rotate_left 1; (focus (first | (refine ⟨?_, trivial⟩ <;> first | (exact PLe.refl _) | (exact PLe.nil)) | (exact trivial))); (try (conv => whnf))) | (refine ⟨_, (by (conv => whnf); exact fm_uses _), rfl, ?_⟩; (try (conv => whnf))) | ((refine ⟨_, _, fm_operand ?_ ?_ ?_, ?_, ?_⟩); rotate_left 3; (focus (first | (refine ⟨?_, ?_, ?_, trivial⟩ <;> first | (exact PLe.refl _) | (exact PLe.nil)) | (exact trivial))); (try (conv => whnf))) | (refine ⟨_, (by (conv => whnf); exact fm_operand _ _ _), rfl, ?_⟩; (try (conv => whnf))) | ((refine ⟨_, _, fm_outside ?_ ?_ ?_ ?_, ?_, ?_⟩); rotate_left 4; (focus (first | (refine ⟨?_, ?_, ?_, ?_, trivial⟩ <;> first | (exact PLe.refl _) | (exact PLe.nil)) | (exact trivial))); (try (conv => whnf))) | (refine ⟨_, (by (conv => whnf); exact fm_outside _ _ _ _), rfl, ?_⟩; (try (conv => whnf))) | fail)
  all_goals (refine le_int ?_; unfold nodeErrF; simp only [*, cond_true, cond_false])

def firstErr : List Nd → Nat → Int
  | [], _ => 0
  | n :: r, i => bif nodeErr n i != 0 then nodeErr n i else firstErr r (i + 1)
/-- The error of a formula. -/
def check (f : List Nd) : Int := bif (f.length : Int) == 0 then 3 else bif decide ((f.length : Int) > 200) then 8 else firstErr f 0
def fpv (f : List Nd) : PV := .sl (f.map Nd.pv)

theorem firstErr_drop {f : List Nd} {i : Nat} (h : i < f.length) : firstErr (f.drop i) i = bif nodeErr f[i] i != 0 then nodeErr f[i] i else firstErr (f.drop (i + 1)) (i + 1) := by
  rw [List.drop_eq_getElem_cons h]; rfl
theorem check_of {f : List Nd} (h1 : ((f.map Nd.pv).length == (0 : Int)) = false) (h2 : decide (((f.map Nd.pv).length : Int) > 200) = false) : check f = firstErr f 0 := by
  simp only [List.length_map] at h1 h2
  simp only [check, h1, h2, cond_false]

theorem fm_Check (f : List Nd) : PureFn Try.prog 12 [fpv f] (.int .i64 (check f)) := by
  refine PureFn.intro mixed (fn := Try.f12) rfl rfl rfl fun M w0 => ?_
  (try (conv => whnf)); repeat' (first | (apply And.intro <;> (try (conv => whnf))) | (intro h; first | (with_reducible exact tf0 h) | (with_reducible exact ft0 h) | (with_reducible exact nt0 h) | (with_reducible exact nf0 h) | (exact litz h rfl) | (with_reducible exact tf h (by with_reducible assumption)) | (with_reducible exact tf (by with_reducible assumption) h) | (try (conv => whnf))) | (with_reducible rfl) | (apply True.intro) | (apply infoT; rfl) | (apply bleI; rfl) | (apply fitI; rfl) | (apply cellsI; rfl) | (apply szI; rfl) | (apply guardI; kernel_rfl) | (apply WhenQ.mk; (try (conv => whnf)); rotate_left; (try (conv => whnf)); rotate_right) | (with_reducible assumption) | (apply not_of; with_reducible assumption) | (apply left_of; with_reducible assumption) | (apply left_of; apply left_of; with_reducible assumption) | (apply and_of <;> first | (with_reducible assumption) | (apply not_of; with_reducible assumption))| (refine lin_plan (by kernel_rfl) ?_; (try (conv => whnf))) | (refine ⟨_, _, rfl, idx_map (by with_reducible assumption), rfl, ?_⟩; (try (conv => whnf))) | (refine ⟨rfl, ?_⟩; (try (conv => whnf))) | (refine PureFn.dcq (f := 51) rfl ?_; (try (conv => whnf))) | ((refine ⟨_, _, fm_nodeError ?_ ?_, ?_, ?_⟩); rotate_left 2; (focus (first | (refine ⟨?_, ?_, trivial⟩ <;> first | (exact PLe.refl _) | (exact PLe.nil)) | (exact trivial))); (try (conv => whnf))) | (refine ⟨_, (by (conv => whnf); exact fm_nodeError _ _), rfl, ?_⟩; (try (conv => whnf))) | fail)
  · simp only [List.length_map] at h; refine le_int ?_; simp only [check, h, cond_true]
  · rename_i h2; simp only [List.length_map] at h h2; refine le_int ?_; simp only [check, h, h2, cond_true, cond_false]
  · rename_i h2
    have hck := check_of h2 h
    have hlen : f.length ≤ 200 := by simp at h; omega
    refine ⟨{ i : Nat // i ≤ f.length ∧ firstErr f 0 = firstErr (f.drop i) i }, fun i => [(12, .pv (fpv f)), (13, .pv (.int .i64 (f.map Nd.pv).length)), (14, .pv (.int .i64 (i.1 : Nat)))], fun _ => 0, fun _ => [], fun i => f.length - i.1,
      ⟨⟨0, Nat.zero_le _, rfl⟩, Wk.of ⟨.same _, .same _, .same _, trivial⟩ trivial rfl rfl rfl⟩, ?_⟩
    rintro ⟨i, hi, hf⟩
    (try (conv => whnf)); repeat' (first | (apply And.intro <;> (try (conv => whnf))) | (intro h; first | (with_reducible exact tf0 h) | (with_reducible exact ft0 h) | (with_reducible exact nt0 h) | (with_reducible exact nf0 h) | (exact litz h rfl) | (with_reducible exact tf h (by with_reducible assumption)) | (with_reducible exact tf (by with_reducible assumption) h) | (try (conv => whnf))) | (with_reducible rfl) | (apply True.intro) | (apply infoT; rfl) | (apply bleI; rfl) | (apply fitI; rfl) | (apply cellsI; rfl) | (apply szI; rfl) | (apply guardI; kernel_rfl) | (apply WhenQ.mk; (try (conv => whnf)); rotate_left; (try (conv => whnf)); rotate_right) | (with_reducible assumption) | (apply not_of; with_reducible assumption) | (apply left_of; with_reducible assumption) | (apply left_of; apply left_of; with_reducible assumption) | (apply and_of <;> first | (with_reducible assumption) | (apply not_of; with_reducible assumption))| (refine lin_plan (by kernel_rfl) ?_; (try (conv => whnf))) | (refine ⟨_, _, rfl, idx_map (by with_reducible assumption), rfl, ?_⟩; (try (conv => whnf))) | (refine ⟨rfl, ?_⟩; (try (conv => whnf))) | (refine PureFn.dcq (f := 51) rfl ?_; (try (conv => whnf))) | ((refine ⟨_, _, fm_nodeError ?_ ?_, ?_, ?_⟩); rotate_left 2; (focus (first | (refine ⟨?_, ?_, trivial⟩ <;> first | (exact PLe.refl _) | (exact PLe.nil)) | (exact trivial))); (try (conv => whnf))) | (refine ⟨_, (by (conv => whnf); exact fm_nodeError _ _), rfl, ?_⟩; (try (conv => whnf))) | fail)
    · have hi' : i < f.length := by simpa using h
      have hn : f[i]? = some f[i] := List.getElem?_eq_getElem hi'
      have hd := firstErr_drop hi'
      refine ⟨i, (f[i]).pv, rfl, by simp [hn], rfl, ?_⟩
      (try (conv => whnf)); repeat' (first | (apply And.intro <;> (try (conv => whnf))) | (intro h; first | (with_reducible exact tf0 h) | (with_reducible exact ft0 h) | (with_reducible exact nt0 h) | (with_reducible exact nf0 h) | (exact litz h rfl) | (with_reducible exact tf h (by with_reducible assumption)) | (with_reducible exact tf (by with_reducible assumption) h) | (try (conv => whnf))) | (with_reducible rfl) | (apply True.intro) | (apply infoT; rfl) | (apply bleI; rfl) | (apply fitI; rfl) | (apply cellsI; rfl) | (apply szI; rfl) | (apply guardI; kernel_rfl) | (apply WhenQ.mk; (try (conv => whnf)); rotate_left; (try (conv => whnf)); rotate_right) | (with_reducible assumption) | (apply not_of; with_reducible assumption) | (apply left_of; with_reducible assumption) | (apply left_of; apply left_of; with_reducible assumption) | (apply and_of <;> first | (with_reducible assumption) | (apply not_of; with_reducible assumption))| (refine lin_plan (by kernel_rfl) ?_; (try (conv => whnf))) | (refine ⟨_, _, rfl, idx_map (by with_reducible assumption), rfl, ?_⟩; (try (conv => whnf))) | (refine ⟨rfl, ?_⟩; (try (conv => whnf))) | (refine PureFn.dcq (f := 51) rfl ?_; (try (conv => whnf))) | ((refine ⟨_, _, fm_nodeError ?_ ?_, ?_, ?_⟩); rotate_left 2; (focus (first | (refine ⟨?_, ?_, trivial⟩ <;> first | (exact PLe.refl _) | (exact PLe.nil)) | (exact trivial))); (try (conv => whnf))) | (refine ⟨_, (by (conv => whnf); exact fm_nodeError _ _), rfl, ?_⟩; (try (conv => whnf))) | fail)
      · have h' : (nodeErr f[i] i != 0) = true := h
        have he : check f = nodeErr f[i] i := by rw [hck, hf, hd, h']; rfl
        exact le_int he.symm
      · have h' : (nodeErr f[i] i != 0) = false := h
        refine ⟨⟨i + 1, hi', by rw [hf, hd, h']; rfl⟩, by show f.length - (i + 1) < f.length - i; omega, Wk.of ⟨.same _, .same _, WkD.int ?_, trivial⟩ trivial rfl rfl rfl⟩
        exact wrap_small (by show _ ≤ (i : Int) + 1; omega) (by show (i : Int) + 1 ≤ _; omega)
    · have hi' : ¬ i < f.length := by simpa using h
      refine le_int ?_
      rw [hck, hf, List.drop_eq_nil_of_le (by omega)]; rfl

theorem ref_Check (f : List Nd) : PureFn Try.prog 13 [fpv f] (.int .i64 (check f)) := by
  refine PureFn.intro mixed (fn := Try.f13) rfl rfl rfl fun M w0 => ?_
  (try (conv => whnf)); repeat' (first | (apply And.intro <;> (try (conv => whnf))) | (intro h; first | (with_reducible exact tf0 h) | (with_reducible exact ft0 h) | (with_reducible exact nt0 h) | (with_reducible exact nf0 h) | (exact litz h rfl) | (with_reducible exact tf h (by with_reducible assumption)) | (with_reducible exact tf (by with_reducible assumption) h) | (try (conv => whnf))) | (with_reducible rfl) | (apply True.intro) | (apply infoT; rfl) | (apply bleI; rfl) | (apply fitI; rfl) | (apply cellsI; rfl) | (apply szI; rfl) | (apply guardI; kernel_rfl) | (apply WhenQ.mk; (try (conv => whnf)); rotate_left; (try (conv => whnf)); rotate_right) | (with_reducible assumption) | (apply not_of; with_reducible assumption) | (apply left_of; with_reducible assumption) | (apply left_of; apply left_of; with_reducible assumption) | (apply and_of <;> first | (with_reducible assumption) | (apply not_of; with_reducible assumption))| (refine lin_plan (by kernel_rfl) ?_; (try (conv => whnf))) | (refine ⟨_, _, rfl, idx_map (by with_reducible assumption), rfl, ?_⟩; (try (conv => whnf))) | (refine ⟨rfl, ?_⟩; (try (conv => whnf))) | (refine PureFn.dcq (f := 52) rfl ?_; (try (conv => whnf))) | ((refine ⟨_, _, ref_node ?_ ?_, ?_, ?_⟩); rotate_left 2; (focus (first | (refine ⟨?_, ?_, trivial⟩ <;> first | (exact PLe.refl _) | (exact PLe.nil)) | (exact trivial))); (try (conv => whnf))) | (refine ⟨_, (by (conv => whnf); exact ref_node _ _), rfl, ?_⟩; (try (conv => whnf))) | fail)
  · simp only [List.length_map] at h; refine le_int ?_; simp only [check, h, cond_true]
  · rename_i h2; simp only [List.length_map] at h h2; refine le_int ?_; simp only [check, h, h2, cond_true, cond_false]
  · rename_i h2
    have hck := check_of h2 h
    have hlen : f.length ≤ 200 := by simp at h; omega
    refine ⟨{ i : Nat // i ≤ f.length ∧ firstErr f 0 = firstErr (f.drop i) i }, fun i => [(0, .pv (fpv f)), (3, .pv (.int .i64 (i.1 : Nat)))], fun _ => 0, fun _ => [], fun i => f.length - i.1,
      ⟨⟨0, Nat.zero_le _, rfl⟩, Wk.of ⟨.same _, .same _, trivial⟩ trivial rfl rfl rfl⟩, ?_⟩
    rintro ⟨i, hi, hf⟩
    (try (conv => whnf)); repeat' (first | (apply And.intro <;> (try (conv => whnf))) | (intro h; first | (with_reducible exact tf0 h) | (with_reducible exact ft0 h) | (with_reducible exact nt0 h) | (with_reducible exact nf0 h) | (exact litz h rfl) | (with_reducible exact tf h (by with_reducible assumption)) | (with_reducible exact tf (by with_reducible assumption) h) | (try (conv => whnf))) | (with_reducible rfl) | (apply True.intro) | (apply infoT; rfl) | (apply bleI; rfl) | (apply fitI; rfl) | (apply cellsI; rfl) | (apply szI; rfl) | (apply guardI; kernel_rfl) | (apply WhenQ.mk; (try (conv => whnf)); rotate_left; (try (conv => whnf)); rotate_right) | (with_reducible assumption) | (apply not_of; with_reducible assumption) | (apply left_of; with_reducible assumption) | (apply left_of; apply left_of; with_reducible assumption) | (apply and_of <;> first | (with_reducible assumption) | (apply not_of; with_reducible assumption))| (refine lin_plan (by kernel_rfl) ?_; (try (conv => whnf))) | (refine ⟨_, _, rfl, idx_map (by with_reducible assumption), rfl, ?_⟩; (try (conv => whnf))) | (refine ⟨rfl, ?_⟩; (try (conv => whnf))) | (refine PureFn.dcq (f := 52) rfl ?_; (try (conv => whnf))) | ((refine ⟨_, _, ref_node ?_ ?_, ?_, ?_⟩); rotate_left 2; (focus (first | (refine ⟨?_, ?_, trivial⟩ <;> first | (exact PLe.refl _) | (exact PLe.nil)) | (exact trivial))); (try (conv => whnf))) | (refine ⟨_, (by (conv => whnf); exact ref_node _ _), rfl, ?_⟩; (try (conv => whnf))) | fail)
    · have hi' : i < f.length := by simpa using h
      have hn : f[i]? = some f[i] := List.getElem?_eq_getElem hi'
      have hd := firstErr_drop hi'
      refine ⟨i, (f[i]).pv, rfl, by simp [hn], rfl, ?_⟩
      (try (conv => whnf)); repeat' (first | (apply And.intro <;> (try (conv => whnf))) | (intro h; first | (with_reducible exact tf0 h) | (with_reducible exact ft0 h) | (with_reducible exact nt0 h) | (with_reducible exact nf0 h) | (exact litz h rfl) | (with_reducible exact tf h (by with_reducible assumption)) | (with_reducible exact tf (by with_reducible assumption) h) | (try (conv => whnf))) | (with_reducible rfl) | (apply True.intro) | (apply infoT; rfl) | (apply bleI; rfl) | (apply fitI; rfl) | (apply cellsI; rfl) | (apply szI; rfl) | (apply guardI; kernel_rfl) | (apply WhenQ.mk; (try (conv => whnf)); rotate_left; (try (conv => whnf)); rotate_right) | (with_reducible assumption) | (apply not_of; with_reducible assumption) | (apply left_of; with_reducible assumption) | (apply left_of; apply left_of; with_reducible assumption) | (apply and_of <;> first | (with_reducible assumption) | (apply not_of; with_reducible assumption))| (refine lin_plan (by kernel_rfl) ?_; (try (conv => whnf))) | (refine ⟨_, _, rfl, idx_map (by with_reducible assumption), rfl, ?_⟩; (try (conv => whnf))) | (refine ⟨rfl, ?_⟩; (try (conv => whnf))) | (refine PureFn.dcq (f := 52) rfl ?_; (try (conv => whnf))) | ((refine ⟨_, _, ref_node ?_ ?_, ?_, ?_⟩); rotate_left 2; (focus (first | (refine ⟨?_, ?_, trivial⟩ <;> first | (exact PLe.refl _) | (exact PLe.nil)) | (exact trivial))); (try (conv => whnf))) | (refine ⟨_, (by (conv => whnf); exact ref_node _ _), rfl, ?_⟩; (try (conv => whnf))) | fail)
      · have h' : (nodeErr f[i] i != 0) = true := h
        have he : check f = nodeErr f[i] i := by rw [hck, hf, hd, h']; rfl
        exact le_int he.symm
      · have h' : (nodeErr f[i] i != 0) = false := h
        refine ⟨⟨i + 1, hi', by rw [hf, hd, h']; rfl⟩, by show f.length - (i + 1) < f.length - i; omega, Wk.of ⟨.same _, WkD.int ?_, trivial⟩ trivial rfl rfl rfl⟩
        exact wrap_small (by show _ ≤ (i : Int) + 1; omega) (by show (i : Int) + 1 ≤ _; omega)
    · have hi' : ¬ i < f.length := by simpa using h
      refine le_int ?_
      rw [hck, hf, List.drop_eq_nil_of_le (by omega)]; rfl
end Go.Proofs.Ytlmgodcfjaagpaa
