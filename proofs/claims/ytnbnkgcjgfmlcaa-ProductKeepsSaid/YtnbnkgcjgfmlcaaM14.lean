/- Parts of the proof, one after the other: Models: the reference's All, Check, Same, Few walked. Products: At of the program walked; the examples of the law. Products: the examples of the law; models as arguments. Products: the law ProductTrue walked. Models: Facts walked. Products: what the law ProductKeeps asks (plain). -/
import Derived.Test.YtnbnkgcjgfmlcaaM13
set_option maxRecDepth 100000
set_option maxHeartbeats 4000000
namespace Go.Proofs.Ytnbnkgcjgfmlcaa
open Go Go.Dv

theorem rm_SameSets (l : List Nat) (hl : l.length ≤ 1000) : PureFn Try.prog 61 [rowPV l, rowPV l] (.bool true) := by
  refine PureFn.intro mixed (fn := Try.f61) rfl rfl rfl fun M w0 => ?_
  (try conv=>whnf);repeat' (first|(apply And.intro<;>try conv=>whnf)|(intro h;first|(with_reducible first|exact tf0 h|exact ft0 h|exact nt0 h|exact nf0 h)|exact litz h rfl|(with_reducible first|exact tf h (by assumption)|exact tf (by assumption) h)|try conv=>whnf)|with_reducible rfl|apply True.intro|((first|apply infoT|apply bleI|apply fitI|apply cellsI|apply szI);rfl)|(apply guardI;kernel_rfl)|(apply WhenQ.mk;(try conv=>whnf);rotate_left;(try conv=>whnf);rotate_right)|(with_reducible first|assumption|(apply not_of;assumption)|(apply left_of;assumption)|(apply left_of;apply left_of;assumption)|(apply and_of<;>first|assumption|(apply not_of;assumption)))|(refine lin_plan (by kernel_rfl) ?_;try conv=>whnf)|(refine ⟨_, _, rfl, idx_map (by with_reducible assumption), rfl, ?_⟩;try conv=>whnf)|(refine ⟨rfl, ?_⟩;try conv=>whnf)|exact Nat.le_refl 1|((first|(apply ex3;(focus with_reducible assumption);(focus with_reducible assumption))|(apply ex2;(focus with_reducible assumption)));try conv=>whnf)|fail)
  · simp at h
  refine ⟨{ i : Nat // i ≤ l.length }, fun i => [(0, .pv (rowPV l)), (1, .pv (rowPV l)), (5, .pv (i64 i.1))], fun _ => 0, fun _ => [], fun i => l.length - i.1, ⟨⟨0, Nat.zero_le _⟩, (by refine Wk.of ?_ ?_ rfl rfl rfl<;>(repeat' (first|exact trivial|exact WkD.same _|exact WkO.same _ _ rfl|exact WkD.any _|(apply WkD.nil;first|exact Or.inl rfl|exact Or.inr rfl)|(exact WkD.fz _ _ _ rfl (Or.inl ⟨_, rfl⟩) rfl)|(exact WkD.fz _ _ _ rfl (Or.inr rfl) rfl)|refine WkD.int ?_|exact WkD.new' rfl rfl rfl|exact WkO.new _ _ rfl|refine WkO.vars rfl ?_|with_reducible rfl|exact rfl|refine ⟨?_, ?_⟩|((refine wrapA ?_ ?_ ?_);(focus simp;done);(focus (try dsimp only);omega);(focus (try dsimp only);omega))|fail)))⟩, ?_⟩
  rintro ⟨i, hi⟩
  (try conv=>whnf);repeat' (first|(apply And.intro<;>try conv=>whnf)|(intro h;first|(with_reducible first|exact tf0 h|exact ft0 h|exact nt0 h|exact nf0 h)|exact litz h rfl|(with_reducible first|exact tf h (by assumption)|exact tf (by assumption) h)|try conv=>whnf)|with_reducible rfl|apply True.intro|((first|apply infoT|apply bleI|apply fitI|apply cellsI|apply szI);rfl)|(apply guardI;kernel_rfl)|(apply WhenQ.mk;(try conv=>whnf);rotate_left;(try conv=>whnf);rotate_right)|(with_reducible first|assumption|(apply not_of;assumption)|(apply left_of;assumption)|(apply left_of;apply left_of;assumption)|(apply and_of<;>first|assumption|(apply not_of;assumption)))|(refine lin_plan (by kernel_rfl) ?_;try conv=>whnf)|(refine ⟨_, _, rfl, idx_map (by with_reducible assumption), rfl, ?_⟩;try conv=>whnf)|(refine ⟨rfl, ?_⟩;try conv=>whnf)|exact Nat.le_refl 1|((first|(apply ex3;(focus with_reducible assumption);(focus with_reducible assumption))|(apply ex2;(focus with_reducible assumption)));try conv=>whnf)|fail)
  · have hi' : i < l.length := by simpa using lt_dec h
    have hm : l[i]? = some l[i] := List.getElem?_eq_getElem hi'
    refine ⟨_, _, rfl, idx_map hm, rfl, ?_⟩
    (try conv=>whnf);repeat' (first|(apply And.intro<;>try conv=>whnf)|(intro h;first|(with_reducible first|exact tf0 h|exact ft0 h|exact nt0 h|exact nf0 h)|exact litz h rfl|(with_reducible first|exact tf h (by assumption)|exact tf (by assumption) h)|try conv=>whnf)|with_reducible rfl|apply True.intro|((first|apply infoT|apply bleI|apply fitI|apply cellsI|apply szI);rfl)|(apply guardI;kernel_rfl)|(apply WhenQ.mk;(try conv=>whnf);rotate_left;(try conv=>whnf);rotate_right)|(with_reducible first|assumption|(apply not_of;assumption)|(apply left_of;assumption)|(apply left_of;apply left_of;assumption)|(apply and_of<;>first|assumption|(apply not_of;assumption)))|(refine lin_plan (by kernel_rfl) ?_;try conv=>whnf)|(refine ⟨_, _, rfl, idx_map (by with_reducible assumption), rfl, ?_⟩;try conv=>whnf)|(refine ⟨rfl, ?_⟩;try conv=>whnf)|exact Nat.le_refl 1|((first|(apply ex3;(focus with_reducible assumption);(focus with_reducible assumption))|(apply ex2;(focus with_reducible assumption)));try conv=>whnf)|fail)
    · simp at h
    · exact ⟨⟨i + 1, hi'⟩, by show l.length - (i + 1) < l.length - i; omega, (by refine Wk.of ?_ ?_ rfl rfl rfl<;>(repeat' (first|exact trivial|exact WkD.same _|exact WkO.same _ _ rfl|exact WkD.any _|(apply WkD.nil;first|exact Or.inl rfl|exact Or.inr rfl)|(exact WkD.fz _ _ _ rfl (Or.inl ⟨_, rfl⟩) rfl)|(exact WkD.fz _ _ _ rfl (Or.inr rfl) rfl)|refine WkD.int ?_|exact WkD.new' rfl rfl rfl|exact WkO.new _ _ rfl|refine WkO.vars rfl ?_|with_reducible rfl|exact rfl|refine ⟨?_, ?_⟩|((refine wrapA ?_ ?_ ?_);(focus simp;done);(focus (try dsimp only);omega);(focus (try dsimp only);omega))|fail)))⟩
  · exact .refl _
theorem rm_Same (m : Mo) (h1 : m.val.length ≤ 1000) (h2 : m.rel.length ≤ 1000) (h3 : ∀ r, r ∈ m.rel → r.length ≤ 1000) : PureFn Try.prog 22 [m.pv, m.pv] (.bool true) := by
  refine PureFn.introC [3] mixed (fn := Try.f22) rfl rfl rfl fun M w0 => ?_
  have hS := rm_SameSets m.val h1
  (try conv=>whnf);repeat' (first|(apply And.intro<;>try conv=>whnf)|(intro h;first|(with_reducible first|exact tf0 h|exact ft0 h|exact nt0 h|exact nf0 h)|exact litz h rfl|(with_reducible first|exact tf h (by assumption)|exact tf (by assumption) h)|try conv=>whnf)|with_reducible rfl|apply True.intro|((first|apply infoT|apply bleI|apply fitI|apply cellsI|apply szI);rfl)|(apply guardI;kernel_rfl)|(apply WhenQ.mk;(try conv=>whnf);rotate_left;(try conv=>whnf);rotate_right)|(with_reducible first|assumption|(apply not_of;assumption)|(apply left_of;assumption)|(apply left_of;apply left_of;assumption)|(apply and_of<;>first|assumption|(apply not_of;assumption)))|(refine lin_plan (by kernel_rfl) ?_;try conv=>whnf)|(refine ⟨_, _, rfl, idx_map (by with_reducible assumption), rfl, ?_⟩;try conv=>whnf)|(refine ⟨rfl, ?_⟩;try conv=>whnf)|exact Nat.le_refl 1|((first|(apply ex3;(focus with_reducible assumption);(focus with_reducible assumption))|(apply ex2;(focus with_reducible assumption)));try conv=>whnf)|fail)
  refine ⟨Unit, fun _ => [(2, .ref 0 0), (3, .ref 1 0)], fun _ => 2, fun _ => [(0, .var (cellsM m)), (1, .var (cellsM m))], ?_, ?_⟩
  · (try conv=>whnf);repeat' (first|(apply And.intro<;>try conv=>whnf)|(intro h;first|(with_reducible first|exact tf0 h|exact ft0 h|exact nt0 h|exact nf0 h)|exact litz h rfl|(with_reducible first|exact tf h (by assumption)|exact tf (by assumption) h)|try conv=>whnf)|with_reducible rfl|apply True.intro|((first|apply infoT|apply bleI|apply fitI|apply cellsI|apply szI);rfl)|(apply guardI;kernel_rfl)|(apply WhenQ.mk;(try conv=>whnf);rotate_left;(try conv=>whnf);rotate_right)|(with_reducible first|assumption|(apply not_of;assumption)|(apply left_of;assumption)|(apply left_of;apply left_of;assumption)|(apply and_of<;>first|assumption|(apply not_of;assumption)))|(refine lin_plan (by kernel_rfl) ?_;try conv=>whnf)|(refine ⟨_, _, rfl, idx_map (by with_reducible assumption), rfl, ?_⟩;try conv=>whnf)|(refine ⟨rfl, ?_⟩;try conv=>whnf)|exact Nat.le_refl 1|((first|(apply ex3;(focus with_reducible assumption);(focus with_reducible assumption))|(apply ex2;(focus with_reducible assumption)));try conv=>whnf)|(refine PureFn.dcq (f := 61) rfl ?_;try conv=>whnf)|((refine ⟨_, _, hS, ?_, ?_⟩);(focus (first|(refine ⟨?_, ?_, trivial⟩<;>first|exact PLe.refl _|exact PLe.nil)|exact trivial));try conv=>whnf)|(refine ⟨_, (by (conv=>whnf);exact hS), rfl, ?_⟩;try conv=>whnf)|fail)
    · simp at h
    · exact ⟨(), (by refine Wk.of ?_ ?_ rfl rfl rfl<;>(repeat' (first|exact trivial|exact WkD.same _|exact WkO.same _ _ rfl|exact WkD.any _|(apply WkD.nil;first|exact Or.inl rfl|exact Or.inr rfl)|(exact WkD.fz _ _ _ rfl (Or.inl ⟨_, rfl⟩) rfl)|(exact WkD.fz _ _ _ rfl (Or.inr rfl) rfl)|refine WkD.int ?_|exact WkD.new' rfl rfl rfl|exact WkO.new _ _ rfl|refine WkO.vars rfl ?_|with_reducible rfl|exact rfl|refine ⟨?_, ?_⟩|((refine wrapA ?_ ?_ ?_);(focus simp;done);(focus (try dsimp only);omega);(focus (try dsimp only);omega))|fail)))⟩
  rintro ⟨⟩
  (try conv=>whnf);repeat' (first|(apply And.intro<;>try conv=>whnf)|(intro h;first|(with_reducible first|exact tf0 h|exact ft0 h|exact nt0 h|exact nf0 h)|exact litz h rfl|(with_reducible first|exact tf h (by assumption)|exact tf (by assumption) h)|try conv=>whnf)|with_reducible rfl|apply True.intro|((first|apply infoT|apply bleI|apply fitI|apply cellsI|apply szI);rfl)|(apply guardI;kernel_rfl)|(apply WhenQ.mk;(try conv=>whnf);rotate_left;(try conv=>whnf);rotate_right)|(with_reducible first|assumption|(apply not_of;assumption)|(apply left_of;assumption)|(apply left_of;apply left_of;assumption)|(apply and_of<;>first|assumption|(apply not_of;assumption)))|(refine lin_plan (by kernel_rfl) ?_;try conv=>whnf)|(refine ⟨_, _, rfl, idx_map (by with_reducible assumption), rfl, ?_⟩;try conv=>whnf)|(refine ⟨rfl, ?_⟩;try conv=>whnf)|exact Nat.le_refl 1|((first|(apply ex3;(focus with_reducible assumption);(focus with_reducible assumption))|(apply ex2;(focus with_reducible assumption)));try conv=>whnf)|fail)
  refine ⟨{ i : Nat // i ≤ m.rel.length }, fun i => [(2, .ref 0 0), (3, .ref 1 0), (5, .pv (i64 i.1))], fun _ => 2, fun _ => [(0, .var (cellsM m)), (1, .var (cellsM m))], fun i => m.rel.length - i.1, ⟨⟨0, Nat.zero_le _⟩, (by refine Wk.of ?_ ?_ rfl rfl rfl<;>(repeat' (first|exact trivial|exact WkD.same _|exact WkO.same _ _ rfl|exact WkD.any _|(apply WkD.nil;first|exact Or.inl rfl|exact Or.inr rfl)|(exact WkD.fz _ _ _ rfl (Or.inl ⟨_, rfl⟩) rfl)|(exact WkD.fz _ _ _ rfl (Or.inr rfl) rfl)|refine WkD.int ?_|exact WkD.new' rfl rfl rfl|exact WkO.new _ _ rfl|refine WkO.vars rfl ?_|with_reducible rfl|exact rfl|refine ⟨?_, ?_⟩|((refine wrapA ?_ ?_ ?_);(focus simp;done);(focus (try dsimp only);omega);(focus (try dsimp only);omega))|fail)))⟩, ?_⟩
  rintro ⟨i, hi⟩
  (try conv=>whnf);repeat' (first|(apply And.intro<;>try conv=>whnf)|(intro h;first|(with_reducible first|exact tf0 h|exact ft0 h|exact nt0 h|exact nf0 h)|exact litz h rfl|(with_reducible first|exact tf h (by assumption)|exact tf (by assumption) h)|try conv=>whnf)|with_reducible rfl|apply True.intro|((first|apply infoT|apply bleI|apply fitI|apply cellsI|apply szI);rfl)|(apply guardI;kernel_rfl)|(apply WhenQ.mk;(try conv=>whnf);rotate_left;(try conv=>whnf);rotate_right)|(with_reducible first|assumption|(apply not_of;assumption)|(apply left_of;assumption)|(apply left_of;apply left_of;assumption)|(apply and_of<;>first|assumption|(apply not_of;assumption)))|(refine lin_plan (by kernel_rfl) ?_;try conv=>whnf)|(refine ⟨_, _, rfl, idx_map (by with_reducible assumption), rfl, ?_⟩;try conv=>whnf)|(refine ⟨rfl, ?_⟩;try conv=>whnf)|exact Nat.le_refl 1|((first|(apply ex3;(focus with_reducible assumption);(focus with_reducible assumption))|(apply ex2;(focus with_reducible assumption)));try conv=>whnf)|fail)
  · have hi' : i < m.rel.length := by simpa using lt_dec h
    have hm : m.rel[i]? = some m.rel[i] := List.getElem?_eq_getElem hi'
    have hS2 := rm_SameSets m.rel[i] (h3 _ (List.getElem_mem hi'))
    refine ⟨_, _, rfl, idx_map hm, rfl, ?_⟩
    (try conv=>whnf);repeat' (first|(apply And.intro<;>try conv=>whnf)|(intro h;first|(with_reducible first|exact tf0 h|exact ft0 h|exact nt0 h|exact nf0 h)|exact litz h rfl|(with_reducible first|exact tf h (by assumption)|exact tf (by assumption) h)|try conv=>whnf)|with_reducible rfl|apply True.intro|((first|apply infoT|apply bleI|apply fitI|apply cellsI|apply szI);rfl)|(apply guardI;kernel_rfl)|(apply WhenQ.mk;(try conv=>whnf);rotate_left;(try conv=>whnf);rotate_right)|(with_reducible first|assumption|(apply not_of;assumption)|(apply left_of;assumption)|(apply left_of;apply left_of;assumption)|(apply and_of<;>first|assumption|(apply not_of;assumption)))|(refine lin_plan (by kernel_rfl) ?_;try conv=>whnf)|(refine ⟨_, _, rfl, idx_map (by with_reducible assumption), rfl, ?_⟩;try conv=>whnf)|(refine ⟨rfl, ?_⟩;try conv=>whnf)|exact Nat.le_refl 1|((first|(apply ex3;(focus with_reducible assumption);(focus with_reducible assumption))|(apply ex2;(focus with_reducible assumption)));try conv=>whnf)|(refine PureFn.dcq (f := 61) rfl ?_;try conv=>whnf)|((refine ⟨_, _, hS2, ?_, ?_⟩);(focus (first|(refine ⟨?_, ?_, trivial⟩<;>first|exact PLe.refl _|exact PLe.nil)|exact trivial));try conv=>whnf)|(refine ⟨_, (by (conv=>whnf);exact hS2), rfl, ?_⟩;try conv=>whnf)|fail)
    exact ⟨⟨i + 1, hi'⟩, by show m.rel.length - (i + 1) < m.rel.length - i; omega, (by refine Wk.of ?_ ?_ rfl rfl rfl<;>(repeat' (first|exact trivial|exact WkD.same _|exact WkO.same _ _ rfl|exact WkD.any _|(apply WkD.nil;first|exact Or.inl rfl|exact Or.inr rfl)|(exact WkD.fz _ _ _ rfl (Or.inl ⟨_, rfl⟩) rfl)|(exact WkD.fz _ _ _ rfl (Or.inr rfl) rfl)|refine WkD.int ?_|exact WkD.new' rfl rfl rfl|exact WkO.new _ _ rfl|refine WkO.vars rfl ?_|with_reducible rfl|exact rfl|refine ⟨?_, ?_⟩|((refine wrapA ?_ ?_ ?_);(focus simp;done);(focus (try dsimp only);omega);(focus (try dsimp only);omega))|fail)))⟩
  · exact .refl _
def fewB (m : Mo) (k : Int) : Bool := bif bif bif decide (m.n > k) then decide (m.n ≤ 64) else false then true else decide ((m.val.length : Int) > 20) then true else decide ((m.rel.length : Int) > 10)
def fewM (m : Mo) (k : Int) : Bool := bif fewB m k then false else !(m.rel.any fun r => decide ((r.length : Int) > 70))
theorem rm_Few (m : Mo) (k : Int) : PureFn Try.prog 19 [m.pv, .int .i64 k] (.bool (fewM m k)) := by
  refine PureFn.introC [3] mixed (fn := Try.f19) rfl rfl rfl fun M w0 => ?_
  have e1 : ((m.val.map u64).length : Int) = (m.val.length : Int) := by simp
  have e2 : ((m.rel.map rowPV).length : Int) = (m.rel.length : Int) := by simp
  (try conv=>whnf);repeat' (first|(apply And.intro<;>try conv=>whnf)|(intro h;first|(with_reducible first|exact tf0 h|exact ft0 h|exact nt0 h|exact nf0 h)|exact litz h rfl|(with_reducible first|exact tf h (by assumption)|exact tf (by assumption) h)|try conv=>whnf)|with_reducible rfl|apply True.intro|((first|apply infoT|apply bleI|apply fitI|apply cellsI|apply szI);rfl)|(apply guardI;kernel_rfl)|(apply WhenQ.mk;(try conv=>whnf);rotate_left;(try conv=>whnf);rotate_right)|(with_reducible first|assumption|(apply not_of;assumption)|(apply left_of;assumption)|(apply left_of;apply left_of;assumption)|(apply and_of<;>first|assumption|(apply not_of;assumption)))|(refine lin_plan (by kernel_rfl) ?_;try conv=>whnf)|(refine ⟨_, _, rfl, idx_map (by with_reducible assumption), rfl, ?_⟩;try conv=>whnf)|(refine ⟨rfl, ?_⟩;try conv=>whnf)|exact Nat.le_refl 1|((first|(apply ex3;(focus with_reducible assumption);(focus with_reducible assumption))|(apply ex2;(focus with_reducible assumption)));try conv=>whnf)|fail)
  refine ⟨{ _x : Unit // fewB m k = false }, fun _ => [(2, .ref 0 0)], fun _ => 1, fun _ => HM m, ?_, ?_⟩
  · (try conv=>whnf);repeat' (first|(apply And.intro<;>try conv=>whnf)|(intro h;first|(with_reducible first|exact tf0 h|exact ft0 h|exact nt0 h|exact nf0 h)|exact litz h rfl|(with_reducible first|exact tf h (by assumption)|exact tf (by assumption) h)|try conv=>whnf)|with_reducible rfl|apply True.intro|((first|apply infoT|apply bleI|apply fitI|apply cellsI|apply szI);rfl)|(apply guardI;kernel_rfl)|(apply WhenQ.mk;(try conv=>whnf);rotate_left;(try conv=>whnf);rotate_right)|(with_reducible first|assumption|(apply not_of;assumption)|(apply left_of;assumption)|(apply left_of;apply left_of;assumption)|(apply and_of<;>first|assumption|(apply not_of;assumption)))|(refine lin_plan (by kernel_rfl) ?_;try conv=>whnf)|(refine ⟨_, _, rfl, idx_map (by with_reducible assumption), rfl, ?_⟩;try conv=>whnf)|(refine ⟨rfl, ?_⟩;try conv=>whnf)|exact Nat.le_refl 1|((first|(apply ex3;(focus with_reducible assumption);(focus with_reducible assumption))|(apply ex2;(focus with_reducible assumption)));try conv=>whnf)|fail)
    · have h9 : fewB m k = true := by rw [fewB, ← e1, ← e2]; exact h
      rw [fewM, h9]; exact .refl _
    · have h9 : fewB m k = false := by rw [fewB, ← e1, ← e2]; exact h
      exact ⟨⟨(), h9⟩, (by refine Wk.of ?_ ?_ rfl rfl rfl<;>(repeat' (first|exact trivial|exact WkD.same _|exact WkO.same _ _ rfl|exact WkD.any _|(apply WkD.nil;first|exact Or.inl rfl|exact Or.inr rfl)|(exact WkD.fz _ _ _ rfl (Or.inl ⟨_, rfl⟩) rfl)|(exact WkD.fz _ _ _ rfl (Or.inr rfl) rfl)|refine WkD.int ?_|exact WkD.new' rfl rfl rfl|exact WkO.new _ _ rfl|refine WkO.vars rfl ?_|with_reducible rfl|exact rfl|refine ⟨?_, ?_⟩|((refine wrapA ?_ ?_ ?_);(focus simp;done);(focus (try dsimp only);omega);(focus (try dsimp only);omega))|fail)))⟩
  rintro ⟨_, h1⟩
  have hrl : m.rel.length ≤ 10 := by
    unfold fewB at h1
    cases q1 : (bif bif decide (m.n > k) then decide (m.n ≤ 64) else false then true else decide ((m.val.length : Int) > 20)) with
    | true => rw [q1] at h1; cases h1
    | false =>
      rw [q1] at h1
      have := of_decide_eq_false (show decide ((m.rel.length : Int) > 10) = false from h1)
      omega
  (try conv=>whnf);repeat' (first|(apply And.intro<;>try conv=>whnf)|(intro h;first|(with_reducible first|exact tf0 h|exact ft0 h|exact nt0 h|exact nf0 h)|exact litz h rfl|(with_reducible first|exact tf h (by assumption)|exact tf (by assumption) h)|try conv=>whnf)|with_reducible rfl|apply True.intro|((first|apply infoT|apply bleI|apply fitI|apply cellsI|apply szI);rfl)|(apply guardI;kernel_rfl)|(apply WhenQ.mk;(try conv=>whnf);rotate_left;(try conv=>whnf);rotate_right)|(with_reducible first|assumption|(apply not_of;assumption)|(apply left_of;assumption)|(apply left_of;apply left_of;assumption)|(apply and_of<;>first|assumption|(apply not_of;assumption)))|(refine lin_plan (by kernel_rfl) ?_;try conv=>whnf)|(refine ⟨_, _, rfl, idx_map (by with_reducible assumption), rfl, ?_⟩;try conv=>whnf)|(refine ⟨rfl, ?_⟩;try conv=>whnf)|exact Nat.le_refl 1|((first|(apply ex3;(focus with_reducible assumption);(focus with_reducible assumption))|(apply ex2;(focus with_reducible assumption)));try conv=>whnf)|fail)
  refine ⟨{ i : Nat // i ≤ m.rel.length ∧ (m.rel.take i).any (fun r => decide ((r.length : Int) > 70)) = false }, fun i => [(2, .ref 0 0), (5, .pv (i64 i.1))], fun _ => 1, fun _ => HM m, fun i => m.rel.length - i.1, ⟨⟨0, Nat.zero_le _, rfl⟩, (by refine Wk.of ?_ ?_ rfl rfl rfl<;>(repeat' (first|exact trivial|exact WkD.same _|exact WkO.same _ _ rfl|exact WkD.any _|(apply WkD.nil;first|exact Or.inl rfl|exact Or.inr rfl)|(exact WkD.fz _ _ _ rfl (Or.inl ⟨_, rfl⟩) rfl)|(exact WkD.fz _ _ _ rfl (Or.inr rfl) rfl)|refine WkD.int ?_|exact WkD.new' rfl rfl rfl|exact WkO.new _ _ rfl|refine WkO.vars rfl ?_|with_reducible rfl|exact rfl|refine ⟨?_, ?_⟩|((refine wrapA ?_ ?_ ?_);(focus simp;done);(focus (try dsimp only);omega);(focus (try dsimp only);omega))|fail)))⟩, ?_⟩
  rintro ⟨i, hi, ha⟩
  (try conv=>whnf);repeat' (first|(apply And.intro<;>try conv=>whnf)|(intro h;first|(with_reducible first|exact tf0 h|exact ft0 h|exact nt0 h|exact nf0 h)|exact litz h rfl|(with_reducible first|exact tf h (by assumption)|exact tf (by assumption) h)|try conv=>whnf)|with_reducible rfl|apply True.intro|((first|apply infoT|apply bleI|apply fitI|apply cellsI|apply szI);rfl)|(apply guardI;kernel_rfl)|(apply WhenQ.mk;(try conv=>whnf);rotate_left;(try conv=>whnf);rotate_right)|(with_reducible first|assumption|(apply not_of;assumption)|(apply left_of;assumption)|(apply left_of;apply left_of;assumption)|(apply and_of<;>first|assumption|(apply not_of;assumption)))|(refine lin_plan (by kernel_rfl) ?_;try conv=>whnf)|(refine ⟨_, _, rfl, idx_map (by with_reducible assumption), rfl, ?_⟩;try conv=>whnf)|(refine ⟨rfl, ?_⟩;try conv=>whnf)|exact Nat.le_refl 1|((first|(apply ex3;(focus with_reducible assumption);(focus with_reducible assumption))|(apply ex2;(focus with_reducible assumption)));try conv=>whnf)|fail)
  · have hi' : i < m.rel.length := by simpa using lt_dec h
    have hm : m.rel[i]? = some m.rel[i] := List.getElem?_eq_getElem hi'
    have e3 : (((m.rel[i]).map u64).length : Int) = ((m.rel[i]).length : Int) := by simp
    refine ⟨_, _, rfl, idx_map hm, rfl, ?_⟩
    (try conv=>whnf);repeat' (first|(apply And.intro<;>try conv=>whnf)|(intro h;first|(with_reducible first|exact tf0 h|exact ft0 h|exact nt0 h|exact nf0 h)|exact litz h rfl|(with_reducible first|exact tf h (by assumption)|exact tf (by assumption) h)|try conv=>whnf)|with_reducible rfl|apply True.intro|((first|apply infoT|apply bleI|apply fitI|apply cellsI|apply szI);rfl)|(apply guardI;kernel_rfl)|(apply WhenQ.mk;(try conv=>whnf);rotate_left;(try conv=>whnf);rotate_right)|(with_reducible first|assumption|(apply not_of;assumption)|(apply left_of;assumption)|(apply left_of;apply left_of;assumption)|(apply and_of<;>first|assumption|(apply not_of;assumption)))|(refine lin_plan (by kernel_rfl) ?_;try conv=>whnf)|(refine ⟨_, _, rfl, idx_map (by with_reducible assumption), rfl, ?_⟩;try conv=>whnf)|(refine ⟨rfl, ?_⟩;try conv=>whnf)|exact Nat.le_refl 1|((first|(apply ex3;(focus with_reducible assumption);(focus with_reducible assumption))|(apply ex2;(focus with_reducible assumption)));try conv=>whnf)|fail)
    · have e : (m.rel.any fun r => decide ((r.length : Int) > 70)) = true := any_at hi' (by rw [← e3]; exact h)
      rw [fewM, h1, e]; exact .refl _
    · exact ⟨⟨i + 1, hi', any_take hi' ha (by rw [← e3]; exact h)⟩, by show m.rel.length - (i + 1) < m.rel.length - i; omega, (by refine Wk.of ?_ ?_ rfl rfl rfl<;>(repeat' (first|exact trivial|exact WkD.same _|exact WkO.same _ _ rfl|exact WkD.any _|(apply WkD.nil;first|exact Or.inl rfl|exact Or.inr rfl)|(exact WkD.fz _ _ _ rfl (Or.inl ⟨_, rfl⟩) rfl)|(exact WkD.fz _ _ _ rfl (Or.inr rfl) rfl)|refine WkD.int ?_|exact WkD.new' rfl rfl rfl|exact WkO.new _ _ rfl|refine WkO.vars rfl ?_|with_reducible rfl|exact rfl|refine ⟨?_, ?_⟩|((refine wrapA ?_ ?_ ?_);(focus simp;done);(focus (try dsimp only);omega);(focus (try dsimp only);omega))|fail)))⟩
  · have hi' : i = m.rel.length := by have := ge_dec (m := (m.rel.map rowPV).length) h (by simpa using hi); simpa using this
    subst hi'
    rw [List.take_length] at ha
    rw [fewM, h1, ha]; exact .refl _
end Go.Proofs.Ytnbnkgcjgfmlcaa
set_option maxRecDepth 100000
set_option maxHeartbeats 4000000
namespace Go.Proofs.Ytnbnkgcjgfmlcaa
open Go Go.Dv

def isP (w e : Int) (q : Nat × Nat) : Bool := bif (q.1 : Int) == w then (q.2 : Int) == e else false
def ixP (l : List (Nat × Nat)) (w e : Int) : Int := match l.findIdx? (isP w e) with | none => -1 | some i => (i : Int)
theorem find_at {α : Type} {p : α → Bool} : ∀ {l : List α} {i : Nat} {x : α}, l[i]? = some x → p x = true → (l.take i).any p = false → l.findIdx? p = some i
  | [], i, x, h, _, _ => by simp at h
  | a :: r, 0, x, h, hx, _ => by
    have : a = x := by simpa using h
    subst this
    simp [List.findIdx?_cons, hx]
  | a :: r, i + 1, x, h, hx, hn => by
    have h1 : r[i]? = some x := by simpa using h
    have hn2 : (p a || (r.take i).any p) = false := by simpa using hn
    rw [Bool.or_eq_false_iff] at hn2
    rw [List.findIdx?_cons, hn2.1, find_at h1 hx hn2.2]; rfl
theorem find_none {α : Type} {p : α → Bool} {l : List α} (h : l.any p = false) : l.findIdx? p = none := by
  rw [List.findIdx?_eq_none_iff]
  exact fun x hx => by simpa using List.any_eq_false.1 h x hx
theorem fit_pair (x y : Int) : fitT Try.prog 40 (.agg [.int .i64 x, .int .i64 y]) = true := by kernel_rfl
theorem eq_pair (w e : Int) (q : Nat × Nat) : eqPVs [.int .i64 w, .int .i64 e] [i64 q.1, i64 q.2] = isP w e q := by
  show ((w == (q.1 : Int)) && ((e == (q.2 : Int)) && true)) = bif (q.1 : Int) == w then (q.2 : Int) == e else false
  rw [Bool.and_true, show (w == (q.1 : Int)) = ((q.1 : Int) == w) by rw [Bool.eq_iff_iff, beq_iff_eq, beq_iff_eq]; exact ⟨Eq.symm, Eq.symm⟩, show (e == (q.2 : Int)) = ((q.2 : Int) == e) by rw [Bool.eq_iff_iff, beq_iff_eq, beq_iff_eq]; exact ⟨Eq.symm, Eq.symm⟩]
  cases ((q.1 : Int) == w) <;> rfl
theorem sl_IndexP (l : List (Nat × Nat)) (w e : Int) (hl : l.length ≤ 1000) : PureFn Try.prog 78 [.sl (l.map pairPV), .agg [.int .i64 w, .int .i64 e]] (.int .i64 (ixP l w e)) := by
  refine PureFn.intro mixed (fn := Try.f78) rfl rfl rfl fun M w0 => ?_
  (try conv=>whnf);repeat' (first|(apply And.intro<;>try conv=>whnf)|(intro h;first|(with_reducible first|exact tf0 h|exact ft0 h|exact nt0 h|exact nf0 h)|exact litz h rfl|(with_reducible first|exact tf h (by assumption)|exact tf (by assumption) h)|try conv=>whnf)|with_reducible rfl|apply True.intro|((first|apply infoT|apply bleI|apply fitI|apply cellsI|apply szI);rfl)|(apply guardI;kernel_rfl)|(apply WhenQ.mk;(try conv=>whnf);rotate_left;(try conv=>whnf);rotate_right)|(with_reducible first|assumption|(apply not_of;assumption)|(apply left_of;assumption)|(apply left_of;apply left_of;assumption)|(apply and_of<;>first|assumption|(apply not_of;assumption)))|(refine lin_plan (by kernel_rfl) ?_;try conv=>whnf)|(refine ⟨_, _, rfl, idx_map (by with_reducible assumption), rfl, ?_⟩;try conv=>whnf)|(refine ⟨rfl, ?_⟩;try conv=>whnf)|exact Nat.le_refl 1|((first|(apply ex3;(focus with_reducible assumption);(focus with_reducible assumption))|(apply ex2;(focus with_reducible assumption)));try conv=>whnf)|fail)
  refine ⟨{ i : Nat // i ≤ l.length ∧ (l.take i).any (isP w e) = false }, fun i => [(0, .pv (.sl (l.map pairPV))), (3, .ref 0 0), (7, .pv (i64 (l.map pairPV).length)), (8, .pv (i64 i.1))], fun _ => 1, fun _ => [(0, .var [.pv (.int .i64 w), .pv (.int .i64 e)])], fun i => l.length - i.1, ⟨⟨0, Nat.zero_le _, rfl⟩, (by refine Wk.of ?_ ?_ rfl rfl rfl<;>(repeat' (first|exact trivial|exact WkD.same _|exact WkO.same _ _ rfl|exact WkD.any _|(apply WkD.nil;first|exact Or.inl rfl|exact Or.inr rfl)|(exact WkD.fz _ _ _ rfl (Or.inl ⟨_, rfl⟩) rfl)|(exact WkD.fz _ _ _ rfl (Or.inr rfl) rfl)|refine WkD.int ?_|exact WkD.new' rfl rfl rfl|exact WkO.new _ _ rfl|refine WkO.vars rfl ?_|with_reducible rfl|exact rfl|refine ⟨?_, ?_⟩|((refine wrapA ?_ ?_ ?_);(focus simp;done);(focus (try dsimp only);omega);(focus (try dsimp only);omega))|fail)))⟩, ?_⟩
  rintro ⟨i, hi, hn⟩
  (try conv=>whnf);repeat' (first|(apply And.intro<;>try conv=>whnf)|(intro h;first|(with_reducible first|exact tf0 h|exact ft0 h|exact nt0 h|exact nf0 h)|exact litz h rfl|(with_reducible first|exact tf h (by assumption)|exact tf (by assumption) h)|try conv=>whnf)|with_reducible rfl|apply True.intro|((first|apply infoT|apply bleI|apply fitI|apply cellsI|apply szI);rfl)|(apply guardI;kernel_rfl)|(apply WhenQ.mk;(try conv=>whnf);rotate_left;(try conv=>whnf);rotate_right)|(with_reducible first|assumption|(apply not_of;assumption)|(apply left_of;assumption)|(apply left_of;apply left_of;assumption)|(apply and_of<;>first|assumption|(apply not_of;assumption)))|(refine lin_plan (by kernel_rfl) ?_;try conv=>whnf)|(refine ⟨_, _, rfl, idx_map (by with_reducible assumption), rfl, ?_⟩;try conv=>whnf)|(refine ⟨rfl, ?_⟩;try conv=>whnf)|exact Nat.le_refl 1|((first|(apply ex3;(focus with_reducible assumption);(focus with_reducible assumption))|(apply ex2;(focus with_reducible assumption)));try conv=>whnf)|fail)
  · have hi' : i < l.length := by simpa using lt_dec h
    obtain ⟨y, hy, hyw⟩ : ∃ y, l[i]? = some y ∧ l[i] = y := ⟨_, List.getElem?_eq_getElem hi', rfl⟩
    refine ⟨_, _, rfl, idx_map hy, rfl, ?_⟩
    (try conv=>whnf);repeat' (first|(apply And.intro<;>try conv=>whnf)|(intro h;first|(with_reducible first|exact tf0 h|exact ft0 h|exact nt0 h|exact nf0 h)|exact litz h rfl|(with_reducible first|exact tf h (by assumption)|exact tf (by assumption) h)|try conv=>whnf)|with_reducible rfl|apply True.intro|((first|apply infoT|apply bleI|apply fitI|apply cellsI|apply szI);rfl)|(apply guardI;kernel_rfl)|(apply WhenQ.mk;(try conv=>whnf);rotate_left;(try conv=>whnf);rotate_right)|(with_reducible first|assumption|(apply not_of;assumption)|(apply left_of;assumption)|(apply left_of;apply left_of;assumption)|(apply and_of<;>first|assumption|(apply not_of;assumption)))|(refine lin_plan (by kernel_rfl) ?_;try conv=>whnf)|(refine ⟨_, _, rfl, idx_map (by with_reducible assumption), rfl, ?_⟩;try conv=>whnf)|(refine ⟨rfl, ?_⟩;try conv=>whnf)|exact Nat.le_refl 1|((first|(apply ex3;(focus with_reducible assumption);(focus with_reducible assumption))|(apply ex2;(focus with_reducible assumption)));try conv=>whnf)|fail)
    · exact fit_pair _ _
    · exact fit_pair _ _
    · have hq : isP w e y = true := by rw [← eq_pair]; exact h
      rw [ixP, find_at hy hq hn]
      exact .refl _
    · have hq : isP w e y = false := by rw [← eq_pair]; exact h
      exact ⟨⟨i + 1, hi', any_take hi' hn (by rw [hyw]; exact hq)⟩, by show l.length - (i + 1) < l.length - i; omega, (by refine Wk.of ?_ ?_ rfl rfl rfl<;>(repeat' (first|exact trivial|exact WkD.same _|exact WkO.same _ _ rfl|exact WkD.any _|(apply WkD.nil;first|exact Or.inl rfl|exact Or.inr rfl)|(exact WkD.fz _ _ _ rfl (Or.inl ⟨_, rfl⟩) rfl)|(exact WkD.fz _ _ _ rfl (Or.inr rfl) rfl)|refine WkD.int ?_|exact WkD.new' rfl rfl rfl|exact WkO.new _ _ rfl|refine WkO.vars rfl ?_|with_reducible rfl|exact rfl|refine ⟨?_, ?_⟩|((refine wrapA ?_ ?_ ?_);(focus simp;done);(focus (try dsimp only);omega);(focus (try dsimp only);omega))|fail)))⟩
  · have hi' : i = l.length := by have := ge_dec (m := (l.map pairPV).length) h (by simpa using hi); simpa using this
    subst hi'
    rw [List.take_length] at hn
    rw [ixP, find_none hn]
    exact .refl _
theorem sl_EqP (l : List (Nat × Nat)) (hl : l.length ≤ 1000) : PureFn Try.prog 47 [.sl (l.map pairPV), .sl (l.map pairPV)] (.bool true) := by
  refine PureFn.intro mixed (fn := Try.f47) rfl rfl rfl fun M w0 => ?_
  (try conv=>whnf);repeat' (first|(apply And.intro<;>try conv=>whnf)|(intro h;first|(with_reducible first|exact tf0 h|exact ft0 h|exact nt0 h|exact nf0 h)|exact litz h rfl|(with_reducible first|exact tf h (by assumption)|exact tf (by assumption) h)|try conv=>whnf)|with_reducible rfl|apply True.intro|((first|apply infoT|apply bleI|apply fitI|apply cellsI|apply szI);rfl)|(apply guardI;kernel_rfl)|(apply WhenQ.mk;(try conv=>whnf);rotate_left;(try conv=>whnf);rotate_right)|(with_reducible first|assumption|(apply not_of;assumption)|(apply left_of;assumption)|(apply left_of;apply left_of;assumption)|(apply and_of<;>first|assumption|(apply not_of;assumption)))|(refine lin_plan (by kernel_rfl) ?_;try conv=>whnf)|(refine ⟨_, _, rfl, idx_map (by with_reducible assumption), rfl, ?_⟩;try conv=>whnf)|(refine ⟨rfl, ?_⟩;try conv=>whnf)|exact Nat.le_refl 1|((first|(apply ex3;(focus with_reducible assumption);(focus with_reducible assumption))|(apply ex2;(focus with_reducible assumption)));try conv=>whnf)|fail)
  · simp at h
  refine ⟨{ i : Nat // i ≤ l.length }, fun i => [(0, .pv (.sl (l.map pairPV))), (1, .pv (.sl (l.map pairPV))), (12, .pv (i64 (l.map pairPV).length)), (13, .pv (i64 i.1))], fun _ => 0, fun _ => [], fun i => l.length - i.1, ⟨⟨0, Nat.zero_le _⟩, (by refine Wk.of ?_ ?_ rfl rfl rfl<;>(repeat' (first|exact trivial|exact WkD.same _|exact WkO.same _ _ rfl|exact WkD.any _|(apply WkD.nil;first|exact Or.inl rfl|exact Or.inr rfl)|(exact WkD.fz _ _ _ rfl (Or.inl ⟨_, rfl⟩) rfl)|(exact WkD.fz _ _ _ rfl (Or.inr rfl) rfl)|refine WkD.int ?_|exact WkD.new' rfl rfl rfl|exact WkO.new _ _ rfl|refine WkO.vars rfl ?_|with_reducible rfl|exact rfl|refine ⟨?_, ?_⟩|((refine wrapA ?_ ?_ ?_);(focus simp;done);(focus (try dsimp only);omega);(focus (try dsimp only);omega))|fail)))⟩, ?_⟩
  rintro ⟨i, hi⟩
  (try conv=>whnf);repeat' (first|(apply And.intro<;>try conv=>whnf)|(intro h;first|(with_reducible first|exact tf0 h|exact ft0 h|exact nt0 h|exact nf0 h)|exact litz h rfl|(with_reducible first|exact tf h (by assumption)|exact tf (by assumption) h)|try conv=>whnf)|with_reducible rfl|apply True.intro|((first|apply infoT|apply bleI|apply fitI|apply cellsI|apply szI);rfl)|(apply guardI;kernel_rfl)|(apply WhenQ.mk;(try conv=>whnf);rotate_left;(try conv=>whnf);rotate_right)|(with_reducible first|assumption|(apply not_of;assumption)|(apply left_of;assumption)|(apply left_of;apply left_of;assumption)|(apply and_of<;>first|assumption|(apply not_of;assumption)))|(refine lin_plan (by kernel_rfl) ?_;try conv=>whnf)|(refine ⟨_, _, rfl, idx_map (by with_reducible assumption), rfl, ?_⟩;try conv=>whnf)|(refine ⟨rfl, ?_⟩;try conv=>whnf)|exact Nat.le_refl 1|((first|(apply ex3;(focus with_reducible assumption);(focus with_reducible assumption))|(apply ex2;(focus with_reducible assumption)));try conv=>whnf)|fail)
  · have hi' : i < l.length := by simpa using lt_dec h
    obtain ⟨y, hy, hyw⟩ : ∃ y, l[i]? = some y ∧ l[i] = y := ⟨_, List.getElem?_eq_getElem hi', rfl⟩
    have hs : isP y.1 y.2 y = true := by simp [isP]
    refine ⟨_, _, rfl, idx_map hy, rfl, ?_⟩
    (try conv=>whnf);repeat' (first|(apply And.intro<;>try conv=>whnf)|(intro h;first|(with_reducible first|exact tf0 h|exact ft0 h|exact nt0 h|exact nf0 h)|exact litz h rfl|(with_reducible first|exact tf h (by assumption)|exact tf (by assumption) h)|try conv=>whnf)|with_reducible rfl|apply True.intro|((first|apply infoT|apply bleI|apply fitI|apply cellsI|apply szI);rfl)|(apply guardI;kernel_rfl)|(apply WhenQ.mk;(try conv=>whnf);rotate_left;(try conv=>whnf);rotate_right)|(with_reducible first|assumption|(apply not_of;assumption)|(apply left_of;assumption)|(apply left_of;apply left_of;assumption)|(apply and_of<;>first|assumption|(apply not_of;assumption)))|(refine lin_plan (by kernel_rfl) ?_;try conv=>whnf)|(refine ⟨_, _, rfl, idx_map (by with_reducible assumption), rfl, ?_⟩;try conv=>whnf)|(refine ⟨rfl, ?_⟩;try conv=>whnf)|exact Nat.le_refl 1|((first|(apply ex3;(focus with_reducible assumption);(focus with_reducible assumption))|(apply ex2;(focus with_reducible assumption)));try conv=>whnf)|fail)
    · exact fit_pair _ _
    · exact fit_pair _ _
    · have h9 : (!eqPVs [.int .i64 (y.1 : Int), .int .i64 (y.2 : Int)] [i64 y.1, i64 y.2]) = true := h
      rw [eq_pair, hs] at h9; cases h9
    · exact ⟨⟨i + 1, hi'⟩, by show l.length - (i + 1) < l.length - i; omega, (by refine Wk.of ?_ ?_ rfl rfl rfl<;>(repeat' (first|exact trivial|exact WkD.same _|exact WkO.same _ _ rfl|exact WkD.any _|(apply WkD.nil;first|exact Or.inl rfl|exact Or.inr rfl)|(exact WkD.fz _ _ _ rfl (Or.inl ⟨_, rfl⟩) rfl)|(exact WkD.fz _ _ _ rfl (Or.inr rfl) rfl)|refine WkD.int ?_|exact WkD.new' rfl rfl rfl|exact WkO.new _ _ rfl|refine WkO.vars rfl ?_|with_reducible rfl|exact rfl|refine ⟨?_, ?_⟩|((refine wrapA ?_ ?_ ?_);(focus simp;done);(focus (try dsimp only);omega);(focus (try dsimp only);omega))|fail)))⟩
  · exact .refl _
theorem updI_len (m : Mo) (a : Act) : (updI m a).2.1.length ≤ 64 := by
  unfold updI
  cases ((worldsI m a).2 != 0) with
  | true => exact Nat.zero_le _
  | false =>
    cases h : decide (((worldsI m a).1.length : Int) > 64) with
    | true => exact Nat.zero_le _
    | false =>
      have := of_decide_eq_false h
      show (worldsI m a).1.length ≤ 64
      omega
theorem pr_At (m : Mo) (w : Int) (a : Act) (e : Int) (hf : FitM m) (hfa : Fit a) (hl : a.rel.length ≤ 1000) (hp : ∀ l, l ∈ a.post → l.length ≤ 1000) : PureFn Try.prog 48 [m.pv, .int .i64 w, a.pv, .int .i64 e] (atPV (atI m w a e)) := by
  refine PureFn.introC [2, 8, 9] mixed (fn := Try.f48) rfl rfl rfl fun M w0 => ?_
  have hU := pr_Update m a hf hfa hl hp
  have hlen := updI_len m a
  obtain ⟨R, hR⟩ : ∃ R, R = atI m w a e := ⟨_, rfl⟩
  rw [← hR]
  rw [atI] at hR
  generalize updI m a = X at hU hlen hR
  obtain ⟨p, l, c⟩ := X
  have hlen : l.length ≤ 64 := hlen
  have hg : ((p, l, c) : Mo × List (Nat × Nat) × Int).2.2 = c := rfl
  rw [hg] at hR
  have e1 : ((a.pre.map fpv).length : Int) = (a.pre.length : Int) := by simp
  have hI := sl_IndexP l w e (by omega)
  (try conv=>whnf);repeat' (first|(apply And.intro<;>try conv=>whnf)|(intro h;first|(with_reducible first|exact tf0 h|exact ft0 h|exact nt0 h|exact nf0 h)|exact litz h rfl|(with_reducible first|exact tf h (by assumption)|exact tf (by assumption) h)|try conv=>whnf)|with_reducible rfl|apply True.intro|((first|apply infoT|apply bleI|apply fitI|apply cellsI|apply szI);rfl)|(apply guardI;kernel_rfl)|(apply WhenQ.mk;(try conv=>whnf);rotate_left;(try conv=>whnf);rotate_right)|(with_reducible first|assumption|(apply not_of;assumption)|(apply left_of;assumption)|(apply left_of;apply left_of;assumption)|(apply and_of<;>first|assumption|(apply not_of;assumption)))|(refine lin_plan (by kernel_rfl) ?_;try conv=>whnf)|(refine ⟨_, _, rfl, idx_map (by with_reducible assumption), rfl, ?_⟩;try conv=>whnf)|(refine ⟨rfl, ?_⟩;try conv=>whnf)|exact Nat.le_refl 1|((first|(apply ex3;(focus with_reducible assumption);(focus with_reducible assumption))|(apply ex2;(focus with_reducible assumption)));try conv=>whnf)|fail)
  refine ⟨Unit, fun _ => [(1, .pv (.int .i64 w)), (3, .pv (.int .i64 e)), (4, .ref 0 0), (6, .ref 1 0), (8, .ref 2 0), (11, .ref 3 0), (12, .pv (.sl (l.map pairPV))), (13, .pv (.int .i64 c))], fun _ => 4, fun _ => [(0, .var (cellsM m)), (1, .var (cellsA a)), (2, .var cells0), (3, .var (cellsM p))], ?_, ?_⟩
  · (try conv=>whnf);repeat' (first|(apply And.intro<;>try conv=>whnf)|(intro h;first|(with_reducible first|exact tf0 h|exact ft0 h|exact nt0 h|exact nf0 h)|exact litz h rfl|(with_reducible first|exact tf h (by assumption)|exact tf (by assumption) h)|try conv=>whnf)|with_reducible rfl|apply True.intro|((first|apply infoT|apply bleI|apply fitI|apply cellsI|apply szI);rfl)|(apply guardI;kernel_rfl)|(apply WhenQ.mk;(try conv=>whnf);rotate_left;(try conv=>whnf);rotate_right)|(with_reducible first|assumption|(apply not_of;assumption)|(apply left_of;assumption)|(apply left_of;apply left_of;assumption)|(apply and_of<;>first|assumption|(apply not_of;assumption)))|(refine lin_plan (by kernel_rfl) ?_;try conv=>whnf)|(refine ⟨_, _, rfl, idx_map (by with_reducible assumption), rfl, ?_⟩;try conv=>whnf)|(refine ⟨rfl, ?_⟩;try conv=>whnf)|exact Nat.le_refl 1|((first|(apply ex3;(focus with_reducible assumption);(focus with_reducible assumption))|(apply ex2;(focus with_reducible assumption)));try conv=>whnf)|(refine PureFn.dcq (f := 12) rfl ?_;try conv=>whnf)|((refine ⟨_, _, hU, ?_, ?_⟩);(focus (first|(refine ⟨?_, ?_, trivial⟩<;>first|exact PLe.refl _|exact PLe.nil)|exact trivial));try conv=>whnf)|(refine ⟨_, (by (conv=>whnf);exact hU), rfl, ?_⟩;try conv=>whnf)|fail)
    exact ⟨(), (by refine Wk.of ?_ ?_ rfl rfl rfl<;>(repeat' (first|exact trivial|exact WkD.same _|exact WkO.same _ _ rfl|exact WkD.any _|(apply WkD.nil;first|exact Or.inl rfl|exact Or.inr rfl)|(exact WkD.fz _ _ _ rfl (Or.inl ⟨_, rfl⟩) rfl)|(exact WkD.fz _ _ _ rfl (Or.inr rfl) rfl)|refine WkD.int ?_|exact WkD.new' rfl rfl rfl|exact WkO.new _ _ rfl|refine WkO.vars rfl ?_|with_reducible rfl|exact rfl|refine ⟨?_, ?_⟩|((refine wrapA ?_ ?_ ?_);(focus simp;done);(focus (try dsimp only);omega);(focus (try dsimp only);omega))|fail)))⟩
  rintro ⟨⟩
  refine ⟨{ _x : Unit // (c != 0) = false ∧ badW m w = false ∧ badEv a e = false }, fun _ => [(1, .pv (.int .i64 w)), (3, .pv (.int .i64 e)), (8, .ref 2 0), (11, .ref 3 0), (12, .pv (.sl (l.map pairPV)))], fun _ => 4, fun _ => [(2, .var cells0), (3, .var (cellsM p))], ?_, ?_⟩
  · (try conv=>whnf);repeat' (first|(apply And.intro<;>try conv=>whnf)|(intro h;first|(with_reducible first|exact tf0 h|exact ft0 h|exact nt0 h|exact nf0 h)|exact litz h rfl|(with_reducible first|exact tf h (by assumption)|exact tf (by assumption) h)|try conv=>whnf)|with_reducible rfl|apply True.intro|((first|apply infoT|apply bleI|apply fitI|apply cellsI|apply szI);rfl)|(apply guardI;kernel_rfl)|(apply WhenQ.mk;(try conv=>whnf);rotate_left;(try conv=>whnf);rotate_right)|(with_reducible first|assumption|(apply not_of;assumption)|(apply left_of;assumption)|(apply left_of;apply left_of;assumption)|(apply and_of<;>first|assumption|(apply not_of;assumption)))|(refine lin_plan (by kernel_rfl) ?_;try conv=>whnf)|(refine ⟨_, _, rfl, idx_map (by with_reducible assumption), rfl, ?_⟩;try conv=>whnf)|(refine ⟨rfl, ?_⟩;try conv=>whnf)|exact Nat.le_refl 1|((first|(apply ex3;(focus with_reducible assumption);(focus with_reducible assumption))|(apply ex2;(focus with_reducible assumption)));try conv=>whnf)|fail)
    · have h0 : (c != 0) = true := h
      rw [hR, h0]; exact PLe.tups ⟨le_noMo, .refl _, .refl _, trivial⟩
    · rename_i h0
      rw [hR, show (c != 0) = false from h0, show badW m w = true from h]; exact PLe.tups ⟨le_noMo, .refl _, .refl _, trivial⟩
    · rename_i h0 h1
      have h9 : badEv a e = true := by rw [badEv, ← e1]; exact h
      rw [hR, show (c != 0) = false from h0, show badW m w = false from h1, h9]; exact PLe.tups ⟨le_noMo, .refl _, .refl _, trivial⟩
    · rename_i h0 h1
      have h9 : badEv a e = false := by rw [badEv, ← e1]; exact h
      exact ⟨⟨(), h0, h1, h9⟩, (by refine Wk.of ?_ ?_ rfl rfl rfl<;>(repeat' (first|exact trivial|exact WkD.same _|exact WkO.same _ _ rfl|exact WkD.any _|(apply WkD.nil;first|exact Or.inl rfl|exact Or.inr rfl)|(exact WkD.fz _ _ _ rfl (Or.inl ⟨_, rfl⟩) rfl)|(exact WkD.fz _ _ _ rfl (Or.inr rfl) rfl)|refine WkD.int ?_|exact WkD.new' rfl rfl rfl|exact WkO.new _ _ rfl|refine WkO.vars rfl ?_|with_reducible rfl|exact rfl|refine ⟨?_, ?_⟩|((refine wrapA ?_ ?_ ?_);(focus simp;done);(focus (try dsimp only);omega);(focus (try dsimp only);omega))|fail)))⟩
  rintro ⟨_, h0, h1, h2⟩
  rw [h0, h1, h2] at hR
  have hR : R = match l.findIdx? (isP w e) with | none => (noMo, 0, 11) | some i => (p, (i : Int), 0) := hR
  rw [ixP] at hI
  cases hx : l.findIdx? (isP w e) with
  | none =>
    rw [hx] at hI hR
    have hI : PureFn Try.prog 78 [.sl (l.map pairPV), .agg [.int .i64 w, .int .i64 e]] (.int .i64 (-1)) := hI
    rw [hR]
    refine ⟨Unit, fun _ => [(8, .ref 2 0), (11, .ref 3 0), (14, .pv (.int .i64 (-1)))], fun _ => 4, fun _ => [(2, .var cells0), (3, .var (cellsM p))], ?_, ?_⟩
    · (try conv=>whnf);repeat' (first|(apply And.intro<;>try conv=>whnf)|(intro h;first|(with_reducible first|exact tf0 h|exact ft0 h|exact nt0 h|exact nf0 h)|exact litz h rfl|(with_reducible first|exact tf h (by assumption)|exact tf (by assumption) h)|try conv=>whnf)|with_reducible rfl|apply True.intro|((first|apply infoT|apply bleI|apply fitI|apply cellsI|apply szI);rfl)|(apply guardI;kernel_rfl)|(apply WhenQ.mk;(try conv=>whnf);rotate_left;(try conv=>whnf);rotate_right)|(with_reducible first|assumption|(apply not_of;assumption)|(apply left_of;assumption)|(apply left_of;apply left_of;assumption)|(apply and_of<;>first|assumption|(apply not_of;assumption)))|(refine lin_plan (by kernel_rfl) ?_;try conv=>whnf)|(refine ⟨_, _, rfl, idx_map (by with_reducible assumption), rfl, ?_⟩;try conv=>whnf)|(refine ⟨rfl, ?_⟩;try conv=>whnf)|exact Nat.le_refl 1|((first|(apply ex3;(focus with_reducible assumption);(focus with_reducible assumption))|(apply ex2;(focus with_reducible assumption)));try conv=>whnf)|(refine PureFn.dcq (f := 78) rfl ?_;try conv=>whnf)|((refine ⟨_, _, hI, ?_, ?_⟩);(focus (first|(refine ⟨?_, ?_, trivial⟩<;>first|exact PLe.refl _|exact PLe.nil)|exact trivial));try conv=>whnf)|(refine ⟨_, (by (conv=>whnf);exact hI), rfl, ?_⟩;try conv=>whnf)|fail)
      exact ⟨(), (by refine Wk.of ?_ ?_ rfl rfl rfl<;>(repeat' (first|exact trivial|exact WkD.same _|exact WkO.same _ _ rfl|exact WkD.any _|(apply WkD.nil;first|exact Or.inl rfl|exact Or.inr rfl)|(exact WkD.fz _ _ _ rfl (Or.inl ⟨_, rfl⟩) rfl)|(exact WkD.fz _ _ _ rfl (Or.inr rfl) rfl)|refine WkD.int ?_|exact WkD.new' rfl rfl rfl|exact WkO.new _ _ rfl|refine WkO.vars rfl ?_|with_reducible rfl|exact rfl|refine ⟨?_, ?_⟩|((refine wrapA ?_ ?_ ?_);(focus simp;done);(focus (try dsimp only);omega);(focus (try dsimp only);omega))|fail)))⟩
    rintro ⟨⟩
    (try conv=>whnf);repeat' (first|(apply And.intro<;>try conv=>whnf)|(intro h;first|(with_reducible first|exact tf0 h|exact ft0 h|exact nt0 h|exact nf0 h)|exact litz h rfl|(with_reducible first|exact tf h (by assumption)|exact tf (by assumption) h)|try conv=>whnf)|with_reducible rfl|apply True.intro|((first|apply infoT|apply bleI|apply fitI|apply cellsI|apply szI);rfl)|(apply guardI;kernel_rfl)|(apply WhenQ.mk;(try conv=>whnf);rotate_left;(try conv=>whnf);rotate_right)|(with_reducible first|assumption|(apply not_of;assumption)|(apply left_of;assumption)|(apply left_of;apply left_of;assumption)|(apply and_of<;>first|assumption|(apply not_of;assumption)))|(refine lin_plan (by kernel_rfl) ?_;try conv=>whnf)|(refine ⟨_, _, rfl, idx_map (by with_reducible assumption), rfl, ?_⟩;try conv=>whnf)|(refine ⟨rfl, ?_⟩;try conv=>whnf)|exact Nat.le_refl 1|((first|(apply ex3;(focus with_reducible assumption);(focus with_reducible assumption))|(apply ex2;(focus with_reducible assumption)));try conv=>whnf)|fail)
    · exact PLe.tups ⟨le_noMo, .refl _, .refl _, trivial⟩
    · simp at h
  | some i =>
    rw [hx] at hI hR
    have hI : PureFn Try.prog 78 [.sl (l.map pairPV), .agg [.int .i64 w, .int .i64 e]] (.int .i64 (i : Nat)) := hI
    rw [hR]
    refine ⟨Unit, fun _ => [(8, .ref 2 0), (11, .ref 3 0), (14, .pv (i64 i))], fun _ => 4, fun _ => [(2, .var cells0), (3, .var (cellsM p))], ?_, ?_⟩
    · (try conv=>whnf);repeat' (first|(apply And.intro<;>try conv=>whnf)|(intro h;first|(with_reducible first|exact tf0 h|exact ft0 h|exact nt0 h|exact nf0 h)|exact litz h rfl|(with_reducible first|exact tf h (by assumption)|exact tf (by assumption) h)|try conv=>whnf)|with_reducible rfl|apply True.intro|((first|apply infoT|apply bleI|apply fitI|apply cellsI|apply szI);rfl)|(apply guardI;kernel_rfl)|(apply WhenQ.mk;(try conv=>whnf);rotate_left;(try conv=>whnf);rotate_right)|(with_reducible first|assumption|(apply not_of;assumption)|(apply left_of;assumption)|(apply left_of;apply left_of;assumption)|(apply and_of<;>first|assumption|(apply not_of;assumption)))|(refine lin_plan (by kernel_rfl) ?_;try conv=>whnf)|(refine ⟨_, _, rfl, idx_map (by with_reducible assumption), rfl, ?_⟩;try conv=>whnf)|(refine ⟨rfl, ?_⟩;try conv=>whnf)|exact Nat.le_refl 1|((first|(apply ex3;(focus with_reducible assumption);(focus with_reducible assumption))|(apply ex2;(focus with_reducible assumption)));try conv=>whnf)|(refine PureFn.dcq (f := 78) rfl ?_;try conv=>whnf)|((refine ⟨_, _, hI, ?_, ?_⟩);(focus (first|(refine ⟨?_, ?_, trivial⟩<;>first|exact PLe.refl _|exact PLe.nil)|exact trivial));try conv=>whnf)|(refine ⟨_, (by (conv=>whnf);exact hI), rfl, ?_⟩;try conv=>whnf)|fail)
      exact ⟨(), (by refine Wk.of ?_ ?_ rfl rfl rfl<;>(repeat' (first|exact trivial|exact WkD.same _|exact WkO.same _ _ rfl|exact WkD.any _|(apply WkD.nil;first|exact Or.inl rfl|exact Or.inr rfl)|(exact WkD.fz _ _ _ rfl (Or.inl ⟨_, rfl⟩) rfl)|(exact WkD.fz _ _ _ rfl (Or.inr rfl) rfl)|refine WkD.int ?_|exact WkD.new' rfl rfl rfl|exact WkO.new _ _ rfl|refine WkO.vars rfl ?_|with_reducible rfl|exact rfl|refine ⟨?_, ?_⟩|((refine wrapA ?_ ?_ ?_);(focus simp;done);(focus (try dsimp only);omega);(focus (try dsimp only);omega))|fail)))⟩
    rintro ⟨⟩
    (try conv=>whnf);repeat' (first|(apply And.intro<;>try conv=>whnf)|(intro h;first|(with_reducible first|exact tf0 h|exact ft0 h|exact nt0 h|exact nf0 h)|exact litz h rfl|(with_reducible first|exact tf h (by assumption)|exact tf (by assumption) h)|try conv=>whnf)|with_reducible rfl|apply True.intro|((first|apply infoT|apply bleI|apply fitI|apply cellsI|apply szI);rfl)|(apply guardI;kernel_rfl)|(apply WhenQ.mk;(try conv=>whnf);rotate_left;(try conv=>whnf);rotate_right)|(with_reducible first|assumption|(apply not_of;assumption)|(apply left_of;assumption)|(apply left_of;apply left_of;assumption)|(apply and_of<;>first|assumption|(apply not_of;assumption)))|(refine lin_plan (by kernel_rfl) ?_;try conv=>whnf)|(refine ⟨_, _, rfl, idx_map (by with_reducible assumption), rfl, ?_⟩;try conv=>whnf)|(refine ⟨rfl, ?_⟩;try conv=>whnf)|exact Nat.le_refl 1|((first|(apply ex3;(focus with_reducible assumption);(focus with_reducible assumption))|(apply ex2;(focus with_reducible assumption)));try conv=>whnf)|fail)
    · have := of_decide_eq_true h
      omega
    · exact .refl _
end Go.Proofs.Ytnbnkgcjgfmlcaa
set_option maxRecDepth 100000
set_option maxHeartbeats 4000000
namespace Go.Proofs.Ytnbnkgcjgfmlcaa
open Go Go.Dv

def exN : Mo := ⟨2, [1], [[3, 3], [3, 3]]⟩
def exX : Act := ⟨[[nI 3 0], [nI 3 0, n0 4]], [[], []], [[1, 2], [3, 3]]⟩
def exY : Act := ⟨[[nI 3 0], [nI 3 0, n0 4]], [[⟨0, [nI 3 0, n0 4]⟩], [⟨0, [nI 3 0, n0 4]⟩]], [[1, 2], [3, 3]]⟩
theorem exN_fit : FitM exN := ⟨by intro s hs; simp [exN] at hs; omega, by intro r hr s hs; simp [exN] at hr; subst hr; simp at hs; omega⟩
theorem exX_fit : Fit exX := by intro r hr s hs; simp [exX] at hr; rcases hr with rfl | rfl <;> simp at hs <;> omega
theorem exY_fit : Fit exY := by intro r hr s hs; simp [exY] at hr; rcases hr with rfl | rfl <;> simp at hs <;> omega
theorem exX_post : ∀ l, l ∈ exX.post → l.length ≤ 1000 := by intro l hl; simp [exX] at hl; subst hl; decide
theorem exY_post : ∀ l, l ∈ exY.post → l.length ≤ 1000 := by intro l hl; simp [exY] at hl; subst hl; decide
theorem lp_few (m : Mo) (a : Act) : PureFn Try.prog 10 [m.pv, a.pv] (.bool (bif fewM m 12 then fewI a 16 else false)) := by
  refine PureFn.intro mixed (fn := Try.f10) rfl rfl rfl fun M w0 => ?_
  have h1 := rm_Few m 12
  have h2 := ra_Few a 16
  (try conv=>whnf);repeat' (first|(apply And.intro<;>try conv=>whnf)|(intro h;first|(with_reducible first|exact tf0 h|exact ft0 h|exact nt0 h|exact nf0 h)|exact litz h rfl|(with_reducible first|exact tf h (by assumption)|exact tf (by assumption) h)|try conv=>whnf)|with_reducible rfl|apply True.intro|((first|apply infoT|apply bleI|apply fitI|apply cellsI|apply szI);rfl)|(apply guardI;kernel_rfl)|(apply WhenQ.mk;(try conv=>whnf);rotate_left;(try conv=>whnf);rotate_right)|(with_reducible first|assumption|(apply not_of;assumption)|(apply left_of;assumption)|(apply left_of;apply left_of;assumption)|(apply and_of<;>first|assumption|(apply not_of;assumption)))|(refine lin_plan (by kernel_rfl) ?_;try conv=>whnf)|(refine ⟨_, _, rfl, idx_map (by with_reducible assumption), rfl, ?_⟩;try conv=>whnf)|(refine ⟨rfl, ?_⟩;try conv=>whnf)|exact Nat.le_refl 1|((first|(apply ex3;(focus with_reducible assumption);(focus with_reducible assumption))|(apply ex2;(focus with_reducible assumption)));try conv=>whnf)|(refine PureFn.dcq (f := 19) rfl ?_;try conv=>whnf)|(refine PureFn.dcq (f := 45) rfl ?_;try conv=>whnf)|((refine ⟨_, _, h1, ?_, ?_⟩);(focus (first|(refine ⟨?_, ?_, trivial⟩<;>first|exact PLe.refl _|exact PLe.nil)|exact trivial));try conv=>whnf)|(refine ⟨_, (by (conv=>whnf);exact h1), rfl, ?_⟩;try conv=>whnf)|((refine ⟨_, _, h2, ?_, ?_⟩);(focus (first|(refine ⟨?_, ?_, trivial⟩<;>first|exact PLe.refl _|exact PLe.nil)|exact trivial));try conv=>whnf)|(refine ⟨_, (by (conv=>whnf);exact h2), rfl, ?_⟩;try conv=>whnf)|fail)
  exact .refl _
def exPlan : Plan := .one 0 (.two 1 (.one 2 (.one 3 .done)) 2 (.one 1 (.one 3 .done)))
theorem lp_example : PureFn Try.prog 46 [] (.tup [exN.pv, exX.pv]) := by
  refine PureFn.intro mixed (fn := Try.f46) rfl rfl rfl fun M w0 => ?_
  (try conv=>whnf);repeat' (first|(apply And.intro<;>try conv=>whnf)|(intro h;first|(with_reducible first|exact tf0 h|exact ft0 h|exact nt0 h|exact nf0 h)|exact litz h rfl|(with_reducible first|exact tf h (by assumption)|exact tf (by assumption) h)|try conv=>whnf)|with_reducible rfl|apply True.intro|((first|apply infoT|apply bleI|apply fitI|apply cellsI|apply szI);rfl)|(apply guardI;kernel_rfl)|(apply WhenQ.mk;(try conv=>whnf);rotate_left;(try conv=>whnf);rotate_right)|(with_reducible first|assumption|(apply not_of;assumption)|(apply left_of;assumption)|(apply left_of;apply left_of;assumption)|(apply and_of<;>first|assumption|(apply not_of;assumption)))|(refine ⟨_, _, rfl, idx_map (by with_reducible assumption), rfl, ?_⟩;try conv=>whnf)|(refine ⟨rfl, ?_⟩;try conv=>whnf)|exact Nat.le_refl 1|((first|(apply ex3;(focus with_reducible assumption);(focus with_reducible assumption))|(apply ex2;(focus with_reducible assumption)));try conv=>whnf)|fail)
  refine ⟨exPlan, [], by kernel_rfl, ?_⟩
  (try conv=>whnf);repeat' (first|(apply And.intro<;>try conv=>whnf)|(intro h;first|(with_reducible first|exact tf0 h|exact ft0 h|exact nt0 h|exact nf0 h)|exact litz h rfl|(with_reducible first|exact tf h (by assumption)|exact tf (by assumption) h)|try conv=>whnf)|with_reducible rfl|apply True.intro|((first|apply infoT|apply bleI|apply fitI|apply cellsI|apply szI);rfl)|(apply guardI;kernel_rfl)|(apply WhenQ.mk;(try conv=>whnf);rotate_left;(try conv=>whnf);rotate_right)|(with_reducible first|assumption|(apply not_of;assumption)|(apply left_of;assumption)|(apply left_of;apply left_of;assumption)|(apply and_of<;>first|assumption|(apply not_of;assumption)))|(refine lin_plan (by kernel_rfl) ?_;try conv=>whnf)|(refine ⟨_, _, rfl, idx_map (by with_reducible assumption), rfl, ?_⟩;try conv=>whnf)|(refine ⟨rfl, ?_⟩;try conv=>whnf)|exact Nat.le_refl 1|((first|(apply ex3;(focus with_reducible assumption);(focus with_reducible assumption))|(apply ex2;(focus with_reducible assumption)));try conv=>whnf)|fail)
  all_goals exact PLe.tups ⟨.refl _, PLe.aggs ⟨.refl _, PLe.sls ⟨.nil, .nil, trivial⟩, .refl _, trivial⟩, trivial⟩
theorem lp_awake : PureFn Try.prog 11 [] (.bool true) := by
  have hE := lp_example
  have u1 := (pr_Update exN exX exN_fit exX_fit (by decide) exX_post).to (q := .tup [.agg [.int .i64 2, .sl [u64 1], .sl [rowPV [1, 2], rowPV [3, 3]]], .sl [.agg [i64 0, i64 0], .agg [i64 1, i64 1]], .int .i64 0]) (by kernel_rfl)
  have a1 := (pr_At exN 1 exY 1 exN_fit exY_fit (by decide) exY_post).to (q := .tup [.agg [.int .i64 2, .sl [u64 2], .sl [rowPV [1, 2], rowPV [3, 3]]], .int .i64 1, .int .i64 0]) (by kernel_rfl)
  have a0 := (pr_At exN 1 exY 0 exN_fit exY_fit (by decide) exY_post).to (q := .tup [.agg [.int .i64 0, .sl [], .sl []], .int .i64 0, .int .i64 11]) (by kernel_rfl)
  have e1 : PureFn Try.prog 47 [.sl [.agg [i64 0, i64 0], .agg [i64 1, i64 1]], .sl [.agg [i64 0, i64 0], .agg [i64 1, i64 1]]] (.bool true) := (sl_EqP [(0, 0), (1, 1)] (by decide)).to (by kernel_rfl)
  have s1 : PureFn Try.prog 22 [.agg [.int .i64 2, .sl [u64 1], .sl [rowPV [1, 2], rowPV [3, 3]]], .agg [.int .i64 2, .sl [u64 1], .sl [rowPV [1, 2], rowPV [3, 3]]]] (.bool true) := (rm_Same ⟨2, [1], [[1, 2], [3, 3]]⟩ (by decide) (by decide) (by decide)).to (by kernel_rfl)
  refine PureFn.introC [2, 3, 5, 6, 7, 8, 9] mixed (fn := Try.f11) rfl rfl rfl fun M w0 => ?_
  (try conv=>whnf);repeat' (first|(apply And.intro<;>try conv=>whnf)|(intro h;first|(with_reducible first|exact tf0 h|exact ft0 h|exact nt0 h|exact nf0 h)|exact litz h rfl|(with_reducible first|exact tf h (by assumption)|exact tf (by assumption) h)|try conv=>whnf)|with_reducible rfl|apply True.intro|((first|apply infoT|apply bleI|apply fitI|apply cellsI|apply szI);rfl)|(apply guardI;kernel_rfl)|(apply WhenQ.mk;(try conv=>whnf);rotate_left;(try conv=>whnf);rotate_right)|(with_reducible first|assumption|(apply not_of;assumption)|(apply left_of;assumption)|(apply left_of;apply left_of;assumption)|(apply and_of<;>first|assumption|(apply not_of;assumption)))|(refine lin_plan (by kernel_rfl) ?_;try conv=>whnf)|(refine ⟨_, _, rfl, idx_map (by with_reducible assumption), rfl, ?_⟩;try conv=>whnf)|(refine ⟨rfl, ?_⟩;try conv=>whnf)|exact Nat.le_refl 1|((first|(apply ex3;(focus with_reducible assumption);(focus with_reducible assumption))|(apply ex2;(focus with_reducible assumption)));try conv=>whnf)|fail)
  refine ⟨Unit, fun _ => [(1, .ref 0 0), (2, .ref 1 0)], fun _ => 2, fun _ => [(0, .var [.pv (.int .i64 2), .pv (.sl [u64 1]), .pv (.sl [rowPV [3, 3], rowPV [3, 3]])]), (1, .var [.pv (.sl [fpv [nI 3 0], fpv [nI 3 0, n0 4]]), .pv (.sl [.sl [], .sl []]), .pv (.sl [rowPV [1, 2], rowPV [3, 3]])])], ?_, ?_⟩
  · (try conv=>whnf);repeat' (first|(apply And.intro<;>try conv=>whnf)|(intro h;first|(with_reducible first|exact tf0 h|exact ft0 h|exact nt0 h|exact nf0 h)|exact litz h rfl|(with_reducible first|exact tf h (by assumption)|exact tf (by assumption) h)|try conv=>whnf)|with_reducible rfl|apply True.intro|((first|apply infoT|apply bleI|apply fitI|apply cellsI|apply szI);rfl)|(apply guardI;kernel_rfl)|(apply WhenQ.mk;(try conv=>whnf);rotate_left;(try conv=>whnf);rotate_right)|(with_reducible first|assumption|(apply not_of;assumption)|(apply left_of;assumption)|(apply left_of;apply left_of;assumption)|(apply and_of<;>first|assumption|(apply not_of;assumption)))|(refine lin_plan (by kernel_rfl) ?_;try conv=>whnf)|(refine ⟨_, _, rfl, idx_map (by with_reducible assumption), rfl, ?_⟩;try conv=>whnf)|(refine ⟨rfl, ?_⟩;try conv=>whnf)|exact Nat.le_refl 1|((first|(apply ex3;(focus with_reducible assumption);(focus with_reducible assumption))|(apply ex2;(focus with_reducible assumption)));try conv=>whnf)|(refine PureFn.dcq (f := 46) rfl ?_;try conv=>whnf)|((refine ⟨_, _, hE, ?_, ?_⟩);(focus (first|(refine ⟨trivial⟩<;>first|exact PLe.refl _|exact PLe.nil)|exact trivial));try conv=>whnf)|(refine ⟨_, (by (conv=>whnf);exact hE), rfl, ?_⟩;try conv=>whnf)|fail)
    exact ⟨(), (by refine Wk.of ?_ ?_ rfl rfl rfl<;>(repeat' (first|exact trivial|exact WkD.same _|exact WkO.same _ _ rfl|exact WkD.any _|(apply WkD.nil;first|exact Or.inl rfl|exact Or.inr rfl)|(exact WkD.fz _ _ _ rfl (Or.inl ⟨_, rfl⟩) rfl)|(exact WkD.fz _ _ _ rfl (Or.inr rfl) rfl)|refine WkD.int ?_|exact WkD.new' rfl rfl rfl|exact WkO.new _ _ rfl|refine WkO.vars rfl ?_|with_reducible rfl|exact rfl|refine ⟨?_, ?_⟩|((refine wrapA ?_ ?_ ?_);(focus simp;done);(focus (try dsimp only);omega);(focus (try dsimp only);omega))|fail)))⟩
  rintro ⟨⟩
  refine ⟨Unit, fun _ => [(1, .ref 0 0), (2, .ref 1 0), (3, .ref 2 0), (4, .pv (.sl [.agg [i64 0, i64 0], .agg [i64 1, i64 1]])), (5, .pv (.int .i64 0))], fun _ => 3, fun _ => [(0, .var [.pv (.int .i64 2), .pv (.sl [u64 1]), .pv (.sl [rowPV [3, 3], rowPV [3, 3]])]), (1, .var [.pv (.sl [fpv [nI 3 0], fpv [nI 3 0, n0 4]]), .pv (.sl [.sl [], .sl []]), .pv (.sl [rowPV [1, 2], rowPV [3, 3]])]), (2, .var [.pv (.int .i64 2), .pv (.sl [u64 1]), .pv (.sl [rowPV [1, 2], rowPV [3, 3]])])], ?_, ?_⟩
  · (try conv=>whnf);repeat' (first|(apply And.intro<;>try conv=>whnf)|(intro h;first|(with_reducible first|exact tf0 h|exact ft0 h|exact nt0 h|exact nf0 h)|exact litz h rfl|(with_reducible first|exact tf h (by assumption)|exact tf (by assumption) h)|try conv=>whnf)|with_reducible rfl|apply True.intro|((first|apply infoT|apply bleI|apply fitI|apply cellsI|apply szI);rfl)|(apply guardI;kernel_rfl)|(apply WhenQ.mk;(try conv=>whnf);rotate_left;(try conv=>whnf);rotate_right)|(with_reducible first|assumption|(apply not_of;assumption)|(apply left_of;assumption)|(apply left_of;apply left_of;assumption)|(apply and_of<;>first|assumption|(apply not_of;assumption)))|(refine lin_plan (by kernel_rfl) ?_;try conv=>whnf)|(refine ⟨_, _, rfl, idx_map (by with_reducible assumption), rfl, ?_⟩;try conv=>whnf)|(refine ⟨rfl, ?_⟩;try conv=>whnf)|exact Nat.le_refl 1|((first|(apply ex3;(focus with_reducible assumption);(focus with_reducible assumption))|(apply ex2;(focus with_reducible assumption)));try conv=>whnf)|(refine PureFn.dcq (f := 12) rfl ?_;try conv=>whnf)|((refine ⟨_, _, u1, ?_, ?_⟩);(focus (first|(refine ⟨?_, ?_, trivial⟩<;>first|exact PLe.refl _|exact PLe.nil)|exact trivial));try conv=>whnf)|(refine ⟨_, (by (conv=>whnf);exact u1), rfl, ?_⟩;try conv=>whnf)|fail)
    exact ⟨(), (by refine Wk.of ?_ ?_ rfl rfl rfl<;>(repeat' (first|exact trivial|exact WkD.same _|exact WkO.same _ _ rfl|exact WkD.any _|(apply WkD.nil;first|exact Or.inl rfl|exact Or.inr rfl)|(exact WkD.fz _ _ _ rfl (Or.inl ⟨_, rfl⟩) rfl)|(exact WkD.fz _ _ _ rfl (Or.inr rfl) rfl)|refine WkD.int ?_|exact WkD.new' rfl rfl rfl|exact WkO.new _ _ rfl|refine WkO.vars rfl ?_|with_reducible rfl|exact rfl|refine ⟨?_, ?_⟩|((refine wrapA ?_ ?_ ?_);(focus simp;done);(focus (try dsimp only);omega);(focus (try dsimp only);omega))|fail)))⟩
  rintro ⟨⟩
  refine ⟨Unit, fun _ => [(1, .ref 0 0), (2, .ref 1 0)], fun _ => 2, fun _ => [(0, .var [.pv (.int .i64 2), .pv (.sl [u64 1]), .pv (.sl [rowPV [3, 3], rowPV [3, 3]])]), (1, .var [.pv (.sl [fpv [nI 3 0], fpv [nI 3 0, n0 4]]), .pv (.sl [.sl [], .sl []]), .pv (.sl [rowPV [1, 2], rowPV [3, 3]])])], ?_, ?_⟩
  · (try conv=>whnf);repeat' (first|(apply And.intro<;>try conv=>whnf)|(intro h;first|(with_reducible first|exact tf0 h|exact ft0 h|exact nt0 h|exact nf0 h)|exact litz h rfl|(with_reducible first|exact tf h (by assumption)|exact tf (by assumption) h)|try conv=>whnf)|with_reducible rfl|apply True.intro|((first|apply infoT|apply bleI|apply fitI|apply cellsI|apply szI);rfl)|(apply guardI;kernel_rfl)|(apply WhenQ.mk;(try conv=>whnf);rotate_left;(try conv=>whnf);rotate_right)|(with_reducible first|assumption|(apply not_of;assumption)|(apply left_of;assumption)|(apply left_of;apply left_of;assumption)|(apply and_of<;>first|assumption|(apply not_of;assumption)))|(refine lin_plan (by kernel_rfl) ?_;try conv=>whnf)|(refine ⟨_, _, rfl, idx_map (by with_reducible assumption), rfl, ?_⟩;try conv=>whnf)|(refine ⟨rfl, ?_⟩;try conv=>whnf)|exact Nat.le_refl 1|((first|(apply ex3;(focus with_reducible assumption);(focus with_reducible assumption))|(apply ex2;(focus with_reducible assumption)));try conv=>whnf)|(refine PureFn.dcq (f := 47) rfl ?_;try conv=>whnf)|(refine PureFn.dcq (f := 22) rfl ?_;try conv=>whnf)|((refine ⟨_, _, e1, ?_, ?_⟩);(focus (first|(refine ⟨?_, ?_, trivial⟩<;>first|exact PLe.refl _|exact PLe.nil)|exact trivial));try conv=>whnf)|(refine ⟨_, (by (conv=>whnf);exact e1), rfl, ?_⟩;try conv=>whnf)|((refine ⟨_, _, s1, ?_, ?_⟩);(focus (first|(refine ⟨?_, ?_, trivial⟩<;>first|exact PLe.refl _|exact PLe.nil)|exact trivial));try conv=>whnf)|(refine ⟨_, (by (conv=>whnf);exact s1), rfl, ?_⟩;try conv=>whnf)|fail)
    · exact absurd h (by decide)
    · exact ⟨(), (by refine Wk.of ?_ ?_ rfl rfl rfl<;>(repeat' (first|exact trivial|exact WkD.same _|exact WkO.same _ _ rfl|exact WkD.any _|(apply WkD.nil;first|exact Or.inl rfl|exact Or.inr rfl)|(exact WkD.fz _ _ _ rfl (Or.inl ⟨_, rfl⟩) rfl)|(exact WkD.fz _ _ _ rfl (Or.inr rfl) rfl)|refine WkD.int ?_|exact WkD.new' rfl rfl rfl|exact WkO.new _ _ rfl|refine WkO.vars rfl ?_|with_reducible rfl|exact rfl|refine ⟨?_, ?_⟩|((refine wrapA ?_ ?_ ?_);(focus simp;done);(focus (try dsimp only);omega);(focus (try dsimp only);omega))|fail)))⟩
  rintro ⟨⟩
  refine ⟨Unit, fun _ => [(1, .ref 0 0), (2, .ref 1 0), (6, .pv (fpv [nI 3 0, n0 4]))], fun _ => 2, fun _ => [(0, .var [.pv (.int .i64 2), .pv (.sl [u64 1]), .pv (.sl [rowPV [3, 3], rowPV [3, 3]])]), (1, .var [.pv (.sl [fpv [nI 3 0], fpv [nI 3 0, n0 4]]), .pv (.sl [.sl [], .sl []]), .pv (.sl [rowPV [1, 2], rowPV [3, 3]])])], ?_, ?_⟩
  · (try conv=>whnf);repeat' (first|(apply And.intro<;>try conv=>whnf)|(intro h;first|(with_reducible first|exact tf0 h|exact ft0 h|exact nt0 h|exact nf0 h)|exact litz h rfl|(with_reducible first|exact tf h (by assumption)|exact tf (by assumption) h)|try conv=>whnf)|with_reducible rfl|apply True.intro|((first|apply infoT|apply bleI|apply fitI|apply cellsI|apply szI);rfl)|(apply guardI;kernel_rfl)|(apply WhenQ.mk;(try conv=>whnf);rotate_left;(try conv=>whnf);rotate_right)|(with_reducible first|assumption|(apply not_of;assumption)|(apply left_of;assumption)|(apply left_of;apply left_of;assumption)|(apply and_of<;>first|assumption|(apply not_of;assumption)))|(refine lin_plan (by kernel_rfl) ?_;try conv=>whnf)|(refine ⟨_, _, rfl, idx_map (by with_reducible assumption), rfl, ?_⟩;try conv=>whnf)|(refine ⟨rfl, ?_⟩;try conv=>whnf)|exact Nat.le_refl 1|((first|(apply ex3;(focus with_reducible assumption);(focus with_reducible assumption))|(apply ex2;(focus with_reducible assumption)));try conv=>whnf)|fail)
    exact ⟨(), (by refine Wk.of ?_ ?_ rfl rfl rfl<;>(repeat' (first|exact trivial|exact WkD.same _|exact WkO.same _ _ rfl|exact WkD.any _|(apply WkD.nil;first|exact Or.inl rfl|exact Or.inr rfl)|(exact WkD.fz _ _ _ rfl (Or.inl ⟨_, rfl⟩) rfl)|(exact WkD.fz _ _ _ rfl (Or.inr rfl) rfl)|refine WkD.int ?_|exact WkD.new' rfl rfl rfl|exact WkO.new _ _ rfl|refine WkO.vars rfl ?_|with_reducible rfl|exact rfl|refine ⟨?_, ?_⟩|((refine wrapA ?_ ?_ ?_);(focus simp;done);(focus (try dsimp only);omega);(focus (try dsimp only);omega))|fail)))⟩
  rintro ⟨⟩
  refine ⟨Unit, fun _ => [(1, .ref 0 0), (2, .ref 1 0)], fun _ => 2, fun _ => [(0, .var [.pv (.int .i64 2), .pv (.sl [u64 1]), .pv (.sl [rowPV [3, 3], rowPV [3, 3]])]), (1, .var [.pv (.sl [fpv [nI 3 0], fpv [nI 3 0, n0 4]]), .pv (.sl [.sl [.agg [i64 0, fpv [nI 3 0, n0 4]]], .sl [.agg [i64 0, fpv [nI 3 0, n0 4]]]]), .pv (.sl [rowPV [1, 2], rowPV [3, 3]])])], ?_, ?_⟩
  · (try conv=>whnf);repeat' (first|(apply And.intro<;>try conv=>whnf)|(intro h;first|(with_reducible first|exact tf0 h|exact ft0 h|exact nt0 h|exact nf0 h)|exact litz h rfl|(with_reducible first|exact tf h (by assumption)|exact tf (by assumption) h)|try conv=>whnf)|with_reducible rfl|apply True.intro|((first|apply infoT|apply bleI|apply fitI|apply cellsI|apply szI);rfl)|(apply guardI;kernel_rfl)|(apply WhenQ.mk;(try conv=>whnf);rotate_left;(try conv=>whnf);rotate_right)|(with_reducible first|assumption|(apply not_of;assumption)|(apply left_of;assumption)|(apply left_of;apply left_of;assumption)|(apply and_of<;>first|assumption|(apply not_of;assumption)))|(refine lin_plan (by kernel_rfl) ?_;try conv=>whnf)|(refine ⟨_, _, rfl, idx_map (by with_reducible assumption), rfl, ?_⟩;try conv=>whnf)|(refine ⟨rfl, ?_⟩;try conv=>whnf)|exact Nat.le_refl 1|((first|(apply ex3;(focus with_reducible assumption);(focus with_reducible assumption))|(apply ex2;(focus with_reducible assumption)));try conv=>whnf)|fail)
    exact ⟨(), (by refine Wk.of ?_ ?_ rfl rfl rfl<;>(repeat' (first|exact trivial|exact WkD.same _|exact WkO.same _ _ rfl|exact WkD.any _|(apply WkD.nil;first|exact Or.inl rfl|exact Or.inr rfl)|(exact WkD.fz _ _ _ rfl (Or.inl ⟨_, rfl⟩) rfl)|(exact WkD.fz _ _ _ rfl (Or.inr rfl) rfl)|refine WkD.int ?_|exact WkD.new' rfl rfl rfl|exact WkO.new _ _ rfl|refine WkO.vars rfl ?_|with_reducible rfl|exact rfl|refine ⟨?_, ?_⟩|((refine wrapA ?_ ?_ ?_);(focus simp;done);(focus (try dsimp only);omega);(focus (try dsimp only);omega))|fail)))⟩
  rintro ⟨⟩
  refine ⟨Unit, fun _ => [(1, .ref 0 0), (2, .ref 1 0), (7, .ref 2 0), (8, .pv (.int .i64 1)), (9, .pv (.int .i64 0))], fun _ => 3, fun _ => [(0, .var [.pv (.int .i64 2), .pv (.sl [u64 1]), .pv (.sl [rowPV [3, 3], rowPV [3, 3]])]), (1, .var [.pv (.sl [fpv [nI 3 0], fpv [nI 3 0, n0 4]]), .pv (.sl [.sl [.agg [i64 0, fpv [nI 3 0, n0 4]]], .sl [.agg [i64 0, fpv [nI 3 0, n0 4]]]]), .pv (.sl [rowPV [1, 2], rowPV [3, 3]])]), (2, .var [.pv (.int .i64 2), .pv (.sl [u64 2]), .pv (.sl [rowPV [1, 2], rowPV [3, 3]])])], ?_, ?_⟩
  · (try conv=>whnf);repeat' (first|(apply And.intro<;>try conv=>whnf)|(intro h;first|(with_reducible first|exact tf0 h|exact ft0 h|exact nt0 h|exact nf0 h)|exact litz h rfl|(with_reducible first|exact tf h (by assumption)|exact tf (by assumption) h)|try conv=>whnf)|with_reducible rfl|apply True.intro|((first|apply infoT|apply bleI|apply fitI|apply cellsI|apply szI);rfl)|(apply guardI;kernel_rfl)|(apply WhenQ.mk;(try conv=>whnf);rotate_left;(try conv=>whnf);rotate_right)|(with_reducible first|assumption|(apply not_of;assumption)|(apply left_of;assumption)|(apply left_of;apply left_of;assumption)|(apply and_of<;>first|assumption|(apply not_of;assumption)))|(refine lin_plan (by kernel_rfl) ?_;try conv=>whnf)|(refine ⟨_, _, rfl, idx_map (by with_reducible assumption), rfl, ?_⟩;try conv=>whnf)|(refine ⟨rfl, ?_⟩;try conv=>whnf)|exact Nat.le_refl 1|((first|(apply ex3;(focus with_reducible assumption);(focus with_reducible assumption))|(apply ex2;(focus with_reducible assumption)));try conv=>whnf)|(refine PureFn.dcq (f := 48) rfl ?_;try conv=>whnf)|((refine ⟨_, _, a1, ?_, ?_⟩);(focus (first|(refine ⟨?_, ?_, ?_, ?_, trivial⟩<;>first|exact PLe.refl _|exact PLe.nil)|exact trivial));try conv=>whnf)|(refine ⟨_, (by (conv=>whnf);exact a1), rfl, ?_⟩;try conv=>whnf)|fail)
    exact ⟨(), (by refine Wk.of ?_ ?_ rfl rfl rfl<;>(repeat' (first|exact trivial|exact WkD.same _|exact WkO.same _ _ rfl|exact WkD.any _|(apply WkD.nil;first|exact Or.inl rfl|exact Or.inr rfl)|(exact WkD.fz _ _ _ rfl (Or.inl ⟨_, rfl⟩) rfl)|(exact WkD.fz _ _ _ rfl (Or.inr rfl) rfl)|refine WkD.int ?_|exact WkD.new' rfl rfl rfl|exact WkO.new _ _ rfl|refine WkO.vars rfl ?_|with_reducible rfl|exact rfl|refine ⟨?_, ?_⟩|((refine wrapA ?_ ?_ ?_);(focus simp;done);(focus (try dsimp only);omega);(focus (try dsimp only);omega))|fail)))⟩
  rintro ⟨⟩
  refine ⟨Unit, fun _ => [(7, .ref 2 0), (8, .pv (.int .i64 1)), (9, .pv (.int .i64 0)), (12, .pv (.int .i64 11))], fun _ => 3, fun _ => [(2, .var [.pv (.int .i64 2), .pv (.sl [u64 2]), .pv (.sl [rowPV [1, 2], rowPV [3, 3]])])], ?_, ?_⟩
  · (try conv=>whnf);repeat' (first|(apply And.intro<;>try conv=>whnf)|(intro h;first|(with_reducible first|exact tf0 h|exact ft0 h|exact nt0 h|exact nf0 h)|exact litz h rfl|(with_reducible first|exact tf h (by assumption)|exact tf (by assumption) h)|try conv=>whnf)|with_reducible rfl|apply True.intro|((first|apply infoT|apply bleI|apply fitI|apply cellsI|apply szI);rfl)|(apply guardI;kernel_rfl)|(apply WhenQ.mk;(try conv=>whnf);rotate_left;(try conv=>whnf);rotate_right)|(with_reducible first|assumption|(apply not_of;assumption)|(apply left_of;assumption)|(apply left_of;apply left_of;assumption)|(apply and_of<;>first|assumption|(apply not_of;assumption)))|(refine lin_plan (by kernel_rfl) ?_;try conv=>whnf)|(refine ⟨_, _, rfl, idx_map (by with_reducible assumption), rfl, ?_⟩;try conv=>whnf)|(refine ⟨rfl, ?_⟩;try conv=>whnf)|exact Nat.le_refl 1|((first|(apply ex3;(focus with_reducible assumption);(focus with_reducible assumption))|(apply ex2;(focus with_reducible assumption)));try conv=>whnf)|(refine PureFn.dcq (f := 48) rfl ?_;try conv=>whnf)|((refine ⟨_, _, a0, ?_, ?_⟩);(focus (first|(refine ⟨?_, ?_, ?_, ?_, trivial⟩<;>first|exact PLe.refl _|exact PLe.nil)|exact trivial));try conv=>whnf)|(refine ⟨_, (by (conv=>whnf);exact a0), rfl, ?_⟩;try conv=>whnf)|fail)
    exact ⟨(), (by refine Wk.of ?_ ?_ rfl rfl rfl<;>(repeat' (first|exact trivial|exact WkD.same _|exact WkO.same _ _ rfl|exact WkD.any _|(apply WkD.nil;first|exact Or.inl rfl|exact Or.inr rfl)|(exact WkD.fz _ _ _ rfl (Or.inl ⟨_, rfl⟩) rfl)|(exact WkD.fz _ _ _ rfl (Or.inr rfl) rfl)|refine WkD.int ?_|exact WkD.new' rfl rfl rfl|exact WkO.new _ _ rfl|refine WkO.vars rfl ?_|with_reducible rfl|exact rfl|refine ⟨?_, ?_⟩|((refine wrapA ?_ ?_ ?_);(focus simp;done);(focus (try dsimp only);omega);(focus (try dsimp only);omega))|fail)))⟩
  rintro ⟨⟩
  (try conv=>whnf);repeat' (first|(apply And.intro<;>try conv=>whnf)|(intro h;first|(with_reducible first|exact tf0 h|exact ft0 h|exact nt0 h|exact nf0 h)|exact litz h rfl|(with_reducible first|exact tf h (by assumption)|exact tf (by assumption) h)|try conv=>whnf)|with_reducible rfl|apply True.intro|((first|apply infoT|apply bleI|apply fitI|apply cellsI|apply szI);rfl)|(apply guardI;kernel_rfl)|(apply WhenQ.mk;(try conv=>whnf);rotate_left;(try conv=>whnf);rotate_right)|(with_reducible first|assumption|(apply not_of;assumption)|(apply left_of;assumption)|(apply left_of;apply left_of;assumption)|(apply and_of<;>first|assumption|(apply not_of;assumption)))|(refine lin_plan (by kernel_rfl) ?_;try conv=>whnf)|(refine ⟨_, _, rfl, idx_map (by with_reducible assumption), rfl, ?_⟩;try conv=>whnf)|(refine ⟨rfl, ?_⟩;try conv=>whnf)|exact Nat.le_refl 1|((first|(apply ex3;(focus with_reducible assumption);(focus with_reducible assumption))|(apply ex2;(focus with_reducible assumption)));try conv=>whnf)|(refine ⟨0, _, rfl, rfl, rfl, ?_⟩;try conv=>whnf)|fail)
  exact le_bool (by decide)
theorem u_mod : ∃ fs : Array Field, Try.prog.underlying 25 = some (.struct fs) ∧ fs.toList.map (·.type) = [3, 22, 23] := ⟨_, rfl, by kernel_rfl⟩
theorem arg_mod {n : Nat} {p : PV} (h : TyA Try.prog (n + 4) 25 p) : ∃ m : Mo, PLe p m.pv ∧ FitM m := by
  obtain ⟨cs, h, rfl⟩ := h
  obtain ⟨fs, hu, hf⟩ := u_mod
  have hm : mkE Try.prog 25 cs = .agg cs := by simp only [mkE, kindT, hu]
  obtain ⟨a, b, r1, rfl, h1, hb, m1⟩ := fs_cons hf (tyS (n := n + 3) hu h)
  obtain ⟨c, d, r2, rfl, h2, hd, m2⟩ := fs_cons m1 hb
  obtain ⟨e, g, r3, rfl, h3, hg, m3⟩ := fs_cons m2 hd
  have := fs_nil m3 hg
  subst this
  obtain ⟨w, rfl, _⟩ := int_of (n := n + 2) h1
  obtain ⟨val, q2, rfl, l2, hv⟩ := slice_of (n := n + 2) (g := u64) (Q := fun s => s < 2 ^ 64) u_rowT (u64_el (n := n + 1)) h2
  obtain ⟨rel, q3, rfl, l3, hr⟩ := slice_of (n := n + 2) (g := rowPV) (Q := fun r => ∀ s, s ∈ r → s < 2 ^ 64) u_relT (fun p hp => el_of (n := n + 1) u_rowT (u64_el (n := n)) p hp) h3
  refine ⟨⟨w, val, rel⟩, ?_, hv, hr⟩
  rw [hm]
  exact PLe.aggs ⟨.refl _, l2, l3, trivial⟩
end Go.Proofs.Ytnbnkgcjgfmlcaa
set_option maxRecDepth 100000
set_option maxHeartbeats 4000000
namespace Go.Proofs.Ytnbnkgcjgfmlcaa
open Go Go.Dv

theorem few_both {m : Mo} {a : Act} (h : (bif fewM m 12 then fewI a 16 else false) = true) : fewM m 12 = true ∧ a.rel.length ≤ 1000 ∧ (∀ l, l ∈ a.post → l.length ≤ 1000) ∧ a.pre.length ≤ 12 ∧ a.post.length ≤ 12 := by
  cases h1 : fewM m 12 with
  | false => rw [h1] at h; cases h
  | true =>
    rw [h1] at h
    obtain ⟨b1, b2, b3, _, b5⟩ := few_ok (show fewI a 16 = true from h)
    exact ⟨rfl, by omega, fun l hl => by have := (b5 l hl).1; omega, b1, b2⟩
end Go.Proofs.Ytnbnkgcjgfmlcaa
set_option maxRecDepth 100000
set_option maxHeartbeats 4000000
namespace Go.Proofs.Ytnbnkgcjgfmlcaa
open Go Go.Dv

def facN (m : Mo) (w : Nat) (k : Nat) : Nat := maskOf (fun i => (m.val.getD i 0).testBit w) k
theorem fac_step {m : Mo} {w i x : Nat} (hw : w < 64) (hi : i < 8) (hx : x < 2 ^ 64) (hF : facN m w i < 2 ^ 62) (hg : m.val.getD i 0 = x) :
    or64 (facN m w i : Nat) (shl64 (IntKind.wrap .i64 (andU (shrU (x : Nat) (w : Nat)) 1)) (i : Nat)) = ((facN m w (i + 1) : Nat) : Int) := by
  have h1 : andU (shrU (x : Nat) (w : Nat)) 1 = ((x.testBit w).toNat : Int) := by
    have := andU_nat (a := x >>> w) (b := 1) (Nat.lt_of_le_of_lt (by rw [Nat.shiftRight_eq_div_pow]; exact Nat.div_le_self _ _) hx) (by decide)
    rw [shrU_nat x w (by omega)]
    rw [show (1 : Int) = ((1 : Nat) : Int) from rfl, this, Nat.and_one_is_mod]
    have : (x >>> w) % 2 = (x.testBit w).toNat := by
      rw [Nat.testBit, Nat.one_and_eq_mod_two]
      rcases Nat.mod_two_eq_zero_or_one (x >>> w) with h | h <;> rw [h] <;> rfl
    rw [this]
  rw [h1, facN, facN, maskOf, hg]
  cases hb : x.testBit w with
  | true =>
    have h2 : IntKind.wrap .i64 ((true.toNat : Nat) : Int) = 1 := by decide
    rw [h2, shl64_one (by omega) (by omega), Int.toNat_natCast]
    exact or64_nat hF (Nat.lt_of_lt_of_le (Nat.pow_lt_pow_right (by decide) hi) (by decide))
  | false =>
    have h2 : IntKind.wrap .i64 ((false.toNat : Nat) : Int) = 0 := by decide
    have h3 : shl64 0 (i : Nat) = ((0 : Nat) : Int) := by rw [shl64, Int.zero_mul]; decide
    rw [h2, h3]
    have := or64_nat (b := 0) hF (by decide)
    rw [Nat.or_zero] at this
    exact this
theorem md_Facts (m : Mo) (n w : Nat) (hf : FitM m) (hM : OkM m n) (hw : w < n) : PureFn Try.prog 16 [m.pv, .int .i64 (w : Nat)] (.int .i64 (facN m w m.val.length : Nat)) := by
  refine PureFn.introC [3] mixed (fn := Try.f16) rfl rfl rfl fun M w0 => ?_
  have hC := md_Check m hf
  rw [ok_moI hM] at hC
  have hnn := hM.nn
  have hfa := hM.fa
  (try conv=>whnf);repeat' (first|(apply And.intro<;>try conv=>whnf)|(intro h;first|(with_reducible first|exact tf0 h|exact ft0 h|exact nt0 h|exact nf0 h)|exact litz h rfl|(with_reducible first|exact tf h (by assumption)|exact tf (by assumption) h)|try conv=>whnf)|with_reducible rfl|apply True.intro|((first|apply infoT|apply bleI|apply fitI|apply cellsI|apply szI);rfl)|(apply guardI;kernel_rfl)|(apply WhenQ.mk;(try conv=>whnf);rotate_left;(try conv=>whnf);rotate_right)|(with_reducible first|assumption|(apply not_of;assumption)|(apply left_of;assumption)|(apply left_of;apply left_of;assumption)|(apply and_of<;>first|assumption|(apply not_of;assumption)))|(refine lin_plan (by kernel_rfl) ?_;try conv=>whnf)|(refine ⟨_, _, rfl, idx_map (by with_reducible assumption), rfl, ?_⟩;try conv=>whnf)|(refine ⟨rfl, ?_⟩;try conv=>whnf)|exact Nat.le_refl 1|((first|(apply ex3;(focus with_reducible assumption);(focus with_reducible assumption))|(apply ex2;(focus with_reducible assumption)));try conv=>whnf)|fail)
  refine ⟨Unit, fun _ => [(1, .pv (.int .i64 (w : Nat))), (2, .ref 0 0)], fun _ => 1, fun _ => [(0, .var (cellsM m))], ?_, ?_⟩
  · (try conv=>whnf);repeat' (first|(apply And.intro<;>try conv=>whnf)|(intro h;first|(with_reducible first|exact tf0 h|exact ft0 h|exact nt0 h|exact nf0 h)|exact litz h rfl|(with_reducible first|exact tf h (by assumption)|exact tf (by assumption) h)|try conv=>whnf)|with_reducible rfl|apply True.intro|((first|apply infoT|apply bleI|apply fitI|apply cellsI|apply szI);rfl)|(apply guardI;kernel_rfl)|(apply WhenQ.mk;(try conv=>whnf);rotate_left;(try conv=>whnf);rotate_right)|(with_reducible first|assumption|(apply not_of;assumption)|(apply left_of;assumption)|(apply left_of;apply left_of;assumption)|(apply and_of<;>first|assumption|(apply not_of;assumption)))|(refine lin_plan (by kernel_rfl) ?_;try conv=>whnf)|(refine ⟨_, _, rfl, idx_map (by with_reducible assumption), rfl, ?_⟩;try conv=>whnf)|(refine ⟨rfl, ?_⟩;try conv=>whnf)|exact Nat.le_refl 1|((first|(apply ex3;(focus with_reducible assumption);(focus with_reducible assumption))|(apply ex2;(focus with_reducible assumption)));try conv=>whnf)|(refine PureFn.dcq (f := 13) rfl ?_;try conv=>whnf)|((refine ⟨_, _, hC, ?_, ?_⟩);(focus (first|(refine ⟨?_, trivial⟩<;>first|exact PLe.refl _|exact PLe.nil)|exact trivial));try conv=>whnf)|(refine ⟨_, (by (conv=>whnf);exact hC), rfl, ?_⟩;try conv=>whnf)|fail)
    · exfalso
      rw [show decide ((w : Int) < 0) = false from decide_eq_false (by omega), show decide ((w : Int) ≥ m.n) = false from decide_eq_false (by omega)] at h
      exact absurd (show false = true from h) (by decide)
    · exact ⟨(), (by refine Wk.of ?_ ?_ rfl rfl rfl<;>(repeat' (first|exact trivial|exact WkD.same _|exact WkO.same _ _ rfl|exact WkD.any _|(apply WkD.nil;first|exact Or.inl rfl|exact Or.inr rfl)|(exact WkD.fz _ _ _ rfl (Or.inl ⟨_, rfl⟩) rfl)|(exact WkD.fz _ _ _ rfl (Or.inr rfl) rfl)|refine WkD.int ?_|exact WkD.new' rfl rfl rfl|exact WkO.new _ _ rfl|refine WkO.vars rfl ?_|with_reducible rfl|exact rfl|refine ⟨?_, ?_⟩|((refine wrapA ?_ ?_ ?_);(focus simp;done);(focus (try dsimp only);omega);(focus (try dsimp only);omega))|fail)))⟩
  rintro ⟨⟩
  (try conv=>whnf);repeat' (first|(apply And.intro<;>try conv=>whnf)|(intro h;first|(with_reducible first|exact tf0 h|exact ft0 h|exact nt0 h|exact nf0 h)|exact litz h rfl|(with_reducible first|exact tf h (by assumption)|exact tf (by assumption) h)|try conv=>whnf)|with_reducible rfl|apply True.intro|((first|apply infoT|apply bleI|apply fitI|apply cellsI|apply szI);rfl)|(apply guardI;kernel_rfl)|(apply WhenQ.mk;(try conv=>whnf);rotate_left;(try conv=>whnf);rotate_right)|(with_reducible first|assumption|(apply not_of;assumption)|(apply left_of;assumption)|(apply left_of;apply left_of;assumption)|(apply and_of<;>first|assumption|(apply not_of;assumption)))|(refine lin_plan (by kernel_rfl) ?_;try conv=>whnf)|(refine ⟨_, _, rfl, idx_map (by with_reducible assumption), rfl, ?_⟩;try conv=>whnf)|(refine ⟨rfl, ?_⟩;try conv=>whnf)|exact Nat.le_refl 1|((first|(apply ex3;(focus with_reducible assumption);(focus with_reducible assumption))|(apply ex2;(focus with_reducible assumption)));try conv=>whnf)|fail)
  refine ⟨{ i : Nat // i ≤ m.val.length }, fun i => [(1, .pv (.int .i64 (w : Nat))), (2, .ref 0 0), (5, .pv (i64 (facN m w i.1))), (22, .pv (.sl (m.val.map u64))), (23, .pv (i64 (m.val.map u64).length)), (24, .pv (i64 i.1))], fun _ => 1, fun _ => [(0, .var (cellsM m))], fun i => m.val.length - i.1, ⟨⟨0, Nat.zero_le _⟩, (by refine Wk.of ?_ ?_ rfl rfl rfl<;>(repeat' (first|exact trivial|exact WkD.same _|exact WkO.same _ _ rfl|exact WkD.any _|(apply WkD.nil;first|exact Or.inl rfl|exact Or.inr rfl)|(exact WkD.fz _ _ _ rfl (Or.inl ⟨_, rfl⟩) rfl)|(exact WkD.fz _ _ _ rfl (Or.inr rfl) rfl)|refine WkD.int ?_|exact WkD.new' rfl rfl rfl|exact WkO.new _ _ rfl|refine WkO.vars rfl ?_|with_reducible rfl|exact rfl|refine ⟨?_, ?_⟩|((refine wrapA ?_ ?_ ?_);(focus simp;done);(focus (try dsimp only);omega);(focus (try dsimp only);omega))|fail)))⟩, ?_⟩
  intro i
  have hi := i.2
  (try conv=>whnf);repeat' (first|(apply And.intro<;>try conv=>whnf)|(intro h;first|(with_reducible first|exact tf0 h|exact ft0 h|exact nt0 h|exact nf0 h)|exact litz h rfl|(with_reducible first|exact tf h (by assumption)|exact tf (by assumption) h)|try conv=>whnf)|with_reducible rfl|apply True.intro|((first|apply infoT|apply bleI|apply fitI|apply cellsI|apply szI);rfl)|(apply guardI;kernel_rfl)|(apply WhenQ.mk;(try conv=>whnf);rotate_left;(try conv=>whnf);rotate_right)|(with_reducible first|assumption|(apply not_of;assumption)|(apply left_of;assumption)|(apply left_of;apply left_of;assumption)|(apply and_of<;>first|assumption|(apply not_of;assumption)))|(refine lin_plan (by kernel_rfl) ?_;try conv=>whnf)|(refine ⟨_, _, rfl, idx_map (by with_reducible assumption), rfl, ?_⟩;try conv=>whnf)|(refine ⟨rfl, ?_⟩;try conv=>whnf)|exact Nat.le_refl 1|((first|(apply ex3;(focus with_reducible assumption);(focus with_reducible assumption))|(apply ex2;(focus with_reducible assumption)));try conv=>whnf)|fail)
  · have hi' : i.1 < m.val.length := by simpa using lt_dec h
    have hm : m.val[i.1]? = some m.val[i.1] := List.getElem?_eq_getElem hi'
    refine ⟨_, _, rfl, idx_map hm, rfl, ?_⟩
    (try conv=>whnf);repeat' (first|(apply And.intro<;>try conv=>whnf)|(intro h;first|(with_reducible first|exact tf0 h|exact ft0 h|exact nt0 h|exact nf0 h)|exact litz h rfl|(with_reducible first|exact tf h (by assumption)|exact tf (by assumption) h)|try conv=>whnf)|with_reducible rfl|apply True.intro|((first|apply infoT|apply bleI|apply fitI|apply cellsI|apply szI);rfl)|(apply guardI;kernel_rfl)|(apply WhenQ.mk;(try conv=>whnf);rotate_left;(try conv=>whnf);rotate_right)|(with_reducible first|assumption|(apply not_of;assumption)|(apply left_of;assumption)|(apply left_of;apply left_of;assumption)|(apply and_of<;>first|assumption|(apply not_of;assumption)))|(refine lin_plan (by kernel_rfl) ?_;try conv=>whnf)|(refine ⟨_, _, rfl, idx_map (by with_reducible assumption), rfl, ?_⟩;try conv=>whnf)|(refine ⟨rfl, ?_⟩;try conv=>whnf)|exact Nat.le_refl 1|((first|(apply ex3;(focus with_reducible assumption);(focus with_reducible assumption))|(apply ex2;(focus with_reducible assumption)));try conv=>whnf)|fail)
    · exact Int.natCast_nonneg _
    · exact Int.natCast_nonneg _
    · refine ⟨⟨i.1 + 1, hi'⟩, by show m.val.length - (i.1 + 1) < m.val.length - i.1; omega, ?_⟩
      (refine Wk.of ?_ ?_ rfl rfl rfl<;>(repeat' (first|exact trivial|exact WkD.same _|exact WkO.same _ _ rfl|exact WkD.any _|(apply WkD.nil;first|exact Or.inl rfl|exact Or.inr rfl)|(exact WkD.fz _ _ _ rfl (Or.inl ⟨_, rfl⟩) rfl)|(exact WkD.fz _ _ _ rfl (Or.inr rfl) rfl)|refine WkD.int ?_|exact WkD.new' rfl rfl rfl|exact WkO.new _ _ rfl|refine WkO.vars rfl ?_|with_reducible rfl|exact rfl|refine ⟨?_, ?_⟩|((refine wrapA ?_ ?_ ?_);(focus simp;done);(focus (try dsimp only);omega);(focus (try dsimp only);omega))|fail)))
      have hx : m.val[i.1] < 2 ^ 64 := hf.1 _ (List.getElem_mem hi')
      have hg : m.val.getD i.1 0 = m.val[i.1] := by rw [List.getD_eq_getElem?_getD, hm]; rfl
      have hF : facN m w i.1 < 2 ^ 62 := Nat.lt_of_lt_of_le (maskOf_lt _ _) (Nat.pow_le_pow_right (by decide) (by omega))
      exact fac_step (by have := hM.n64; omega) (by omega) hx hF hg
  · have hi' : i.1 = m.val.length := by have := ge_dec (m := (m.val.map u64).length) h (by simpa using hi); simpa using this
    rw [hi']
    exact .refl _
end Go.Proofs.Ytnbnkgcjgfmlcaa
set_option maxRecDepth 100000
set_option maxHeartbeats 4000000
namespace Go.Proofs.Ytnbnkgcjgfmlcaa
open Go Go.Dv

theorem updI_ok {m : Mo} {a : Act} (h : (updI m a).2.2 = 0) : moaI m a = 0 ∧ (updI m a).2.1 = pairsL m a ∧ (updI m a).1 = prodM m a (pairsL m a) ∧ 1 ≤ (pairsL m a).length ∧ (pairsL m a).length ≤ 64 := by
  unfold updI at h ⊢
  cases h1 : ((worldsI m a).2 != 0) with
  | true => rw [h1] at h; simp only [cond_true] at h; rw [h] at h1; cases h1
  | false =>
    rw [h1] at h
    obtain ⟨k1, k2, k3⟩ := worldsI_ok (m := m) (a := a) (by simpa using h1)
    cases h2 : decide (((worldsI m a).1.length : Int) > 64) with
    | true => rw [h2] at h; cases h
    | false =>
      have := of_decide_eq_false h2
      rw [k2] at this
      refine ⟨k1, ?_, ?_, k3, by omega⟩
      · rw [k2]; rfl
      · rw [k2]; rfl
/-- What the product is, as the law asks it. -/
structure Keeps (m : Mo) (a : Act) (n : Nat) (p : Mo) (l : List (Nat × Nat)) : Prop where
  okm : OkM m n
  okp : OkM p l.length
  rel : p.rel.length = m.rel.length
  wlt : ∀ x, x ∈ l → x.1 < n ∧ x.2 < a.post.length
  meets : ∀ lg : Int, (lg = 2 ∨ lg = 3 ∨ lg = 4 ∨ lg = 6) → inI a lg = true → ∀ i, i < m.rel.length → meetsR lg (m.rel.getD i []) = true → meetsR lg (p.rel.getD i []) = true
  facts : ∀ i x, l[i]? = some x → (a.post.getD x.2 []).length = 0 → facN p i p.val.length = facN m x.1 m.val.length
theorem getD_map_range {β : Type} {f : Nat → β} {n i : Nat} {d : β} (h : i < n) : ((List.range n).map f).getD i d = f i := by
  rw [List.getD_eq_getElem?_getD, List.getElem?_map, List.getElem?_range h]; rfl
theorem keeps_of {m : Mo} {a : Act} (h : (updI m a).2.2 = 0) : ∃ n, Keeps m a n (updI m a).1 (updI m a).2.1 := by
  obtain ⟨k1, k2, k3, k4, k5⟩ := updI_ok h
  obtain ⟨⟨n, hM⟩, hA⟩ := moaI_ok k1
  obtain ⟨g1, g2⟩ := act_alone hM.fa hA
  have hO := actI_ok hA
  refine ⟨n, hM, ?_, ?_, ?_, ?_, ?_⟩
  · rw [k2, k3]; exact prod_ok hM k4 k5
  · rw [k3]; simp [prodM]
  · rw [k2]
    intro x hx
    rw [pairsL, hM.nn, Int.toNat_natCast] at hx
    have := pairsW_mem.1 hx
    exact ⟨this.1, by rw [hO.post]; exact this.2.1⟩
  · intro lg hlg hin i hi hm
    rw [k3]
    have : (prodM m a (pairsL m a)).rel.getD i [] = relP m a (pairsL m a) i := getD_map_range hi
    rw [this, relP]
    have hga : a.rel.getD i [] ∈ a.rel := List.mem_iff_getElem?.2 ⟨i, getD_mem (by omega)⟩
    have hgm : m.rel.getD i [] ∈ m.rel := List.mem_iff_getElem?.2 ⟨i, getD_mem hi⟩
    refine prow_keeps hlg (fun x hx => ?_) hm ?_
    · rw [pairsL, hM.nn, Int.toNat_natCast] at hx
      have := pairsW_mem.1 hx
      rw [hM.rows _ hgm, hO.rows _ hga]
      exact ⟨this.1, this.2.1⟩
    · unfold inI at hin
      cases q1 : (aloneI a != 0) with
      | true => rw [q1] at hin; cases hin
      | false =>
        cases q2 : (bif decide (lg < 0) then true else decide (lg > 6)) with
        | true => rw [q1, q2] at hin; cases hin
        | false =>
          rw [q1, q2] at hin
          have hin : (!(a.rel.any fun r => !meetsR lg r)) = true := hin
          have h3 : (a.rel.any fun r => !meetsR lg r) = false := by simpa using hin
          have := List.any_eq_false.1 h3 _ hga
          simpa using this
  · intro i x hx hp
    rw [k2] at hx
    rw [k3]
    have hl : (prodM m a (pairsL m a)).val.length = m.val.length := by simp [prodM]
    rw [hl, facN, facN]
    apply maskOf_congr
    intro k hk
    have hv : (prodM m a (pairsL m a)).val.getD k 0 = valP m a (pairsL m a) k := getD_map_range hk
    have hxd : (pairsL m a).getD i (0, 0) = x := by rw [List.getD_eq_getElem?_getD, hx]; rfl
    have hil : i < (pairsL m a).length := (List.getElem?_eq_some_iff.1 hx).1
    have hxe : x.2 < a.pre.length := by
      have hx2 : x ∈ pairsL m a := List.mem_iff_getElem?.2 ⟨i, hx⟩
      rw [pairsL] at hx2
      exact (pairsW_mem.1 hx2).2.1
    rw [hv, valP, maskOf_bit, hxd, decide_eq_true hil, Bool.true_and, valuP]
    have hval : (valI a x.2 k).1 = buildL (nI 3 k) [] := by
      have h2 : badEv a (x.2 : Int) = false := by
        unfold badEv
        rw [decide_eq_false (by omega), decide_eq_false (by omega)]; rfl
      have h3 : badF (k : Int) = false := by
        have := hM.fa
        unfold badF
        rw [decide_eq_false (by omega), decide_eq_false (by omega)]; rfl
      rw [valI, g1, h2, h3]
      show valL (k : Int) (a.post.getD (x.2 : Int).toNat []) = _
      rw [Int.toNat_natCast, List.eq_nil_of_length_eq_zero hp]; rfl
    rw [hval, holds_fact hM hk]
end Go.Proofs.Ytnbnkgcjgfmlcaa
