/- Parts of the proof, one after the other: Action models: Same of the program walked. Action models: what can be reached from an event (plain). -/
import Derived.Test.YtibenjpkinhjhaaM9
set_option maxRecDepth 100000
set_option maxHeartbeats 4000000
namespace Go.Proofs.Ytibenjpkinhjhaa
open Go Go.Dv

/-! lists compared by a function -/
def eqL {α : Type} (p : α → α → Bool) : List α → List α → Bool
  | [], [] => true
  | x :: s, y :: t => bif p x y then eqL p s t else false
  | _, _ => false
theorem eqL_len {α : Type} {p : α → α → Bool} : ∀ {s t : List α}, eqL p s t = true → s.length = t.length
  | [], [], _ => rfl
  | x :: s, y :: t, h => by
    rw [eqL] at h
    cases hp : p x y with
    | false => rw [hp] at h; cases h
    | true => rw [hp] at h; simp [eqL_len (show eqL p s t = true from h)]
  | [], _ :: _, h => by simp [eqL] at h
  | _ :: _, [], h => by simp [eqL] at h
theorem eqL_drop {α : Type} {p : α → α → Bool} {s t : List α} {i : Nat} (hs : i < s.length) (ht : i < t.length) : eqL p (s.drop i) (t.drop i) = bif p s[i] t[i] then eqL p (s.drop (i + 1)) (t.drop (i + 1)) else false := by
  rw [List.drop_eq_getElem_cons hs, List.drop_eq_getElem_cons ht]; rfl
theorem eqL_ne {α : Type} {p : α → α → Bool} {s t : List α} (h : s.length ≠ t.length) : eqL p s t = false := by
  cases hh : eqL p s t with
  | false => rfl
  | true => exact absurd (eqL_len hh) h
theorem sl_EqU (a b : List Nat) (hl : a.length ≤ 1000) : PureFn Try.prog 19 [.sl (a.map u64), .sl (b.map u64)] (.bool (eqL (fun (x y : Nat) => !((x : Int) != (y : Int))) a b)) := by
  refine PureFn.intro mixed (fn := Try.f19) rfl rfl rfl fun M w0 => ?_
  (try (conv => whnf)); repeat' (first | (apply And.intro <;> (try (conv => whnf))) | (intro h; first | (with_reducible exact tf0 h) | (with_reducible exact ft0 h) | (with_reducible exact nt0 h) | (with_reducible exact nf0 h) | (exact litz h rfl) | (with_reducible exact tf h (by with_reducible assumption)) | (with_reducible exact tf (by with_reducible assumption) h) | (try (conv => whnf))) | (with_reducible rfl) | (apply True.intro) | (apply infoT; rfl) | (apply bleI; rfl) | (apply fitI; rfl) | (apply cellsI; rfl) | (apply szI; rfl) | (apply guardI; kernel_rfl) | (apply WhenQ.mk; (try (conv => whnf)); rotate_left; (try (conv => whnf)); rotate_right) | (with_reducible assumption) | (apply not_of; with_reducible assumption) | (apply left_of; with_reducible assumption) | (apply left_of; apply left_of; with_reducible assumption) | (apply and_of <;> first | (with_reducible assumption) | (apply not_of; with_reducible assumption))| (refine lin_plan (by kernel_rfl) ?_; (try (conv => whnf))) | (refine ⟨_, _, rfl, idx_map (by with_reducible assumption), rfl, ?_⟩; (try (conv => whnf))) | (refine ⟨rfl, ?_⟩; (try (conv => whnf))) | (exact Nat.le_refl 1) | ((apply ex3); (focus (with_reducible assumption)); (focus (with_reducible assumption)); (try (conv => whnf))) | ((apply ex2); (focus (with_reducible assumption)); (try (conv => whnf))) | fail)
  · refine le_bool ?_
    have : ¬ a.length = b.length := by simp at h; omega
    exact (eqL_ne this).symm
  · have hl2 : a.length = b.length := by simp at h; omega
    refine ⟨{ i : Nat // i ≤ a.length ∧ eqL (fun (x y : Nat) => !((x : Int) != (y : Int))) a b = eqL (fun (x y : Nat) => !((x : Int) != (y : Int))) (a.drop i) (b.drop i) }, fun i => [(0, .pv (.sl (a.map u64))), (1, .pv (.sl (b.map u64))), (12, .pv (i64 (a.map u64).length)), (13, .pv (i64 i.1))], fun _ => 0, fun _ => [], fun i => a.length - i.1,
      ⟨⟨0, Nat.zero_le _, rfl⟩, (by refine Wk.of ?_ ?_ rfl rfl rfl <;> (repeat' (first | (exact trivial) | (exact WkD.same _) | (exact WkO.same _ _ rfl) | (exact WkD.any _) | (exact WkD.nil _ (Or.inl rfl)) | (exact WkD.nil _ (Or.inr rfl)) | (exact WkD.fz _ _ _ rfl (Or.inl ⟨_, rfl⟩) rfl) | (exact WkD.fz _ _ _ rfl (Or.inr rfl) rfl) | (refine WkD.int ?_) | (exact WkD.new' rfl rfl rfl) | (exact WkO.new _ _ rfl) | (refine WkO.vars rfl ?_) | (with_reducible rfl) | (exact rfl) | (refine ⟨?_, ?_⟩) | ((refine wrapA ?_ ?_ ?_); (focus (simp; done)); (focus ((try dsimp only); omega)); (focus ((try dsimp only); omega))) | fail)))⟩, ?_⟩
    rintro ⟨i, hi, he⟩
    (try (conv => whnf)); repeat' (first | (apply And.intro <;> (try (conv => whnf))) | (intro h; first | (with_reducible exact tf0 h) | (with_reducible exact ft0 h) | (with_reducible exact nt0 h) | (with_reducible exact nf0 h) | (exact litz h rfl) | (with_reducible exact tf h (by with_reducible assumption)) | (with_reducible exact tf (by with_reducible assumption) h) | (try (conv => whnf))) | (with_reducible rfl) | (apply True.intro) | (apply infoT; rfl) | (apply bleI; rfl) | (apply fitI; rfl) | (apply cellsI; rfl) | (apply szI; rfl) | (apply guardI; kernel_rfl) | (apply WhenQ.mk; (try (conv => whnf)); rotate_left; (try (conv => whnf)); rotate_right) | (with_reducible assumption) | (apply not_of; with_reducible assumption) | (apply left_of; with_reducible assumption) | (apply left_of; apply left_of; with_reducible assumption) | (apply and_of <;> first | (with_reducible assumption) | (apply not_of; with_reducible assumption))| (refine lin_plan (by kernel_rfl) ?_; (try (conv => whnf))) | (refine ⟨_, _, rfl, idx_map (by with_reducible assumption), rfl, ?_⟩; (try (conv => whnf))) | (refine ⟨rfl, ?_⟩; (try (conv => whnf))) | (exact Nat.le_refl 1) | ((apply ex3); (focus (with_reducible assumption)); (focus (with_reducible assumption)); (try (conv => whnf))) | ((apply ex2); (focus (with_reducible assumption)); (try (conv => whnf))) | fail)
    · have hi' : i < a.length := by simpa using lt_dec h
      have hj' : i < b.length := by omega
      have hn : a[i]? = some a[i] := List.getElem?_eq_getElem hi'
      have hm : b[i]? = some b[i] := List.getElem?_eq_getElem hj'
      have hd := eqL_drop (p := fun (x y : Nat) => !((x : Int) != (y : Int))) hi' hj'
      refine ⟨_, _, rfl, idx_map hn, rfl, ?_⟩
      (try (conv => whnf)); repeat' (first | (apply And.intro <;> (try (conv => whnf))) | (intro h; first | (with_reducible exact tf0 h) | (with_reducible exact ft0 h) | (with_reducible exact nt0 h) | (with_reducible exact nf0 h) | (exact litz h rfl) | (with_reducible exact tf h (by with_reducible assumption)) | (with_reducible exact tf (by with_reducible assumption) h) | (try (conv => whnf))) | (with_reducible rfl) | (apply True.intro) | (apply infoT; rfl) | (apply bleI; rfl) | (apply fitI; rfl) | (apply cellsI; rfl) | (apply szI; rfl) | (apply guardI; kernel_rfl) | (apply WhenQ.mk; (try (conv => whnf)); rotate_left; (try (conv => whnf)); rotate_right) | (with_reducible assumption) | (apply not_of; with_reducible assumption) | (apply left_of; with_reducible assumption) | (apply left_of; apply left_of; with_reducible assumption) | (apply and_of <;> first | (with_reducible assumption) | (apply not_of; with_reducible assumption))| (refine lin_plan (by kernel_rfl) ?_; (try (conv => whnf))) | (refine ⟨_, _, rfl, idx_map (by with_reducible assumption), rfl, ?_⟩; (try (conv => whnf))) | (refine ⟨rfl, ?_⟩; (try (conv => whnf))) | (exact Nat.le_refl 1) | ((apply ex3); (focus (with_reducible assumption)); (focus (with_reducible assumption)); (try (conv => whnf))) | ((apply ex2); (focus (with_reducible assumption)); (try (conv => whnf))) | fail)
      · refine le_bool ?_
        rw [he, hd]
        simp_all
      · refine ⟨⟨i + 1, hi', ?_⟩, by show a.length - (i + 1) < a.length - i; omega, (by refine Wk.of ?_ ?_ rfl rfl rfl <;> (repeat' (first | (exact trivial) | (exact WkD.same _) | (exact WkO.same _ _ rfl) | (exact WkD.any _) | (exact WkD.nil _ (Or.inl rfl)) | (exact WkD.nil _ (Or.inr rfl)) | (exact WkD.fz _ _ _ rfl (Or.inl ⟨_, rfl⟩) rfl) | (exact WkD.fz _ _ _ rfl (Or.inr rfl) rfl) | (refine WkD.int ?_) | (exact WkD.new' rfl rfl rfl) | (exact WkO.new _ _ rfl) | (refine WkO.vars rfl ?_) | (with_reducible rfl) | (exact rfl) | (refine ⟨?_, ?_⟩) | ((refine wrapA ?_ ?_ ?_); (focus (simp; done)); (focus ((try dsimp only); omega)); (focus ((try dsimp only); omega))) | fail)))⟩
        rw [he, hd]
        simp_all
    · have hi' : ¬ i < a.length := by have := ge_dec (m := (a.map u64).length) h (by simpa using hi); simp at this; omega
      refine le_bool ?_
      rw [he, (List.drop_eq_nil_of_le (by omega) : a.drop i = []), (List.drop_eq_nil_of_le (by omega) : b.drop i = [])]; rfl
theorem sl_EqI (a b : List Int) (hl : a.length ≤ 1000) : PureFn Try.prog 29 [.sl (a.map (PV.int .i64)), .sl (b.map (PV.int .i64))] (.bool (eqL (fun (x y : Int) => !(x != y)) a b)) := by
  refine PureFn.intro mixed (fn := Try.f29) rfl rfl rfl fun M w0 => ?_
  (try (conv => whnf)); repeat' (first | (apply And.intro <;> (try (conv => whnf))) | (intro h; first | (with_reducible exact tf0 h) | (with_reducible exact ft0 h) | (with_reducible exact nt0 h) | (with_reducible exact nf0 h) | (exact litz h rfl) | (with_reducible exact tf h (by with_reducible assumption)) | (with_reducible exact tf (by with_reducible assumption) h) | (try (conv => whnf))) | (with_reducible rfl) | (apply True.intro) | (apply infoT; rfl) | (apply bleI; rfl) | (apply fitI; rfl) | (apply cellsI; rfl) | (apply szI; rfl) | (apply guardI; kernel_rfl) | (apply WhenQ.mk; (try (conv => whnf)); rotate_left; (try (conv => whnf)); rotate_right) | (with_reducible assumption) | (apply not_of; with_reducible assumption) | (apply left_of; with_reducible assumption) | (apply left_of; apply left_of; with_reducible assumption) | (apply and_of <;> first | (with_reducible assumption) | (apply not_of; with_reducible assumption))| (refine lin_plan (by kernel_rfl) ?_; (try (conv => whnf))) | (refine ⟨_, _, rfl, idx_map (by with_reducible assumption), rfl, ?_⟩; (try (conv => whnf))) | (refine ⟨rfl, ?_⟩; (try (conv => whnf))) | (exact Nat.le_refl 1) | ((apply ex3); (focus (with_reducible assumption)); (focus (with_reducible assumption)); (try (conv => whnf))) | ((apply ex2); (focus (with_reducible assumption)); (try (conv => whnf))) | fail)
  · refine le_bool ?_
    have : ¬ a.length = b.length := by simp at h; omega
    exact (eqL_ne this).symm
  · have hl2 : a.length = b.length := by simp at h; omega
    refine ⟨{ i : Nat // i ≤ a.length ∧ eqL (fun (x y : Int) => !(x != y)) a b = eqL (fun (x y : Int) => !(x != y)) (a.drop i) (b.drop i) }, fun i => [(0, .pv (.sl (a.map (PV.int .i64)))), (1, .pv (.sl (b.map (PV.int .i64)))), (12, .pv (i64 (a.map (PV.int .i64)).length)), (13, .pv (i64 i.1))], fun _ => 0, fun _ => [], fun i => a.length - i.1,
      ⟨⟨0, Nat.zero_le _, rfl⟩, (by refine Wk.of ?_ ?_ rfl rfl rfl <;> (repeat' (first | (exact trivial) | (exact WkD.same _) | (exact WkO.same _ _ rfl) | (exact WkD.any _) | (exact WkD.nil _ (Or.inl rfl)) | (exact WkD.nil _ (Or.inr rfl)) | (exact WkD.fz _ _ _ rfl (Or.inl ⟨_, rfl⟩) rfl) | (exact WkD.fz _ _ _ rfl (Or.inr rfl) rfl) | (refine WkD.int ?_) | (exact WkD.new' rfl rfl rfl) | (exact WkO.new _ _ rfl) | (refine WkO.vars rfl ?_) | (with_reducible rfl) | (exact rfl) | (refine ⟨?_, ?_⟩) | ((refine wrapA ?_ ?_ ?_); (focus (simp; done)); (focus ((try dsimp only); omega)); (focus ((try dsimp only); omega))) | fail)))⟩, ?_⟩
    rintro ⟨i, hi, he⟩
    (try (conv => whnf)); repeat' (first | (apply And.intro <;> (try (conv => whnf))) | (intro h; first | (with_reducible exact tf0 h) | (with_reducible exact ft0 h) | (with_reducible exact nt0 h) | (with_reducible exact nf0 h) | (exact litz h rfl) | (with_reducible exact tf h (by with_reducible assumption)) | (with_reducible exact tf (by with_reducible assumption) h) | (try (conv => whnf))) | (with_reducible rfl) | (apply True.intro) | (apply infoT; rfl) | (apply bleI; rfl) | (apply fitI; rfl) | (apply cellsI; rfl) | (apply szI; rfl) | (apply guardI; kernel_rfl) | (apply WhenQ.mk; (try (conv => whnf)); rotate_left; (try (conv => whnf)); rotate_right) | (with_reducible assumption) | (apply not_of; with_reducible assumption) | (apply left_of; with_reducible assumption) | (apply left_of; apply left_of; with_reducible assumption) | (apply and_of <;> first | (with_reducible assumption) | (apply not_of; with_reducible assumption))| (refine lin_plan (by kernel_rfl) ?_; (try (conv => whnf))) | (refine ⟨_, _, rfl, idx_map (by with_reducible assumption), rfl, ?_⟩; (try (conv => whnf))) | (refine ⟨rfl, ?_⟩; (try (conv => whnf))) | (exact Nat.le_refl 1) | ((apply ex3); (focus (with_reducible assumption)); (focus (with_reducible assumption)); (try (conv => whnf))) | ((apply ex2); (focus (with_reducible assumption)); (try (conv => whnf))) | fail)
    · have hi' : i < a.length := by simpa using lt_dec h
      have hj' : i < b.length := by omega
      have hn : a[i]? = some a[i] := List.getElem?_eq_getElem hi'
      have hm : b[i]? = some b[i] := List.getElem?_eq_getElem hj'
      have hd := eqL_drop (p := fun (x y : Int) => !(x != y)) hi' hj'
      refine ⟨_, _, rfl, idx_map hn, rfl, ?_⟩
      (try (conv => whnf)); repeat' (first | (apply And.intro <;> (try (conv => whnf))) | (intro h; first | (with_reducible exact tf0 h) | (with_reducible exact ft0 h) | (with_reducible exact nt0 h) | (with_reducible exact nf0 h) | (exact litz h rfl) | (with_reducible exact tf h (by with_reducible assumption)) | (with_reducible exact tf (by with_reducible assumption) h) | (try (conv => whnf))) | (with_reducible rfl) | (apply True.intro) | (apply infoT; rfl) | (apply bleI; rfl) | (apply fitI; rfl) | (apply cellsI; rfl) | (apply szI; rfl) | (apply guardI; kernel_rfl) | (apply WhenQ.mk; (try (conv => whnf)); rotate_left; (try (conv => whnf)); rotate_right) | (with_reducible assumption) | (apply not_of; with_reducible assumption) | (apply left_of; with_reducible assumption) | (apply left_of; apply left_of; with_reducible assumption) | (apply and_of <;> first | (with_reducible assumption) | (apply not_of; with_reducible assumption))| (refine lin_plan (by kernel_rfl) ?_; (try (conv => whnf))) | (refine ⟨_, _, rfl, idx_map (by with_reducible assumption), rfl, ?_⟩; (try (conv => whnf))) | (refine ⟨rfl, ?_⟩; (try (conv => whnf))) | (exact Nat.le_refl 1) | ((apply ex3); (focus (with_reducible assumption)); (focus (with_reducible assumption)); (try (conv => whnf))) | ((apply ex2); (focus (with_reducible assumption)); (try (conv => whnf))) | fail)
      · refine le_bool ?_
        rw [he, hd]
        simp_all
      · refine ⟨⟨i + 1, hi', ?_⟩, by show a.length - (i + 1) < a.length - i; omega, (by refine Wk.of ?_ ?_ rfl rfl rfl <;> (repeat' (first | (exact trivial) | (exact WkD.same _) | (exact WkO.same _ _ rfl) | (exact WkD.any _) | (exact WkD.nil _ (Or.inl rfl)) | (exact WkD.nil _ (Or.inr rfl)) | (exact WkD.fz _ _ _ rfl (Or.inl ⟨_, rfl⟩) rfl) | (exact WkD.fz _ _ _ rfl (Or.inr rfl) rfl) | (refine WkD.int ?_) | (exact WkD.new' rfl rfl rfl) | (exact WkO.new _ _ rfl) | (refine WkO.vars rfl ?_) | (with_reducible rfl) | (exact rfl) | (refine ⟨?_, ?_⟩) | ((refine wrapA ?_ ?_ ?_); (focus (simp; done)); (focus ((try dsimp only); omega)); (focus ((try dsimp only); omega))) | fail)))⟩
        rw [he, hd]
        simp_all
    · have hi' : ¬ i < a.length := by have := ge_dec (m := (a.map (PV.int .i64)).length) h (by simpa using hi); simp at this; omega
      refine le_bool ?_
      rw [he, (List.drop_eq_nil_of_le (by omega) : a.drop i = []), (List.drop_eq_nil_of_le (by omega) : b.drop i = [])]; rfl
/-- Lists compared by a pure function. -/
theorem eqf_R (fid : Nat) (p : (List Nat) → (List Nat) → Bool) (hcb : callable Try.prog fid = true) (a b : List (List Nat)) (hl : a.length ≤ 1000) (hw : ∀ x, x ∈ a → ∀ y, y ∈ b → PureFn Try.prog fid [rowPV x, rowPV y] (.bool (p x y))) (M : Nat → Prop) (w0 : World) :
    DC Try.prog M w0 90 [.pv (.sl (a.map rowPV)), .pv (.sl (b.map rowPV)), .clo fid [] []] noHeap fun d L' => frz d L' fun q _ => PLe q (.bool (eqL p a b)) := by
  refine DC.intro mixed (fn := Try.f90) rfl rfl rfl ?_
  (try (conv => whnf)); repeat' (first | (apply And.intro <;> (try (conv => whnf))) | (intro h; first | (with_reducible exact tf0 h) | (with_reducible exact ft0 h) | (with_reducible exact nt0 h) | (with_reducible exact nf0 h) | (exact litz h rfl) | (with_reducible exact tf h (by with_reducible assumption)) | (with_reducible exact tf (by with_reducible assumption) h) | (try (conv => whnf))) | (with_reducible rfl) | (apply True.intro) | (apply infoT; rfl) | (apply bleI; rfl) | (apply fitI; rfl) | (apply cellsI; rfl) | (apply szI; rfl) | (apply guardI; kernel_rfl) | (apply WhenQ.mk; (try (conv => whnf)); rotate_left; (try (conv => whnf)); rotate_right) | (with_reducible assumption) | (apply not_of; with_reducible assumption) | (apply left_of; with_reducible assumption) | (apply left_of; apply left_of; with_reducible assumption) | (apply and_of <;> first | (with_reducible assumption) | (apply not_of; with_reducible assumption))| (refine lin_plan (by kernel_rfl) ?_; (try (conv => whnf))) | (refine ⟨_, _, rfl, idx_map (by with_reducible assumption), rfl, ?_⟩; (try (conv => whnf))) | (refine ⟨rfl, ?_⟩; (try (conv => whnf))) | (exact Nat.le_refl 1) | ((apply ex3); (focus (with_reducible assumption)); (focus (with_reducible assumption)); (try (conv => whnf))) | ((apply ex2); (focus (with_reducible assumption)); (try (conv => whnf))) | fail)
  · refine le_bool ?_
    have : ¬ a.length = b.length := by simp at h; omega
    exact (eqL_ne this).symm
  · have hl2 : a.length = b.length := by simp at h; omega
    refine ⟨{ i : Nat // i ≤ a.length ∧ eqL p a b = eqL p (a.drop i) (b.drop i) }, fun i => [(1, .pv (.sl (b.map rowPV))), (2, .clo fid [] []), (15, .pv (.sl (a.map rowPV))), (16, .pv (i64 (a.map rowPV).length)), (17, .pv (i64 i.1))], fun _ => 0, fun _ => [], fun i => a.length - i.1,
      ⟨⟨0, Nat.zero_le _, rfl⟩, (by refine Wk.of ?_ ?_ rfl rfl rfl <;> (repeat' (first | (exact trivial) | (exact WkD.same _) | (exact WkO.same _ _ rfl) | (exact WkD.any _) | (exact WkD.nil _ (Or.inl rfl)) | (exact WkD.nil _ (Or.inr rfl)) | (exact WkD.fz _ _ _ rfl (Or.inl ⟨_, rfl⟩) rfl) | (exact WkD.fz _ _ _ rfl (Or.inr rfl) rfl) | (refine WkD.int ?_) | (exact WkD.new' rfl rfl rfl) | (exact WkO.new _ _ rfl) | (refine WkO.vars rfl ?_) | (with_reducible rfl) | (exact rfl) | (refine ⟨?_, ?_⟩) | ((refine wrapA ?_ ?_ ?_); (focus (simp; done)); (focus ((try dsimp only); omega)); (focus ((try dsimp only); omega))) | fail)))⟩, ?_⟩
    rintro ⟨i, hi, he⟩
    (try (conv => whnf)); repeat' (first | (apply And.intro <;> (try (conv => whnf))) | (intro h; first | (with_reducible exact tf0 h) | (with_reducible exact ft0 h) | (with_reducible exact nt0 h) | (with_reducible exact nf0 h) | (exact litz h rfl) | (with_reducible exact tf h (by with_reducible assumption)) | (with_reducible exact tf (by with_reducible assumption) h) | (try (conv => whnf))) | (with_reducible rfl) | (apply True.intro) | (apply infoT; rfl) | (apply bleI; rfl) | (apply fitI; rfl) | (apply cellsI; rfl) | (apply szI; rfl) | (apply guardI; kernel_rfl) | (apply WhenQ.mk; (try (conv => whnf)); rotate_left; (try (conv => whnf)); rotate_right) | (with_reducible assumption) | (apply not_of; with_reducible assumption) | (apply left_of; with_reducible assumption) | (apply left_of; apply left_of; with_reducible assumption) | (apply and_of <;> first | (with_reducible assumption) | (apply not_of; with_reducible assumption))| (refine lin_plan (by kernel_rfl) ?_; (try (conv => whnf))) | (refine ⟨_, _, rfl, idx_map (by with_reducible assumption), rfl, ?_⟩; (try (conv => whnf))) | (refine ⟨rfl, ?_⟩; (try (conv => whnf))) | (exact Nat.le_refl 1) | ((apply ex3); (focus (with_reducible assumption)); (focus (with_reducible assumption)); (try (conv => whnf))) | ((apply ex2); (focus (with_reducible assumption)); (try (conv => whnf))) | fail)
    · have hi' : i < a.length := by simpa using lt_dec h
      have hj' : i < b.length := by omega
      have hn : a[i]? = some a[i] := List.getElem?_eq_getElem hi'
      have hm : b[i]? = some b[i] := List.getElem?_eq_getElem hj'
      have hd := eqL_drop (p := p) hi' hj'
      have hwi := hw _ (List.getElem_mem hi') _ (List.getElem_mem hj')
      refine ⟨_, _, rfl, idx_map hn, rfl, ?_⟩
      (try (conv => whnf)); repeat' (first | (apply And.intro <;> (try (conv => whnf))) | (intro h; first | (with_reducible exact tf0 h) | (with_reducible exact ft0 h) | (with_reducible exact nt0 h) | (with_reducible exact nf0 h) | (exact litz h rfl) | (with_reducible exact tf h (by with_reducible assumption)) | (with_reducible exact tf (by with_reducible assumption) h) | (try (conv => whnf))) | (with_reducible rfl) | (apply True.intro) | (apply infoT; rfl) | (apply bleI; rfl) | (apply fitI; rfl) | (apply cellsI; rfl) | (apply szI; rfl) | (apply guardI; kernel_rfl) | (apply WhenQ.mk; (try (conv => whnf)); rotate_left; (try (conv => whnf)); rotate_right) | (with_reducible assumption) | (apply not_of; with_reducible assumption) | (apply left_of; with_reducible assumption) | (apply left_of; apply left_of; with_reducible assumption) | (apply and_of <;> first | (with_reducible assumption) | (apply not_of; with_reducible assumption))| (refine lin_plan (by kernel_rfl) ?_; (try (conv => whnf))) | (refine ⟨_, _, rfl, idx_map (by with_reducible assumption), rfl, ?_⟩; (try (conv => whnf))) | (refine ⟨rfl, ?_⟩; (try (conv => whnf))) | (exact Nat.le_refl 1) | ((apply ex3); (focus (with_reducible assumption)); (focus (with_reducible assumption)); (try (conv => whnf))) | ((apply ex2); (focus (with_reducible assumption)); (try (conv => whnf))) | fail)
      refine PureFn.dcq hcb ?_
      conv => whnf
      refine ⟨_, _, hwi, ⟨.refl _, .refl _, trivial⟩, ?_⟩
      (try (conv => whnf)); repeat' (first | (apply And.intro <;> (try (conv => whnf))) | (intro h; first | (with_reducible exact tf0 h) | (with_reducible exact ft0 h) | (with_reducible exact nt0 h) | (with_reducible exact nf0 h) | (exact litz h rfl) | (with_reducible exact tf h (by with_reducible assumption)) | (with_reducible exact tf (by with_reducible assumption) h) | (try (conv => whnf))) | (with_reducible rfl) | (apply True.intro) | (apply infoT; rfl) | (apply bleI; rfl) | (apply fitI; rfl) | (apply cellsI; rfl) | (apply szI; rfl) | (apply guardI; kernel_rfl) | (apply WhenQ.mk; (try (conv => whnf)); rotate_left; (try (conv => whnf)); rotate_right) | (with_reducible assumption) | (apply not_of; with_reducible assumption) | (apply left_of; with_reducible assumption) | (apply left_of; apply left_of; with_reducible assumption) | (apply and_of <;> first | (with_reducible assumption) | (apply not_of; with_reducible assumption))| (refine lin_plan (by kernel_rfl) ?_; (try (conv => whnf))) | (refine ⟨_, _, rfl, idx_map (by with_reducible assumption), rfl, ?_⟩; (try (conv => whnf))) | (refine ⟨rfl, ?_⟩; (try (conv => whnf))) | (exact Nat.le_refl 1) | ((apply ex3); (focus (with_reducible assumption)); (focus (with_reducible assumption)); (try (conv => whnf))) | ((apply ex2); (focus (with_reducible assumption)); (try (conv => whnf))) | fail)
      · refine le_bool ?_
        have h' : p a[i] b[i] = false := by simpa using h
        rw [he, hd, h']; rfl
      · have h' : p a[i] b[i] = true := by simpa using h
        exact ⟨⟨i + 1, hi', by rw [he, hd, h']; rfl⟩, by show a.length - (i + 1) < a.length - i; omega, (by refine Wk.of ?_ ?_ rfl rfl rfl <;> (repeat' (first | (exact trivial) | (exact WkD.same _) | (exact WkO.same _ _ rfl) | (exact WkD.any _) | (exact WkD.nil _ (Or.inl rfl)) | (exact WkD.nil _ (Or.inr rfl)) | (exact WkD.fz _ _ _ rfl (Or.inl ⟨_, rfl⟩) rfl) | (exact WkD.fz _ _ _ rfl (Or.inr rfl) rfl) | (refine WkD.int ?_) | (exact WkD.new' rfl rfl rfl) | (exact WkO.new _ _ rfl) | (refine WkO.vars rfl ?_) | (with_reducible rfl) | (exact rfl) | (refine ⟨?_, ?_⟩) | ((refine wrapA ?_ ?_ ?_); (focus (simp; done)); (focus ((try dsimp only); omega)); (focus ((try dsimp only); omega))) | fail)))⟩
    · have hi' : ¬ i < a.length := by have := ge_dec (m := (a.map rowPV).length) h (by simpa using hi); simp at this; omega
      refine le_bool ?_
      rw [he, (List.drop_eq_nil_of_le (by omega) : a.drop i = []), (List.drop_eq_nil_of_le (by omega) : b.drop i = [])]; rfl
theorem eqf_F (fid : Nat) (p : (List Nd) → (List Nd) → Bool) (hcb : callable Try.prog fid = true) (a b : List (List Nd)) (hl : a.length ≤ 1000) (hw : ∀ x, x ∈ a → ∀ y, y ∈ b → PureFn Try.prog fid [fpv x, fpv y] (.bool (p x y))) (M : Nat → Prop) (w0 : World) :
    DC Try.prog M w0 92 [.pv (.sl (a.map fpv)), .pv (.sl (b.map fpv)), .clo fid [] []] noHeap fun d L' => frz d L' fun q _ => PLe q (.bool (eqL p a b)) := by
  refine DC.intro mixed (fn := Try.f92) rfl rfl rfl ?_
  (try (conv => whnf)); repeat' (first | (apply And.intro <;> (try (conv => whnf))) | (intro h; first | (with_reducible exact tf0 h) | (with_reducible exact ft0 h) | (with_reducible exact nt0 h) | (with_reducible exact nf0 h) | (exact litz h rfl) | (with_reducible exact tf h (by with_reducible assumption)) | (with_reducible exact tf (by with_reducible assumption) h) | (try (conv => whnf))) | (with_reducible rfl) | (apply True.intro) | (apply infoT; rfl) | (apply bleI; rfl) | (apply fitI; rfl) | (apply cellsI; rfl) | (apply szI; rfl) | (apply guardI; kernel_rfl) | (apply WhenQ.mk; (try (conv => whnf)); rotate_left; (try (conv => whnf)); rotate_right) | (with_reducible assumption) | (apply not_of; with_reducible assumption) | (apply left_of; with_reducible assumption) | (apply left_of; apply left_of; with_reducible assumption) | (apply and_of <;> first | (with_reducible assumption) | (apply not_of; with_reducible assumption))| (refine lin_plan (by kernel_rfl) ?_; (try (conv => whnf))) | (refine ⟨_, _, rfl, idx_map (by with_reducible assumption), rfl, ?_⟩; (try (conv => whnf))) | (refine ⟨rfl, ?_⟩; (try (conv => whnf))) | (exact Nat.le_refl 1) | ((apply ex3); (focus (with_reducible assumption)); (focus (with_reducible assumption)); (try (conv => whnf))) | ((apply ex2); (focus (with_reducible assumption)); (try (conv => whnf))) | fail)
  · refine le_bool ?_
    have : ¬ a.length = b.length := by simp at h; omega
    exact (eqL_ne this).symm
  · have hl2 : a.length = b.length := by simp at h; omega
    refine ⟨{ i : Nat // i ≤ a.length ∧ eqL p a b = eqL p (a.drop i) (b.drop i) }, fun i => [(1, .pv (.sl (b.map fpv))), (2, .clo fid [] []), (15, .pv (.sl (a.map fpv))), (16, .pv (i64 (a.map fpv).length)), (17, .pv (i64 i.1))], fun _ => 0, fun _ => [], fun i => a.length - i.1,
      ⟨⟨0, Nat.zero_le _, rfl⟩, (by refine Wk.of ?_ ?_ rfl rfl rfl <;> (repeat' (first | (exact trivial) | (exact WkD.same _) | (exact WkO.same _ _ rfl) | (exact WkD.any _) | (exact WkD.nil _ (Or.inl rfl)) | (exact WkD.nil _ (Or.inr rfl)) | (exact WkD.fz _ _ _ rfl (Or.inl ⟨_, rfl⟩) rfl) | (exact WkD.fz _ _ _ rfl (Or.inr rfl) rfl) | (refine WkD.int ?_) | (exact WkD.new' rfl rfl rfl) | (exact WkO.new _ _ rfl) | (refine WkO.vars rfl ?_) | (with_reducible rfl) | (exact rfl) | (refine ⟨?_, ?_⟩) | ((refine wrapA ?_ ?_ ?_); (focus (simp; done)); (focus ((try dsimp only); omega)); (focus ((try dsimp only); omega))) | fail)))⟩, ?_⟩
    rintro ⟨i, hi, he⟩
    (try (conv => whnf)); repeat' (first | (apply And.intro <;> (try (conv => whnf))) | (intro h; first | (with_reducible exact tf0 h) | (with_reducible exact ft0 h) | (with_reducible exact nt0 h) | (with_reducible exact nf0 h) | (exact litz h rfl) | (with_reducible exact tf h (by with_reducible assumption)) | (with_reducible exact tf (by with_reducible assumption) h) | (try (conv => whnf))) | (with_reducible rfl) | (apply True.intro) | (apply infoT; rfl) | (apply bleI; rfl) | (apply fitI; rfl) | (apply cellsI; rfl) | (apply szI; rfl) | (apply guardI; kernel_rfl) | (apply WhenQ.mk; (try (conv => whnf)); rotate_left; (try (conv => whnf)); rotate_right) | (with_reducible assumption) | (apply not_of; with_reducible assumption) | (apply left_of; with_reducible assumption) | (apply left_of; apply left_of; with_reducible assumption) | (apply and_of <;> first | (with_reducible assumption) | (apply not_of; with_reducible assumption))| (refine lin_plan (by kernel_rfl) ?_; (try (conv => whnf))) | (refine ⟨_, _, rfl, idx_map (by with_reducible assumption), rfl, ?_⟩; (try (conv => whnf))) | (refine ⟨rfl, ?_⟩; (try (conv => whnf))) | (exact Nat.le_refl 1) | ((apply ex3); (focus (with_reducible assumption)); (focus (with_reducible assumption)); (try (conv => whnf))) | ((apply ex2); (focus (with_reducible assumption)); (try (conv => whnf))) | fail)
    · have hi' : i < a.length := by simpa using lt_dec h
      have hj' : i < b.length := by omega
      have hn : a[i]? = some a[i] := List.getElem?_eq_getElem hi'
      have hm : b[i]? = some b[i] := List.getElem?_eq_getElem hj'
      have hd := eqL_drop (p := p) hi' hj'
      have hwi := hw _ (List.getElem_mem hi') _ (List.getElem_mem hj')
      refine ⟨_, _, rfl, idx_map hn, rfl, ?_⟩
      (try (conv => whnf)); repeat' (first | (apply And.intro <;> (try (conv => whnf))) | (intro h; first | (with_reducible exact tf0 h) | (with_reducible exact ft0 h) | (with_reducible exact nt0 h) | (with_reducible exact nf0 h) | (exact litz h rfl) | (with_reducible exact tf h (by with_reducible assumption)) | (with_reducible exact tf (by with_reducible assumption) h) | (try (conv => whnf))) | (with_reducible rfl) | (apply True.intro) | (apply infoT; rfl) | (apply bleI; rfl) | (apply fitI; rfl) | (apply cellsI; rfl) | (apply szI; rfl) | (apply guardI; kernel_rfl) | (apply WhenQ.mk; (try (conv => whnf)); rotate_left; (try (conv => whnf)); rotate_right) | (with_reducible assumption) | (apply not_of; with_reducible assumption) | (apply left_of; with_reducible assumption) | (apply left_of; apply left_of; with_reducible assumption) | (apply and_of <;> first | (with_reducible assumption) | (apply not_of; with_reducible assumption))| (refine lin_plan (by kernel_rfl) ?_; (try (conv => whnf))) | (refine ⟨_, _, rfl, idx_map (by with_reducible assumption), rfl, ?_⟩; (try (conv => whnf))) | (refine ⟨rfl, ?_⟩; (try (conv => whnf))) | (exact Nat.le_refl 1) | ((apply ex3); (focus (with_reducible assumption)); (focus (with_reducible assumption)); (try (conv => whnf))) | ((apply ex2); (focus (with_reducible assumption)); (try (conv => whnf))) | fail)
      refine PureFn.dcq hcb ?_
      conv => whnf
      refine ⟨_, _, hwi, ⟨.refl _, .refl _, trivial⟩, ?_⟩
      (try (conv => whnf)); repeat' (first | (apply And.intro <;> (try (conv => whnf))) | (intro h; first | (with_reducible exact tf0 h) | (with_reducible exact ft0 h) | (with_reducible exact nt0 h) | (with_reducible exact nf0 h) | (exact litz h rfl) | (with_reducible exact tf h (by with_reducible assumption)) | (with_reducible exact tf (by with_reducible assumption) h) | (try (conv => whnf))) | (with_reducible rfl) | (apply True.intro) | (apply infoT; rfl) | (apply bleI; rfl) | (apply fitI; rfl) | (apply cellsI; rfl) | (apply szI; rfl) | (apply guardI; kernel_rfl) | (apply WhenQ.mk; (try (conv => whnf)); rotate_left; (try (conv => whnf)); rotate_right) | (with_reducible assumption) | (apply not_of; with_reducible assumption) | (apply left_of; with_reducible assumption) | (apply left_of; apply left_of; with_reducible assumption) | (apply and_of <;> first | (with_reducible assumption) | (apply not_of; with_reducible assumption))| (refine lin_plan (by kernel_rfl) ?_; (try (conv => whnf))) | (refine ⟨_, _, rfl, idx_map (by with_reducible assumption), rfl, ?_⟩; (try (conv => whnf))) | (refine ⟨rfl, ?_⟩; (try (conv => whnf))) | (exact Nat.le_refl 1) | ((apply ex3); (focus (with_reducible assumption)); (focus (with_reducible assumption)); (try (conv => whnf))) | ((apply ex2); (focus (with_reducible assumption)); (try (conv => whnf))) | fail)
      · refine le_bool ?_
        have h' : p a[i] b[i] = false := by simpa using h
        rw [he, hd, h']; rfl
      · have h' : p a[i] b[i] = true := by simpa using h
        exact ⟨⟨i + 1, hi', by rw [he, hd, h']; rfl⟩, by show a.length - (i + 1) < a.length - i; omega, (by refine Wk.of ?_ ?_ rfl rfl rfl <;> (repeat' (first | (exact trivial) | (exact WkD.same _) | (exact WkO.same _ _ rfl) | (exact WkD.any _) | (exact WkD.nil _ (Or.inl rfl)) | (exact WkD.nil _ (Or.inr rfl)) | (exact WkD.fz _ _ _ rfl (Or.inl ⟨_, rfl⟩) rfl) | (exact WkD.fz _ _ _ rfl (Or.inr rfl) rfl) | (refine WkD.int ?_) | (exact WkD.new' rfl rfl rfl) | (exact WkO.new _ _ rfl) | (refine WkO.vars rfl ?_) | (with_reducible rfl) | (exact rfl) | (refine ⟨?_, ?_⟩) | ((refine wrapA ?_ ?_ ?_); (focus (simp; done)); (focus ((try dsimp only); omega)); (focus ((try dsimp only); omega))) | fail)))⟩
    · have hi' : ¬ i < a.length := by have := ge_dec (m := (a.map fpv).length) h (by simpa using hi); simp at this; omega
      refine le_bool ?_
      rw [he, (List.drop_eq_nil_of_le (by omega) : a.drop i = []), (List.drop_eq_nil_of_le (by omega) : b.drop i = [])]; rfl
theorem eqf_A (fid : Nat) (p : Asg → Asg → Bool) (hcb : callable Try.prog fid = true) (a b : List Asg) (hl : a.length ≤ 1000) (hw : ∀ x, x ∈ a → ∀ y, y ∈ b → PureFn Try.prog fid [Asg.pv x, Asg.pv y] (.bool (p x y))) (M : Nat → Prop) (w0 : World) :
    DC Try.prog M w0 95 [.pv (.sl (a.map Asg.pv)), .pv (.sl (b.map Asg.pv)), .clo fid [] []] noHeap fun d L' => frz d L' fun q _ => PLe q (.bool (eqL p a b)) := by
  refine DC.intro mixed (fn := Try.f95) rfl rfl rfl ?_
  (try (conv => whnf)); repeat' (first | (apply And.intro <;> (try (conv => whnf))) | (intro h; first | (with_reducible exact tf0 h) | (with_reducible exact ft0 h) | (with_reducible exact nt0 h) | (with_reducible exact nf0 h) | (exact litz h rfl) | (with_reducible exact tf h (by with_reducible assumption)) | (with_reducible exact tf (by with_reducible assumption) h) | (try (conv => whnf))) | (with_reducible rfl) | (apply True.intro) | (apply infoT; rfl) | (apply bleI; rfl) | (apply fitI; rfl) | (apply cellsI; rfl) | (apply szI; rfl) | (apply guardI; kernel_rfl) | (apply WhenQ.mk; (try (conv => whnf)); rotate_left; (try (conv => whnf)); rotate_right) | (with_reducible assumption) | (apply not_of; with_reducible assumption) | (apply left_of; with_reducible assumption) | (apply left_of; apply left_of; with_reducible assumption) | (apply and_of <;> first | (with_reducible assumption) | (apply not_of; with_reducible assumption))| (refine lin_plan (by kernel_rfl) ?_; (try (conv => whnf))) | (refine ⟨_, _, rfl, idx_map (by with_reducible assumption), rfl, ?_⟩; (try (conv => whnf))) | (refine ⟨rfl, ?_⟩; (try (conv => whnf))) | (exact Nat.le_refl 1) | ((apply ex3); (focus (with_reducible assumption)); (focus (with_reducible assumption)); (try (conv => whnf))) | ((apply ex2); (focus (with_reducible assumption)); (try (conv => whnf))) | fail)
  · refine le_bool ?_
    have : ¬ a.length = b.length := by simp at h; omega
    exact (eqL_ne this).symm
  · have hl2 : a.length = b.length := by simp at h; omega
    refine ⟨{ i : Nat // i ≤ a.length ∧ eqL p a b = eqL p (a.drop i) (b.drop i) }, fun i => [(1, .pv (.sl (b.map Asg.pv))), (2, .clo fid [] []), (15, .pv (.sl (a.map Asg.pv))), (16, .pv (i64 (a.map Asg.pv).length)), (17, .pv (i64 i.1))], fun _ => 0, fun _ => [], fun i => a.length - i.1,
      ⟨⟨0, Nat.zero_le _, rfl⟩, (by refine Wk.of ?_ ?_ rfl rfl rfl <;> (repeat' (first | (exact trivial) | (exact WkD.same _) | (exact WkO.same _ _ rfl) | (exact WkD.any _) | (exact WkD.nil _ (Or.inl rfl)) | (exact WkD.nil _ (Or.inr rfl)) | (exact WkD.fz _ _ _ rfl (Or.inl ⟨_, rfl⟩) rfl) | (exact WkD.fz _ _ _ rfl (Or.inr rfl) rfl) | (refine WkD.int ?_) | (exact WkD.new' rfl rfl rfl) | (exact WkO.new _ _ rfl) | (refine WkO.vars rfl ?_) | (with_reducible rfl) | (exact rfl) | (refine ⟨?_, ?_⟩) | ((refine wrapA ?_ ?_ ?_); (focus (simp; done)); (focus ((try dsimp only); omega)); (focus ((try dsimp only); omega))) | fail)))⟩, ?_⟩
    rintro ⟨i, hi, he⟩
    (try (conv => whnf)); repeat' (first | (apply And.intro <;> (try (conv => whnf))) | (intro h; first | (with_reducible exact tf0 h) | (with_reducible exact ft0 h) | (with_reducible exact nt0 h) | (with_reducible exact nf0 h) | (exact litz h rfl) | (with_reducible exact tf h (by with_reducible assumption)) | (with_reducible exact tf (by with_reducible assumption) h) | (try (conv => whnf))) | (with_reducible rfl) | (apply True.intro) | (apply infoT; rfl) | (apply bleI; rfl) | (apply fitI; rfl) | (apply cellsI; rfl) | (apply szI; rfl) | (apply guardI; kernel_rfl) | (apply WhenQ.mk; (try (conv => whnf)); rotate_left; (try (conv => whnf)); rotate_right) | (with_reducible assumption) | (apply not_of; with_reducible assumption) | (apply left_of; with_reducible assumption) | (apply left_of; apply left_of; with_reducible assumption) | (apply and_of <;> first | (with_reducible assumption) | (apply not_of; with_reducible assumption))| (refine lin_plan (by kernel_rfl) ?_; (try (conv => whnf))) | (refine ⟨_, _, rfl, idx_map (by with_reducible assumption), rfl, ?_⟩; (try (conv => whnf))) | (refine ⟨rfl, ?_⟩; (try (conv => whnf))) | (exact Nat.le_refl 1) | ((apply ex3); (focus (with_reducible assumption)); (focus (with_reducible assumption)); (try (conv => whnf))) | ((apply ex2); (focus (with_reducible assumption)); (try (conv => whnf))) | fail)
    · have hi' : i < a.length := by simpa using lt_dec h
      have hj' : i < b.length := by omega
      have hn : a[i]? = some a[i] := List.getElem?_eq_getElem hi'
      have hm : b[i]? = some b[i] := List.getElem?_eq_getElem hj'
      have hd := eqL_drop (p := p) hi' hj'
      have hwi := hw _ (List.getElem_mem hi') _ (List.getElem_mem hj')
      refine ⟨_, _, rfl, idx_map hn, rfl, ?_⟩
      (try (conv => whnf)); repeat' (first | (apply And.intro <;> (try (conv => whnf))) | (intro h; first | (with_reducible exact tf0 h) | (with_reducible exact ft0 h) | (with_reducible exact nt0 h) | (with_reducible exact nf0 h) | (exact litz h rfl) | (with_reducible exact tf h (by with_reducible assumption)) | (with_reducible exact tf (by with_reducible assumption) h) | (try (conv => whnf))) | (with_reducible rfl) | (apply True.intro) | (apply infoT; rfl) | (apply bleI; rfl) | (apply fitI; rfl) | (apply cellsI; rfl) | (apply szI; rfl) | (apply guardI; kernel_rfl) | (apply WhenQ.mk; (try (conv => whnf)); rotate_left; (try (conv => whnf)); rotate_right) | (with_reducible assumption) | (apply not_of; with_reducible assumption) | (apply left_of; with_reducible assumption) | (apply left_of; apply left_of; with_reducible assumption) | (apply and_of <;> first | (with_reducible assumption) | (apply not_of; with_reducible assumption))| (refine lin_plan (by kernel_rfl) ?_; (try (conv => whnf))) | (refine ⟨_, _, rfl, idx_map (by with_reducible assumption), rfl, ?_⟩; (try (conv => whnf))) | (refine ⟨rfl, ?_⟩; (try (conv => whnf))) | (exact Nat.le_refl 1) | ((apply ex3); (focus (with_reducible assumption)); (focus (with_reducible assumption)); (try (conv => whnf))) | ((apply ex2); (focus (with_reducible assumption)); (try (conv => whnf))) | fail)
      refine PureFn.dcq hcb ?_
      conv => whnf
      refine ⟨_, _, hwi, ⟨.refl _, .refl _, trivial⟩, ?_⟩
      (try (conv => whnf)); repeat' (first | (apply And.intro <;> (try (conv => whnf))) | (intro h; first | (with_reducible exact tf0 h) | (with_reducible exact ft0 h) | (with_reducible exact nt0 h) | (with_reducible exact nf0 h) | (exact litz h rfl) | (with_reducible exact tf h (by with_reducible assumption)) | (with_reducible exact tf (by with_reducible assumption) h) | (try (conv => whnf))) | (with_reducible rfl) | (apply True.intro) | (apply infoT; rfl) | (apply bleI; rfl) | (apply fitI; rfl) | (apply cellsI; rfl) | (apply szI; rfl) | (apply guardI; kernel_rfl) | (apply WhenQ.mk; (try (conv => whnf)); rotate_left; (try (conv => whnf)); rotate_right) | (with_reducible assumption) | (apply not_of; with_reducible assumption) | (apply left_of; with_reducible assumption) | (apply left_of; apply left_of; with_reducible assumption) | (apply and_of <;> first | (with_reducible assumption) | (apply not_of; with_reducible assumption))| (refine lin_plan (by kernel_rfl) ?_; (try (conv => whnf))) | (refine ⟨_, _, rfl, idx_map (by with_reducible assumption), rfl, ?_⟩; (try (conv => whnf))) | (refine ⟨rfl, ?_⟩; (try (conv => whnf))) | (exact Nat.le_refl 1) | ((apply ex3); (focus (with_reducible assumption)); (focus (with_reducible assumption)); (try (conv => whnf))) | ((apply ex2); (focus (with_reducible assumption)); (try (conv => whnf))) | fail)
      · refine le_bool ?_
        have h' : p a[i] b[i] = false := by simpa using h
        rw [he, hd, h']; rfl
      · have h' : p a[i] b[i] = true := by simpa using h
        exact ⟨⟨i + 1, hi', by rw [he, hd, h']; rfl⟩, by show a.length - (i + 1) < a.length - i; omega, (by refine Wk.of ?_ ?_ rfl rfl rfl <;> (repeat' (first | (exact trivial) | (exact WkD.same _) | (exact WkO.same _ _ rfl) | (exact WkD.any _) | (exact WkD.nil _ (Or.inl rfl)) | (exact WkD.nil _ (Or.inr rfl)) | (exact WkD.fz _ _ _ rfl (Or.inl ⟨_, rfl⟩) rfl) | (exact WkD.fz _ _ _ rfl (Or.inr rfl) rfl) | (refine WkD.int ?_) | (exact WkD.new' rfl rfl rfl) | (exact WkO.new _ _ rfl) | (refine WkO.vars rfl ?_) | (with_reducible rfl) | (exact rfl) | (refine ⟨?_, ?_⟩) | ((refine wrapA ?_ ?_ ?_); (focus (simp; done)); (focus ((try dsimp only); omega)); (focus ((try dsimp only); omega))) | fail)))⟩
    · have hi' : ¬ i < a.length := by have := ge_dec (m := (a.map Asg.pv).length) h (by simpa using hi); simp at this; omega
      refine le_bool ?_
      rw [he, (List.drop_eq_nil_of_le (by omega) : a.drop i = []), (List.drop_eq_nil_of_le (by omega) : b.drop i = [])]; rfl
def asS (x y : Asg) : Bool := bif x.fact == y.fact then same x.to y.to else false
theorem as1 (x y : Asg) : PureFn Try.prog 91 [x.pv, y.pv] (.bool (asS x y)) := by
  refine PureFn.intro mixed (fn := Try.f91) rfl rfl rfl fun M w0 => ?_
  (try (conv => whnf)); repeat' (first | (apply And.intro <;> (try (conv => whnf))) | (intro h; first | (with_reducible exact tf0 h) | (with_reducible exact ft0 h) | (with_reducible exact nt0 h) | (with_reducible exact nf0 h) | (exact litz h rfl) | (with_reducible exact tf h (by with_reducible assumption)) | (with_reducible exact tf (by with_reducible assumption) h) | (try (conv => whnf))) | (with_reducible rfl) | (apply True.intro) | (apply infoT; rfl) | (apply bleI; rfl) | (apply fitI; rfl) | (apply cellsI; rfl) | (apply szI; rfl) | (apply guardI; kernel_rfl) | (apply WhenQ.mk; (try (conv => whnf)); rotate_left; (try (conv => whnf)); rotate_right) | (with_reducible assumption) | (apply not_of; with_reducible assumption) | (apply left_of; with_reducible assumption) | (apply left_of; apply left_of; with_reducible assumption) | (apply and_of <;> first | (with_reducible assumption) | (apply not_of; with_reducible assumption))| (refine lin_plan (by kernel_rfl) ?_; (try (conv => whnf))) | (refine ⟨_, _, rfl, idx_map (by with_reducible assumption), rfl, ?_⟩; (try (conv => whnf))) | (refine ⟨rfl, ?_⟩; (try (conv => whnf))) | (exact Nat.le_refl 1) | ((apply ex3); (focus (with_reducible assumption)); (focus (with_reducible assumption)); (try (conv => whnf))) | ((apply ex2); (focus (with_reducible assumption)); (try (conv => whnf))) | (refine PureFn.dcq (f := 64) rfl ?_; (try (conv => whnf))) | ((refine ⟨_, _, fm_Same ?_ ?_, ?_, ?_⟩); rotate_left 2; (focus (first | (refine ⟨?_, ?_, trivial⟩ <;> first | (exact PLe.refl _) | (exact PLe.nil)) | (exact trivial))); (try (conv => whnf))) | (refine ⟨_, (by (conv => whnf); exact fm_Same _ _), rfl, ?_⟩; (try (conv => whnf))) | fail)
  all_goals exact .refl _
def HQ (a b : Act) : List (Nat × DObj) := [(0, .var (cellsA a)), (1, .var (cellsA b)), (2, .var [.clo 91 [] []])]
theorem same2 {M : Nat → Prop} {w0 : World} (a b : Act) (x y : List Asg) (hl : x.length ≤ 1000) (base : Nat) (K : DV → DH → Prop) (hK : K (.pv (.bool (eqL asS x y))) ⟨3, 0, base, objsOf (HQ a b)⟩) :
    DC Try.prog M w0 94 [.pv (postPV x), .pv (postPV y), .ref 2 0] ⟨3, 0, base, objsOf (HQ a b)⟩ K := by
  refine DC.weaken (DC.intro mixed (fn := Try.f94) rfl rfl rfl ?_)
  (try (conv => whnf)); repeat' (first | (apply And.intro <;> (try (conv => whnf))) | (intro h; first | (with_reducible exact tf0 h) | (with_reducible exact ft0 h) | (with_reducible exact nt0 h) | (with_reducible exact nf0 h) | (exact litz h rfl) | (with_reducible exact tf h (by with_reducible assumption)) | (with_reducible exact tf (by with_reducible assumption) h) | (try (conv => whnf))) | (with_reducible rfl) | (apply True.intro) | (apply infoT; rfl) | (apply bleI; rfl) | (apply fitI; rfl) | (apply cellsI; rfl) | (apply szI; rfl) | (apply guardI; kernel_rfl) | (apply WhenQ.mk; (try (conv => whnf)); rotate_left; (try (conv => whnf)); rotate_right) | (with_reducible assumption) | (apply not_of; with_reducible assumption) | (apply left_of; with_reducible assumption) | (apply left_of; apply left_of; with_reducible assumption) | (apply and_of <;> first | (with_reducible assumption) | (apply not_of; with_reducible assumption))| (refine lin_plan (by kernel_rfl) ?_; (try (conv => whnf))) | (refine ⟨_, _, rfl, idx_map (by with_reducible assumption), rfl, ?_⟩; (try (conv => whnf))) | (refine ⟨rfl, ?_⟩; (try (conv => whnf))) | (exact Nat.le_refl 1) | ((apply ex3); (focus (with_reducible assumption)); (focus (with_reducible assumption)); (try (conv => whnf))) | ((apply ex2); (focus (with_reducible assumption)); (try (conv => whnf))) | fail)
  refine DC.alone (p := .bool (eqL asS x y)) rfl (fun M w0 => eqf_A 91 asS rfl x y hl (fun s _ t _ => as1 s t) M w0) ?_
  (try (conv => whnf)); repeat' (first | (apply And.intro <;> (try (conv => whnf))) | (intro h; first | (with_reducible exact tf0 h) | (with_reducible exact ft0 h) | (with_reducible exact nt0 h) | (with_reducible exact nf0 h) | (exact litz h rfl) | (with_reducible exact tf h (by with_reducible assumption)) | (with_reducible exact tf (by with_reducible assumption) h) | (try (conv => whnf))) | (with_reducible rfl) | (apply True.intro) | (apply infoT; rfl) | (apply bleI; rfl) | (apply fitI; rfl) | (apply cellsI; rfl) | (apply szI; rfl) | (apply guardI; kernel_rfl) | (apply WhenQ.mk; (try (conv => whnf)); rotate_left; (try (conv => whnf)); rotate_right) | (with_reducible assumption) | (apply not_of; with_reducible assumption) | (apply left_of; with_reducible assumption) | (apply left_of; apply left_of; with_reducible assumption) | (apply and_of <;> first | (with_reducible assumption) | (apply not_of; with_reducible assumption))| (refine lin_plan (by kernel_rfl) ?_; (try (conv => whnf))) | (refine ⟨_, _, rfl, idx_map (by with_reducible assumption), rfl, ?_⟩; (try (conv => whnf))) | (refine ⟨rfl, ?_⟩; (try (conv => whnf))) | (exact Nat.le_refl 1) | ((apply ex3); (focus (with_reducible assumption)); (focus (with_reducible assumption)); (try (conv => whnf))) | ((apply ex2); (focus (with_reducible assumption)); (try (conv => whnf))) | fail)
  exact ⟨.pv (.bool (eqL asS x y)), 3, HQ a b, (by refine Wk.of ?_ ?_ rfl rfl rfl <;> (repeat' (first | (exact trivial) | (exact WkD.same _) | (exact WkO.same _ _ rfl) | (exact WkD.any _) | (exact WkD.nil _ (Or.inl rfl)) | (exact WkD.nil _ (Or.inr rfl)) | (exact WkD.fz _ _ _ rfl (Or.inl ⟨_, rfl⟩) rfl) | (exact WkD.fz _ _ _ rfl (Or.inr rfl) rfl) | (refine WkD.int ?_) | (exact WkD.new' rfl rfl rfl) | (exact WkO.new _ _ rfl) | (refine WkO.vars rfl ?_) | (with_reducible rfl) | (exact rfl) | (refine ⟨?_, ?_⟩) | ((refine wrapA ?_ ?_ ?_); (focus (simp; done)); (focus ((try dsimp only); omega)); (focus ((try dsimp only); omega))) | fail))), hK⟩
theorem eqf_P {M : Nat → Prop} {w0 : World} (a b : Act) (s t : List (List Asg)) (hl : s.length ≤ 1000) (hs : ∀ x, x ∈ s → x.length ≤ 1000) (base : Nat) (K : DV → DH → Prop) (hK : K (.pv (.bool (eqL (eqL asS) s t))) ⟨3, 0, base, objsOf (HQ a b)⟩) :
    DC Try.prog M w0 93 [.pv (.sl (s.map postPV)), .pv (.sl (t.map postPV)), .clo 94 [] [.ref 2 0]] ⟨3, 0, base, objsOf (HQ a b)⟩ K := by
  refine DC.weaken (DC.intro mixed (fn := Try.f93) rfl rfl rfl ?_)
  (try (conv => whnf)); repeat' (first | (apply And.intro <;> (try (conv => whnf))) | (intro h; first | (with_reducible exact tf0 h) | (with_reducible exact ft0 h) | (with_reducible exact nt0 h) | (with_reducible exact nf0 h) | (exact litz h rfl) | (with_reducible exact tf h (by with_reducible assumption)) | (with_reducible exact tf (by with_reducible assumption) h) | (try (conv => whnf))) | (with_reducible rfl) | (apply True.intro) | (apply infoT; rfl) | (apply bleI; rfl) | (apply fitI; rfl) | (apply cellsI; rfl) | (apply szI; rfl) | (apply guardI; kernel_rfl) | (apply WhenQ.mk; (try (conv => whnf)); rotate_left; (try (conv => whnf)); rotate_right) | (with_reducible assumption) | (apply not_of; with_reducible assumption) | (apply left_of; with_reducible assumption) | (apply left_of; apply left_of; with_reducible assumption) | (apply and_of <;> first | (with_reducible assumption) | (apply not_of; with_reducible assumption))| (refine lin_plan (by kernel_rfl) ?_; (try (conv => whnf))) | (refine ⟨_, _, rfl, idx_map (by with_reducible assumption), rfl, ?_⟩; (try (conv => whnf))) | (refine ⟨rfl, ?_⟩; (try (conv => whnf))) | (exact Nat.le_refl 1) | ((apply ex3); (focus (with_reducible assumption)); (focus (with_reducible assumption)); (try (conv => whnf))) | ((apply ex2); (focus (with_reducible assumption)); (try (conv => whnf))) | fail)
  · have h1 : ¬ s.length = t.length := by simp at h; omega
    rw [eqL_ne h1] at hK
    exact ⟨.pv (.bool false), 3, HQ a b, (by refine Wk.of ?_ ?_ rfl rfl rfl <;> (repeat' (first | (exact trivial) | (exact WkD.same _) | (exact WkO.same _ _ rfl) | (exact WkD.any _) | (exact WkD.nil _ (Or.inl rfl)) | (exact WkD.nil _ (Or.inr rfl)) | (exact WkD.fz _ _ _ rfl (Or.inl ⟨_, rfl⟩) rfl) | (exact WkD.fz _ _ _ rfl (Or.inr rfl) rfl) | (refine WkD.int ?_) | (exact WkD.new' rfl rfl rfl) | (exact WkO.new _ _ rfl) | (refine WkO.vars rfl ?_) | (with_reducible rfl) | (exact rfl) | (refine ⟨?_, ?_⟩) | ((refine wrapA ?_ ?_ ?_); (focus (simp; done)); (focus ((try dsimp only); omega)); (focus ((try dsimp only); omega))) | fail))), hK⟩
  have hl2 : s.length = t.length := by simp at h; omega
  refine ⟨{ i : Nat // i ≤ s.length ∧ eqL (eqL asS) s t = eqL (eqL asS) (s.drop i) (t.drop i) }, fun i => [(1, .pv (.sl (t.map postPV))), (2, .clo 94 [] [.ref 2 0]), (15, .pv (.sl (s.map postPV))), (16, .pv (i64 (s.map postPV).length)), (17, .pv (i64 i.1))], fun _ => 3, fun _ => HQ a b, fun i => s.length - i.1,
      ⟨⟨0, Nat.zero_le _, rfl⟩, (by refine Wk.of ?_ ?_ rfl rfl rfl <;> (repeat' (first | (exact trivial) | (exact WkD.same _) | (exact WkO.same _ _ rfl) | (exact WkD.any _) | (exact WkD.nil _ (Or.inl rfl)) | (exact WkD.nil _ (Or.inr rfl)) | (exact WkD.fz _ _ _ rfl (Or.inl ⟨_, rfl⟩) rfl) | (exact WkD.fz _ _ _ rfl (Or.inr rfl) rfl) | (refine WkD.int ?_) | (exact WkD.new' rfl rfl rfl) | (exact WkO.new _ _ rfl) | (refine WkO.vars rfl ?_) | (with_reducible rfl) | (exact rfl) | (refine ⟨?_, ?_⟩) | ((refine wrapA ?_ ?_ ?_); (focus (simp; done)); (focus ((try dsimp only); omega)); (focus ((try dsimp only); omega))) | fail)))⟩, ?_⟩
  rintro ⟨i, hi, he⟩
  (try (conv => whnf)); repeat' (first | (apply And.intro <;> (try (conv => whnf))) | (intro h; first | (with_reducible exact tf0 h) | (with_reducible exact ft0 h) | (with_reducible exact nt0 h) | (with_reducible exact nf0 h) | (exact litz h rfl) | (with_reducible exact tf h (by with_reducible assumption)) | (with_reducible exact tf (by with_reducible assumption) h) | (try (conv => whnf))) | (with_reducible rfl) | (apply True.intro) | (apply infoT; rfl) | (apply bleI; rfl) | (apply fitI; rfl) | (apply cellsI; rfl) | (apply szI; rfl) | (apply guardI; kernel_rfl) | (apply WhenQ.mk; (try (conv => whnf)); rotate_left; (try (conv => whnf)); rotate_right) | (with_reducible assumption) | (apply not_of; with_reducible assumption) | (apply left_of; with_reducible assumption) | (apply left_of; apply left_of; with_reducible assumption) | (apply and_of <;> first | (with_reducible assumption) | (apply not_of; with_reducible assumption))| (refine lin_plan (by kernel_rfl) ?_; (try (conv => whnf))) | (refine ⟨_, _, rfl, idx_map (by with_reducible assumption), rfl, ?_⟩; (try (conv => whnf))) | (refine ⟨rfl, ?_⟩; (try (conv => whnf))) | (exact Nat.le_refl 1) | ((apply ex3); (focus (with_reducible assumption)); (focus (with_reducible assumption)); (try (conv => whnf))) | ((apply ex2); (focus (with_reducible assumption)); (try (conv => whnf))) | fail)
  · have hi' : i < s.length := by simpa using lt_dec h
    have hj' : i < t.length := by omega
    have hn : s[i]? = some s[i] := List.getElem?_eq_getElem hi'
    have hm : t[i]? = some t[i] := List.getElem?_eq_getElem hj'
    have hd := eqL_drop (p := eqL asS) hi' hj'
    refine ⟨_, _, rfl, idx_map hn, rfl, ?_⟩
    (try (conv => whnf)); repeat' (first | (apply And.intro <;> (try (conv => whnf))) | (intro h; first | (with_reducible exact tf0 h) | (with_reducible exact ft0 h) | (with_reducible exact nt0 h) | (with_reducible exact nf0 h) | (exact litz h rfl) | (with_reducible exact tf h (by with_reducible assumption)) | (with_reducible exact tf (by with_reducible assumption) h) | (try (conv => whnf))) | (with_reducible rfl) | (apply True.intro) | (apply infoT; rfl) | (apply bleI; rfl) | (apply fitI; rfl) | (apply cellsI; rfl) | (apply szI; rfl) | (apply guardI; kernel_rfl) | (apply WhenQ.mk; (try (conv => whnf)); rotate_left; (try (conv => whnf)); rotate_right) | (with_reducible assumption) | (apply not_of; with_reducible assumption) | (apply left_of; with_reducible assumption) | (apply left_of; apply left_of; with_reducible assumption) | (apply and_of <;> first | (with_reducible assumption) | (apply not_of; with_reducible assumption))| (refine lin_plan (by kernel_rfl) ?_; (try (conv => whnf))) | (refine ⟨_, _, rfl, idx_map (by with_reducible assumption), rfl, ?_⟩; (try (conv => whnf))) | (refine ⟨rfl, ?_⟩; (try (conv => whnf))) | (exact Nat.le_refl 1) | ((apply ex3); (focus (with_reducible assumption)); (focus (with_reducible assumption)); (try (conv => whnf))) | ((apply ex2); (focus (with_reducible assumption)); (try (conv => whnf))) | fail)
    refine same2 a b s[i] t[i] (hs _ (List.getElem_mem hi')) _ _ ?_
    (try (conv => whnf)); repeat' (first | (apply And.intro <;> (try (conv => whnf))) | (intro h; first | (with_reducible exact tf0 h) | (with_reducible exact ft0 h) | (with_reducible exact nt0 h) | (with_reducible exact nf0 h) | (exact litz h rfl) | (with_reducible exact tf h (by with_reducible assumption)) | (with_reducible exact tf (by with_reducible assumption) h) | (try (conv => whnf))) | (with_reducible rfl) | (apply True.intro) | (apply infoT; rfl) | (apply bleI; rfl) | (apply fitI; rfl) | (apply cellsI; rfl) | (apply szI; rfl) | (apply guardI; kernel_rfl) | (apply WhenQ.mk; (try (conv => whnf)); rotate_left; (try (conv => whnf)); rotate_right) | (with_reducible assumption) | (apply not_of; with_reducible assumption) | (apply left_of; with_reducible assumption) | (apply left_of; apply left_of; with_reducible assumption) | (apply and_of <;> first | (with_reducible assumption) | (apply not_of; with_reducible assumption))| (refine lin_plan (by kernel_rfl) ?_; (try (conv => whnf))) | (refine ⟨_, _, rfl, idx_map (by with_reducible assumption), rfl, ?_⟩; (try (conv => whnf))) | (refine ⟨rfl, ?_⟩; (try (conv => whnf))) | (exact Nat.le_refl 1) | ((apply ex3); (focus (with_reducible assumption)); (focus (with_reducible assumption)); (try (conv => whnf))) | ((apply ex2); (focus (with_reducible assumption)); (try (conv => whnf))) | fail)
    · have h' : eqL asS s[i] t[i] = false := by simpa using h
      rw [he, hd, h'] at hK
      exact ⟨.pv (.bool false), 3, HQ a b, (by refine Wk.of ?_ ?_ rfl rfl rfl <;> (repeat' (first | (exact trivial) | (exact WkD.same _) | (exact WkO.same _ _ rfl) | (exact WkD.any _) | (exact WkD.nil _ (Or.inl rfl)) | (exact WkD.nil _ (Or.inr rfl)) | (exact WkD.fz _ _ _ rfl (Or.inl ⟨_, rfl⟩) rfl) | (exact WkD.fz _ _ _ rfl (Or.inr rfl) rfl) | (refine WkD.int ?_) | (exact WkD.new' rfl rfl rfl) | (exact WkO.new _ _ rfl) | (refine WkO.vars rfl ?_) | (with_reducible rfl) | (exact rfl) | (refine ⟨?_, ?_⟩) | ((refine wrapA ?_ ?_ ?_); (focus (simp; done)); (focus ((try dsimp only); omega)); (focus ((try dsimp only); omega))) | fail))), hK⟩
    · have h' : eqL asS s[i] t[i] = true := by simpa using h
      exact ⟨⟨i + 1, hi', by rw [he, hd, h']; rfl⟩, by show s.length - (i + 1) < s.length - i; omega, (by refine Wk.of ?_ ?_ rfl rfl rfl <;> (repeat' (first | (exact trivial) | (exact WkD.same _) | (exact WkO.same _ _ rfl) | (exact WkD.any _) | (exact WkD.nil _ (Or.inl rfl)) | (exact WkD.nil _ (Or.inr rfl)) | (exact WkD.fz _ _ _ rfl (Or.inl ⟨_, rfl⟩) rfl) | (exact WkD.fz _ _ _ rfl (Or.inr rfl) rfl) | (refine WkD.int ?_) | (exact WkD.new' rfl rfl rfl) | (exact WkO.new _ _ rfl) | (refine WkO.vars rfl ?_) | (with_reducible rfl) | (exact rfl) | (refine ⟨?_, ?_⟩) | ((refine wrapA ?_ ?_ ?_); (focus (simp; done)); (focus ((try dsimp only); omega)); (focus ((try dsimp only); omega))) | fail)))⟩
  · have hi' : ¬ i < s.length := by have := ge_dec (m := (s.map postPV).length) h (by simpa using hi); simp at this; omega
    rw [he, (List.drop_eq_nil_of_le (by omega) : s.drop i = []), (List.drop_eq_nil_of_le (by omega) : t.drop i = [])] at hK
    exact ⟨.pv (.bool true), 3, HQ a b, (by refine Wk.of ?_ ?_ rfl rfl rfl <;> (repeat' (first | (exact trivial) | (exact WkD.same _) | (exact WkO.same _ _ rfl) | (exact WkD.any _) | (exact WkD.nil _ (Or.inl rfl)) | (exact WkD.nil _ (Or.inr rfl)) | (exact WkD.fz _ _ _ rfl (Or.inl ⟨_, rfl⟩) rfl) | (exact WkD.fz _ _ _ rfl (Or.inr rfl) rfl) | (refine WkD.int ?_) | (exact WkD.new' rfl rfl rfl) | (exact WkO.new _ _ rfl) | (refine WkO.vars rfl ?_) | (with_reducible rfl) | (exact rfl) | (refine ⟨?_, ?_⟩) | ((refine wrapA ?_ ?_ ?_); (focus (simp; done)); (focus ((try dsimp only); omega)); (focus ((try dsimp only); omega))) | fail))), hK⟩
/-- What Same of the program finds. -/
def sameA (a b : Act) : Bool := bif (bif bif aloneI a != 0 then true else aloneI b != 0 then true else !eqL (eqL (fun (x y : Nat) => !((x : Int) != (y : Int)))) a.rel b.rel) then false else bif eqL same a.pre b.pre then eqL (eqL asS) a.post b.post else false
theorem ac_Same (a b : Act) (hf : Fit a) (hl : a.rel.length ≤ 1000) (hp : ∀ l, l ∈ a.post → l.length ≤ 1000) (hf2 : Fit b) (hl2 : b.rel.length ≤ 1000) (hp2 : ∀ l, l ∈ b.post → l.length ≤ 1000)
    (hr : ∀ r, r ∈ a.rel → r.length ≤ 1000) (hn1 : a.pre.length ≤ 1000) (hn2 : a.post.length ≤ 1000) : PureFn Try.prog 31 [a.pv, b.pv] (.bool (sameA a b)) := by
  refine PureFn.introC [3, 4] mixed (fn := Try.f31) rfl rfl rfl fun M w0 => ?_
  have hA := ac_alone a hf hl hp
  have hB := ac_alone b hf2 hl2 hp2
  (try (conv => whnf)); repeat' (first | (apply And.intro <;> (try (conv => whnf))) | (intro h; first | (with_reducible exact tf0 h) | (with_reducible exact ft0 h) | (with_reducible exact nt0 h) | (with_reducible exact nf0 h) | (exact litz h rfl) | (with_reducible exact tf h (by with_reducible assumption)) | (with_reducible exact tf (by with_reducible assumption) h) | (try (conv => whnf))) | (with_reducible rfl) | (apply True.intro) | (apply infoT; rfl) | (apply bleI; rfl) | (apply fitI; rfl) | (apply cellsI; rfl) | (apply szI; rfl) | (apply guardI; kernel_rfl) | (apply WhenQ.mk; (try (conv => whnf)); rotate_left; (try (conv => whnf)); rotate_right) | (with_reducible assumption) | (apply not_of; with_reducible assumption) | (apply left_of; with_reducible assumption) | (apply left_of; apply left_of; with_reducible assumption) | (apply and_of <;> first | (with_reducible assumption) | (apply not_of; with_reducible assumption))| (refine lin_plan (by kernel_rfl) ?_; (try (conv => whnf))) | (refine ⟨_, _, rfl, idx_map (by with_reducible assumption), rfl, ?_⟩; (try (conv => whnf))) | (refine ⟨rfl, ?_⟩; (try (conv => whnf))) | (exact Nat.le_refl 1) | ((apply ex3); (focus (with_reducible assumption)); (focus (with_reducible assumption)); (try (conv => whnf))) | ((apply ex2); (focus (with_reducible assumption)); (try (conv => whnf))) | fail)
  refine ⟨{ _x : Unit // (bif bif aloneI a != 0 then true else aloneI b != 0 then true else !eqL (eqL (fun (x y : Nat) => !((x : Int) != (y : Int)))) a.rel b.rel) = false }, fun _ => [(2, .ref 0 0), (3, .ref 1 0)], fun _ => 2, fun _ => [(0, .var (cellsA a)), (1, .var (cellsA b))], ?_, ?_⟩
  · (try (conv => whnf)); repeat' (first | (apply And.intro <;> (try (conv => whnf))) | (intro h; first | (with_reducible exact tf0 h) | (with_reducible exact ft0 h) | (with_reducible exact nt0 h) | (with_reducible exact nf0 h) | (exact litz h rfl) | (with_reducible exact tf h (by with_reducible assumption)) | (with_reducible exact tf (by with_reducible assumption) h) | (try (conv => whnf))) | (with_reducible rfl) | (apply True.intro) | (apply infoT; rfl) | (apply bleI; rfl) | (apply fitI; rfl) | (apply cellsI; rfl) | (apply szI; rfl) | (apply guardI; kernel_rfl) | (apply WhenQ.mk; (try (conv => whnf)); rotate_left; (try (conv => whnf)); rotate_right) | (with_reducible assumption) | (apply not_of; with_reducible assumption) | (apply left_of; with_reducible assumption) | (apply left_of; apply left_of; with_reducible assumption) | (apply and_of <;> first | (with_reducible assumption) | (apply not_of; with_reducible assumption))| (refine lin_plan (by kernel_rfl) ?_; (try (conv => whnf))) | (refine ⟨_, _, rfl, idx_map (by with_reducible assumption), rfl, ?_⟩; (try (conv => whnf))) | (refine ⟨rfl, ?_⟩; (try (conv => whnf))) | (exact Nat.le_refl 1) | ((apply ex3); (focus (with_reducible assumption)); (focus (with_reducible assumption)); (try (conv => whnf))) | ((apply ex2); (focus (with_reducible assumption)); (try (conv => whnf))) | (refine PureFn.dcq (f := 71) rfl ?_; (try (conv => whnf))) | (refine PureFn.dcq (f := 71) rfl ?_; (try (conv => whnf))) | ((refine ⟨_, _, hA, ?_, ?_⟩); (focus (first | (refine ⟨?_, trivial⟩ <;> first | (exact PLe.refl _) | (exact PLe.nil)) | (exact trivial))); (try (conv => whnf))) | (refine ⟨_, (by (conv => whnf); exact hA), rfl, ?_⟩; (try (conv => whnf))) | ((refine ⟨_, _, hB, ?_, ?_⟩); (focus (first | (refine ⟨?_, trivial⟩ <;> first | (exact PLe.refl _) | (exact PLe.nil)) | (exact trivial))); (try (conv => whnf))) | (refine ⟨_, (by (conv => whnf); exact hB), rfl, ?_⟩; (try (conv => whnf))) | fail)
    · refine DC.alone (p := .bool (eqL (eqL (fun (x y : Nat) => !((x : Int) != (y : Int)))) a.rel b.rel)) rfl (fun M w0 => eqf_R 19 _ rfl a.rel b.rel hl (fun x hx y _ => sl_EqU x y (hr x hx)) M w0) ?_
      (try (conv => whnf)); repeat' (first | (apply And.intro <;> (try (conv => whnf))) | (intro h; first | (with_reducible exact tf0 h) | (with_reducible exact ft0 h) | (with_reducible exact nt0 h) | (with_reducible exact nf0 h) | (exact litz h rfl) | (with_reducible exact tf h (by with_reducible assumption)) | (with_reducible exact tf (by with_reducible assumption) h) | (try (conv => whnf))) | (with_reducible rfl) | (apply True.intro) | (apply infoT; rfl) | (apply bleI; rfl) | (apply fitI; rfl) | (apply cellsI; rfl) | (apply szI; rfl) | (apply guardI; kernel_rfl) | (apply WhenQ.mk; (try (conv => whnf)); rotate_left; (try (conv => whnf)); rotate_right) | (with_reducible assumption) | (apply not_of; with_reducible assumption) | (apply left_of; with_reducible assumption) | (apply left_of; apply left_of; with_reducible assumption) | (apply and_of <;> first | (with_reducible assumption) | (apply not_of; with_reducible assumption))| (refine lin_plan (by kernel_rfl) ?_; (try (conv => whnf))) | (refine ⟨_, _, rfl, idx_map (by with_reducible assumption), rfl, ?_⟩; (try (conv => whnf))) | (refine ⟨rfl, ?_⟩; (try (conv => whnf))) | (exact Nat.le_refl 1) | ((apply ex3); (focus (with_reducible assumption)); (focus (with_reducible assumption)); (try (conv => whnf))) | ((apply ex2); (focus (with_reducible assumption)); (try (conv => whnf))) | fail)
    · (try (conv => whnf)); repeat' (first | (apply And.intro <;> (try (conv => whnf))) | (intro h; first | (with_reducible exact tf0 h) | (with_reducible exact ft0 h) | (with_reducible exact nt0 h) | (with_reducible exact nf0 h) | (exact litz h rfl) | (with_reducible exact tf h (by with_reducible assumption)) | (with_reducible exact tf (by with_reducible assumption) h) | (try (conv => whnf))) | (with_reducible rfl) | (apply True.intro) | (apply infoT; rfl) | (apply bleI; rfl) | (apply fitI; rfl) | (apply cellsI; rfl) | (apply szI; rfl) | (apply guardI; kernel_rfl) | (apply WhenQ.mk; (try (conv => whnf)); rotate_left; (try (conv => whnf)); rotate_right) | (with_reducible assumption) | (apply not_of; with_reducible assumption) | (apply left_of; with_reducible assumption) | (apply left_of; apply left_of; with_reducible assumption) | (apply and_of <;> first | (with_reducible assumption) | (apply not_of; with_reducible assumption))| (refine lin_plan (by kernel_rfl) ?_; (try (conv => whnf))) | (refine ⟨_, _, rfl, idx_map (by with_reducible assumption), rfl, ?_⟩; (try (conv => whnf))) | (refine ⟨rfl, ?_⟩; (try (conv => whnf))) | (exact Nat.le_refl 1) | ((apply ex3); (focus (with_reducible assumption)); (focus (with_reducible assumption)); (try (conv => whnf))) | ((apply ex2); (focus (with_reducible assumption)); (try (conv => whnf))) | fail)
    · (try (conv => whnf)); repeat' (first | (apply And.intro <;> (try (conv => whnf))) | (intro h; first | (with_reducible exact tf0 h) | (with_reducible exact ft0 h) | (with_reducible exact nt0 h) | (with_reducible exact nf0 h) | (exact litz h rfl) | (with_reducible exact tf h (by with_reducible assumption)) | (with_reducible exact tf (by with_reducible assumption) h) | (try (conv => whnf))) | (with_reducible rfl) | (apply True.intro) | (apply infoT; rfl) | (apply bleI; rfl) | (apply fitI; rfl) | (apply cellsI; rfl) | (apply szI; rfl) | (apply guardI; kernel_rfl) | (apply WhenQ.mk; (try (conv => whnf)); rotate_left; (try (conv => whnf)); rotate_right) | (with_reducible assumption) | (apply not_of; with_reducible assumption) | (apply left_of; with_reducible assumption) | (apply left_of; apply left_of; with_reducible assumption) | (apply and_of <;> first | (with_reducible assumption) | (apply not_of; with_reducible assumption))| (refine lin_plan (by kernel_rfl) ?_; (try (conv => whnf))) | (refine ⟨_, _, rfl, idx_map (by with_reducible assumption), rfl, ?_⟩; (try (conv => whnf))) | (refine ⟨rfl, ?_⟩; (try (conv => whnf))) | (exact Nat.le_refl 1) | ((apply ex3); (focus (with_reducible assumption)); (focus (with_reducible assumption)); (try (conv => whnf))) | ((apply ex2); (focus (with_reducible assumption)); (try (conv => whnf))) | fail)
      · rw [sameA, h]; exact .refl _
      · exact ⟨⟨(), h⟩, (by refine Wk.of ?_ ?_ rfl rfl rfl <;> (repeat' (first | (exact trivial) | (exact WkD.same _) | (exact WkO.same _ _ rfl) | (exact WkD.any _) | (exact WkD.nil _ (Or.inl rfl)) | (exact WkD.nil _ (Or.inr rfl)) | (exact WkD.fz _ _ _ rfl (Or.inl ⟨_, rfl⟩) rfl) | (exact WkD.fz _ _ _ rfl (Or.inr rfl) rfl) | (refine WkD.int ?_) | (exact WkD.new' rfl rfl rfl) | (exact WkO.new _ _ rfl) | (refine WkO.vars rfl ?_) | (with_reducible rfl) | (exact rfl) | (refine ⟨?_, ?_⟩) | ((refine wrapA ?_ ?_ ?_); (focus (simp; done)); (focus ((try dsimp only); omega)); (focus ((try dsimp only); omega))) | fail)))⟩
  rintro ⟨_, h1⟩
  refine ⟨Unit, fun _ => [(2, .ref 0 0), (3, .ref 1 0), (5, .ref 2 0)], fun _ => 3, fun _ => HQ a b, ?_, ?_⟩
  · (try (conv => whnf)); repeat' (first | (apply And.intro <;> (try (conv => whnf))) | (intro h; first | (with_reducible exact tf0 h) | (with_reducible exact ft0 h) | (with_reducible exact nt0 h) | (with_reducible exact nf0 h) | (exact litz h rfl) | (with_reducible exact tf h (by with_reducible assumption)) | (with_reducible exact tf (by with_reducible assumption) h) | (try (conv => whnf))) | (with_reducible rfl) | (apply True.intro) | (apply infoT; rfl) | (apply bleI; rfl) | (apply fitI; rfl) | (apply cellsI; rfl) | (apply szI; rfl) | (apply guardI; kernel_rfl) | (apply WhenQ.mk; (try (conv => whnf)); rotate_left; (try (conv => whnf)); rotate_right) | (with_reducible assumption) | (apply not_of; with_reducible assumption) | (apply left_of; with_reducible assumption) | (apply left_of; apply left_of; with_reducible assumption) | (apply and_of <;> first | (with_reducible assumption) | (apply not_of; with_reducible assumption))| (refine lin_plan (by kernel_rfl) ?_; (try (conv => whnf))) | (refine ⟨_, _, rfl, idx_map (by with_reducible assumption), rfl, ?_⟩; (try (conv => whnf))) | (refine ⟨rfl, ?_⟩; (try (conv => whnf))) | (exact Nat.le_refl 1) | ((apply ex3); (focus (with_reducible assumption)); (focus (with_reducible assumption)); (try (conv => whnf))) | ((apply ex2); (focus (with_reducible assumption)); (try (conv => whnf))) | fail)
    exact ⟨(), (by refine Wk.of ?_ ?_ rfl rfl rfl <;> (repeat' (first | (exact trivial) | (exact WkD.same _) | (exact WkO.same _ _ rfl) | (exact WkD.any _) | (exact WkD.nil _ (Or.inl rfl)) | (exact WkD.nil _ (Or.inr rfl)) | (exact WkD.fz _ _ _ rfl (Or.inl ⟨_, rfl⟩) rfl) | (exact WkD.fz _ _ _ rfl (Or.inr rfl) rfl) | (refine WkD.int ?_) | (exact WkD.new' rfl rfl rfl) | (exact WkO.new _ _ rfl) | (refine WkO.vars rfl ?_) | (with_reducible rfl) | (exact rfl) | (refine ⟨?_, ?_⟩) | ((refine wrapA ?_ ?_ ?_); (focus (simp; done)); (focus ((try dsimp only); omega)); (focus ((try dsimp only); omega))) | fail)))⟩
  rintro ⟨⟩
  (try (conv => whnf)); repeat' (first | (apply And.intro <;> (try (conv => whnf))) | (intro h; first | (with_reducible exact tf0 h) | (with_reducible exact ft0 h) | (with_reducible exact nt0 h) | (with_reducible exact nf0 h) | (exact litz h rfl) | (with_reducible exact tf h (by with_reducible assumption)) | (with_reducible exact tf (by with_reducible assumption) h) | (try (conv => whnf))) | (with_reducible rfl) | (apply True.intro) | (apply infoT; rfl) | (apply bleI; rfl) | (apply fitI; rfl) | (apply cellsI; rfl) | (apply szI; rfl) | (apply guardI; kernel_rfl) | (apply WhenQ.mk; (try (conv => whnf)); rotate_left; (try (conv => whnf)); rotate_right) | (with_reducible assumption) | (apply not_of; with_reducible assumption) | (apply left_of; with_reducible assumption) | (apply left_of; apply left_of; with_reducible assumption) | (apply and_of <;> first | (with_reducible assumption) | (apply not_of; with_reducible assumption))| (refine lin_plan (by kernel_rfl) ?_; (try (conv => whnf))) | (refine ⟨_, _, rfl, idx_map (by with_reducible assumption), rfl, ?_⟩; (try (conv => whnf))) | (refine ⟨rfl, ?_⟩; (try (conv => whnf))) | (exact Nat.le_refl 1) | ((apply ex3); (focus (with_reducible assumption)); (focus (with_reducible assumption)); (try (conv => whnf))) | ((apply ex2); (focus (with_reducible assumption)); (try (conv => whnf))) | fail)
  refine DC.alone (p := .bool (eqL same a.pre b.pre)) rfl (fun M w0 => eqf_F 64 same rfl a.pre b.pre hn1 (fun x _ y _ => fm_Same x y) M w0) ?_
  (try (conv => whnf)); repeat' (first | (apply And.intro <;> (try (conv => whnf))) | (intro h; first | (with_reducible exact tf0 h) | (with_reducible exact ft0 h) | (with_reducible exact nt0 h) | (with_reducible exact nf0 h) | (exact litz h rfl) | (with_reducible exact tf h (by with_reducible assumption)) | (with_reducible exact tf (by with_reducible assumption) h) | (try (conv => whnf))) | (with_reducible rfl) | (apply True.intro) | (apply infoT; rfl) | (apply bleI; rfl) | (apply fitI; rfl) | (apply cellsI; rfl) | (apply szI; rfl) | (apply guardI; kernel_rfl) | (apply WhenQ.mk; (try (conv => whnf)); rotate_left; (try (conv => whnf)); rotate_right) | (with_reducible assumption) | (apply not_of; with_reducible assumption) | (apply left_of; with_reducible assumption) | (apply left_of; apply left_of; with_reducible assumption) | (apply and_of <;> first | (with_reducible assumption) | (apply not_of; with_reducible assumption))| (refine lin_plan (by kernel_rfl) ?_; (try (conv => whnf))) | (refine ⟨_, _, rfl, idx_map (by with_reducible assumption), rfl, ?_⟩; (try (conv => whnf))) | (refine ⟨rfl, ?_⟩; (try (conv => whnf))) | (exact Nat.le_refl 1) | ((apply ex3); (focus (with_reducible assumption)); (focus (with_reducible assumption)); (try (conv => whnf))) | ((apply ex2); (focus (with_reducible assumption)); (try (conv => whnf))) | fail)
  · refine eqf_P a b a.post b.post hn2 hp 0 _ ?_
    (try (conv => whnf)); repeat' (first | (apply And.intro <;> (try (conv => whnf))) | (intro h; first | (with_reducible exact tf0 h) | (with_reducible exact ft0 h) | (with_reducible exact nt0 h) | (with_reducible exact nf0 h) | (exact litz h rfl) | (with_reducible exact tf h (by with_reducible assumption)) | (with_reducible exact tf (by with_reducible assumption) h) | (try (conv => whnf))) | (with_reducible rfl) | (apply True.intro) | (apply infoT; rfl) | (apply bleI; rfl) | (apply fitI; rfl) | (apply cellsI; rfl) | (apply szI; rfl) | (apply guardI; kernel_rfl) | (apply WhenQ.mk; (try (conv => whnf)); rotate_left; (try (conv => whnf)); rotate_right) | (with_reducible assumption) | (apply not_of; with_reducible assumption) | (apply left_of; with_reducible assumption) | (apply left_of; apply left_of; with_reducible assumption) | (apply and_of <;> first | (with_reducible assumption) | (apply not_of; with_reducible assumption))| (refine lin_plan (by kernel_rfl) ?_; (try (conv => whnf))) | (refine ⟨_, _, rfl, idx_map (by with_reducible assumption), rfl, ?_⟩; (try (conv => whnf))) | (refine ⟨rfl, ?_⟩; (try (conv => whnf))) | (exact Nat.le_refl 1) | ((apply ex3); (focus (with_reducible assumption)); (focus (with_reducible assumption)); (try (conv => whnf))) | ((apply ex2); (focus (with_reducible assumption)); (try (conv => whnf))) | fail)
  · (try (conv => whnf)); repeat' (first | (apply And.intro <;> (try (conv => whnf))) | (intro h; first | (with_reducible exact tf0 h) | (with_reducible exact ft0 h) | (with_reducible exact nt0 h) | (with_reducible exact nf0 h) | (exact litz h rfl) | (with_reducible exact tf h (by with_reducible assumption)) | (with_reducible exact tf (by with_reducible assumption) h) | (try (conv => whnf))) | (with_reducible rfl) | (apply True.intro) | (apply infoT; rfl) | (apply bleI; rfl) | (apply fitI; rfl) | (apply cellsI; rfl) | (apply szI; rfl) | (apply guardI; kernel_rfl) | (apply WhenQ.mk; (try (conv => whnf)); rotate_left; (try (conv => whnf)); rotate_right) | (with_reducible assumption) | (apply not_of; with_reducible assumption) | (apply left_of; with_reducible assumption) | (apply left_of; apply left_of; with_reducible assumption) | (apply and_of <;> first | (with_reducible assumption) | (apply not_of; with_reducible assumption))| (refine lin_plan (by kernel_rfl) ?_; (try (conv => whnf))) | (refine ⟨_, _, rfl, idx_map (by with_reducible assumption), rfl, ?_⟩; (try (conv => whnf))) | (refine ⟨rfl, ?_⟩; (try (conv => whnf))) | (exact Nat.le_refl 1) | ((apply ex3); (focus (with_reducible assumption)); (focus (with_reducible assumption)); (try (conv => whnf))) | ((apply ex2); (focus (with_reducible assumption)); (try (conv => whnf))) | fail)
    rw [sameA, h1]; exact .refl _
end Go.Proofs.Ytibenjpkinhjhaa
set_option maxRecDepth 100000
set_option maxHeartbeats 4000000
namespace Go.Proofs.Ytibenjpkinhjhaa
open Go Go.Dv

/-! the program's rounds -/
def orA (rel : List (List Nat)) (e : Nat) : Nat → Nat
  | 0 => 0
  | i + 1 => orA rel e i ||| (rel.getD i []).getD e 0
def inP (rel : List (List Nat)) (b e s i : Nat) : Nat := bif b.testBit e then s ||| orA rel e i else s
def rndP (rel : List (List Nat)) (b : Nat) : Nat → Nat
  | 0 => b
  | e + 1 => inP rel b e (rndP rel b e) rel.length
def seqP (rel : List (List Nat)) (n s : Nat) : Nat → Nat
  | 0 => s
  | k + 1 => rndP rel (seqP rel n s k) n
def befP (rel : List (List Nat)) (n s : Nat) : Nat → Nat
  | 0 => 0
  | k + 1 => seqP rel n s k
def reach (rel : List (List Nat)) (n ev : Nat) : Nat := seqP rel n (2 ^ ev) n
theorem inP_zero (rel : List (List Nat)) (b e s : Nat) : inP rel b e s 0 = s := by unfold inP orA; cases b.testBit e <;> simp
theorem inP_yes {rel : List (List Nat)} {b e s i : Nat} (h : b.testBit e = true) : inP rel b e s i ||| (rel.getD i []).getD e 0 = inP rel b e s (i + 1) := by
  rw [inP, inP, h, cond_true, cond_true, orA, Nat.or_assoc]
theorem inP_no {rel : List (List Nat)} {b e s i : Nat} (h : b.testBit e = false) : inP rel b e s i = inP rel b e s (i + 1) := by
  rw [inP, inP, h]; rfl
/-- Relations over n events. -/
def Rel (rel : List (List Nat)) (n : Nat) : Prop := (∀ r, r ∈ rel → r.length = n) ∧ ∀ r, r ∈ rel → ∀ s, s ∈ r → s < 2 ^ n
theorem rel_get {rel : List (List Nat)} {n i e : Nat} (h : Rel rel n) : (rel.getD i []).getD e 0 < 2 ^ n := by
  rw [List.getD_eq_getElem?_getD, List.getD_eq_getElem?_getD]
  cases h1 : rel[i]? with
  | none => simp; exact Nat.two_pow_pos _
  | some r =>
    simp only [Option.getD_some]
    cases h2 : r[e]? with
    | none => simp; exact Nat.two_pow_pos _
    | some s => exact h.2 r (List.mem_iff_getElem?.2 ⟨i, h1⟩) s (List.mem_iff_getElem?.2 ⟨e, h2⟩)
theorem orA_lt {rel : List (List Nat)} {n e : Nat} (h : Rel rel n) : ∀ i, orA rel e i < 2 ^ n
  | 0 => Nat.two_pow_pos _
  | i + 1 => Nat.or_lt_two_pow (orA_lt h i) (rel_get h)
theorem inP_lt {rel : List (List Nat)} {n b e s i : Nat} (h : Rel rel n) (hs : s < 2 ^ n) : inP rel b e s i < 2 ^ n := by
  unfold inP
  cases b.testBit e with
  | true => exact Nat.or_lt_two_pow hs (orA_lt h i)
  | false => exact hs
theorem rndP_lt {rel : List (List Nat)} {n b : Nat} (h : Rel rel n) (hb : b < 2 ^ n) : ∀ e, rndP rel b e < 2 ^ n
  | 0 => hb
  | e + 1 => inP_lt h (rndP_lt h hb e)
theorem seqP_lt {rel : List (List Nat)} {n s : Nat} (h : Rel rel n) (hs : s < 2 ^ n) : ∀ k, seqP rel n s k < 2 ^ n
  | 0 => hs
  | k + 1 => rndP_lt h (seqP_lt h hs k) n
theorem befP_lt {rel : List (List Nat)} {n s : Nat} (h : Rel rel n) (hs : s < 2 ^ n) : ∀ k, befP rel n s k < 2 ^ n
  | 0 => Nat.two_pow_pos _
  | k + 1 => seqP_lt h hs k

/-! sets of bits -/
def Sub (a b : Nat) : Prop := ∀ i, a.testBit i = true → b.testBit i = true
theorem sub_or {a b : Nat} : Sub a (a ||| b) := fun i h => by rw [Nat.testBit_or, h]; rfl
theorem Sub.trans {a b c : Nat} (h : Sub a b) (g : Sub b c) : Sub a c := fun i hi => g i (h i hi)
theorem or_sub {a b c : Nat} (h : Sub a c) (g : Sub b c) : Sub (a ||| b) c := fun i hi => by
  rw [Nat.testBit_or] at hi
  cases q : a.testBit i with
  | true => exact h i q
  | false => rw [q] at hi; exact g i (by simpa using hi)
theorem sub_antisymm {a b : Nat} (h : Sub a b) (g : Sub b a) : a = b := Nat.eq_of_testBit_eq fun i => by
  cases q : a.testBit i with
  | true => exact (h i q).symm
  | false =>
    cases r : b.testBit i with
    | false => rfl
    | true => rw [g i r] at q; cases q
def card (n s : Nat) : Nat := ((List.range n).filter fun e => s.testBit e).length
theorem card_le (n s : Nat) : card n s ≤ n := by
  have := List.length_filter_le (fun e => s.testBit e) (List.range n)
  rw [List.length_range] at this; exact this
theorem card_mono {s t : Nat} (h : Sub s t) : ∀ n, card n s ≤ card n t
  | 0 => Nat.le_refl _
  | n + 1 => by
    have ih := card_mono h n
    unfold card at *
    rw [List.range_succ, List.filter_append, List.filter_append, List.length_append, List.length_append]
    cases q : s.testBit n with
    | true => simp [q, h n q]; exact ih
    | false => simp [q]; omega
theorem card_lt {s t : Nat} (h : Sub s t) {e : Nat} (h1 : s.testBit e = false) (h2 : t.testBit e = true) : ∀ n, e < n → card n s < card n t
  | 0, h => by omega
  | n + 1, he => by
    unfold card
    rw [List.range_succ, List.filter_append, List.filter_append, List.length_append, List.length_append]
    by_cases q : e = n
    · subst q
      have := card_mono h e
      unfold card at this
      simp [h1, h2]; omega
    · have := card_lt h h1 h2 n (by omega)
      unfold card at this
      cases q : s.testBit n with
      | true => simp [q, h n q]; exact this
      | false => simp [q]; omega
theorem bit_lt {s n i : Nat} (hs : s < 2 ^ n) (h : s.testBit i = true) : i < n := by
  rcases Nat.lt_or_ge i n with q | q
  · exact q
  · rw [Nat.testBit_lt_two_pow (Nat.lt_of_lt_of_le hs (Nat.pow_le_pow_right (by decide) q))] at h; cases h
theorem card_grow {s t n : Nat} (h : Sub s t) (hne : s ≠ t) (ht : t < 2 ^ n) : card n s < card n t := by
  have : ∃ e, s.testBit e = false ∧ t.testBit e = true := Classical.byContradiction fun hn => hne (sub_antisymm h fun i hi => by
    cases q : s.testBit i with
    | true => rfl
    | false => exact absurd ⟨i, q, hi⟩ hn)
  obtain ⟨e, h1, h2⟩ := this
  exact card_lt h h1 h2 n (bit_lt ht h2)
/-- A growing sequence of sets of fewer than n + 1 elements stops. -/
theorem grow_stops {n : Nat} {f : Nat → Nat} (q : Nat → Nat) (hq : ∀ k, q (k + 1) = f (q k)) (hlt : ∀ k, q k < 2 ^ n) (hsub : ∀ k, Sub (q k) (q (k + 1))) (h0 : q 0 ≠ 0) :
    ∀ k, q k = q (k + 1) ∨ k + 2 ≤ card n (q (k + 1)) := by
  have hc0 : 1 ≤ card n (q 0) := by
    have : card n 0 < card n (q 0) := card_grow (fun i hi => by rw [Nat.zero_testBit] at hi; cases hi) (fun e => h0 e.symm) (hlt 0)
    omega
  intro k
  induction k with
  | zero =>
    by_cases e : q 0 = q 1
    · exact .inl e
    · have := card_grow (hsub 0) e (hlt 1); exact .inr (by omega)
  | succ k ih =>
    by_cases e : q (k + 1) = q (k + 2)
    · exact .inl e
    · rcases ih with h | h
      · exact absurd (by rw [hq (k + 1), ← h, ← hq k]; exact h) e
      · have := card_grow (hsub (k + 1)) e (hlt (k + 2)); exact .inr (by omega)
theorem stop_end {f : Nat → Nat} {q : Nat → Nat} (hq : ∀ k, q (k + 1) = f (q k)) {k : Nat} (h : q k = q (k + 1)) : ∀ d, q (k + d) = q k
  | 0 => rfl
  | d + 1 => by rw [show k + (d + 1) = (k + d) + 1 by omega, hq, stop_end hq h d, ← hq, ← h]
theorem inP_sub {rel : List (List Nat)} {b e s i : Nat} : Sub s (inP rel b e s i) := by
  unfold inP
  cases b.testBit e with
  | true => exact sub_or
  | false => exact fun _ h => h
theorem rndP_sub {rel : List (List Nat)} {b : Nat} : ∀ e, Sub b (rndP rel b e)
  | 0 => fun _ h => h
  | e + 1 => (rndP_sub e).trans inP_sub
/-- As long as the rounds go on, there are fewer of them than events. -/
theorem seqP_go {rel : List (List Nat)} {n ev k : Nat} (h : Rel rel n) (hev : ev < n) (hne : befP rel n (2 ^ ev) k ≠ seqP rel n (2 ^ ev) k) : k < n := by
  have hlt := seqP_lt h (s := 2 ^ ev) (Nat.pow_lt_pow_right (by decide) hev)
  cases k with
  | zero => omega
  | succ k =>
    rcases grow_stops (f := fun b => rndP rel b n) (seqP rel n (2 ^ ev)) (fun _ => rfl) hlt (fun k => rndP_sub n) (by have := Nat.two_pow_pos ev; show 2 ^ ev ≠ 0; omega) k with g | g
    · exact absurd g hne
    · have := card_le n (seqP rel n (2 ^ ev) (k + 1)); omega
theorem seqP_done {rel : List (List Nat)} {n ev k : Nat} (hk : k ≤ n) (he : befP rel n (2 ^ ev) k = seqP rel n (2 ^ ev) k) : seqP rel n (2 ^ ev) k = reach rel n ev := by
  cases k with
  | zero =>
    have := Nat.two_pow_pos ev
    have : (0 : Nat) = 2 ^ ev := he
    omega
  | succ k =>
    have h := stop_end (f := fun b => rndP rel b n) (q := seqP rel n (2 ^ ev)) (fun _ => rfl) (k := k) he (n - k)
    rw [show k + (n - k) = n by omega] at h
    rw [reach, h]; exact he.symm

/-! the part -/
def evsL (s i : Nat) : List Nat := (List.range i).filter fun e => s.testBit e
def canA (x : Asg) : Asg := ⟨x.fact, comp x.to⟩
def sqz (s : Nat) (l : List Nat) : Nat → Nat
  | 0 => 0
  | k + 1 => bif s.testBit (l.getD k 0) then sqz s l k ||| 2 ^ k else sqz s l k
def preG (a : Act) (l : List Nat) : List (List Nd) := l.map fun e => comp (a.pre.getD e [])
def postG (a : Act) (l : List Nat) : List (List Asg) := l.map fun e => (a.post.getD e []).map canA
def rowG (l : List Nat) (r : List Nat) : List Nat := l.map fun e => sqz (r.getD e 0) l l.length
def genA (a : Act) (l : List Nat) : Act := ⟨preG a l, postG a l, a.rel.map (rowG l)⟩
def genI (a : Act) (ev : Int) : Act × List Nat × Int :=
  bif aloneI a != 0 then (noAct, [], aloneI a) else bif badEv a ev then (noAct, [], 6)
  else (genA a (evsL (reach a.rel a.pre.length ev.toNat) a.pre.length), evsL (reach a.rel a.pre.length ev.toNat) a.pre.length, 0)
def trioA (x : Act × List Nat × Int) : PV := .tup [x.1.pv, .sl (x.2.1.map i64), .int .i64 x.2.2]
theorem evsL_succ (s i : Nat) : evsL s (i + 1) = bif s.testBit i then evsL s i ++ [i] else evsL s i := by
  rw [evsL, List.range_succ, List.filter_append]
  cases h : s.testBit i <;> simp [h, evsL]
theorem evsL_len (s i : Nat) : (evsL s i).length ≤ i := card_le i s
theorem evsL_lt {s i e : Nat} (h : e ∈ evsL s i) : e < i := List.mem_range.1 (List.mem_filter.1 h).1
theorem sqz_lt (s : Nat) (l : List Nat) : ∀ k, sqz s l k < 2 ^ k
  | 0 => by show 0 < 1; omega
  | k + 1 => by
    have := sqz_lt s l k
    have h2 : 2 ^ k < 2 ^ (k + 1) := Nat.pow_lt_pow_right (by decide) (by omega)
    rw [sqz]
    cases s.testBit (l.getD k 0) with
    | true => exact Nat.or_lt_two_pow (by omega) h2
    | false => exact Nat.lt_trans this h2
end Go.Proofs.Ytibenjpkinhjhaa
