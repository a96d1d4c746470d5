/- Parts of the proof, one after the other: Reductions: the laws ReduceEqual and ReduceAnnounces walked. -/
import Derived.Test.YtibbphifegibkaaGreatDoorM11
set_option maxRecDepth 100000
set_option maxHeartbeats 8000000
namespace Go.Proofs.YtibbphifegibkaaGreatDoor
open Go Go.Dv

def scnR (m : Mo) (acts : List Act) : PV := .agg [.int .i64 m.n, .sl (m.val.map u64), .sl (m.rel.map rowPV), actsPV acts]
def cellsR (m : Mo) (acts : List Act) : List DV := [.pv (.int .i64 m.n), .pv (.sl (m.val.map u64)), .pv (.sl (m.rel.map rowPV)), .pv (actsPV acts)]
theorem few_smx {acts : List Act} {l : List (List Nd)} (hf : ∀ a, a ∈ acts → Fit a) (h : fewL acts l = true) : (∀ a, a ∈ acts → SmX a) ∧ ∀ a, a ∈ acts → SmA a := by
  have key : ∀ a, a ∈ acts → a.rel.length ≤ 1000 ∧ ∀ l, l ∈ a.post → l.length ≤ 1000 := fun a ha => by
    obtain ⟨_, _, h3, _, h5⟩ := (fewR_ok (few_len h).1).2 a ha
    exact ⟨by omega, fun l hl => by have := h5 l hl; omega⟩
  exact ⟨fun a ha => ⟨hf a ha, (key a ha).1, (key a ha).2⟩, fun a ha => ⟨hf a ha, (key a ha).1, (key a ha).2⟩⟩
theorem requal_pure (m : Mo) (acts : List Act) (f : List Nd) (hf : FitM m) (hA : ∀ a, a ∈ acts → Fit a) : PureFn Tryz.prog 3 [scnR m acts, fpv f] (.bool true) := by
  have hAw := rl_awake
  have hW := rl_few acts [f] (by simp)
  have hT := rm_Few m 10
  cases hfw : fewL acts [f] with
  | false =>
    rw [hfw] at hW
    refine PureFn.introC [3] mixed (fn := Tryz.f3) rfl rfl rfl fun M w0 => ?_
    try conv=>whnf
    refine ⟨{ _x : Unit // False }, fun _ => [], fun _ => 0, fun _ => [], ?_, fun ⟨_, h⟩ => h.elim⟩
    have f1 : (!(bif !true then true else !false)) = false := rfl
    (try conv=>whnf);repeat' (first|(apply And.intro<;>try conv=>whnf)|(intro h;try conv=>whnf)|apply True.intro|(apply cellsI;rfl)|(apply whenOff;(focus with_reducible assumption);try conv=>whnf)|(apply WhenQ.mk;(try conv=>whnf);rotate_left;(try conv=>whnf);rotate_right)|with_reducible assumption|(apply not_of;with_reducible assumption)|(refine PureFn.dcq (f := 6) rfl ?_;try conv=>whnf)|(refine PureFn.dcq (f := 5) rfl ?_;try conv=>whnf)|(refine ⟨_, _, hW, ?_, ?_⟩;(focus first|(refine ⟨?_, ?_, trivial⟩<;>first|exact PLe.refl _|exact PLe.nil)|exact trivial);try conv=>whnf)|(refine ⟨_, _, hAw, ?_, ?_⟩;(focus first|(refine ⟨trivial⟩<;>first|exact PLe.refl _|exact PLe.nil)|exact trivial);try conv=>whnf)|fail)
    · exact .refl _
    all_goals exact absurd h (by decide)
  | true =>
    rw [hfw] at hW
    cases hfm : fewM m 10 with
    | false =>
      rw [hfm] at hT
      refine PureFn.introC [3] mixed (fn := Tryz.f3) rfl rfl rfl fun M w0 => ?_
      try conv=>whnf
      refine ⟨{ _x : Unit // False }, fun _ => [], fun _ => 0, fun _ => [], ?_, fun ⟨_, h⟩ => h.elim⟩
      (try conv=>whnf);repeat' (first|(apply And.intro<;>try conv=>whnf)|(intro h;try conv=>whnf)|apply True.intro|(apply cellsI;rfl)|(apply WhenQ.mk;(try conv=>whnf);rotate_left;(try conv=>whnf);rotate_right)|with_reducible assumption|(apply not_of;with_reducible assumption)|(refine PureFn.dcq (f := 6) rfl ?_;try conv=>whnf)|(refine PureFn.dcq (f := 5) rfl ?_;try conv=>whnf)|(refine PureFn.dcq (f := 7) rfl ?_;try conv=>whnf)|(refine ⟨_, _, hW, ?_, ?_⟩;(focus first|(refine ⟨?_, ?_, trivial⟩<;>first|exact PLe.refl _|exact PLe.nil)|exact trivial);try conv=>whnf)|(refine ⟨_, _, hAw, ?_, ?_⟩;(focus first|(refine ⟨trivial⟩<;>first|exact PLe.refl _|exact PLe.nil)|exact trivial);try conv=>whnf)|(refine ⟨_, _, hT, ?_, ?_⟩;(focus first|(refine ⟨?_, ?_, trivial⟩<;>first|exact PLe.refl _|exact PLe.nil)|exact trivial);try conv=>whnf)|fail)
      · exact .refl _
      all_goals exact absurd h (by decide)
    | true =>
      rw [hfm] at hT
      obtain ⟨hSX, hSA⟩ := few_smx hA hfw
      have hlen := (few_len hfw).2 f (by simp)
      have d1 := dy_Holds m acts f hf hSA
      have r1 := red_Reduce acts f hSX
      have hse := rd_sem (m := m) (acts := acts) (f := f)
      generalize dynI m acts f = X at d1 hse
      generalize rdI acts f = Y at r1 hse
      obtain ⟨xa, xe⟩ := X
      obtain ⟨ya, ye⟩ := Y
      simp only at hse
      have c1 := ck_Holds m ya hf
      refine PureFn.introC [3, 10, 13, 14] mixed (fn := Tryz.f3) rfl rfl rfl fun M w0 => ?_
      try conv=>whnf
      refine ⟨Unit, fun _ => [(1, .pv (fpv f)), (2, .ref 0 0)], fun _ => 1, fun _ => [(0, .var (cellsR m acts))], ?_, ?_⟩
      · (try conv=>whnf);repeat' (first|(apply And.intro<;>try conv=>whnf)|(intro h;try conv=>whnf)|apply True.intro|(apply cellsI;rfl)|(apply WhenQ.mk;(try conv=>whnf);rotate_left;(try conv=>whnf);rotate_right)|with_reducible assumption|(apply not_of;with_reducible assumption)|(refine PureFn.dcq (f := 6) rfl ?_;try conv=>whnf)|(refine PureFn.dcq (f := 5) rfl ?_;try conv=>whnf)|(refine PureFn.dcq (f := 7) rfl ?_;try conv=>whnf)|(refine ⟨_, _, hW, ?_, ?_⟩;(focus first|(refine ⟨?_, ?_, trivial⟩<;>first|exact PLe.refl _|exact PLe.nil)|exact trivial);try conv=>whnf)|(refine ⟨_, _, hAw, ?_, ?_⟩;(focus first|(refine ⟨trivial⟩<;>first|exact PLe.refl _|exact PLe.nil)|exact trivial);try conv=>whnf)|(refine ⟨_, _, hT, ?_, ?_⟩;(focus first|(refine ⟨?_, ?_, trivial⟩<;>first|exact PLe.refl _|exact PLe.nil)|exact trivial);try conv=>whnf)|fail)
        · exact .refl _
        · exact ⟨(), (by refine Wk.of ?_ ?_ rfl rfl rfl<;>repeat' (first|exact trivial|exact WkD.same _|exact WkO.same _ _ rfl|refine ⟨?_, ?_⟩|fail))⟩
      rintro ⟨⟩
      try conv=>whnf
      refine ⟨{ k : Nat // k ≤ 40 }, fun k => [(1, .pv (fpv f)), (2, .ref 0 0), (5, .pv (i64 k.1))], fun _ => 1, fun _ => [(0, .var (cellsR m acts))], ?_, ?_⟩
      · try conv=>whnf
        refine ⟨{ q : Nat × Nat // q.1 ≤ f.length ∧ q.2 ≤ q.1 }, fun q => [(1, .pv (fpv f)), (2, .ref 0 0), (5, .pv (i64 q.1.2)), (31, .pv (fpv f)), (32, .pv (i64 (f.map Nd.pv).length)), (33, .pv (i64 q.1.1))], fun _ => 1, fun _ => [(0, .var (cellsR m acts))], fun q => f.length - q.1.1, ⟨⟨(0, 0), Nat.zero_le _, Nat.le_refl 0⟩, (by refine Wk.of ?_ ?_ rfl rfl rfl<;>repeat' (first|exact trivial|exact WkD.same _|exact WkO.same _ _ rfl|refine ⟨?_, ?_⟩|fail))⟩, ?_⟩
        rintro ⟨⟨i, k⟩, hi, hk⟩
        simp only at hi hk
        (try conv=>whnf);repeat' (first|(apply And.intro<;>try conv=>whnf)|(intro h;try conv=>whnf)|(apply infoT;rfl)|fail)
        · have hi' : i < f.length := by simpa using lt_dec h
          obtain ⟨x, hx⟩ : ∃ x, f[i]? = some x := ⟨_, List.getElem?_eq_getElem hi'⟩
          clear h
          refine ⟨_, _, rfl, idx_map hx, rfl, ?_⟩
          (try conv=>whnf);repeat' (first|(apply And.intro<;>try conv=>whnf)|(intro h;try conv=>whnf)|apply True.intro|(apply WhenQ.mk;(try conv=>whnf);rotate_left;(try conv=>whnf);rotate_right)|with_reducible assumption|(apply not_of;with_reducible assumption)|fail)
          · refine ⟨⟨(i + 1, k + 1), hi', by show k + 1 ≤ i + 1; omega⟩, by show f.length - (i + 1) < f.length - i; omega, ?_⟩
            (refine Wk.of ?_ ?_ rfl rfl rfl<;>repeat' (first|exact trivial|exact WkD.same _|exact WkO.same _ _ rfl|refine WkD.int ?_|refine ⟨?_, ?_⟩|(refine wrapA ?_ ?_ ?_;(focus simp;done);(focus (try dsimp only);omega);(focus (try dsimp only);omega))|fail))
          · refine ⟨⟨(i + 1, k), hi', by show k ≤ i + 1; omega⟩, by show f.length - (i + 1) < f.length - i; omega, ?_⟩
            (refine Wk.of ?_ ?_ rfl rfl rfl<;>repeat' (first|exact trivial|exact WkD.same _|exact WkO.same _ _ rfl|refine WkD.int ?_|refine ⟨?_, ?_⟩|(refine wrapA ?_ ?_ ?_;(focus simp;done);(focus (try dsimp only);omega);(focus (try dsimp only);omega))|fail))
        · exact ⟨⟨k, by omega⟩, (by refine Wk.of ?_ ?_ rfl rfl rfl<;>repeat' (first|exact trivial|exact WkD.same _|exact WkO.same _ _ rfl|refine ⟨?_, ?_⟩|fail))⟩
      rintro ⟨k, hk⟩
      (try conv=>whnf);repeat' (first|(apply And.intro<;>try conv=>whnf)|(intro h;try conv=>whnf)|fail)
      · exact .refl _
      clear h
      refine ⟨Unit, fun _ => [(1, .pv (fpv f)), (2, .ref 0 0), (8, .pv (u64 xa)), (9, .pv (.int .i64 xe))], fun _ => 1, fun _ => [(0, .var (cellsR m acts))], ?_, ?_⟩
      · (try conv=>whnf);repeat' (first|(refine PureFn.dcq (f := 8) rfl ?_;try conv=>whnf)|(refine ⟨_, _, d1, ?_, ?_⟩;(focus first|(refine ⟨?_, ?_, ?_, trivial⟩<;>first|exact PLe.refl _|exact PLe.nil)|exact trivial);try conv=>whnf)|fail)
        exact ⟨(), (by refine Wk.of ?_ ?_ rfl rfl rfl<;>repeat' (first|exact trivial|exact WkD.same _|exact WkO.same _ _ rfl|refine ⟨?_, ?_⟩|fail))⟩
      rintro ⟨⟩
      refine ⟨Unit, fun _ => [(2, .ref 0 0), (8, .pv (u64 xa)), (9, .pv (.int .i64 xe)), (10, .pv (fpv ya)), (11, .pv (.int .i64 ye))], fun _ => 1, fun _ => [(0, .var (cellsR m acts))], ?_, ?_⟩
      · (try conv=>whnf);repeat' (first|(refine PureFn.dcq (f := 9) rfl ?_;try conv=>whnf)|(refine ⟨_, _, r1, ?_, ?_⟩;(focus first|(refine ⟨?_, ?_, trivial⟩<;>first|exact PLe.refl _|exact PLe.nil)|exact trivial);try conv=>whnf)|fail)
        exact ⟨(), (by refine Wk.of ?_ ?_ rfl rfl rfl<;>repeat' (first|exact trivial|exact WkD.same _|exact WkO.same _ _ rfl|refine ⟨?_, ?_⟩|fail))⟩
      rintro ⟨⟩
      by_cases x0 : xe = 0
      · by_cases y0 : ye = 0
        · subst x0; subst y0
          rw [hse rfl rfl] at c1
          (try conv=>whnf);repeat' (first|(apply And.intro<;>try conv=>whnf)|(intro h;try conv=>whnf)|apply True.intro|(apply WhenQ.mk;(try conv=>whnf);rotate_left;(try conv=>whnf);rotate_right)|with_reducible assumption|(apply not_of;with_reducible assumption)|(refine PureFn.dcq (f := 10) rfl ?_;try conv=>whnf)|(refine ⟨_, _, c1, ?_, ?_⟩;(focus first|(refine ⟨?_, ?_, trivial⟩<;>first|exact PLe.refl _|exact PLe.nil)|exact trivial);try conv=>whnf)|fail)
          · exact .refl _
          · exact le_bool (by simp)
        · have f1 : (ye != 0) = true := by simpa using y0
          subst x0
          (try conv=>whnf);repeat' (first|(apply And.intro<;>try conv=>whnf)|(intro h;try conv=>whnf)|apply True.intro|(apply WhenQ.mk;(try conv=>whnf);rotate_left;(try conv=>whnf);rotate_right)|with_reducible assumption|(apply not_of;with_reducible assumption)|fail)
          · exact .refl _
          · exfalso
            have h' : (bif ((0 : Int) != 0) then true else (ye != 0)) = false := h
            rw [f1] at h'
            cases h'
      · have f1 : (xe != 0) = true := by simpa using x0
        (try conv=>whnf);repeat' (first|(apply And.intro<;>try conv=>whnf)|(intro h;first|with_reducible exact tf (by assumption) h|try conv=>whnf)|apply True.intro|(apply WhenQ.mk;(try conv=>whnf);rotate_left;(try conv=>whnf);rotate_right)|with_reducible assumption|fail)
        · exact .refl _
        · exfalso
          have h' : (bif (xe != 0) then true else (ye != 0)) = false := h
          rw [f1] at h'
          cases h'
theorem rann_pure (m : Mo) (f g : List Nd) (hf : FitM m) : PureFn Tryz.prog 4 [m.pv, fpv f, fpv g] (.bool true) := by
  have hAw := rl_awake
  have hW : PureFn Tryz.prog 6 [.nil, .sl ([f, g].map fpv)] (.bool (fewL [] [f, g])) := (rl_few [] [f, g] (by simp)).le ⟨.nil, .refl _, trivial⟩
  have hT := rm_Few m 10
  cases hfw : fewL [] [f, g] with
  | false =>
    rw [hfw] at hW
    refine PureFn.introC [3] mixed (fn := Tryz.f4) rfl rfl rfl fun M w0 => ?_
    try conv=>whnf
    refine ⟨{ _x : Unit // False }, fun _ => [], fun _ => 0, fun _ => [], ?_, fun ⟨_, h⟩ => h.elim⟩
    have f1 : (!(bif !true then true else !false)) = false := rfl
    (try conv=>whnf);repeat' (first|(apply And.intro<;>try conv=>whnf)|(intro h;try conv=>whnf)|apply True.intro|(apply cellsI;rfl)|(apply whenOff;(focus with_reducible assumption);try conv=>whnf)|(apply WhenQ.mk;(try conv=>whnf);rotate_left;(try conv=>whnf);rotate_right)|with_reducible assumption|(apply not_of;with_reducible assumption)|(refine PureFn.dcq (f := 6) rfl ?_;try conv=>whnf)|(refine PureFn.dcq (f := 5) rfl ?_;try conv=>whnf)|(refine ⟨_, _, hW, ?_, ?_⟩;(focus first|(refine ⟨?_, ?_, trivial⟩<;>first|exact PLe.refl _|exact PLe.nil)|exact trivial);try conv=>whnf)|(refine ⟨_, _, hAw, ?_, ?_⟩;(focus first|(refine ⟨trivial⟩<;>first|exact PLe.refl _|exact PLe.nil)|exact trivial);try conv=>whnf)|fail)
    · exact .refl _
    all_goals exact absurd h (by decide)
  | true =>
    rw [hfw] at hW
    cases hfm : fewM m 10 with
    | false =>
      rw [hfm] at hT
      refine PureFn.introC [3] mixed (fn := Tryz.f4) rfl rfl rfl fun M w0 => ?_
      try conv=>whnf
      refine ⟨{ _x : Unit // False }, fun _ => [], fun _ => 0, fun _ => [], ?_, fun ⟨_, h⟩ => h.elim⟩
      (try conv=>whnf);repeat' (first|(apply And.intro<;>try conv=>whnf)|(intro h;try conv=>whnf)|apply True.intro|(apply cellsI;rfl)|(apply WhenQ.mk;(try conv=>whnf);rotate_left;(try conv=>whnf);rotate_right)|with_reducible assumption|(apply not_of;with_reducible assumption)|(refine PureFn.dcq (f := 6) rfl ?_;try conv=>whnf)|(refine PureFn.dcq (f := 5) rfl ?_;try conv=>whnf)|(refine PureFn.dcq (f := 7) rfl ?_;try conv=>whnf)|(refine ⟨_, _, hW, ?_, ?_⟩;(focus first|(refine ⟨?_, ?_, trivial⟩<;>first|exact PLe.refl _|exact PLe.nil)|exact trivial);try conv=>whnf)|(refine ⟨_, _, hAw, ?_, ?_⟩;(focus first|(refine ⟨trivial⟩<;>first|exact PLe.refl _|exact PLe.nil)|exact trivial);try conv=>whnf)|(refine ⟨_, _, hT, ?_, ?_⟩;(focus first|(refine ⟨?_, ?_, trivial⟩<;>first|exact PLe.refl _|exact PLe.nil)|exact trivial);try conv=>whnf)|fail)
      · exact .refl _
      all_goals exact absurd h (by decide)
    | true =>
      rw [hfm] at hT
      have hlf := (few_len hfw).2 f (by simp)
      have hlg := (few_len hfw).2 g (by simp)
      have a1 := fm_Announce f g
      have d1 := dy_Holds m [] (buildL (n0 16) [f, g]) hf (fun a ha => by cases ha)
      have r1 := red_Announced f g
      have hse := ann_dyn (m := m) hlf hlg
      generalize dynI m [] (buildL (n0 16) [f, g]) = X at d1 hse
      generalize rnnI f g = Y at r1 hse
      obtain ⟨xa, xe⟩ := X
      obtain ⟨ya, ye⟩ := Y
      simp only at hse
      have d1 : PureFn Tryz.prog 8 [m.pv, .nil, fpv (buildL (n0 16) [f, g])] (dynPV (xa, xe)) := d1.le ⟨.refl _, .nil, .refl _, trivial⟩
      have c1 := ck_Holds m ya hf
      refine PureFn.introC [3, 4, 5] mixed (fn := Tryz.f4) rfl rfl rfl fun M w0 => ?_
      try conv=>whnf
      refine ⟨Unit, fun _ => [(1, .pv (fpv f)), (2, .pv (fpv g)), (3, .ref 0 0)], fun _ => 1, fun _ => [(0, .var (cellsM m))], ?_, ?_⟩
      · (try conv=>whnf);repeat' (first|(apply And.intro<;>try conv=>whnf)|(intro h;try conv=>whnf)|apply True.intro|(apply cellsI;rfl)|(apply WhenQ.mk;(try conv=>whnf);rotate_left;(try conv=>whnf);rotate_right)|with_reducible assumption|(apply not_of;with_reducible assumption)|(refine PureFn.dcq (f := 6) rfl ?_;try conv=>whnf)|(refine PureFn.dcq (f := 5) rfl ?_;try conv=>whnf)|(refine PureFn.dcq (f := 7) rfl ?_;try conv=>whnf)|(refine ⟨_, _, hW, ?_, ?_⟩;(focus first|(refine ⟨?_, ?_, trivial⟩<;>first|exact PLe.refl _|exact PLe.nil)|exact trivial);try conv=>whnf)|(refine ⟨_, _, hAw, ?_, ?_⟩;(focus first|(refine ⟨trivial⟩<;>first|exact PLe.refl _|exact PLe.nil)|exact trivial);try conv=>whnf)|(refine ⟨_, _, hT, ?_, ?_⟩;(focus first|(refine ⟨?_, ?_, trivial⟩<;>first|exact PLe.refl _|exact PLe.nil)|exact trivial);try conv=>whnf)|fail)
        · exact .refl _
        · exact ⟨(), (by refine Wk.of ?_ ?_ rfl rfl rfl<;>repeat' (first|exact trivial|exact WkD.same _|exact WkO.same _ _ rfl|refine ⟨?_, ?_⟩|fail))⟩
      rintro ⟨⟩
      refine ⟨Unit, fun _ => [(1, .pv (fpv f)), (2, .pv (fpv g)), (3, .ref 0 0), (7, .pv (fpv ya)), (8, .pv (.int .i64 ye))], fun _ => 1, fun _ => [(0, .var (cellsM m))], ?_, ?_⟩
      · (try conv=>whnf);repeat' (first|(refine PureFn.dcq (f := 11) rfl ?_;try conv=>whnf)|(refine ⟨_, _, r1, ?_, ?_⟩;(focus first|(refine ⟨?_, ?_, trivial⟩<;>first|exact PLe.refl _|exact PLe.nil)|exact trivial);try conv=>whnf)|fail)
        exact ⟨(), (by refine Wk.of ?_ ?_ rfl rfl rfl<;>repeat' (first|exact trivial|exact WkD.same _|exact WkO.same _ _ rfl|refine ⟨?_, ?_⟩|fail))⟩
      rintro ⟨⟩
      refine ⟨Unit, fun _ => [(3, .ref 0 0), (7, .pv (fpv ya)), (8, .pv (.int .i64 ye)), (9, .pv (u64 xa)), (10, .pv (.int .i64 xe))], fun _ => 1, fun _ => [(0, .var (cellsM m))], ?_, ?_⟩
      · (try conv=>whnf);repeat' (first|(refine lin_plan (by kernel_rfl) ?_;try conv=>whnf)|(refine ⟨_, (by (conv=>whnf);exact a1), rfl, ?_⟩;try conv=>whnf)|(refine ⟨_, (by (conv=>whnf);exact d1), rfl, ?_⟩;try conv=>whnf)|fail)
        exact ⟨(), (by refine Wk.of ?_ ?_ rfl rfl rfl<;>repeat' (first|exact trivial|exact WkD.same _|exact WkO.same _ _ rfl|refine ⟨?_, ?_⟩|fail))⟩
      rintro ⟨⟩
      by_cases y0 : ye = 0
      · by_cases x0 : xe = 0
        · subst x0; subst y0
          rw [hse rfl rfl] at c1
          (try conv=>whnf);repeat' (first|(apply And.intro<;>try conv=>whnf)|(intro h;try conv=>whnf)|apply True.intro|(apply WhenQ.mk;(try conv=>whnf);rotate_left;(try conv=>whnf);rotate_right)|with_reducible assumption|(apply not_of;with_reducible assumption)|(refine PureFn.dcq (f := 10) rfl ?_;try conv=>whnf)|(refine ⟨_, _, c1, ?_, ?_⟩;(focus first|(refine ⟨?_, ?_, trivial⟩<;>first|exact PLe.refl _|exact PLe.nil)|exact trivial);try conv=>whnf)|fail)
          · exact .refl _
          · exact le_bool (by simp)
        · have f1 : (xe != 0) = true := by simpa using x0
          subst y0
          (try conv=>whnf);repeat' (first|(apply And.intro<;>try conv=>whnf)|(intro h;try conv=>whnf)|apply True.intro|(apply WhenQ.mk;(try conv=>whnf);rotate_left;(try conv=>whnf);rotate_right)|with_reducible assumption|(apply not_of;with_reducible assumption)|fail)
          · exact .refl _
          · exfalso
            have h' : (bif ((0 : Int) != 0) then true else (xe != 0)) = false := h
            rw [f1] at h'
            cases h'
      · have f1 : (ye != 0) = true := by simpa using y0
        (try conv=>whnf);repeat' (first|(apply And.intro<;>try conv=>whnf)|(intro h;first|with_reducible exact tf (by assumption) h|try conv=>whnf)|apply True.intro|(apply WhenQ.mk;(try conv=>whnf);rotate_left;(try conv=>whnf);rotate_right)|with_reducible assumption|fail)
        · exact .refl _
        · exfalso
          have h' : (bif (ye != 0) then true else (xe != 0)) = false := h
          rw [f1] at h'
          cases h'
theorem u_actr : Tryz.prog.underlying 26 = some (.slice 52) := by kernel_rfl
theorem u_scnr : ∃ fs : Array Field, Tryz.prog.underlying 28 = some (.struct fs) ∧ fs.toList.map (·.type) = [25, 26] := ⟨_, rfl, by kernel_rfl⟩
theorem arg_scnr {n : Nat} {p : PV} (h : TyA Tryz.prog (n + 9) 28 p) : ∃ (m : Mo) (acts : List Act), PLe p (scnR m acts) ∧ FitM m ∧ ∀ a, a ∈ acts → Fit a := by
  obtain ⟨cs, h, rfl⟩ := h
  obtain ⟨fs0, hu0, hf0⟩ := u_scnr
  have hm : mkE Tryz.prog 28 cs = .agg cs := by simp only [mkE, kindT, hu0]
  obtain ⟨cm, b, r1, rfl, h1, hb, m1⟩ := fs_cons hf0 (tyS (n := n + 8) hu0 h)
  obtain ⟨ca, d, r2, rfl, h2, hd, m2⟩ := fs_cons m1 hb
  have := fs_nil m2 hd
  subst this
  obtain ⟨fs, hu, hf⟩ := u_mod
  obtain ⟨a, b, r1, rfl, g1, hb, m1⟩ := fs_cons hf (tyS (n := n + 7) hu h1)
  obtain ⟨c, d, r2, rfl, g2, hd, m2⟩ := fs_cons m1 hb
  obtain ⟨e, g, r3, rfl, g3, hg, m3⟩ := fs_cons m2 hd
  have := fs_nil m3 hg
  subst this
  obtain ⟨w, rfl, _⟩ := int_of (n := n + 6) g1
  obtain ⟨val, q2, rfl, l2, hv⟩ := slice_of (n := n + 6) (g := u64) (Q := fun s => s < 2 ^ 64) u_rowT (u64_el (n := n + 5)) g2
  obtain ⟨rel, q3, rfl, l3, hr⟩ := slice_of (n := n + 6) (g := rowPV) (Q := fun r => ∀ s, s ∈ r → s < 2 ^ 64) u_relT (fun p hp => el_of (n := n + 5) u_rowT (u64_el (n := n + 4)) p hp) g3
  obtain ⟨acts, q4, rfl, l4, ha⟩ := slice_of (n := n + 7) (g := Act.pv) (Q := Fit) u_actr (fun _ hp => arg_act (n := n) hp) h2
  refine ⟨⟨w, val, rel⟩, acts, ?_, ⟨hv, hr⟩, ha⟩
  rw [hm]
  exact PLe.aggs ⟨.refl _, l2, l3, l4, trivial⟩
theorem requal_args (ps : List PV) (hps : TyAll Tryz.prog 9 Tryz.f3.params.toList ps) : PureFn Tryz.prog 3 ps (.bool true) := by
  obtain ⟨p1, r1, rfl, h1, p2, r2, rfl, h2, rfl⟩ := hps
  obtain ⟨m, acts, hm, hf, hA⟩ := arg_scnr (n := 0) h1
  obtain ⟨f, hf2⟩ := arg_nodes (n := 6) h2
  exact (requal_pure m acts f hf hA).le ⟨hm, hf2, trivial⟩
theorem rann_args (ps : List PV) (hps : TyAll Tryz.prog 8 Tryz.f4.params.toList ps) : PureFn Tryz.prog 4 ps (.bool true) := by
  obtain ⟨p1, r1, rfl, h1, p2, r2, rfl, h2, p3, r3, rfl, h3, rfl⟩ := hps
  obtain ⟨m, hm, hf⟩ := arg_mod (n := 4) h1
  obtain ⟨f, hf2⟩ := arg_nodes (n := 5) h2
  obtain ⟨g, hg2⟩ := arg_nodes (n := 5) h3
  exact (rann_pure m f g hf).le ⟨hm, hf2, hg2, trivial⟩
end Go.Proofs.YtibbphifegibkaaGreatDoor
