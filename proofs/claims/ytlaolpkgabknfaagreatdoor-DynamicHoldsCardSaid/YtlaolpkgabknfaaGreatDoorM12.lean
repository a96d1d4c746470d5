/- Parts of the proof, one after the other: The dynamic language: Holds of the reference, and the law DynamicHolds, walked. -/
import Derived.Test.YtlaolpkgabknfaaGreatDoorM11
set_option maxRecDepth 100000
set_option maxHeartbeats 8000000
namespace Go.Proofs.YtlaolpkgabknfaaGreatDoor
open Go Go.Dv

theorem rd_Holds (m : Mo) (acts : List Act) (f : List Nd) (hf : FitM m) (hS : ∀ a, a ∈ acts → SmA a) : PureFn Tryz.prog 11 [m.pv, actsPV acts, fpv f] (dynPV (dynI m acts f)) := by
  have hR := rd_errors m acts f hf hS
  cases hr : (reqD m acts f != 0) with
  | true =>
    have e1 : dynI m acts f = (0, reqD m acts f) := by rw [dynI, hr]; rfl
    rw [e1]
    refine PureFn.intro mixed (fn := Tryz.f11) rfl rfl rfl fun M w0 => ?_
    (try conv=>whnf);repeat' (first|(apply And.intro<;>try conv=>whnf)|(intro h;first|with_reducible exact tf (by assumption) h|try conv=>whnf)|(refine PureFn.dcq (f := 37) rfl ?_;try conv=>whnf)|(refine ⟨_, _, hR, ?_, ?_⟩;(focus first|(refine ⟨?_, ?_, ?_, trivial⟩<;>first|exact PLe.refl _|exact PLe.nil)|exact trivial);try conv=>whnf)|fail)
    exact .refl _
  | false =>
    have h0 : reqD m acts f = 0 := by simpa using hr
    rw [h0] at hR
    have f0 : ((0 : Int) != 0) = false := rfl
    obtain ⟨n, hD, _⟩ := chkD_ok (reqD_iff.1 h0).1
    have hck := req_check h0
    have hC := cxd_of h0
    have hK := ref_Compact f
    have hpos := comp_pos hck
    have hlen := hC.len
    have hE := rd_eval hC hS ((comp f).length - 1) (by omega) m n ⟨hD, rfl, rfl⟩
    have hrt : tree (comp f) ((comp f).length - 1) = root f := root_comp hck
    rw [hrt, show i64 ((comp f).length - 1) = .int .i64 (IntKind.wrap .i64 ((((comp f).map Nd.pv).length : Int) - 1)) by rw [List.length_map, Go.Dv.wrap_small (by omega) (by omega)]; exact congrArg (PV.int .i64) (by omega)] at hE
    have e1 : dynI m acts f = match dvT acts (root f) m with
      | none => (0, 8)
      | some s => (s, 0) := by rw [dynI, h0]; rfl
    rw [e1]
    generalize dvT acts (root f) m = o at hE
    cases o with
    | none =>
      have hE : PureFn Tryz.prog 39 [m.pv, actsPV acts, fpv (comp f), .int .i64 (IntKind.wrap .i64 ((((comp f).map Nd.pv).length : Int) - 1))] (.tup [u64 0, .bool false]) := hE
      refine PureFn.intro mixed (fn := Tryz.f11) rfl rfl rfl fun M w0 => ?_
      (try conv=>whnf);repeat' (first|(apply And.intro<;>try conv=>whnf)|(intro h;first|with_reducible exact nf0 h|with_reducible exact tf h (by assumption)|try conv=>whnf)|(refine PureFn.dcq (f := 37) rfl ?_;try conv=>whnf)|(refine PureFn.dcq (f := 38) rfl ?_;try conv=>whnf)|(refine PureFn.dcq (f := 39) rfl ?_;try conv=>whnf)|(refine ⟨_, _, hR, ?_, ?_⟩;(focus first|(refine ⟨?_, ?_, ?_, trivial⟩<;>first|exact PLe.refl _|exact PLe.nil)|exact trivial);try conv=>whnf)|(refine ⟨_, _, hK, ?_, ?_⟩;(focus first|(refine ⟨?_, trivial⟩<;>first|exact PLe.refl _|exact PLe.nil)|exact trivial);try conv=>whnf)|(refine ⟨_, _, hE, ?_, ?_⟩;(focus first|(refine ⟨?_, ?_, ?_, ?_, trivial⟩<;>first|exact PLe.refl _|exact PLe.nil)|exact trivial);try conv=>whnf)|fail)
      all_goals first | exact .refl _ | exact absurd (show ((0 : Int) != 0) = true from h) (by decide)
    | some s =>
      have hE : PureFn Tryz.prog 39 [m.pv, actsPV acts, fpv (comp f), .int .i64 (IntKind.wrap .i64 ((((comp f).map Nd.pv).length : Int) - 1))] (.tup [u64 s, .bool true]) := hE
      refine PureFn.intro mixed (fn := Tryz.f11) rfl rfl rfl fun M w0 => ?_
      (try conv=>whnf);repeat' (first|(apply And.intro<;>try conv=>whnf)|(intro h;first|with_reducible exact nt0 h|with_reducible exact tf h (by assumption)|try conv=>whnf)|(refine PureFn.dcq (f := 37) rfl ?_;try conv=>whnf)|(refine PureFn.dcq (f := 38) rfl ?_;try conv=>whnf)|(refine PureFn.dcq (f := 39) rfl ?_;try conv=>whnf)|(refine ⟨_, _, hR, ?_, ?_⟩;(focus first|(refine ⟨?_, ?_, ?_, trivial⟩<;>first|exact PLe.refl _|exact PLe.nil)|exact trivial);try conv=>whnf)|(refine ⟨_, _, hK, ?_, ?_⟩;(focus first|(refine ⟨?_, trivial⟩<;>first|exact PLe.refl _|exact PLe.nil)|exact trivial);try conv=>whnf)|(refine ⟨_, _, hE, ?_, ?_⟩;(focus first|(refine ⟨?_, ?_, ?_, ?_, trivial⟩<;>first|exact PLe.refl _|exact PLe.nil)|exact trivial);try conv=>whnf)|fail)
      all_goals first | exact .refl _ | exact absurd (show ((0 : Int) != 0) = true from h) (by decide)
theorem dholds_pure (m : Mo) (acts : List Act) (f : List Nd) (hf : FitM m) (hA : ∀ a, a ∈ acts → Fit a) : PureFn Tryz.prog 3 [scnPV m acts, fpv f] (.bool true) := by
  have hW := lw_few m acts [f] (by simp)
  have hAw := lw_awake28
  cases hfw : fewD m acts [f] with
  | false =>
    rw [hfw] at hW
    refine PureFn.introC [3] mixed (fn := Tryz.f3) rfl rfl rfl fun M w0 => ?_
    try conv=>whnf
    refine ⟨{ _x : Unit // False }, fun _ => [], fun _ => 0, fun _ => [], ?_, fun ⟨_, h⟩ => h.elim⟩
    have f1 : (!(bif !true then true else !false)) = false := rfl
    have f2 : (bif (bif !true then true else !false) then true else false) = true := rfl
    (try conv=>whnf);repeat' (first|(apply And.intro<;>try conv=>whnf)|(intro h;first|with_reducible exact tf (by assumption) h|try conv=>whnf)|apply True.intro|(apply cellsI;rfl)|(apply whenOff;(focus with_reducible assumption);try conv=>whnf)|(apply WhenQ.mk;(try conv=>whnf);rotate_left;(try conv=>whnf);rotate_right)|with_reducible assumption|(apply not_of;with_reducible assumption)|(refine PureFn.dcq (f := 8) rfl ?_;try conv=>whnf)|(refine PureFn.dcq (f := 7) rfl ?_;try conv=>whnf)|(refine ⟨_, _, hW, ?_, ?_⟩;(focus first|(refine ⟨?_, ?_, trivial⟩<;>first|exact PLe.refl _|exact PLe.nil)|exact trivial);try conv=>whnf)|(refine ⟨_, _, hAw, ?_, ?_⟩;(focus first|(refine ⟨trivial⟩<;>first|exact PLe.refl _|exact PLe.nil)|exact trivial);try conv=>whnf)|fail)
    exact .refl _
  | true =>
    rw [hfw] at hW
    obtain ⟨hl, hfm, hfr⟩ := fewD_ok hfw
    obtain ⟨hal, haa⟩ := fewR_ok hfr
    have hS : ∀ a, a ∈ acts → SmA a := fun a ha => ⟨hA a ha, by have := (haa a ha).2.2.1; omega, fun l hl => by have := (haa a ha).2.2.2.2 l hl; omega⟩
    have hS1 := lw_shallow f (by have := hl f (by simp); omega)
    have hC := rd_Check m acts hf hS
    have hD := dy_Check m acts hf hS
    have d1 := dy_Holds m acts f hf hS
    have c1 := rd_Holds m acts f hf hS
    generalize dynI m acts f = X at d1 c1
    obtain ⟨xa, xe⟩ := X
    refine PureFn.introC [3, 4, 5] mixed (fn := Tryz.f3) rfl rfl rfl fun M w0 => ?_
    try conv=>whnf
    refine ⟨Unit, fun _ => [(1, .pv (fpv f)), (2, .ref 0 0)], fun _ => 1, fun _ => [(0, .var (cellsS m acts))], ?_, ?_⟩
    · (try conv=>whnf);repeat' (first|(apply And.intro<;>try conv=>whnf)|(intro h;try conv=>whnf)|apply True.intro|(apply cellsI;rfl)|(apply WhenQ.mk;(try conv=>whnf);rotate_left;(try conv=>whnf);rotate_right)|with_reducible assumption|(apply not_of;with_reducible assumption)|(refine PureFn.dcq (f := 8) rfl ?_;try conv=>whnf)|(refine PureFn.dcq (f := 7) rfl ?_;try conv=>whnf)|(refine PureFn.dcq (f := 9) rfl ?_;try conv=>whnf)|(refine ⟨_, _, hW, ?_, ?_⟩;(focus first|(refine ⟨?_, ?_, trivial⟩<;>first|exact PLe.refl _|exact PLe.nil)|exact trivial);try conv=>whnf)|(refine ⟨_, _, hAw, ?_, ?_⟩;(focus first|(refine ⟨trivial⟩<;>first|exact PLe.refl _|exact PLe.nil)|exact trivial);try conv=>whnf)|(refine ⟨_, _, hS1, ?_, ?_⟩;(focus first|(refine ⟨?_, trivial⟩<;>first|exact PLe.refl _|exact PLe.nil)|exact trivial);try conv=>whnf)|fail)
      · exact .refl _
      · exact ⟨(), (by refine Wk.of ?_ ?_ rfl rfl rfl<;>repeat' (first|exact trivial|exact WkD.same _|exact WkO.same _ _ rfl|refine ⟨?_, ?_⟩|fail))⟩
    rintro ⟨⟩
    refine ⟨Unit, fun _ => [(1, .pv (fpv f)), (2, .ref 0 0), (5, .pv (u64 xa)), (6, .pv (.int .i64 xe))], fun _ => 1, fun _ => [(0, .var (cellsS m acts))], ?_, ?_⟩
    · (try conv=>whnf);repeat' (first|(refine PureFn.dcq (f := 10) rfl ?_;try conv=>whnf)|(refine ⟨_, _, d1, ?_, ?_⟩;(focus first|(refine ⟨?_, ?_, ?_, trivial⟩<;>first|exact PLe.refl _|exact PLe.nil)|exact trivial);try conv=>whnf)|fail)
      exact ⟨(), (by refine Wk.of ?_ ?_ rfl rfl rfl<;>repeat' (first|exact trivial|exact WkD.same _|exact WkO.same _ _ rfl|refine ⟨?_, ?_⟩|fail))⟩
    rintro ⟨⟩
    refine ⟨Unit, fun _ => [(2, .ref 0 0), (5, .pv (u64 xa)), (6, .pv (.int .i64 xe)), (7, .pv (u64 xa)), (8, .pv (.int .i64 xe))], fun _ => 1, fun _ => [(0, .var (cellsS m acts))], ?_, ?_⟩
    · (try conv=>whnf);repeat' (first|(refine PureFn.dcq (f := 11) rfl ?_;try conv=>whnf)|(refine ⟨_, _, c1, ?_, ?_⟩;(focus first|(refine ⟨?_, ?_, ?_, trivial⟩<;>first|exact PLe.refl _|exact PLe.nil)|exact trivial);try conv=>whnf)|fail)
      exact ⟨(), (by refine Wk.of ?_ ?_ rfl rfl rfl<;>repeat' (first|exact trivial|exact WkD.same _|exact WkO.same _ _ rfl|refine ⟨?_, ?_⟩|fail))⟩
    rintro ⟨⟩
    (try conv=>whnf);repeat' (first|(apply And.intro<;>try conv=>whnf)|(intro h;try conv=>whnf)|apply True.intro|(apply WhenQ.mk;(try conv=>whnf);rotate_left;(try conv=>whnf);rotate_right)|with_reducible assumption|(refine lin_plan (by kernel_rfl) ?_;try conv=>whnf)|(refine ⟨_, (by (conv=>whnf);exact hC), rfl, ?_⟩;try conv=>whnf)|(refine ⟨_, (by (conv=>whnf);exact hD), rfl, ?_⟩;try conv=>whnf)|fail)
    exact le_bool (by simp)
theorem dholds_args (ps : List PV) (hps : TyAll Tryz.prog 9 Tryz.f3.params.toList ps) : PureFn Tryz.prog 3 ps (.bool true) := by
  obtain ⟨p1, r1, rfl, h1, p2, r2, rfl, h2, rfl⟩ := hps
  obtain ⟨m, acts, h, hm, ha⟩ := arg_scn (n := 0) h1
  obtain ⟨f, hf2⟩ := arg_nodes (n := 6) h2
  exact (dholds_pure m acts f hm ha).le ⟨h, hf2, trivial⟩
end Go.Proofs.YtlaolpkgabknfaaGreatDoor
