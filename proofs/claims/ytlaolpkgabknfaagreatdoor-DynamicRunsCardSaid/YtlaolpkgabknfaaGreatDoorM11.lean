/- Parts of the proof, one after the other: The dynamic language: the examples of the law walked. The dynamic language: the law DynamicMerges walked. The dynamic language: scenes as arguments. The dynamic language: the reference's step walked. The reference of models walked: Copy; the dynamic language's reference: Run. The dynamic language: the reference's Run walked. The dynamic language: the law DynamicRuns walked. -/
import Derived.Test.YtlaolpkgabknfaaGreatDoorM10
set_option maxRecDepth 100000
set_option maxHeartbeats 8000000
namespace Go.Proofs.YtlaolpkgabknfaaGreatDoor
open Go Go.Dv

def awP : List Nd := buildL (nI 3 0) []
def awQ : List Nd := buildL (nI 3 1) []
def awE : List Nd := buildL (n0 6) [awP, awQ]
def awK : List Nd := buildL (nI 9 0) [awP]
def awO (i : Int) (f : List Nd) : List Nd := buildL (n0 5) [buildL (n0 4) [buildL (nI 9 i) [f]], buildL (n0 4) [buildL (nI 9 i) [buildL (n0 4) [f]]]]
def awA : Act := pubA 2 awE
def aw1 : List Nd := buildL (n0 16) [awE, awK]
def aw2 : List Nd := buildL ⟨17, 0, 0, 0, 0, 0⟩ [awK]
def aw3 : List Nd := buildL (n0 16) [awE, buildL (n0 16) [buildL (n0 5) [awO 0 awP, awO 1 awQ], awK]]
theorem awk0 : pubI 2 awE = (awA, 0) := by kernel_rfl
theorem awk1 : dynPV (dynI hatM [] aw1) = .tup [u64 3, .int .i64 0] := by kernel_rfl
theorem awk2 : dynPV (dynI hatM [awA] aw2) = .tup [u64 3, .int .i64 0] := by kernel_rfl
theorem awk3 : dynPV (dynI hatM [] aw3) = .tup [u64 15, .int .i64 0] := by kernel_rfl
def awM : Mo := (runI hatM [awA] 1 [(0, 0)]).1
theorem awk4 : runPV (runI hatM [awA] 1 [(0, 0)]) = .tup [awM.pv, .int .i64 0, .int .i64 1, .int .i64 0] := by kernel_rfl
theorem awk4n : awM.n = 3 := by kernel_rfl
theorem awk5 : runPV (runI hatM [awA] 0 [(0, 0)]) = .tup [noMo.pv, .int .i64 0, .int .i64 0, .int .i64 11] := by kernel_rfl
theorem awk6 : dynPV (dynI hatM [] aw2) = .tup [u64 0, .int .i64 6] := by kernel_rfl
theorem awk7 : chkD hatM [awA] = 0 := by kernel_rfl
theorem hat_fit : FitM hatM := ⟨by intro s hs; simp [hatM] at hs; omega, by intro r hr s hs; simp [hatM] at hr; rcases hr with rfl | rfl <;> simp at hs <;> omega⟩
theorem awA_sm : ∀ a, a ∈ [awA] → SmA a := fun a ha => by
  rw [List.mem_singleton.1 ha]
  refine ⟨fun r hr s hs => ?_, by decide, by simp [awA, pubA]⟩
  rw [List.eq_of_mem_replicate (show r ∈ onesL 2 from hr)] at hs
  rw [List.mem_singleton.1 hs]; decide
theorem no_sm : ∀ a, a ∈ ([] : List Act) → SmA a := fun a ha => by cases ha
theorem lw_open (i : Int) (f : List Nd) : PureFn Tryz.prog 24 [.int .i64 i, fpv f] (fpv (awO i f)) := by
  refine PureFn.intro mixed (fn := Tryz.f24) rfl rfl rfl fun M w0 => ?_
  have h1 := fm_Know i f
  have h2 := fm_Not (buildL (nI 9 i) [f])
  have h3 := fm_Not f
  have h4 := fm_Know i (buildL (n0 4) [f])
  have h5 := fm_Not (buildL (nI 9 i) [buildL (n0 4) [f]])
  have h6 := fm_And (buildL (n0 4) [buildL (nI 9 i) [f]]) (buildL (n0 4) [buildL (nI 9 i) [buildL (n0 4) [f]]])
  (try conv=>whnf);repeat' (first|(refine PureFn.dcq (f := 27) rfl ?_;try conv=>whnf)|(refine PureFn.dcq (f := 26) rfl ?_;try conv=>whnf)|(refine PureFn.dcq (f := 25) rfl ?_;try conv=>whnf)|(refine ⟨_, _, h1, ?_, ?_⟩;(focus first|(refine ⟨?_, ?_, trivial⟩<;>first|exact PLe.refl _|exact PLe.nil)|exact trivial);try conv=>whnf)|(refine ⟨_, _, h2, ?_, ?_⟩;(focus first|(refine ⟨?_, trivial⟩<;>first|exact PLe.refl _|exact PLe.nil)|exact trivial);try conv=>whnf)|(refine ⟨_, _, h3, ?_, ?_⟩;(focus first|(refine ⟨?_, trivial⟩<;>first|exact PLe.refl _|exact PLe.nil)|exact trivial);try conv=>whnf)|(refine ⟨_, _, h4, ?_, ?_⟩;(focus first|(refine ⟨?_, ?_, trivial⟩<;>first|exact PLe.refl _|exact PLe.nil)|exact trivial);try conv=>whnf)|(refine ⟨_, _, h5, ?_, ?_⟩;(focus first|(refine ⟨?_, trivial⟩<;>first|exact PLe.refl _|exact PLe.nil)|exact trivial);try conv=>whnf)|(refine ⟨_, _, h6, ?_, ?_⟩;(focus first|(refine ⟨?_, ?_, trivial⟩<;>first|exact PLe.refl _|exact PLe.nil)|exact trivial);try conv=>whnf)|fail)
  exact .refl _
theorem lw_awake28 : PureFn Tryz.prog 7 [] (.bool true) := by
  have hH := lw_hats
  have hP : PureFn Tryz.prog 22 [.int .i64 0] (fpv awP) := fm_Fact 0
  have hQ : PureFn Tryz.prog 22 [.int .i64 1] (fpv awQ) := fm_Fact 1
  have hE : PureFn Tryz.prog 23 [fpv awP, fpv awQ] (fpv awE) := fm_Or awP awQ
  have hK : PureFn Tryz.prog 27 [.int .i64 0, fpv awP] (fpv awK) := fm_Know 0 awP
  have hA := ac_Public 2 awE
  rw [awk0] at hA
  have h1 : PureFn Tryz.prog 19 [fpv awE, fpv awK] (fpv aw1) := fm_Announce awE awK
  have d1 := dy_Holds hatM [] aw1 hat_fit no_sm
  rw [awk1] at d1
  have h2 : PureFn Tryz.prog 30 [.int .i64 0, .int .i64 0, fpv awK] (fpv aw2) := fm_Act 0 0 awK
  have d2 := dy_Holds hatM [awA] aw2 hat_fit awA_sm
  rw [awk2] at d2
  have o0 := lw_open 0 awP
  have o1 := lw_open 1 awQ
  have h3 := fm_And (awO 0 awP) (awO 1 awQ)
  have h4 := fm_Announce (buildL (n0 5) [awO 0 awP, awO 1 awQ]) awK
  have h5 : PureFn Tryz.prog 19 [fpv awE, fpv (buildL (n0 16) [buildL (n0 5) [awO 0 awP, awO 1 awQ], awK])] (fpv aw3) := fm_Announce awE _
  have d3 := dy_Holds hatM [] aw3 hat_fit no_sm
  rw [awk3] at d3
  have r1 := dy_Run hatM [awA] 1 [(0, 0)] hat_fit awA_sm (by decide)
  rw [awk4] at r1
  have r2 := dy_Run hatM [awA] 0 [(0, 0)] hat_fit awA_sm (by decide)
  rw [awk5] at r2
  have d4 := dy_Holds hatM [] aw2 hat_fit no_sm
  rw [awk6] at d4
  have c1 := dy_Check hatM [awA] hat_fit awA_sm
  rw [awk7] at c1
  refine PureFn.introC [2, 3, 4, 5, 6, 7, 8, 9, 10, 11, 12, 13] mixed (fn := Tryz.f7) rfl rfl rfl fun M w0 => ?_
  try conv=>whnf
  refine ⟨Unit, fun _ => [(1, .pv (fpv awP)), (2, .pv (fpv awQ))], fun _ => 0, fun _ => [], ?_, ?_⟩
  · (try conv=>whnf);repeat' (first|(refine PureFn.dcq (f := 22) rfl ?_;try conv=>whnf)|(refine ⟨_, _, hP, ?_, ?_⟩;(focus first|(refine ⟨?_, trivial⟩<;>first|exact PLe.refl _|exact PLe.nil)|exact trivial);try conv=>whnf)|(refine ⟨_, _, hQ, ?_, ?_⟩;(focus first|(refine ⟨?_, trivial⟩<;>first|exact PLe.refl _|exact PLe.nil)|exact trivial);try conv=>whnf)|fail)
    exact ⟨(), (by refine Wk.of ?_ ?_ rfl rfl rfl<;>repeat' (first|exact trivial|exact WkD.same _|refine ⟨?_, ?_⟩|fail))⟩
  rintro ⟨⟩
  refine ⟨Unit, fun _ => [(1, .pv (fpv awP)), (2, .pv (fpv awQ)), (3, .pv (fpv awE))], fun _ => 0, fun _ => [], ?_, ?_⟩
  · (try conv=>whnf);repeat' (first|(refine PureFn.dcq (f := 23) rfl ?_;try conv=>whnf)|(refine ⟨_, _, hE, ?_, ?_⟩;(focus first|(refine ⟨?_, ?_, trivial⟩<;>first|exact PLe.refl _|exact PLe.nil)|exact trivial);try conv=>whnf)|fail)
    exact ⟨(), (by refine Wk.of ?_ ?_ rfl rfl rfl<;>repeat' (first|exact trivial|exact WkD.same _|refine ⟨?_, ?_⟩|fail))⟩
  rintro ⟨⟩
  refine ⟨Unit, fun _ => [(1, .pv (fpv awP)), (2, .pv (fpv awQ)), (3, .pv (fpv awE)), (4, .clo 24 [] [])], fun _ => 0, fun _ => [], ?_, ?_⟩
  · try conv=>whnf
    exact ⟨(), (by refine Wk.of ?_ ?_ rfl rfl rfl<;>repeat' (first|exact trivial|exact WkD.same _|refine ⟨?_, ?_⟩|fail))⟩
  rintro ⟨⟩
  refine ⟨Unit, fun _ => [(1, .pv (fpv awP)), (2, .pv (fpv awQ)), (3, .pv (fpv awE)), (4, .clo 24 [] []), (5, .pv (fpv awK))], fun _ => 0, fun _ => [], ?_, ?_⟩
  · (try conv=>whnf);repeat' (first|(refine PureFn.dcq (f := 27) rfl ?_;try conv=>whnf)|(refine ⟨_, _, hK, ?_, ?_⟩;(focus first|(refine ⟨?_, ?_, trivial⟩<;>first|exact PLe.refl _|exact PLe.nil)|exact trivial);try conv=>whnf)|fail)
    exact ⟨(), (by refine Wk.of ?_ ?_ rfl rfl rfl<;>repeat' (first|exact trivial|exact WkD.same _|refine ⟨?_, ?_⟩|fail))⟩
  rintro ⟨⟩
  refine ⟨Unit, fun _ => [(1, .pv (fpv awP)), (2, .pv (fpv awQ)), (3, .pv (fpv awE)), (4, .clo 24 [] []), (5, .pv (fpv awK)), (6, .ref 0 0), (7, .pv (.int .i64 0))], fun _ => 1, fun _ => [(0, .var (actDV awA))], ?_, ?_⟩
  · (try conv=>whnf);repeat' (first|(refine PureFn.dcq (f := 28) rfl ?_;try conv=>whnf)|(refine ⟨_, _, hA, ?_, ?_⟩;(focus first|(refine ⟨?_, ?_, trivial⟩<;>first|exact PLe.refl _|exact PLe.nil)|exact trivial);try conv=>whnf)|fail)
    exact ⟨(), (by refine Wk.of ?_ ?_ rfl rfl rfl<;>repeat' (first|exact trivial|exact WkD.same _|exact WkO.same _ _ rfl|refine ⟨?_, ?_⟩|fail))⟩
  rintro ⟨⟩
  refine ⟨Unit, fun _ => [(1, .pv (fpv awP)), (2, .pv (fpv awQ)), (3, .pv (fpv awE)), (4, .clo 24 [] []), (5, .pv (fpv awK)), (7, .pv (.int .i64 0)), (8, .pv (actsPV [awA]))], fun _ => 0, fun _ => [], ?_, ?_⟩
  · (try conv=>whnf);repeat' (first|(apply And.intro<;>try conv=>whnf)|(apply cellsI;rfl)|fail)
    exact ⟨(), (by refine Wk.of ?_ ?_ rfl rfl rfl<;>repeat' (first|exact trivial|exact WkD.same _|refine ⟨?_, ?_⟩|fail))⟩
  rintro ⟨⟩
  refine ⟨Unit, fun _ => [(1, .pv (fpv awP)), (2, .pv (fpv awQ)), (3, .pv (fpv awE)), (4, .clo 24 [] []), (5, .pv (fpv awK)), (7, .pv (.int .i64 0)), (8, .pv (actsPV [awA])), (9, .pv (u64 3)), (10, .pv (.int .i64 0))], fun _ => 0, fun _ => [], ?_, ?_⟩
  · (try conv=>whnf);repeat' (first|(refine PureFn.dcq (f := 29) rfl ?_;try conv=>whnf)|(refine PureFn.dcq (f := 19) rfl ?_;try conv=>whnf)|(refine PureFn.dcq (f := 10) rfl ?_;try conv=>whnf)|(refine ⟨_, _, hH, ?_, ?_⟩;(focus first|(refine ⟨trivial⟩<;>first|exact PLe.refl _|exact PLe.nil)|exact trivial);try conv=>whnf)|(refine ⟨_, _, h1, ?_, ?_⟩;(focus first|(refine ⟨?_, ?_, trivial⟩<;>first|exact PLe.refl _|exact PLe.nil)|exact trivial);try conv=>whnf)|(refine ⟨_, _, d1, ?_, ?_⟩;(focus first|(refine ⟨?_, ?_, ?_, trivial⟩<;>first|exact PLe.refl _|exact PLe.nil)|exact trivial);try conv=>whnf)|fail)
    exact ⟨(), (by refine Wk.of ?_ ?_ rfl rfl rfl<;>repeat' (first|exact trivial|exact WkD.same _|refine ⟨?_, ?_⟩|fail))⟩
  rintro ⟨⟩
  refine ⟨Unit, fun _ => [(1, .pv (fpv awP)), (2, .pv (fpv awQ)), (3, .pv (fpv awE)), (4, .clo 24 [] []), (5, .pv (fpv awK)), (7, .pv (.int .i64 0)), (8, .pv (actsPV [awA])), (9, .pv (u64 3)), (10, .pv (.int .i64 0)), (11, .pv (u64 3)), (12, .pv (.int .i64 0))], fun _ => 0, fun _ => [], ?_, ?_⟩
  · (try conv=>whnf);repeat' (first|(refine PureFn.dcq (f := 29) rfl ?_;try conv=>whnf)|(refine PureFn.dcq (f := 30) rfl ?_;try conv=>whnf)|(refine PureFn.dcq (f := 10) rfl ?_;try conv=>whnf)|(refine ⟨_, _, hH, ?_, ?_⟩;(focus first|(refine ⟨trivial⟩<;>first|exact PLe.refl _|exact PLe.nil)|exact trivial);try conv=>whnf)|(refine ⟨_, _, h2, ?_, ?_⟩;(focus first|(refine ⟨?_, ?_, ?_, trivial⟩<;>first|exact PLe.refl _|exact PLe.nil)|exact trivial);try conv=>whnf)|(refine ⟨_, _, d2, ?_, ?_⟩;(focus first|(refine ⟨?_, ?_, ?_, trivial⟩<;>first|exact PLe.refl _|exact PLe.nil)|exact trivial);try conv=>whnf)|fail)
    exact ⟨(), (by refine Wk.of ?_ ?_ rfl rfl rfl<;>repeat' (first|exact trivial|exact WkD.same _|refine ⟨?_, ?_⟩|fail))⟩
  rintro ⟨⟩
  refine ⟨Unit, fun _ => [(1, .pv (fpv awP)), (2, .pv (fpv awQ)), (3, .pv (fpv awE)), (4, .clo 24 [] []), (5, .pv (fpv awK)), (7, .pv (.int .i64 0)), (8, .pv (actsPV [awA])), (9, .pv (u64 3)), (10, .pv (.int .i64 0)), (11, .pv (u64 3)), (12, .pv (.int .i64 0)), (13, .pv (u64 15)), (14, .pv (.int .i64 0))], fun _ => 0, fun _ => [], ?_, ?_⟩
  · (try conv=>whnf);repeat' (first|(refine PureFn.dcq (f := 29) rfl ?_;try conv=>whnf)|(refine PureFn.dcq (f := 24) rfl ?_;try conv=>whnf)|(refine PureFn.dcq (f := 25) rfl ?_;try conv=>whnf)|(refine PureFn.dcq (f := 19) rfl ?_;try conv=>whnf)|(refine PureFn.dcq (f := 10) rfl ?_;try conv=>whnf)|(refine ⟨_, _, hH, ?_, ?_⟩;(focus first|(refine ⟨trivial⟩<;>first|exact PLe.refl _|exact PLe.nil)|exact trivial);try conv=>whnf)|(refine ⟨_, _, o0, ?_, ?_⟩;(focus first|(refine ⟨?_, ?_, trivial⟩<;>first|exact PLe.refl _|exact PLe.nil)|exact trivial);try conv=>whnf)|(refine ⟨_, _, o1, ?_, ?_⟩;(focus first|(refine ⟨?_, ?_, trivial⟩<;>first|exact PLe.refl _|exact PLe.nil)|exact trivial);try conv=>whnf)|(refine ⟨_, _, h3, ?_, ?_⟩;(focus first|(refine ⟨?_, ?_, trivial⟩<;>first|exact PLe.refl _|exact PLe.nil)|exact trivial);try conv=>whnf)|(refine ⟨_, _, h4, ?_, ?_⟩;(focus first|(refine ⟨?_, ?_, trivial⟩<;>first|exact PLe.refl _|exact PLe.nil)|exact trivial);try conv=>whnf)|(refine ⟨_, _, h5, ?_, ?_⟩;(focus first|(refine ⟨?_, ?_, trivial⟩<;>first|exact PLe.refl _|exact PLe.nil)|exact trivial);try conv=>whnf)|(refine ⟨_, _, d3, ?_, ?_⟩;(focus first|(refine ⟨?_, ?_, ?_, trivial⟩<;>first|exact PLe.refl _|exact PLe.nil)|exact trivial);try conv=>whnf)|fail)
    exact ⟨(), (by refine Wk.of ?_ ?_ rfl rfl rfl<;>repeat' (first|exact trivial|exact WkD.same _|refine ⟨?_, ?_⟩|fail))⟩
  rintro ⟨⟩
  refine ⟨Unit, fun _ => [(1, .pv (fpv awP)), (2, .pv (fpv awQ)), (3, .pv (fpv awE)), (4, .clo 24 [] []), (5, .pv (fpv awK)), (7, .pv (.int .i64 0)), (8, .pv (actsPV [awA])), (9, .pv (u64 3)), (10, .pv (.int .i64 0)), (11, .pv (u64 3)), (12, .pv (.int .i64 0)), (13, .pv (u64 15)), (14, .pv (.int .i64 0)), (15, .ref 0 0), (16, .pv (.int .i64 0)), (17, .pv (.int .i64 1)), (18, .pv (.int .i64 0))], fun _ => 1, fun _ => [(0, .var (cellsM awM))], ?_, ?_⟩
  · (try conv=>whnf);repeat' (first|(apply And.intro<;>try conv=>whnf)|(apply cellsI;rfl)|(refine PureFn.dcq (f := 29) rfl ?_;try conv=>whnf)|(refine PureFn.dcq (f := 14) rfl ?_;try conv=>whnf)|(refine ⟨_, _, hH, ?_, ?_⟩;(focus first|(refine ⟨trivial⟩<;>first|exact PLe.refl _|exact PLe.nil)|exact trivial);try conv=>whnf)|(refine ⟨_, _, r1, ?_, ?_⟩;(focus first|(refine ⟨?_, ?_, ?_, ?_, trivial⟩<;>first|exact PLe.refl _|exact PLe.nil)|exact trivial);try conv=>whnf)|fail)
    exact ⟨(), (by refine Wk.of ?_ ?_ rfl rfl rfl<;>repeat' (first|exact trivial|exact WkD.same _|exact WkO.same _ _ rfl|refine ⟨?_, ?_⟩|fail))⟩
  rintro ⟨⟩
  refine ⟨Unit, fun _ => [(1, .pv (fpv awP)), (2, .pv (fpv awQ)), (3, .pv (fpv awE)), (4, .clo 24 [] []), (5, .pv (fpv awK)), (7, .pv (.int .i64 0)), (8, .pv (actsPV [awA])), (9, .pv (u64 3)), (10, .pv (.int .i64 0)), (11, .pv (u64 3)), (12, .pv (.int .i64 0)), (13, .pv (u64 15)), (14, .pv (.int .i64 0)), (15, .ref 0 0), (16, .pv (.int .i64 0)), (17, .pv (.int .i64 1)), (18, .pv (.int .i64 0)), (21, .pv (.int .i64 0)), (22, .pv (.int .i64 11))], fun _ => 1, fun _ => [(0, .var (cellsM awM))], ?_, ?_⟩
  · (try conv=>whnf);repeat' (first|(apply And.intro<;>try conv=>whnf)|(apply cellsI;rfl)|(refine PureFn.dcq (f := 29) rfl ?_;try conv=>whnf)|(refine PureFn.dcq (f := 14) rfl ?_;try conv=>whnf)|(refine ⟨_, _, hH, ?_, ?_⟩;(focus first|(refine ⟨trivial⟩<;>first|exact PLe.refl _|exact PLe.nil)|exact trivial);try conv=>whnf)|(refine ⟨_, _, r2, ?_, ?_⟩;(focus first|(refine ⟨?_, ?_, ?_, ?_, trivial⟩<;>first|exact PLe.refl _|exact PLe.nil)|exact trivial);try conv=>whnf)|fail)
    exact ⟨(), (by refine Wk.of ?_ ?_ rfl rfl rfl<;>repeat' (first|exact trivial|exact WkD.same _|exact WkO.same _ _ rfl|refine ⟨?_, ?_⟩|fail))⟩
  rintro ⟨⟩
  refine ⟨Unit, fun _ => [(1, .pv (fpv awP)), (2, .pv (fpv awQ)), (3, .pv (fpv awE)), (4, .clo 24 [] []), (5, .pv (fpv awK)), (7, .pv (.int .i64 0)), (8, .pv (actsPV [awA])), (9, .pv (u64 3)), (10, .pv (.int .i64 0)), (11, .pv (u64 3)), (12, .pv (.int .i64 0)), (13, .pv (u64 15)), (14, .pv (.int .i64 0)), (15, .ref 0 0), (16, .pv (.int .i64 0)), (17, .pv (.int .i64 1)), (18, .pv (.int .i64 0)), (21, .pv (.int .i64 0)), (22, .pv (.int .i64 11)), (24, .pv (.int .i64 6))], fun _ => 1, fun _ => [(0, .var (cellsM awM))], ?_, ?_⟩
  · (try conv=>whnf);repeat' (first|(refine PureFn.dcq (f := 29) rfl ?_;try conv=>whnf)|(refine PureFn.dcq (f := 30) rfl ?_;try conv=>whnf)|(refine PureFn.dcq (f := 10) rfl ?_;try conv=>whnf)|(refine ⟨_, _, hH, ?_, ?_⟩;(focus first|(refine ⟨trivial⟩<;>first|exact PLe.refl _|exact PLe.nil)|exact trivial);try conv=>whnf)|(refine ⟨_, _, h2, ?_, ?_⟩;(focus first|(refine ⟨?_, ?_, ?_, trivial⟩<;>first|exact PLe.refl _|exact PLe.nil)|exact trivial);try conv=>whnf)|(refine ⟨_, _, d4, ?_, ?_⟩;(focus first|(refine ⟨?_, ?_, ?_, trivial⟩<;>first|exact PLe.refl _|exact PLe.nil)|exact trivial);try conv=>whnf)|fail)
    exact ⟨(), (by refine Wk.of ?_ ?_ rfl rfl rfl<;>repeat' (first|exact trivial|exact WkD.same _|exact WkO.same _ _ rfl|refine ⟨?_, ?_⟩|fail))⟩
  rintro ⟨⟩
  have e3 : awM.n = 3 := awk4n
  (try conv=>whnf);repeat' (first|(apply And.intro<;>try conv=>whnf)|(intro h;try conv=>whnf)|apply True.intro|(apply WhenQ.mk;(try conv=>whnf);rotate_left;(try conv=>whnf);rotate_right)|with_reducible assumption|(refine PureFn.dcq (f := 29) rfl ?_;try conv=>whnf)|(refine PureFn.dcq (f := 12) rfl ?_;try conv=>whnf)|(refine ⟨_, _, hH, ?_, ?_⟩;(focus first|(refine ⟨trivial⟩<;>first|exact PLe.refl _|exact PLe.nil)|exact trivial);try conv=>whnf)|(refine ⟨_, _, c1, ?_, ?_⟩;(focus first|(refine ⟨?_, ?_, trivial⟩<;>first|exact PLe.refl _|exact PLe.nil)|exact trivial);try conv=>whnf)|fail)
  exact (fun (b : Bool) (h : b = true) => (show PLe (.bool b) (.bool true) from h ▸ .refl _)) _ (by kernel_rfl)
end Go.Proofs.YtlaolpkgabknfaaGreatDoor
set_option maxRecDepth 100000
set_option maxHeartbeats 8000000
namespace Go.Proofs.YtlaolpkgabknfaaGreatDoor
open Go Go.Dv

def scnPV (m : Mo) (acts : List Act) : PV := .agg [.int .i64 m.n, .sl (m.val.map u64), .sl (m.rel.map rowPV), actsPV acts]
def cellsS (m : Mo) (acts : List Act) : List DV := [.pv (.int .i64 m.n), .pv (.sl (m.val.map u64)), .pv (.sl (m.rel.map rowPV)), .pv (actsPV acts)]
def longB (fs : List (List Nd)) : Bool := fs.any fun f => decide ((f.length : Int) > 40)
def fewD (m : Mo) (acts : List Act) (fs : List (List Nd)) : Bool := bif longB fs then false else bif fewM m 10 then fewR acts else false
theorem fewD_ok {m : Mo} {acts : List Act} {fs : List (List Nd)} (h : fewD m acts fs = true) : (∀ f, f ∈ fs → f.length ≤ 40) ∧ fewM m 10 = true ∧ fewR acts = true := by
  unfold fewD at h
  cases h1 : longB fs with
  | true => rw [h1] at h; cases h
  | false =>
    rw [h1, cond_false] at h
    cases h2 : fewM m 10 with
    | false => rw [h2] at h; cases h
    | true =>
      rw [h2, cond_true] at h
      refine ⟨fun f hf => ?_, rfl, h⟩
      have := List.any_eq_false.1 h1 f hf
      have := of_decide_eq_false (show decide ((f.length : Int) > 40) = false by simpa using this)
      omega
theorem lw_few (m : Mo) (acts : List Act) (fs : List (List Nd)) (hl : fs.length ≤ 1000) : PureFn Tryz.prog 8 [scnPV m acts, .sl (fs.map fpv)] (.bool (fewD m acts fs)) := by
  have h1 := rm_Few m 10
  have h2 := rd_Few acts
  refine PureFn.introC [7] mixed (fn := Tryz.f8) rfl rfl rfl fun M w0 => ?_
  try conv=>whnf
  refine ⟨{ _x : Unit // longB fs = false }, fun _ => [(2, .ref 0 0)], fun _ => 1, fun _ => [(0, .var (cellsS m acts))], ?_, ?_⟩
  · try conv=>whnf
    refine ⟨{ i : Nat // i ≤ fs.length ∧ longB (fs.take i) = false }, fun i => [(2, .ref 0 0), (7, .pv (.sl (fs.map fpv))), (8, .pv (i64 (fs.map fpv).length)), (9, .pv (i64 i.1))], fun _ => 1, fun _ => [(0, .var (cellsS m acts))], fun i => fs.length - i.1, ⟨⟨0, Nat.zero_le _, rfl⟩, (by refine Wk.of ?_ ?_ rfl rfl rfl<;>repeat' (first|exact trivial|exact WkD.same _|exact WkO.same _ _ rfl|refine ⟨?_, ?_⟩|fail))⟩, ?_⟩
    rintro ⟨i, hi, hb⟩
    (try conv=>whnf);repeat' (first|(apply And.intro<;>try conv=>whnf)|(intro h;try conv=>whnf)|(apply infoT;rfl)|fail)
    · have hi' : i < fs.length := by simpa using lt_dec h
      have hn : fs[i]? = some fs[i] := List.getElem?_eq_getElem hi'
      have e4 : ((fs[i].map Nd.pv).length : Int) = (fs[i].length : Int) := by simp
      refine ⟨_, _, rfl, idx_map hn, rfl, ?_⟩
      (try conv=>whnf);repeat' (first|(apply And.intro<;>try conv=>whnf)|(intro h;try conv=>whnf)|fail)
      · have h9 : longB fs = true := any_at (p := fun f : List Nd => decide ((f.length : Int) > 40)) hi' (by rw [← e4]; exact h)
        rw [fewD, h9]; exact .refl _
      · exact ⟨⟨i + 1, hi', any_take (p := fun f : List Nd => decide ((f.length : Int) > 40)) hi' hb (by rw [← e4]; exact h)⟩, by show fs.length - (i + 1) < fs.length - i; omega, (by refine Wk.of ?_ ?_ rfl rfl rfl<;>repeat' (first|exact trivial|exact WkD.same _|exact WkO.same _ _ rfl|refine WkD.int ?_|refine ⟨?_, ?_⟩|(refine wrapA ?_ ?_ ?_;(focus simp;done);(focus (try dsimp only);omega);(focus (try dsimp only);omega))|fail))⟩
    · have hi' : i = fs.length := by have := ge_dec (m := (fs.map fpv).length) h (by simpa using hi); simpa using this
      subst hi'
      rw [List.take_length] at hb
      exact ⟨⟨(), hb⟩, (by refine Wk.of ?_ ?_ rfl rfl rfl<;>repeat' (first|exact trivial|exact WkD.same _|exact WkO.same _ _ rfl|refine ⟨?_, ?_⟩|fail))⟩
  rintro ⟨_, hb⟩
  have hd : fewD m acts fs = bif fewM m 10 then fewR acts else false := by rw [fewD, hb]; rfl
  rw [hd]
  (try conv=>whnf);repeat' (first|(apply And.intro<;>try conv=>whnf)|(intro h;try conv=>whnf)|apply True.intro|(apply WhenQ.mk;(try conv=>whnf);rotate_left;(try conv=>whnf);rotate_right)|with_reducible assumption|(refine PureFn.dcq (f := 31) rfl ?_;try conv=>whnf)|(refine PureFn.dcq (f := 32) rfl ?_;try conv=>whnf)|(refine ⟨_, _, h1, ?_, ?_⟩;(focus first|(refine ⟨?_, ?_, trivial⟩<;>first|exact PLe.refl _|exact PLe.nil)|exact trivial);try conv=>whnf)|(refine ⟨_, _, h2, ?_, ?_⟩;(focus first|(refine ⟨?_, trivial⟩<;>first|exact PLe.refl _|exact PLe.nil)|exact trivial);try conv=>whnf)|fail)
  exact .refl _
end Go.Proofs.YtlaolpkgabknfaaGreatDoor
set_option maxRecDepth 100000
set_option maxHeartbeats 4000000
namespace Go.Proofs.YtlaolpkgabknfaaGreatDoor
open Go Go.Dv

theorem u_acts : Tryz.prog.underlying 26 = some (.slice 59) := by kernel_rfl
theorem u_scn : ∃ fs : Array Field, Tryz.prog.underlying 28 = some (.struct fs) ∧ fs.toList.map (·.type) = [25, 26] := ⟨_, rfl, by kernel_rfl⟩
theorem arg_scn {n : Nat} {p : PV} (h : TyA Tryz.prog (n + 9) 28 p) : ∃ (m : Mo) (acts : List Act), PLe p (scnPV m acts) ∧ FitM m ∧ ∀ a, a ∈ acts → Fit a := by
  obtain ⟨cs, h, rfl⟩ := h
  obtain ⟨fs0, hu0, hf0⟩ := u_scn
  have hm : mkE Tryz.prog 28 cs = .agg cs := by simp only [mkE, kindT, hu0]
  obtain ⟨cm, b, r1, rfl, h1, hb, m1⟩ := fs_cons hf0 (tyS (n := n + 8) hu0 h)
  obtain ⟨ca, d, r2, rfl, h2, hd, m2⟩ := fs_cons m1 hb
  have := fs_nil m2 hd
  subst this
  obtain ⟨fs, hu, hf⟩ := u_mod
  obtain ⟨a, b, r1, rfl, g1, hb, m1⟩ := fs_cons hf (tyS (n := n + 7) hu h1)
  obtain ⟨c, d, r2, rfl, g2, hd, m2⟩ := fs_cons m1 hb
  obtain ⟨e, g, r3, rfl, g3, hg, m3⟩ := fs_cons m2 hd
  have := fs_nil m3 hg
  subst this
  obtain ⟨w, rfl, _⟩ := int_of (n := n + 6) g1
  obtain ⟨val, q2, rfl, l2, hv⟩ := slice_of (n := n + 6) (g := u64) (Q := fun s => s < 2 ^ 64) u_rowT (u64_el (n := n + 5)) g2
  obtain ⟨rel, q3, rfl, l3, hr⟩ := slice_of (n := n + 6) (g := rowPV) (Q := fun r => ∀ s, s ∈ r → s < 2 ^ 64) u_relT (fun p hp => el_of (n := n + 5) u_rowT (u64_el (n := n + 4)) p hp) g3
  obtain ⟨acts, q4, rfl, l4, ha⟩ := slice_of (n := n + 7) (g := Act.pv) (Q := Fit) u_acts (fun p hp => arg_act (n := n) hp) h2
  refine ⟨⟨w, val, rel⟩, acts, ?_, ⟨hv, hr⟩, ha⟩
  rw [hm]
  exact PLe.aggs ⟨.refl _, l2, l3, l4, trivial⟩
end Go.Proofs.YtlaolpkgabknfaaGreatDoor
set_option maxRecDepth 100000
set_option maxHeartbeats 8000000
namespace Go.Proofs.YtlaolpkgabknfaaGreatDoor
open Go Go.Dv

theorem rd_step (m : Mo) (acts : List Act) (n w : Nat) (xa xe : Int) (hD : OkD acts m n) (hwn : w < n) (hS : ∀ a, a ∈ acts → SmA a) : PureFn Tryz.prog 47 [m.pv, actsPV acts, i64 w, .agg [.int .i64 xa, .int .i64 xe]] (atPV (stepI acts m (w : Int) xa xe)) := by
  have hO := hD.okm
  have hn64 := hO.n64
  have e1 : ((acts.map Act.pv).length : Int) = (acts.length : Int) := by simp
  refine PureFn.introC [3, 4, 7] mixed (fn := Tryz.f47) rfl rfl rfl fun M w0 => ?_
  try conv=>whnf
  refine ⟨{ _x : Unit // badSt acts xa xe = false }, fun _ => [(1, .pv (actsPV acts)), (2, .pv (i64 w)), (4, .ref 0 0), (7, .ref 1 0), (8, .ref 2 0)], fun _ => 3, fun _ => [(0, .var (cellsM m)), (1, .var [.pv (.int .i64 xa), .pv (.int .i64 xe)]), (2, .var [.pv (.int .i64 0), .pv .nil, .pv .nil])], ?_, ?_⟩
  · have hno : badSt acts xa xe = true → PLe (.tup [.agg [.int .i64 0, .nil, .nil], .int .i64 0, .int .i64 6]) (atPV (stepI acts m (w : Int) xa xe)) := fun hb => by
      rw [stepI, hb]
      exact PLe.tups ⟨le_noMo, .refl _, .refl _, trivial⟩
    cases h1 : decide (xa < 0) with
    | true =>
      have hb : badSt acts xa xe = true := by rw [badSt, h1]; rfl
      have f1 : (!decide (xa < 0)) = false := by rw [h1]; rfl
      have f2 : (!(bif decide (xa < 0) then true else false)) = false := by rw [h1]; rfl
      have f3 : (!(bif (bif decide (xa < 0) then true else false) then true else false)) = false := by rw [h1]; rfl
      have f4 : (bif (bif (bif decide (xa < 0) then true else false) then true else false) then true else false) = true := by rw [h1]; rfl
      (try conv=>whnf);repeat' (first|(apply And.intro<;>try conv=>whnf)|(intro h;first|with_reducible exact tf (by assumption) h|try conv=>whnf)|(apply whenOff;(focus with_reducible assumption);try conv=>whnf)|(apply not_of;with_reducible assumption)|(refine lin_plan (by kernel_rfl) ?_;try conv=>whnf)|fail)
      exact hno hb
    | false =>
      cases h2 : decide (xa ≥ ((acts.map Act.pv).length : Int)) with
      | true =>
        have hb : badSt acts xa xe = true := by rw [badSt, h1, ← e1, h2]; rfl
        have f2 : (!(bif decide (xa < 0) then true else decide (xa ≥ ((acts.map Act.pv).length : Int)))) = false := by rw [h1, h2]; rfl
        have f3 : (!(bif (bif decide (xa < 0) then true else decide (xa ≥ ((acts.map Act.pv).length : Int))) then true else false)) = false := by rw [h1, h2]; rfl
        have f4 : (bif (bif (bif decide (xa < 0) then true else decide (xa ≥ ((acts.map Act.pv).length : Int))) then true else false) then true else false) = true := by rw [h1, h2]; rfl
        (try conv=>whnf);repeat' (first|(apply And.intro<;>try conv=>whnf)|(intro h;first|with_reducible exact tf (by assumption) h|try conv=>whnf)|apply True.intro|(apply whenOff;(focus with_reducible assumption);try conv=>whnf)|(apply WhenQ.mk;(try conv=>whnf);rotate_left;(try conv=>whnf);rotate_right)|with_reducible assumption|(apply not_of;with_reducible assumption)|(refine lin_plan (by kernel_rfl) ?_;try conv=>whnf)|fail)
        exact hno hb
      | false =>
        have g1 := of_decide_eq_false h1
        have g2 := of_decide_eq_false h2
        rw [e1] at g2
        obtain ⟨q, eq⟩ : ∃ q : Nat, xa = q := ⟨xa.toNat, by omega⟩
        subst eq
        obtain ⟨a, ha, had⟩ : ∃ a, acts[q]? = some a ∧ acts.getD q noAct = a := ⟨_, getD_mem (by omega), rfl⟩
        cases h3 : decide (xe < 0) with
        | true =>
          have hb : badSt acts (q : Int) xe = true := by rw [badSt, h1, ← e1, h2, h3]; rfl
          have f3 : (!(bif (bif decide ((q : Int) < 0) then true else decide ((q : Int) ≥ ((acts.map Act.pv).length : Int))) then true else decide (xe < 0))) = false := by rw [h1, h2, h3]; rfl
          have f4 : (bif (bif (bif decide ((q : Int) < 0) then true else decide ((q : Int) ≥ ((acts.map Act.pv).length : Int))) then true else decide (xe < 0)) then true else false) = true := by rw [h1, h2, h3]; rfl
          (try conv=>whnf);repeat' (first|(apply And.intro<;>try conv=>whnf)|(intro h;first|with_reducible exact tf (by assumption) h|try conv=>whnf)|apply True.intro|(apply whenOff;(focus with_reducible assumption);try conv=>whnf)|(apply WhenQ.mk;(try conv=>whnf);rotate_left;(try conv=>whnf);rotate_right)|with_reducible assumption|(apply not_of;with_reducible assumption)|(refine lin_plan (by kernel_rfl) ?_;try conv=>whnf)|fail)
          exact hno hb
        | false =>
          have hbe : badSt acts (q : Int) xe = decide (xe ≥ ((a.pre.map fpv).length : Int)) := by rw [badSt, h1, ← e1, h2, h3, Int.toNat_natCast, had, List.length_map]; rfl
          have hk : ∀ b, (bif (bif (bif decide ((q : Int) < 0) then true else decide ((q : Int) ≥ ((acts.map Act.pv).length : Int))) then true else decide (xe < 0)) then true else decide (xe ≥ ((a.pre.map fpv).length : Int))) = b → badSt acts (q : Int) xe = b := fun b h => by
            rw [h1, h2, h3] at h; rw [hbe]; exact h
          (try conv=>whnf);repeat' (first|(apply And.intro<;>try conv=>whnf)|(intro h;try conv=>whnf)|apply True.intro|(apply infoT;rfl)|(apply WhenQ.mk;(try conv=>whnf);rotate_left;(try conv=>whnf);rotate_right)|with_reducible assumption|(apply not_of;with_reducible assumption)|(refine lin_plan (by kernel_rfl) ?_;try conv=>whnf)|(refine ⟨_, _, rfl, idx_map (by with_reducible assumption), rfl, ?_⟩;try conv=>whnf)|fail)
          · exact hno (hk true h)
          · have hb := hk false h
            exact ⟨⟨(), hb⟩, (by refine Wk.of ?_ ?_ rfl rfl rfl<;>repeat' (first|exact trivial|exact WkD.same _|exact WkO.same _ _ rfl|refine ⟨?_, ?_⟩|fail))⟩
  rintro ⟨_, hb⟩
  have hrng : 0 ≤ xa ∧ xa < (acts.length : Int) ∧ 0 ≤ xe ∧ xe < ((acts.getD xa.toNat noAct).pre.length : Int) := by
    unfold badSt at hb
    cases h1 : decide (xa < 0) with
    | true => rw [h1] at hb; cases hb
    | false =>
      cases h2 : decide (xa ≥ (acts.length : Int)) with
      | true => rw [h1, h2] at hb; cases hb
      | false =>
        cases h3 : decide (xe < 0) with
        | true => rw [h1, h2, h3] at hb; cases hb
        | false =>
          rw [h1, h2, h3] at hb
          have g1 := of_decide_eq_false h1
          have g2 := of_decide_eq_false h2
          have g3 := of_decide_eq_false h3
          have g4 := of_decide_eq_false (show decide (xe ≥ _) = false from hb)
          exact ⟨by omega, by omega, by omega, by omega⟩
  obtain ⟨q, eq⟩ : ∃ q : Nat, xa = q := ⟨xa.toNat, by omega⟩
  obtain ⟨d, ed⟩ : ∃ d : Nat, xe = d := ⟨xe.toNat, by omega⟩
  subst eq
  subst ed
  rw [Int.toNat_natCast] at hrng
  obtain ⟨a, ha, had⟩ : ∃ a, acts[q]? = some a ∧ acts.getD q noAct = a := ⟨_, getD_mem (by omega), rfl⟩
  rw [had] at hrng
  obtain ⟨pre, hx, hpd⟩ : ∃ pre, a.pre[d]? = some pre ∧ a.pre.getD d [] = pre := ⟨_, getD_mem (by omega), rfl⟩
  have ham : a ∈ acts := List.mem_iff_getElem?.2 ⟨q, ha⟩
  have hSa := hS a ham
  have he : d < a.pre.length := by omega
  have hmo : moaI m a = 0 := by rw [moaI, ok_moI hO]; exact hD.act a ham
  obtain ⟨hh, hlt⟩ := pre_holds hmo he
  have hH := rc_Holds m (a.pre.getD d []) hO.fit
  rw [hh] at hH
  rw [hpd] at hH
  have hU := rp_Update m a hO.fit hSa.fit hSa.rel hSa.post
  have hbw : badW m (w : Int) = false := by
    unfold badW
    rw [decide_eq_false (by omega), hO.nn, decide_eq_false (by omega)]; rfl
  have hat : (atCI m (w : Int) (a.pre.getD d [])).1 = (possP m a d).testBit w := by
    rw [atCI, hh]
    show (bif badW m (w : Int) then _ else _ : Bool × Int).1 = _
    rw [hbw]; rfl
  have hst : stepI acts m (w : Int) (q : Int) (d : Int) = bif !(possP m a d).testBit w then (noMo, 0, 11) else bif (updI m a).2.2 != 0 then (noMo, 0, (updI m a).2.2) else ((updI m a).1, ixP (updI m a).2.1 (w : Int) (d : Int), 0) := by
    rw [stepI, hb, Int.toNat_natCast, Int.toNat_natCast, had, hat]; rfl
  rw [hst]
  have hix : (possP m a d).testBit w = true → (updI m a).2.2 = 0 → ∃ k : Nat, (updI m a).2.1.findIdx? (isP (w : Int) (d : Int)) = some k ∧ (updI m a).2.1.length ≤ 64 := fun hb h0 => by
    obtain ⟨_, k2, _, _, k5⟩ := updI_ok h0
    rw [k2]
    have hmem : (w, d) ∈ pairsL m a := pairsW_mem.2 ⟨by rw [hO.nn, Int.toNat_natCast]; exact hwn, he, hb⟩
    cases hfi : (pairsL m a).findIdx? (isP (w : Int) (d : Int)) with
    | none =>
      exfalso
      have := List.findIdx?_eq_none_iff.1 hfi (w, d) hmem
      simp [isP] at this
    | some k => exact ⟨k, rfl, k5⟩
  have hHs := rm_Has (possP m a d) w (by omega)
  generalize possP m a d = P at hH hlt hix hHs ⊢
  generalize updI m a = Y at hU hix ⊢
  obtain ⟨m1, ps, er⟩ := Y
  have hxi := idx_map (g := Act.pv) ha
  have hxe := idx_map (g := fpv) hx
  refine ⟨Unit, fun _ => [(1, .pv (actsPV acts)), (2, .pv (i64 w)), (4, .ref 0 0), (7, .ref 1 0), (8, .ref 2 0), (11, .pv (u64 P))], fun _ => 3, fun _ => [(0, .var (cellsM m)), (1, .var [.pv (.int .i64 (q : Int)), .pv (.int .i64 (d : Int))]), (2, .var [.pv (.int .i64 0), .pv .nil, .pv .nil])], ?_, ?_⟩
  · (try conv=>whnf);repeat' (first|(apply And.intro<;>try conv=>whnf)|(apply infoT;rfl)|(refine lin_plan (by kernel_rfl) ?_;try conv=>whnf)|(refine ⟨_, _, rfl, idx_map (by with_reducible assumption), rfl, ?_⟩;try conv=>whnf)|(refine ⟨_, (by (conv=>whnf);exact hH), rfl, ?_⟩;try conv=>whnf)|fail)
    exact ⟨(), (by refine Wk.of ?_ ?_ rfl rfl rfl<;>repeat' (first|exact trivial|exact WkD.same _|exact WkO.same _ _ rfl|refine ⟨?_, ?_⟩|fail))⟩
  rintro ⟨⟩
  (try conv=>whnf);repeat' (first|(apply And.intro<;>try conv=>whnf)|(intro h;try conv=>whnf)|(refine PureFn.dcq (f := 85) rfl ?_;try conv=>whnf)|(refine ⟨_, _, hHs, ?_, ?_⟩;(focus first|(refine ⟨?_, ?_, trivial⟩<;>first|exact PLe.refl _|exact PLe.nil)|exact trivial);try conv=>whnf)|fail)
  · rw [show (!P.testBit w) = true from h]
    exact PLe.tups ⟨le_noMo, .refl _, .refl _, trivial⟩
  have hb1 : (!P.testBit w) = false := h
  have hP : P.testBit w = true := by simpa using hb1
  rw [hb1, cond_false]
  refine ⟨Unit, fun _ => [(2, .pv (i64 w)), (7, .ref 1 0), (8, .ref 2 0), (13, .ref 3 0), (14, .pv (.sl (ps.map pairPV))), (15, .pv (.int .i64 er))], fun _ => 4, fun _ => [(1, .var [.pv (.int .i64 (q : Int)), .pv (.int .i64 (d : Int))]), (2, .var [.pv (.int .i64 0), .pv .nil, .pv .nil]), (3, .var (cellsM m1))], ?_, ?_⟩
  · (try conv=>whnf);repeat' (first|(apply And.intro<;>try conv=>whnf)|(apply infoT;rfl)|(refine lin_plan (by kernel_rfl) ?_;try conv=>whnf)|(refine ⟨_, _, rfl, idx_map (by with_reducible assumption), rfl, ?_⟩;try conv=>whnf)|(refine ⟨_, (by (conv=>whnf);exact hU), rfl, ?_⟩;try conv=>whnf)|fail)
    exact ⟨(), (by refine Wk.of ?_ ?_ rfl rfl rfl<;>repeat' (first|exact trivial|exact WkD.same _|exact WkO.same _ _ rfl|refine ⟨?_, ?_⟩|fail))⟩
  rintro ⟨⟩
  (try conv=>whnf);repeat' (first|(apply And.intro<;>try conv=>whnf)|(intro h;try conv=>whnf)|fail)
  · rw [show (((m1, ps, er) : Mo × List (Nat × Nat) × Int).2.2 != 0) = true from h]
    exact PLe.tups ⟨le_noMo, .refl _, .refl _, trivial⟩
  have hb2 : (er != 0) = false := h
  rw [show (((m1, ps, er) : Mo × List (Nat × Nat) × Int).2.2 != 0) = false from hb2, cond_false]
  obtain ⟨k, hfi, hps⟩ := hix hP (show er = 0 by simpa using hb2)
  simp only at hfi hps
  have hixk : ixP ps (w : Int) (d : Int) = (k : Int) := by rw [ixP, hfi]
  simp only [hixk]
  obtain ⟨hkl, hpk, hnk⟩ := List.findIdx?_eq_some_iff_getElem.1 hfi
  refine ⟨{ i : Nat // i ≤ k }, fun i => [(2, .pv (i64 w)), (7, .ref 1 0), (8, .ref 2 0), (13, .ref 3 0), (14, .pv (.sl (ps.map pairPV))), (16, .pv (i64 i.1))], fun _ => 4, fun _ => [(1, .var [.pv (.int .i64 (q : Int)), .pv (.int .i64 (d : Int))]), (2, .var [.pv (.int .i64 0), .pv .nil, .pv .nil]), (3, .var (cellsM m1))], fun i => k - i.1, ⟨⟨0, Nat.zero_le _⟩, (by refine Wk.of ?_ ?_ rfl rfl rfl<;>repeat' (first|exact trivial|exact WkD.same _|exact WkO.same _ _ rfl|refine ⟨?_, ?_⟩|fail))⟩, ?_⟩
  rintro ⟨i, hi⟩
  clear h
  (try conv=>whnf);repeat' (first|(apply And.intro<;>try conv=>whnf)|(intro h;try conv=>whnf)|(apply infoT;rfl)|(refine lin_plan (by kernel_rfl) ?_;try conv=>whnf)|fail)
  · have hi' : i < ps.length := by omega
    obtain ⟨⟨v, f⟩, hxp⟩ : ∃ y, ps[i]? = some y := ⟨_, List.getElem?_eq_getElem hi'⟩
    have hpi := idx_map (g := pairPV) hxp
    have hgi : ps[i] = (v, f) := Option.some.inj ((List.getElem?_eq_getElem hi').symm.trans hxp)
    clear h
    cases hvw : ((v : Int) == (w : Int)) with
    | false =>
      have g1 : (bif ((v : Int) == (w : Int)) then false else false) = false := by rw [hvw]; rfl
      have hne : i ≠ k := fun he => by
        subst he
        rw [hgi] at hpk
        have hpk : (bif ((v : Int) == (w : Int)) then ((f : Int) == (d : Int)) else false) = true := hpk
        rw [hvw] at hpk; cases hpk
      (try conv=>whnf);repeat' (first|(apply And.intro<;>try conv=>whnf)|(intro h;first|with_reducible exact tf h (by assumption)|try conv=>whnf)|(apply whenOff;(focus with_reducible assumption);try conv=>whnf)|(refine ⟨_, _, rfl, idx_map (by with_reducible assumption), rfl, ?_⟩;try conv=>whnf)|fail)
      exact ⟨⟨i + 1, by omega⟩, by show k - (i + 1) < k - i; omega, (by refine Wk.of ?_ ?_ rfl rfl rfl<;>repeat' (first|exact trivial|exact WkD.same _|exact WkO.same _ _ rfl|refine WkD.int ?_|refine ⟨?_, ?_⟩|(refine wrapA ?_ ?_ ?_;(focus simp;done);(focus (try dsimp only);omega);(focus (try dsimp only);omega))|fail))⟩
    | true =>
      (try conv=>whnf);repeat' (first|(apply And.intro<;>try conv=>whnf)|(intro h;try conv=>whnf)|apply True.intro|(apply infoT;rfl)|(apply WhenQ.mk;(try conv=>whnf);rotate_left;(try conv=>whnf);rotate_right)|with_reducible assumption|(refine ⟨_, _, rfl, idx_map (by with_reducible assumption), rfl, ?_⟩;try conv=>whnf)|fail)
      · have h9 : isP (w : Int) (d : Int) (v, f) = true := h
        have hik : i = k := by
          by_cases he : i = k
          · exact he
          · have h8 := hnk i (by omega)
            rw [hgi] at h8
            exact absurd h9 h8
        subst hik
        exact PLe.tups ⟨.refl _, .refl _, .refl _, trivial⟩
      · have h9 : isP (w : Int) (d : Int) (v, f) = false := h
        have hne : i ≠ k := fun he => by
          subst he
          rw [hgi, h9] at hpk
          cases hpk
        exact ⟨⟨i + 1, by omega⟩, by show k - (i + 1) < k - i; omega, (by refine Wk.of ?_ ?_ rfl rfl rfl<;>repeat' (first|exact trivial|exact WkD.same _|exact WkO.same _ _ rfl|refine WkD.int ?_|refine ⟨?_, ?_⟩|(refine wrapA ?_ ?_ ?_;(focus simp;done);(focus (try dsimp only);omega);(focus (try dsimp only);omega))|fail))⟩
  · exfalso
    have := ge_dec (m := (ps.map pairPV).length) h (by simp; omega)
    simp at this; omega
end Go.Proofs.YtlaolpkgabknfaaGreatDoor
set_option maxRecDepth 100000
set_option maxHeartbeats 8000000
namespace Go.Proofs.YtlaolpkgabknfaaGreatDoor
open Go Go.Dv

theorem rm_Copy (m : Mo) (n : Nat) (hM : OkM m n) : PureFn Tryz.prog 46 [m.pv] m.pv := by
  refine PureFn.introC [6, 14, 15] mixed (fn := Tryz.f46) rfl rfl rfl fun M w0 => ?_
  have hn64 := hM.n64
  have hag := hM.ag
  have hfa := hM.fa
  have eu : ∀ r : List Nat, (r.map u64).length = r.length := fun r => List.length_map _
  have hmp : m.pv = .agg [.int .i64 m.n, rowPV (m.val.take m.val.length), .sl ((m.rel.take m.rel.length).map rowPV)] := by rw [List.take_length, List.take_length]; rfl
  try conv=>whnf
  refine ⟨Unit, fun _ => [(1, .ref 0 0), (2, .ref 1 0), (3, .ref 2 0)], fun _ => 3, fun _ => [(0, .var (cellsM m)), (1, .var cells0), (2, .var [.pv (.int .i64 m.n), .pv (rowPV (m.val.take m.val.length)), .pv .nil])], ?_, ?_⟩
  · try conv=>whnf
    refine ⟨{ i : Nat // i ≤ m.val.length }, fun i => [(1, .ref 0 0), (2, .ref 1 0), (3, .ref 2 0), (4, .pv (i64 i.1))], fun _ => 4, fun i => [(0, .var (cellsM m)), (1, .var cells0), (2, .var [.pv (.int .i64 m.n), .buf 3 ((m.val.take i.1).map u64).length, .pv .nil]), (3, .arr 1 ((m.val.take i.1).map u64))], fun i => m.val.length - i.1, ⟨⟨0, Nat.zero_le _⟩, (by refine Wk.of ?_ ?_ rfl rfl rfl<;>repeat' (first|exact trivial|exact WkD.same _|exact WkO.same _ _ rfl|exact WkD.new' rfl rfl rfl|exact WkO.new _ _ rfl|refine WkO.vars rfl ?_|exact rfl|refine ⟨?_, ?_⟩|fail))⟩, ?_⟩
    rintro ⟨i, hi⟩
    (try conv=>whnf);repeat' (first|(apply And.intro<;>try conv=>whnf)|(intro h;try conv=>whnf)|(apply infoT;rfl)|(refine lin_plan (by kernel_rfl) ?_;try conv=>whnf)|fail)
    · have hi' : i < m.val.length := by simpa using lt_dec h
      obtain ⟨s, hx⟩ : ∃ y, m.val[i]? = some y := ⟨_, List.getElem?_eq_getElem hi'⟩
      have hvsl : ((m.val.take i).map u64).length ≤ 1000 := by simp; omega
      have er : (m.val.take i).map u64 ++ [PV.int .u64 ((s : Nat) : Int)] = (m.val.take (i + 1)).map u64 := (take_map (f := u64) hx).symm
      have hix := idx_map (g := u64) hx
      (try conv=>whnf);repeat' (first|(apply And.intro<;>try conv=>whnf)|(apply cellsI;rfl)|(apply szI;rfl)|(refine ⟨_, _, rfl, idx_map (by with_reducible assumption), rfl, ?_⟩;try conv=>whnf)|fail)
      · exact app_big (n := 1000) hvsl (by decide)
      · refine ⟨⟨i + 1, hi'⟩, by show m.val.length - (i + 1) < m.val.length - i; omega, ?_⟩
        (refine Wk.of ?_ ?_ rfl rfl rfl<;>repeat' (first|exact trivial|exact WkD.same _|exact WkO.same _ _ rfl|exact WkD.eq (congrArg (fun z : List PV => DV.buf _ z.length) er)|exact WkO.same _ _ (congrArg (fun z => some (DObj.arr _ z)) er)|refine WkD.int ?_|refine WkO.vars rfl ?_|refine ⟨?_, ?_⟩|(refine wrapA ?_ ?_ ?_;(focus simp;done);(focus (try dsimp only);omega);(focus (try dsimp only);omega))|fail))
    · have hi' : i = m.val.length := by have := ge_dec (m := (m.val.map u64).length) h (by simpa using hi); simpa using this
      subst hi'
      exact ⟨(), (by refine Wk.of ?_ ?_ rfl rfl rfl<;>repeat' (first|exact trivial|exact WkD.same _|exact WkO.same _ _ rfl|exact WkD.fz _ _ _ rfl (Or.inl ⟨_, rfl⟩) rfl|refine WkO.vars rfl ?_|refine ⟨?_, ?_⟩|fail))⟩
  rintro ⟨⟩
  have hV : m.val.take m.val.length = m.val := List.take_length
  generalize m.val.take m.val.length = V at hV hmp
  refine ⟨Unit, fun _ => [(2, .ref 1 0), (3, .ref 2 0)], fun _ => 3, fun _ => [(1, .var cells0), (2, .var [.pv (.int .i64 m.n), .pv (rowPV V), .pv (.sl ((m.rel.take m.rel.length).map rowPV))])], ?_, ?_⟩
  · try conv=>whnf
    refine ⟨{ i : Nat // i ≤ m.rel.length }, fun i => [(1, .ref 0 0), (2, .ref 1 0), (3, .ref 2 0), (5, .pv (i64 i.1))], fun _ => 4, fun i => [(0, .var (cellsM m)), (1, .var cells0), (2, .var [.pv (.int .i64 m.n), .pv (rowPV V), .buf 3 ((m.rel.take i.1).map rowPV).length]), (3, .arr 1 ((m.rel.take i.1).map rowPV))], fun i => m.rel.length - i.1, ⟨⟨0, Nat.zero_le _⟩, (by refine Wk.of ?_ ?_ rfl rfl rfl<;>repeat' (first|exact trivial|exact WkD.same _|exact WkO.same _ _ rfl|exact WkD.new' rfl rfl rfl|exact WkO.new _ _ rfl|refine WkO.vars rfl ?_|exact rfl|refine ⟨?_, ?_⟩|fail))⟩, ?_⟩
    rintro ⟨i, hi⟩
    (try conv=>whnf);repeat' (first|(apply And.intro<;>try conv=>whnf)|(intro h;try conv=>whnf)|fail)
    · have hi' : i < m.rel.length := by simpa using lt_dec h
      obtain ⟨r, hx⟩ : ∃ y, m.rel[i]? = some y := ⟨_, List.getElem?_eq_getElem hi'⟩
      have hrl := hM.rows r (List.mem_iff_getElem?.2 ⟨_, hx⟩)
      have hvsl : ((m.rel.take i).map rowPV).length ≤ 1000 := by simp; omega
      have er : (m.rel.take i).map rowPV ++ [rowPV r] = (m.rel.take (i + 1)).map rowPV := (take_map (f := rowPV) hx).symm
      have hixr := idx_map (g := rowPV) hx
      refine ⟨Unit, fun _ => [(1, .ref 0 0), (2, .ref 1 0), (3, .ref 2 0), (5, .pv (i64 i)), (6, .pv (rowPV (r.take r.length)))], fun _ => 4, fun _ => [(0, .var (cellsM m)), (1, .var cells0), (2, .var [.pv (.int .i64 m.n), .pv (rowPV V), .buf 3 ((m.rel.take i).map rowPV).length]), (3, .arr 1 ((m.rel.take i).map rowPV))], ?_, ?_⟩
      · try conv=>whnf
        refine ⟨{ j : Nat // j ≤ r.length }, fun j => [(1, .ref 0 0), (2, .ref 1 0), (3, .ref 2 0), (5, .pv (i64 i)), (6, .buf 4 ((r.take j.1).map u64).length), (7, .pv (i64 j.1))], fun _ => 5, fun j => [(0, .var (cellsM m)), (1, .var cells0), (2, .var [.pv (.int .i64 m.n), .pv (rowPV V), .buf 3 ((m.rel.take i).map rowPV).length]), (3, .arr 1 ((m.rel.take i).map rowPV)), (4, .arr 1 ((r.take j.1).map u64))], fun j => r.length - j.1, ⟨⟨0, Nat.zero_le _⟩, (by refine Wk.of ?_ ?_ rfl rfl rfl<;>repeat' (first|exact trivial|exact WkD.same _|exact WkO.same _ _ rfl|exact WkD.new' rfl rfl rfl|exact WkO.new _ _ rfl|exact rfl|refine ⟨?_, ?_⟩|fail))⟩, ?_⟩
        rintro ⟨j, hj⟩
        (try conv=>whnf);repeat' (first|(apply And.intro<;>try conv=>whnf)|(intro h;try conv=>whnf)|(apply infoT;rfl)|(refine ⟨_, _, rfl, idx_map (by with_reducible assumption), rfl, ?_⟩;try conv=>whnf)|fail)
        · have hj' : j < r.length := by simpa using lt_dec h
          obtain ⟨s, hx2⟩ : ∃ y, r[j]? = some y := ⟨_, List.getElem?_eq_getElem hj'⟩
          have hvsl2 : ((r.take j).map u64).length ≤ 1000 := by simp; omega
          have er2 : (r.take j).map u64 ++ [PV.int .u64 ((s : Nat) : Int)] = (r.take (j + 1)).map u64 := (take_map (f := u64) hx2).symm
          refine ⟨_, _, rfl, idx_map hx2, rfl, ?_⟩
          (try conv=>whnf);repeat' (first|(apply And.intro<;>try conv=>whnf)|(apply cellsI;rfl)|(apply szI;rfl)|fail)
          · exact app_big (n := 1000) hvsl2 (by decide)
          · refine ⟨⟨j + 1, hj'⟩, by show r.length - (j + 1) < r.length - j; omega, ?_⟩
            (refine Wk.of ?_ ?_ rfl rfl rfl<;>repeat' (first|exact trivial|exact WkD.same _|exact WkO.same _ _ rfl|exact WkD.eq (congrArg (fun z : List PV => DV.buf _ z.length) er2)|exact WkO.same _ _ (congrArg (fun z => some (DObj.arr _ z)) er2)|refine WkD.int ?_|refine ⟨?_, ?_⟩|(refine wrapA ?_ ?_ ?_;(focus simp;done);(focus (try dsimp only);omega);(focus (try dsimp only);omega))|fail))
        · have hj' : j = r.length := by have := ge_dec (m := (r.map u64).length) h (by simpa using hj); simpa using this
          subst hj'
          exact ⟨(), (by refine Wk.of ?_ ?_ rfl rfl rfl<;>repeat' (first|exact trivial|exact WkD.same _|exact WkO.same _ _ rfl|exact WkD.fz _ _ _ rfl (Or.inl ⟨_, rfl⟩) rfl|refine ⟨?_, ?_⟩|fail))⟩
      rintro ⟨⟩
      have hR : r.take r.length = r := List.take_length
      rw [hR]
      (try conv=>whnf);repeat' (first|(apply And.intro<;>try conv=>whnf)|(apply cellsI;rfl)|(apply szI;rfl)|fail)
      · exact app_big (n := 1000) hvsl (by decide)
      · refine ⟨⟨i + 1, hi'⟩, by show m.rel.length - (i + 1) < m.rel.length - i; omega, ?_⟩
        (refine Wk.of ?_ ?_ rfl rfl rfl<;>repeat' (first|exact trivial|exact WkD.same _|exact WkO.same _ _ rfl|exact WkD.eq (congrArg (fun z : List PV => DV.buf _ z.length) er)|exact WkO.same _ _ (congrArg (fun z => some (DObj.arr _ z)) er)|refine WkD.int ?_|refine WkO.vars rfl ?_|refine ⟨?_, ?_⟩|(refine wrapA ?_ ?_ ?_;(focus simp;done);(focus (try dsimp only);omega);(focus (try dsimp only);omega))|fail))
    · have hi' : i = m.rel.length := by have := ge_dec (m := (m.rel.map rowPV).length) h (by simpa using hi); simpa using this
      subst hi'
      exact ⟨(), (by refine Wk.of ?_ ?_ rfl rfl rfl<;>repeat' (first|exact trivial|exact WkD.same _|exact WkO.same _ _ rfl|exact WkD.fz _ _ _ rfl (Or.inl ⟨_, rfl⟩) rfl|refine WkO.vars rfl ?_|refine ⟨?_, ?_⟩|fail))⟩
  rintro ⟨⟩
  try conv=>whnf
  rw [hmp]
  exact .refl _
end Go.Proofs.YtlaolpkgabknfaaGreatDoor
set_option maxRecDepth 100000
set_option maxHeartbeats 8000000
namespace Go.Proofs.YtlaolpkgabknfaaGreatDoor
open Go Go.Dv

theorem step_in {acts : List Act} {m : Mo} {n w : Nat} {xa xe : Int} (hD : OkD acts m n) (hwn : w < n) (h : (stepI acts m (w : Int) xa xe).2.2 = 0) : ∃ k w' : Nat, OkD acts (stepI acts m (w : Int) xa xe).1 k ∧ (stepI acts m (w : Int) xa xe).2.1 = (w' : Int) ∧ w' < k := by
  obtain ⟨hb, hu, hs, _⟩ := step_ok h
  have hs2 := h
  rw [hs]
  have hO := hD.okm
  have hrng : 0 ≤ xa ∧ xa < (acts.length : Int) ∧ 0 ≤ xe ∧ xe < ((acts.getD xa.toNat noAct).pre.length : Int) := by
    unfold badSt at hb
    cases h1 : decide (xa < 0) with
    | true => rw [h1] at hb; cases hb
    | false =>
      cases h2 : decide (xa ≥ (acts.length : Int)) with
      | true => rw [h1, h2] at hb; cases hb
      | false =>
        cases h3 : decide (xe < 0) with
        | true => rw [h1, h2, h3] at hb; cases hb
        | false =>
          rw [h1, h2, h3] at hb
          have g1 := of_decide_eq_false h1
          have g2 := of_decide_eq_false h2
          have g3 := of_decide_eq_false h3
          have g4 := of_decide_eq_false (show decide (xe ≥ _) = false from hb)
          exact ⟨by omega, by omega, by omega, by omega⟩
  obtain ⟨q, rfl⟩ : ∃ q : Nat, xa = q := ⟨xa.toNat, by omega⟩
  obtain ⟨d, rfl⟩ : ∃ d : Nat, xe = d := ⟨xe.toNat, by omega⟩
  rw [Int.toNat_natCast] at hrng hu ⊢
  obtain ⟨a, ha, had⟩ : ∃ a, acts[q]? = some a ∧ acts.getD q noAct = a := ⟨_, getD_mem (by omega), rfl⟩
  rw [had] at hrng hu ⊢
  have he : d < a.pre.length := by omega
  have hmo : moaI m a = 0 := by rw [moaI, ok_moI hO]; exact hD.act a (List.mem_iff_getElem?.2 ⟨q, ha⟩)
  obtain ⟨hh, hlt⟩ := pre_holds hmo he
  have hbw : badW m (w : Int) = false := by
    unfold badW
    rw [decide_eq_false (by omega), hO.nn, decide_eq_false (by omega)]; rfl
  have hat : (atCI m (w : Int) (a.pre.getD d [])).1 = (possP m a d).testBit w := by
    rw [atCI, hh]
    show (bif badW m (w : Int) then _ else _ : Bool × Int).1 = _
    rw [hbw]; rfl
  have hP : (possP m a d).testBit w = true := by
    cases hc : (possP m a d).testBit w with
    | true => rfl
    | false =>
      rw [stepI, hb, Int.toNat_natCast, Int.toNat_natCast, had, hat, hc] at hs2
      cases hs2
  obtain ⟨_, k2, _⟩ := updI_ok hu
  have hmem : (w, d) ∈ (updI m a).2.1 := by
    rw [k2]; exact pairsW_mem.2 ⟨by rw [hO.nn, Int.toNat_natCast]; exact hwn, he, hP⟩
  cases hfi : (updI m a).2.1.findIdx? (isP (w : Int) (d : Int)) with
  | none =>
    exfalso
    have := List.findIdx?_eq_none_iff.1 hfi (w, d) hmem
    simp [isP] at this
  | some k =>
    refine ⟨_, k, (hD.upd hu).1, by show ixP _ _ _ = _; rw [ixP, hfi], ?_⟩
    obtain ⟨hk, _⟩ := List.findIdx?_eq_some_iff_getElem.1 hfi
    exact hk
theorem rd_Run (m : Mo) (acts : List Act) (w : Int) (steps : List (Int × Int)) (hf : FitM m) (hS : ∀ a, a ∈ acts → SmA a) (hl : steps.length ≤ 1000) : PureFn Tryz.prog 15 [m.pv, actsPV acts, .int .i64 w, .sl (steps.map stepPV)] (runPV (runI m acts w steps)) := by
  have hQ := rd_Check m acts hf hS
  refine PureFn.introC [4, 6, 7] mixed (fn := Tryz.f15) rfl rfl rfl fun M w0 => ?_
  (try conv=>whnf);repeat' (first|(refine PureFn.dcq (f := 13) rfl ?_;try conv=>whnf)|(refine ⟨_, _, hQ, ?_, ?_⟩;(focus first|(refine ⟨?_, ?_, trivial⟩<;>first|exact PLe.refl _|exact PLe.nil)|exact trivial);try conv=>whnf)|fail)
  refine ⟨{ _x : Unit // chkD m acts = 0 }, fun _ => [(1, .pv (actsPV acts)), (2, .pv (.int .i64 w)), (3, .pv (.sl (steps.map stepPV))), (4, .ref 0 0), (8, .ref 1 0)], fun _ => 2, fun _ => [(0, .var (cellsM m)), (1, .var [.pv (.int .i64 0), .pv .nil, .pv .nil])], ?_, ?_⟩
  · (try conv=>whnf);repeat' (first|(apply And.intro<;>try conv=>whnf)|(intro h;try conv=>whnf)|fail)
    · rw [runI, show (chkD m acts != 0) = true from h]; exact le_run _ _ _
    · exact ⟨⟨(), by simpa using h⟩, (by refine Wk.of ?_ ?_ rfl rfl rfl<;>repeat' (first|exact trivial|exact WkD.same _|exact WkO.same _ _ rfl|refine ⟨?_, ?_⟩|fail))⟩
  rintro ⟨_, h0⟩
  obtain ⟨n, hD, _⟩ := chkD_ok h0
  have hCo := rm_Copy m n hD.okm
  try conv=>whnf
  refine ⟨{ _x : Unit // badW m w = false }, fun _ => [(1, .pv (actsPV acts)), (2, .pv (.int .i64 w)), (3, .pv (.sl (steps.map stepPV))), (4, .ref 0 0), (8, .ref 1 0)], fun _ => 2, fun _ => [(0, .var (cellsM m)), (1, .var [.pv (.int .i64 0), .pv .nil, .pv .nil])], ?_, ?_⟩
  · (try conv=>whnf);repeat' (first|(apply And.intro<;>try conv=>whnf)|(intro h;try conv=>whnf)|apply True.intro|(apply WhenQ.mk;(try conv=>whnf);rotate_left;(try conv=>whnf);rotate_right)|with_reducible assumption|(apply not_of;with_reducible assumption)|fail)
    · rw [runI, h0, show badW m w = true from h]; exact le_run _ _ _
    · exact ⟨⟨(), h⟩, (by refine Wk.of ?_ ?_ rfl rfl rfl<;>repeat' (first|exact trivial|exact WkD.same _|exact WkO.same _ _ rfl|refine ⟨?_, ?_⟩|fail))⟩
  rintro ⟨_, h1⟩
  have hrun : runI m acts w steps = runL acts m w steps 0 := by rw [runI, h0, h1]; rfl
  rw [hrun]
  obtain ⟨w', hw'⟩ : ∃ w' : Nat, w = w' ∧ w' < n := by
    unfold badW at h1
    cases g1 : decide (w < 0) with
    | true => rw [g1] at h1; cases h1
    | false =>
      rw [g1, cond_false] at h1
      have g2 := of_decide_eq_false h1
      have g1 := of_decide_eq_false g1
      rw [hD.okm.nn] at g2
      exact ⟨w.toNat, by omega, by omega⟩
  obtain ⟨rfl, hwn⟩ := hw'
  refine ⟨Unit, fun _ => [(1, .pv (actsPV acts)), (3, .pv (.sl (steps.map stepPV))), (8, .ref 1 0), (13, .ref 2 0), (14, .pv (i64 w'))], fun _ => 3, fun _ => [(1, .var [.pv (.int .i64 0), .pv .nil, .pv .nil]), (2, .var (cellsM m))], ?_, ?_⟩
  · (try conv=>whnf);repeat' (first|(refine PureFn.dcq (f := 46) rfl ?_;try conv=>whnf)|(refine ⟨_, _, hCo, ?_, ?_⟩;(focus first|(refine ⟨?_, trivial⟩<;>first|exact PLe.refl _|exact PLe.nil)|exact trivial);try conv=>whnf)|fail)
    exact ⟨(), (by refine Wk.of ?_ ?_ rfl rfl rfl<;>repeat' (first|exact trivial|exact WkD.same _|exact WkO.same _ _ rfl|refine ⟨?_, ?_⟩|fail))⟩
  rintro ⟨⟩
  try conv=>whnf
  refine ⟨{ q : Nat × Mo × Nat // q.1 ≤ steps.length ∧ (∃ k, OkD acts q.2.1 k ∧ q.2.2 < k) ∧ runL acts q.2.1 (q.2.2 : Int) (steps.drop q.1) q.1 = runL acts m (w' : Int) steps 0 }, fun q => [(1, .pv (actsPV acts)), (3, .pv (.sl (steps.map stepPV))), (8, .ref 1 0), (13, .ref 2 0), (14, .pv (i64 q.1.2.2)), (15, .pv (i64 q.1.1))], fun _ => 3, fun q => [(1, .var [.pv (.int .i64 0), .pv .nil, .pv .nil]), (2, .var (cellsM q.1.2.1))], fun q => steps.length - q.1.1, ⟨⟨(0, m, w'), Nat.zero_le _, ⟨n, hD, hwn⟩, rfl⟩, (by refine Wk.of ?_ ?_ rfl rfl rfl<;>repeat' (first|exact trivial|exact WkD.same _|exact WkO.same _ _ rfl|refine ⟨?_, ?_⟩|fail))⟩, ?_⟩
  rintro ⟨⟨i, m1, w1⟩, hi, ⟨k, hk, hwk⟩, hd⟩
  simp only at hi hk hwk hd
  (try conv=>whnf);repeat' (first|(apply And.intro<;>try conv=>whnf)|(intro h;try conv=>whnf)|(apply infoT;rfl)|(refine lin_plan (by kernel_rfl) ?_;try conv=>whnf)|fail)
  · have hi' : i < steps.length := by simpa using lt_dec h
    obtain ⟨⟨xa, xe⟩, hx, hxd⟩ : ∃ x, steps[i]? = some x ∧ steps.drop i = x :: steps.drop (i + 1) := ⟨_, List.getElem?_eq_getElem hi', List.drop_eq_getElem_cons hi'⟩
    have hst := rd_step m1 acts k w1 xa xe hk hwk hS
    rw [hxd, runL] at hd
    simp only at hd
    have hso := step_in (xa := xa) (xe := xe) hk hwk
    generalize stepI acts m1 (w1 : Int) xa xe = S at hst hd hso
    obtain ⟨m2, w2, er⟩ := S
    refine ⟨_, _, rfl, idx_map hx, rfl, ?_⟩
    (try conv=>whnf);repeat' (first|(apply And.intro<;>try conv=>whnf)|(intro h;try conv=>whnf)|(refine ⟨_, (by (conv=>whnf);exact hst), rfl, ?_⟩;try conv=>whnf)|fail)
    · have h : (er != 0) = true := h
      simp only [h, cond_true] at hd
      have g := le_run 0 (i : Int) er
      rw [hd] at g
      exact g
    · have h : (er != 0) = false := h
      simp only [h, cond_false] at hd
      obtain ⟨k2, w3, hk2, hw2, hlt⟩ := hso (by simpa using h)
      simp only at hk2 hw2
      subst hw2
      exact ⟨⟨(i + 1, m2, w3), hi', ⟨k2, hk2, hlt⟩, by rw [← hd]; rfl⟩, by show steps.length - (i + 1) < steps.length - i; omega, (by refine Wk.of ?_ ?_ rfl rfl rfl<;>repeat' (first|exact trivial|exact WkD.same _|exact WkO.same _ _ rfl|refine WkD.int ?_|refine ⟨?_, ?_⟩|(refine wrapA ?_ ?_ ?_;(focus simp;done);(focus (try dsimp only);omega);(focus (try dsimp only);omega))|fail))⟩
  · have hi' : i = steps.length := by have := ge_dec (m := (steps.map stepPV).length) h (by simpa using hi); simpa using this
    rw [hi', List.drop_length, runL] at hd
    have g : PLe (.tup [m1.pv, i64 w1, .int .i64 ((steps.map stepPV).length : Int), .int .i64 0]) (runPV (m1, (w1 : Int), ((steps.map stepPV).length : Int), 0)) := .refl _
    rw [show ((m1, (w1 : Int), ((steps.map stepPV).length : Int), (0 : Int)) : Mo × Int × Int × Int) = runL acts m (w' : Int) steps 0 by rw [List.length_map]; exact hd] at g
    exact g
end Go.Proofs.YtlaolpkgabknfaaGreatDoor
set_option maxRecDepth 100000
set_option maxHeartbeats 8000000
namespace Go.Proofs.YtlaolpkgabknfaaGreatDoor
open Go Go.Dv

def SmM (m : Mo) : Prop := m.val.length ≤ 1000 ∧ m.rel.length ≤ 1000 ∧ ∀ r, r ∈ m.rel → r.length ≤ 1000
theorem noMo_sm : SmM noMo := ⟨by decide, by decide, fun r hr => by cases hr⟩
theorem runL_sm {acts : List Act} : ∀ (steps : List (Int × Int)) (m : Mo) (w i : Int), (∃ n, OkD acts m n) → SmM (runL acts m w steps i).1
  | [], m, w, i, ⟨n, hD⟩ => by
    have hM := hD.okm
    exact ⟨by have := hM.fa; show m.val.length ≤ 1000; omega, by have := hM.ag; show m.rel.length ≤ 1000; omega, fun r hr => by have := hM.rows r hr; have := hM.n64; omega⟩
  | x :: r, m, w, i, ⟨n, hD⟩ => by
    rw [runL]
    cases h : ((stepI acts m w x.1 x.2).2.2 != 0) with
    | true => exact noMo_sm
    | false => exact runL_sm r _ _ _ (step_okD hD (by simpa using h))
theorem runI_sm {acts : List Act} {m : Mo} {w : Int} {steps : List (Int × Int)} : SmM (runI m acts w steps).1 := by
  unfold runI
  cases h : (chkD m acts != 0) with
  | true => exact noMo_sm
  | false =>
    cases badW m w with
    | true => exact noMo_sm
    | false =>
      obtain ⟨n, hD, _⟩ := chkD_ok (show chkD m acts = 0 by simpa using h)
      exact runL_sm steps m w 0 ⟨n, hD⟩
theorem druns_pure (m : Mo) (acts : List Act) (w : Int) (steps : List (Int × Int)) (hf : FitM m) (hA : ∀ a, a ∈ acts → Fit a) : PureFn Tryz.prog 4 [scnPV m acts, .agg [.int .i64 w, .sl (steps.map stepPV)]] (.bool true) := by
  have hW : PureFn Tryz.prog 8 [scnPV m acts, .nil] (.bool (fewD m acts [])) := (lw_few m acts [] (by simp)).le ⟨.refl _, .nil, trivial⟩
  have hAw := lw_awake28
  have e3 : ((steps.map stepPV).length : Int) = (steps.length : Int) := by simp
  cases hfw : fewD m acts [] with
  | false =>
    rw [hfw] at hW
    refine PureFn.introC [3] mixed (fn := Tryz.f4) rfl rfl rfl fun M w0 => ?_
    try conv=>whnf
    refine ⟨{ _x : Unit // False }, fun _ => [], fun _ => 0, fun _ => [], ?_, fun ⟨_, h⟩ => h.elim⟩
    have f1 : (!(bif !true then true else !false)) = false := rfl
    have f2 : (bif (bif !true then true else !false) then true else false) = true := rfl
    (try conv=>whnf);repeat' (first|(apply And.intro<;>try conv=>whnf)|(intro h;first|with_reducible exact tf (by assumption) h|try conv=>whnf)|apply True.intro|(apply whenOff;(focus with_reducible assumption);try conv=>whnf)|(apply WhenQ.mk;(try conv=>whnf);rotate_left;(try conv=>whnf);rotate_right)|with_reducible assumption|(apply not_of;with_reducible assumption)|(refine PureFn.dcq (f := 8) rfl ?_;try conv=>whnf)|(refine PureFn.dcq (f := 7) rfl ?_;try conv=>whnf)|(refine ⟨_, _, hW, ?_, ?_⟩;(focus first|(refine ⟨?_, ?_, trivial⟩<;>first|exact PLe.refl _|exact PLe.nil)|exact trivial);try conv=>whnf)|(refine ⟨_, _, hAw, ?_, ?_⟩;(focus first|(refine ⟨trivial⟩<;>first|exact PLe.refl _|exact PLe.nil)|exact trivial);try conv=>whnf)|fail)
    exact .refl _
  | true =>
    rw [hfw] at hW
    obtain ⟨hl, hfm, hfr⟩ := fewD_ok hfw
    obtain ⟨hal, haa⟩ := fewR_ok hfr
    have hS : ∀ a, a ∈ acts → SmA a := fun a ha => ⟨hA a ha, by have := (haa a ha).2.2.1; omega, fun l hl => by have := (haa a ha).2.2.2.2 l hl; omega⟩
    have d1 := fun h => dy_Run m acts w steps hf hS h
    have c1 := fun h => rd_Run m acts w steps hf hS h
    have hsm := runI_sm (m := m) (acts := acts) (w := w) (steps := steps)
    generalize runI m acts w steps = X at d1 c1 hsm
    obtain ⟨m1, w1, k1, r1⟩ := X
    have hSa := rm_Same m1 hsm.1 hsm.2.1 hsm.2.2
    refine PureFn.introC [3, 4, 5] mixed (fn := Tryz.f4) rfl rfl rfl fun M w0 => ?_
    try conv=>whnf
    refine ⟨{ _x : Unit // steps.length ≤ 4 }, fun _ => [(2, .ref 0 0), (3, .ref 1 0)], fun _ => 2, fun _ => [(0, .var (cellsS m acts)), (1, .var [.pv (.int .i64 w), .pv (.sl (steps.map stepPV))])], ?_, ?_⟩
    · (try conv=>whnf);repeat' (first|(apply And.intro<;>try conv=>whnf)|(intro h;try conv=>whnf)|apply True.intro|(apply WhenQ.mk;(try conv=>whnf);rotate_left;(try conv=>whnf);rotate_right)|with_reducible assumption|(apply not_of;with_reducible assumption)|(refine PureFn.dcq (f := 8) rfl ?_;try conv=>whnf)|(refine PureFn.dcq (f := 7) rfl ?_;try conv=>whnf)|(refine ⟨_, _, hW, ?_, ?_⟩;(focus first|(refine ⟨?_, ?_, trivial⟩<;>first|exact PLe.refl _|exact PLe.nil)|exact trivial);try conv=>whnf)|(refine ⟨_, _, hAw, ?_, ?_⟩;(focus first|(refine ⟨trivial⟩<;>first|exact PLe.refl _|exact PLe.nil)|exact trivial);try conv=>whnf)|fail)
      · exact .refl _
      · refine ⟨⟨(), ?_⟩, (by refine Wk.of ?_ ?_ rfl rfl rfl<;>repeat' (first|exact trivial|exact WkD.same _|exact WkO.same _ _ rfl|refine ⟨?_, ?_⟩|fail))⟩
        obtain ⟨_, b2⟩ := or_ff' (show (bif _ then true else _) = false from h)
        have b2 := of_decide_eq_false (show decide (((steps.map stepPV).length : Int) > 4) = false from b2)
        rw [e3] at b2; omega
    rintro ⟨_, h4⟩
    have d1 := d1 (by omega)
    have c1 := c1 (by omega)
    refine ⟨Unit, fun _ => [(2, .ref 0 0), (3, .ref 1 0), (5, .ref 2 0), (6, .pv (.int .i64 w1)), (7, .pv (.int .i64 k1)), (8, .pv (.int .i64 r1))], fun _ => 3, fun _ => [(0, .var (cellsS m acts)), (1, .var [.pv (.int .i64 w), .pv (.sl (steps.map stepPV))]), (2, .var (cellsM m1))], ?_, ?_⟩
    · (try conv=>whnf);repeat' (first|(refine PureFn.dcq (f := 14) rfl ?_;try conv=>whnf)|(refine ⟨_, _, d1, ?_, ?_⟩;(focus first|(refine ⟨?_, ?_, ?_, ?_, trivial⟩<;>first|exact PLe.refl _|exact PLe.nil)|exact trivial);try conv=>whnf)|fail)
      exact ⟨(), (by refine Wk.of ?_ ?_ rfl rfl rfl<;>repeat' (first|exact trivial|exact WkD.same _|exact WkO.same _ _ rfl|refine ⟨?_, ?_⟩|fail))⟩
    rintro ⟨⟩
    refine ⟨Unit, fun _ => [(5, .ref 2 0), (6, .pv (.int .i64 w1)), (7, .pv (.int .i64 k1)), (8, .pv (.int .i64 r1)), (9, .ref 3 0), (10, .pv (.int .i64 w1)), (11, .pv (.int .i64 k1)), (12, .pv (.int .i64 r1))], fun _ => 4, fun _ => [(2, .var (cellsM m1)), (3, .var (cellsM m1))], ?_, ?_⟩
    · (try conv=>whnf);repeat' (first|(refine PureFn.dcq (f := 15) rfl ?_;try conv=>whnf)|(refine ⟨_, _, c1, ?_, ?_⟩;(focus first|(refine ⟨?_, ?_, ?_, ?_, trivial⟩<;>first|exact PLe.refl _|exact PLe.nil)|exact trivial);try conv=>whnf)|fail)
      exact ⟨(), (by refine Wk.of ?_ ?_ rfl rfl rfl<;>repeat' (first|exact trivial|exact WkD.same _|exact WkO.same _ _ rfl|refine ⟨?_, ?_⟩|fail))⟩
    rintro ⟨⟩
    (try conv=>whnf);repeat' (first|(apply And.intro<;>try conv=>whnf)|(intro h;try conv=>whnf)|apply True.intro|(apply WhenQ.mk;(try conv=>whnf);rotate_left;(try conv=>whnf);rotate_right)|with_reducible assumption|(refine PureFn.dcq (f := 16) rfl ?_;try conv=>whnf)|(refine ⟨_, _, hSa, ?_, ?_⟩;(focus first|(refine ⟨?_, ?_, trivial⟩<;>first|exact PLe.refl _|exact PLe.nil)|exact trivial);try conv=>whnf)|fail)
    exact le_bool (by simp)
theorem u_stepR : ∃ fs : Array Field, Tryz.prog.underlying 65 = some (.struct fs) ∧ fs.toList.map (·.type) = [3, 3] := ⟨_, rfl, by kernel_rfl⟩
theorem arg_stepR {n : Nat} {p : PV} (h : TyA Tryz.prog (n + 3) 65 p) : ∃ x : Int × Int, PLe p (stepPV x) ∧ True := by
  obtain ⟨cs, h, rfl⟩ := h
  obtain ⟨fs, hu, hf⟩ := u_stepR
  have hm : mkE Tryz.prog 65 cs = .agg cs := by simp only [mkE, kindT, hu]
  obtain ⟨a, b, r1, rfl, h1, hb, m1⟩ := fs_cons hf (tyS (n := n + 2) hu h)
  obtain ⟨c, d, r2, rfl, h2, hd, m2⟩ := fs_cons m1 hb
  have := fs_nil m2 hd
  subst this
  obtain ⟨i, rfl, _⟩ := int_of (n := n + 1) h1
  obtain ⟨j, rfl, _⟩ := int_of (n := n + 1) h2
  rw [hm]
  exact ⟨(i, j), .refl _, trivial⟩
theorem u_stepsR : Tryz.prog.underlying 38 = some (.slice 65) := by kernel_rfl
theorem u_path : ∃ fs : Array Field, Tryz.prog.underlying 40 = some (.struct fs) ∧ fs.toList.map (·.type) = [3, 38] := ⟨_, rfl, by kernel_rfl⟩
theorem arg_path {n : Nat} {p : PV} (h : TyA Tryz.prog (n + 5) 40 p) : ∃ (w : Int) (steps : List (Int × Int)), PLe p (.agg [.int .i64 w, .sl (steps.map stepPV)]) := by
  obtain ⟨cs, h, rfl⟩ := h
  obtain ⟨fs, hu, hf⟩ := u_path
  have hm : mkE Tryz.prog 40 cs = .agg cs := by simp only [mkE, kindT, hu]
  obtain ⟨a, b, r1, rfl, h1, hb, m1⟩ := fs_cons hf (tyS (n := n + 4) hu h)
  obtain ⟨c, d, r2, rfl, h2, hd, m2⟩ := fs_cons m1 hb
  have := fs_nil m2 hd
  subst this
  obtain ⟨w, rfl, _⟩ := int_of (n := n + 3) h1
  obtain ⟨steps, q2, rfl, l2, _⟩ := slice_of (n := n + 3) (g := stepPV) (Q := fun _ => True) u_stepsR (fun p hp => arg_stepR (n := n) hp) h2
  refine ⟨w, steps, ?_⟩
  rw [hm]
  exact PLe.aggs ⟨.refl _, l2, trivial⟩
theorem druns_args (ps : List PV) (hps : TyAll Tryz.prog 9 Tryz.f4.params.toList ps) : PureFn Tryz.prog 4 ps (.bool true) := by
  obtain ⟨p1, r1, rfl, h1, p2, r2, rfl, h2, rfl⟩ := hps
  obtain ⟨m, acts, h, hm, ha⟩ := arg_scn (n := 0) h1
  obtain ⟨w, steps, hp⟩ := arg_path (n := 4) h2
  exact (druns_pure m acts w steps hm ha).le ⟨h, hp, trivial⟩
end Go.Proofs.YtlaolpkgabknfaaGreatDoor
