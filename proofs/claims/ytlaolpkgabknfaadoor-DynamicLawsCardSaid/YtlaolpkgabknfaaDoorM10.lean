/- Parts of the proof, one after the other: The dynamic language: the examples of the law walked. The dynamic language: formulas whose operands are formulas; what the law DynamicMerges asks (plain). The dynamic language: the law DynamicMerges walked. The dynamic language: scenes as arguments. The dynamic language: what the law DynamicLaws asks (plain). Products: the law ProductAnnounces walked. The dynamic language: the law DynamicLaws walked. -/
import Derived.Test.YtlaolpkgabknfaaDoorM9
set_option maxRecDepth 100000
set_option maxHeartbeats 8000000
namespace Go.Proofs.YtlaolpkgabknfaaDoor
open Go Go.Dv

def awP : List Nd := buildL (nI 3 0) []
def awQ : List Nd := buildL (nI 3 1) []
def awE : List Nd := buildL (n0 6) [awP, awQ]
def awK : List Nd := buildL (nI 9 0) [awP]
def awO (i : Int) (f : List Nd) : List Nd := buildL (n0 5) [buildL (n0 4) [buildL (nI 9 i) [f]], buildL (n0 4) [buildL (nI 9 i) [buildL (n0 4) [f]]]]
def awA : Act := pubA 2 awE
def aw1 : List Nd := buildL (n0 16) [awE, awK]
def aw2 : List Nd := buildL ⟨17, 0, 0, 0, 0, 0⟩ [awK]
def aw3 : List Nd := buildL (n0 16) [awE, buildL (n0 16) [buildL (n0 5) [awO 0 awP, awO 1 awQ], awK]]
theorem awk0 : pubI 2 awE = (awA, 0) := by kernel_rfl
theorem awk1 : dynPV (dynI hatM [] aw1) = .tup [u64 3, .int .i64 0] := by kernel_rfl
theorem awk2 : dynPV (dynI hatM [awA] aw2) = .tup [u64 3, .int .i64 0] := by kernel_rfl
theorem awk3 : dynPV (dynI hatM [] aw3) = .tup [u64 15, .int .i64 0] := by kernel_rfl
def awM : Mo := (runI hatM [awA] 1 [(0, 0)]).1
theorem awk4 : runPV (runI hatM [awA] 1 [(0, 0)]) = .tup [awM.pv, .int .i64 0, .int .i64 1, .int .i64 0] := by kernel_rfl
theorem awk4n : awM.n = 3 := by kernel_rfl
theorem awk5 : runPV (runI hatM [awA] 0 [(0, 0)]) = .tup [noMo.pv, .int .i64 0, .int .i64 0, .int .i64 11] := by kernel_rfl
theorem awk6 : dynPV (dynI hatM [] aw2) = .tup [u64 0, .int .i64 6] := by kernel_rfl
theorem awk7 : chkD hatM [awA] = 0 := by kernel_rfl
theorem hat_fit : FitM hatM := ⟨by intro s hs; simp [hatM] at hs; omega, by intro r hr s hs; simp [hatM] at hr; rcases hr with rfl | rfl <;> simp at hs <;> omega⟩
theorem awA_sm : ∀ a, a ∈ [awA] → SmA a := fun a ha => by
  rw [List.mem_singleton.1 ha]
  refine ⟨fun r hr s hs => ?_, by decide, by simp [awA, pubA]⟩
  rw [List.eq_of_mem_replicate (show r ∈ onesL 2 from hr)] at hs
  rw [List.mem_singleton.1 hs]; decide
theorem no_sm : ∀ a, a ∈ ([] : List Act) → SmA a := fun a ha => by cases ha
theorem lw_open (i : Int) (f : List Nd) : PureFn Tryd.prog 26 [.int .i64 i, fpv f] (fpv (awO i f)) := by
  refine PureFn.intro mixed (fn := Tryd.f26) rfl rfl rfl fun M w0 => ?_
  have h1 := fm_Know i f
  have h2 := fm_Not (buildL (nI 9 i) [f])
  have h3 := fm_Not f
  have h4 := fm_Know i (buildL (n0 4) [f])
  have h5 := fm_Not (buildL (nI 9 i) [buildL (n0 4) [f]])
  have h6 := fm_And (buildL (n0 4) [buildL (nI 9 i) [f]]) (buildL (n0 4) [buildL (nI 9 i) [buildL (n0 4) [f]]])
  (try conv=>whnf);repeat' (first|(refine PureFn.dcq (f := 22) rfl ?_;try conv=>whnf)|(refine PureFn.dcq (f := 20) rfl ?_;try conv=>whnf)|(refine PureFn.dcq (f := 19) rfl ?_;try conv=>whnf)|(refine ⟨_, _, h1, ?_, ?_⟩;(focus first|(refine ⟨?_, ?_, trivial⟩<;>first|exact PLe.refl _|exact PLe.nil)|exact trivial);try conv=>whnf)|(refine ⟨_, _, h2, ?_, ?_⟩;(focus first|(refine ⟨?_, trivial⟩<;>first|exact PLe.refl _|exact PLe.nil)|exact trivial);try conv=>whnf)|(refine ⟨_, _, h3, ?_, ?_⟩;(focus first|(refine ⟨?_, trivial⟩<;>first|exact PLe.refl _|exact PLe.nil)|exact trivial);try conv=>whnf)|(refine ⟨_, _, h4, ?_, ?_⟩;(focus first|(refine ⟨?_, ?_, trivial⟩<;>first|exact PLe.refl _|exact PLe.nil)|exact trivial);try conv=>whnf)|(refine ⟨_, _, h5, ?_, ?_⟩;(focus first|(refine ⟨?_, trivial⟩<;>first|exact PLe.refl _|exact PLe.nil)|exact trivial);try conv=>whnf)|(refine ⟨_, _, h6, ?_, ?_⟩;(focus first|(refine ⟨?_, ?_, trivial⟩<;>first|exact PLe.refl _|exact PLe.nil)|exact trivial);try conv=>whnf)|fail)
  exact .refl _
theorem lw_awake28 : PureFn Tryd.prog 7 [] (.bool true) := by
  have hH := lw_hats
  have hP : PureFn Tryd.prog 17 [.int .i64 0] (fpv awP) := fm_Fact 0
  have hQ : PureFn Tryd.prog 17 [.int .i64 1] (fpv awQ) := fm_Fact 1
  have hE : PureFn Tryd.prog 25 [fpv awP, fpv awQ] (fpv awE) := fm_Or awP awQ
  have hK : PureFn Tryd.prog 22 [.int .i64 0, fpv awP] (fpv awK) := fm_Know 0 awP
  have hA := ac_Public 2 awE
  rw [awk0] at hA
  have h1 : PureFn Tryd.prog 13 [fpv awE, fpv awK] (fpv aw1) := fm_Announce awE awK
  have d1 := dy_Holds hatM [] aw1 hat_fit no_sm
  rw [awk1] at d1
  have h2 : PureFn Tryd.prog 15 [.int .i64 0, .int .i64 0, fpv awK] (fpv aw2) := fm_Act 0 0 awK
  have d2 := dy_Holds hatM [awA] aw2 hat_fit awA_sm
  rw [awk2] at d2
  have o0 := lw_open 0 awP
  have o1 := lw_open 1 awQ
  have h3 := fm_And (awO 0 awP) (awO 1 awQ)
  have h4 := fm_Announce (buildL (n0 5) [awO 0 awP, awO 1 awQ]) awK
  have h5 : PureFn Tryd.prog 13 [fpv awE, fpv (buildL (n0 16) [buildL (n0 5) [awO 0 awP, awO 1 awQ], awK])] (fpv aw3) := fm_Announce awE _
  have d3 := dy_Holds hatM [] aw3 hat_fit no_sm
  rw [awk3] at d3
  have r1 := dy_Run hatM [awA] 1 [(0, 0)] hat_fit awA_sm (by decide)
  rw [awk4] at r1
  have r2 := dy_Run hatM [awA] 0 [(0, 0)] hat_fit awA_sm (by decide)
  rw [awk5] at r2
  have d4 := dy_Holds hatM [] aw2 hat_fit no_sm
  rw [awk6] at d4
  have c1 := dy_Check hatM [awA] hat_fit awA_sm
  rw [awk7] at c1
  refine PureFn.introC [2, 3, 4, 5, 6, 7, 8, 9, 10, 11, 12, 13] mixed (fn := Tryd.f7) rfl rfl rfl fun M w0 => ?_
  try conv=>whnf
  refine ⟨Unit, fun _ => [(1, .pv (fpv awP)), (2, .pv (fpv awQ))], fun _ => 0, fun _ => [], ?_, ?_⟩
  · (try conv=>whnf);repeat' (first|(refine PureFn.dcq (f := 17) rfl ?_;try conv=>whnf)|(refine ⟨_, _, hP, ?_, ?_⟩;(focus first|(refine ⟨?_, trivial⟩<;>first|exact PLe.refl _|exact PLe.nil)|exact trivial);try conv=>whnf)|(refine ⟨_, _, hQ, ?_, ?_⟩;(focus first|(refine ⟨?_, trivial⟩<;>first|exact PLe.refl _|exact PLe.nil)|exact trivial);try conv=>whnf)|fail)
    exact ⟨(), (by refine Wk.of ?_ ?_ rfl rfl rfl<;>repeat' (first|exact trivial|exact WkD.same _|refine ⟨?_, ?_⟩|fail))⟩
  rintro ⟨⟩
  refine ⟨Unit, fun _ => [(1, .pv (fpv awP)), (2, .pv (fpv awQ)), (3, .pv (fpv awE))], fun _ => 0, fun _ => [], ?_, ?_⟩
  · (try conv=>whnf);repeat' (first|(refine PureFn.dcq (f := 25) rfl ?_;try conv=>whnf)|(refine ⟨_, _, hE, ?_, ?_⟩;(focus first|(refine ⟨?_, ?_, trivial⟩<;>first|exact PLe.refl _|exact PLe.nil)|exact trivial);try conv=>whnf)|fail)
    exact ⟨(), (by refine Wk.of ?_ ?_ rfl rfl rfl<;>repeat' (first|exact trivial|exact WkD.same _|refine ⟨?_, ?_⟩|fail))⟩
  rintro ⟨⟩
  refine ⟨Unit, fun _ => [(1, .pv (fpv awP)), (2, .pv (fpv awQ)), (3, .pv (fpv awE)), (4, .clo 26 [] [])], fun _ => 0, fun _ => [], ?_, ?_⟩
  · try conv=>whnf
    exact ⟨(), (by refine Wk.of ?_ ?_ rfl rfl rfl<;>repeat' (first|exact trivial|exact WkD.same _|refine ⟨?_, ?_⟩|fail))⟩
  rintro ⟨⟩
  refine ⟨Unit, fun _ => [(1, .pv (fpv awP)), (2, .pv (fpv awQ)), (3, .pv (fpv awE)), (4, .clo 26 [] []), (5, .pv (fpv awK))], fun _ => 0, fun _ => [], ?_, ?_⟩
  · (try conv=>whnf);repeat' (first|(refine PureFn.dcq (f := 22) rfl ?_;try conv=>whnf)|(refine ⟨_, _, hK, ?_, ?_⟩;(focus first|(refine ⟨?_, ?_, trivial⟩<;>first|exact PLe.refl _|exact PLe.nil)|exact trivial);try conv=>whnf)|fail)
    exact ⟨(), (by refine Wk.of ?_ ?_ rfl rfl rfl<;>repeat' (first|exact trivial|exact WkD.same _|refine ⟨?_, ?_⟩|fail))⟩
  rintro ⟨⟩
  refine ⟨Unit, fun _ => [(1, .pv (fpv awP)), (2, .pv (fpv awQ)), (3, .pv (fpv awE)), (4, .clo 26 [] []), (5, .pv (fpv awK)), (6, .ref 0 0), (7, .pv (.int .i64 0))], fun _ => 1, fun _ => [(0, .var (actDV awA))], ?_, ?_⟩
  · (try conv=>whnf);repeat' (first|(refine PureFn.dcq (f := 14) rfl ?_;try conv=>whnf)|(refine ⟨_, _, hA, ?_, ?_⟩;(focus first|(refine ⟨?_, ?_, trivial⟩<;>first|exact PLe.refl _|exact PLe.nil)|exact trivial);try conv=>whnf)|fail)
    exact ⟨(), (by refine Wk.of ?_ ?_ rfl rfl rfl<;>repeat' (first|exact trivial|exact WkD.same _|exact WkO.same _ _ rfl|refine ⟨?_, ?_⟩|fail))⟩
  rintro ⟨⟩
  refine ⟨Unit, fun _ => [(1, .pv (fpv awP)), (2, .pv (fpv awQ)), (3, .pv (fpv awE)), (4, .clo 26 [] []), (5, .pv (fpv awK)), (7, .pv (.int .i64 0)), (8, .pv (actsPV [awA]))], fun _ => 0, fun _ => [], ?_, ?_⟩
  · (try conv=>whnf);repeat' (first|(apply And.intro<;>try conv=>whnf)|(apply cellsI;rfl)|fail)
    exact ⟨(), (by refine Wk.of ?_ ?_ rfl rfl rfl<;>repeat' (first|exact trivial|exact WkD.same _|refine ⟨?_, ?_⟩|fail))⟩
  rintro ⟨⟩
  refine ⟨Unit, fun _ => [(1, .pv (fpv awP)), (2, .pv (fpv awQ)), (3, .pv (fpv awE)), (4, .clo 26 [] []), (5, .pv (fpv awK)), (7, .pv (.int .i64 0)), (8, .pv (actsPV [awA])), (9, .pv (u64 3)), (10, .pv (.int .i64 0))], fun _ => 0, fun _ => [], ?_, ?_⟩
  · (try conv=>whnf);repeat' (first|(refine PureFn.dcq (f := 27) rfl ?_;try conv=>whnf)|(refine PureFn.dcq (f := 13) rfl ?_;try conv=>whnf)|(refine PureFn.dcq (f := 12) rfl ?_;try conv=>whnf)|(refine ⟨_, _, hH, ?_, ?_⟩;(focus first|(refine ⟨trivial⟩<;>first|exact PLe.refl _|exact PLe.nil)|exact trivial);try conv=>whnf)|(refine ⟨_, _, h1, ?_, ?_⟩;(focus first|(refine ⟨?_, ?_, trivial⟩<;>first|exact PLe.refl _|exact PLe.nil)|exact trivial);try conv=>whnf)|(refine ⟨_, _, d1, ?_, ?_⟩;(focus first|(refine ⟨?_, ?_, ?_, trivial⟩<;>first|exact PLe.refl _|exact PLe.nil)|exact trivial);try conv=>whnf)|fail)
    exact ⟨(), (by refine Wk.of ?_ ?_ rfl rfl rfl<;>repeat' (first|exact trivial|exact WkD.same _|refine ⟨?_, ?_⟩|fail))⟩
  rintro ⟨⟩
  refine ⟨Unit, fun _ => [(1, .pv (fpv awP)), (2, .pv (fpv awQ)), (3, .pv (fpv awE)), (4, .clo 26 [] []), (5, .pv (fpv awK)), (7, .pv (.int .i64 0)), (8, .pv (actsPV [awA])), (9, .pv (u64 3)), (10, .pv (.int .i64 0)), (11, .pv (u64 3)), (12, .pv (.int .i64 0))], fun _ => 0, fun _ => [], ?_, ?_⟩
  · (try conv=>whnf);repeat' (first|(refine PureFn.dcq (f := 27) rfl ?_;try conv=>whnf)|(refine PureFn.dcq (f := 15) rfl ?_;try conv=>whnf)|(refine PureFn.dcq (f := 12) rfl ?_;try conv=>whnf)|(refine ⟨_, _, hH, ?_, ?_⟩;(focus first|(refine ⟨trivial⟩<;>first|exact PLe.refl _|exact PLe.nil)|exact trivial);try conv=>whnf)|(refine ⟨_, _, h2, ?_, ?_⟩;(focus first|(refine ⟨?_, ?_, ?_, trivial⟩<;>first|exact PLe.refl _|exact PLe.nil)|exact trivial);try conv=>whnf)|(refine ⟨_, _, d2, ?_, ?_⟩;(focus first|(refine ⟨?_, ?_, ?_, trivial⟩<;>first|exact PLe.refl _|exact PLe.nil)|exact trivial);try conv=>whnf)|fail)
    exact ⟨(), (by refine Wk.of ?_ ?_ rfl rfl rfl<;>repeat' (first|exact trivial|exact WkD.same _|refine ⟨?_, ?_⟩|fail))⟩
  rintro ⟨⟩
  refine ⟨Unit, fun _ => [(1, .pv (fpv awP)), (2, .pv (fpv awQ)), (3, .pv (fpv awE)), (4, .clo 26 [] []), (5, .pv (fpv awK)), (7, .pv (.int .i64 0)), (8, .pv (actsPV [awA])), (9, .pv (u64 3)), (10, .pv (.int .i64 0)), (11, .pv (u64 3)), (12, .pv (.int .i64 0)), (13, .pv (u64 15)), (14, .pv (.int .i64 0))], fun _ => 0, fun _ => [], ?_, ?_⟩
  · (try conv=>whnf);repeat' (first|(refine PureFn.dcq (f := 27) rfl ?_;try conv=>whnf)|(refine PureFn.dcq (f := 26) rfl ?_;try conv=>whnf)|(refine PureFn.dcq (f := 19) rfl ?_;try conv=>whnf)|(refine PureFn.dcq (f := 13) rfl ?_;try conv=>whnf)|(refine PureFn.dcq (f := 12) rfl ?_;try conv=>whnf)|(refine ⟨_, _, hH, ?_, ?_⟩;(focus first|(refine ⟨trivial⟩<;>first|exact PLe.refl _|exact PLe.nil)|exact trivial);try conv=>whnf)|(refine ⟨_, _, o0, ?_, ?_⟩;(focus first|(refine ⟨?_, ?_, trivial⟩<;>first|exact PLe.refl _|exact PLe.nil)|exact trivial);try conv=>whnf)|(refine ⟨_, _, o1, ?_, ?_⟩;(focus first|(refine ⟨?_, ?_, trivial⟩<;>first|exact PLe.refl _|exact PLe.nil)|exact trivial);try conv=>whnf)|(refine ⟨_, _, h3, ?_, ?_⟩;(focus first|(refine ⟨?_, ?_, trivial⟩<;>first|exact PLe.refl _|exact PLe.nil)|exact trivial);try conv=>whnf)|(refine ⟨_, _, h4, ?_, ?_⟩;(focus first|(refine ⟨?_, ?_, trivial⟩<;>first|exact PLe.refl _|exact PLe.nil)|exact trivial);try conv=>whnf)|(refine ⟨_, _, h5, ?_, ?_⟩;(focus first|(refine ⟨?_, ?_, trivial⟩<;>first|exact PLe.refl _|exact PLe.nil)|exact trivial);try conv=>whnf)|(refine ⟨_, _, d3, ?_, ?_⟩;(focus first|(refine ⟨?_, ?_, ?_, trivial⟩<;>first|exact PLe.refl _|exact PLe.nil)|exact trivial);try conv=>whnf)|fail)
    exact ⟨(), (by refine Wk.of ?_ ?_ rfl rfl rfl<;>repeat' (first|exact trivial|exact WkD.same _|refine ⟨?_, ?_⟩|fail))⟩
  rintro ⟨⟩
  refine ⟨Unit, fun _ => [(1, .pv (fpv awP)), (2, .pv (fpv awQ)), (3, .pv (fpv awE)), (4, .clo 26 [] []), (5, .pv (fpv awK)), (7, .pv (.int .i64 0)), (8, .pv (actsPV [awA])), (9, .pv (u64 3)), (10, .pv (.int .i64 0)), (11, .pv (u64 3)), (12, .pv (.int .i64 0)), (13, .pv (u64 15)), (14, .pv (.int .i64 0)), (15, .ref 0 0), (16, .pv (.int .i64 0)), (17, .pv (.int .i64 1)), (18, .pv (.int .i64 0))], fun _ => 1, fun _ => [(0, .var (cellsM awM))], ?_, ?_⟩
  · (try conv=>whnf);repeat' (first|(apply And.intro<;>try conv=>whnf)|(apply cellsI;rfl)|(refine PureFn.dcq (f := 27) rfl ?_;try conv=>whnf)|(refine PureFn.dcq (f := 16) rfl ?_;try conv=>whnf)|(refine ⟨_, _, hH, ?_, ?_⟩;(focus first|(refine ⟨trivial⟩<;>first|exact PLe.refl _|exact PLe.nil)|exact trivial);try conv=>whnf)|(refine ⟨_, _, r1, ?_, ?_⟩;(focus first|(refine ⟨?_, ?_, ?_, ?_, trivial⟩<;>first|exact PLe.refl _|exact PLe.nil)|exact trivial);try conv=>whnf)|fail)
    exact ⟨(), (by refine Wk.of ?_ ?_ rfl rfl rfl<;>repeat' (first|exact trivial|exact WkD.same _|exact WkO.same _ _ rfl|refine ⟨?_, ?_⟩|fail))⟩
  rintro ⟨⟩
  refine ⟨Unit, fun _ => [(1, .pv (fpv awP)), (2, .pv (fpv awQ)), (3, .pv (fpv awE)), (4, .clo 26 [] []), (5, .pv (fpv awK)), (7, .pv (.int .i64 0)), (8, .pv (actsPV [awA])), (9, .pv (u64 3)), (10, .pv (.int .i64 0)), (11, .pv (u64 3)), (12, .pv (.int .i64 0)), (13, .pv (u64 15)), (14, .pv (.int .i64 0)), (15, .ref 0 0), (16, .pv (.int .i64 0)), (17, .pv (.int .i64 1)), (18, .pv (.int .i64 0)), (21, .pv (.int .i64 0)), (22, .pv (.int .i64 11))], fun _ => 1, fun _ => [(0, .var (cellsM awM))], ?_, ?_⟩
  · (try conv=>whnf);repeat' (first|(apply And.intro<;>try conv=>whnf)|(apply cellsI;rfl)|(refine PureFn.dcq (f := 27) rfl ?_;try conv=>whnf)|(refine PureFn.dcq (f := 16) rfl ?_;try conv=>whnf)|(refine ⟨_, _, hH, ?_, ?_⟩;(focus first|(refine ⟨trivial⟩<;>first|exact PLe.refl _|exact PLe.nil)|exact trivial);try conv=>whnf)|(refine ⟨_, _, r2, ?_, ?_⟩;(focus first|(refine ⟨?_, ?_, ?_, ?_, trivial⟩<;>first|exact PLe.refl _|exact PLe.nil)|exact trivial);try conv=>whnf)|fail)
    exact ⟨(), (by refine Wk.of ?_ ?_ rfl rfl rfl<;>repeat' (first|exact trivial|exact WkD.same _|exact WkO.same _ _ rfl|refine ⟨?_, ?_⟩|fail))⟩
  rintro ⟨⟩
  refine ⟨Unit, fun _ => [(1, .pv (fpv awP)), (2, .pv (fpv awQ)), (3, .pv (fpv awE)), (4, .clo 26 [] []), (5, .pv (fpv awK)), (7, .pv (.int .i64 0)), (8, .pv (actsPV [awA])), (9, .pv (u64 3)), (10, .pv (.int .i64 0)), (11, .pv (u64 3)), (12, .pv (.int .i64 0)), (13, .pv (u64 15)), (14, .pv (.int .i64 0)), (15, .ref 0 0), (16, .pv (.int .i64 0)), (17, .pv (.int .i64 1)), (18, .pv (.int .i64 0)), (21, .pv (.int .i64 0)), (22, .pv (.int .i64 11)), (24, .pv (.int .i64 6))], fun _ => 1, fun _ => [(0, .var (cellsM awM))], ?_, ?_⟩
  · (try conv=>whnf);repeat' (first|(refine PureFn.dcq (f := 27) rfl ?_;try conv=>whnf)|(refine PureFn.dcq (f := 15) rfl ?_;try conv=>whnf)|(refine PureFn.dcq (f := 12) rfl ?_;try conv=>whnf)|(refine ⟨_, _, hH, ?_, ?_⟩;(focus first|(refine ⟨trivial⟩<;>first|exact PLe.refl _|exact PLe.nil)|exact trivial);try conv=>whnf)|(refine ⟨_, _, h2, ?_, ?_⟩;(focus first|(refine ⟨?_, ?_, ?_, trivial⟩<;>first|exact PLe.refl _|exact PLe.nil)|exact trivial);try conv=>whnf)|(refine ⟨_, _, d4, ?_, ?_⟩;(focus first|(refine ⟨?_, ?_, ?_, trivial⟩<;>first|exact PLe.refl _|exact PLe.nil)|exact trivial);try conv=>whnf)|fail)
    exact ⟨(), (by refine Wk.of ?_ ?_ rfl rfl rfl<;>repeat' (first|exact trivial|exact WkD.same _|exact WkO.same _ _ rfl|refine ⟨?_, ?_⟩|fail))⟩
  rintro ⟨⟩
  have e3 : awM.n = 3 := awk4n
  (try conv=>whnf);repeat' (first|(apply And.intro<;>try conv=>whnf)|(intro h;try conv=>whnf)|apply True.intro|(apply WhenQ.mk;(try conv=>whnf);rotate_left;(try conv=>whnf);rotate_right)|with_reducible assumption|(refine PureFn.dcq (f := 27) rfl ?_;try conv=>whnf)|(refine PureFn.dcq (f := 28) rfl ?_;try conv=>whnf)|(refine ⟨_, _, hH, ?_, ?_⟩;(focus first|(refine ⟨trivial⟩<;>first|exact PLe.refl _|exact PLe.nil)|exact trivial);try conv=>whnf)|(refine ⟨_, _, c1, ?_, ?_⟩;(focus first|(refine ⟨?_, ?_, trivial⟩<;>first|exact PLe.refl _|exact PLe.nil)|exact trivial);try conv=>whnf)|fail)
  exact (fun (b : Bool) (h : b = true) => (show PLe (.bool b) (.bool true) from h ▸ .refl _)) _ (by kernel_rfl)
end Go.Proofs.YtlaolpkgabknfaaDoor
set_option maxRecDepth 100000
set_option maxHeartbeats 4000000
namespace Go.Proofs.YtlaolpkgabknfaaDoor
open Go Go.Dv

theorem check_nil : check [] ≠ 0 := by decide
theorem build_inv1 {x : Nd} {f : List Nd} (h : check (buildL x [f]) = 0) : check f = 0 := by
  by_cases q : check f = 0
  · exact q
  · exfalso
    refine check_nil ?_
    have e : buildL x [f] = [] := by
      unfold buildL
      rw [show bfold 0 [f] (x, []) = none by rw [bfold, show (check f != 0) = true by simpa using q]; rfl]
    rw [e] at h; exact h
theorem build_inv2 {x : Nd} {f g : List Nd} (h : check (buildL x [f, g]) = 0) : check f = 0 ∧ check g = 0 := by
  by_cases q : check f = 0
  · by_cases q2 : check g = 0
    · exact ⟨q, q2⟩
    · exfalso
      refine check_nil ?_
      have e : buildL x [f, g] = [] := by
        unfold buildL
        rw [show bfold 0 [f, g] (x, []) = none by rw [bfold, show (check f != 0) = false by simpa using q, cond_false, bfold, show (check g != 0) = true by simpa using q2]; rfl]
      rw [e] at h; exact h
  · exfalso
    refine check_nil ?_
    have e : buildL x [f, g] = [] := by
      unfold buildL
      rw [show bfold 0 [f, g] (x, []) = none by rw [bfold, show (check f != 0) = true by simpa using q]; rfl]
    rw [e] at h; exact h
/-- A formula that the checker takes. -/
theorem dyn_ok {m : Mo} {acts : List Act} {f : List Nd} (h : (dynI m acts f).2 = 0) : reqD m acts f = 0 ∧ ∃ s, dvT acts (root f) m = some s ∧ dynI m acts f = (s, 0) := by
  unfold dynI at h ⊢
  cases h0 : (reqD m acts f != 0) with
  | true => rw [h0] at h; simp only [cond_true] at h; rw [h] at h0; cases h0
  | false =>
    rw [h0] at h
    simp only [cond_false] at h ⊢
    refine ⟨by simpa using h0, ?_⟩
    cases hd : dvT acts (root f) m with
    | none => rw [hd] at h; cases h
    | some s => exact ⟨s, rfl, rfl⟩
theorem ok_dyn {m : Mo} {acts : List Act} {f : List Nd} {s : Nat} (h : reqD m acts f = 0) (hd : dvT acts (root f) m = some s) : dynI m acts f = (s, 0) := by
  rw [dynI, h, hd]; rfl
theorem req_check {m : Mo} {acts : List Act} {f : List Nd} (h : reqD m acts f = 0) : check f = 0 := (reqD_iff.1 h).2.1
theorem mer_eq {m : Mo} {acts : List Act} {f g G : List Nd} (hf : f.length ≤ 40) (hg : g.length ≤ 40) (hG : G.length ≤ 10)
    (h1 : (dynI m acts (buildL (n0 16) [f, buildL (n0 16) [g, G]])).2 = 0) (h2 : (dynI m acts (buildL (n0 16) [buildL (n0 5) [f, buildL (n0 16) [f, g]], G])).2 = 0) :
    (dynI m acts (buildL (n0 16) [f, buildL (n0 16) [g, G]])).1 = (dynI m acts (buildL (n0 16) [buildL (n0 5) [f, buildL (n0 16) [f, g]], G])).1 := by
  obtain ⟨r1, x, d1, e1⟩ := dyn_ok h1
  obtain ⟨r2, y, d2, e2⟩ := dyn_ok h2
  rw [e1, e2]
  obtain ⟨n, hD, _⟩ := chkD_ok (reqD_iff.1 r1).1
  obtain ⟨cf, c1⟩ := build_inv2 (req_check r1)
  obtain ⟨cg, cG⟩ := build_inv2 c1
  obtain ⟨q1, q2, q3⟩ := bin_any (op := 16) (by simp) cg cG (by omega)
  obtain ⟨q4, q5, q6⟩ := bin_any (op := 16) (by simp) cf c1 (by omega)
  obtain ⟨p1, p2, p3⟩ := bin_any (op := 16) (by simp) cf cg (by omega)
  obtain ⟨p4, p5, p6⟩ := bin_any (op := 5) (by simp) cf p1.check (by omega)
  obtain ⟨p7, p8, p9⟩ := bin_any (op := 16) (by simp) p4.check cG (by omega)
  rw [q5, q2] at d1
  rw [p8, p5, p2] at d2
  exact ann_ann hD.okm d1 d2
/-- How many nodes are announcements or events. -/
def dynN (x : Nd) : Bool := bif x.op == 16 then true else x.op == 17
def shC (f : List Nd) : Nat := (f.filter dynN).length
end Go.Proofs.YtlaolpkgabknfaaDoor
set_option maxRecDepth 100000
set_option maxHeartbeats 8000000
namespace Go.Proofs.YtlaolpkgabknfaaDoor
open Go Go.Dv

def scnPV (m : Mo) (acts : List Act) : PV := .agg [.int .i64 m.n, .sl (m.val.map u64), .sl (m.rel.map rowPV), actsPV acts]
def cellsS (m : Mo) (acts : List Act) : List DV := [.pv (.int .i64 m.n), .pv (.sl (m.val.map u64)), .pv (.sl (m.rel.map rowPV)), .pv (actsPV acts)]
def longB (fs : List (List Nd)) : Bool := fs.any fun f => decide ((f.length : Int) > 40)
def fewD (m : Mo) (acts : List Act) (fs : List (List Nd)) : Bool := bif longB fs then false else bif fewM m 10 then fewR acts else false
theorem fewD_ok {m : Mo} {acts : List Act} {fs : List (List Nd)} (h : fewD m acts fs = true) : (∀ f, f ∈ fs → f.length ≤ 40) ∧ fewM m 10 = true ∧ fewR acts = true := by
  unfold fewD at h
  cases h1 : longB fs with
  | true => rw [h1] at h; cases h
  | false =>
    rw [h1, cond_false] at h
    cases h2 : fewM m 10 with
    | false => rw [h2] at h; cases h
    | true =>
      rw [h2, cond_true] at h
      refine ⟨fun f hf => ?_, rfl, h⟩
      have := List.any_eq_false.1 h1 f hf
      have := of_decide_eq_false (show decide ((f.length : Int) > 40) = false by simpa using this)
      omega
theorem fewM_len {m : Mo} {k : Int} (h : fewM m k = true) : m.val.length ≤ 20 ∧ m.rel.length ≤ 10 := by
  unfold fewM at h
  cases hb : fewB m k with
  | true => rw [hb] at h; cases h
  | false =>
    unfold fewB at hb
    cases q0 : (bif decide (m.n > k) then decide (m.n ≤ 64) else false) with
    | true => rw [q0] at hb; cases hb
    | false =>
      cases q1 : decide ((m.val.length : Int) > 20) with
      | true => rw [q0, q1] at hb; cases hb
      | false =>
        rw [q0, q1] at hb
        have g1 := of_decide_eq_false q1
        have g2 := of_decide_eq_false (show decide ((m.rel.length : Int) > 10) = false from hb)
        exact ⟨by omega, by omega⟩
theorem lw_few (m : Mo) (acts : List Act) (fs : List (List Nd)) (hl : fs.length ≤ 1000) : PureFn Tryd.prog 8 [scnPV m acts, .sl (fs.map fpv)] (.bool (fewD m acts fs)) := by
  have h1 := rm_Few m 10
  have h2 := rd_Few acts
  refine PureFn.introC [7] mixed (fn := Tryd.f8) rfl rfl rfl fun M w0 => ?_
  try conv=>whnf
  refine ⟨{ _x : Unit // longB fs = false }, fun _ => [(2, .ref 0 0)], fun _ => 1, fun _ => [(0, .var (cellsS m acts))], ?_, ?_⟩
  · try conv=>whnf
    refine ⟨{ i : Nat // i ≤ fs.length ∧ longB (fs.take i) = false }, fun i => [(2, .ref 0 0), (7, .pv (.sl (fs.map fpv))), (8, .pv (i64 (fs.map fpv).length)), (9, .pv (i64 i.1))], fun _ => 1, fun _ => [(0, .var (cellsS m acts))], fun i => fs.length - i.1, ⟨⟨0, Nat.zero_le _, rfl⟩, (by refine Wk.of ?_ ?_ rfl rfl rfl<;>repeat' (first|exact trivial|exact WkD.same _|exact WkO.same _ _ rfl|refine ⟨?_, ?_⟩|fail))⟩, ?_⟩
    rintro ⟨i, hi, hb⟩
    (try conv=>whnf);repeat' (first|(apply And.intro<;>try conv=>whnf)|(intro h;try conv=>whnf)|(apply infoT;rfl)|fail)
    · have hi' : i < fs.length := by simpa using lt_dec h
      have hn : fs[i]? = some fs[i] := List.getElem?_eq_getElem hi'
      have e4 : ((fs[i].map Nd.pv).length : Int) = (fs[i].length : Int) := by simp
      refine ⟨_, _, rfl, idx_map hn, rfl, ?_⟩
      (try conv=>whnf);repeat' (first|(apply And.intro<;>try conv=>whnf)|(intro h;try conv=>whnf)|fail)
      · have h9 : longB fs = true := any_at (p := fun f : List Nd => decide ((f.length : Int) > 40)) hi' (by rw [← e4]; exact h)
        rw [fewD, h9]; exact .refl _
      · exact ⟨⟨i + 1, hi', any_take (p := fun f : List Nd => decide ((f.length : Int) > 40)) hi' hb (by rw [← e4]; exact h)⟩, by show fs.length - (i + 1) < fs.length - i; omega, (by refine Wk.of ?_ ?_ rfl rfl rfl<;>repeat' (first|exact trivial|exact WkD.same _|exact WkO.same _ _ rfl|refine WkD.int ?_|refine ⟨?_, ?_⟩|(refine wrapA ?_ ?_ ?_;(focus simp;done);(focus (try dsimp only);omega);(focus (try dsimp only);omega))|fail))⟩
    · have hi' : i = fs.length := by have := ge_dec (m := (fs.map fpv).length) h (by simpa using hi); simpa using this
      subst hi'
      rw [List.take_length] at hb
      exact ⟨⟨(), hb⟩, (by refine Wk.of ?_ ?_ rfl rfl rfl<;>repeat' (first|exact trivial|exact WkD.same _|exact WkO.same _ _ rfl|refine ⟨?_, ?_⟩|fail))⟩
  rintro ⟨_, hb⟩
  have hd : fewD m acts fs = bif fewM m 10 then fewR acts else false := by rw [fewD, hb]; rfl
  rw [hd]
  (try conv=>whnf);repeat' (first|(apply And.intro<;>try conv=>whnf)|(intro h;try conv=>whnf)|apply True.intro|(apply WhenQ.mk;(try conv=>whnf);rotate_left;(try conv=>whnf);rotate_right)|with_reducible assumption|(refine PureFn.dcq (f := 29) rfl ?_;try conv=>whnf)|(refine PureFn.dcq (f := 30) rfl ?_;try conv=>whnf)|(refine ⟨_, _, h1, ?_, ?_⟩;(focus first|(refine ⟨?_, ?_, trivial⟩<;>first|exact PLe.refl _|exact PLe.nil)|exact trivial);try conv=>whnf)|(refine ⟨_, _, h2, ?_, ?_⟩;(focus first|(refine ⟨?_, trivial⟩<;>first|exact PLe.refl _|exact PLe.nil)|exact trivial);try conv=>whnf)|fail)
  exact .refl _
theorem lw_shallow (f : List Nd) (hl : f.length ≤ 1000) : PureFn Tryd.prog 11 [fpv f] (.bool (decide ((shC f : Int) ≤ 4))) := by
  refine PureFn.intro mixed (fn := Tryd.f11) rfl rfl rfl fun M w0 => ?_
  try conv=>whnf
  refine ⟨{ i : Nat // i ≤ f.length }, fun i => [(3, .pv (i64 (shC (f.take i.1)))), (6, .pv (fpv f)), (7, .pv (i64 (f.map Nd.pv).length)), (8, .pv (i64 i.1))], fun _ => 0, fun _ => [], fun i => f.length - i.1, ⟨⟨0, Nat.zero_le _⟩, (by refine Wk.of ?_ ?_ rfl rfl rfl<;>repeat' (first|exact trivial|exact WkD.same _|refine ⟨?_, ?_⟩|fail))⟩, ?_⟩
  rintro ⟨i, hi⟩
  have hcl : shC (f.take i) ≤ 1000 := by
    have := List.length_filter_le dynN (f.take i)
    have h2 := List.length_take_le i f
    rw [shC]; omega
  (try conv=>whnf);repeat' (first|(apply And.intro<;>try conv=>whnf)|(intro h;try conv=>whnf)|(apply infoT;rfl)|fail)
  · have hi' : i < f.length := by simpa using lt_dec h
    have hn : f[i]? = some f[i] := List.getElem?_eq_getElem hi'
    have htk : f.take (i + 1) = f.take i ++ [f[i]] := List.take_succ_eq_append_getElem hi'
    have hs1 : dynN f[i] = true → shC (f.take (i + 1)) = shC (f.take i) + 1 := fun h => by rw [shC, shC, htk, List.filter_append, List.length_append, List.filter_cons, h]; rfl
    have hs0 : dynN f[i] = false → shC (f.take (i + 1)) = shC (f.take i) := fun h => by rw [shC, shC, htk, List.filter_append, List.length_append, List.filter_cons, h]; rfl
    refine ⟨_, _, rfl, idx_map hn, rfl, ?_⟩
    (try conv=>whnf);repeat' (first|(apply And.intro<;>try conv=>whnf)|(intro h;try conv=>whnf)|apply True.intro|(apply WhenQ.mk;(try conv=>whnf);rotate_left;(try conv=>whnf);rotate_right)|with_reducible assumption|(apply not_of;with_reducible assumption)|fail)
    · have h2 : dynN f[i] = true := h
      refine ⟨⟨i + 1, hi'⟩, by show f.length - (i + 1) < f.length - i; omega, ?_⟩
      (refine Wk.of ?_ ?_ rfl rfl rfl<;>repeat' (first|exact trivial|exact WkD.same _|refine WkD.int ?_|refine ⟨?_, ?_⟩|(refine wrapA ?_ ?_ ?_;(focus simp;done);(focus (try dsimp only);omega);(focus (try dsimp only);omega))|fail))
      rw [hs1 h2]
      show IntKind.wrap .i64 ((shC (f.take i) : Int) + 1) = _
      exact Go.Dv.wrap_small (by omega) (by omega)
    · have h2 : dynN f[i] = false := h
      refine ⟨⟨i + 1, hi'⟩, by show f.length - (i + 1) < f.length - i; omega, ?_⟩
      (refine Wk.of ?_ ?_ rfl rfl rfl<;>repeat' (first|exact trivial|exact WkD.same _|refine WkD.int ?_|refine ⟨?_, ?_⟩|(refine wrapA ?_ ?_ ?_;(focus simp;done);(focus (try dsimp only);omega);(focus (try dsimp only);omega))|fail))
      rw [hs0 h2]
  · have hi' : i = f.length := by have := ge_dec (m := (f.map Nd.pv).length) h (by simpa using hi); simpa using this
    subst hi'
    rw [List.take_length]
    exact .refl _
theorem goal_len (i : Nat) : (buildL (nI 3 (min (i : Int) 7)) []).length ≤ 1 ∧ (buildL (nI 10 0) [buildL (nI 3 (min (i : Int) 7)) []]).length ≤ 2 := by
  have key : ∀ p : Nat, p < 8 → (buildL (nI 3 p) []).length ≤ 1 ∧ (buildL (nI 10 0) [buildL (nI 3 p) []]).length ≤ 2 := by decide +kernel
  have e : min (i : Int) 7 = ((min i 7 : Nat) : Int) := by omega
  rw [e]
  exact key _ (by omega)
theorem merges_pure (m : Mo) (acts : List Act) (f g : List Nd) (hf : FitM m) (hA : ∀ a, a ∈ acts → Fit a) : PureFn Tryd.prog 5 [scnPV m acts, fpv f, fpv g] (.bool true) := by
  have hW := lw_few m acts [f, g] (by simp)
  have hAw := lw_awake28
  cases hfw : fewD m acts [f, g] with
  | false =>
    rw [hfw] at hW
    refine PureFn.introC [3] mixed (fn := Tryd.f5) rfl rfl rfl fun M w0 => ?_
    try conv=>whnf
    refine ⟨{ _x : Unit // False }, fun _ => [], fun _ => 0, fun _ => [], ?_, fun ⟨_, h⟩ => h.elim⟩
    have f1 : (!(bif !true then true else !false)) = false := rfl
    have f2 : (!(bif (bif !true then true else !false) then true else false)) = false := rfl
    have f3 : (bif (bif (bif !true then true else !false) then true else false) then true else false) = true := rfl
    (try conv=>whnf);repeat' (first|(apply And.intro<;>try conv=>whnf)|(intro h;first|with_reducible exact tf (by assumption) h|try conv=>whnf)|apply True.intro|(apply cellsI;rfl)|(apply whenOff;(focus with_reducible assumption);try conv=>whnf)|(apply WhenQ.mk;(try conv=>whnf);rotate_left;(try conv=>whnf);rotate_right)|with_reducible assumption|(apply not_of;with_reducible assumption)|(refine PureFn.dcq (f := 8) rfl ?_;try conv=>whnf)|(refine PureFn.dcq (f := 7) rfl ?_;try conv=>whnf)|(refine ⟨_, _, hW, ?_, ?_⟩;(focus first|(refine ⟨?_, ?_, trivial⟩<;>first|exact PLe.refl _|exact PLe.nil)|exact trivial);try conv=>whnf)|(refine ⟨_, _, hAw, ?_, ?_⟩;(focus first|(refine ⟨trivial⟩<;>first|exact PLe.refl _|exact PLe.nil)|exact trivial);try conv=>whnf)|fail)
    exact .refl _
  | true =>
    rw [hfw] at hW
    obtain ⟨hl, hfm, hfr⟩ := fewD_ok hfw
    have hlf := hl f (by simp)
    have hlg := hl g (by simp)
    obtain ⟨hal, haa⟩ := fewR_ok hfr
    have hS : ∀ a, a ∈ acts → SmA a := fun a ha => ⟨hA a ha, by have := (haa a ha).2.2.1; omega, fun l hl => by have := (haa a ha).2.2.2.2 l hl; omega⟩
    have hS1 := lw_shallow f (by omega)
    have hS2 := lw_shallow g (by omega)
    obtain ⟨hvl, hrl⟩ := fewM_len hfm
    refine PureFn.introC [3, 9, 10, 11] mixed (fn := Tryd.f5) rfl rfl rfl fun M w0 => ?_
    try conv=>whnf
    refine ⟨Unit, fun _ => [(1, .pv (fpv f)), (2, .pv (fpv g)), (3, .ref 0 0)], fun _ => 1, fun _ => [(0, .var (cellsS m acts))], ?_, ?_⟩
    · (try conv=>whnf);repeat' (first|(apply And.intro<;>try conv=>whnf)|(intro h;try conv=>whnf)|apply True.intro|(apply cellsI;rfl)|(apply WhenQ.mk;(try conv=>whnf);rotate_left;(try conv=>whnf);rotate_right)|with_reducible assumption|(apply not_of;with_reducible assumption)|(refine PureFn.dcq (f := 8) rfl ?_;try conv=>whnf)|(refine PureFn.dcq (f := 7) rfl ?_;try conv=>whnf)|(refine PureFn.dcq (f := 11) rfl ?_;try conv=>whnf)|(refine ⟨_, _, hW, ?_, ?_⟩;(focus first|(refine ⟨?_, ?_, trivial⟩<;>first|exact PLe.refl _|exact PLe.nil)|exact trivial);try conv=>whnf)|(refine ⟨_, _, hAw, ?_, ?_⟩;(focus first|(refine ⟨trivial⟩<;>first|exact PLe.refl _|exact PLe.nil)|exact trivial);try conv=>whnf)|(refine ⟨_, _, hS1, ?_, ?_⟩;(focus first|(refine ⟨?_, trivial⟩<;>first|exact PLe.refl _|exact PLe.nil)|exact trivial);try conv=>whnf)|(refine ⟨_, _, hS2, ?_, ?_⟩;(focus first|(refine ⟨?_, trivial⟩<;>first|exact PLe.refl _|exact PLe.nil)|exact trivial);try conv=>whnf)|fail)
      · exact .refl _
      · exact ⟨(), (by refine Wk.of ?_ ?_ rfl rfl rfl<;>repeat' (first|exact trivial|exact WkD.same _|exact WkO.same _ _ rfl|refine ⟨?_, ?_⟩|fail))⟩
    rintro ⟨⟩
    try conv=>whnf
    refine ⟨{ i : Nat // i ≤ m.val.length }, fun i => [(1, .pv (fpv f)), (2, .pv (fpv g)), (3, .ref 0 0), (36, .pv (.sl (m.val.map u64))), (37, .pv (i64 (m.val.map u64).length)), (38, .pv (i64 i.1))], fun _ => 1, fun _ => [(0, .var (cellsS m acts))], fun i => m.val.length - i.1, ⟨⟨0, Nat.zero_le _⟩, (by refine Wk.of ?_ ?_ rfl rfl rfl<;>repeat' (first|exact trivial|exact WkD.same _|exact WkO.same _ _ rfl|refine ⟨?_, ?_⟩|fail))⟩, ?_⟩
    rintro ⟨i, hi⟩
    obtain ⟨g1, g2⟩ := goal_len i
    have hF := fm_Fact (min (i : Int) 7)
    have hP := fm_Poss 0 (buildL (nI 3 (min (i : Int) 7)) [])
    (try conv=>whnf);repeat' (first|(apply And.intro<;>try conv=>whnf)|(intro h;try conv=>whnf)|(refine PureFn.dcq (f := 17) rfl ?_;try conv=>whnf)|(refine ⟨_, _, hF, ?_, ?_⟩;(focus first|(refine ⟨?_, trivial⟩<;>first|exact PLe.refl _|exact PLe.nil)|exact trivial);try conv=>whnf)|fail)
    · have hi' : i < m.val.length := by simpa using lt_dec h
      refine ⟨{ G : List Nd // G.length ≤ 10 }, fun G => [(1, .pv (fpv f)), (2, .pv (fpv g)), (3, .ref 0 0), (8, .pv (fpv G.1)), (36, .pv (.sl (m.val.map u64))), (37, .pv (i64 (m.val.map u64).length)), (38, .pv (i64 i))], fun _ => 1, fun _ => [(0, .var (cellsS m acts))], ?_, ?_⟩
      · (try conv=>whnf);repeat' (first|(apply And.intro<;>try conv=>whnf)|(intro h;try conv=>whnf)|(refine PureFn.dcq (f := 18) rfl ?_;try conv=>whnf)|(refine ⟨_, _, hP, ?_, ?_⟩;(focus first|(refine ⟨?_, ?_, trivial⟩<;>first|exact PLe.refl _|exact PLe.nil)|exact trivial);try conv=>whnf)|fail)
        · exact ⟨⟨_, Nat.le_trans g2 (by decide)⟩, (by refine Wk.of ?_ ?_ rfl rfl rfl<;>repeat' (first|exact trivial|exact WkD.same _|exact WkO.same _ _ rfl|refine ⟨?_, ?_⟩|fail))⟩
        · exact ⟨⟨_, Nat.le_trans g1 (by decide)⟩, (by refine Wk.of ?_ ?_ rfl rfl rfl<;>repeat' (first|exact trivial|exact WkD.same _|exact WkO.same _ _ rfl|refine ⟨?_, ?_⟩|fail))⟩
      rintro ⟨G, hG⟩
      have hme := fun a b => mer_eq (m := m) (acts := acts) hlf hlg hG a b
      have a1 := fm_Announce g G
      have a2 := fm_Announce f (buildL (n0 16) [g, G])
      have d1 := dy_Holds m acts (buildL (n0 16) [f, buildL (n0 16) [g, G]]) hf hS
      have a3 := fm_Announce f g
      have a4 := fm_And f (buildL (n0 16) [f, g])
      have a5 := fm_Announce (buildL (n0 5) [f, buildL (n0 16) [f, g]]) G
      have d2 := dy_Holds m acts (buildL (n0 16) [buildL (n0 5) [f, buildL (n0 16) [f, g]], G]) hf hS
      generalize dynI m acts (buildL (n0 16) [f, buildL (n0 16) [g, G]]) = X at hme d1
      generalize dynI m acts (buildL (n0 16) [buildL (n0 5) [f, buildL (n0 16) [f, g]], G]) = Y at hme d2
      obtain ⟨xa, xe⟩ := X
      obtain ⟨ya, ye⟩ := Y
      refine ⟨Unit, fun _ => [(1, .pv (fpv f)), (2, .pv (fpv g)), (3, .ref 0 0), (8, .pv (fpv G)), (9, .pv (u64 xa)), (10, .pv (.int .i64 xe)), (36, .pv (.sl (m.val.map u64))), (37, .pv (i64 (m.val.map u64).length)), (38, .pv (i64 i))], fun _ => 1, fun _ => [(0, .var (cellsS m acts))], ?_, ?_⟩
      · (try conv=>whnf);repeat' (first|(refine lin_plan (by kernel_rfl) ?_;try conv=>whnf)|(refine ⟨_, (by (conv=>whnf);exact a1), rfl, ?_⟩;try conv=>whnf)|(refine ⟨_, (by (conv=>whnf);exact a2), rfl, ?_⟩;try conv=>whnf)|(refine ⟨_, (by (conv=>whnf);exact d1), rfl, ?_⟩;try conv=>whnf)|fail)
        exact ⟨(), (by refine Wk.of ?_ ?_ rfl rfl rfl<;>repeat' (first|exact trivial|exact WkD.same _|exact WkO.same _ _ rfl|refine ⟨?_, ?_⟩|fail))⟩
      rintro ⟨⟩
      refine ⟨Unit, fun _ => [(1, .pv (fpv f)), (2, .pv (fpv g)), (3, .ref 0 0), (9, .pv (u64 xa)), (10, .pv (.int .i64 xe)), (11, .pv (u64 ya)), (12, .pv (.int .i64 ye)), (36, .pv (.sl (m.val.map u64))), (37, .pv (i64 (m.val.map u64).length)), (38, .pv (i64 i))], fun _ => 1, fun _ => [(0, .var (cellsS m acts))], ?_, ?_⟩
      · (try conv=>whnf);repeat' (first|(refine lin_plan (by kernel_rfl) ?_;try conv=>whnf)|(refine ⟨_, (by (conv=>whnf);exact a3), rfl, ?_⟩;try conv=>whnf)|(refine ⟨_, (by (conv=>whnf);exact a4), rfl, ?_⟩;try conv=>whnf)|(refine ⟨_, (by (conv=>whnf);exact a5), rfl, ?_⟩;try conv=>whnf)|(refine ⟨_, (by (conv=>whnf);exact d2), rfl, ?_⟩;try conv=>whnf)|fail)
        exact ⟨(), (by refine Wk.of ?_ ?_ rfl rfl rfl<;>repeat' (first|exact trivial|exact WkD.same _|exact WkO.same _ _ rfl|refine ⟨?_, ?_⟩|fail))⟩
      rintro ⟨⟩
      (try conv=>whnf);repeat' (first|(apply And.intro<;>try conv=>whnf)|(intro h;try conv=>whnf)|apply True.intro|(apply WhenQ.mk;(try conv=>whnf);rotate_left;(try conv=>whnf);rotate_right)|with_reducible assumption|fail)
      · exfalso
        have h1 : (bif (bif xe == 0 then ye == 0 else false) then (xa : Int) != (ya : Int) else false) = true := h
        have h2 : xe = 0 := by
          by_cases q : xe = 0
          · exact q
          · rw [show (xe == 0) = false by simpa using q] at h1; cases h1
        have h3 : ye = 0 := by
          by_cases q : ye = 0
          · exact q
          · rw [h2, show (ye == 0) = false by simpa using q] at h1; cases h1
        have h4 : xa = ya := hme h2 h3
        rw [h2, h3, h4] at h1
        simp at h1
      · exact ⟨⟨i + 1, hi'⟩, by show m.val.length - (i + 1) < m.val.length - i; omega, (by refine Wk.of ?_ ?_ rfl rfl rfl<;>repeat' (first|exact trivial|exact WkD.same _|exact WkO.same _ _ rfl|refine WkD.int ?_|refine ⟨?_, ?_⟩|(refine wrapA ?_ ?_ ?_;(focus simp;done);(focus (try dsimp only);omega);(focus (try dsimp only);omega))|fail))⟩
    · exact .refl _
end Go.Proofs.YtlaolpkgabknfaaDoor
set_option maxRecDepth 100000
set_option maxHeartbeats 4000000
namespace Go.Proofs.YtlaolpkgabknfaaDoor
open Go Go.Dv

theorem u_acts : Tryd.prog.underlying 29 = some (.slice 42) := by kernel_rfl
theorem u_scn : ∃ fs : Array Field, Tryd.prog.underlying 31 = some (.struct fs) ∧ fs.toList.map (·.type) = [25, 29] := ⟨_, rfl, by kernel_rfl⟩
theorem arg_scn {n : Nat} {p : PV} (h : TyA Tryd.prog (n + 9) 31 p) : ∃ (m : Mo) (acts : List Act), PLe p (scnPV m acts) ∧ FitM m ∧ ∀ a, a ∈ acts → Fit a := by
  obtain ⟨cs, h, rfl⟩ := h
  obtain ⟨fs0, hu0, hf0⟩ := u_scn
  have hm : mkE Tryd.prog 31 cs = .agg cs := by simp only [mkE, kindT, hu0]
  obtain ⟨cm, b, r1, rfl, h1, hb, m1⟩ := fs_cons hf0 (tyS (n := n + 8) hu0 h)
  obtain ⟨ca, d, r2, rfl, h2, hd, m2⟩ := fs_cons m1 hb
  have := fs_nil m2 hd
  subst this
  obtain ⟨fs, hu, hf⟩ := u_mod
  obtain ⟨a, b, r1, rfl, g1, hb, m1⟩ := fs_cons hf (tyS (n := n + 7) hu h1)
  obtain ⟨c, d, r2, rfl, g2, hd, m2⟩ := fs_cons m1 hb
  obtain ⟨e, g, r3, rfl, g3, hg, m3⟩ := fs_cons m2 hd
  have := fs_nil m3 hg
  subst this
  obtain ⟨w, rfl, _⟩ := int_of (n := n + 6) g1
  obtain ⟨val, q2, rfl, l2, hv⟩ := slice_of (n := n + 6) (g := u64) (Q := fun s => s < 2 ^ 64) u_rowT (u64_el (n := n + 5)) g2
  obtain ⟨rel, q3, rfl, l3, hr⟩ := slice_of (n := n + 6) (g := rowPV) (Q := fun r => ∀ s, s ∈ r → s < 2 ^ 64) u_relT (fun p hp => el_of (n := n + 5) u_rowT (u64_el (n := n + 4)) p hp) g3
  obtain ⟨acts, q4, rfl, l4, ha⟩ := slice_of (n := n + 7) (g := Act.pv) (Q := Fit) u_acts (fun p hp => arg_act (n := n) hp) h2
  refine ⟨⟨w, val, rel⟩, acts, ?_, ⟨hv, hr⟩, ha⟩
  rw [hm]
  exact PLe.aggs ⟨.refl _, l2, l3, l4, trivial⟩
theorem merges_args (ps : List PV) (hps : TyAll Tryd.prog 9 Tryd.f5.params.toList ps) : PureFn Tryd.prog 5 ps (.bool true) := by
  obtain ⟨p1, r1, rfl, h1, p2, r2, rfl, h2, p3, r3, rfl, h3, rfl⟩ := hps
  obtain ⟨m, acts, hm, hf, hA⟩ := arg_scn (n := 0) h1
  obtain ⟨f, hf2⟩ := arg_nodes (n := 6) h2
  obtain ⟨g, hg2⟩ := arg_nodes (n := 6) h3
  exact (merges_pure m acts f g hf hA).le ⟨hm, hf2, hg2, trivial⟩
end Go.Proofs.YtlaolpkgabknfaaDoor
set_option maxRecDepth 100000
set_option maxHeartbeats 4000000
namespace Go.Proofs.YtlaolpkgabknfaaDoor
open Go Go.Dv

theorem ndQ_plain {A F : Nat} {acts : List Act} {op : Int} (h : op = 4 ∨ op = 5 ∨ op = 7 ∨ op = 16) : ndQ A F acts op 0 0 0 = true := by
  have hA : (0 : Nat) < 2 ^ A := Nat.two_pow_pos A
  have hF : (0 : Nat) < 2 ^ F := Nat.two_pow_pos F
  rcases h with rfl | rfl | rfl | rfl <;>
  · unfold ndQ
    rw [Bool.and_eq_true, Bool.and_eq_true, Bool.and_eq_true]
    exact ⟨⟨⟨by decide, decide_eq_true hA⟩, decide_eq_true hF⟩, rfl⟩
theorem ndQ_fact {A F p : Nat} {acts : List Act} (h : p < F) : ndQ A F acts 3 (p : Int) 0 0 = true := by
  have hA : (0 : Nat) < 2 ^ A := Nat.two_pow_pos A
  unfold ndQ
  rw [Bool.and_eq_true, Bool.and_eq_true, Bool.and_eq_true]
  refine ⟨⟨⟨(by show decide ((frag 3).toNat &&& 207 = (frag 3).toNat) = true; decide), decide_eq_true hA⟩, decide_eq_true ?_⟩, rfl⟩
  show 2 ^ (p : Int).toNat < 2 ^ F
  rw [Int.toNat_natCast]
  exact Nat.pow_lt_pow_right (by decide) h
theorem ndQ_know {A F q : Nat} {acts : List Act} (h : q < A) : ndQ A F acts 9 (q : Int) 0 0 = true := by
  have hF : (0 : Nat) < 2 ^ F := Nat.two_pow_pos F
  unfold ndQ
  rw [Bool.and_eq_true, Bool.and_eq_true, Bool.and_eq_true]
  refine ⟨⟨⟨(by show decide ((frag 9).toNat &&& 207 = (frag 9).toNat) = true; decide), decide_eq_true ?_⟩, decide_eq_true hF⟩, rfl⟩
  show 2 ^ (q : Int).toNat < 2 ^ A
  rw [Int.toNat_natCast]
  exact Nat.pow_lt_pow_right (by decide) h
section
variable {m : Mo} {acts : List Act} {f g : List Nd} (lf : f.length ≤ 40) (lg : g.length ≤ 40)
/-- What is known once the law has its three sets. -/
structure LawB (m : Mo) (acts : List Act) (f g : List Nd) (n s x : Nat) : Prop where
  okd : OkD acts m n
  ch : chkD m acts = 0
  cf : check f = 0
  cg : check g = 0
  qf : allT (ndQ m.rel.length m.val.length acts) (root f) = true
  qg : allT (ndQ m.rel.length m.val.length acts) (root g) = true
  ds : dvT acts (root f) m = some s
  dx : dvT acts (.nd 16 0 0 0 (root f) (root g)) m = some x
include lf lg
theorem laws_base (h1 : (dynI m acts (buildL (n0 16) [f, g])).2 = 0) (h2 : (dynI m acts f).2 = 0) (h3 : (dynI m acts (buildL (n0 16) [f, buildL (n0 4) [g]])).2 = 0) :
    ∃ n s x, LawB m acts f g n s x ∧ dynI m acts (buildL (n0 16) [f, g]) = (x, 0) ∧ dynI m acts f = (s, 0) ∧ dynI m acts (buildL (n0 16) [f, buildL (n0 4) [g]]) = (notN n s ||| notN n x, 0) := by
  obtain ⟨r1, x, d1, e1⟩ := dyn_ok h1
  obtain ⟨r2, s, d2, e2⟩ := dyn_ok h2
  obtain ⟨r3, z, d3, e3⟩ := dyn_ok h3
  obtain ⟨n, hD, _⟩ := chkD_ok (reqD_iff.1 r1).1
  obtain ⟨cf, cg⟩ := build_inv2 (req_check r1)
  obtain ⟨q1, q2, q3⟩ := bin_any (op := 16) (by simp) cf cg (by omega)
  obtain ⟨p1, p2, p3⟩ := un_any (x := n0 4) rfl rfl rfl cg (fun k hk => by constructor <;> simp [n0, usesX, usesY, isAgent, isGroup] <;> omega) (by omega)
  obtain ⟨p4, p5, p6⟩ := bin_any (op := 16) (by simp) cf p1.check (by omega)
  obtain ⟨_, _, _, qf⟩ := can_reqD r2
  obtain ⟨_, _, _, q16⟩ := can_reqD r1
  rw [q2] at d1 q16
  rw [p5, p2] at d3
  rw [allT, Bool.and_eq_true, Bool.and_eq_true] at q16
  exact ⟨n, s, x, ⟨hD, (reqD_iff.1 r1).1, cf, cg, qf, q16.2, d2, d1⟩, e1, e2, by rw [e3, ann_not hD.okm d2 d1 d3]⟩
omit lg in
theorem laws_fact {n s x p : Nat} (B : LawB m acts f g n s x) (hp : p < m.val.length) : dynI m acts (buildL (n0 16) [f, buildL (nI 3 p) []]) = (notN n s ||| m.val.getD p 0, 0) := by
  have hfa := B.okd.okm.fa
  obtain ⟨c1, c2⟩ : check (buildL (nI 3 p) []) = 0 ∧ (buildL (nI 3 p) []).length ≤ 1 := by
    have : ∀ p : Nat, p < 8 → check (buildL (nI 3 p) []) = 0 ∧ (buildL (nI 3 p) []).length ≤ 1 := by decide +kernel
    exact this p (by omega)
  obtain ⟨q1, q2, q3⟩ := bin_any (op := 16) (by simp) B.cf c1 (by omega)
  refine ok_dyn (reqD_can B.ch q1 ?_) ?_
  · rw [q2, fact_root p (by omega), allT, ndQ_plain (.inr (.inr (.inr rfl))), B.qf, allT, ndQ_fact hp]; rfl
  · rw [q2, fact_root p (by omega)]
    exact ann_fact B.okd.okm B.ds hp
theorem laws_know {n s x q : Nat} (B : LawB m acts f g n s x) (hq : q < m.rel.length) : dynI m acts (buildL (n0 16) [f, buildL (nI 9 q) [g]]) = (notN n s ||| boxN n (m.rel.getD q []) x, 0) ∧
    dynI m acts (buildL (n0 7) [f, buildL (nI 9 q) [buildL (n0 16) [f, g]]]) = (notN n s ||| boxN n (m.rel.getD q []) x, 0) := by
  have hag := B.okd.okm.ag
  have hnn : m.n.toNat = n := by rw [B.okd.okm.nn, Int.toNat_natCast]
  have hok : ∀ k : Int, 1 ≤ k → OkNd { nI 9 (q : Int) with x := k - 1 } k := fun k hk => by constructor <;> simp [nI, usesX, usesY, isAgent, isGroup] <;> omega
  obtain ⟨k1, k2, k3⟩ := un_any (x := nI 9 q) rfl rfl rfl B.cg hok (by omega)
  obtain ⟨k4, k5, k6⟩ := bin_any (op := 16) (by simp) B.cf k1.check (by omega)
  obtain ⟨a1, a2, a3⟩ := bin_any (op := 16) (by simp) B.cf B.cg (by omega)
  obtain ⟨a4, a5, a6⟩ := un_any (x := nI 9 q) rfl rfl rfl a1.check hok (by omega)
  obtain ⟨a7, a8, a9⟩ := bin_any (op := 7) (by simp) B.cf a4.check (by omega)
  have r9 : ∀ {t : Tr}, Tr.nd (nI 9 (q : Int)).op (nI 9 (q : Int)).i (nI 9 (q : Int)).e (nI 9 (q : Int)).g t .none = .nd 9 (q : Int) 0 0 t .none := rfl
  rw [k2, r9] at k5
  rw [a2] at a5
  rw [a5, r9] at a8
  constructor
  · refine ok_dyn (reqD_can B.ch k4 ?_) ?_
    · rw [k5, allT, ndQ_plain (.inr (.inr (.inr rfl))), B.qf, allT, ndQ_know hq, B.qg]; rfl
    · rw [k5]
      exact ann_know B.okd.okm B.ds B.dx hq
  · refine ok_dyn (reqD_can B.ch a7 ?_) ?_
    · rw [a8, allT, ndQ_plain (.inr (.inr (.inl rfl))), B.qf, allT, ndQ_know hq, allT, allT, ndQ_plain (.inr (.inr (.inr rfl))), B.qf, B.qg]; rfl
    · rw [a8, dv_st rfl rfl, B.ds, dv_st rfl rfl, B.dx, show dvT acts .none m = some 0 from rfl]
      show some (notN m.n.toNat s ||| boxN m.n.toNat (m.rel.getD (q : Int).toNat []) x) = _
      rw [hnn, Int.toNat_natCast]
end
end Go.Proofs.YtlaolpkgabknfaaDoor
set_option maxRecDepth 100000
set_option maxHeartbeats 4000000
namespace Go.Proofs.YtlaolpkgabknfaaDoor
open Go Go.Dv

theorem rf_Few (f : List Nd) (n : Int) : PureFn Tryd.prog 24 [fpv f, .int .i64 n] (.bool (decide ((f.length : Int) ≤ n))) := by
  refine PureFn.intro mixed (fn := Tryd.f24) rfl rfl rfl fun M w0 => ?_
  have e : ((f.map Nd.pv).length : Int) = (f.length : Int) := by simp
  try conv=>whnf
  rw [← e]
  exact .refl _
end Go.Proofs.YtlaolpkgabknfaaDoor
set_option maxRecDepth 100000
set_option maxHeartbeats 8000000
namespace Go.Proofs.YtlaolpkgabknfaaDoor
open Go Go.Dv

theorem laws_pure (m : Mo) (acts : List Act) (f g : List Nd) (hf : FitM m) (hA : ∀ a, a ∈ acts → Fit a) : PureFn Tryd.prog 6 [scnPV m acts, fpv f, fpv g] (.bool true) := by
  have hW := lw_few m acts [f, g] (by simp)
  have hAw := lw_awake28
  cases hfw : fewD m acts [f, g] with
  | false =>
    rw [hfw] at hW
    refine PureFn.introC [3] mixed (fn := Tryd.f6) rfl rfl rfl fun M w0 => ?_
    try conv=>whnf
    refine ⟨{ _x : Unit // False }, fun _ => [], fun _ => 0, fun _ => [], ?_, fun ⟨_, h⟩ => h.elim⟩
    have f1 : (!(bif !true then true else !false)) = false := rfl
    have f2 : (!(bif (bif !true then true else !false) then true else false)) = false := rfl
    have f3 : (bif (bif (bif !true then true else !false) then true else false) then true else false) = true := rfl
    (try conv=>whnf);repeat' (first|(apply And.intro<;>try conv=>whnf)|(intro h;first|with_reducible exact tf (by assumption) h|try conv=>whnf)|apply True.intro|(apply cellsI;rfl)|(apply whenOff;(focus with_reducible assumption);try conv=>whnf)|(apply WhenQ.mk;(try conv=>whnf);rotate_left;(try conv=>whnf);rotate_right)|with_reducible assumption|(apply not_of;with_reducible assumption)|(refine PureFn.dcq (f := 8) rfl ?_;try conv=>whnf)|(refine PureFn.dcq (f := 7) rfl ?_;try conv=>whnf)|(refine ⟨_, _, hW, ?_, ?_⟩;(focus first|(refine ⟨?_, ?_, trivial⟩<;>first|exact PLe.refl _|exact PLe.nil)|exact trivial);try conv=>whnf)|(refine ⟨_, _, hAw, ?_, ?_⟩;(focus first|(refine ⟨trivial⟩<;>first|exact PLe.refl _|exact PLe.nil)|exact trivial);try conv=>whnf)|fail)
    exact .refl _
  | true =>
    rw [hfw] at hW
    obtain ⟨hl, hfm, hfr⟩ := fewD_ok hfw
    have hlf := hl f (by simp)
    have hlg := hl g (by simp)
    obtain ⟨hal, haa⟩ := fewR_ok hfr
    have hS : ∀ a, a ∈ acts → SmA a := fun a ha => ⟨hA a ha, by have := (haa a ha).2.2.1; omega, fun l hl => by have := (haa a ha).2.2.2.2 l hl; omega⟩
    have hS1 := lw_shallow f (by omega)
    have hS2 := lw_shallow g (by omega)
    obtain ⟨hvl, hrl⟩ := fewM_len hfm
    have hla := fun a b c => laws_base (m := m) (acts := acts) hlf hlg a b c
    have a1 := fm_Announce f g
    have d1 := dy_Holds m acts (buildL (n0 16) [f, g]) hf hS
    have d2 := dy_Holds m acts f hf hS
    have a3 := fm_Not g
    have a4 := fm_Announce f (buildL (n0 4) [g])
    have d3 := dy_Holds m acts (buildL (n0 16) [f, buildL (n0 4) [g]]) hf hS
    generalize dynI m acts (buildL (n0 16) [f, g]) = X at hla d1
    generalize dynI m acts f = Y at hla d2
    generalize dynI m acts (buildL (n0 16) [f, buildL (n0 4) [g]]) = Z at hla d3
    obtain ⟨xa, xe⟩ := X
    obtain ⟨ya, ye⟩ := Y
    obtain ⟨za, ze⟩ := Z
    refine PureFn.introC [3, 4, 5, 6, 8, 11, 17, 20, 26, 27, 30] mixed (fn := Tryd.f6) rfl rfl rfl fun M w0 => ?_
    try conv=>whnf
    refine ⟨Unit, fun _ => [(1, .pv (fpv f)), (2, .pv (fpv g)), (3, .ref 0 0)], fun _ => 1, fun _ => [(0, .var (cellsS m acts))], ?_, ?_⟩
    · (try conv=>whnf);repeat' (first|(apply And.intro<;>try conv=>whnf)|(intro h;try conv=>whnf)|apply True.intro|(apply cellsI;rfl)|(apply WhenQ.mk;(try conv=>whnf);rotate_left;(try conv=>whnf);rotate_right)|with_reducible assumption|(apply not_of;with_reducible assumption)|(refine PureFn.dcq (f := 8) rfl ?_;try conv=>whnf)|(refine PureFn.dcq (f := 7) rfl ?_;try conv=>whnf)|(refine PureFn.dcq (f := 11) rfl ?_;try conv=>whnf)|(refine ⟨_, _, hW, ?_, ?_⟩;(focus first|(refine ⟨?_, ?_, trivial⟩<;>first|exact PLe.refl _|exact PLe.nil)|exact trivial);try conv=>whnf)|(refine ⟨_, _, hAw, ?_, ?_⟩;(focus first|(refine ⟨trivial⟩<;>first|exact PLe.refl _|exact PLe.nil)|exact trivial);try conv=>whnf)|(refine ⟨_, _, hS1, ?_, ?_⟩;(focus first|(refine ⟨?_, trivial⟩<;>first|exact PLe.refl _|exact PLe.nil)|exact trivial);try conv=>whnf)|(refine ⟨_, _, hS2, ?_, ?_⟩;(focus first|(refine ⟨?_, trivial⟩<;>first|exact PLe.refl _|exact PLe.nil)|exact trivial);try conv=>whnf)|fail)
      · exact .refl _
      · exact ⟨(), (by refine Wk.of ?_ ?_ rfl rfl rfl<;>repeat' (first|exact trivial|exact WkD.same _|exact WkO.same _ _ rfl|refine ⟨?_, ?_⟩|fail))⟩
    rintro ⟨⟩
    refine ⟨Unit, fun _ => [(1, .pv (fpv f)), (2, .pv (fpv g)), (3, .ref 0 0), (7, .pv (u64 xa)), (8, .pv (.int .i64 xe))], fun _ => 1, fun _ => [(0, .var (cellsS m acts))], ?_, ?_⟩
    · (try conv=>whnf);repeat' (first|(refine lin_plan (by kernel_rfl) ?_;try conv=>whnf)|(refine ⟨_, (by (conv=>whnf);exact a1), rfl, ?_⟩;try conv=>whnf)|(refine ⟨_, (by (conv=>whnf);exact d1), rfl, ?_⟩;try conv=>whnf)|fail)
      exact ⟨(), (by refine Wk.of ?_ ?_ rfl rfl rfl<;>repeat' (first|exact trivial|exact WkD.same _|exact WkO.same _ _ rfl|refine ⟨?_, ?_⟩|fail))⟩
    rintro ⟨⟩
    refine ⟨Unit, fun _ => [(1, .pv (fpv f)), (2, .pv (fpv g)), (3, .ref 0 0), (7, .pv (u64 xa)), (8, .pv (.int .i64 xe)), (9, .pv (u64 ya)), (10, .pv (.int .i64 ye))], fun _ => 1, fun _ => [(0, .var (cellsS m acts))], ?_, ?_⟩
    · (try conv=>whnf);repeat' (first|(refine PureFn.dcq (f := 12) rfl ?_;try conv=>whnf)|(refine ⟨_, _, d2, ?_, ?_⟩;(focus first|(refine ⟨?_, ?_, ?_, trivial⟩<;>first|exact PLe.refl _|exact PLe.nil)|exact trivial);try conv=>whnf)|fail)
      exact ⟨(), (by refine Wk.of ?_ ?_ rfl rfl rfl<;>repeat' (first|exact trivial|exact WkD.same _|exact WkO.same _ _ rfl|refine ⟨?_, ?_⟩|fail))⟩
    rintro ⟨⟩
    refine ⟨Unit, fun _ => [(1, .pv (fpv f)), (2, .pv (fpv g)), (3, .ref 0 0), (7, .pv (u64 xa)), (8, .pv (.int .i64 xe)), (9, .pv (u64 ya)), (10, .pv (.int .i64 ye)), (11, .pv (u64 za)), (12, .pv (.int .i64 ze))], fun _ => 1, fun _ => [(0, .var (cellsS m acts))], ?_, ?_⟩
    · (try conv=>whnf);repeat' (first|(refine lin_plan (by kernel_rfl) ?_;try conv=>whnf)|(refine ⟨_, (by (conv=>whnf);exact a3), rfl, ?_⟩;try conv=>whnf)|(refine ⟨_, (by (conv=>whnf);exact a4), rfl, ?_⟩;try conv=>whnf)|(refine ⟨_, (by (conv=>whnf);exact d3), rfl, ?_⟩;try conv=>whnf)|fail)
      exact ⟨(), (by refine Wk.of ?_ ?_ rfl rfl rfl<;>repeat' (first|exact trivial|exact WkD.same _|exact WkO.same _ _ rfl|refine ⟨?_, ?_⟩|fail))⟩
    rintro ⟨⟩
    refine ⟨{ _x : Unit // xe = 0 ∧ ye = 0 ∧ ze = 0 }, fun _ => [(1, .pv (fpv f)), (2, .pv (fpv g)), (3, .ref 0 0), (7, .pv (u64 xa)), (9, .pv (u64 ya)), (11, .pv (u64 za))], fun _ => 1, fun _ => [(0, .var (cellsS m acts))], ?_, ?_⟩
    · (try conv=>whnf);repeat' (first|(apply And.intro<;>try conv=>whnf)|(intro h;try conv=>whnf)|apply True.intro|(apply WhenQ.mk;(try conv=>whnf);rotate_left;(try conv=>whnf);rotate_right)|with_reducible assumption|(apply not_of;with_reducible assumption)|fail)
      · exact .refl _
      · have hb : (bif (bif xe != 0 then true else ye != 0) then true else ze != 0) = false := h
        refine ⟨⟨(), ?_⟩, (by refine Wk.of ?_ ?_ rfl rfl rfl<;>repeat' (first|exact trivial|exact WkD.same _|exact WkO.same _ _ rfl|refine ⟨?_, ?_⟩|fail))⟩
        by_cases q1 : xe = 0
        · by_cases q2 : ye = 0
          · by_cases q3 : ze = 0
            · exact ⟨q1, q2, q3⟩
            · rw [show (ze != 0) = true by simpa using q3] at hb
              rw [show (xe != 0) = false by simpa using q1, show (ye != 0) = false by simpa using q2] at hb
              cases hb
          · rw [show (xe != 0) = false by simpa using q1, show (ye != 0) = true by simpa using q2] at hb
            cases hb
        · rw [show (xe != 0) = true by simpa using q1] at hb
          cases hb
    rintro ⟨_, h1, h2, h3⟩
    obtain ⟨n, s, x, B, q1, q2, q3⟩ := hla h1 h2 h3
    obtain ⟨rfl, _⟩ := Prod.mk.inj q1
    obtain ⟨rfl, _⟩ := Prod.mk.inj q2
    obtain ⟨rfl, _⟩ := Prod.mk.inj q3
    clear q1 q2 q3 hla
    have hO := B.okd.okm
    have hn64 := hO.n64
    have h64 := pow64_le hn64
    have hag := hO.ag
    have hfa := hO.fa
    have hAll := rm_All n hn64
    rw [show i64 n = .int .i64 m.n by rw [hO.nn]; rfl] at hAll
    have k1 : ∀ u : Nat, andNotU ((2 ^ n - 1 : Nat) : Int) (u : Int) = ((notN n u : Nat) : Int) := fun u => andNotU_all hn64
    have k2 : ∀ u v : Nat, v < 2 ^ n → orU (notN n u : Nat) (v : Nat) = ((notN n u ||| v : Nat) : Int) := fun u v hv => orU_nat (Nat.lt_of_lt_of_le (notN_lt n u) h64) (by omega)
    (try conv=>whnf);repeat' (first|(refine PureFn.dcq (f := 21) rfl ?_;try conv=>whnf)|(refine ⟨_, _, hAll, ?_, ?_⟩;(focus first|(refine ⟨?_, trivial⟩<;>first|exact PLe.refl _|exact PLe.nil)|exact trivial);try conv=>whnf)|fail)
    refine ⟨Unit, fun _ => [(1, .pv (fpv f)), (2, .pv (fpv g)), (3, .ref 0 0), (9, .pv (u64 ya)), (13, .pv (u64 (2 ^ n - 1)))], fun _ => 1, fun _ => [(0, .var (cellsS m acts))], ?_, ?_⟩
    · (try conv=>whnf);repeat' (first|(apply And.intro<;>try conv=>whnf)|(intro h;try conv=>whnf)|fail)
      · exfalso
        have hb : (((notN n ya ||| notN n xa : Nat) : Int) != orU (andNotU ((2 ^ n - 1 : Nat) : Int) (ya : Nat)) (andNotU ((2 ^ n - 1 : Nat) : Int) (xa : Nat))) = true := h
        rw [k1, k1, k2 _ _ (notN_lt n xa)] at hb
        simp at hb
      · exact ⟨(), (by refine Wk.of ?_ ?_ rfl rfl rfl<;>repeat' (first|exact trivial|exact WkD.same _|exact WkO.same _ _ rfl|refine ⟨?_, ?_⟩|fail))⟩
    rintro ⟨⟩
    refine ⟨Unit, fun _ => [(1, .pv (fpv f)), (2, .pv (fpv g)), (3, .ref 0 0)], fun _ => 1, fun _ => [(0, .var (cellsS m acts))], ?_, ?_⟩
    · try conv=>whnf
      refine ⟨{ i : Nat // i ≤ m.val.length }, fun i => [(1, .pv (fpv f)), (2, .pv (fpv g)), (3, .ref 0 0), (9, .pv (u64 ya)), (13, .pv (u64 (2 ^ n - 1))), (101, .pv (.sl (m.val.map u64))), (102, .pv (i64 (m.val.map u64).length)), (103, .pv (i64 i.1))], fun _ => 1, fun _ => [(0, .var (cellsS m acts))], fun i => m.val.length - i.1, ⟨⟨0, Nat.zero_le _⟩, (by refine Wk.of ?_ ?_ rfl rfl rfl<;>repeat' (first|exact trivial|exact WkD.same _|exact WkO.same _ _ rfl|refine ⟨?_, ?_⟩|fail))⟩, ?_⟩
      rintro ⟨i, hi⟩
      (try conv=>whnf);repeat' (first|(apply And.intro<;>try conv=>whnf)|(intro h;try conv=>whnf)|(apply infoT;rfl)|fail)
      · have hi' : i < m.val.length := by simpa using lt_dec h
        obtain ⟨v, hx, hxv⟩ : ∃ v, m.val[i]? = some v ∧ m.val.getD i 0 = v := ⟨_, getD_mem hi', rfl⟩
        have hvn := hO.vbits v (List.mem_iff_getElem?.2 ⟨i, hx⟩)
        have hge : decide ((i : Int) ≥ 8) = false := decide_eq_false (by omega)
        refine ⟨_, _, rfl, idx_map hx, rfl, ?_⟩
        (try conv=>whnf);repeat' (first|(apply And.intro<;>try conv=>whnf)|(intro h;first|with_reducible exact tf h (by assumption)|try conv=>whnf)|fail)
        have hF := fm_Fact (i : Int)
        have a5 := fm_Announce f (buildL (nI 3 i) [])
        have d4 := dy_Holds m acts (buildL (n0 16) [f, buildL (nI 3 i) []]) hf hS
        rw [laws_fact hlf B hi', hxv] at d4
        refine ⟨Unit, fun _ => [(1, .pv (fpv f)), (2, .pv (fpv g)), (3, .ref 0 0), (9, .pv (u64 ya)), (13, .pv (u64 (2 ^ n - 1))), (15, .pv (u64 v)), (16, .pv (u64 (notN n ya ||| v))), (17, .pv (.int .i64 0)), (101, .pv (.sl (m.val.map u64))), (102, .pv (i64 (m.val.map u64).length)), (103, .pv (i64 i))], fun _ => 1, fun _ => [(0, .var (cellsS m acts))], ?_, ?_⟩
        · (try conv=>whnf);repeat' (first|(refine lin_plan (by kernel_rfl) ?_;try conv=>whnf)|(refine ⟨_, (by (conv=>whnf);exact hF), rfl, ?_⟩;try conv=>whnf)|(refine ⟨_, (by (conv=>whnf);exact a5), rfl, ?_⟩;try conv=>whnf)|(refine ⟨_, (by (conv=>whnf);exact d4), rfl, ?_⟩;try conv=>whnf)|fail)
          exact ⟨(), (by refine Wk.of ?_ ?_ rfl rfl rfl<;>repeat' (first|exact trivial|exact WkD.same _|exact WkO.same _ _ rfl|refine ⟨?_, ?_⟩|fail))⟩
        rintro ⟨⟩
        (try conv=>whnf);repeat' (first|(apply And.intro<;>try conv=>whnf)|(intro h;try conv=>whnf)|apply True.intro|(apply WhenQ.mk;(try conv=>whnf);rotate_left;(try conv=>whnf);rotate_right)|with_reducible assumption|(apply not_of;with_reducible assumption)|fail)
        · exfalso
          have hb : (bif ((0 : Int) != 0) then true else ((notN n ya ||| v : Nat) : Int) != orU (andNotU ((2 ^ n - 1 : Nat) : Int) (ya : Nat)) (v : Nat)) = true := h
          rw [k1, k2 _ _ hvn] at hb
          simp at hb
        · exact ⟨⟨i + 1, hi'⟩, by show m.val.length - (i + 1) < m.val.length - i; omega, (by refine Wk.of ?_ ?_ rfl rfl rfl<;>repeat' (first|exact trivial|exact WkD.same _|exact WkO.same _ _ rfl|refine WkD.int ?_|refine ⟨?_, ?_⟩|(refine wrapA ?_ ?_ ?_;(focus simp;done);(focus (try dsimp only);omega);(focus (try dsimp only);omega))|fail))⟩
      · exact ⟨(), (by refine Wk.of ?_ ?_ rfl rfl rfl<;>repeat' (first|exact trivial|exact WkD.same _|exact WkO.same _ _ rfl|refine ⟨?_, ?_⟩|fail))⟩
    rintro ⟨⟩
    refine ⟨Unit, fun _ => [(1, .pv (fpv f))], fun _ => 1, fun _ => [(0, .var (cellsS m acts))], ?_, ?_⟩
    · try conv=>whnf
      refine ⟨{ i : Nat // i ≤ m.rel.length }, fun i => [(1, .pv (fpv f)), (2, .pv (fpv g)), (3, .ref 0 0), (136, .pv (.sl (m.rel.map rowPV))), (137, .pv (i64 (m.rel.map rowPV).length)), (138, .pv (i64 i.1))], fun _ => 1, fun _ => [(0, .var (cellsS m acts))], fun i => m.rel.length - i.1, ⟨⟨0, Nat.zero_le _⟩, (by refine Wk.of ?_ ?_ rfl rfl rfl<;>repeat' (first|exact trivial|exact WkD.same _|exact WkO.same _ _ rfl|refine ⟨?_, ?_⟩|fail))⟩, ?_⟩
      rintro ⟨i, hi⟩
      (try conv=>whnf);repeat' (first|(apply And.intro<;>try conv=>whnf)|(intro h;try conv=>whnf)|fail)
      · exfalso
        rename_i h0
        have h1 : i < m.rel.length := by simpa using lt_dec h0
        have h2 := of_decide_eq_true (show decide ((i : Int) ≥ 4) = true from h)
        omega
      · rename_i h0
        have hi' : i < m.rel.length := by simpa using lt_dec h0
        obtain ⟨K, hK⟩ : ∃ K, notN n ya ||| boxN n (m.rel.getD i []) xa = K := ⟨_, rfl⟩
        obtain ⟨w1, w2⟩ := laws_know hlf hlg B hi'
        rw [hK] at w1 w2
        have a5 := fm_Know (i : Int) g
        have a6 := fm_Announce f (buildL (nI 9 i) [g])
        have d5 := dy_Holds m acts (buildL (n0 16) [f, buildL (nI 9 i) [g]]) hf hS
        rw [w1] at d5
        have a7 := fm_Know (i : Int) (buildL (n0 16) [f, g])
        have a8 := fm_Imp f (buildL (nI 9 i) [buildL (n0 16) [f, g]])
        have d6 := dy_Holds m acts (buildL (n0 7) [f, buildL (nI 9 i) [buildL (n0 16) [f, g]]]) hf hS
        rw [w2] at d6
        refine ⟨Unit, fun _ => [(1, .pv (fpv f)), (2, .pv (fpv g)), (3, .ref 0 0), (18, .pv (i64 i)), (19, .pv (u64 K)), (20, .pv (.int .i64 0)), (136, .pv (.sl (m.rel.map rowPV))), (137, .pv (i64 (m.rel.map rowPV).length)), (138, .pv (i64 i))], fun _ => 1, fun _ => [(0, .var (cellsS m acts))], ?_, ?_⟩
        · (try conv=>whnf);repeat' (first|(refine lin_plan (by kernel_rfl) ?_;try conv=>whnf)|(refine ⟨_, (by (conv=>whnf);exact a5), rfl, ?_⟩;try conv=>whnf)|(refine ⟨_, (by (conv=>whnf);exact a6), rfl, ?_⟩;try conv=>whnf)|(refine ⟨_, (by (conv=>whnf);exact d5), rfl, ?_⟩;try conv=>whnf)|fail)
          exact ⟨(), (by refine Wk.of ?_ ?_ rfl rfl rfl<;>repeat' (first|exact trivial|exact WkD.same _|exact WkO.same _ _ rfl|refine ⟨?_, ?_⟩|fail))⟩
        rintro ⟨⟩
        refine ⟨Unit, fun _ => [(1, .pv (fpv f)), (2, .pv (fpv g)), (3, .ref 0 0), (19, .pv (u64 K)), (20, .pv (.int .i64 0)), (21, .pv (u64 K)), (22, .pv (.int .i64 0)), (136, .pv (.sl (m.rel.map rowPV))), (137, .pv (i64 (m.rel.map rowPV).length)), (138, .pv (i64 i))], fun _ => 1, fun _ => [(0, .var (cellsS m acts))], ?_, ?_⟩
        · (try conv=>whnf);repeat' (first|(refine lin_plan (by kernel_rfl) ?_;try conv=>whnf)|(refine ⟨_, (by (conv=>whnf);exact a1), rfl, ?_⟩;try conv=>whnf)|(refine ⟨_, (by (conv=>whnf);exact a7), rfl, ?_⟩;try conv=>whnf)|(refine ⟨_, (by (conv=>whnf);exact a8), rfl, ?_⟩;try conv=>whnf)|(refine ⟨_, (by (conv=>whnf);exact d6), rfl, ?_⟩;try conv=>whnf)|fail)
          exact ⟨(), (by refine Wk.of ?_ ?_ rfl rfl rfl<;>repeat' (first|exact trivial|exact WkD.same _|exact WkO.same _ _ rfl|refine ⟨?_, ?_⟩|fail))⟩
        rintro ⟨⟩
        (try conv=>whnf);repeat' (first|(apply And.intro<;>try conv=>whnf)|(intro h;try conv=>whnf)|apply True.intro|(apply WhenQ.mk;(try conv=>whnf);rotate_left;(try conv=>whnf);rotate_right)|with_reducible assumption|(apply not_of;with_reducible assumption)|fail)
        · exfalso
          have hb : (bif (bif ((0 : Int) != 0) then true else ((0 : Int) != 0)) then true else ((K : Int) != (K : Int))) = true := h
          simp at hb
        · exact ⟨⟨i + 1, hi'⟩, by show m.rel.length - (i + 1) < m.rel.length - i; omega, (by refine Wk.of ?_ ?_ rfl rfl rfl<;>repeat' (first|exact trivial|exact WkD.same _|exact WkO.same _ _ rfl|refine WkD.int ?_|refine ⟨?_, ?_⟩|(refine wrapA ?_ ?_ ?_;(focus simp;done);(focus (try dsimp only);omega);(focus (try dsimp only);omega))|fail))⟩
      · exact ⟨(), (by refine Wk.of ?_ ?_ rfl rfl rfl<;>repeat' (first|exact trivial|exact WkD.same _|exact WkO.same _ _ rfl|refine ⟨?_, ?_⟩|fail))⟩
    rintro ⟨⟩
    have hFw := rf_Few f 40
    (try conv=>whnf);repeat' (first|(refine PureFn.dcq (f := 24) rfl ?_;try conv=>whnf)|(refine ⟨_, _, hFw, ?_, ?_⟩;(focus first|(refine ⟨?_, ?_, trivial⟩<;>first|exact PLe.refl _|exact PLe.nil)|exact trivial);try conv=>whnf)|fail)
    rw [decide_eq_true (show ((f.length : Nat) : Int) ≤ 40 by omega)]
    exact .refl _
theorem laws_args (ps : List PV) (hps : TyAll Tryd.prog 9 Tryd.f6.params.toList ps) : PureFn Tryd.prog 6 ps (.bool true) := by
  obtain ⟨p1, r1, rfl, h1, p2, r2, rfl, h2, p3, r3, rfl, h3, rfl⟩ := hps
  obtain ⟨m, acts, hm, hf, hA⟩ := arg_scn (n := 0) h1
  obtain ⟨f, hf2⟩ := arg_nodes (n := 6) h2
  obtain ⟨g, hg2⟩ := arg_nodes (n := 6) h3
  exact (laws_pure m acts f g hf hA).le ⟨hm, hf2, hg2, trivial⟩
end Go.Proofs.YtlaolpkgabknfaaDoor
