/- Parts of the proof, one after the other: The dynamic language: the examples' model walked. The dynamic language: the examples of the law walked. The dynamic language: formulas whose operands are formulas; what the law DynamicMerges asks (plain). The dynamic language: the law DynamicMerges walked. The dynamic language: scenes as arguments. The dynamic language: what the laws DynamicPublic, DynamicEvents ask (plain). The dynamic language: a static formula holds where the checker says (plain). The dynamic language: Check of the reference walked. The dynamic language: the law DynamicStatic walked. -/
import Derived.Test.YtlaolpkgabknfaaGreatDoorM9
set_option maxRecDepth 100000
set_option maxHeartbeats 8000000
namespace Go.Proofs.YtlaolpkgabknfaaGreatDoor
open Go Go.Dv

def hatM : Mo := ⟨4, [10, 12], [[3, 3, 12, 12], [5, 10, 5, 10]]⟩
def hatH : Nat → List (Nat × DObj)
  | 0 => [(0, .var [.pv (i64 0), .pv .nil, .pv .nil]), (1, .var [.buf 3 0, .buf 4 0]), (2, .var [.pv (i64 4), .pv (.sl [u64 10, u64 12]), .vbuf 1 2]), (3, .arr 1 []), (4, .arr 1 [])]
  | 1 => [(0, .var [.pv (i64 0), .pv .nil, .pv .nil]), (1, .var [.buf 3 1, .buf 4 1]), (2, .var [.pv (i64 4), .pv (.sl [u64 10, u64 12]), .vbuf 1 2]), (3, .arr 1 [u64 3]), (4, .arr 1 [u64 5])]
  | 2 => [(0, .var [.pv (i64 0), .pv .nil, .pv .nil]), (1, .var [.buf 3 2, .buf 4 2]), (2, .var [.pv (i64 4), .pv (.sl [u64 10, u64 12]), .vbuf 1 2]), (3, .arr 1 [u64 3, u64 3]), (4, .arr 1 [u64 5, u64 10])]
  | 3 => [(0, .var [.pv (i64 0), .pv .nil, .pv .nil]), (1, .var [.buf 3 3, .buf 4 3]), (2, .var [.pv (i64 4), .pv (.sl [u64 10, u64 12]), .vbuf 1 2]), (3, .arr 1 [u64 3, u64 3, u64 12]), (4, .arr 1 [u64 5, u64 10, u64 5])]
  | _ => [(0, .var [.pv (i64 0), .pv .nil, .pv .nil]), (1, .var [.buf 3 4, .buf 4 4]), (2, .var [.pv (i64 4), .pv (.sl [u64 10, u64 12]), .vbuf 1 2]), (3, .arr 1 [u64 3, u64 3, u64 12, u64 12]), (4, .arr 1 [u64 5, u64 10, u64 5, u64 10])]
theorem lw_hats : PureFn Tryz.prog 29 [] hatM.pv := by
  refine PureFn.introC [6, 7] mixed (fn := Tryz.f29) rfl rfl rfl fun M w0 => ?_
  (try conv=>whnf);repeat' (first|(apply And.intro<;>try conv=>whnf)|(apply cellsI;rfl)|(apply Or.inr;refine ⟨rfl, (by decide), rfl, ?_⟩;try conv=>whnf)|fail)
  · rfl
  · show (0 : Int) ≤ 2; decide
  · show (2 : Int) ≤ ((4294967296 : Nat) : Int); decide
  refine ⟨{ i : Nat // i ≤ 4 }, fun i => [(0, .ref 0 0), (1, .ref 2 0), (6, .pv (i64 i.1))], fun _ => 5, fun i => hatH i.1, fun i => 4 - i.1, ⟨⟨0, Nat.zero_le _⟩, (by refine Wk.of ?_ ?_ rfl rfl rfl<;>repeat' (first|exact trivial|exact WkD.same _|exact WkO.same _ _ rfl|exact WkD.new' rfl rfl rfl|exact WkO.new _ _ rfl|refine WkO.vars rfl ?_|exact rfl|refine ⟨?_, ?_⟩|fail))⟩, ?_⟩
  rintro ⟨i, hi⟩
  rcases i with _ | _ | _ | _ | _ | i
  · (try conv=>whnf);repeat' (first|(apply And.intro<;>try conv=>whnf)|(intro h;try conv=>whnf)|(apply bleI;rfl)|fail)
    · refine ⟨Unit, fun _ => [(0, .ref 0 0), (1, .ref 2 0), (6, .pv (i64 0))], fun _ => 5, fun _ => hatH 1, ?_, ?_⟩
      · try conv=>whnf
        refine ⟨Unit, fun _ => [(0, .ref 0 0), (1, .ref 2 0), (2, .pv (i64 0)), (6, .pv (i64 0))], fun _ => 5, fun _ => [(0, .var [.pv (i64 0), .pv .nil, .pv .nil]), (1, .var [.buf 3 1, .buf 4 0]), (2, .var [.pv (i64 4), .pv (.sl [u64 10, u64 12]), .vbuf 1 2]), (3, .arr 1 [u64 3]), (4, .arr 1 [])], ?_, ?_⟩
        · try conv=>whnf
          refine ⟨.one 2 (.one 3 (.one 4 (.one 5 (.one 6 (.one 7 (.one 8 (.one 9 (.one 10 (.one 11 (.one 12 (.two 0 (.two 1 (.one 13 (.one 14 (.one 15 .done))) 13 (.one 1 (.one 14 (.one 15 .done)))) 13 (.one 0 (.one 1 (.one 14 (.one 15 .done))))))))))))))), [13, 15], by kernel_rfl, ?_⟩
          (try conv=>whnf);repeat' (first|(apply And.intro<;>try conv=>whnf)|(apply infoT;rfl)|(apply cellsI;rfl)|(apply szI;rfl)|(refine ⟨0, rfl, Nat.le_of_ble_eq_true rfl, ?_⟩;try conv=>whnf)|fail)
          all_goals first | exact rfl | (show (0 : Int) ≤ _; exact of_decide_eq_true (by kernel_rfl)) | exact Nat.le_of_ble_eq_true rfl | (refine ⟨(), ?_⟩; (refine Wk.of ?_ ?_ rfl rfl rfl<;>repeat' (first|exact trivial|exact WkD.same _|exact WkO.same _ _ rfl|refine ⟨?_, ?_⟩|fail)); try exact WkO.same _ _ (by kernel_rfl))
        rintro ⟨⟩
        try conv=>whnf
        refine ⟨.one 2 (.one 3 (.one 4 (.one 5 (.one 6 (.one 7 (.one 8 (.one 9 (.one 10 (.one 11 (.one 12 (.two 0 (.two 1 (.one 13 (.one 14 (.one 15 .done))) 13 (.one 1 (.one 14 (.one 15 .done)))) 13 (.one 0 (.one 1 (.one 14 (.one 15 .done))))))))))))))), [13, 15], by kernel_rfl, ?_⟩
        (try conv=>whnf);repeat' (first|(apply And.intro<;>try conv=>whnf)|(apply infoT;rfl)|(apply cellsI;rfl)|(apply szI;rfl)|(refine ⟨1, rfl, Nat.le_of_ble_eq_true rfl, ?_⟩;try conv=>whnf)|fail)
        all_goals first | exact rfl | (show (0 : Int) ≤ _; exact of_decide_eq_true (by kernel_rfl)) | exact Nat.le_of_ble_eq_true rfl | (refine ⟨(), ?_⟩; (refine Wk.of ?_ ?_ rfl rfl rfl<;>repeat' (first|exact trivial|exact WkD.same _|exact WkO.same _ _ rfl|refine ⟨?_, ?_⟩|fail)); try exact WkO.same _ _ (by kernel_rfl))
      rintro ⟨⟩
      try conv=>whnf
      exact ⟨⟨1, by decide⟩, (by show (_ : Nat) < _; exact Nat.le_of_ble_eq_true rfl), (by refine Wk.of ?_ ?_ rfl rfl rfl<;>repeat' (first|exact trivial|exact WkD.same _|exact WkO.same _ _ rfl|refine ⟨?_, ?_⟩|fail))⟩
    all_goals exact Bool.noConfusion (show true = false from h)
  · (try conv=>whnf);repeat' (first|(apply And.intro<;>try conv=>whnf)|(intro h;try conv=>whnf)|(apply bleI;rfl)|fail)
    · refine ⟨Unit, fun _ => [(0, .ref 0 0), (1, .ref 2 0), (6, .pv (i64 1))], fun _ => 5, fun _ => hatH 2, ?_, ?_⟩
      · try conv=>whnf
        refine ⟨Unit, fun _ => [(0, .ref 0 0), (1, .ref 2 0), (2, .pv (i64 1)), (6, .pv (i64 1))], fun _ => 5, fun _ => [(0, .var [.pv (i64 0), .pv .nil, .pv .nil]), (1, .var [.buf 3 2, .buf 4 1]), (2, .var [.pv (i64 4), .pv (.sl [u64 10, u64 12]), .vbuf 1 2]), (3, .arr 1 [u64 3, u64 3]), (4, .arr 1 [u64 5])], ?_, ?_⟩
        · try conv=>whnf
          refine ⟨.one 2 (.one 3 (.one 4 (.one 5 (.one 6 (.one 7 (.one 8 (.one 9 (.one 10 (.one 11 (.one 12 (.two 0 (.two 1 (.one 13 (.one 14 (.one 15 .done))) 13 (.one 1 (.one 14 (.one 15 .done)))) 13 (.one 0 (.one 1 (.one 14 (.one 15 .done))))))))))))))), [13, 15], by kernel_rfl, ?_⟩
          (try conv=>whnf);repeat' (first|(apply And.intro<;>try conv=>whnf)|(apply infoT;rfl)|(apply cellsI;rfl)|(apply szI;rfl)|(refine ⟨0, rfl, Nat.le_of_ble_eq_true rfl, ?_⟩;try conv=>whnf)|fail)
          all_goals first | exact rfl | (show (0 : Int) ≤ _; exact of_decide_eq_true (by kernel_rfl)) | exact Nat.le_of_ble_eq_true rfl | (refine ⟨(), ?_⟩; (refine Wk.of ?_ ?_ rfl rfl rfl<;>repeat' (first|exact trivial|exact WkD.same _|exact WkO.same _ _ rfl|refine ⟨?_, ?_⟩|fail)); try exact WkO.same _ _ (by kernel_rfl))
        rintro ⟨⟩
        try conv=>whnf
        refine ⟨.one 2 (.one 3 (.one 4 (.one 5 (.one 6 (.one 7 (.one 8 (.one 9 (.one 10 (.one 11 (.one 12 (.two 0 (.two 1 (.one 13 (.one 14 (.one 15 .done))) 13 (.one 1 (.one 14 (.one 15 .done)))) 13 (.one 0 (.one 1 (.one 14 (.one 15 .done))))))))))))))), [13, 15], by kernel_rfl, ?_⟩
        (try conv=>whnf);repeat' (first|(apply And.intro<;>try conv=>whnf)|(apply infoT;rfl)|(apply cellsI;rfl)|(apply szI;rfl)|(refine ⟨1, rfl, Nat.le_of_ble_eq_true rfl, ?_⟩;try conv=>whnf)|fail)
        all_goals first | exact rfl | (show (0 : Int) ≤ _; exact of_decide_eq_true (by kernel_rfl)) | exact Nat.le_of_ble_eq_true rfl | (refine ⟨(), ?_⟩; (refine Wk.of ?_ ?_ rfl rfl rfl<;>repeat' (first|exact trivial|exact WkD.same _|exact WkO.same _ _ rfl|refine ⟨?_, ?_⟩|fail)); try exact WkO.same _ _ (by kernel_rfl))
      rintro ⟨⟩
      try conv=>whnf
      exact ⟨⟨2, by decide⟩, (by show (_ : Nat) < _; exact Nat.le_of_ble_eq_true rfl), (by refine Wk.of ?_ ?_ rfl rfl rfl<;>repeat' (first|exact trivial|exact WkD.same _|exact WkO.same _ _ rfl|refine ⟨?_, ?_⟩|fail))⟩
    all_goals exact Bool.noConfusion (show true = false from h)
  · (try conv=>whnf);repeat' (first|(apply And.intro<;>try conv=>whnf)|(intro h;try conv=>whnf)|(apply bleI;rfl)|fail)
    · refine ⟨Unit, fun _ => [(0, .ref 0 0), (1, .ref 2 0), (6, .pv (i64 2))], fun _ => 5, fun _ => hatH 3, ?_, ?_⟩
      · try conv=>whnf
        refine ⟨Unit, fun _ => [(0, .ref 0 0), (1, .ref 2 0), (2, .pv (i64 2)), (6, .pv (i64 2))], fun _ => 5, fun _ => [(0, .var [.pv (i64 0), .pv .nil, .pv .nil]), (1, .var [.buf 3 3, .buf 4 2]), (2, .var [.pv (i64 4), .pv (.sl [u64 10, u64 12]), .vbuf 1 2]), (3, .arr 1 [u64 3, u64 3, u64 12]), (4, .arr 1 [u64 5, u64 10])], ?_, ?_⟩
        · try conv=>whnf
          refine ⟨.one 2 (.one 3 (.one 4 (.one 5 (.one 6 (.one 7 (.one 8 (.one 9 (.one 10 (.one 11 (.one 12 (.two 0 (.two 1 (.one 13 (.one 14 (.one 15 .done))) 13 (.one 1 (.one 14 (.one 15 .done)))) 13 (.one 0 (.one 1 (.one 14 (.one 15 .done))))))))))))))), [13, 15], by kernel_rfl, ?_⟩
          (try conv=>whnf);repeat' (first|(apply And.intro<;>try conv=>whnf)|(apply infoT;rfl)|(apply cellsI;rfl)|(apply szI;rfl)|(refine ⟨0, rfl, Nat.le_of_ble_eq_true rfl, ?_⟩;try conv=>whnf)|fail)
          all_goals first | exact rfl | (show (0 : Int) ≤ _; exact of_decide_eq_true (by kernel_rfl)) | exact Nat.le_of_ble_eq_true rfl | (refine ⟨(), ?_⟩; (refine Wk.of ?_ ?_ rfl rfl rfl<;>repeat' (first|exact trivial|exact WkD.same _|exact WkO.same _ _ rfl|refine ⟨?_, ?_⟩|fail)); try exact WkO.same _ _ (by kernel_rfl))
        rintro ⟨⟩
        try conv=>whnf
        refine ⟨.one 2 (.one 3 (.one 4 (.one 5 (.one 6 (.one 7 (.one 8 (.one 9 (.one 10 (.one 11 (.one 12 (.two 0 (.two 1 (.one 13 (.one 14 (.one 15 .done))) 13 (.one 1 (.one 14 (.one 15 .done)))) 13 (.one 0 (.one 1 (.one 14 (.one 15 .done))))))))))))))), [13, 15], by kernel_rfl, ?_⟩
        (try conv=>whnf);repeat' (first|(apply And.intro<;>try conv=>whnf)|(apply infoT;rfl)|(apply cellsI;rfl)|(apply szI;rfl)|(refine ⟨1, rfl, Nat.le_of_ble_eq_true rfl, ?_⟩;try conv=>whnf)|fail)
        all_goals first | exact rfl | (show (0 : Int) ≤ _; exact of_decide_eq_true (by kernel_rfl)) | exact Nat.le_of_ble_eq_true rfl | (refine ⟨(), ?_⟩; (refine Wk.of ?_ ?_ rfl rfl rfl<;>repeat' (first|exact trivial|exact WkD.same _|exact WkO.same _ _ rfl|refine ⟨?_, ?_⟩|fail)); try exact WkO.same _ _ (by kernel_rfl))
      rintro ⟨⟩
      try conv=>whnf
      exact ⟨⟨3, by decide⟩, (by show (_ : Nat) < _; exact Nat.le_of_ble_eq_true rfl), (by refine Wk.of ?_ ?_ rfl rfl rfl<;>repeat' (first|exact trivial|exact WkD.same _|exact WkO.same _ _ rfl|refine ⟨?_, ?_⟩|fail))⟩
    all_goals exact Bool.noConfusion (show true = false from h)
  · (try conv=>whnf);repeat' (first|(apply And.intro<;>try conv=>whnf)|(intro h;try conv=>whnf)|(apply bleI;rfl)|fail)
    · refine ⟨Unit, fun _ => [(0, .ref 0 0), (1, .ref 2 0), (6, .pv (i64 3))], fun _ => 5, fun _ => hatH 4, ?_, ?_⟩
      · try conv=>whnf
        refine ⟨Unit, fun _ => [(0, .ref 0 0), (1, .ref 2 0), (2, .pv (i64 3)), (6, .pv (i64 3))], fun _ => 5, fun _ => [(0, .var [.pv (i64 0), .pv .nil, .pv .nil]), (1, .var [.buf 3 4, .buf 4 3]), (2, .var [.pv (i64 4), .pv (.sl [u64 10, u64 12]), .vbuf 1 2]), (3, .arr 1 [u64 3, u64 3, u64 12, u64 12]), (4, .arr 1 [u64 5, u64 10, u64 5])], ?_, ?_⟩
        · try conv=>whnf
          refine ⟨.one 2 (.one 3 (.one 4 (.one 5 (.one 6 (.one 7 (.one 8 (.one 9 (.one 10 (.one 11 (.one 12 (.two 0 (.two 1 (.one 13 (.one 14 (.one 15 .done))) 13 (.one 1 (.one 14 (.one 15 .done)))) 13 (.one 0 (.one 1 (.one 14 (.one 15 .done))))))))))))))), [13, 15], by kernel_rfl, ?_⟩
          (try conv=>whnf);repeat' (first|(apply And.intro<;>try conv=>whnf)|(apply infoT;rfl)|(apply cellsI;rfl)|(apply szI;rfl)|(refine ⟨0, rfl, Nat.le_of_ble_eq_true rfl, ?_⟩;try conv=>whnf)|fail)
          all_goals first | exact rfl | (show (0 : Int) ≤ _; exact of_decide_eq_true (by kernel_rfl)) | exact Nat.le_of_ble_eq_true rfl | (refine ⟨(), ?_⟩; (refine Wk.of ?_ ?_ rfl rfl rfl<;>repeat' (first|exact trivial|exact WkD.same _|exact WkO.same _ _ rfl|refine ⟨?_, ?_⟩|fail)); try exact WkO.same _ _ (by kernel_rfl))
        rintro ⟨⟩
        try conv=>whnf
        refine ⟨.one 2 (.one 3 (.one 4 (.one 5 (.one 6 (.one 7 (.one 8 (.one 9 (.one 10 (.one 11 (.one 12 (.two 0 (.two 1 (.one 13 (.one 14 (.one 15 .done))) 13 (.one 1 (.one 14 (.one 15 .done)))) 13 (.one 0 (.one 1 (.one 14 (.one 15 .done))))))))))))))), [13, 15], by kernel_rfl, ?_⟩
        (try conv=>whnf);repeat' (first|(apply And.intro<;>try conv=>whnf)|(apply infoT;rfl)|(apply cellsI;rfl)|(apply szI;rfl)|(refine ⟨1, rfl, Nat.le_of_ble_eq_true rfl, ?_⟩;try conv=>whnf)|fail)
        all_goals first | exact rfl | (show (0 : Int) ≤ _; exact of_decide_eq_true (by kernel_rfl)) | exact Nat.le_of_ble_eq_true rfl | (refine ⟨(), ?_⟩; (refine Wk.of ?_ ?_ rfl rfl rfl<;>repeat' (first|exact trivial|exact WkD.same _|exact WkO.same _ _ rfl|refine ⟨?_, ?_⟩|fail)); try exact WkO.same _ _ (by kernel_rfl))
      rintro ⟨⟩
      try conv=>whnf
      exact ⟨⟨4, by decide⟩, (by show (_ : Nat) < _; exact Nat.le_of_ble_eq_true rfl), (by refine Wk.of ?_ ?_ rfl rfl rfl<;>repeat' (first|exact trivial|exact WkD.same _|exact WkO.same _ _ rfl|refine ⟨?_, ?_⟩|fail))⟩
    all_goals exact Bool.noConfusion (show true = false from h)
  · (try conv=>whnf);repeat' (first|(apply And.intro<;>try conv=>whnf)|(intro h;try conv=>whnf)|(apply bleI;rfl)|fail)
    · exact Bool.noConfusion (show false = true from h)
    all_goals first | exact rfl | exact .refl _
  · omega
end Go.Proofs.YtlaolpkgabknfaaGreatDoor
set_option maxRecDepth 100000
set_option maxHeartbeats 8000000
namespace Go.Proofs.YtlaolpkgabknfaaGreatDoor
open Go Go.Dv

def awP : List Nd := buildL (nI 3 0) []
def awQ : List Nd := buildL (nI 3 1) []
def awE : List Nd := buildL (n0 6) [awP, awQ]
def awK : List Nd := buildL (nI 9 0) [awP]
def awO (i : Int) (f : List Nd) : List Nd := buildL (n0 5) [buildL (n0 4) [buildL (nI 9 i) [f]], buildL (n0 4) [buildL (nI 9 i) [buildL (n0 4) [f]]]]
def awA : Act := pubA 2 awE
def aw1 : List Nd := buildL (n0 16) [awE, awK]
def aw2 : List Nd := buildL ⟨17, 0, 0, 0, 0, 0⟩ [awK]
def aw3 : List Nd := buildL (n0 16) [awE, buildL (n0 16) [buildL (n0 5) [awO 0 awP, awO 1 awQ], awK]]
theorem awk0 : pubI 2 awE = (awA, 0) := by kernel_rfl
theorem awk1 : dynPV (dynI hatM [] aw1) = .tup [u64 3, .int .i64 0] := by kernel_rfl
theorem awk2 : dynPV (dynI hatM [awA] aw2) = .tup [u64 3, .int .i64 0] := by kernel_rfl
theorem awk3 : dynPV (dynI hatM [] aw3) = .tup [u64 15, .int .i64 0] := by kernel_rfl
def awM : Mo := (runI hatM [awA] 1 [(0, 0)]).1
theorem awk4 : runPV (runI hatM [awA] 1 [(0, 0)]) = .tup [awM.pv, .int .i64 0, .int .i64 1, .int .i64 0] := by kernel_rfl
theorem awk4n : awM.n = 3 := by kernel_rfl
theorem awk5 : runPV (runI hatM [awA] 0 [(0, 0)]) = .tup [noMo.pv, .int .i64 0, .int .i64 0, .int .i64 11] := by kernel_rfl
theorem awk6 : dynPV (dynI hatM [] aw2) = .tup [u64 0, .int .i64 6] := by kernel_rfl
theorem awk7 : chkD hatM [awA] = 0 := by kernel_rfl
theorem hat_fit : FitM hatM := ⟨by intro s hs; simp [hatM] at hs; omega, by intro r hr s hs; simp [hatM] at hr; rcases hr with rfl | rfl <;> simp at hs <;> omega⟩
theorem awA_sm : ∀ a, a ∈ [awA] → SmA a := fun a ha => by
  rw [List.mem_singleton.1 ha]
  refine ⟨fun r hr s hs => ?_, by decide, by simp [awA, pubA]⟩
  rw [List.eq_of_mem_replicate (show r ∈ onesL 2 from hr)] at hs
  rw [List.mem_singleton.1 hs]; decide
theorem no_sm : ∀ a, a ∈ ([] : List Act) → SmA a := fun a ha => by cases ha
theorem lw_open (i : Int) (f : List Nd) : PureFn Tryz.prog 24 [.int .i64 i, fpv f] (fpv (awO i f)) := by
  refine PureFn.intro mixed (fn := Tryz.f24) rfl rfl rfl fun M w0 => ?_
  have h1 := fm_Know i f
  have h2 := fm_Not (buildL (nI 9 i) [f])
  have h3 := fm_Not f
  have h4 := fm_Know i (buildL (n0 4) [f])
  have h5 := fm_Not (buildL (nI 9 i) [buildL (n0 4) [f]])
  have h6 := fm_And (buildL (n0 4) [buildL (nI 9 i) [f]]) (buildL (n0 4) [buildL (nI 9 i) [buildL (n0 4) [f]]])
  (try conv=>whnf);repeat' (first|(refine PureFn.dcq (f := 27) rfl ?_;try conv=>whnf)|(refine PureFn.dcq (f := 26) rfl ?_;try conv=>whnf)|(refine PureFn.dcq (f := 25) rfl ?_;try conv=>whnf)|(refine ⟨_, _, h1, ?_, ?_⟩;(focus first|(refine ⟨?_, ?_, trivial⟩<;>first|exact PLe.refl _|exact PLe.nil)|exact trivial);try conv=>whnf)|(refine ⟨_, _, h2, ?_, ?_⟩;(focus first|(refine ⟨?_, trivial⟩<;>first|exact PLe.refl _|exact PLe.nil)|exact trivial);try conv=>whnf)|(refine ⟨_, _, h3, ?_, ?_⟩;(focus first|(refine ⟨?_, trivial⟩<;>first|exact PLe.refl _|exact PLe.nil)|exact trivial);try conv=>whnf)|(refine ⟨_, _, h4, ?_, ?_⟩;(focus first|(refine ⟨?_, ?_, trivial⟩<;>first|exact PLe.refl _|exact PLe.nil)|exact trivial);try conv=>whnf)|(refine ⟨_, _, h5, ?_, ?_⟩;(focus first|(refine ⟨?_, trivial⟩<;>first|exact PLe.refl _|exact PLe.nil)|exact trivial);try conv=>whnf)|(refine ⟨_, _, h6, ?_, ?_⟩;(focus first|(refine ⟨?_, ?_, trivial⟩<;>first|exact PLe.refl _|exact PLe.nil)|exact trivial);try conv=>whnf)|fail)
  exact .refl _
theorem lw_awake28 : PureFn Tryz.prog 7 [] (.bool true) := by
  have hH := lw_hats
  have hP : PureFn Tryz.prog 22 [.int .i64 0] (fpv awP) := fm_Fact 0
  have hQ : PureFn Tryz.prog 22 [.int .i64 1] (fpv awQ) := fm_Fact 1
  have hE : PureFn Tryz.prog 23 [fpv awP, fpv awQ] (fpv awE) := fm_Or awP awQ
  have hK : PureFn Tryz.prog 27 [.int .i64 0, fpv awP] (fpv awK) := fm_Know 0 awP
  have hA := ac_Public 2 awE
  rw [awk0] at hA
  have h1 : PureFn Tryz.prog 19 [fpv awE, fpv awK] (fpv aw1) := fm_Announce awE awK
  have d1 := dy_Holds hatM [] aw1 hat_fit no_sm
  rw [awk1] at d1
  have h2 : PureFn Tryz.prog 30 [.int .i64 0, .int .i64 0, fpv awK] (fpv aw2) := fm_Act 0 0 awK
  have d2 := dy_Holds hatM [awA] aw2 hat_fit awA_sm
  rw [awk2] at d2
  have o0 := lw_open 0 awP
  have o1 := lw_open 1 awQ
  have h3 := fm_And (awO 0 awP) (awO 1 awQ)
  have h4 := fm_Announce (buildL (n0 5) [awO 0 awP, awO 1 awQ]) awK
  have h5 : PureFn Tryz.prog 19 [fpv awE, fpv (buildL (n0 16) [buildL (n0 5) [awO 0 awP, awO 1 awQ], awK])] (fpv aw3) := fm_Announce awE _
  have d3 := dy_Holds hatM [] aw3 hat_fit no_sm
  rw [awk3] at d3
  have r1 := dy_Run hatM [awA] 1 [(0, 0)] hat_fit awA_sm (by decide)
  rw [awk4] at r1
  have r2 := dy_Run hatM [awA] 0 [(0, 0)] hat_fit awA_sm (by decide)
  rw [awk5] at r2
  have d4 := dy_Holds hatM [] aw2 hat_fit no_sm
  rw [awk6] at d4
  have c1 := dy_Check hatM [awA] hat_fit awA_sm
  rw [awk7] at c1
  refine PureFn.introC [2, 3, 4, 5, 6, 7, 8, 9, 10, 11, 12, 13] mixed (fn := Tryz.f7) rfl rfl rfl fun M w0 => ?_
  try conv=>whnf
  refine ⟨Unit, fun _ => [(1, .pv (fpv awP)), (2, .pv (fpv awQ))], fun _ => 0, fun _ => [], ?_, ?_⟩
  · (try conv=>whnf);repeat' (first|(refine PureFn.dcq (f := 22) rfl ?_;try conv=>whnf)|(refine ⟨_, _, hP, ?_, ?_⟩;(focus first|(refine ⟨?_, trivial⟩<;>first|exact PLe.refl _|exact PLe.nil)|exact trivial);try conv=>whnf)|(refine ⟨_, _, hQ, ?_, ?_⟩;(focus first|(refine ⟨?_, trivial⟩<;>first|exact PLe.refl _|exact PLe.nil)|exact trivial);try conv=>whnf)|fail)
    exact ⟨(), (by refine Wk.of ?_ ?_ rfl rfl rfl<;>repeat' (first|exact trivial|exact WkD.same _|refine ⟨?_, ?_⟩|fail))⟩
  rintro ⟨⟩
  refine ⟨Unit, fun _ => [(1, .pv (fpv awP)), (2, .pv (fpv awQ)), (3, .pv (fpv awE))], fun _ => 0, fun _ => [], ?_, ?_⟩
  · (try conv=>whnf);repeat' (first|(refine PureFn.dcq (f := 23) rfl ?_;try conv=>whnf)|(refine ⟨_, _, hE, ?_, ?_⟩;(focus first|(refine ⟨?_, ?_, trivial⟩<;>first|exact PLe.refl _|exact PLe.nil)|exact trivial);try conv=>whnf)|fail)
    exact ⟨(), (by refine Wk.of ?_ ?_ rfl rfl rfl<;>repeat' (first|exact trivial|exact WkD.same _|refine ⟨?_, ?_⟩|fail))⟩
  rintro ⟨⟩
  refine ⟨Unit, fun _ => [(1, .pv (fpv awP)), (2, .pv (fpv awQ)), (3, .pv (fpv awE)), (4, .clo 24 [] [])], fun _ => 0, fun _ => [], ?_, ?_⟩
  · try conv=>whnf
    exact ⟨(), (by refine Wk.of ?_ ?_ rfl rfl rfl<;>repeat' (first|exact trivial|exact WkD.same _|refine ⟨?_, ?_⟩|fail))⟩
  rintro ⟨⟩
  refine ⟨Unit, fun _ => [(1, .pv (fpv awP)), (2, .pv (fpv awQ)), (3, .pv (fpv awE)), (4, .clo 24 [] []), (5, .pv (fpv awK))], fun _ => 0, fun _ => [], ?_, ?_⟩
  · (try conv=>whnf);repeat' (first|(refine PureFn.dcq (f := 27) rfl ?_;try conv=>whnf)|(refine ⟨_, _, hK, ?_, ?_⟩;(focus first|(refine ⟨?_, ?_, trivial⟩<;>first|exact PLe.refl _|exact PLe.nil)|exact trivial);try conv=>whnf)|fail)
    exact ⟨(), (by refine Wk.of ?_ ?_ rfl rfl rfl<;>repeat' (first|exact trivial|exact WkD.same _|refine ⟨?_, ?_⟩|fail))⟩
  rintro ⟨⟩
  refine ⟨Unit, fun _ => [(1, .pv (fpv awP)), (2, .pv (fpv awQ)), (3, .pv (fpv awE)), (4, .clo 24 [] []), (5, .pv (fpv awK)), (6, .ref 0 0), (7, .pv (.int .i64 0))], fun _ => 1, fun _ => [(0, .var (actDV awA))], ?_, ?_⟩
  · (try conv=>whnf);repeat' (first|(refine PureFn.dcq (f := 28) rfl ?_;try conv=>whnf)|(refine ⟨_, _, hA, ?_, ?_⟩;(focus first|(refine ⟨?_, ?_, trivial⟩<;>first|exact PLe.refl _|exact PLe.nil)|exact trivial);try conv=>whnf)|fail)
    exact ⟨(), (by refine Wk.of ?_ ?_ rfl rfl rfl<;>repeat' (first|exact trivial|exact WkD.same _|exact WkO.same _ _ rfl|refine ⟨?_, ?_⟩|fail))⟩
  rintro ⟨⟩
  refine ⟨Unit, fun _ => [(1, .pv (fpv awP)), (2, .pv (fpv awQ)), (3, .pv (fpv awE)), (4, .clo 24 [] []), (5, .pv (fpv awK)), (7, .pv (.int .i64 0)), (8, .pv (actsPV [awA]))], fun _ => 0, fun _ => [], ?_, ?_⟩
  · (try conv=>whnf);repeat' (first|(apply And.intro<;>try conv=>whnf)|(apply cellsI;rfl)|fail)
    exact ⟨(), (by refine Wk.of ?_ ?_ rfl rfl rfl<;>repeat' (first|exact trivial|exact WkD.same _|refine ⟨?_, ?_⟩|fail))⟩
  rintro ⟨⟩
  refine ⟨Unit, fun _ => [(1, .pv (fpv awP)), (2, .pv (fpv awQ)), (3, .pv (fpv awE)), (4, .clo 24 [] []), (5, .pv (fpv awK)), (7, .pv (.int .i64 0)), (8, .pv (actsPV [awA])), (9, .pv (u64 3)), (10, .pv (.int .i64 0))], fun _ => 0, fun _ => [], ?_, ?_⟩
  · (try conv=>whnf);repeat' (first|(refine PureFn.dcq (f := 29) rfl ?_;try conv=>whnf)|(refine PureFn.dcq (f := 19) rfl ?_;try conv=>whnf)|(refine PureFn.dcq (f := 10) rfl ?_;try conv=>whnf)|(refine ⟨_, _, hH, ?_, ?_⟩;(focus first|(refine ⟨trivial⟩<;>first|exact PLe.refl _|exact PLe.nil)|exact trivial);try conv=>whnf)|(refine ⟨_, _, h1, ?_, ?_⟩;(focus first|(refine ⟨?_, ?_, trivial⟩<;>first|exact PLe.refl _|exact PLe.nil)|exact trivial);try conv=>whnf)|(refine ⟨_, _, d1, ?_, ?_⟩;(focus first|(refine ⟨?_, ?_, ?_, trivial⟩<;>first|exact PLe.refl _|exact PLe.nil)|exact trivial);try conv=>whnf)|fail)
    exact ⟨(), (by refine Wk.of ?_ ?_ rfl rfl rfl<;>repeat' (first|exact trivial|exact WkD.same _|refine ⟨?_, ?_⟩|fail))⟩
  rintro ⟨⟩
  refine ⟨Unit, fun _ => [(1, .pv (fpv awP)), (2, .pv (fpv awQ)), (3, .pv (fpv awE)), (4, .clo 24 [] []), (5, .pv (fpv awK)), (7, .pv (.int .i64 0)), (8, .pv (actsPV [awA])), (9, .pv (u64 3)), (10, .pv (.int .i64 0)), (11, .pv (u64 3)), (12, .pv (.int .i64 0))], fun _ => 0, fun _ => [], ?_, ?_⟩
  · (try conv=>whnf);repeat' (first|(refine PureFn.dcq (f := 29) rfl ?_;try conv=>whnf)|(refine PureFn.dcq (f := 30) rfl ?_;try conv=>whnf)|(refine PureFn.dcq (f := 10) rfl ?_;try conv=>whnf)|(refine ⟨_, _, hH, ?_, ?_⟩;(focus first|(refine ⟨trivial⟩<;>first|exact PLe.refl _|exact PLe.nil)|exact trivial);try conv=>whnf)|(refine ⟨_, _, h2, ?_, ?_⟩;(focus first|(refine ⟨?_, ?_, ?_, trivial⟩<;>first|exact PLe.refl _|exact PLe.nil)|exact trivial);try conv=>whnf)|(refine ⟨_, _, d2, ?_, ?_⟩;(focus first|(refine ⟨?_, ?_, ?_, trivial⟩<;>first|exact PLe.refl _|exact PLe.nil)|exact trivial);try conv=>whnf)|fail)
    exact ⟨(), (by refine Wk.of ?_ ?_ rfl rfl rfl<;>repeat' (first|exact trivial|exact WkD.same _|refine ⟨?_, ?_⟩|fail))⟩
  rintro ⟨⟩
  refine ⟨Unit, fun _ => [(1, .pv (fpv awP)), (2, .pv (fpv awQ)), (3, .pv (fpv awE)), (4, .clo 24 [] []), (5, .pv (fpv awK)), (7, .pv (.int .i64 0)), (8, .pv (actsPV [awA])), (9, .pv (u64 3)), (10, .pv (.int .i64 0)), (11, .pv (u64 3)), (12, .pv (.int .i64 0)), (13, .pv (u64 15)), (14, .pv (.int .i64 0))], fun _ => 0, fun _ => [], ?_, ?_⟩
  · (try conv=>whnf);repeat' (first|(refine PureFn.dcq (f := 29) rfl ?_;try conv=>whnf)|(refine PureFn.dcq (f := 24) rfl ?_;try conv=>whnf)|(refine PureFn.dcq (f := 25) rfl ?_;try conv=>whnf)|(refine PureFn.dcq (f := 19) rfl ?_;try conv=>whnf)|(refine PureFn.dcq (f := 10) rfl ?_;try conv=>whnf)|(refine ⟨_, _, hH, ?_, ?_⟩;(focus first|(refine ⟨trivial⟩<;>first|exact PLe.refl _|exact PLe.nil)|exact trivial);try conv=>whnf)|(refine ⟨_, _, o0, ?_, ?_⟩;(focus first|(refine ⟨?_, ?_, trivial⟩<;>first|exact PLe.refl _|exact PLe.nil)|exact trivial);try conv=>whnf)|(refine ⟨_, _, o1, ?_, ?_⟩;(focus first|(refine ⟨?_, ?_, trivial⟩<;>first|exact PLe.refl _|exact PLe.nil)|exact trivial);try conv=>whnf)|(refine ⟨_, _, h3, ?_, ?_⟩;(focus first|(refine ⟨?_, ?_, trivial⟩<;>first|exact PLe.refl _|exact PLe.nil)|exact trivial);try conv=>whnf)|(refine ⟨_, _, h4, ?_, ?_⟩;(focus first|(refine ⟨?_, ?_, trivial⟩<;>first|exact PLe.refl _|exact PLe.nil)|exact trivial);try conv=>whnf)|(refine ⟨_, _, h5, ?_, ?_⟩;(focus first|(refine ⟨?_, ?_, trivial⟩<;>first|exact PLe.refl _|exact PLe.nil)|exact trivial);try conv=>whnf)|(refine ⟨_, _, d3, ?_, ?_⟩;(focus first|(refine ⟨?_, ?_, ?_, trivial⟩<;>first|exact PLe.refl _|exact PLe.nil)|exact trivial);try conv=>whnf)|fail)
    exact ⟨(), (by refine Wk.of ?_ ?_ rfl rfl rfl<;>repeat' (first|exact trivial|exact WkD.same _|refine ⟨?_, ?_⟩|fail))⟩
  rintro ⟨⟩
  refine ⟨Unit, fun _ => [(1, .pv (fpv awP)), (2, .pv (fpv awQ)), (3, .pv (fpv awE)), (4, .clo 24 [] []), (5, .pv (fpv awK)), (7, .pv (.int .i64 0)), (8, .pv (actsPV [awA])), (9, .pv (u64 3)), (10, .pv (.int .i64 0)), (11, .pv (u64 3)), (12, .pv (.int .i64 0)), (13, .pv (u64 15)), (14, .pv (.int .i64 0)), (15, .ref 0 0), (16, .pv (.int .i64 0)), (17, .pv (.int .i64 1)), (18, .pv (.int .i64 0))], fun _ => 1, fun _ => [(0, .var (cellsM awM))], ?_, ?_⟩
  · (try conv=>whnf);repeat' (first|(apply And.intro<;>try conv=>whnf)|(apply cellsI;rfl)|(refine PureFn.dcq (f := 29) rfl ?_;try conv=>whnf)|(refine PureFn.dcq (f := 14) rfl ?_;try conv=>whnf)|(refine ⟨_, _, hH, ?_, ?_⟩;(focus first|(refine ⟨trivial⟩<;>first|exact PLe.refl _|exact PLe.nil)|exact trivial);try conv=>whnf)|(refine ⟨_, _, r1, ?_, ?_⟩;(focus first|(refine ⟨?_, ?_, ?_, ?_, trivial⟩<;>first|exact PLe.refl _|exact PLe.nil)|exact trivial);try conv=>whnf)|fail)
    exact ⟨(), (by refine Wk.of ?_ ?_ rfl rfl rfl<;>repeat' (first|exact trivial|exact WkD.same _|exact WkO.same _ _ rfl|refine ⟨?_, ?_⟩|fail))⟩
  rintro ⟨⟩
  refine ⟨Unit, fun _ => [(1, .pv (fpv awP)), (2, .pv (fpv awQ)), (3, .pv (fpv awE)), (4, .clo 24 [] []), (5, .pv (fpv awK)), (7, .pv (.int .i64 0)), (8, .pv (actsPV [awA])), (9, .pv (u64 3)), (10, .pv (.int .i64 0)), (11, .pv (u64 3)), (12, .pv (.int .i64 0)), (13, .pv (u64 15)), (14, .pv (.int .i64 0)), (15, .ref 0 0), (16, .pv (.int .i64 0)), (17, .pv (.int .i64 1)), (18, .pv (.int .i64 0)), (21, .pv (.int .i64 0)), (22, .pv (.int .i64 11))], fun _ => 1, fun _ => [(0, .var (cellsM awM))], ?_, ?_⟩
  · (try conv=>whnf);repeat' (first|(apply And.intro<;>try conv=>whnf)|(apply cellsI;rfl)|(refine PureFn.dcq (f := 29) rfl ?_;try conv=>whnf)|(refine PureFn.dcq (f := 14) rfl ?_;try conv=>whnf)|(refine ⟨_, _, hH, ?_, ?_⟩;(focus first|(refine ⟨trivial⟩<;>first|exact PLe.refl _|exact PLe.nil)|exact trivial);try conv=>whnf)|(refine ⟨_, _, r2, ?_, ?_⟩;(focus first|(refine ⟨?_, ?_, ?_, ?_, trivial⟩<;>first|exact PLe.refl _|exact PLe.nil)|exact trivial);try conv=>whnf)|fail)
    exact ⟨(), (by refine Wk.of ?_ ?_ rfl rfl rfl<;>repeat' (first|exact trivial|exact WkD.same _|exact WkO.same _ _ rfl|refine ⟨?_, ?_⟩|fail))⟩
  rintro ⟨⟩
  refine ⟨Unit, fun _ => [(1, .pv (fpv awP)), (2, .pv (fpv awQ)), (3, .pv (fpv awE)), (4, .clo 24 [] []), (5, .pv (fpv awK)), (7, .pv (.int .i64 0)), (8, .pv (actsPV [awA])), (9, .pv (u64 3)), (10, .pv (.int .i64 0)), (11, .pv (u64 3)), (12, .pv (.int .i64 0)), (13, .pv (u64 15)), (14, .pv (.int .i64 0)), (15, .ref 0 0), (16, .pv (.int .i64 0)), (17, .pv (.int .i64 1)), (18, .pv (.int .i64 0)), (21, .pv (.int .i64 0)), (22, .pv (.int .i64 11)), (24, .pv (.int .i64 6))], fun _ => 1, fun _ => [(0, .var (cellsM awM))], ?_, ?_⟩
  · (try conv=>whnf);repeat' (first|(refine PureFn.dcq (f := 29) rfl ?_;try conv=>whnf)|(refine PureFn.dcq (f := 30) rfl ?_;try conv=>whnf)|(refine PureFn.dcq (f := 10) rfl ?_;try conv=>whnf)|(refine ⟨_, _, hH, ?_, ?_⟩;(focus first|(refine ⟨trivial⟩<;>first|exact PLe.refl _|exact PLe.nil)|exact trivial);try conv=>whnf)|(refine ⟨_, _, h2, ?_, ?_⟩;(focus first|(refine ⟨?_, ?_, ?_, trivial⟩<;>first|exact PLe.refl _|exact PLe.nil)|exact trivial);try conv=>whnf)|(refine ⟨_, _, d4, ?_, ?_⟩;(focus first|(refine ⟨?_, ?_, ?_, trivial⟩<;>first|exact PLe.refl _|exact PLe.nil)|exact trivial);try conv=>whnf)|fail)
    exact ⟨(), (by refine Wk.of ?_ ?_ rfl rfl rfl<;>repeat' (first|exact trivial|exact WkD.same _|exact WkO.same _ _ rfl|refine ⟨?_, ?_⟩|fail))⟩
  rintro ⟨⟩
  have e3 : awM.n = 3 := awk4n
  (try conv=>whnf);repeat' (first|(apply And.intro<;>try conv=>whnf)|(intro h;try conv=>whnf)|apply True.intro|(apply WhenQ.mk;(try conv=>whnf);rotate_left;(try conv=>whnf);rotate_right)|with_reducible assumption|(refine PureFn.dcq (f := 29) rfl ?_;try conv=>whnf)|(refine PureFn.dcq (f := 12) rfl ?_;try conv=>whnf)|(refine ⟨_, _, hH, ?_, ?_⟩;(focus first|(refine ⟨trivial⟩<;>first|exact PLe.refl _|exact PLe.nil)|exact trivial);try conv=>whnf)|(refine ⟨_, _, c1, ?_, ?_⟩;(focus first|(refine ⟨?_, ?_, trivial⟩<;>first|exact PLe.refl _|exact PLe.nil)|exact trivial);try conv=>whnf)|fail)
  exact (fun (b : Bool) (h : b = true) => (show PLe (.bool b) (.bool true) from h ▸ .refl _)) _ (by kernel_rfl)
end Go.Proofs.YtlaolpkgabknfaaGreatDoor
set_option maxRecDepth 100000
set_option maxHeartbeats 4000000
namespace Go.Proofs.YtlaolpkgabknfaaGreatDoor
open Go Go.Dv

theorem check_nil : check [] ≠ 0 := by decide
theorem build_inv2 {x : Nd} {f g : List Nd} (h : check (buildL x [f, g]) = 0) : check f = 0 ∧ check g = 0 := by
  by_cases q : check f = 0
  · by_cases q2 : check g = 0
    · exact ⟨q, q2⟩
    · exfalso
      refine check_nil ?_
      have e : buildL x [f, g] = [] := by
        unfold buildL
        rw [show bfold 0 [f, g] (x, []) = none by rw [bfold, show (check f != 0) = false by simpa using q, cond_false, bfold, show (check g != 0) = true by simpa using q2]; rfl]
      rw [e] at h; exact h
  · exfalso
    refine check_nil ?_
    have e : buildL x [f, g] = [] := by
      unfold buildL
      rw [show bfold 0 [f, g] (x, []) = none by rw [bfold, show (check f != 0) = true by simpa using q]; rfl]
    rw [e] at h; exact h
/-- A formula that the checker takes. -/
theorem dyn_ok {m : Mo} {acts : List Act} {f : List Nd} (h : (dynI m acts f).2 = 0) : reqD m acts f = 0 ∧ ∃ s, dvT acts (root f) m = some s ∧ dynI m acts f = (s, 0) := by
  unfold dynI at h ⊢
  cases h0 : (reqD m acts f != 0) with
  | true => rw [h0] at h; simp only [cond_true] at h; rw [h] at h0; cases h0
  | false =>
    rw [h0] at h
    simp only [cond_false] at h ⊢
    refine ⟨by simpa using h0, ?_⟩
    cases hd : dvT acts (root f) m with
    | none => rw [hd] at h; cases h
    | some s => exact ⟨s, rfl, rfl⟩
theorem ok_dyn {m : Mo} {acts : List Act} {f : List Nd} {s : Nat} (h : reqD m acts f = 0) (hd : dvT acts (root f) m = some s) : dynI m acts f = (s, 0) := by
  rw [dynI, h, hd]; rfl
theorem req_check {m : Mo} {acts : List Act} {f : List Nd} (h : reqD m acts f = 0) : check f = 0 := (reqD_iff.1 h).2.1
/-- How many nodes are announcements or events. -/
def dynN (x : Nd) : Bool := bif x.op == 16 then true else x.op == 17
def shC (f : List Nd) : Nat := (f.filter dynN).length
end Go.Proofs.YtlaolpkgabknfaaGreatDoor
set_option maxRecDepth 100000
set_option maxHeartbeats 8000000
namespace Go.Proofs.YtlaolpkgabknfaaGreatDoor
open Go Go.Dv

def scnPV (m : Mo) (acts : List Act) : PV := .agg [.int .i64 m.n, .sl (m.val.map u64), .sl (m.rel.map rowPV), actsPV acts]
def cellsS (m : Mo) (acts : List Act) : List DV := [.pv (.int .i64 m.n), .pv (.sl (m.val.map u64)), .pv (.sl (m.rel.map rowPV)), .pv (actsPV acts)]
def longB (fs : List (List Nd)) : Bool := fs.any fun f => decide ((f.length : Int) > 40)
def fewD (m : Mo) (acts : List Act) (fs : List (List Nd)) : Bool := bif longB fs then false else bif fewM m 10 then fewR acts else false
theorem fewD_ok {m : Mo} {acts : List Act} {fs : List (List Nd)} (h : fewD m acts fs = true) : (∀ f, f ∈ fs → f.length ≤ 40) ∧ fewM m 10 = true ∧ fewR acts = true := by
  unfold fewD at h
  cases h1 : longB fs with
  | true => rw [h1] at h; cases h
  | false =>
    rw [h1, cond_false] at h
    cases h2 : fewM m 10 with
    | false => rw [h2] at h; cases h
    | true =>
      rw [h2, cond_true] at h
      refine ⟨fun f hf => ?_, rfl, h⟩
      have := List.any_eq_false.1 h1 f hf
      have := of_decide_eq_false (show decide ((f.length : Int) > 40) = false by simpa using this)
      omega
theorem lw_few (m : Mo) (acts : List Act) (fs : List (List Nd)) (hl : fs.length ≤ 1000) : PureFn Tryz.prog 8 [scnPV m acts, .sl (fs.map fpv)] (.bool (fewD m acts fs)) := by
  have h1 := rm_Few m 10
  have h2 := rd_Few acts
  refine PureFn.introC [7] mixed (fn := Tryz.f8) rfl rfl rfl fun M w0 => ?_
  try conv=>whnf
  refine ⟨{ _x : Unit // longB fs = false }, fun _ => [(2, .ref 0 0)], fun _ => 1, fun _ => [(0, .var (cellsS m acts))], ?_, ?_⟩
  · try conv=>whnf
    refine ⟨{ i : Nat // i ≤ fs.length ∧ longB (fs.take i) = false }, fun i => [(2, .ref 0 0), (7, .pv (.sl (fs.map fpv))), (8, .pv (i64 (fs.map fpv).length)), (9, .pv (i64 i.1))], fun _ => 1, fun _ => [(0, .var (cellsS m acts))], fun i => fs.length - i.1, ⟨⟨0, Nat.zero_le _, rfl⟩, (by refine Wk.of ?_ ?_ rfl rfl rfl<;>repeat' (first|exact trivial|exact WkD.same _|exact WkO.same _ _ rfl|refine ⟨?_, ?_⟩|fail))⟩, ?_⟩
    rintro ⟨i, hi, hb⟩
    (try conv=>whnf);repeat' (first|(apply And.intro<;>try conv=>whnf)|(intro h;try conv=>whnf)|(apply infoT;rfl)|fail)
    · have hi' : i < fs.length := by simpa using lt_dec h
      have hn : fs[i]? = some fs[i] := List.getElem?_eq_getElem hi'
      have e4 : ((fs[i].map Nd.pv).length : Int) = (fs[i].length : Int) := by simp
      refine ⟨_, _, rfl, idx_map hn, rfl, ?_⟩
      (try conv=>whnf);repeat' (first|(apply And.intro<;>try conv=>whnf)|(intro h;try conv=>whnf)|fail)
      · have h9 : longB fs = true := any_at (p := fun f : List Nd => decide ((f.length : Int) > 40)) hi' (by rw [← e4]; exact h)
        rw [fewD, h9]; exact .refl _
      · exact ⟨⟨i + 1, hi', any_take (p := fun f : List Nd => decide ((f.length : Int) > 40)) hi' hb (by rw [← e4]; exact h)⟩, by show fs.length - (i + 1) < fs.length - i; omega, (by refine Wk.of ?_ ?_ rfl rfl rfl<;>repeat' (first|exact trivial|exact WkD.same _|exact WkO.same _ _ rfl|refine WkD.int ?_|refine ⟨?_, ?_⟩|(refine wrapA ?_ ?_ ?_;(focus simp;done);(focus (try dsimp only);omega);(focus (try dsimp only);omega))|fail))⟩
    · have hi' : i = fs.length := by have := ge_dec (m := (fs.map fpv).length) h (by simpa using hi); simpa using this
      subst hi'
      rw [List.take_length] at hb
      exact ⟨⟨(), hb⟩, (by refine Wk.of ?_ ?_ rfl rfl rfl<;>repeat' (first|exact trivial|exact WkD.same _|exact WkO.same _ _ rfl|refine ⟨?_, ?_⟩|fail))⟩
  rintro ⟨_, hb⟩
  have hd : fewD m acts fs = bif fewM m 10 then fewR acts else false := by rw [fewD, hb]; rfl
  rw [hd]
  (try conv=>whnf);repeat' (first|(apply And.intro<;>try conv=>whnf)|(intro h;try conv=>whnf)|apply True.intro|(apply WhenQ.mk;(try conv=>whnf);rotate_left;(try conv=>whnf);rotate_right)|with_reducible assumption|(refine PureFn.dcq (f := 31) rfl ?_;try conv=>whnf)|(refine PureFn.dcq (f := 32) rfl ?_;try conv=>whnf)|(refine ⟨_, _, h1, ?_, ?_⟩;(focus first|(refine ⟨?_, ?_, trivial⟩<;>first|exact PLe.refl _|exact PLe.nil)|exact trivial);try conv=>whnf)|(refine ⟨_, _, h2, ?_, ?_⟩;(focus first|(refine ⟨?_, trivial⟩<;>first|exact PLe.refl _|exact PLe.nil)|exact trivial);try conv=>whnf)|fail)
  exact .refl _
theorem lw_shallow (f : List Nd) (hl : f.length ≤ 1000) : PureFn Tryz.prog 9 [fpv f] (.bool (decide ((shC f : Int) ≤ 4))) := by
  refine PureFn.intro mixed (fn := Tryz.f9) rfl rfl rfl fun M w0 => ?_
  try conv=>whnf
  refine ⟨{ i : Nat // i ≤ f.length }, fun i => [(3, .pv (i64 (shC (f.take i.1)))), (6, .pv (fpv f)), (7, .pv (i64 (f.map Nd.pv).length)), (8, .pv (i64 i.1))], fun _ => 0, fun _ => [], fun i => f.length - i.1, ⟨⟨0, Nat.zero_le _⟩, (by refine Wk.of ?_ ?_ rfl rfl rfl<;>repeat' (first|exact trivial|exact WkD.same _|refine ⟨?_, ?_⟩|fail))⟩, ?_⟩
  rintro ⟨i, hi⟩
  have hcl : shC (f.take i) ≤ 1000 := by
    have := List.length_filter_le dynN (f.take i)
    have h2 := List.length_take_le i f
    rw [shC]; omega
  (try conv=>whnf);repeat' (first|(apply And.intro<;>try conv=>whnf)|(intro h;try conv=>whnf)|(apply infoT;rfl)|fail)
  · have hi' : i < f.length := by simpa using lt_dec h
    have hn : f[i]? = some f[i] := List.getElem?_eq_getElem hi'
    have htk : f.take (i + 1) = f.take i ++ [f[i]] := List.take_succ_eq_append_getElem hi'
    have hs1 : dynN f[i] = true → shC (f.take (i + 1)) = shC (f.take i) + 1 := fun h => by rw [shC, shC, htk, List.filter_append, List.length_append, List.filter_cons, h]; rfl
    have hs0 : dynN f[i] = false → shC (f.take (i + 1)) = shC (f.take i) := fun h => by rw [shC, shC, htk, List.filter_append, List.length_append, List.filter_cons, h]; rfl
    refine ⟨_, _, rfl, idx_map hn, rfl, ?_⟩
    (try conv=>whnf);repeat' (first|(apply And.intro<;>try conv=>whnf)|(intro h;try conv=>whnf)|apply True.intro|(apply WhenQ.mk;(try conv=>whnf);rotate_left;(try conv=>whnf);rotate_right)|with_reducible assumption|(apply not_of;with_reducible assumption)|fail)
    · have h2 : dynN f[i] = true := h
      refine ⟨⟨i + 1, hi'⟩, by show f.length - (i + 1) < f.length - i; omega, ?_⟩
      (refine Wk.of ?_ ?_ rfl rfl rfl<;>repeat' (first|exact trivial|exact WkD.same _|refine WkD.int ?_|refine ⟨?_, ?_⟩|(refine wrapA ?_ ?_ ?_;(focus simp;done);(focus (try dsimp only);omega);(focus (try dsimp only);omega))|fail))
      rw [hs1 h2]
      show IntKind.wrap .i64 ((shC (f.take i) : Int) + 1) = _
      exact Go.Dv.wrap_small (by omega) (by omega)
    · have h2 : dynN f[i] = false := h
      refine ⟨⟨i + 1, hi'⟩, by show f.length - (i + 1) < f.length - i; omega, ?_⟩
      (refine Wk.of ?_ ?_ rfl rfl rfl<;>repeat' (first|exact trivial|exact WkD.same _|refine WkD.int ?_|refine ⟨?_, ?_⟩|(refine wrapA ?_ ?_ ?_;(focus simp;done);(focus (try dsimp only);omega);(focus (try dsimp only);omega))|fail))
      rw [hs0 h2]
  · have hi' : i = f.length := by have := ge_dec (m := (f.map Nd.pv).length) h (by simpa using hi); simpa using this
    subst hi'
    rw [List.take_length]
    exact .refl _
end Go.Proofs.YtlaolpkgabknfaaGreatDoor
set_option maxRecDepth 100000
set_option maxHeartbeats 4000000
namespace Go.Proofs.YtlaolpkgabknfaaGreatDoor
open Go Go.Dv

theorem u_acts : Tryz.prog.underlying 26 = some (.slice 59) := by kernel_rfl
theorem u_scn : ∃ fs : Array Field, Tryz.prog.underlying 28 = some (.struct fs) ∧ fs.toList.map (·.type) = [25, 26] := ⟨_, rfl, by kernel_rfl⟩
theorem arg_scn {n : Nat} {p : PV} (h : TyA Tryz.prog (n + 9) 28 p) : ∃ (m : Mo) (acts : List Act), PLe p (scnPV m acts) ∧ FitM m ∧ ∀ a, a ∈ acts → Fit a := by
  obtain ⟨cs, h, rfl⟩ := h
  obtain ⟨fs0, hu0, hf0⟩ := u_scn
  have hm : mkE Tryz.prog 28 cs = .agg cs := by simp only [mkE, kindT, hu0]
  obtain ⟨cm, b, r1, rfl, h1, hb, m1⟩ := fs_cons hf0 (tyS (n := n + 8) hu0 h)
  obtain ⟨ca, d, r2, rfl, h2, hd, m2⟩ := fs_cons m1 hb
  have := fs_nil m2 hd
  subst this
  obtain ⟨fs, hu, hf⟩ := u_mod
  obtain ⟨a, b, r1, rfl, g1, hb, m1⟩ := fs_cons hf (tyS (n := n + 7) hu h1)
  obtain ⟨c, d, r2, rfl, g2, hd, m2⟩ := fs_cons m1 hb
  obtain ⟨e, g, r3, rfl, g3, hg, m3⟩ := fs_cons m2 hd
  have := fs_nil m3 hg
  subst this
  obtain ⟨w, rfl, _⟩ := int_of (n := n + 6) g1
  obtain ⟨val, q2, rfl, l2, hv⟩ := slice_of (n := n + 6) (g := u64) (Q := fun s => s < 2 ^ 64) u_rowT (u64_el (n := n + 5)) g2
  obtain ⟨rel, q3, rfl, l3, hr⟩ := slice_of (n := n + 6) (g := rowPV) (Q := fun r => ∀ s, s ∈ r → s < 2 ^ 64) u_relT (fun p hp => el_of (n := n + 5) u_rowT (u64_el (n := n + 4)) p hp) g3
  obtain ⟨acts, q4, rfl, l4, ha⟩ := slice_of (n := n + 7) (g := Act.pv) (Q := Fit) u_acts (fun p hp => arg_act (n := n) hp) h2
  refine ⟨⟨w, val, rel⟩, acts, ?_, ⟨hv, hr⟩, ha⟩
  rw [hm]
  exact PLe.aggs ⟨.refl _, l2, l3, l4, trivial⟩
end Go.Proofs.YtlaolpkgabknfaaGreatDoor
set_option maxRecDepth 100000
set_option maxHeartbeats 4000000
namespace Go.Proofs.YtlaolpkgabknfaaGreatDoor
open Go Go.Dv

/-! events: a set without the worlds whose pair is not in a set, and a set of the worlds whose pair is -/
/-- Nodes of a formula whose fragments are few. -/
theorem frag_node {f : List Nd} {x : Nd} (hx : x ∈ comp f) : fragN x ≤ frags f := by
  have := orN_in (m := fragN) hx
  exact Nat.le_of_testBit this
theorem stat_of {m : Mo} {acts : List Act} {f : List Nd} (hc : check f = 0) (hq : allT (ndQ m.rel.length m.val.length acts) (root f) = true) (hfr : nand64' (frags f : Nat) 15 = 0) : statI m.rel.length m.val.length f = 0 := by
  refine statM_iff.2 ⟨hc, fun x hx => ?_⟩
  have hlow : frags f < 16 := (frag_low (Nat.lt_of_lt_of_le (frags_lt f) (by decide))).1 hfr
  have h1 := finT_all (Q := ndQ m.rel.length m.val.length acts) (root f) [] hq (fun y hy => by cases hy) x (by rw [comp_root hc] at hx; exact hx)
  simp only [ndQ, Bool.and_eq_true, decide_eq_true_eq] at h1
  simp only [stM, Bool.and_eq_true, decide_eq_true_eq]
  have h2 : fragN x < 16 := Nat.lt_of_le_of_lt (frag_node hx) hlow
  exact ⟨⟨h2, h1.1.1.2⟩, h1.1.2⟩
/-! DynamicPublic -/
end Go.Proofs.YtlaolpkgabknfaaGreatDoor
set_option maxRecDepth 100000
set_option maxHeartbeats 4000000
namespace Go.Proofs.YtlaolpkgabknfaaGreatDoor
open Go Go.Dv

theorem low16 {f : List Nd} (h15 : nand64' (frags f : Nat) 15 = 0) : frags f < 16 := (frag_low (Nat.lt_of_lt_of_le (frags_lt f) (by decide))).1 h15
theorem op13_of {f : List Nd} (cf : check f = 0) (h15 : nand64' (frags f : Nat) 15 = 0) : ∀ y, y ∈ comp f → y.op ≤ 13 := fun y hy => by
  have hlow := low16 h15
  obtain ⟨i, hi⟩ := List.mem_iff_getElem?.1 hy
  have ho := ((comp_can cf).ok i y hi).op
  have h2 : fragN y < 16 := Nat.lt_of_le_of_lt (frag_node hy) hlow
  have key : ∀ op : Nat, op < 22 → (frag (op : Int)).toNat < 16 → op ≤ 13 := by decide
  have := key y.op.toNat (by omega)
  rw [show ((y.op.toNat : Nat) : Int) = y.op by omega] at this
  have := this h2
  omega
theorem stOp_of {f : List Nd} (cf : check f = 0) (h15 : nand64' (frags f : Nat) 15 = 0) : allT stOp (root f) = true := by
  rw [← root_comp cf]
  exact trn_all (Q := stOp) (fun y hy => decide_eq_true (op13_of cf h15 y hy)) _ _
theorem sub207 : ∀ a : Nat, a < 16 → subM a 207 = true := by decide
theorem static_eq {m : Mo} {acts : List Act} {f : List Nd} (hc : chkD m acts = 0) (h15 : nand64' (frags f : Nat) 15 = 0) : dynI m acts f = holdsI m f := by
  obtain ⟨n, hD, _⟩ := chkD_ok hc
  have hmo := ok_moI hD.okm
  cases hcf : (check f != 0) with
  | true =>
    have e : reqD m acts f = check f := by rw [reqD, hc, hcf]; rfl
    have e' : reqI m f = check f := by rw [reqI, hmo, statI, hcf]; rfl
    rw [dynI, holdsI, e, e', hcf]; rfl
  | false =>
    have cf : check f = 0 := by simpa using hcf
    have h207 : nand64' (frags f : Nat) 207 = 0 := (nand_sub (b := 207) (Nat.lt_of_lt_of_le (frags_lt f) (by decide))).2 (sub207 _ (low16 h15))
    have hany : (comp f).any (badA acts) = false := by
      rw [List.any_eq_false]
      intro y hy
      have := op13_of cf h15 y hy
      have h17 : (y.op == 17) = false := by simp; omega
      rw [badA, h17]; simp
    cases hft : fits f (m.rel.length : Int) (m.val.length : Int) with
    | false =>
      have e : reqD m acts f = 2 := by rw [reqD, hc, hcf, h207, hft]; rfl
      have e' : reqI m f = 2 := by rw [reqI, hmo, statI, hcf, h15, hft]; rfl
      rw [dynI, holdsI, e, e']; rfl
    | true =>
      have e : reqD m acts f = 0 := by rw [reqD, hc, hcf, h207, hft, hany]; rfl
      have e' : reqI m f = 0 := by rw [reqI, hmo, statI, hcf, h15, hft]; rfl
      rw [dynI, holdsI, e, e', dvT_static _ (stOp_of cf h15)]
end Go.Proofs.YtlaolpkgabknfaaGreatDoor
set_option maxRecDepth 100000
set_option maxHeartbeats 4000000
namespace Go.Proofs.YtlaolpkgabknfaaGreatDoor
open Go Go.Dv

theorem rd_Check (m : Mo) (acts : List Act) (hf : FitM m) (hS : ∀ a, a ∈ acts → SmA a) : PureFn Tryz.prog 13 [m.pv, actsPV acts] (.int .i64 (chkD m acts)) := by
  have e1 : ((m.val.map u64).length : Int) = (m.val.length : Int) := by simp
  have e2 : ((m.rel.map rowPV).length : Int) = (m.rel.length : Int) := by simp
  have e3 : ((acts.map Act.pv).length : Int) = (acts.length : Int) := by simp
  have hM := rm_Check m hf
  refine PureFn.intro mixed (fn := Tryz.f13) rfl rfl rfl fun M w0 => ?_
  (try conv=>whnf);repeat' (first|(apply And.intro<;>try conv=>whnf)|(intro h;try conv=>whnf)|(refine PureFn.dcq (f := 42) rfl ?_;try conv=>whnf)|(refine ⟨_, _, hM, ?_, ?_⟩;(focus first|(refine ⟨?_, trivial⟩<;>first|exact PLe.refl _|exact PLe.nil)|exact trivial);try conv=>whnf)|fail)
  · refine le_int ?_
    rw [chkD, show (moI m != 0) = true from h]; rfl
  · rename_i h0
    refine le_int ?_
    rw [chkD, show (moI m != 0) = false from h0, ← e3, show decide (((acts.map Act.pv).length : Int) > 8) = true from h]; rfl
  rename_i h0
  have h8 := of_decide_eq_false h
  have hck : chkD m acts = actsI (m.rel.length : Int) (m.val.length : Int) acts := by
    rw [chkD, show (moI m != 0) = false from h0, ← e3, show decide (((acts.map Act.pv).length : Int) > 8) = false from h]; rfl
  rw [hck]
  clear hck h h0
  refine ⟨{ i : Nat // i ≤ acts.length ∧ actsI (m.rel.length : Int) (m.val.length : Int) (acts.drop i) = actsI (m.rel.length : Int) (m.val.length : Int) acts }, fun i => [(1, .pv (actsPV acts)), (2, .ref 0 0), (6, .pv (i64 i.1))], fun _ => 1, fun _ => [(0, .var (cellsM m))], fun i => acts.length - i.1, ⟨⟨0, Nat.zero_le _, rfl⟩, (by refine Wk.of ?_ ?_ rfl rfl rfl<;>repeat' (first|exact trivial|exact WkD.same _|exact WkO.same _ _ rfl|refine ⟨?_, ?_⟩|fail))⟩, ?_⟩
  rintro ⟨i, hi, hd⟩
  (try conv=>whnf);repeat' (first|(apply And.intro<;>try conv=>whnf)|(intro h;try conv=>whnf)|(apply infoT;rfl)|(refine lin_plan (by kernel_rfl) ?_;try conv=>whnf)|fail)
  · have hi' : i < acts.length := by simpa using lt_dec h
    obtain ⟨a, ha, had⟩ : ∃ a, acts[i]? = some a ∧ acts.drop i = a :: acts.drop (i + 1) := ⟨_, List.getElem?_eq_getElem hi', List.drop_eq_getElem_cons hi'⟩
    have hSa := hS a (List.mem_iff_getElem?.2 ⟨i, ha⟩)
    have hA := ra_Check a (m.rel.length : Int) (m.val.length : Int) hSa.fit hSa.rel hSa.post
    rw [← e1, ← e2] at hA
    rw [had, actsI] at hd
    refine ⟨_, _, rfl, idx_map ha, rfl, ?_⟩
    (try conv=>whnf);repeat' (first|(apply And.intro<;>try conv=>whnf)|(intro h;try conv=>whnf)|(refine ⟨_, (by (conv=>whnf);exact hA), rfl, ?_⟩;try conv=>whnf)|fail)
    · refine le_int ?_
      rw [e1, e2] at h
      have h : (actI a (m.rel.length : Int) (m.val.length : Int) != 0) = true := h
      rw [h, cond_true] at hd
      rw [e1, e2]; exact hd
    · have h2 : (actI a (m.rel.length : Int) (m.val.length : Int) != 0) = false := by rw [← e1, ← e2]; exact h
      rw [h2, cond_false] at hd
      exact ⟨⟨i + 1, hi', hd⟩, by show acts.length - (i + 1) < acts.length - i; omega, (by refine Wk.of ?_ ?_ rfl rfl rfl<;>repeat' (first|exact trivial|exact WkD.same _|exact WkO.same _ _ rfl|refine WkD.int ?_|refine ⟨?_, ?_⟩|(refine wrapA ?_ ?_ ?_;(focus simp;done);(focus (try dsimp only);omega);(focus (try dsimp only);omega))|fail))⟩
  · have hi' : i = acts.length := by have := ge_dec (m := (acts.map Act.pv).length) h (by simpa using hi); simpa using this
    rw [hi', List.drop_length] at hd
    exact le_int hd
end Go.Proofs.YtlaolpkgabknfaaGreatDoor
set_option maxRecDepth 100000
set_option maxHeartbeats 8000000
namespace Go.Proofs.YtlaolpkgabknfaaGreatDoor
open Go Go.Dv

theorem dstatic_pure (m : Mo) (acts : List Act) (f : List Nd) (hf : FitM m) (hA : ∀ a, a ∈ acts → Fit a) : PureFn Tryz.prog 5 [scnPV m acts, fpv f] (.bool true) := by
  have hW := lw_few m acts [f] (by simp)
  have hAw := lw_awake28
  cases hfw : fewD m acts [f] with
  | false =>
    rw [hfw] at hW
    refine PureFn.introC [3] mixed (fn := Tryz.f5) rfl rfl rfl fun M w0 => ?_
    try conv=>whnf
    refine ⟨{ _x : Unit // False }, fun _ => [], fun _ => 0, fun _ => [], ?_, fun ⟨_, h⟩ => h.elim⟩
    have f1 : (!(bif !true then true else !false)) = false := rfl
    have f2 : (!(bif (bif !true then true else !false) then true else false)) = false := rfl
    have f3 : (bif (bif (bif !true then true else !false) then true else false) then true else false) = true := rfl
    (try conv=>whnf);repeat' (first|(apply And.intro<;>try conv=>whnf)|(intro h;first|with_reducible exact tf (by assumption) h|try conv=>whnf)|apply True.intro|(apply cellsI;rfl)|(apply whenOff;(focus with_reducible assumption);try conv=>whnf)|(apply WhenQ.mk;(try conv=>whnf);rotate_left;(try conv=>whnf);rotate_right)|with_reducible assumption|(apply not_of;with_reducible assumption)|(refine PureFn.dcq (f := 8) rfl ?_;try conv=>whnf)|(refine PureFn.dcq (f := 7) rfl ?_;try conv=>whnf)|(refine ⟨_, _, hW, ?_, ?_⟩;(focus first|(refine ⟨?_, ?_, trivial⟩<;>first|exact PLe.refl _|exact PLe.nil)|exact trivial);try conv=>whnf)|(refine ⟨_, _, hAw, ?_, ?_⟩;(focus first|(refine ⟨trivial⟩<;>first|exact PLe.refl _|exact PLe.nil)|exact trivial);try conv=>whnf)|fail)
    exact .refl _
  | true =>
    rw [hfw] at hW
    obtain ⟨hl, hfm, hfr⟩ := fewD_ok hfw
    obtain ⟨hal, haa⟩ := fewR_ok hfr
    have hS : ∀ a, a ∈ acts → SmA a := fun a ha => ⟨hA a ha, by have := (haa a ha).2.2.1; omega, fun l hl => by have := (haa a ha).2.2.2.2 l hl; omega⟩
    have hG := fm_Frags f
    have hC := rd_Check m acts hf hS
    have hse := fun a b => static_eq (m := m) (acts := acts) (f := f) a b
    have d1 := dy_Holds m acts f hf hS
    have c1 := ck_Holds m f hf
    generalize dynI m acts f = X at hse d1
    generalize holdsI m f = Y at hse c1
    obtain ⟨xa, xe⟩ := X
    obtain ⟨ya, ye⟩ := Y
    refine PureFn.introC [3, 4, 5] mixed (fn := Tryz.f5) rfl rfl rfl fun M w0 => ?_
    try conv=>whnf
    refine ⟨{ _x : Unit // nand64' (frags f : Nat) 15 = 0 ∧ chkD m acts = 0 }, fun _ => [(1, .pv (fpv f)), (2, .ref 0 0)], fun _ => 1, fun _ => [(0, .var (cellsS m acts))], ?_, ?_⟩
    · (try conv=>whnf);repeat' (first|(apply And.intro<;>try conv=>whnf)|(intro h;try conv=>whnf)|apply True.intro|(apply cellsI;rfl)|(apply WhenQ.mk;(try conv=>whnf);rotate_left;(try conv=>whnf);rotate_right)|with_reducible assumption|(apply not_of;with_reducible assumption)|(refine PureFn.dcq (f := 8) rfl ?_;try conv=>whnf)|(refine PureFn.dcq (f := 7) rfl ?_;try conv=>whnf)|(refine PureFn.dcq (f := 17) rfl ?_;try conv=>whnf)|(refine PureFn.dcq (f := 13) rfl ?_;try conv=>whnf)|(refine ⟨_, _, hW, ?_, ?_⟩;(focus first|(refine ⟨?_, ?_, trivial⟩<;>first|exact PLe.refl _|exact PLe.nil)|exact trivial);try conv=>whnf)|(refine ⟨_, _, hAw, ?_, ?_⟩;(focus first|(refine ⟨trivial⟩<;>first|exact PLe.refl _|exact PLe.nil)|exact trivial);try conv=>whnf)|(refine ⟨_, _, hG, ?_, ?_⟩;(focus first|(refine ⟨?_, trivial⟩<;>first|exact PLe.refl _|exact PLe.nil)|exact trivial);try conv=>whnf)|(refine ⟨_, _, hC, ?_, ?_⟩;(focus first|(refine ⟨?_, ?_, trivial⟩<;>first|exact PLe.refl _|exact PLe.nil)|exact trivial);try conv=>whnf)|fail)
      · exact .refl _
      · refine ⟨⟨(), ?_⟩, (by refine Wk.of ?_ ?_ rfl rfl rfl<;>repeat' (first|exact trivial|exact WkD.same _|exact WkO.same _ _ rfl|refine ⟨?_, ?_⟩|fail))⟩
        obtain ⟨b1, c1⟩ := or_ff' (show (bif _ then true else _) = false from h)
        obtain ⟨b2, c2⟩ := or_ff' b1
        exact ⟨by simpa using (show (nand64' (frags f : Nat) 15 != 0) = false from c2), by simpa using (show (chkD m acts != 0) = false from c1)⟩
    rintro ⟨_, h1, h2⟩
    obtain ⟨rfl, rfl⟩ := Prod.mk.inj (hse h2 h1)
    refine ⟨Unit, fun _ => [(1, .pv (fpv f)), (2, .ref 0 0), (5, .pv (u64 xa)), (6, .pv (.int .i64 xe))], fun _ => 1, fun _ => [(0, .var (cellsS m acts))], ?_, ?_⟩
    · (try conv=>whnf);repeat' (first|(refine PureFn.dcq (f := 10) rfl ?_;try conv=>whnf)|(refine ⟨_, _, d1, ?_, ?_⟩;(focus first|(refine ⟨?_, ?_, ?_, trivial⟩<;>first|exact PLe.refl _|exact PLe.nil)|exact trivial);try conv=>whnf)|fail)
      exact ⟨(), (by refine Wk.of ?_ ?_ rfl rfl rfl<;>repeat' (first|exact trivial|exact WkD.same _|exact WkO.same _ _ rfl|refine ⟨?_, ?_⟩|fail))⟩
    rintro ⟨⟩
    refine ⟨Unit, fun _ => [(5, .pv (u64 xa)), (6, .pv (.int .i64 xe)), (7, .pv (u64 xa)), (8, .pv (.int .i64 xe))], fun _ => 1, fun _ => [], ?_, ?_⟩
    · (try conv=>whnf);repeat' (first|(refine PureFn.dcq (f := 18) rfl ?_;try conv=>whnf)|(refine ⟨_, _, c1, ?_, ?_⟩;(focus first|(refine ⟨?_, ?_, trivial⟩<;>first|exact PLe.refl _|exact PLe.nil)|exact trivial);try conv=>whnf)|fail)
      exact ⟨(), (by refine Wk.of ?_ ?_ rfl rfl rfl<;>repeat' (first|exact trivial|exact WkD.same _|refine ⟨?_, ?_⟩|fail))⟩
    rintro ⟨⟩
    (try conv=>whnf);repeat' (first|(apply And.intro<;>try conv=>whnf)|(intro h;try conv=>whnf)|apply True.intro|(apply WhenQ.mk;(try conv=>whnf);rotate_left;(try conv=>whnf);rotate_right)|with_reducible assumption|fail)
    exact le_bool (by simp)
theorem dstatic_args (ps : List PV) (hps : TyAll Tryz.prog 9 Tryz.f5.params.toList ps) : PureFn Tryz.prog 5 ps (.bool true) := by
  obtain ⟨p1, r1, rfl, h1, p2, r2, rfl, h2, rfl⟩ := hps
  obtain ⟨m, acts, h, hm, ha⟩ := arg_scn (n := 0) h1
  obtain ⟨f, hf2⟩ := arg_nodes (n := 6) h2
  exact (dstatic_pure m acts f hm ha).le ⟨h, hf2, trivial⟩
end Go.Proofs.YtlaolpkgabknfaaGreatDoor
