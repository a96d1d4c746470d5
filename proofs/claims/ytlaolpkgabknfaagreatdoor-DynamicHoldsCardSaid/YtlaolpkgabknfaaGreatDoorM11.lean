/- Parts of the proof, one after the other: The reference of products walked: Worlds. The reference of products walked: value. The reference of products walked: Update. The dynamic language: the reference's event walked. The dynamic language: the reference's eval walked. The dynamic language: how small the law's inputs are (walked). The dynamic language: the examples' model walked. The dynamic language: the examples of the law walked. The dynamic language: the law DynamicMerges walked. The dynamic language: scenes as arguments. -/
import Derived.Test.YtlaolpkgabknfaaGreatDoorM10
set_option maxRecDepth 100000
set_option maxHeartbeats 4000000
namespace Go.Proofs.YtlaolpkgabknfaaGreatDoor
open Go Go.Dv

theorem rp_Worlds (m : Mo) (a : Act) (hf : FitM m) (hfa : Fit a) (hl : a.rel.length ≤ 1000) (hp : ∀ l, l ∈ a.post → l.length ≤ 1000) : PureFn Tryz.prog 131 [m.pv, a.pv] (worldsPV (worldsI m a)) := by
  refine PureFn.introC [2, 5, 14, 24] mixed (fn := Tryz.f131) rfl rfl rfl fun M w0 => ?_
  have hC := rm_Check m hf
  have hK := ra_Check a (m.rel.length : Nat) (m.val.length : Nat) hfa hl hp
  rw [show PV.int .i64 ((m.rel.length : Nat) : Int) = .int .i64 ((m.rel.map rowPV).length : Nat) by rw [List.length_map], show PV.int .i64 ((m.val.length : Nat) : Int) = .int .i64 ((m.val.map u64).length : Nat) by rw [List.length_map]] at hK
  try conv=>whnf
  refine ⟨Unit, fun _ => [(2, .ref 0 0), (3, .ref 1 0), (6, .pv (.int .i64 (moI m)))], fun _ => 2, fun _ => HMA m a, ?_, ?_⟩
  · (try conv=>whnf);repeat' (first|(refine PureFn.dcq (f := 42) rfl ?_;try conv=>whnf)|(refine ⟨_, _, hC, ?_, ?_⟩;(focus first|(refine ⟨?_, trivial⟩<;>first|exact PLe.refl _|exact PLe.nil)|exact trivial);try conv=>whnf)|fail)
    exact ⟨(), (by refine Wk.of ?_ ?_ rfl rfl rfl<;>repeat' (first|exact trivial|exact WkD.same _|exact WkO.same _ _ rfl|refine ⟨?_, ?_⟩|fail))⟩
  rintro ⟨⟩
  (try conv=>whnf);repeat' (first|(apply And.intro<;>try conv=>whnf)|(intro h;try conv=>whnf)|fail)
  · have h9 : moaI m a = moI m := by rw [moaI, h]; rfl
    rw [worldsI, h9, h]
    exact le_worlds _
  have h1 := h
  have hmo : moaI m a = actI a (m.rel.length : Int) (m.val.length : Int) := by rw [moaI, h1]; rfl
  refine ⟨Unit, fun _ => [(2, .ref 0 0), (3, .ref 1 0), (7, .pv (.int .i64 (moaI m a)))], fun _ => 2, fun _ => HMA m a, ?_, ?_⟩
  · rw [hmo]
    (try conv=>whnf);repeat' (first|(refine PureFn.dcq (f := 43) rfl ?_;try conv=>whnf)|(refine ⟨_, _, hK, ?_, ?_⟩;(focus first|(refine ⟨?_, ?_, ?_, trivial⟩<;>first|exact PLe.refl _|exact PLe.nil)|exact trivial);try conv=>whnf)|fail)
    exact ⟨(), (by refine Wk.of ?_ ?_ rfl rfl rfl<;>repeat' (first|exact trivial|exact WkD.same _|exact WkO.same _ _ rfl|refine ⟨?_, ?_⟩|fail))⟩
  rintro ⟨⟩
  (try conv=>whnf);repeat' (first|(apply And.intro<;>try conv=>whnf)|(intro h;try conv=>whnf)|fail)
  · rw [worldsI, h]
    exact le_worlds _
  have h2 := h
  have h20 : moaI m a = 0 := by simpa using h2
  obtain ⟨⟨n, hM⟩, hAc⟩ := moaI_ok h20
  have hO := actI_ok hAc
  have hn8 := hO.n8
  have hn1 := hO.n1
  have hn64 := hM.n64
  have hnn := hM.nn
  have hres : worldsI m a = bif ((pairsL m a).length : Int) == 0 then ([], 11) else (pairsL m a, 0) := by rw [worldsI, show (moaI m a != 0) = false from h2]; rfl
  have hpl : pairsL m a = pairsW (possP m a) a.pre.length n := by rw [pairsL, hM.nn]; rfl
  rw [hres, hpl]
  clear hres hpl
  have hH : ∀ (e : Nat) (f : List Nd), a.pre[e]? = some f → PureFn Tryz.prog 84 [m.pv, fpv f] (.tup [u64 (possP m a e), .int .i64 0]) := by
    intro e f he
    have h := rc_Holds m f hf
    have he1 := (List.getElem?_eq_some_iff.1 he).1
    have hp := (pre_holds h20 he1).1
    have hg : a.pre.getD e [] = f := by rw [List.getD_eq_getElem?_getD, he]; rfl
    rw [hg] at hp
    rw [hp] at h
    exact h
  generalize hpe : possP m a = p at hH ⊢
  have hBl : ∀ w e, w ≤ n → e ≤ a.pre.length → ((pairsB p a.pre.length w e).map pairPV).length ≤ 600 := by
    intro w e h1 h2
    rw [List.length_map, pairsB, List.length_append]
    have := pairsW_len p a.pre.length w
    have := pairsE_len p w e
    have := Nat.mul_le_mul h1 hn8
    omega
  refine ⟨Unit, fun _ => [(2, .ref 0 0), (3, .ref 1 0), (8, .pv (.sl ((List.range a.pre.length).map fun e => u64 (p e))))], fun _ => 3, fun _ => HMA m a, ?_, ?_⟩
  · try conv=>whnf
    refine ⟨{ e : Nat // e ≤ a.pre.length }, fun e => [(2, .ref 0 0), (3, .ref 1 0), (8, .buf 2 ((List.range e.1).map fun e => u64 (p e)).length), (33, .pv (.sl (a.pre.map fpv))), (34, .pv (i64 (a.pre.map fpv).length)), (35, .pv (i64 e.1))], fun _ => 3, fun e => [(0, .var (cellsM m)), (1, .var (cellsA a)), (2, .arr 1 ((List.range e.1).map fun e => u64 (p e)))], fun e => a.pre.length - e.1, ⟨⟨0, Nat.zero_le _⟩, (by refine Wk.of ?_ ?_ rfl rfl rfl<;>repeat' (first|exact trivial|exact WkD.same _|exact WkO.same _ _ rfl|exact WkD.new' rfl rfl rfl|exact WkO.new _ _ rfl|exact rfl|refine ⟨?_, ?_⟩|fail))⟩, ?_⟩
    intro e
    have he := e.2
    (try conv=>whnf);repeat' (first|(apply And.intro<;>try conv=>whnf)|(intro h;try conv=>whnf)|(apply infoT;rfl)|fail)
    · have he' : e.1 < a.pre.length := by simpa using lt_dec h
      have hm : a.pre[e.1]? = some a.pre[e.1] := List.getElem?_eq_getElem he'
      have hHe := hH e.1 _ hm
      have hes : ((List.range e.1).map fun e => u64 (p e)) ++ [u64 (p e.1)] = (List.range (e.1 + 1)).map fun e => u64 (p e) := by rw [List.range_succ, List.map_append]; rfl
      refine ⟨_, _, rfl, idx_map hm, rfl, ?_⟩
      (try conv=>whnf);repeat' (first|(apply And.intro<;>try conv=>whnf)|(apply cellsI;rfl)|(apply szI;rfl)|(refine PureFn.dcq (f := 84) rfl ?_;try conv=>whnf)|(refine ⟨_, _, hHe, ?_, ?_⟩;(focus first|(refine ⟨?_, ?_, trivial⟩<;>first|exact PLe.refl _|exact PLe.nil)|exact trivial);try conv=>whnf)|fail)
      · exact app_big (n := 8) (by simp; omega) (by decide)
      · refine ⟨⟨e.1 + 1, he'⟩, by show a.pre.length - (e.1 + 1) < a.pre.length - e.1; omega, ?_⟩
        (refine Wk.of ?_ ?_ rfl rfl rfl<;>repeat' (first|exact trivial|exact WkD.same _|exact WkO.same _ _ rfl|exact WkD.eq (congrArg (fun z : List PV => DV.buf _ z.length) hes)|exact WkO.same _ _ (congrArg (fun z => some (DObj.arr _ z)) hes)|refine WkD.int ?_|refine ⟨?_, ?_⟩|(refine wrapA ?_ ?_ ?_;(focus simp;done);(focus (try dsimp only);omega);(focus (try dsimp only);omega))|fail))
    · obtain ⟨e0, he0⟩ := e
      have he' : e0 = a.pre.length := by have := ge_dec (m := (a.pre.map fpv).length) h (by simpa using he); simpa using this
      subst he'
      exact ⟨(), (by refine Wk.of ?_ ?_ rfl rfl rfl<;>repeat' (first|exact trivial|exact WkD.same _|exact WkO.same _ _ rfl|exact WkD.fz _ _ _ rfl (Or.inl ⟨_, rfl⟩) rfl|refine ⟨?_, ?_⟩|fail))⟩
  rintro ⟨⟩
  refine ⟨Unit, fun _ => [(13, .pv (.sl ((pairsW p a.pre.length n).map pairPV)))], fun _ => 4, fun _ => HMA m a, ?_, ?_⟩
  · try conv=>whnf
    refine ⟨{ w : Nat // w ≤ n }, fun w => [(2, .ref 0 0), (3, .ref 1 0), (8, .pv (.sl ((List.range a.pre.length).map fun e => u64 (p e)))), (13, .buf 3 ((pairsB p a.pre.length w.1 0).map pairPV).length), (14, .pv (i64 w.1))], fun _ => 4, fun w => [(0, .var (cellsM m)), (1, .var (cellsA a)), (3, .arr 2 ((pairsB p a.pre.length w.1 0).map pairPV))], fun w => n - w.1, ⟨⟨0, Nat.zero_le _⟩, (by refine Wk.of ?_ ?_ rfl rfl rfl<;>repeat' (first|exact trivial|exact WkD.same _|exact WkO.same _ _ rfl|exact WkD.new' rfl rfl rfl|exact WkO.new _ _ rfl|exact rfl|refine ⟨?_, ?_⟩|fail))⟩, ?_⟩
    intro w
    have hwn := w.2
    (try conv=>whnf);repeat' (first|(apply And.intro<;>try conv=>whnf)|(intro h;try conv=>whnf)|fail)
    · have hw' : w.1 < n := by rw [hnn] at h; exact lt_dec h
      refine ⟨{ e : Nat // e ≤ a.pre.length }, fun e => [(2, .ref 0 0), (3, .ref 1 0), (8, .pv (.sl ((List.range a.pre.length).map fun e => u64 (p e)))), (13, .buf 3 ((pairsB p a.pre.length w.1 e.1).map pairPV).length), (14, .pv (i64 w.1)), (58, .pv (i64 (a.pre.map fpv).length)), (59, .pv (i64 e.1))], fun _ => 4, fun e => [(0, .var (cellsM m)), (1, .var (cellsA a)), (3, .arr 2 ((pairsB p a.pre.length w.1 e.1).map pairPV))], fun e => a.pre.length - e.1, ⟨⟨0, Nat.zero_le _⟩, (by refine Wk.of ?_ ?_ rfl rfl rfl<;>repeat' (first|exact trivial|exact WkD.same _|exact WkO.same _ _ rfl|refine ⟨?_, ?_⟩|fail))⟩, ?_⟩
      intro e
      have he := e.2
      have hB1 := hBl w.1 e.1 hwn he
      have hs := pairsB_succ p a.pre.length w.1 e.1
      (try conv=>whnf);repeat' (first|(apply And.intro<;>try conv=>whnf)|(intro h;try conv=>whnf)|(apply infoT;rfl)|fail)
      · have he' : e.1 < a.pre.length := by simpa using lt_dec h
        have hHas := rm_Has (p e.1) w.1 (by omega)
        refine ⟨_, _, rfl, idx_map (g := fun e => u64 (p e)) (List.getElem?_range he'), rfl, ?_⟩
        (try conv=>whnf);repeat' (first|(apply And.intro<;>try conv=>whnf)|(intro h;try conv=>whnf)|(apply cellsI;rfl)|(apply szI;rfl)|(refine PureFn.dcq (f := 85) rfl ?_;try conv=>whnf)|(refine ⟨_, _, hHas, ?_, ?_⟩;(focus first|(refine ⟨?_, ?_, trivial⟩<;>first|exact PLe.refl _|exact PLe.nil)|exact trivial);try conv=>whnf)|fail)
        · exact app_big (n := 600) hB1 (by decide)
        · have hes : (pairsB p a.pre.length w.1 e.1).map pairPV ++ [pairPV (w.1, e.1)] = (pairsB p a.pre.length w.1 (e.1 + 1)).map pairPV := by rw [hs, show (p e.1).testBit w.1 = true from h, cond_true, List.map_append]; rfl
          refine ⟨⟨e.1 + 1, he'⟩, by show a.pre.length - (e.1 + 1) < a.pre.length - e.1; omega, ?_⟩
          (refine Wk.of ?_ ?_ rfl rfl rfl<;>repeat' (first|exact trivial|exact WkD.same _|exact WkO.same _ _ rfl|exact WkD.eq (congrArg (fun z : List PV => DV.buf _ z.length) hes)|exact WkO.same _ _ (congrArg (fun z => some (DObj.arr _ z)) hes)|refine WkD.int ?_|refine ⟨?_, ?_⟩|(refine wrapA ?_ ?_ ?_;(focus simp;done);(focus (try dsimp only);omega);(focus (try dsimp only);omega))|fail))
        · have hes : (pairsB p a.pre.length w.1 e.1).map pairPV = (pairsB p a.pre.length w.1 (e.1 + 1)).map pairPV := by rw [hs, show (p e.1).testBit w.1 = false from h, cond_false]
          refine ⟨⟨e.1 + 1, he'⟩, by show a.pre.length - (e.1 + 1) < a.pre.length - e.1; omega, ?_⟩
          (refine Wk.of ?_ ?_ rfl rfl rfl<;>repeat' (first|exact trivial|exact WkD.same _|exact WkO.same _ _ rfl|exact WkD.eq (congrArg (fun z : List PV => DV.buf _ z.length) hes)|exact WkO.same _ _ (congrArg (fun z => some (DObj.arr _ z)) hes)|refine WkD.int ?_|refine ⟨?_, ?_⟩|(refine wrapA ?_ ?_ ?_;(focus simp;done);(focus (try dsimp only);omega);(focus (try dsimp only);omega))|fail))
      · have he' : e.1 = a.pre.length := by have := ge_dec (m := (a.pre.map fpv).length) h (by simpa using he); simpa using this
        have ef : pairsB p a.pre.length w.1 e.1 = pairsB p a.pre.length (w.1 + 1) 0 := by rw [he', pairsB_full, pairsB_zero]
        have efm : (pairsB p a.pre.length w.1 e.1).map pairPV = (pairsB p a.pre.length (w.1 + 1) 0).map pairPV := by rw [ef]
        refine ⟨⟨w.1 + 1, hw'⟩, by show n - (w.1 + 1) < n - w.1; omega, ?_⟩
        (refine Wk.of ?_ ?_ rfl rfl rfl<;>repeat' (first|exact trivial|exact WkD.same _|exact WkO.same _ _ rfl|exact WkD.eq (congrArg (fun z : List PV => DV.buf _ z.length) efm)|exact WkO.same _ _ (congrArg (fun z => some (DObj.arr _ z)) efm)|refine WkD.int ?_|refine ⟨?_, ?_⟩|(refine wrapA ?_ ?_ ?_;(focus simp;done);(focus (try dsimp only);omega);(focus (try dsimp only);omega))|fail))
    · obtain ⟨w0', hw0⟩ := w
      have hw' : w0' = n := by rw [hnn] at h; exact ge_dec h hwn
      subst hw'
      have hfz : (pairsB p a.pre.length w0' 0).map pairPV = (pairsW p a.pre.length w0').map pairPV := by rw [pairsB_zero]
      refine ⟨(), ?_⟩
      rw [← hfz]
      (refine Wk.of ?_ ?_ rfl rfl rfl<;>repeat' (first|exact trivial|exact WkO.same _ _ rfl|exact WkD.fz _ _ _ rfl (Or.inl ⟨_, rfl⟩) rfl|refine ⟨?_, ?_⟩|fail))
  rintro ⟨⟩
  have hl0 : (((pairsW p a.pre.length n).map pairPV).length : Int) = ((pairsW p a.pre.length n).length : Int) := by simp
  (try conv=>whnf);repeat' (first|(apply And.intro<;>try conv=>whnf)|(intro h;try conv=>whnf)|fail)
  · rw [hl0] at h
    rw [h]
    exact le_worlds _
  · rw [hl0] at h
    rw [h]
    exact .refl _
end Go.Proofs.YtlaolpkgabknfaaGreatDoor
set_option maxRecDepth 100000
set_option maxHeartbeats 4000000
namespace Go.Proofs.YtlaolpkgabknfaaGreatDoor
open Go Go.Dv

def bitW (i : Nat) : Nat := 2 ^ i % 2 ^ 64
theorem bitW_lt {i : Nat} (h : i < 64) : bitW i = 2 ^ i := Nat.mod_eq_of_lt (Nat.pow_lt_pow_right (by decide) h)
theorem wrapU_mod (n : Nat) : IntKind.wrap .u64 (n : Int) = ((n % 2 ^ 64 : Nat) : Int) := by
  show (n : Int) % (2 ^ 64 : Int) = _
  omega
theorem bitW_mul (i : Nat) : IntKind.wrap .u64 ((bitW i : Nat) * 2) = ((bitW (i + 1) : Nat) : Int) := by
  rw [show ((bitW i : Nat) : Int) * 2 = ((bitW i * 2 : Nat) : Int) by omega, wrapU_mod]
  congr 1
  show 2 ^ i % 2 ^ 64 * 2 % 2 ^ 64 = 2 ^ (i + 1) % 2 ^ 64
  rw [Nat.mod_mul_mod]
  exact congrArg (fun z => z % 2 ^ 64) (Nat.pow_succ 2 i).symm
theorem mask_add {q : Nat → Bool} {i : Nat} (hi : i < 64) (h : q i = true) : IntKind.wrap .u64 ((maskOf q i : Nat) + (bitW i : Nat)) = ((maskOf q (i + 1) : Nat) : Int) := by
  have h1 := maskOf_lt q i
  have h2 : maskOf q i ||| 2 ^ i = maskOf q i + 2 ^ i := by
    have := Nat.two_pow_add_eq_or_of_lt h1 1
    rw [Nat.mul_one] at this
    rw [Nat.or_comm, ← this, Nat.add_comm]
  have h3 := maskOf_lt q (i + 1)
  have h4 : 2 ^ (i + 1) ≤ 2 ^ 64 := Nat.pow_le_pow_right (by decide) hi
  rw [← mask_or h] at h3 ⊢
  rw [h2] at h3 ⊢
  rw [bitW_lt hi, show ((maskOf q i : Nat) : Int) + ((2 ^ i : Nat) : Int) = ((maskOf q i + 2 ^ i : Nat) : Int) by omega, wrapU_mod, Nat.mod_eq_of_lt (by omega)]
theorem rp_value (m : Mo) (a : Act) (l : List (Nat × Nat)) (i : Nat) (hf : FitM m) (hfa : Fit a) (hl : a.rel.length ≤ 1000) (hp : ∀ l, l ∈ a.post → l.length ≤ 1000) (hma : moaI m a = 0) (hi : i < m.val.length) (hl64 : l.length ≤ 64) (hmem : ∀ y, y ∈ l → y.1 < 64 ∧ y.2 < a.pre.length) :
    PureFn Tryz.prog 132 [m.pv, a.pv, .sl (l.map pairPV), .int .i64 (i : Nat)] (u64 (valP m a l i)) := by
  obtain ⟨⟨n, hM⟩, hAc⟩ := moaI_ok hma
  have hO := actI_ok hAc
  have hn8 := hO.n8
  have hn64 := hM.n64
  refine PureFn.introC [9] mixed (fn := Tryz.f132) rfl rfl rfl fun M w0 => ?_
  have hlv : (vlU m a i).length = a.pre.length := by simp [vlU]
  have hsl : ∀ e, ((List.range e).map fun e => valuP m a e i).length = e := by simp
  have hmk : maskOf (fun k => ((vlU m a i).getD (l.getD k (0, 0)).2 0).testBit (l.getD k (0, 0)).1) l.length = valP m a l i := maskOf_congr fun k hk => by
    rw [vlU_get (hmem _ (List.mem_iff_getElem?.2 ⟨k, getD_mem hk⟩)).2]
  rw [← hmk]
  try conv=>whnf
  refine ⟨Unit, fun _ => [(2, .pv (.sl (l.map pairPV))), (9, .pv (.sl ((vlU m a i).map u64)))], fun _ => 3, fun _ => [], ?_, ?_⟩
  · try conv=>whnf
    refine ⟨{ e : Nat // e ≤ a.pre.length }, fun e => [(2, .pv (.sl (l.map pairPV))), (3, .pv (i64 i)), (4, .ref 0 0), (5, .ref 1 0), (9, .buf 2 (((List.range e.1).map fun e => valuP m a e i).map u64).length), (21, .pv (i64 (a.pre.map fpv).length)), (22, .pv (i64 e.1))], fun _ => 3, fun e => [(0, .var (cellsM m)), (1, .var (cellsA a)), (2, .arr 1 (((List.range e.1).map fun e => valuP m a e i).map u64))], fun e => a.pre.length - e.1, ⟨⟨0, Nat.zero_le _⟩, (by refine Wk.of ?_ ?_ rfl rfl rfl<;>repeat' (first|exact trivial|exact WkD.same _|exact WkO.same _ _ rfl|exact WkD.new' rfl rfl rfl|exact WkO.new _ _ rfl|exact rfl|refine ⟨?_, ?_⟩|fail))⟩, ?_⟩
    intro e
    have he := e.2
    (try conv=>whnf);repeat' (first|(apply And.intro<;>try conv=>whnf)|(intro h;try conv=>whnf)|fail)
    · have he' : e.1 < a.pre.length := by simpa using lt_dec h
      have hV := ra_Value a e.1 i hfa hl hp
      have hv0 := valI_ok hma he' hi
      obtain ⟨g, hg⟩ : ∃ g, valI a e.1 i = (g, 0) := ⟨(valI a e.1 i).1, Prod.ext rfl hv0⟩
      rw [hg] at hV
      have hH := rc_Holds m g hf
      have hvp : (holdsI m g).1 = valuP m a e.1 i := by rw [valuP, hg]
      rw [hvp] at hH
      have hes : ((List.range e.1).map fun e => valuP m a e i).map u64 ++ [u64 (valuP m a e.1 i)] = ((List.range (e.1 + 1)).map fun e => valuP m a e i).map u64 := by rw [List.range_succ, List.map_append, List.map_append]; rfl
      (try conv=>whnf);repeat' (first|(apply And.intro<;>try conv=>whnf)|(apply cellsI;rfl)|(apply szI;rfl)|(refine PureFn.dcq (f := 154) rfl ?_;try conv=>whnf)|(refine PureFn.dcq (f := 84) rfl ?_;try conv=>whnf)|(refine ⟨_, _, hV, ?_, ?_⟩;(focus first|(refine ⟨?_, ?_, ?_, trivial⟩<;>first|exact PLe.refl _|exact PLe.nil)|exact trivial);try conv=>whnf)|(refine ⟨_, _, hH, ?_, ?_⟩;(focus first|(refine ⟨?_, ?_, trivial⟩<;>first|exact PLe.refl _|exact PLe.nil)|exact trivial);try conv=>whnf)|fail)
      · exact app_big (n := 8) (by simp; omega) (by decide)
      · refine ⟨⟨e.1 + 1, he'⟩, by show a.pre.length - (e.1 + 1) < a.pre.length - e.1; omega, ?_⟩
        (refine Wk.of ?_ ?_ rfl rfl rfl<;>repeat' (first|exact trivial|exact WkD.same _|exact WkO.same _ _ rfl|exact WkD.eq (congrArg (fun z : List PV => DV.buf _ z.length) hes)|exact WkO.same _ _ (congrArg (fun z => some (DObj.arr _ z)) hes)|refine WkD.int ?_|refine ⟨?_, ?_⟩|(refine wrapA ?_ ?_ ?_;(focus simp;done);(focus (try dsimp only);omega);(focus (try dsimp only);omega))|fail))
    · obtain ⟨e0, he0⟩ := e
      have he' : e0 = a.pre.length := by have := ge_dec (m := (a.pre.map fpv).length) h (by simpa using he); simpa using this
      subst he'
      exact ⟨(), (by refine Wk.of ?_ ?_ rfl rfl rfl<;>repeat' (first|exact trivial|exact WkD.same _|exact WkD.fz _ _ _ rfl (Or.inl ⟨_, rfl⟩) rfl|refine ⟨?_, ?_⟩|fail))⟩
  rintro ⟨⟩
  generalize vlU m a i = vs at hlv
  try conv=>whnf
  refine ⟨{ k : Nat // k ≤ l.length }, fun k => [(9, .pv (.sl (vs.map u64))), (15, .pv (u64 (maskOf (fun k => (vs.getD (l.getD k (0, 0)).2 0).testBit (l.getD k (0, 0)).1) k.1))), (16, .pv (u64 (bitW k.1))), (43, .pv (.sl (l.map pairPV))), (44, .pv (i64 (l.map pairPV).length)), (45, .pv (i64 k.1))], fun _ => 3, fun _ => [], fun k => l.length - k.1, ⟨⟨0, Nat.zero_le _⟩, (by refine Wk.of ?_ ?_ rfl rfl rfl<;>repeat' (first|exact trivial|exact WkD.same _|refine ⟨?_, ?_⟩|fail))⟩, ?_⟩
  intro k
  have hk := k.2
  (try conv=>whnf);repeat' (first|(apply And.intro<;>try conv=>whnf)|(intro h;try conv=>whnf)|(apply infoT;rfl)|fail)
  · have hk' : k.1 < l.length := by simpa using lt_dec h
    obtain ⟨x, hx, hxw⟩ : ∃ y, l[k.1]? = some y ∧ l.getD k.1 (0, 0) = y := ⟨_, getD_mem hk', rfl⟩
    obtain ⟨hx1, hx2⟩ := hmem x (List.mem_iff_getElem?.2 ⟨k.1, hx⟩)
    have hvx : vs[x.2]? = some (vs.getD x.2 0) := getD_mem (by omega)
    have hHas := rm_Has (vs.getD x.2 0) x.1 hx1
    refine ⟨_, _, rfl, idx_map hx, rfl, ?_⟩
    (try conv=>whnf);repeat' (first|(apply And.intro<;>try conv=>whnf)|(intro h;try conv=>whnf)|(apply infoT;rfl)|(refine lin_plan (by kernel_rfl) ?_;try conv=>whnf)|(refine ⟨_, _, rfl, idx_map (by with_reducible assumption), rfl, ?_⟩;try conv=>whnf)|(refine ⟨_, (by (conv=>whnf);exact hHas), rfl, ?_⟩;try conv=>whnf)|fail)
    · refine ⟨⟨k.1 + 1, hk'⟩, by show l.length - (k.1 + 1) < l.length - k.1; omega, ?_⟩
      (refine Wk.of ?_ ?_ rfl rfl rfl<;>repeat' (first|exact trivial|exact WkD.same _|refine WkD.int ?_|refine ⟨?_, ?_⟩|(refine wrapA ?_ ?_ ?_;(focus simp;done);(focus (try dsimp only);omega);(focus (try dsimp only);omega))|fail))
      · exact mask_add (q := fun k => (vs.getD (l.getD k (0, 0)).2 0).testBit (l.getD k (0, 0)).1) (by omega) (by show (vs.getD (l.getD k.1 (0, 0)).2 0).testBit (l.getD k.1 (0, 0)).1 = true; rw [hxw]; exact h)
      · exact bitW_mul k.1
    · refine ⟨⟨k.1 + 1, hk'⟩, by show l.length - (k.1 + 1) < l.length - k.1; omega, ?_⟩
      (refine Wk.of ?_ ?_ rfl rfl rfl<;>repeat' (first|exact trivial|exact WkD.same _|refine WkD.int ?_|refine ⟨?_, ?_⟩|(refine wrapA ?_ ?_ ?_;(focus simp;done);(focus (try dsimp only);omega);(focus (try dsimp only);omega))|fail))
      · exact congrArg (fun z : Nat => (z : Int)) (mask_no (q := fun k => (vs.getD (l.getD k (0, 0)).2 0).testBit (l.getD k (0, 0)).1) (by show (vs.getD (l.getD k.1 (0, 0)).2 0).testBit (l.getD k.1 (0, 0)).1 = false; rw [hxw]; exact h))
      · exact bitW_mul k.1
  · have hk' : k.1 = l.length := by have := ge_dec (m := (l.map pairPV).length) h (by simpa using hk); simpa using this
    rw [hk']
    exact .refl _
end Go.Proofs.YtlaolpkgabknfaaGreatDoor
set_option maxRecDepth 100000
set_option maxHeartbeats 4000000
namespace Go.Proofs.YtlaolpkgabknfaaGreatDoor
open Go Go.Dv

theorem rp_Update (m : Mo) (a : Act) (hf : FitM m) (hfa : Fit a) (hl : a.rel.length ≤ 1000) (hp : ∀ l, l ∈ a.post → l.length ≤ 1000) : PureFn Tryz.prog 86 [m.pv, a.pv] (updPV (updI m a)) := by
  refine PureFn.introC [2, 12, 29, 31] mixed (fn := Tryz.f86) rfl rfl rfl fun M w0 => ?_
  have hW := rp_Worlds m a hf hfa hl hp
  obtain ⟨l, e, hX⟩ : ∃ l e, worldsI m a = (l, e) := ⟨_, _, rfl⟩
  have hwo := worldsI_ok (m := m) (a := a)
  rw [updI]
  rw [hX] at hW hwo ⊢
  clear hX
  have e9 : ((l.map pairPV).length : Int) = (l.length : Int) := by simp
  try conv=>whnf
  refine ⟨Unit, fun _ => [(2, .ref 0 0), (3, .ref 1 0), (4, .ref 2 0), (7, .pv (.sl (l.map pairPV))), (8, .pv (.int .i64 e))], fun _ => 3, fun _ => [(0, .var (cellsM m)), (1, .var (cellsA a)), (2, .var cells0)], ?_, ?_⟩
  · (try conv=>whnf);repeat' (first|(refine PureFn.dcq (f := 131) rfl ?_;try conv=>whnf)|(refine ⟨_, _, hW, ?_, ?_⟩;(focus first|(refine ⟨?_, ?_, trivial⟩<;>first|exact PLe.refl _|exact PLe.nil)|exact trivial);try conv=>whnf)|fail)
    exact ⟨(), (by refine Wk.of ?_ ?_ rfl rfl rfl<;>repeat' (first|exact trivial|exact WkD.same _|exact WkO.same _ _ rfl|refine ⟨?_, ?_⟩|fail))⟩
  rintro ⟨⟩
  (try conv=>whnf);repeat' (first|(apply And.intro<;>try conv=>whnf)|(intro h;try conv=>whnf)|fail)
  · rw [show (((l, e) : List (Nat × Nat) × Int).2 != 0) = true from h]; exact le_upd _
  · rename_i h1
    have h9 : decide ((l.length : Int) > 64) = true := by rw [← e9]; exact h
    rw [show (((l, e) : List (Nat × Nat) × Int).2 != 0) = false from h1, show decide ((((l, e) : List (Nat × Nat) × Int).1.length : Int) > 64) = true from h9]
    exact le_upd _
  rename_i h1
  have h2 : decide ((l.length : Int) > 64) = false := by rw [← e9]; exact h
  obtain ⟨hma, hpl, hl1⟩ := hwo (show e = 0 by simpa using h1)
  obtain ⟨⟨n, hM⟩, hAc⟩ := moaI_ok hma
  have hO := actI_ok hAc
  have hn8 := hO.n8
  have hn64 := hM.n64
  have hfa8 := hM.fa
  have hag := hM.ag
  have hpl : l = pairsL m a := hpl
  have hmem : ∀ y, y ∈ l → y.1 < n ∧ y.2 < a.pre.length := fun y hy => by
    rw [hpl, pairsL, hM.nn] at hy
    have := pairsW_mem.1 hy
    exact ⟨this.1, this.2.1⟩
  clear hpl hl1
  have hl64 : l.length ≤ 64 := by have := of_decide_eq_false h2; omega
  have hres : (bif (((l, e) : List (Nat × Nat) × Int).2 != 0) then (noMo, ([] : List (Nat × Nat)), ((l, e) : List (Nat × Nat) × Int).2) else bif decide ((((l, e) : List (Nat × Nat) × Int).1.length : Int) > 64) then (noMo, [], 8) else (prodM m a ((l, e) : List (Nat × Nat) × Int).1, ((l, e) : List (Nat × Nat) × Int).1, (0 : Int))) = (prodM m a l, l, 0) := by
    rw [show (((l, e) : List (Nat × Nat) × Int).2 != 0) = false from h1, show decide ((((l, e) : List (Nat × Nat) × Int).1.length : Int) > 64) = false from h2]; rfl
  rw [hres]
  clear hres
  refine ⟨Unit, fun _ => [(2, .ref 0 0), (3, .ref 1 0), (4, .ref 2 0), (7, .pv (.sl (l.map pairPV))), (9, .ref 3 0)], fun _ => 5, fun _ => [(0, .var (cellsM m)), (1, .var (cellsA a)), (2, .var cells0), (3, .var [.pv (i64 (l.map pairPV).length), .pv (rowPV (vsU m a l m.val.length)), .pv .nil])], ?_, ?_⟩
  · try conv=>whnf
    refine ⟨{ i : Nat // i ≤ m.val.length }, fun i => [(2, .ref 0 0), (3, .ref 1 0), (4, .ref 2 0), (7, .pv (.sl (l.map pairPV))), (9, .ref 3 0), (38, .pv (i64 (m.val.map u64).length)), (39, .pv (i64 i.1))], fun _ => 5, fun i => [(0, .var (cellsM m)), (1, .var (cellsA a)), (2, .var cells0), (3, .var [.pv (i64 (l.map pairPV).length), .buf 4 ((vsU m a l i.1).map u64).length, .pv .nil]), (4, .arr 1 ((vsU m a l i.1).map u64))], fun i => m.val.length - i.1, ⟨⟨0, Nat.zero_le _⟩, (by refine Wk.of ?_ ?_ rfl rfl rfl<;>repeat' (first|exact trivial|exact WkD.same _|exact WkO.same _ _ rfl|exact WkD.new' rfl rfl rfl|exact WkO.new _ _ rfl|refine WkO.vars rfl ?_|exact rfl|refine ⟨?_, ?_⟩|fail))⟩, ?_⟩
    intro i
    have hi := i.2
    have hvs := vsU_succ m a l i.1
    have hvsl : ((vsU m a l i.1).map u64).length ≤ 1000 := by simp [vsU]; omega
    have er : (vsU m a l i.1).map u64 ++ [u64 (valP m a l i.1)] = (vsU m a l (i.1 + 1)).map u64 := by rw [hvs, List.map_append]; rfl
    (try conv=>whnf);repeat' (first|(apply And.intro<;>try conv=>whnf)|(intro h;try conv=>whnf)|fail)
    · have hi' : i.1 < m.val.length := by simpa using lt_dec h
      have hV := rp_value m a l i.1 hf hfa hl hp hma hi' hl64 (fun y hy => ⟨by have := (hmem y hy).1; omega, (hmem y hy).2⟩)
      refine ⟨Plan.lin 0 11, [], by kernel_rfl, ?_⟩
      (try conv=>whnf);repeat' (first|(apply And.intro<;>try conv=>whnf)|(apply cellsI;rfl)|(apply szI;rfl)|(refine ⟨_, (by (conv=>whnf);exact hV), rfl, ?_⟩;try conv=>whnf)|fail)
      · exact app_big (n := 1000) hvsl (by decide)
      · refine ⟨⟨i.1 + 1, hi'⟩, by show m.val.length - (i.1 + 1) < m.val.length - i.1; omega, ?_⟩
        (refine Wk.of ?_ ?_ rfl rfl rfl<;>repeat' (first|exact trivial|exact WkD.same _|exact WkO.same _ _ rfl|exact WkD.eq (congrArg (fun z : List PV => DV.buf _ z.length) er)|exact WkO.same _ _ (congrArg (fun z => some (DObj.arr _ z)) er)|refine WkD.int ?_|refine WkO.vars rfl ?_|refine ⟨?_, ?_⟩|(refine wrapA ?_ ?_ ?_;(focus simp;done);(focus (try dsimp only);omega);(focus (try dsimp only);omega))|fail))
    · obtain ⟨i0, hi0⟩ := i
      have hi' : i0 = m.val.length := by have := ge_dec (m := (m.val.map u64).length) h (by simpa using hi); simpa using this
      subst hi'
      exact ⟨(), (by refine Wk.of ?_ ?_ rfl rfl rfl<;>repeat' (first|exact trivial|exact WkD.same _|exact WkO.same _ _ rfl|exact WkD.fz _ _ _ rfl (Or.inl ⟨_, rfl⟩) rfl|refine WkO.vars rfl ?_|refine ⟨?_, ?_⟩|fail))⟩
  rintro ⟨⟩
  generalize hVS : (vsU m a l m.val.length) = vs
  refine ⟨Unit, fun _ => [(4, .ref 2 0), (7, .pv (.sl (l.map pairPV))), (9, .ref 3 0)], fun _ => 5, fun _ => [(2, .var cells0), (3, .var [.pv (i64 (l.map pairPV).length), .pv (rowPV vs), .pv (.sl ((rsU m a l m.rel.length).map rowPV))])], ?_, ?_⟩
  · try conv=>whnf
    refine ⟨{ i : Nat // i ≤ m.rel.length }, fun i => [(2, .ref 0 0), (3, .ref 1 0), (4, .ref 2 0), (7, .pv (.sl (l.map pairPV))), (9, .ref 3 0), (55, .pv (i64 (m.rel.map rowPV).length)), (56, .pv (i64 i.1))], fun _ => 6, fun i => [(0, .var (cellsM m)), (1, .var (cellsA a)), (2, .var cells0), (3, .var [.pv (i64 (l.map pairPV).length), .pv (rowPV vs), .buf 5 ((rsU m a l i.1).map rowPV).length]), (5, .arr 1 ((rsU m a l i.1).map rowPV))], fun i => m.rel.length - i.1, ⟨⟨0, Nat.zero_le _⟩, (by refine Wk.of ?_ ?_ rfl rfl rfl<;>repeat' (first|exact trivial|exact WkD.same _|exact WkO.same _ _ rfl|exact WkD.new' rfl rfl rfl|exact WkO.new _ _ rfl|refine WkO.vars rfl ?_|exact rfl|refine ⟨?_, ?_⟩|fail))⟩, ?_⟩
    intro i
    have hi := i.2
    (try conv=>whnf);repeat' (first|(apply And.intro<;>try conv=>whnf)|(intro h;try conv=>whnf)|fail)
    · have hi' : i.1 < m.rel.length := by simpa using lt_dec h
      obtain ⟨r, hr, hrw⟩ : ∃ r, m.rel[i.1]? = some r ∧ m.rel.getD i.1 [] = r := ⟨_, getD_mem hi', rfl⟩
      have hrm : r ∈ m.rel := List.mem_iff_getElem?.2 ⟨i.1, hr⟩
      have hrl := hM.rows r hrm
      obtain ⟨ra, hra, hraw⟩ : ∃ r, a.rel[i.1]? = some r ∧ a.rel.getD i.1 [] = r := ⟨_, getD_mem (by have := hO.ags; omega), rfl⟩
      have hram : ra ∈ a.rel := List.mem_iff_getElem?.2 ⟨i.1, hra⟩
      have hral := hO.rows ra hram
      refine ⟨Unit, fun _ => [(2, .ref 0 0), (3, .ref 1 0), (4, .ref 2 0), (7, .pv (.sl (l.map pairPV))), (9, .ref 3 0), (11, .pv (i64 i.1)), (55, .pv (i64 (m.rel.map rowPV).length)), (56, .pv (i64 i.1)), (12, .pv (.sl (l.map fun x => u64 (rowP r ra l x))))], fun _ => 6, fun _ => [(0, .var (cellsM m)), (1, .var (cellsA a)), (2, .var cells0), (3, .var [.pv (i64 (l.map pairPV).length), .pv (rowPV vs), .buf 5 ((rsU m a l i.1).map rowPV).length]), (5, .arr 1 ((rsU m a l i.1).map rowPV))], ?_, ?_⟩
      · try conv=>whnf
        refine ⟨{ k : Nat // k ≤ l.length }, fun k => [(2, .ref 0 0), (3, .ref 1 0), (4, .ref 2 0), (7, .pv (.sl (l.map pairPV))), (9, .ref 3 0), (11, .pv (i64 i.1)), (55, .pv (i64 (m.rel.map rowPV).length)), (56, .pv (i64 i.1)), (12, .buf 6 ((l.take k.1).map fun x => u64 (rowP r ra l x)).length), (59, .pv (.sl (l.map pairPV))), (60, .pv (i64 (l.map pairPV).length)), (61, .pv (i64 k.1))], fun _ => 7, fun k => [(0, .var (cellsM m)), (1, .var (cellsA a)), (2, .var cells0), (3, .var [.pv (i64 (l.map pairPV).length), .pv (rowPV vs), .buf 5 ((rsU m a l i.1).map rowPV).length]), (5, .arr 1 ((rsU m a l i.1).map rowPV)), (6, .arr 1 ((l.take k.1).map fun x => u64 (rowP r ra l x)))], fun k => l.length - k.1, ⟨⟨0, Nat.zero_le _⟩, (by refine Wk.of ?_ ?_ rfl rfl rfl<;>repeat' (first|exact trivial|exact WkD.same _|exact WkO.same _ _ rfl|exact WkD.new' rfl rfl rfl|exact WkO.new _ _ rfl|exact rfl|refine ⟨?_, ?_⟩|fail))⟩, ?_⟩
        intro k
        have hk := k.2
        have hkl : ((l.take k.1).map fun x => u64 (rowP r ra l x)).length ≤ 64 := by simp; omega
        (try conv=>whnf);repeat' (first|(apply And.intro<;>try conv=>whnf)|(intro h;try conv=>whnf)|(apply infoT;rfl)|fail)
        · have hk' : k.1 < l.length := by simpa using lt_dec h
          obtain ⟨x, hx, hxw⟩ : ∃ y, l[k.1]? = some y ∧ l[k.1] = y := ⟨_, List.getElem?_eq_getElem hk', rfl⟩
          have hxm := hmem x (List.mem_iff_getElem?.2 ⟨k.1, hx⟩)
          have hrx : r[x.1]? = some (r.getD x.1 0) := getD_mem (by omega)
          have hrax : ra[x.2]? = some (ra.getD x.2 0) := getD_mem (by omega)
          have hes : ((l.take k.1).map fun x => u64 (rowP r ra l x)) ++ [u64 (rowP r ra l x)] = ((l.take (k.1 + 1)).map fun x => u64 (rowP r ra l x)) := by rw [List.take_succ_eq_append_getElem hk', List.map_append, hxw]; rfl
          refine ⟨_, _, rfl, idx_map hx, rfl, ?_⟩
          try conv=>whnf
          refine ⟨{ j : Nat // j ≤ l.length }, fun j => [(2, .ref 0 0), (3, .ref 1 0), (4, .ref 2 0), (7, .pv (.sl (l.map pairPV))), (9, .ref 3 0), (11, .pv (i64 i.1)), (55, .pv (i64 (m.rel.map rowPV).length)), (56, .pv (i64 i.1)), (12, .buf 6 ((l.take k.1).map fun x => u64 (rowP r ra l x)).length), (14, .ref 7 0), (15, .pv (u64 (maskOf (fun j => seesP r ra x (l.getD j (0, 0))) j.1))), (16, .pv (u64 (bitW j.1))), (59, .pv (.sl (l.map pairPV))), (60, .pv (i64 (l.map pairPV).length)), (61, .pv (i64 k.1)), (65, .pv (.sl (l.map pairPV))), (66, .pv (i64 (l.map pairPV).length)), (67, .pv (i64 j.1))], fun _ => 8, fun j => [(0, .var (cellsM m)), (1, .var (cellsA a)), (2, .var cells0), (3, .var [.pv (i64 (l.map pairPV).length), .pv (rowPV vs), .buf 5 ((rsU m a l i.1).map rowPV).length]), (5, .arr 1 ((rsU m a l i.1).map rowPV)), (6, .arr 1 ((l.take k.1).map fun x => u64 (rowP r ra l x))), (7, .var [.pv (i64 x.1), .pv (i64 x.2)])], fun j => l.length - j.1, ⟨⟨0, Nat.zero_le _⟩, (by refine Wk.of ?_ ?_ rfl rfl rfl<;>repeat' (first|exact trivial|exact WkD.same _|exact WkO.same _ _ rfl|refine ⟨?_, ?_⟩|fail))⟩, ?_⟩
          intro j
          have hj := j.2
          (try conv=>whnf);repeat' (first|(apply And.intro<;>try conv=>whnf)|(intro h;try conv=>whnf)|(apply infoT;rfl)|(apply cellsI;rfl)|(apply szI;rfl)|fail)
          · have hj' : j.1 < l.length := by simpa using lt_dec h
            obtain ⟨y, hy, hyw⟩ : ∃ y, l[j.1]? = some y ∧ l.getD j.1 (0, 0) = y := ⟨_, getD_mem hj', rfl⟩
            have hym := hmem y (List.mem_iff_getElem?.2 ⟨j.1, hy⟩)
            have hA1 := rm_Has (r.getD x.1 0) y.1 (by omega)
            have hA2 := rm_Has (ra.getD x.2 0) y.2 (by omega)
            have hsee : seesP r ra x (l.getD j.1 (0, 0)) = bif (r.getD x.1 0).testBit y.1 then (ra.getD x.2 0).testBit y.2 else false := by rw [hyw]; rfl
            refine ⟨_, _, rfl, idx_map hy, rfl, ?_⟩
            (try conv=>whnf);repeat' (first|(apply And.intro<;>try conv=>whnf)|(intro h;try conv=>whnf)|apply True.intro|(apply infoT;rfl)|(apply WhenQ.mk;(try conv=>whnf);rotate_left;(try conv=>whnf);rotate_right)|with_reducible assumption|(refine lin_plan (by kernel_rfl) ?_;try conv=>whnf)|(refine ⟨_, _, rfl, idx_map (by with_reducible assumption), rfl, ?_⟩;try conv=>whnf)|(refine ⟨_, (by (conv=>whnf);exact hA1), rfl, ?_⟩;try conv=>whnf)|(refine ⟨_, (by (conv=>whnf);exact hA2), rfl, ?_⟩;try conv=>whnf)|fail)
            · refine ⟨⟨j.1 + 1, hj'⟩, by show l.length - (j.1 + 1) < l.length - j.1; omega, ?_⟩
              (refine Wk.of ?_ ?_ rfl rfl rfl<;>repeat' (first|exact trivial|exact WkD.same _|exact WkO.same _ _ rfl|refine WkD.int ?_|refine ⟨?_, ?_⟩|(refine wrapA ?_ ?_ ?_;(focus simp;done);(focus (try dsimp only);omega);(focus (try dsimp only);omega))|fail))
              · exact mask_add (q := fun j => seesP r ra x (l.getD j (0, 0))) (by omega) (by show seesP r ra x (l.getD j.1 (0, 0)) = true; rw [hsee]; exact h)
              · exact bitW_mul j.1
            · refine ⟨⟨j.1 + 1, hj'⟩, by show l.length - (j.1 + 1) < l.length - j.1; omega, ?_⟩
              (refine Wk.of ?_ ?_ rfl rfl rfl<;>repeat' (first|exact trivial|exact WkD.same _|exact WkO.same _ _ rfl|refine WkD.int ?_|refine ⟨?_, ?_⟩|(refine wrapA ?_ ?_ ?_;(focus simp;done);(focus (try dsimp only);omega);(focus (try dsimp only);omega))|fail))
              · exact congrArg (fun z : Nat => (z : Int)) (mask_no (q := fun j => seesP r ra x (l.getD j (0, 0))) (by show seesP r ra x (l.getD j.1 (0, 0)) = false; rw [hsee]; exact h))
              · exact bitW_mul j.1
          · exact app_big (n := 64) hkl (by decide)
          · obtain ⟨j0, hj0⟩ := j
            have hj' : j0 = l.length := by have := ge_dec (m := (l.map pairPV).length) h (by simpa using hj); simpa using this
            subst hj'
            refine ⟨⟨k.1 + 1, hk'⟩, by show l.length - (k.1 + 1) < l.length - k.1; omega, ?_⟩
            (refine Wk.of ?_ ?_ rfl rfl rfl<;>repeat' (first|exact trivial|exact WkD.same _|exact WkO.same _ _ rfl|exact WkD.eq (congrArg (fun z : List PV => DV.buf _ z.length) hes)|exact WkO.same _ _ (congrArg (fun z => some (DObj.arr _ z)) hes)|refine WkD.int ?_|refine ⟨?_, ?_⟩|(refine wrapA ?_ ?_ ?_;(focus simp;done);(focus (try dsimp only);omega);(focus (try dsimp only);omega))|fail))
        · obtain ⟨k0, hk0⟩ := k
          have hk' : k0 = l.length := by have := ge_dec (m := (l.map pairPV).length) h (by simpa using hk); simpa using this
          subst hk'
          have hz : ((l.take l.length).map fun x => u64 (rowP r ra l x)) = (l.map fun x => u64 (rowP r ra l x)) := by rw [List.take_length]
          refine ⟨(), ?_⟩
          rw [← hz]
          (refine Wk.of ?_ ?_ rfl rfl rfl<;>repeat' (first|exact trivial|exact WkD.same _|exact WkO.same _ _ rfl|exact WkD.fz _ _ _ rfl (Or.inl ⟨_, rfl⟩) rfl|refine ⟨?_, ?_⟩|fail))
      rintro ⟨⟩
      have hrs := rsU_succ m a l i.1
      have hrsl : ((rsU m a l i.1).map rowPV).length ≤ 1000 := by simp [rsU]; omega
      have er : (rsU m a l i.1).map rowPV ++ [PV.sl (l.map fun x => u64 (rowP r ra l x))] = (rsU m a l (i.1 + 1)).map rowPV := by
        rw [hrs, List.map_append, relP, hrw, hraw]
        congr 1
        show [PV.sl _] = [rowPV (l.map (rowP r ra l))]
        rw [rowPV, List.map_map]; rfl
      (try conv=>whnf);repeat' (first|(apply And.intro<;>try conv=>whnf)|(apply cellsI;rfl)|(apply szI;rfl)|fail)
      · exact app_big (n := 1000) hrsl (by decide)
      refine ⟨⟨i.1 + 1, hi'⟩, by show m.rel.length - (i.1 + 1) < m.rel.length - i.1; omega, ?_⟩
      (refine Wk.of ?_ ?_ rfl rfl rfl<;>repeat' (first|exact trivial|exact WkD.same _|exact WkO.same _ _ rfl|exact WkD.eq (congrArg (fun z : List PV => DV.buf _ z.length) er)|exact WkO.same _ _ (congrArg (fun z => some (DObj.arr _ z)) er)|refine WkD.int ?_|refine WkO.vars rfl ?_|refine ⟨?_, ?_⟩|(refine wrapA ?_ ?_ ?_;(focus simp;done);(focus (try dsimp only);omega);(focus (try dsimp only);omega))|fail))
    · obtain ⟨i0, hi0⟩ := i
      have hi' : i0 = m.rel.length := by have := ge_dec (m := (m.rel.map rowPV).length) h (by simpa using hi); simpa using this
      subst hi'
      exact ⟨(), (by refine Wk.of ?_ ?_ rfl rfl rfl<;>repeat' (first|exact trivial|exact WkD.same _|exact WkO.same _ _ rfl|exact WkD.fz _ _ _ rfl (Or.inl ⟨_, rfl⟩) rfl|refine WkO.vars rfl ?_|refine ⟨?_, ?_⟩|fail))⟩
  rintro ⟨⟩
  have hfin : updPV (prodM m a l, l, 0) = .tup [.agg [i64 (l.map pairPV).length, rowPV vs, .sl ((rsU m a l m.rel.length).map rowPV)], .sl (l.map pairPV), .int .i64 0] := by rw [← hVS, List.length_map]; rfl
  try conv=>whnf
  rw [hfin]; exact .refl _
end Go.Proofs.YtlaolpkgabknfaaGreatDoor
set_option maxRecDepth 100000
set_option maxHeartbeats 4000000
namespace Go.Proofs.YtlaolpkgabknfaaGreatDoor
open Go Go.Dv

def evtR (acts : List Act) (c : List Nd) (X : Nat) (m : Mo) (n : Nat) (a : Act) (e : Nat) : Nat × Bool :=
  bif possP m a e == 0 then (2 ^ n - 1, true) else bif (updI m a).2.2 != 0 then (0, false) else (evS (e : Nat) ((dvT acts (tree c X) (updI m a).1).getD 0) (updI m a).2.1 0 (notN n (possP m a e)), (dvT acts (tree c X) (updI m a).1).isSome)
theorem rd_event {acts : List Act} {c : List Nd} {A F X I e : Nat} {a : Act} (hS : ∀ a, a ∈ acts → SmA a) (ha : acts[I]? = some a) (he : e < a.pre.length) (hev : ∀ m' n', ModD acts m' n' A F → PureFn Tryz.prog 39 [m'.pv, actsPV acts, fpv c, i64 X] (evP (dvT acts (tree c X) m'))) {m : Mo} {n : Nat} (hM : ModD acts m n A F) (op gi yy : Int) :
    PureFn Tryz.prog 67 [m.pv, actsPV acts, fpv c, Nd.pv ⟨op, (I : Nat), (e : Nat), gi, (X : Nat), yy⟩] (.tup [u64 (evtR acts c X m n a e).1, .bool (evtR acts c X m n a e).2]) := by
  have hO := hM.okd.okm
  have hnn : m.n.toNat = n := by rw [hO.nn, Int.toNat_natCast]
  have hn64 := hO.n64
  have h64 := pow64_le hn64
  have hA := rm_All n hn64
  rw [show i64 n = .int .i64 m.n by rw [hO.nn]; rfl] at hA
  have ham : a ∈ acts := List.mem_iff_getElem?.2 ⟨I, ha⟩
  have hSa := hS a ham
  have hmo : moaI m a = 0 := by rw [moaI, ok_moI hO]; exact hM.okd.act a ham
  obtain ⟨hh, hlt⟩ := pre_holds hmo he
  rw [hnn] at hlt
  have hH := rc_Holds m (a.pre.getD e []) hO.fit
  rw [hh] at hH
  have hU := rp_Update m a hO.fit hSa.fit hSa.rel hSa.post
  have hix := idx_map (g := Act.pv) ha
  have hie : (a.pre.map fpv)[e]? = some (fpv (a.pre.getD e [])) := idx_map (getD_mem he)
  have e0 : evtR acts c X m n a e = bif possP m a e == 0 then (2 ^ n - 1, true) else bif (updI m a).2.2 != 0 then (0, false) else (evS (e : Nat) ((dvT acts (tree c X) (updI m a).1).getD 0) (updI m a).2.1 0 (notN n (possP m a e)), (dvT acts (tree c X) (updI m a).1).isSome) := rfl
  generalize evtR acts c X m n a e = R at e0
  generalize a.pre.getD e [] = g at hH hie
  generalize possP m a e = P at hH hlt e0
  by_cases h0 : P = 0
  · have f2 : ((P : Int) == 0) = true := by simpa using h0
    rw [h0] at e0
    have e0 : R = (2 ^ n - 1, true) := e0
    subst e0
    rw [h0] at hH
    have f3 : ((0 : Int) == 0) = true := rfl
    refine PureFn.intro mixed (fn := Tryz.f67) rfl rfl rfl fun M w0 => ?_
    (try conv=>whnf);repeat' (first|(apply And.intro<;>try conv=>whnf)|(apply infoT;rfl)|(refine lin_plan (by kernel_rfl) ?_;try conv=>whnf)|(refine ⟨_, _, rfl, idx_map (by with_reducible assumption), rfl, ?_⟩;try conv=>whnf)|(refine PureFn.dcq (f := 20) rfl ?_;try conv=>whnf)|(refine ⟨_, _, hA, ?_, ?_⟩;(focus first|(refine ⟨?_, trivial⟩<;>first|exact PLe.refl _|exact PLe.nil)|exact trivial);try conv=>whnf)|fail)
    refine ⟨_, _, rfl, hie, rfl, ?_⟩
    (try conv=>whnf);repeat' (first|(apply And.intro<;>try conv=>whnf)|(intro h;try conv=>whnf)|(refine ⟨_, (by (conv=>whnf);exact hH), rfl, ?_⟩;try conv=>whnf)|fail)
    · exact .refl _
    · exact absurd (show ((0 : Int) == 0) = false from h) (by decide)
  · have f2 : ((P : Int) == 0) = false := by simpa using h0
    rw [show (P == 0) = false by simpa using h0, cond_false] at e0
    obtain ⟨⟨p, ps, er⟩, hUe⟩ : ∃ U, updI m a = U := ⟨_, rfl⟩
    have hlp := fun h => (hM.okd.upd (a := a) h)
    have hlu := fun h => updI_ok (m := m) (a := a) h
    rw [hUe] at hU e0 hlp hlu
    by_cases h1 : er = 0
    · subst h1
      have f0 : ((0 : Int) != 0) = false := rfl
      obtain ⟨hDp, hq⟩ := hlp rfl
      obtain ⟨_, _, k3, _, _⟩ := hlu rfl
      have hE := hev p ps.length ⟨hDp, by rw [show p = _ from k3, ← hM.ra]; simp [prodM], by rw [show p = _ from k3, ← hM.rf]; simp [prodM]⟩
      simp only at e0
      generalize dvT acts (tree c X) p = o at hE e0
      refine PureFn.introC [4, 7, 10] mixed (fn := Tryz.f67) rfl rfl rfl fun M w0 => ?_
      (try conv=>whnf);repeat' (first|(apply And.intro<;>try conv=>whnf)|(apply infoT;rfl)|(refine ⟨_, _, rfl, idx_map (by with_reducible assumption), rfl, ?_⟩;try conv=>whnf)|(refine PureFn.dcq (f := 20) rfl ?_;try conv=>whnf)|(refine ⟨_, _, hA, ?_, ?_⟩;(focus first|(refine ⟨?_, trivial⟩<;>first|exact PLe.refl _|exact PLe.nil)|exact trivial);try conv=>whnf)|fail)
      refine ⟨Unit, fun _ => [(1, .pv (actsPV acts)), (2, .pv (fpv c)), (4, .ref 0 0), (7, .ref 1 0), (10, .pv (u64 (2 ^ n - 1))), (11, .ref 2 0), (12, .pv (u64 P))], fun _ => 3, fun _ => [(0, .var (cellsM m)), (1, .var (Nd.dvs ⟨op, (I : Nat), (e : Nat), gi, (X : Nat), yy⟩)), (2, .var (actDV a))], ?_, ?_⟩
      · (try conv=>whnf);repeat' (first|(apply And.intro<;>try conv=>whnf)|(apply infoT;rfl)|(refine lin_plan (by kernel_rfl) ?_;try conv=>whnf)|fail)
        refine ⟨_, _, rfl, hie, rfl, ?_⟩
        (try conv=>whnf);repeat' (first|(refine ⟨_, (by (conv=>whnf);exact hH), rfl, ?_⟩;try conv=>whnf)|fail)
        exact ⟨(), (by refine Wk.of ?_ ?_ rfl rfl rfl<;>repeat' (first|exact trivial|exact WkD.same _|exact WkO.same _ _ rfl|refine ⟨?_, ?_⟩|fail))⟩
      rintro ⟨⟩
      (try conv=>whnf);repeat' (first|(apply And.intro<;>try conv=>whnf)|(intro h;first|with_reducible exact tf h (by assumption)|try conv=>whnf)|fail)
      refine ⟨Unit, fun _ => [(1, .pv (actsPV acts)), (2, .pv (fpv c)), (4, .ref 0 0), (7, .ref 1 0), (10, .pv (u64 (2 ^ n - 1))), (12, .pv (u64 P)), (14, .ref 3 0), (15, .pv (.sl (ps.map pairPV))), (16, .pv (.int .i64 0))], fun _ => 4, fun _ => [(0, .var (cellsM m)), (1, .var (Nd.dvs ⟨op, (I : Nat), (e : Nat), gi, (X : Nat), yy⟩)), (3, .var (cellsM p))], ?_, ?_⟩
      · (try conv=>whnf);repeat' (first|(refine PureFn.dcq (f := 86) rfl ?_;try conv=>whnf)|(refine ⟨_, _, hU, ?_, ?_⟩;(focus first|(refine ⟨?_, ?_, trivial⟩<;>first|exact PLe.refl _|exact PLe.nil)|exact trivial);try conv=>whnf)|fail)
        exact ⟨(), (by refine Wk.of ?_ ?_ rfl rfl rfl<;>repeat' (first|exact trivial|exact WkD.same _|exact WkO.same _ _ rfl|refine ⟨?_, ?_⟩|fail))⟩
      rintro ⟨⟩
      (try conv=>whnf);repeat' (first|(apply And.intro<;>try conv=>whnf)|(intro h;first|with_reducible exact tf h (by assumption)|try conv=>whnf)|fail)
      refine ⟨Unit, fun _ => [(7, .ref 1 0), (10, .pv (u64 (2 ^ n - 1))), (12, .pv (u64 P)), (15, .pv (.sl (ps.map pairPV))), (17, .pv (u64 (o.getD 0))), (18, .pv (.bool o.isSome))], fun _ => 4, fun _ => [(1, .var (Nd.dvs ⟨op, (I : Nat), (e : Nat), gi, (X : Nat), yy⟩))], ?_, ?_⟩
      · (try conv=>whnf);repeat' (first|(refine PureFn.dcq (f := 39) rfl ?_;try conv=>whnf)|(refine ⟨_, _, hE, ?_, ?_⟩;(focus first|(refine ⟨?_, ?_, ?_, ?_, trivial⟩<;>first|exact PLe.refl _|exact PLe.nil)|exact trivial);try conv=>whnf)|fail)
        exact ⟨(), (by refine Wk.of ?_ ?_ rfl rfl rfl<;>repeat' (first|exact trivial|exact WkD.same _|exact WkO.same _ _ rfl|refine ⟨?_, ?_⟩|fail))⟩
      rintro ⟨⟩
      have hps : ps.length ≤ 64 := hDp.okm.n64
      try conv=>whnf
      refine ⟨{ q : Nat × Nat // q.1 ≤ ps.length ∧ q.2 < 2 ^ n ∧ evS (e : Nat) (o.getD 0) (ps.drop q.1) q.1 q.2 = evS (e : Nat) (o.getD 0) ps 0 (notN n P) }, fun q => [(7, .ref 1 0), (15, .pv (.sl (ps.map pairPV))), (17, .pv (u64 (o.getD 0))), (18, .pv (.bool o.isSome)), (19, .pv (u64 q.1.2)), (20, .pv (i64 q.1.1))], fun _ => 4, fun _ => [(1, .var (Nd.dvs ⟨op, (I : Nat), (e : Nat), gi, (X : Nat), yy⟩))], fun q => ps.length - q.1.1, ⟨⟨(0, notN n P), Nat.zero_le _, notN_lt n P, rfl⟩, ?_⟩, ?_⟩
      · (refine Wk.of ?_ ?_ rfl rfl rfl<;>repeat' (first|exact trivial|exact WkD.same _|exact WkO.same _ _ rfl|refine WkD.int ?_|refine ⟨?_, ?_⟩|fail))
        exact andNotU_all hn64
      rintro ⟨⟨i, acc⟩, hi, hacc, hd⟩
      simp only at hi hacc hd
      (try conv=>whnf);repeat' (first|(apply And.intro<;>try conv=>whnf)|(intro h;try conv=>whnf)|(apply infoT;rfl)|(refine lin_plan (by kernel_rfl) ?_;try conv=>whnf)|fail)
      · have hi' : i < ps.length := by simpa using lt_dec h
        obtain ⟨⟨w, d⟩, hx⟩ : ∃ y, ps[i]? = some y := ⟨_, List.getElem?_eq_getElem hi'⟩
        have hwn := hq (w, d) (List.mem_iff_getElem?.2 ⟨_, hx⟩)
        have hH2 := rm_Has (o.getD 0) i (by omega)
        have hpi := idx_map (g := pairPV) hx
        rw [evS_drop hx] at hd
        have hd : evS (e : Nat) (o.getD 0) (ps.drop (i + 1)) (i + 1) (bif (bif ((d : Int) == (e : Int)) then (o.getD 0).testBit i else false) then acc ||| 2 ^ w else acc) = evS (e : Nat) (o.getD 0) ps 0 (notN n P) := hd
        have hwn : w < n := hwn
        clear h
        cases hde : ((d : Int) == (e : Int)) with
        | false =>
          have g1 : (bif ((d : Int) == (e : Int)) then false else false) = false := by rw [hde]; rfl
          (try conv=>whnf);repeat' (first|(apply And.intro<;>try conv=>whnf)|(intro h;first|with_reducible exact tf h (by assumption)|try conv=>whnf)|(apply whenOff;(focus with_reducible assumption);try conv=>whnf)|(refine ⟨_, _, rfl, idx_map (by with_reducible assumption), rfl, ?_⟩;try conv=>whnf)|fail)
          rw [hde, cond_false, cond_false] at hd
          exact ⟨⟨(i + 1, acc), hi', hacc, hd⟩, by show ps.length - (i + 1) < ps.length - i; omega, (by refine Wk.of ?_ ?_ rfl rfl rfl<;>repeat' (first|exact trivial|exact WkD.same _|exact WkO.same _ _ rfl|refine WkD.int ?_|refine ⟨?_, ?_⟩|(refine wrapA ?_ ?_ ?_;(focus simp;done);(focus (try dsimp only);omega);(focus (try dsimp only);omega))|fail))⟩
        | true =>
          rw [hde, cond_true] at hd
          (try conv=>whnf);repeat' (first|(apply And.intro<;>try conv=>whnf)|(intro h;try conv=>whnf)|apply True.intro|(apply infoT;rfl)|(apply WhenQ.mk;(try conv=>whnf);rotate_left;(try conv=>whnf);rotate_right)|with_reducible assumption|(refine ⟨_, _, rfl, idx_map (by with_reducible assumption), rfl, ?_⟩;try conv=>whnf)|(refine ⟨_, (by (conv=>whnf);exact hH2), rfl, ?_⟩;try conv=>whnf)|fail)
          · exact Int.natCast_nonneg _
          · have h9 : (bif ((d : Int) == (e : Int)) then (o.getD 0).testBit i else false) = true := h
            rw [hde, cond_true] at h9
            rw [h9, cond_true] at hd
            have hor : orU (acc : Nat) (shlU 1 (w : Nat)) = ((acc ||| 2 ^ w : Nat) : Int) := by
              rw [show shlU 1 (w : Nat) = ((2 ^ w : Nat) : Int) from shlU_one (by omega), orU_nat (by omega) (Nat.pow_lt_pow_right (by decide) (by omega))]
            refine ⟨⟨(i + 1, acc ||| 2 ^ w), hi', Nat.or_lt_two_pow hacc (Nat.pow_lt_pow_right (by decide) hwn), hd⟩, by show ps.length - (i + 1) < ps.length - i; omega, ?_⟩
            (refine Wk.of ?_ ?_ rfl rfl rfl<;>repeat' (first|exact trivial|exact WkD.same _|exact WkO.same _ _ rfl|refine WkD.int ?_|refine ⟨?_, ?_⟩|(refine wrapA ?_ ?_ ?_;(focus simp;done);(focus (try dsimp only);omega);(focus (try dsimp only);omega))|fail))
            exact hor
          · have h9 : (bif ((d : Int) == (e : Int)) then (o.getD 0).testBit i else false) = false := h
            rw [hde, cond_true] at h9
            rw [h9, cond_false] at hd
            exact ⟨⟨(i + 1, acc), hi', hacc, hd⟩, by show ps.length - (i + 1) < ps.length - i; omega, (by refine Wk.of ?_ ?_ rfl rfl rfl<;>repeat' (first|exact trivial|exact WkD.same _|exact WkO.same _ _ rfl|refine WkD.int ?_|refine ⟨?_, ?_⟩|(refine wrapA ?_ ?_ ?_;(focus simp;done);(focus (try dsimp only);omega);(focus (try dsimp only);omega))|fail))⟩
      · have hi' : i = ps.length := by have := ge_dec (m := (ps.map pairPV).length) h (by simpa using hi); simpa using this
        rw [hi', List.drop_length] at hd
        have hd : acc = evS (e : Nat) (o.getD 0) ps 0 (notN n P) := hd
        rw [hd.symm] at e0
        have e0 : R = (acc, o.isSome) := e0
        subst e0
        exact .refl _
    · have f0 : (er != 0) = true := by simpa using h1
      rw [show (er != 0) = true from f0] at e0
      have e0 : R = (0, false) := e0
      subst e0
      refine PureFn.introC [4] mixed (fn := Tryz.f67) rfl rfl rfl fun M w0 => ?_
      (try conv=>whnf);repeat' (first|(apply And.intro<;>try conv=>whnf)|(apply infoT;rfl)|(refine ⟨_, _, rfl, idx_map (by with_reducible assumption), rfl, ?_⟩;try conv=>whnf)|(refine PureFn.dcq (f := 20) rfl ?_;try conv=>whnf)|(refine ⟨_, _, hA, ?_, ?_⟩;(focus first|(refine ⟨?_, trivial⟩<;>first|exact PLe.refl _|exact PLe.nil)|exact trivial);try conv=>whnf)|fail)
      refine ⟨Unit, fun _ => [(1, .pv (actsPV acts)), (2, .pv (fpv c)), (4, .ref 0 0), (7, .ref 1 0), (10, .pv (u64 (2 ^ n - 1))), (11, .ref 2 0), (12, .pv (u64 P))], fun _ => 3, fun _ => [(0, .var (cellsM m)), (1, .var (Nd.dvs ⟨op, (I : Nat), (e : Nat), gi, (X : Nat), yy⟩)), (2, .var (actDV a))], ?_, ?_⟩
      · (try conv=>whnf);repeat' (first|(apply And.intro<;>try conv=>whnf)|(apply infoT;rfl)|(refine lin_plan (by kernel_rfl) ?_;try conv=>whnf)|fail)
        refine ⟨_, _, rfl, hie, rfl, ?_⟩
        (try conv=>whnf);repeat' (first|(refine ⟨_, (by (conv=>whnf);exact hH), rfl, ?_⟩;try conv=>whnf)|fail)
        exact ⟨(), (by refine Wk.of ?_ ?_ rfl rfl rfl<;>repeat' (first|exact trivial|exact WkD.same _|exact WkO.same _ _ rfl|refine ⟨?_, ?_⟩|fail))⟩
      rintro ⟨⟩
      (try conv=>whnf);repeat' (first|(apply And.intro<;>try conv=>whnf)|(intro h;first|with_reducible exact tf h (by assumption)|with_reducible exact tf (by assumption) h|try conv=>whnf)|(refine PureFn.dcq (f := 86) rfl ?_;try conv=>whnf)|(refine ⟨_, _, hU, ?_, ?_⟩;(focus first|(refine ⟨?_, ?_, trivial⟩<;>first|exact PLe.refl _|exact PLe.nil)|exact trivial);try conv=>whnf)|fail)
      exact .refl _
end Go.Proofs.YtlaolpkgabknfaaGreatDoor
set_option maxRecDepth 100000
set_option maxHeartbeats 8000000
namespace Go.Proofs.YtlaolpkgabknfaaGreatDoor
open Go Go.Dv

theorem annR_V {acts : List Act} {c : List Nd} {Y n s : Nat} {m : Mo} : annV acts c Y m n s = bif (annR acts c Y m n s).2 then some (annR acts c Y m n s).1 else none := by
  unfold annV annR
  cases h : (s == 0) with
  | true => rfl
  | false =>
    rw [cond_false, cond_false]
    cases dvT acts (tree c Y) (arrI m (memL s)) <;> rfl
theorem evtR_V {acts : List Act} {c : List Nd} {X n e : Nat} {m : Mo} {a : Act} (hn : m.n.toNat = n) (he : e < a.pre.length) (hP : possP m a e < 2 ^ n) : evtV acts c X m n a e = bif (evtR acts c X m n a e).2 then some (evtR acts c X m n a e).1 else none := by
  unfold evtV evtR
  rw [show (holdsI m (a.pre.getD e [])).1 = possP m a e from rfl]
  cases h : (possP m a e == 0) with
  | true => rfl
  | false =>
    rw [cond_false, cond_false]
    cases hu : ((updI m a).2.2 != 0) with
    | true => rfl
    | false =>
      rw [cond_false, cond_false, ev_eq hn he (by simpa using hu) hP]
      cases dvT acts (tree c X) (updI m a).1 <;> rfl
theorem annR_lt {acts : List Act} {c : List Nd} {Y n s : Nat} {m : Mo} (hs : s < 2 ^ n) : (annR acts c Y m n s).1 < 2 ^ n := by
  unfold annR
  cases h : (s == 0) with
  | true => show 2 ^ n - 1 < 2 ^ n; have := Nat.two_pow_pos n; omega
  | false => exact sprG_lt (fun w hw => bit_lt hs (memL_mem.1 hw).2) (notN_lt n s)
theorem evtR_lt {acts : List Act} {c : List Nd} {X n e : Nat} {m : Mo} {a : Act} (hM : OkD acts m n) : (evtR acts c X m n a e).1 < 2 ^ n := by
  unfold evtR
  cases h : (possP m a e == 0) with
  | true => show 2 ^ n - 1 < 2 ^ n; have := Nat.two_pow_pos n; omega
  | false =>
    rw [cond_false]
    cases hu : ((updI m a).2.2 != 0) with
    | true => exact Nat.two_pow_pos n
    | false => exact evS_lt (hM.upd (by simpa using hu)).2 (notN_lt n _)
theorem cx_fit {A F : Nat} {acts : List Act} {c : List Nd} (hC : CxD A F acts c) {x : Nd} (hx : x ∈ c) (h1 : 1 ≤ x.op) (h13 : x.op ≤ 13) {m : Mo} (hA : m.rel.length = A) (hF : m.val.length = F) : fitQ m x.op x.i x.e x.g = true := by
  have f1 := hC.fact x hx
  have f2 := hC.ag x hx
  have f3 := hC.gr x hx
  obtain ⟨op, fi, ei, gi, xx, yy⟩ := x
  simp only at *
  unfold fitQ
  rw [hA, hF]
  have : op = 1 ∨ op = 2 ∨ op = 3 ∨ op = 4 ∨ op = 5 ∨ op = 6 ∨ op = 7 ∨ op = 8 ∨ op = 9 ∨ op = 10 ∨ op = 11 ∨ op = 12 ∨ op = 13 := by omega
  rcases this with rfl | rfl | rfl | rfl | rfl | rfl | rfl | rfl | rfl | rfl | rfl | rfl | rfl
  · rfl
  · rfl
  · show (!decide (fi ≥ (F : Int))) = true
    rw [decide_eq_false (by have := f1 rfl; omega)]; rfl
  · rfl
  · rfl
  · rfl
  · rfl
  · rfl
  · show (!decide (fi ≥ (A : Int))) = true
    rw [decide_eq_false (by have := f2 (by simp); omega)]; rfl
  · show (!decide (fi ≥ (A : Int))) = true
    rw [decide_eq_false (by have := f2 (by simp); omega)]; rfl
  · show (!decide (gi ≥ shl64 1 (A : Int))) = true
    rw [decide_eq_false (by have := f3 (by simp); omega)]; rfl
  · show (!decide (gi ≥ shl64 1 (A : Int))) = true
    rw [decide_eq_false (by have := f3 (by simp); omega)]; rfl
  · show (!decide (gi ≥ shl64 1 (A : Int))) = true
    rw [decide_eq_false (by have := f3 (by simp); omega)]; rfl
theorem rd_eval {acts : List Act} {c : List Nd} {A F : Nat} (hC : CxD A F acts c) (hS : ∀ a, a ∈ acts → SmA a) (root : Nat) : root < c.length → ∀ m n, ModD acts m n A F → PureFn Tryz.prog 39 [m.pv, actsPV acts, fpv c, i64 root] (evP (dvT acts (tree c root) m)) := by
  induction root using Nat.strongRecOn with
  | ind root ih =>
  intro hr m n hM
  have hO := hM.okd.okm
  have hnn : m.n.toNat = n := by rw [hO.nn, Int.toNat_natCast]
  have hn64 := hO.n64
  have h64 := pow64_le hn64
  have hlen := hC.len
  have hN := rd_needed c root hr hlen hC.okl
  have hnl : (needL c root).length = root + 1 := by rw [needL, needG_len]; simp [needI]
  have hnr := need_root (c := c) hr
  have hnone := fun j => need_none hC.okl (acts := acts) (m := m) hr (j := j)
  have hkid := fun i x => need_kid hC.okl hr (i := i) (x := x)
  generalize needL c root = nd at hN hnl hnr hnone hkid
  refine PureFn.introC [19] mixed (fn := Tryz.f39) rfl rfl rfl fun M w0 => ?_
  (try conv=>whnf);repeat' (first|(refine PureFn.dcq (f := 65) rfl ?_;try conv=>whnf)|(refine ⟨_, _, hN, ?_, ?_⟩;(focus first|(refine ⟨?_, ?_, trivial⟩<;>first|exact PLe.refl _|exact PLe.nil)|exact trivial);try conv=>whnf)|fail)
  refine ⟨{ L : List Nat // L.length ≤ root + 1 ∧ (∀ s, s ∈ L → s < 2 ^ n) ∧ ∀ j, j < L.length → nd.getD j false = true → dvT acts (tree c j) m = some (L.getD j 0) }, fun L => [(1, .pv (actsPV acts)), (2, .pv (fpv c)), (3, .pv (i64 root)), (4, .ref 0 0), (10, .pv (.sl (nd.map PV.bool))), (11, .buf 1 (L.1.map u64).length), (12, .pv (i64 L.1.length))], fun _ => 2, fun L => [(0, .var (cellsM m)), (1, .arr 1 (L.1.map u64))], fun L => root + 1 - L.1.length, ⟨⟨[], Nat.zero_le _, (by intro s hs; cases hs), (by intro j hj; exact absurd hj (Nat.not_lt_zero j))⟩, (by refine Wk.of ?_ ?_ rfl rfl rfl<;>repeat' (first|exact trivial|exact WkD.same _|exact WkO.same _ _ rfl|exact WkD.new' rfl rfl rfl|exact WkO.new _ _ rfl|exact rfl|refine ⟨?_, ?_⟩|fail))⟩, ?_⟩
  rintro ⟨L, hL, hLb, hI⟩
  (try conv=>whnf);repeat' (first|(apply And.intro<;>try conv=>whnf)|(intro h;try conv=>whnf)|(apply infoT;rfl)|fail)
  · have hi' : L.length ≤ root := by have := of_decide_eq_true (show decide ((L.length : Int) ≤ (root : Int)) = true from h); omega
    clear h
    obtain ⟨i, hie⟩ : ∃ i, i = L.length := ⟨_, rfl⟩
    obtain ⟨x, hx⟩ : ∃ y, c[i]? = some y := ⟨_, List.getElem?_eq_getElem (by omega)⟩
    have hok := hC.okl i x hx
    have hxm : x ∈ c := List.mem_iff_getElem?.2 ⟨i, hx⟩
    have hix := idx_map (g := Nd.pv) hx
    obtain ⟨b, hb⟩ : ∃ b, nd.getD i false = b := ⟨_, rfl⟩
    have hgn : (nd.map PV.bool)[i]? = some (PV.bool b) := by rw [List.getElem?_map, getD_mem (d := false) (by omega), hb]; rfl
    have hkd := hkid i x (by omega) hx
    have htr := tree_nd hC.okl hx
    have hno := hnone i
    rw [hie] at hix hgn
    obtain ⟨op, fi, ei, gi, xx, yy⟩ := x
    refine ⟨_, _, rfl, hix, rfl, ?_⟩
    try conv=>whnf
    refine ⟨{ v : Nat × Bool // (v.2 = true → v.1 < 2 ^ n ∧ (nd.getD i false = true → dvT acts (tree c i) m = some v.1)) ∧ (v.2 = false → dvT acts (tree c root) m = none) }, fun v => [(1, .pv (actsPV acts)), (2, .pv (fpv c)), (3, .pv (i64 root)), (4, .ref 0 0), (10, .pv (.sl (nd.map PV.bool))), (11, .buf 1 (L.map u64).length), (12, .pv (i64 L.length)), (13, .pv (u64 v.1.1)), (14, .pv (.bool v.1.2))], fun _ => 2, fun _ => [(0, .var (cellsM m)), (1, .arr 1 (L.map u64))], ?_, ?_⟩
    · rcases Bool.eq_false_or_eq_true b with hbt | hbf
      · cases h16 : (op == 16) with
        | true =>
          have e16 : op = 16 := by simpa using h16
          have hux : usesX op = true := by rw [e16]; rfl
          have huy : usesY op = true := by rw [e16]; rfl
          obtain ⟨hx0, hx1⟩ := hok.x hux
          obtain ⟨hy0, hy1⟩ := hok.y huy
          simp only at hx0 hx1 hy0 hy1
          obtain ⟨X, rfl⟩ : ∃ X : Nat, xx = X := ⟨xx.toNat, by omega⟩
          obtain ⟨Y, rfl⟩ : ∃ Y : Nat, yy = Y := ⟨yy.toNat, by omega⟩
          have hnX := (hkd (hb.trans hbt)).1 (by unfold kidX; simp only; rw [hux, e16]; rfl)
          simp only [Int.toNat_natCast] at hnX
          have hsX := hI X (by omega) hnX
          have hsl : L.getD X 0 < 2 ^ n := hLb _ (List.mem_iff_getElem?.2 ⟨X, getD_mem (d := 0) (show X < L.length by omega)⟩)
          have hgX : (L.map u64)[X]? = some (u64 (L.getD X 0)) := idx_map (getD_mem (by omega))
          have hB := rd_announced (fun m' n' h => ih Y (by omega) (by omega) m' n' h) hM hsl op fi ei gi (X : Nat)
          have hlt := annR_lt (acts := acts) (c := c) (Y := Y) (m := m) hsl
          have hV := annV_dvT (acts := acts) (c := c) (Y := Y) (i := fi) (e := ei) (g := gi) hnn hsX
          rw [annR_V] at hV
          rw [hux, huy, cond_true, cond_true] at htr
          simp only [Int.toNat_natCast] at htr
          rw [e16] at htr
          rw [← htr] at hV
          generalize annR acts c Y m n (L.getD X 0) = R at hB hlt hV
          generalize L.getD X 0 = sX at hB hgX
          (try conv=>whnf);repeat' (first|(apply And.intro<;>try conv=>whnf)|(apply infoT;rfl)|fail)
          refine ⟨_, _, rfl, hgn, rfl, ?_⟩
          (try conv=>whnf);repeat' (first|(apply And.intro<;>try conv=>whnf)|(intro h;try conv=>whnf)|apply True.intro|(apply infoT;rfl)|(apply WhenQ.mk;(try conv=>whnf);rotate_left;(try conv=>whnf);rotate_right)|with_reducible assumption|(refine lin_plan (by kernel_rfl) ?_;try conv=>whnf)|fail)
          · refine ⟨X, rfl, ?_, ?_⟩
            · show X < (L.map u64).length
              rw [List.length_map]; omega
            (try conv=>whnf);repeat' (first|(apply And.intro<;>try conv=>whnf)|(apply ex2;(focus with_reducible assumption);try conv=>whnf)|(refine ⟨_, (by (conv=>whnf);exact hB), rfl, ?_⟩;try conv=>whnf)|fail)
            exact ⟨⟨R, fun h9 => ⟨hlt, fun _ => by rw [hV, h9]; rfl⟩, fun h9 => hno (hb.trans hbt) (by rw [hV, h9]; rfl)⟩, (by refine Wk.of ?_ ?_ rfl rfl rfl<;>repeat' (first|exact trivial|exact WkD.same _|exact WkO.same _ _ rfl|refine ⟨?_, ?_⟩|fail))⟩
          · exfalso
            have h9 : (bif b then (op == 16) else false) = false := h
            rw [hbt, h16] at h9
            cases h9
        | false =>
          cases h17 : (op == 17) with
          | true =>
            have e17 : op = 17 := by simpa using h17
            have hux : usesX op = true := by rw [e17]; rfl
            obtain ⟨hx0, hx1⟩ := hok.x hux
            obtain ⟨hi0, hi1, he0, he1⟩ := hC.ev _ hxm e17
            simp only at hx0 hx1 hi0 hi1 he0 he1
            obtain ⟨X, rfl⟩ : ∃ X : Nat, xx = X := ⟨xx.toNat, by omega⟩
            obtain ⟨I, rfl⟩ : ∃ X : Nat, fi = X := ⟨fi.toNat, by omega⟩
            obtain ⟨E, rfl⟩ : ∃ X : Nat, ei = X := ⟨ei.toNat, by omega⟩
            simp only [Int.toNat_natCast] at he1
            obtain ⟨a, ha, had⟩ : ∃ a, acts[I]? = some a ∧ acts.getD I noAct = a := ⟨_, getD_mem (by omega), rfl⟩
            rw [had] at he1
            have he : E < a.pre.length := by omega
            have hmo : moaI m a = 0 := by rw [moaI, ok_moI hO]; exact hM.okd.act a (List.mem_iff_getElem?.2 ⟨I, ha⟩)
            have hP := (pre_holds hmo he).2
            rw [hnn] at hP
            have hB := rd_event hS ha he (fun m' n' h => ih X (by omega) (by omega) m' n' h) hM op gi yy
            have hlt := evtR_lt (c := c) (X := X) (e := E) (a := a) hM.okd
            have hV := evtV_dvT (acts := acts) (c := c) (X := X) (e := E) (i := (I : Int)) (g := gi) (b := bif usesY op then tree c yy.toNat else .none) hnn
            rw [Int.toNat_natCast, had, evtR_V hnn he hP] at hV
            rw [hux, cond_true] at htr
            simp only [Int.toNat_natCast] at htr
            rw [← e17, ← htr] at hV
            generalize evtR acts c X m n a E = R at hB hlt hV
            (try conv=>whnf);repeat' (first|(apply And.intro<;>try conv=>whnf)|(apply infoT;rfl)|fail)
            refine ⟨_, _, rfl, hgn, rfl, ?_⟩
            (try conv=>whnf);repeat' (first|(apply And.intro<;>try conv=>whnf)|(intro h;try conv=>whnf)|apply True.intro|(apply infoT;rfl)|(apply WhenQ.mk;(try conv=>whnf);rotate_left;(try conv=>whnf);rotate_right)|with_reducible assumption|(refine lin_plan (by kernel_rfl) ?_;try conv=>whnf)|fail)
            · exfalso
              have h9 : (bif b then (op == 16) else false) = true := h
              rw [hbt, h16] at h9
              cases h9
            · refine ⟨_, _, rfl, hgn, rfl, ?_⟩
              (try conv=>whnf);repeat' (first|(apply And.intro<;>try conv=>whnf)|(intro h;try conv=>whnf)|apply True.intro|(apply infoT;rfl)|(apply WhenQ.mk;(try conv=>whnf);rotate_left;(try conv=>whnf);rotate_right)|with_reducible assumption|(refine PureFn.dcq (f := 67) rfl ?_;try conv=>whnf)|(refine ⟨_, _, hB, ?_, ?_⟩;(focus first|(refine ⟨?_, ?_, ?_, ?_, trivial⟩<;>first|exact PLe.refl _|exact PLe.nil)|exact trivial);try conv=>whnf)|fail)
              · exact ⟨⟨R, fun h9 => ⟨hlt, fun _ => by rw [hV, h9]; rfl⟩, fun h9 => hno (hb.trans hbt) (by rw [hV, h9]; rfl)⟩, (by refine Wk.of ?_ ?_ rfl rfl rfl<;>repeat' (first|exact trivial|exact WkD.same _|exact WkO.same _ _ rfl|refine ⟨?_, ?_⟩|fail))⟩
              · exfalso
                have h9 : (bif b then (op == 17) else false) = false := h
                rw [hbt, h17] at h9
                cases h9
          | false =>
            have hop : op ≤ 13 := by
              rcases hC.op _ hxm with h9 | h9 | h9
              · exact h9
              · rw [show op = 16 from h9] at h16; cases h16
              · rw [show op = 17 from h9] at h17; cases h17
            have hq := cx_fit hC hxm hok.op.1 hop hM.ra hM.rf
            simp only at hq
            cases hux : usesX op with
            | true =>
              cases huy : usesY op with
              | true =>
                have hux0 := hok.x hux
                simp only at hux0
                obtain ⟨X, rfl⟩ : ∃ q : Nat, xx = q := ⟨xx.toNat, by omega⟩
                have hnX := (hkd (hb.trans hbt)).1 (by unfold kidX; simp only; rw [hux, h17]; rfl)
                simp only [Int.toNat_natCast] at hnX
                have hsX := hI X (by omega) hnX
                have hlX : L.getD X 0 < 2 ^ n := hLb _ (List.mem_iff_getElem?.2 ⟨X, getD_mem (d := 0) (show X < L.length by omega)⟩)
                have hgX : (L.map u64)[X]? = some (u64 (L.getD X 0)) := idx_map (getD_mem (by omega))
                have huy0 := hok.y huy
                simp only at huy0
                obtain ⟨Y, rfl⟩ : ∃ q : Nat, yy = q := ⟨yy.toNat, by omega⟩
                have hnY := (hkd (hb.trans hbt)).2 (by unfold kidY; simp only; rw [huy, h16]; rfl)
                simp only [Int.toNat_natCast] at hnY
                have hsY := hI Y (by omega) hnY
                have hlY : L.getD Y 0 < 2 ^ n := hLb _ (List.mem_iff_getElem?.2 ⟨Y, getD_mem (d := 0) (show Y < L.length by omega)⟩)
                have hgY : (L.map u64)[Y]? = some (u64 (L.getD Y 0)) := idx_map (getD_mem (by omega))
                have hB := rc_One m n hO ⟨op, fi, ei, gi, (X : Nat), (Y : Nat)⟩ i hok hq (L.getD X 0) (L.getD Y 0) hlX hlY
                have hV : dvT acts (tree c i) m = some (vlN m n op fi gi (L.getD X 0) (L.getD Y 0)) := by
                  rw [htr]
                  simp only [hux, huy, cond_true, Int.toNat_natCast]
                  rw [dv_st h16 h17, hsX, hsY, hnn]
                have hlt : vlN m n op fi gi (L.getD X 0) (L.getD Y 0) < 2 ^ n := vlN_lt hO.vbits hlX hlY
                simp only at hB
                generalize vlN m n op fi gi (L.getD X 0) (L.getD Y 0) = R at hB hV hlt
                generalize L.getD X 0 = sX at hB hgX
                generalize L.getD Y 0 = sY at hB hgY
                (try conv=>whnf);repeat' (first|(apply And.intro<;>try conv=>whnf)|(apply infoT;rfl)|fail)
                refine ⟨_, _, rfl, hgn, rfl, ?_⟩
                (try conv=>whnf);repeat' (first|(apply And.intro<;>try conv=>whnf)|(intro h;try conv=>whnf)|apply True.intro|(apply infoT;rfl)|(apply WhenQ.mk;(try conv=>whnf);rotate_left;(try conv=>whnf);rotate_right)|with_reducible assumption|(refine lin_plan (by kernel_rfl) ?_;try conv=>whnf)|fail)
                · exfalso
                  have h9 : (bif b then (op == 16) else false) = true := h
                  rw [hbt, h16] at h9
                  cases h9
                refine ⟨_, _, rfl, hgn, rfl, ?_⟩
                (try conv=>whnf);repeat' (first|(apply And.intro<;>try conv=>whnf)|(intro h;try conv=>whnf)|apply True.intro|(apply infoT;rfl)|(apply WhenQ.mk;(try conv=>whnf);rotate_left;(try conv=>whnf);rotate_right)|with_reducible assumption|fail)
                · exfalso
                  have h9 : (bif b then (op == 17) else false) = true := h
                  rw [hbt, h17] at h9
                  cases h9
                refine ⟨_, _, rfl, hgn, rfl, ?_⟩
                (try conv=>whnf);repeat' (first|(apply And.intro<;>try conv=>whnf)|(intro h;first|with_reducible exact tf (by assumption) h|try conv=>whnf)|(refine PureFn.dcq (f := 68) rfl ?_;try conv=>whnf)|(refine ⟨_, _, ref_UsesX ?_, ?_, ?_⟩;rotate_left 1;(focus first|(refine ⟨?_, trivial⟩<;>first|exact PLe.refl _|exact PLe.nil)|exact trivial);try conv=>whnf)|fail)
                refine ⟨X, rfl, ?_, ?_⟩
                · show X < (L.map u64).length
                  rw [List.length_map]; omega
                (try conv=>whnf);repeat' (first|(apply And.intro<;>try conv=>whnf)|(intro h;first|with_reducible exact tf (by assumption) h|try conv=>whnf)|(apply ex2;(focus with_reducible assumption);try conv=>whnf)|(refine PureFn.dcq (f := 69) rfl ?_;try conv=>whnf)|(refine ⟨_, _, ref_UsesY ?_, ?_, ?_⟩;rotate_left 1;(focus first|(refine ⟨?_, trivial⟩<;>first|exact PLe.refl _|exact PLe.nil)|exact trivial);try conv=>whnf)|fail)
                refine ⟨Y, rfl, ?_, ?_⟩
                · show Y < (L.map u64).length
                  rw [List.length_map]; omega
                (try conv=>whnf);repeat' (first|(apply And.intro<;>try conv=>whnf)|(apply ex2;(focus with_reducible assumption);try conv=>whnf)|(refine PureFn.dcq (f := 70) rfl ?_;try conv=>whnf)|(refine ⟨_, _, hB, ?_, ?_⟩;(focus first|(refine ⟨?_, ?_, ?_, ?_, trivial⟩<;>first|exact PLe.refl _|exact PLe.nil)|exact trivial);try conv=>whnf)|fail)
                exact ⟨⟨(R, true), fun _ => ⟨hlt, fun _ => hV⟩, fun h9 => by cases h9⟩, (by refine Wk.of ?_ ?_ rfl rfl rfl<;>repeat' (first|exact trivial|exact WkD.same _|exact WkO.same _ _ rfl|refine ⟨?_, ?_⟩|fail))⟩
              | false =>
                have hux0 := hok.x hux
                simp only at hux0
                obtain ⟨X, rfl⟩ : ∃ q : Nat, xx = q := ⟨xx.toNat, by omega⟩
                have hnX := (hkd (hb.trans hbt)).1 (by unfold kidX; simp only; rw [hux, h17]; rfl)
                simp only [Int.toNat_natCast] at hnX
                have hsX := hI X (by omega) hnX
                have hlX : L.getD X 0 < 2 ^ n := hLb _ (List.mem_iff_getElem?.2 ⟨X, getD_mem (d := 0) (show X < L.length by omega)⟩)
                have hgX : (L.map u64)[X]? = some (u64 (L.getD X 0)) := idx_map (getD_mem (by omega))
                have hB := rc_One m n hO ⟨op, fi, ei, gi, (X : Nat), yy⟩ i hok hq (L.getD X 0) 0 hlX (Nat.two_pow_pos n)
                have hV : dvT acts (tree c i) m = some (vlN m n op fi gi (L.getD X 0) 0) := by
                  rw [htr]
                  simp only [hux, huy, cond_true, cond_false, Int.toNat_natCast]
                  rw [dv_st h16 h17, hsX, show dvT acts .none m = some 0 from rfl, hnn]
                have hlt : vlN m n op fi gi (L.getD X 0) 0 < 2 ^ n := vlN_lt hO.vbits hlX (Nat.two_pow_pos n)
                simp only at hB
                generalize vlN m n op fi gi (L.getD X 0) 0 = R at hB hV hlt
                generalize L.getD X 0 = sX at hB hgX
                (try conv=>whnf);repeat' (first|(apply And.intro<;>try conv=>whnf)|(apply infoT;rfl)|fail)
                refine ⟨_, _, rfl, hgn, rfl, ?_⟩
                (try conv=>whnf);repeat' (first|(apply And.intro<;>try conv=>whnf)|(intro h;try conv=>whnf)|apply True.intro|(apply infoT;rfl)|(apply WhenQ.mk;(try conv=>whnf);rotate_left;(try conv=>whnf);rotate_right)|with_reducible assumption|(refine lin_plan (by kernel_rfl) ?_;try conv=>whnf)|fail)
                · exfalso
                  have h9 : (bif b then (op == 16) else false) = true := h
                  rw [hbt, h16] at h9
                  cases h9
                refine ⟨_, _, rfl, hgn, rfl, ?_⟩
                (try conv=>whnf);repeat' (first|(apply And.intro<;>try conv=>whnf)|(intro h;try conv=>whnf)|apply True.intro|(apply infoT;rfl)|(apply WhenQ.mk;(try conv=>whnf);rotate_left;(try conv=>whnf);rotate_right)|with_reducible assumption|fail)
                · exfalso
                  have h9 : (bif b then (op == 17) else false) = true := h
                  rw [hbt, h17] at h9
                  cases h9
                refine ⟨_, _, rfl, hgn, rfl, ?_⟩
                (try conv=>whnf);repeat' (first|(apply And.intro<;>try conv=>whnf)|(intro h;first|with_reducible exact tf (by assumption) h|try conv=>whnf)|(refine PureFn.dcq (f := 68) rfl ?_;try conv=>whnf)|(refine ⟨_, _, ref_UsesX ?_, ?_, ?_⟩;rotate_left 1;(focus first|(refine ⟨?_, trivial⟩<;>first|exact PLe.refl _|exact PLe.nil)|exact trivial);try conv=>whnf)|fail)
                refine ⟨X, rfl, ?_, ?_⟩
                · show X < (L.map u64).length
                  rw [List.length_map]; omega
                (try conv=>whnf);repeat' (first|(apply And.intro<;>try conv=>whnf)|(intro h;first|with_reducible exact tf h (by assumption)|try conv=>whnf)|(apply ex2;(focus with_reducible assumption);try conv=>whnf)|(refine PureFn.dcq (f := 69) rfl ?_;try conv=>whnf)|(refine PureFn.dcq (f := 70) rfl ?_;try conv=>whnf)|(refine ⟨_, _, ref_UsesY ?_, ?_, ?_⟩;rotate_left 1;(focus first|(refine ⟨?_, trivial⟩<;>first|exact PLe.refl _|exact PLe.nil)|exact trivial);try conv=>whnf)|(refine ⟨_, _, hB, ?_, ?_⟩;(focus first|(refine ⟨?_, ?_, ?_, ?_, trivial⟩<;>first|exact PLe.refl _|exact PLe.nil)|exact trivial);try conv=>whnf)|fail)
                exact ⟨⟨(R, true), fun _ => ⟨hlt, fun _ => hV⟩, fun h9 => by cases h9⟩, (by refine Wk.of ?_ ?_ rfl rfl rfl<;>repeat' (first|exact trivial|exact WkD.same _|exact WkO.same _ _ rfl|refine ⟨?_, ?_⟩|fail))⟩
            | false =>
              cases huy : usesY op with
              | true =>
                have huy0 := hok.y huy
                simp only at huy0
                obtain ⟨Y, rfl⟩ : ∃ q : Nat, yy = q := ⟨yy.toNat, by omega⟩
                have hnY := (hkd (hb.trans hbt)).2 (by unfold kidY; simp only; rw [huy, h16]; rfl)
                simp only [Int.toNat_natCast] at hnY
                have hsY := hI Y (by omega) hnY
                have hlY : L.getD Y 0 < 2 ^ n := hLb _ (List.mem_iff_getElem?.2 ⟨Y, getD_mem (d := 0) (show Y < L.length by omega)⟩)
                have hgY : (L.map u64)[Y]? = some (u64 (L.getD Y 0)) := idx_map (getD_mem (by omega))
                have hB := rc_One m n hO ⟨op, fi, ei, gi, xx, (Y : Nat)⟩ i hok hq 0 (L.getD Y 0) (Nat.two_pow_pos n) hlY
                have hV : dvT acts (tree c i) m = some (vlN m n op fi gi 0 (L.getD Y 0)) := by
                  rw [htr]
                  simp only [hux, huy, cond_true, cond_false, Int.toNat_natCast]
                  rw [dv_st h16 h17, show dvT acts .none m = some 0 from rfl, hsY, hnn]
                have hlt : vlN m n op fi gi 0 (L.getD Y 0) < 2 ^ n := vlN_lt hO.vbits (Nat.two_pow_pos n) hlY
                simp only at hB
                generalize vlN m n op fi gi 0 (L.getD Y 0) = R at hB hV hlt
                generalize L.getD Y 0 = sY at hB hgY
                (try conv=>whnf);repeat' (first|(apply And.intro<;>try conv=>whnf)|(apply infoT;rfl)|fail)
                refine ⟨_, _, rfl, hgn, rfl, ?_⟩
                (try conv=>whnf);repeat' (first|(apply And.intro<;>try conv=>whnf)|(intro h;try conv=>whnf)|apply True.intro|(apply infoT;rfl)|(apply WhenQ.mk;(try conv=>whnf);rotate_left;(try conv=>whnf);rotate_right)|with_reducible assumption|(refine lin_plan (by kernel_rfl) ?_;try conv=>whnf)|fail)
                · exfalso
                  have h9 : (bif b then (op == 16) else false) = true := h
                  rw [hbt, h16] at h9
                  cases h9
                refine ⟨_, _, rfl, hgn, rfl, ?_⟩
                (try conv=>whnf);repeat' (first|(apply And.intro<;>try conv=>whnf)|(intro h;try conv=>whnf)|apply True.intro|(apply infoT;rfl)|(apply WhenQ.mk;(try conv=>whnf);rotate_left;(try conv=>whnf);rotate_right)|with_reducible assumption|fail)
                · exfalso
                  have h9 : (bif b then (op == 17) else false) = true := h
                  rw [hbt, h17] at h9
                  cases h9
                refine ⟨_, _, rfl, hgn, rfl, ?_⟩
                (try conv=>whnf);repeat' (first|(apply And.intro<;>try conv=>whnf)|(intro h;first|with_reducible exact tf h (by assumption)|with_reducible exact tf (by assumption) h|try conv=>whnf)|(refine PureFn.dcq (f := 68) rfl ?_;try conv=>whnf)|(refine PureFn.dcq (f := 69) rfl ?_;try conv=>whnf)|(refine ⟨_, _, ref_UsesX ?_, ?_, ?_⟩;rotate_left 1;(focus first|(refine ⟨?_, trivial⟩<;>first|exact PLe.refl _|exact PLe.nil)|exact trivial);try conv=>whnf)|(refine ⟨_, _, ref_UsesY ?_, ?_, ?_⟩;rotate_left 1;(focus first|(refine ⟨?_, trivial⟩<;>first|exact PLe.refl _|exact PLe.nil)|exact trivial);try conv=>whnf)|fail)
                refine ⟨Y, rfl, ?_, ?_⟩
                · show Y < (L.map u64).length
                  rw [List.length_map]; omega
                (try conv=>whnf);repeat' (first|(apply And.intro<;>try conv=>whnf)|(apply ex2;(focus with_reducible assumption);try conv=>whnf)|(refine PureFn.dcq (f := 70) rfl ?_;try conv=>whnf)|(refine ⟨_, _, hB, ?_, ?_⟩;(focus first|(refine ⟨?_, ?_, ?_, ?_, trivial⟩<;>first|exact PLe.refl _|exact PLe.nil)|exact trivial);try conv=>whnf)|fail)
                exact ⟨⟨(R, true), fun _ => ⟨hlt, fun _ => hV⟩, fun h9 => by cases h9⟩, (by refine Wk.of ?_ ?_ rfl rfl rfl<;>repeat' (first|exact trivial|exact WkD.same _|exact WkO.same _ _ rfl|refine ⟨?_, ?_⟩|fail))⟩
              | false =>
                have hB := rc_One m n hO ⟨op, fi, ei, gi, xx, yy⟩ i hok hq 0 0 (Nat.two_pow_pos n) (Nat.two_pow_pos n)
                have hV : dvT acts (tree c i) m = some (vlN m n op fi gi 0 0) := by
                  rw [htr]
                  simp only [hux, huy, cond_false]
                  rw [dv_st h16 h17, show dvT acts .none m = some 0 from rfl, hnn]
                have hlt : vlN m n op fi gi 0 0 < 2 ^ n := vlN_lt hO.vbits (Nat.two_pow_pos n) (Nat.two_pow_pos n)
                simp only at hB
                generalize vlN m n op fi gi 0 0 = R at hB hV hlt
                (try conv=>whnf);repeat' (first|(apply And.intro<;>try conv=>whnf)|(apply infoT;rfl)|fail)
                refine ⟨_, _, rfl, hgn, rfl, ?_⟩
                (try conv=>whnf);repeat' (first|(apply And.intro<;>try conv=>whnf)|(intro h;try conv=>whnf)|apply True.intro|(apply infoT;rfl)|(apply WhenQ.mk;(try conv=>whnf);rotate_left;(try conv=>whnf);rotate_right)|with_reducible assumption|(refine lin_plan (by kernel_rfl) ?_;try conv=>whnf)|fail)
                · exfalso
                  have h9 : (bif b then (op == 16) else false) = true := h
                  rw [hbt, h16] at h9
                  cases h9
                refine ⟨_, _, rfl, hgn, rfl, ?_⟩
                (try conv=>whnf);repeat' (first|(apply And.intro<;>try conv=>whnf)|(intro h;try conv=>whnf)|apply True.intro|(apply infoT;rfl)|(apply WhenQ.mk;(try conv=>whnf);rotate_left;(try conv=>whnf);rotate_right)|with_reducible assumption|fail)
                · exfalso
                  have h9 : (bif b then (op == 17) else false) = true := h
                  rw [hbt, h17] at h9
                  cases h9
                refine ⟨_, _, rfl, hgn, rfl, ?_⟩
                (try conv=>whnf);repeat' (first|(apply And.intro<;>try conv=>whnf)|(intro h;first|with_reducible exact tf h (by assumption)|with_reducible exact tf (by assumption) h|try conv=>whnf)|(refine PureFn.dcq (f := 68) rfl ?_;try conv=>whnf)|(refine PureFn.dcq (f := 69) rfl ?_;try conv=>whnf)|(refine PureFn.dcq (f := 70) rfl ?_;try conv=>whnf)|(refine ⟨_, _, ref_UsesX ?_, ?_, ?_⟩;rotate_left 1;(focus first|(refine ⟨?_, trivial⟩<;>first|exact PLe.refl _|exact PLe.nil)|exact trivial);try conv=>whnf)|(refine ⟨_, _, ref_UsesY ?_, ?_, ?_⟩;rotate_left 1;(focus first|(refine ⟨?_, trivial⟩<;>first|exact PLe.refl _|exact PLe.nil)|exact trivial);try conv=>whnf)|(refine ⟨_, _, hB, ?_, ?_⟩;(focus first|(refine ⟨?_, ?_, ?_, ?_, trivial⟩<;>first|exact PLe.refl _|exact PLe.nil)|exact trivial);try conv=>whnf)|fail)
                exact ⟨⟨(R, true), fun _ => ⟨hlt, fun _ => hV⟩, fun h9 => by cases h9⟩, (by refine Wk.of ?_ ?_ rfl rfl rfl<;>repeat' (first|exact trivial|exact WkD.same _|exact WkO.same _ _ rfl|refine ⟨?_, ?_⟩|fail))⟩
      · have g1 : (bif b then false else false) = false := by rw [hbf]; rfl
        (try conv=>whnf);repeat' (first|(apply And.intro<;>try conv=>whnf)|(apply infoT;rfl)|fail)
        refine ⟨_, _, rfl, hgn, rfl, ?_⟩
        (try conv=>whnf);repeat' (first|(apply And.intro<;>try conv=>whnf)|(intro h;first|with_reducible exact tf h (by assumption)|try conv=>whnf)|(apply infoT;rfl)|(apply whenOff;(focus with_reducible assumption);try conv=>whnf)|fail)
        refine ⟨_, _, rfl, hgn, rfl, ?_⟩
        (try conv=>whnf);repeat' (first|(apply And.intro<;>try conv=>whnf)|(intro h;first|with_reducible exact tf h (by assumption)|try conv=>whnf)|(apply infoT;rfl)|(apply whenOff;(focus with_reducible assumption);try conv=>whnf)|fail)
        refine ⟨_, _, rfl, hgn, rfl, ?_⟩
        (try conv=>whnf);repeat' (first|(apply And.intro<;>try conv=>whnf)|(intro h;first|with_reducible exact tf h (by assumption)|try conv=>whnf)|fail)
        exact ⟨⟨(0, true), fun _ => ⟨Nat.two_pow_pos n, fun h9 => by rw [hb, hbf] at h9; cases h9⟩, fun h9 => by cases h9⟩, (by refine Wk.of ?_ ?_ rfl rfl rfl<;>repeat' (first|exact trivial|exact WkD.same _|exact WkO.same _ _ rfl|refine ⟨?_, ?_⟩|fail))⟩
    rintro ⟨⟨v, ok⟩, hv1, hv2⟩
    simp only at hv1 hv2
    (try conv=>whnf);repeat' (first|(apply And.intro<;>try conv=>whnf)|(intro h;try conv=>whnf)|(apply cellsI;rfl)|(apply szI;rfl)|fail)
    · have hk : ok = false := by simpa using (show (!ok) = true from h)
      rw [hv2 hk]; exact .refl _
    · show (L.map u64).length + 1 ≤ 4294967296
      rw [List.length_map]; omega
    · have hk : ok = true := by simpa using (show (!ok) = false from h)
      obtain ⟨hv3, hv4⟩ := hv1 hk
      have hes : L.map u64 ++ [PV.int .u64 ((v : Nat) : Int)] = (L ++ [v]).map u64 := by rw [List.map_append]; rfl
      refine ⟨⟨L ++ [v], by simp; omega, fun s hs => ?_, fun j hj hn => ?_⟩, by show root + 1 - (L ++ [v]).length < root + 1 - L.length; simp; omega, ?_⟩
      · rcases List.mem_append.1 hs with h1 | h1
        · exact hLb s h1
        · rw [List.mem_singleton.1 h1]; exact hv3
      · rw [List.getD_eq_getElem?_getD]
        by_cases hji : j < L.length
        · rw [List.getElem?_append_left hji, ← List.getD_eq_getElem?_getD]; exact hI j hji hn
        · have hji : j = L.length := by simp at hj; omega
          rw [hji, List.getElem?_append_right (Nat.le_refl _), Nat.sub_self]
          rw [hji, ← hie] at hn
          rw [← hie]; exact hv4 hn
      · (refine Wk.of ?_ ?_ rfl rfl rfl<;>repeat' (first|exact trivial|exact WkD.same _|exact WkO.same _ _ rfl|exact WkD.eq (congrArg (fun z : List PV => DV.buf _ z.length) hes)|exact WkO.same _ _ (congrArg (fun z => some (DObj.arr _ z)) hes)|refine WkD.int ?_|refine ⟨?_, ?_⟩|(refine wrapA ?_ ?_ ?_;(focus simp;done);(focus (try dsimp only);omega);(focus (try dsimp only);omega))|fail))
  have hi' : L.length = root + 1 := by have := of_decide_eq_false (show decide ((L.length : Int) ≤ (root : Int)) = false from h); omega
  have hgl : (L.map u64)[root]? = some (u64 (L.getD root 0)) := idx_map (getD_mem (by omega))
  refine ⟨root, rfl, by simp; omega, ?_⟩
  (try conv=>whnf);repeat' (first|(apply And.intro<;>try conv=>whnf)|(apply ex2;(focus with_reducible assumption);try conv=>whnf)|fail)
  rw [hI root (by omega) hnr]
  exact .refl _
end Go.Proofs.YtlaolpkgabknfaaGreatDoor
set_option maxRecDepth 100000
set_option maxHeartbeats 8000000
namespace Go.Proofs.YtlaolpkgabknfaaGreatDoor
open Go Go.Dv

def lenR (a : Act) : Bool := bif bif decide ((a.pre.length : Int) > 10) then true else decide ((a.post.length : Int) > 10) then true else decide ((a.rel.length : Int) > 6)
def rowsR (l : List (List Nat)) : Bool := l.any fun r => decide ((r.length : Int) > 12)
def badR (a : Act) : Bool := bif lenR a then true else bif preB 40 a.pre then true else bif postB 40 a.post then true else rowsR a.rel
def fewR (acts : List Act) : Bool := bif decide ((acts.length : Int) > 10) then false else !acts.any badR
theorem fewR_ok {acts : List Act} (h : fewR acts = true) : acts.length ≤ 10 ∧ ∀ a, a ∈ acts → a.pre.length ≤ 10 ∧ a.post.length ≤ 10 ∧ a.rel.length ≤ 6 ∧ (∀ f, f ∈ a.pre → f.length ≤ 40) ∧ ∀ l, l ∈ a.post → l.length ≤ 12 := by
  unfold fewR at h
  cases h1 : decide ((acts.length : Int) > 10) with
  | true => rw [h1] at h; cases h
  | false =>
    rw [h1, cond_false] at h
    have := of_decide_eq_false h1
    refine ⟨by omega, fun a ha => ?_⟩
    have hb : badR a = false := by
      have := List.any_eq_false.1 (show acts.any badR = false by simpa using h) a ha
      simpa using this
    unfold badR at hb
    cases h2 : lenR a with
    | true => rw [h2] at hb; cases hb
    | false =>
      rw [h2, cond_false] at hb
      cases h3 : preB 40 a.pre with
      | true => rw [h3] at hb; cases hb
      | false =>
        rw [h3, cond_false] at hb
        cases h4 : postB 40 a.post with
        | true => rw [h4] at hb; cases hb
        | false =>
          unfold lenR at h2
          cases q1 : decide ((a.pre.length : Int) > 10) with
          | true => rw [q1] at h2; cases h2
          | false =>
            cases q2 : decide ((a.post.length : Int) > 10) with
            | true => rw [q1, q2] at h2; cases h2
            | false =>
              rw [q1, q2] at h2
              have g1 := of_decide_eq_false q1
              have g2 := of_decide_eq_false q2
              have g3 := of_decide_eq_false (show decide ((a.rel.length : Int) > 6) = false from h2)
              refine ⟨by omega, by omega, by omega, fun f hf => ?_, fun l hl => ?_⟩
              · have := List.any_eq_false.1 h3 f hf
                have := of_decide_eq_false (show decide ((f.length : Int) > 40) = false by simpa using this)
                omega
              · have := List.any_eq_false.1 h4 l hl
                cases q : decide ((l.length : Int) > 12) with
                | true => rw [q] at this; exact absurd rfl this
                | false => have := of_decide_eq_false q; omega
theorem rd_Few (acts : List Act) : PureFn Tryz.prog 32 [actsPV acts] (.bool (fewR acts)) := by
  have e0 : ((acts.map Act.pv).length : Int) = (acts.length : Int) := by simp
  refine PureFn.introC [8, 13, 23] mixed (fn := Tryz.f32) rfl rfl rfl fun M w0 => ?_
  (try conv=>whnf);repeat' (first|(apply And.intro<;>try conv=>whnf)|(intro h;try conv=>whnf)|fail)
  · rw [fewR, ← e0, show decide (((acts.map Act.pv).length : Int) > 10) = true from h]; exact .refl _
  rw [show fewR acts = !acts.any badR by rw [fewR, ← e0, show decide (((acts.map Act.pv).length : Int) > 10) = false from h]; rfl]
  have hal : acts.length ≤ 10 := by have := of_decide_eq_false h; simp at this; omega
  clear h
  refine ⟨{ i : Nat // i ≤ acts.length ∧ (acts.take i).any badR = false }, fun i => [(0, .pv (actsPV acts)), (3, .pv (i64 i.1))], fun _ => 0, fun _ => [], fun i => acts.length - i.1, ⟨⟨0, Nat.zero_le _, rfl⟩, (by refine Wk.of ?_ ?_ rfl rfl rfl<;>repeat' (first|exact trivial|exact WkD.same _|refine ⟨?_, ?_⟩|fail))⟩, ?_⟩
  rintro ⟨i, hi, hb⟩
  (try conv=>whnf);repeat' (first|(apply And.intro<;>try conv=>whnf)|(intro h;try conv=>whnf)|fail)
  · have hi' : i < acts.length := by simpa using lt_dec h
    have hat := any_at (p := badR) hi'
    have htk := any_take (p := badR) hi' hb
    obtain ⟨a, hn, hr⟩ : ∃ a, acts[i]? = some a ∧ acts[i] = a := ⟨_, List.getElem?_eq_getElem hi', rfl⟩
    rw [hr] at hat htk
    have e1 : ((a.pre.map fpv).length : Int) = (a.pre.length : Int) := by simp
    have e2 : ((a.post.map postPV).length : Int) = (a.post.length : Int) := by simp
    have e3 : ((a.rel.map rowPV).length : Int) = (a.rel.length : Int) := by simp
    clear h
    refine ⟨{ _x : Unit // lenR a = false }, fun _ => [(0, .pv (actsPV acts)), (3, .pv (i64 i))], fun _ => 0, fun _ => [], ?_, ?_⟩
    · (try conv=>whnf);repeat' (first|(apply And.intro<;>try conv=>whnf)|(intro h;try conv=>whnf)|apply True.intro|(apply infoT;rfl)|(apply WhenQ.mk;(try conv=>whnf);rotate_left;(try conv=>whnf);rotate_right)|with_reducible assumption|(apply not_of;with_reducible assumption)|(refine ⟨_, _, rfl, idx_map (by with_reducible assumption), rfl, ?_⟩;try conv=>whnf)|fail)
      · have h9 : lenR a = true := by rw [lenR, ← e1, ← e2, ← e3]; exact h
        rw [hat (by rw [badR, h9]; rfl)]; exact .refl _
      · exact ⟨⟨(), by rw [lenR, ← e1, ← e2, ← e3]; exact h⟩, (by refine Wk.of ?_ ?_ rfl rfl rfl<;>repeat' (first|exact trivial|exact WkD.same _|refine ⟨?_, ?_⟩|fail))⟩
    rintro ⟨_, h1⟩
    have hb1 : a.pre.length ≤ 10 ∧ a.post.length ≤ 10 ∧ a.rel.length ≤ 6 := by
      unfold lenR at h1
      cases q1 : decide ((a.pre.length : Int) > 10) with
      | true => rw [q1] at h1; cases h1
      | false =>
        cases q2 : decide ((a.post.length : Int) > 10) with
        | true => rw [q1, q2] at h1; cases h1
        | false =>
          rw [q1, q2] at h1
          have g1 := of_decide_eq_false q1
          have g2 := of_decide_eq_false q2
          have g3 := of_decide_eq_false (show decide ((a.rel.length : Int) > 6) = false from h1)
          exact ⟨by omega, by omega, by omega⟩
    refine ⟨{ _x : Unit // preB 40 a.pre = false }, fun _ => [(0, .pv (actsPV acts)), (3, .pv (i64 i))], fun _ => 0, fun _ => [], ?_, ?_⟩
    · try conv=>whnf
      refine ⟨{ k : Nat // k ≤ a.pre.length ∧ preB 40 (a.pre.take k) = false }, fun k => [(0, .pv (actsPV acts)), (3, .pv (i64 i)), (4, .pv (i64 k.1))], fun _ => 0, fun _ => [], fun k => a.pre.length - k.1, ⟨⟨0, Nat.zero_le _, rfl⟩, (by refine Wk.of ?_ ?_ rfl rfl rfl<;>repeat' (first|exact trivial|exact WkD.same _|refine ⟨?_, ?_⟩|fail))⟩, ?_⟩
      rintro ⟨k, hk, hc⟩
      (try conv=>whnf);repeat' (first|(apply And.intro<;>try conv=>whnf)|(intro h;try conv=>whnf)|(apply infoT;rfl)|(refine ⟨_, _, rfl, idx_map (by with_reducible assumption), rfl, ?_⟩;try conv=>whnf)|fail)
      · have hk' : k < a.pre.length := by simpa using lt_dec h
        have hkn : a.pre[k]? = some a.pre[k] := List.getElem?_eq_getElem hk'
        have e4 : ((a.pre[k].map Nd.pv).length : Int) = (a.pre[k].length : Int) := by simp
        (try conv=>whnf);repeat' (first|(apply And.intro<;>try conv=>whnf)|(intro h;try conv=>whnf)|(refine ⟨_, _, rfl, idx_map (by with_reducible assumption), rfl, ?_⟩;try conv=>whnf)|fail)
        · have h9 : preB 40 a.pre = true := any_at (p := fun f : List Nd => decide ((f.length : Int) > 40)) hk' (by rw [← e4]; exact h)
          rw [hat (by rw [badR, h1, h9]; rfl)]; exact .refl _
        · exact ⟨⟨k + 1, hk', any_take (p := fun f : List Nd => decide ((f.length : Int) > 40)) hk' hc (by rw [← e4]; exact h)⟩, by show a.pre.length - (k + 1) < a.pre.length - k; omega, (by refine Wk.of ?_ ?_ rfl rfl rfl<;>repeat' (first|exact trivial|exact WkD.same _|refine WkD.int ?_|refine ⟨?_, ?_⟩|(refine wrapA ?_ ?_ ?_;(focus simp;done);(focus (try dsimp only);omega);(focus (try dsimp only);omega))|fail))⟩
      · have hk' : k = a.pre.length := by have := ge_dec (m := (a.pre.map fpv).length) h (by simpa using hk); simpa using this
        subst hk'
        rw [List.take_length] at hc
        exact ⟨⟨(), hc⟩, (by refine Wk.of ?_ ?_ rfl rfl rfl<;>repeat' (first|exact trivial|exact WkD.same _|refine ⟨?_, ?_⟩|fail))⟩
    rintro ⟨_, h2⟩
    refine ⟨{ _x : Unit // postB 40 a.post = false }, fun _ => [(0, .pv (actsPV acts)), (3, .pv (i64 i))], fun _ => 0, fun _ => [], ?_, ?_⟩
    · try conv=>whnf
      refine ⟨{ k : Nat // k ≤ a.post.length ∧ postB 40 (a.post.take k) = false }, fun k => [(0, .pv (actsPV acts)), (3, .pv (i64 i)), (5, .pv (i64 k.1))], fun _ => 0, fun _ => [], fun k => a.post.length - k.1, ⟨⟨0, Nat.zero_le _, rfl⟩, (by refine Wk.of ?_ ?_ rfl rfl rfl<;>repeat' (first|exact trivial|exact WkD.same _|refine ⟨?_, ?_⟩|fail))⟩, ?_⟩
      rintro ⟨k, hk, hc⟩
      (try conv=>whnf);repeat' (first|(apply And.intro<;>try conv=>whnf)|(intro h;try conv=>whnf)|(apply infoT;rfl)|(refine ⟨_, _, rfl, idx_map (by with_reducible assumption), rfl, ?_⟩;try conv=>whnf)|fail)
      · have hk' : k < a.post.length := by simpa using lt_dec h
        have hat2 := any_at (p := fun l : List Asg => bif decide ((l.length : Int) > 12) then true else asgB 40 l) hk'
        have htk2 := any_take (p := fun l : List Asg => bif decide ((l.length : Int) > 12) then true else asgB 40 l) hk' hc
        obtain ⟨l, hkn, hkr⟩ : ∃ l, a.post[k]? = some l ∧ a.post[k] = l := ⟨_, List.getElem?_eq_getElem hk', rfl⟩
        rw [hkr] at hat2 htk2
        have e4 : ((l.map Asg.pv).length : Int) = (l.length : Int) := by simp
        (try conv=>whnf);repeat' (first|(apply And.intro<;>try conv=>whnf)|(intro h;try conv=>whnf)|(refine ⟨_, _, rfl, idx_map (by with_reducible assumption), rfl, ?_⟩;try conv=>whnf)|fail)
        · have h9 : decide ((l.length : Int) > 12) = true := by rw [← e4]; exact h
          rw [hat (by rw [badR, h1, h2, show postB 40 a.post = true from hat2 (by rw [h9]; rfl)]; rfl)]; exact .refl _
        have h9 : decide ((l.length : Int) > 12) = false := by rw [← e4]; exact h
        have hll : l.length ≤ 12 := by have := of_decide_eq_false h9; omega
        refine ⟨{ j : Nat // j ≤ l.length ∧ asgB 40 (l.take j) = false }, fun j => [(0, .pv (actsPV acts)), (3, .pv (i64 i)), (5, .pv (i64 k)), (6, .pv (i64 j.1))], fun _ => 0, fun _ => [], fun j => l.length - j.1, ⟨⟨0, Nat.zero_le _, rfl⟩, (by refine Wk.of ?_ ?_ rfl rfl rfl<;>repeat' (first|exact trivial|exact WkD.same _|refine ⟨?_, ?_⟩|fail))⟩, ?_⟩
        rintro ⟨j, hj, hd⟩
        (try conv=>whnf);repeat' (first|(apply And.intro<;>try conv=>whnf)|(intro h;try conv=>whnf)|(apply infoT;rfl)|(refine ⟨_, _, rfl, idx_map (by with_reducible assumption), rfl, ?_⟩;try conv=>whnf)|fail)
        · have hj' : j < l.length := by simpa using lt_dec h
          have hm : l[j]? = some l[j] := List.getElem?_eq_getElem hj'
          have e5 : ((l[j].to.map Nd.pv).length : Int) = (l[j].to.length : Int) := by simp
          (try conv=>whnf);repeat' (first|(apply And.intro<;>try conv=>whnf)|(intro h;try conv=>whnf)|(refine ⟨_, _, rfl, idx_map (by with_reducible assumption), rfl, ?_⟩;try conv=>whnf)|fail)
          · have h7 : asgB 40 l = true := any_at (p := fun p : Asg => decide ((p.to.length : Int) > 40)) hj' (by rw [← e5]; exact h)
            rw [hat (by rw [badR, h1, h2, show postB 40 a.post = true from hat2 (by rw [h9, h7]; rfl)]; rfl)]; exact .refl _
          · exact ⟨⟨j + 1, hj', any_take (p := fun p : Asg => decide ((p.to.length : Int) > 40)) hj' hd (by rw [← e5]; exact h)⟩, by show l.length - (j + 1) < l.length - j; omega, (by refine Wk.of ?_ ?_ rfl rfl rfl<;>repeat' (first|exact trivial|exact WkD.same _|refine WkD.int ?_|refine ⟨?_, ?_⟩|(refine wrapA ?_ ?_ ?_;(focus simp;done);(focus (try dsimp only);omega);(focus (try dsimp only);omega))|fail))⟩
        · have hj' : j = l.length := by have := ge_dec (m := (l.map Asg.pv).length) h (by simpa using hj); simpa using this
          subst hj'
          rw [List.take_length] at hd
          exact ⟨⟨k + 1, hk', htk2 (by rw [h9, hd]; rfl)⟩, by show a.post.length - (k + 1) < a.post.length - k; omega, (by refine Wk.of ?_ ?_ rfl rfl rfl<;>repeat' (first|exact trivial|exact WkD.same _|refine WkD.int ?_|refine ⟨?_, ?_⟩|(refine wrapA ?_ ?_ ?_;(focus simp;done);(focus (try dsimp only);omega);(focus (try dsimp only);omega))|fail))⟩
      · have hk' : k = a.post.length := by have := ge_dec (m := (a.post.map postPV).length) h (by simpa using hk); simpa using this
        subst hk'
        rw [List.take_length] at hc
        exact ⟨⟨(), hc⟩, (by refine Wk.of ?_ ?_ rfl rfl rfl<;>repeat' (first|exact trivial|exact WkD.same _|refine ⟨?_, ?_⟩|fail))⟩
    rintro ⟨_, h3⟩
    try conv=>whnf
    refine ⟨{ k : Nat // k ≤ a.rel.length ∧ rowsR (a.rel.take k) = false }, fun k => [(0, .pv (actsPV acts)), (3, .pv (i64 i)), (7, .pv (i64 k.1))], fun _ => 0, fun _ => [], fun k => a.rel.length - k.1, ⟨⟨0, Nat.zero_le _, rfl⟩, (by refine Wk.of ?_ ?_ rfl rfl rfl<;>repeat' (first|exact trivial|exact WkD.same _|refine ⟨?_, ?_⟩|fail))⟩, ?_⟩
    rintro ⟨k, hk, hc⟩
    (try conv=>whnf);repeat' (first|(apply And.intro<;>try conv=>whnf)|(intro h;try conv=>whnf)|(apply infoT;rfl)|(refine ⟨_, _, rfl, idx_map (by with_reducible assumption), rfl, ?_⟩;try conv=>whnf)|fail)
    · have hk' : k < a.rel.length := by simpa using lt_dec h
      have hkn : a.rel[k]? = some a.rel[k] := List.getElem?_eq_getElem hk'
      have e4 : ((a.rel[k].map u64).length : Int) = (a.rel[k].length : Int) := by simp
      (try conv=>whnf);repeat' (first|(apply And.intro<;>try conv=>whnf)|(intro h;try conv=>whnf)|(refine ⟨_, _, rfl, idx_map (by with_reducible assumption), rfl, ?_⟩;try conv=>whnf)|fail)
      · have h9 : rowsR a.rel = true := any_at (p := fun r : List Nat => decide ((r.length : Int) > 12)) hk' (by rw [← e4]; exact h)
        rw [hat (by rw [badR, h1, h2, h3, h9]; rfl)]; exact .refl _
      · exact ⟨⟨k + 1, hk', any_take (p := fun r : List Nat => decide ((r.length : Int) > 12)) hk' hc (by rw [← e4]; exact h)⟩, by show a.rel.length - (k + 1) < a.rel.length - k; omega, (by refine Wk.of ?_ ?_ rfl rfl rfl<;>repeat' (first|exact trivial|exact WkD.same _|refine WkD.int ?_|refine ⟨?_, ?_⟩|(refine wrapA ?_ ?_ ?_;(focus simp;done);(focus (try dsimp only);omega);(focus (try dsimp only);omega))|fail))⟩
    · have hk' : k = a.rel.length := by have := ge_dec (m := (a.rel.map rowPV).length) h (by simpa using hk); simpa using this
      subst hk'
      rw [List.take_length] at hc
      exact ⟨⟨i + 1, hi', htk (by rw [badR, h1, h2, h3, hc]; rfl)⟩, by show acts.length - (i + 1) < acts.length - i; omega, (by refine Wk.of ?_ ?_ rfl rfl rfl<;>repeat' (first|exact trivial|exact WkD.same _|refine WkD.int ?_|refine ⟨?_, ?_⟩|(refine wrapA ?_ ?_ ?_;(focus simp;done);(focus (try dsimp only);omega);(focus (try dsimp only);omega))|fail))⟩
  · have hi' : i = acts.length := by have := ge_dec (m := (acts.map Act.pv).length) h (by simpa using hi); simpa using this
    subst hi'
    rw [List.take_length] at hb
    rw [hb]; exact .refl _
end Go.Proofs.YtlaolpkgabknfaaGreatDoor
set_option maxRecDepth 100000
set_option maxHeartbeats 8000000
namespace Go.Proofs.YtlaolpkgabknfaaGreatDoor
open Go Go.Dv

def hatM : Mo := ⟨4, [10, 12], [[3, 3, 12, 12], [5, 10, 5, 10]]⟩
def hatH : Nat → List (Nat × DObj)
  | 0 => [(0, .var [.pv (i64 0), .pv .nil, .pv .nil]), (1, .var [.buf 3 0, .buf 4 0]), (2, .var [.pv (i64 4), .pv (.sl [u64 10, u64 12]), .vbuf 1 2]), (3, .arr 1 []), (4, .arr 1 [])]
  | 1 => [(0, .var [.pv (i64 0), .pv .nil, .pv .nil]), (1, .var [.buf 3 1, .buf 4 1]), (2, .var [.pv (i64 4), .pv (.sl [u64 10, u64 12]), .vbuf 1 2]), (3, .arr 1 [u64 3]), (4, .arr 1 [u64 5])]
  | 2 => [(0, .var [.pv (i64 0), .pv .nil, .pv .nil]), (1, .var [.buf 3 2, .buf 4 2]), (2, .var [.pv (i64 4), .pv (.sl [u64 10, u64 12]), .vbuf 1 2]), (3, .arr 1 [u64 3, u64 3]), (4, .arr 1 [u64 5, u64 10])]
  | 3 => [(0, .var [.pv (i64 0), .pv .nil, .pv .nil]), (1, .var [.buf 3 3, .buf 4 3]), (2, .var [.pv (i64 4), .pv (.sl [u64 10, u64 12]), .vbuf 1 2]), (3, .arr 1 [u64 3, u64 3, u64 12]), (4, .arr 1 [u64 5, u64 10, u64 5])]
  | _ => [(0, .var [.pv (i64 0), .pv .nil, .pv .nil]), (1, .var [.buf 3 4, .buf 4 4]), (2, .var [.pv (i64 4), .pv (.sl [u64 10, u64 12]), .vbuf 1 2]), (3, .arr 1 [u64 3, u64 3, u64 12, u64 12]), (4, .arr 1 [u64 5, u64 10, u64 5, u64 10])]
theorem lw_hats : PureFn Tryz.prog 29 [] hatM.pv := by
  refine PureFn.introC [6, 7] mixed (fn := Tryz.f29) rfl rfl rfl fun M w0 => ?_
  (try conv=>whnf);repeat' (first|(apply And.intro<;>try conv=>whnf)|(apply cellsI;rfl)|(apply Or.inr;refine ⟨rfl, (by decide), rfl, ?_⟩;try conv=>whnf)|fail)
  · rfl
  · show (0 : Int) ≤ 2; decide
  · show (2 : Int) ≤ ((4294967296 : Nat) : Int); decide
  refine ⟨{ i : Nat // i ≤ 4 }, fun i => [(0, .ref 0 0), (1, .ref 2 0), (6, .pv (i64 i.1))], fun _ => 5, fun i => hatH i.1, fun i => 4 - i.1, ⟨⟨0, Nat.zero_le _⟩, (by refine Wk.of ?_ ?_ rfl rfl rfl<;>repeat' (first|exact trivial|exact WkD.same _|exact WkO.same _ _ rfl|exact WkD.new' rfl rfl rfl|exact WkO.new _ _ rfl|refine WkO.vars rfl ?_|exact rfl|refine ⟨?_, ?_⟩|fail))⟩, ?_⟩
  rintro ⟨i, hi⟩
  rcases i with _ | _ | _ | _ | _ | i
  · (try conv=>whnf);repeat' (first|(apply And.intro<;>try conv=>whnf)|(intro h;try conv=>whnf)|(apply bleI;rfl)|fail)
    · refine ⟨Unit, fun _ => [(0, .ref 0 0), (1, .ref 2 0), (6, .pv (i64 0))], fun _ => 5, fun _ => hatH 1, ?_, ?_⟩
      · try conv=>whnf
        refine ⟨Unit, fun _ => [(0, .ref 0 0), (1, .ref 2 0), (2, .pv (i64 0)), (6, .pv (i64 0))], fun _ => 5, fun _ => [(0, .var [.pv (i64 0), .pv .nil, .pv .nil]), (1, .var [.buf 3 1, .buf 4 0]), (2, .var [.pv (i64 4), .pv (.sl [u64 10, u64 12]), .vbuf 1 2]), (3, .arr 1 [u64 3]), (4, .arr 1 [])], ?_, ?_⟩
        · try conv=>whnf
          refine ⟨.one 2 (.one 3 (.one 4 (.one 5 (.one 6 (.one 7 (.one 8 (.one 9 (.one 10 (.one 11 (.one 12 (.two 0 (.two 1 (.one 13 (.one 14 (.one 15 .done))) 13 (.one 1 (.one 14 (.one 15 .done)))) 13 (.one 0 (.one 1 (.one 14 (.one 15 .done))))))))))))))), [13, 15], by kernel_rfl, ?_⟩
          (try conv=>whnf);repeat' (first|(apply And.intro<;>try conv=>whnf)|(apply infoT;rfl)|(apply cellsI;rfl)|(apply szI;rfl)|(refine ⟨0, rfl, Nat.le_of_ble_eq_true rfl, ?_⟩;try conv=>whnf)|fail)
          all_goals first | exact rfl | (show (0 : Int) ≤ _; exact of_decide_eq_true (by kernel_rfl)) | exact Nat.le_of_ble_eq_true rfl | (refine ⟨(), ?_⟩; (refine Wk.of ?_ ?_ rfl rfl rfl<;>repeat' (first|exact trivial|exact WkD.same _|exact WkO.same _ _ rfl|refine ⟨?_, ?_⟩|fail)); try exact WkO.same _ _ (by kernel_rfl))
        rintro ⟨⟩
        try conv=>whnf
        refine ⟨.one 2 (.one 3 (.one 4 (.one 5 (.one 6 (.one 7 (.one 8 (.one 9 (.one 10 (.one 11 (.one 12 (.two 0 (.two 1 (.one 13 (.one 14 (.one 15 .done))) 13 (.one 1 (.one 14 (.one 15 .done)))) 13 (.one 0 (.one 1 (.one 14 (.one 15 .done))))))))))))))), [13, 15], by kernel_rfl, ?_⟩
        (try conv=>whnf);repeat' (first|(apply And.intro<;>try conv=>whnf)|(apply infoT;rfl)|(apply cellsI;rfl)|(apply szI;rfl)|(refine ⟨1, rfl, Nat.le_of_ble_eq_true rfl, ?_⟩;try conv=>whnf)|fail)
        all_goals first | exact rfl | (show (0 : Int) ≤ _; exact of_decide_eq_true (by kernel_rfl)) | exact Nat.le_of_ble_eq_true rfl | (refine ⟨(), ?_⟩; (refine Wk.of ?_ ?_ rfl rfl rfl<;>repeat' (first|exact trivial|exact WkD.same _|exact WkO.same _ _ rfl|refine ⟨?_, ?_⟩|fail)); try exact WkO.same _ _ (by kernel_rfl))
      rintro ⟨⟩
      try conv=>whnf
      exact ⟨⟨1, by decide⟩, (by show (_ : Nat) < _; exact Nat.le_of_ble_eq_true rfl), (by refine Wk.of ?_ ?_ rfl rfl rfl<;>repeat' (first|exact trivial|exact WkD.same _|exact WkO.same _ _ rfl|refine ⟨?_, ?_⟩|fail))⟩
    all_goals exact Bool.noConfusion (show true = false from h)
  · (try conv=>whnf);repeat' (first|(apply And.intro<;>try conv=>whnf)|(intro h;try conv=>whnf)|(apply bleI;rfl)|fail)
    · refine ⟨Unit, fun _ => [(0, .ref 0 0), (1, .ref 2 0), (6, .pv (i64 1))], fun _ => 5, fun _ => hatH 2, ?_, ?_⟩
      · try conv=>whnf
        refine ⟨Unit, fun _ => [(0, .ref 0 0), (1, .ref 2 0), (2, .pv (i64 1)), (6, .pv (i64 1))], fun _ => 5, fun _ => [(0, .var [.pv (i64 0), .pv .nil, .pv .nil]), (1, .var [.buf 3 2, .buf 4 1]), (2, .var [.pv (i64 4), .pv (.sl [u64 10, u64 12]), .vbuf 1 2]), (3, .arr 1 [u64 3, u64 3]), (4, .arr 1 [u64 5])], ?_, ?_⟩
        · try conv=>whnf
          refine ⟨.one 2 (.one 3 (.one 4 (.one 5 (.one 6 (.one 7 (.one 8 (.one 9 (.one 10 (.one 11 (.one 12 (.two 0 (.two 1 (.one 13 (.one 14 (.one 15 .done))) 13 (.one 1 (.one 14 (.one 15 .done)))) 13 (.one 0 (.one 1 (.one 14 (.one 15 .done))))))))))))))), [13, 15], by kernel_rfl, ?_⟩
          (try conv=>whnf);repeat' (first|(apply And.intro<;>try conv=>whnf)|(apply infoT;rfl)|(apply cellsI;rfl)|(apply szI;rfl)|(refine ⟨0, rfl, Nat.le_of_ble_eq_true rfl, ?_⟩;try conv=>whnf)|fail)
          all_goals first | exact rfl | (show (0 : Int) ≤ _; exact of_decide_eq_true (by kernel_rfl)) | exact Nat.le_of_ble_eq_true rfl | (refine ⟨(), ?_⟩; (refine Wk.of ?_ ?_ rfl rfl rfl<;>repeat' (first|exact trivial|exact WkD.same _|exact WkO.same _ _ rfl|refine ⟨?_, ?_⟩|fail)); try exact WkO.same _ _ (by kernel_rfl))
        rintro ⟨⟩
        try conv=>whnf
        refine ⟨.one 2 (.one 3 (.one 4 (.one 5 (.one 6 (.one 7 (.one 8 (.one 9 (.one 10 (.one 11 (.one 12 (.two 0 (.two 1 (.one 13 (.one 14 (.one 15 .done))) 13 (.one 1 (.one 14 (.one 15 .done)))) 13 (.one 0 (.one 1 (.one 14 (.one 15 .done))))))))))))))), [13, 15], by kernel_rfl, ?_⟩
        (try conv=>whnf);repeat' (first|(apply And.intro<;>try conv=>whnf)|(apply infoT;rfl)|(apply cellsI;rfl)|(apply szI;rfl)|(refine ⟨1, rfl, Nat.le_of_ble_eq_true rfl, ?_⟩;try conv=>whnf)|fail)
        all_goals first | exact rfl | (show (0 : Int) ≤ _; exact of_decide_eq_true (by kernel_rfl)) | exact Nat.le_of_ble_eq_true rfl | (refine ⟨(), ?_⟩; (refine Wk.of ?_ ?_ rfl rfl rfl<;>repeat' (first|exact trivial|exact WkD.same _|exact WkO.same _ _ rfl|refine ⟨?_, ?_⟩|fail)); try exact WkO.same _ _ (by kernel_rfl))
      rintro ⟨⟩
      try conv=>whnf
      exact ⟨⟨2, by decide⟩, (by show (_ : Nat) < _; exact Nat.le_of_ble_eq_true rfl), (by refine Wk.of ?_ ?_ rfl rfl rfl<;>repeat' (first|exact trivial|exact WkD.same _|exact WkO.same _ _ rfl|refine ⟨?_, ?_⟩|fail))⟩
    all_goals exact Bool.noConfusion (show true = false from h)
  · (try conv=>whnf);repeat' (first|(apply And.intro<;>try conv=>whnf)|(intro h;try conv=>whnf)|(apply bleI;rfl)|fail)
    · refine ⟨Unit, fun _ => [(0, .ref 0 0), (1, .ref 2 0), (6, .pv (i64 2))], fun _ => 5, fun _ => hatH 3, ?_, ?_⟩
      · try conv=>whnf
        refine ⟨Unit, fun _ => [(0, .ref 0 0), (1, .ref 2 0), (2, .pv (i64 2)), (6, .pv (i64 2))], fun _ => 5, fun _ => [(0, .var [.pv (i64 0), .pv .nil, .pv .nil]), (1, .var [.buf 3 3, .buf 4 2]), (2, .var [.pv (i64 4), .pv (.sl [u64 10, u64 12]), .vbuf 1 2]), (3, .arr 1 [u64 3, u64 3, u64 12]), (4, .arr 1 [u64 5, u64 10])], ?_, ?_⟩
        · try conv=>whnf
          refine ⟨.one 2 (.one 3 (.one 4 (.one 5 (.one 6 (.one 7 (.one 8 (.one 9 (.one 10 (.one 11 (.one 12 (.two 0 (.two 1 (.one 13 (.one 14 (.one 15 .done))) 13 (.one 1 (.one 14 (.one 15 .done)))) 13 (.one 0 (.one 1 (.one 14 (.one 15 .done))))))))))))))), [13, 15], by kernel_rfl, ?_⟩
          (try conv=>whnf);repeat' (first|(apply And.intro<;>try conv=>whnf)|(apply infoT;rfl)|(apply cellsI;rfl)|(apply szI;rfl)|(refine ⟨0, rfl, Nat.le_of_ble_eq_true rfl, ?_⟩;try conv=>whnf)|fail)
          all_goals first | exact rfl | (show (0 : Int) ≤ _; exact of_decide_eq_true (by kernel_rfl)) | exact Nat.le_of_ble_eq_true rfl | (refine ⟨(), ?_⟩; (refine Wk.of ?_ ?_ rfl rfl rfl<;>repeat' (first|exact trivial|exact WkD.same _|exact WkO.same _ _ rfl|refine ⟨?_, ?_⟩|fail)); try exact WkO.same _ _ (by kernel_rfl))
        rintro ⟨⟩
        try conv=>whnf
        refine ⟨.one 2 (.one 3 (.one 4 (.one 5 (.one 6 (.one 7 (.one 8 (.one 9 (.one 10 (.one 11 (.one 12 (.two 0 (.two 1 (.one 13 (.one 14 (.one 15 .done))) 13 (.one 1 (.one 14 (.one 15 .done)))) 13 (.one 0 (.one 1 (.one 14 (.one 15 .done))))))))))))))), [13, 15], by kernel_rfl, ?_⟩
        (try conv=>whnf);repeat' (first|(apply And.intro<;>try conv=>whnf)|(apply infoT;rfl)|(apply cellsI;rfl)|(apply szI;rfl)|(refine ⟨1, rfl, Nat.le_of_ble_eq_true rfl, ?_⟩;try conv=>whnf)|fail)
        all_goals first | exact rfl | (show (0 : Int) ≤ _; exact of_decide_eq_true (by kernel_rfl)) | exact Nat.le_of_ble_eq_true rfl | (refine ⟨(), ?_⟩; (refine Wk.of ?_ ?_ rfl rfl rfl<;>repeat' (first|exact trivial|exact WkD.same _|exact WkO.same _ _ rfl|refine ⟨?_, ?_⟩|fail)); try exact WkO.same _ _ (by kernel_rfl))
      rintro ⟨⟩
      try conv=>whnf
      exact ⟨⟨3, by decide⟩, (by show (_ : Nat) < _; exact Nat.le_of_ble_eq_true rfl), (by refine Wk.of ?_ ?_ rfl rfl rfl<;>repeat' (first|exact trivial|exact WkD.same _|exact WkO.same _ _ rfl|refine ⟨?_, ?_⟩|fail))⟩
    all_goals exact Bool.noConfusion (show true = false from h)
  · (try conv=>whnf);repeat' (first|(apply And.intro<;>try conv=>whnf)|(intro h;try conv=>whnf)|(apply bleI;rfl)|fail)
    · refine ⟨Unit, fun _ => [(0, .ref 0 0), (1, .ref 2 0), (6, .pv (i64 3))], fun _ => 5, fun _ => hatH 4, ?_, ?_⟩
      · try conv=>whnf
        refine ⟨Unit, fun _ => [(0, .ref 0 0), (1, .ref 2 0), (2, .pv (i64 3)), (6, .pv (i64 3))], fun _ => 5, fun _ => [(0, .var [.pv (i64 0), .pv .nil, .pv .nil]), (1, .var [.buf 3 4, .buf 4 3]), (2, .var [.pv (i64 4), .pv (.sl [u64 10, u64 12]), .vbuf 1 2]), (3, .arr 1 [u64 3, u64 3, u64 12, u64 12]), (4, .arr 1 [u64 5, u64 10, u64 5])], ?_, ?_⟩
        · try conv=>whnf
          refine ⟨.one 2 (.one 3 (.one 4 (.one 5 (.one 6 (.one 7 (.one 8 (.one 9 (.one 10 (.one 11 (.one 12 (.two 0 (.two 1 (.one 13 (.one 14 (.one 15 .done))) 13 (.one 1 (.one 14 (.one 15 .done)))) 13 (.one 0 (.one 1 (.one 14 (.one 15 .done))))))))))))))), [13, 15], by kernel_rfl, ?_⟩
          (try conv=>whnf);repeat' (first|(apply And.intro<;>try conv=>whnf)|(apply infoT;rfl)|(apply cellsI;rfl)|(apply szI;rfl)|(refine ⟨0, rfl, Nat.le_of_ble_eq_true rfl, ?_⟩;try conv=>whnf)|fail)
          all_goals first | exact rfl | (show (0 : Int) ≤ _; exact of_decide_eq_true (by kernel_rfl)) | exact Nat.le_of_ble_eq_true rfl | (refine ⟨(), ?_⟩; (refine Wk.of ?_ ?_ rfl rfl rfl<;>repeat' (first|exact trivial|exact WkD.same _|exact WkO.same _ _ rfl|refine ⟨?_, ?_⟩|fail)); try exact WkO.same _ _ (by kernel_rfl))
        rintro ⟨⟩
        try conv=>whnf
        refine ⟨.one 2 (.one 3 (.one 4 (.one 5 (.one 6 (.one 7 (.one 8 (.one 9 (.one 10 (.one 11 (.one 12 (.two 0 (.two 1 (.one 13 (.one 14 (.one 15 .done))) 13 (.one 1 (.one 14 (.one 15 .done)))) 13 (.one 0 (.one 1 (.one 14 (.one 15 .done))))))))))))))), [13, 15], by kernel_rfl, ?_⟩
        (try conv=>whnf);repeat' (first|(apply And.intro<;>try conv=>whnf)|(apply infoT;rfl)|(apply cellsI;rfl)|(apply szI;rfl)|(refine ⟨1, rfl, Nat.le_of_ble_eq_true rfl, ?_⟩;try conv=>whnf)|fail)
        all_goals first | exact rfl | (show (0 : Int) ≤ _; exact of_decide_eq_true (by kernel_rfl)) | exact Nat.le_of_ble_eq_true rfl | (refine ⟨(), ?_⟩; (refine Wk.of ?_ ?_ rfl rfl rfl<;>repeat' (first|exact trivial|exact WkD.same _|exact WkO.same _ _ rfl|refine ⟨?_, ?_⟩|fail)); try exact WkO.same _ _ (by kernel_rfl))
      rintro ⟨⟩
      try conv=>whnf
      exact ⟨⟨4, by decide⟩, (by show (_ : Nat) < _; exact Nat.le_of_ble_eq_true rfl), (by refine Wk.of ?_ ?_ rfl rfl rfl<;>repeat' (first|exact trivial|exact WkD.same _|exact WkO.same _ _ rfl|refine ⟨?_, ?_⟩|fail))⟩
    all_goals exact Bool.noConfusion (show true = false from h)
  · (try conv=>whnf);repeat' (first|(apply And.intro<;>try conv=>whnf)|(intro h;try conv=>whnf)|(apply bleI;rfl)|fail)
    · exact Bool.noConfusion (show false = true from h)
    all_goals first | exact rfl | exact .refl _
  · omega
end Go.Proofs.YtlaolpkgabknfaaGreatDoor
set_option maxRecDepth 100000
set_option maxHeartbeats 8000000
namespace Go.Proofs.YtlaolpkgabknfaaGreatDoor
open Go Go.Dv

def awP : List Nd := buildL (nI 3 0) []
def awQ : List Nd := buildL (nI 3 1) []
def awE : List Nd := buildL (n0 6) [awP, awQ]
def awK : List Nd := buildL (nI 9 0) [awP]
def awO (i : Int) (f : List Nd) : List Nd := buildL (n0 5) [buildL (n0 4) [buildL (nI 9 i) [f]], buildL (n0 4) [buildL (nI 9 i) [buildL (n0 4) [f]]]]
def awA : Act := pubA 2 awE
def aw1 : List Nd := buildL (n0 16) [awE, awK]
def aw2 : List Nd := buildL ⟨17, 0, 0, 0, 0, 0⟩ [awK]
def aw3 : List Nd := buildL (n0 16) [awE, buildL (n0 16) [buildL (n0 5) [awO 0 awP, awO 1 awQ], awK]]
theorem awk0 : pubI 2 awE = (awA, 0) := by kernel_rfl
theorem awk1 : dynPV (dynI hatM [] aw1) = .tup [u64 3, .int .i64 0] := by kernel_rfl
theorem awk2 : dynPV (dynI hatM [awA] aw2) = .tup [u64 3, .int .i64 0] := by kernel_rfl
theorem awk3 : dynPV (dynI hatM [] aw3) = .tup [u64 15, .int .i64 0] := by kernel_rfl
def awM : Mo := (runI hatM [awA] 1 [(0, 0)]).1
theorem awk4 : runPV (runI hatM [awA] 1 [(0, 0)]) = .tup [awM.pv, .int .i64 0, .int .i64 1, .int .i64 0] := by kernel_rfl
theorem awk4n : awM.n = 3 := by kernel_rfl
theorem awk5 : runPV (runI hatM [awA] 0 [(0, 0)]) = .tup [noMo.pv, .int .i64 0, .int .i64 0, .int .i64 11] := by kernel_rfl
theorem awk6 : dynPV (dynI hatM [] aw2) = .tup [u64 0, .int .i64 6] := by kernel_rfl
theorem awk7 : chkD hatM [awA] = 0 := by kernel_rfl
theorem hat_fit : FitM hatM := ⟨by intro s hs; simp [hatM] at hs; omega, by intro r hr s hs; simp [hatM] at hr; rcases hr with rfl | rfl <;> simp at hs <;> omega⟩
theorem awA_sm : ∀ a, a ∈ [awA] → SmA a := fun a ha => by
  rw [List.mem_singleton.1 ha]
  refine ⟨fun r hr s hs => ?_, by decide, by simp [awA, pubA]⟩
  rw [List.eq_of_mem_replicate (show r ∈ onesL 2 from hr)] at hs
  rw [List.mem_singleton.1 hs]; decide
theorem no_sm : ∀ a, a ∈ ([] : List Act) → SmA a := fun a ha => by cases ha
theorem lw_open (i : Int) (f : List Nd) : PureFn Tryz.prog 24 [.int .i64 i, fpv f] (fpv (awO i f)) := by
  refine PureFn.intro mixed (fn := Tryz.f24) rfl rfl rfl fun M w0 => ?_
  have h1 := fm_Know i f
  have h2 := fm_Not (buildL (nI 9 i) [f])
  have h3 := fm_Not f
  have h4 := fm_Know i (buildL (n0 4) [f])
  have h5 := fm_Not (buildL (nI 9 i) [buildL (n0 4) [f]])
  have h6 := fm_And (buildL (n0 4) [buildL (nI 9 i) [f]]) (buildL (n0 4) [buildL (nI 9 i) [buildL (n0 4) [f]]])
  (try conv=>whnf);repeat' (first|(refine PureFn.dcq (f := 27) rfl ?_;try conv=>whnf)|(refine PureFn.dcq (f := 26) rfl ?_;try conv=>whnf)|(refine PureFn.dcq (f := 25) rfl ?_;try conv=>whnf)|(refine ⟨_, _, h1, ?_, ?_⟩;(focus first|(refine ⟨?_, ?_, trivial⟩<;>first|exact PLe.refl _|exact PLe.nil)|exact trivial);try conv=>whnf)|(refine ⟨_, _, h2, ?_, ?_⟩;(focus first|(refine ⟨?_, trivial⟩<;>first|exact PLe.refl _|exact PLe.nil)|exact trivial);try conv=>whnf)|(refine ⟨_, _, h3, ?_, ?_⟩;(focus first|(refine ⟨?_, trivial⟩<;>first|exact PLe.refl _|exact PLe.nil)|exact trivial);try conv=>whnf)|(refine ⟨_, _, h4, ?_, ?_⟩;(focus first|(refine ⟨?_, ?_, trivial⟩<;>first|exact PLe.refl _|exact PLe.nil)|exact trivial);try conv=>whnf)|(refine ⟨_, _, h5, ?_, ?_⟩;(focus first|(refine ⟨?_, trivial⟩<;>first|exact PLe.refl _|exact PLe.nil)|exact trivial);try conv=>whnf)|(refine ⟨_, _, h6, ?_, ?_⟩;(focus first|(refine ⟨?_, ?_, trivial⟩<;>first|exact PLe.refl _|exact PLe.nil)|exact trivial);try conv=>whnf)|fail)
  exact .refl _
theorem lw_awake28 : PureFn Tryz.prog 7 [] (.bool true) := by
  have hH := lw_hats
  have hP : PureFn Tryz.prog 22 [.int .i64 0] (fpv awP) := fm_Fact 0
  have hQ : PureFn Tryz.prog 22 [.int .i64 1] (fpv awQ) := fm_Fact 1
  have hE : PureFn Tryz.prog 23 [fpv awP, fpv awQ] (fpv awE) := fm_Or awP awQ
  have hK : PureFn Tryz.prog 27 [.int .i64 0, fpv awP] (fpv awK) := fm_Know 0 awP
  have hA := ac_Public 2 awE
  rw [awk0] at hA
  have h1 : PureFn Tryz.prog 19 [fpv awE, fpv awK] (fpv aw1) := fm_Announce awE awK
  have d1 := dy_Holds hatM [] aw1 hat_fit no_sm
  rw [awk1] at d1
  have h2 : PureFn Tryz.prog 30 [.int .i64 0, .int .i64 0, fpv awK] (fpv aw2) := fm_Act 0 0 awK
  have d2 := dy_Holds hatM [awA] aw2 hat_fit awA_sm
  rw [awk2] at d2
  have o0 := lw_open 0 awP
  have o1 := lw_open 1 awQ
  have h3 := fm_And (awO 0 awP) (awO 1 awQ)
  have h4 := fm_Announce (buildL (n0 5) [awO 0 awP, awO 1 awQ]) awK
  have h5 : PureFn Tryz.prog 19 [fpv awE, fpv (buildL (n0 16) [buildL (n0 5) [awO 0 awP, awO 1 awQ], awK])] (fpv aw3) := fm_Announce awE _
  have d3 := dy_Holds hatM [] aw3 hat_fit no_sm
  rw [awk3] at d3
  have r1 := dy_Run hatM [awA] 1 [(0, 0)] hat_fit awA_sm (by decide)
  rw [awk4] at r1
  have r2 := dy_Run hatM [awA] 0 [(0, 0)] hat_fit awA_sm (by decide)
  rw [awk5] at r2
  have d4 := dy_Holds hatM [] aw2 hat_fit no_sm
  rw [awk6] at d4
  have c1 := dy_Check hatM [awA] hat_fit awA_sm
  rw [awk7] at c1
  refine PureFn.introC [2, 3, 4, 5, 6, 7, 8, 9, 10, 11, 12, 13] mixed (fn := Tryz.f7) rfl rfl rfl fun M w0 => ?_
  try conv=>whnf
  refine ⟨Unit, fun _ => [(1, .pv (fpv awP)), (2, .pv (fpv awQ))], fun _ => 0, fun _ => [], ?_, ?_⟩
  · (try conv=>whnf);repeat' (first|(refine PureFn.dcq (f := 22) rfl ?_;try conv=>whnf)|(refine ⟨_, _, hP, ?_, ?_⟩;(focus first|(refine ⟨?_, trivial⟩<;>first|exact PLe.refl _|exact PLe.nil)|exact trivial);try conv=>whnf)|(refine ⟨_, _, hQ, ?_, ?_⟩;(focus first|(refine ⟨?_, trivial⟩<;>first|exact PLe.refl _|exact PLe.nil)|exact trivial);try conv=>whnf)|fail)
    exact ⟨(), (by refine Wk.of ?_ ?_ rfl rfl rfl<;>repeat' (first|exact trivial|exact WkD.same _|refine ⟨?_, ?_⟩|fail))⟩
  rintro ⟨⟩
  refine ⟨Unit, fun _ => [(1, .pv (fpv awP)), (2, .pv (fpv awQ)), (3, .pv (fpv awE))], fun _ => 0, fun _ => [], ?_, ?_⟩
  · (try conv=>whnf);repeat' (first|(refine PureFn.dcq (f := 23) rfl ?_;try conv=>whnf)|(refine ⟨_, _, hE, ?_, ?_⟩;(focus first|(refine ⟨?_, ?_, trivial⟩<;>first|exact PLe.refl _|exact PLe.nil)|exact trivial);try conv=>whnf)|fail)
    exact ⟨(), (by refine Wk.of ?_ ?_ rfl rfl rfl<;>repeat' (first|exact trivial|exact WkD.same _|refine ⟨?_, ?_⟩|fail))⟩
  rintro ⟨⟩
  refine ⟨Unit, fun _ => [(1, .pv (fpv awP)), (2, .pv (fpv awQ)), (3, .pv (fpv awE)), (4, .clo 24 [] [])], fun _ => 0, fun _ => [], ?_, ?_⟩
  · try conv=>whnf
    exact ⟨(), (by refine Wk.of ?_ ?_ rfl rfl rfl<;>repeat' (first|exact trivial|exact WkD.same _|refine ⟨?_, ?_⟩|fail))⟩
  rintro ⟨⟩
  refine ⟨Unit, fun _ => [(1, .pv (fpv awP)), (2, .pv (fpv awQ)), (3, .pv (fpv awE)), (4, .clo 24 [] []), (5, .pv (fpv awK))], fun _ => 0, fun _ => [], ?_, ?_⟩
  · (try conv=>whnf);repeat' (first|(refine PureFn.dcq (f := 27) rfl ?_;try conv=>whnf)|(refine ⟨_, _, hK, ?_, ?_⟩;(focus first|(refine ⟨?_, ?_, trivial⟩<;>first|exact PLe.refl _|exact PLe.nil)|exact trivial);try conv=>whnf)|fail)
    exact ⟨(), (by refine Wk.of ?_ ?_ rfl rfl rfl<;>repeat' (first|exact trivial|exact WkD.same _|refine ⟨?_, ?_⟩|fail))⟩
  rintro ⟨⟩
  refine ⟨Unit, fun _ => [(1, .pv (fpv awP)), (2, .pv (fpv awQ)), (3, .pv (fpv awE)), (4, .clo 24 [] []), (5, .pv (fpv awK)), (6, .ref 0 0), (7, .pv (.int .i64 0))], fun _ => 1, fun _ => [(0, .var (actDV awA))], ?_, ?_⟩
  · (try conv=>whnf);repeat' (first|(refine PureFn.dcq (f := 28) rfl ?_;try conv=>whnf)|(refine ⟨_, _, hA, ?_, ?_⟩;(focus first|(refine ⟨?_, ?_, trivial⟩<;>first|exact PLe.refl _|exact PLe.nil)|exact trivial);try conv=>whnf)|fail)
    exact ⟨(), (by refine Wk.of ?_ ?_ rfl rfl rfl<;>repeat' (first|exact trivial|exact WkD.same _|exact WkO.same _ _ rfl|refine ⟨?_, ?_⟩|fail))⟩
  rintro ⟨⟩
  refine ⟨Unit, fun _ => [(1, .pv (fpv awP)), (2, .pv (fpv awQ)), (3, .pv (fpv awE)), (4, .clo 24 [] []), (5, .pv (fpv awK)), (7, .pv (.int .i64 0)), (8, .pv (actsPV [awA]))], fun _ => 0, fun _ => [], ?_, ?_⟩
  · (try conv=>whnf);repeat' (first|(apply And.intro<;>try conv=>whnf)|(apply cellsI;rfl)|fail)
    exact ⟨(), (by refine Wk.of ?_ ?_ rfl rfl rfl<;>repeat' (first|exact trivial|exact WkD.same _|refine ⟨?_, ?_⟩|fail))⟩
  rintro ⟨⟩
  refine ⟨Unit, fun _ => [(1, .pv (fpv awP)), (2, .pv (fpv awQ)), (3, .pv (fpv awE)), (4, .clo 24 [] []), (5, .pv (fpv awK)), (7, .pv (.int .i64 0)), (8, .pv (actsPV [awA])), (9, .pv (u64 3)), (10, .pv (.int .i64 0))], fun _ => 0, fun _ => [], ?_, ?_⟩
  · (try conv=>whnf);repeat' (first|(refine PureFn.dcq (f := 29) rfl ?_;try conv=>whnf)|(refine PureFn.dcq (f := 19) rfl ?_;try conv=>whnf)|(refine PureFn.dcq (f := 10) rfl ?_;try conv=>whnf)|(refine ⟨_, _, hH, ?_, ?_⟩;(focus first|(refine ⟨trivial⟩<;>first|exact PLe.refl _|exact PLe.nil)|exact trivial);try conv=>whnf)|(refine ⟨_, _, h1, ?_, ?_⟩;(focus first|(refine ⟨?_, ?_, trivial⟩<;>first|exact PLe.refl _|exact PLe.nil)|exact trivial);try conv=>whnf)|(refine ⟨_, _, d1, ?_, ?_⟩;(focus first|(refine ⟨?_, ?_, ?_, trivial⟩<;>first|exact PLe.refl _|exact PLe.nil)|exact trivial);try conv=>whnf)|fail)
    exact ⟨(), (by refine Wk.of ?_ ?_ rfl rfl rfl<;>repeat' (first|exact trivial|exact WkD.same _|refine ⟨?_, ?_⟩|fail))⟩
  rintro ⟨⟩
  refine ⟨Unit, fun _ => [(1, .pv (fpv awP)), (2, .pv (fpv awQ)), (3, .pv (fpv awE)), (4, .clo 24 [] []), (5, .pv (fpv awK)), (7, .pv (.int .i64 0)), (8, .pv (actsPV [awA])), (9, .pv (u64 3)), (10, .pv (.int .i64 0)), (11, .pv (u64 3)), (12, .pv (.int .i64 0))], fun _ => 0, fun _ => [], ?_, ?_⟩
  · (try conv=>whnf);repeat' (first|(refine PureFn.dcq (f := 29) rfl ?_;try conv=>whnf)|(refine PureFn.dcq (f := 30) rfl ?_;try conv=>whnf)|(refine PureFn.dcq (f := 10) rfl ?_;try conv=>whnf)|(refine ⟨_, _, hH, ?_, ?_⟩;(focus first|(refine ⟨trivial⟩<;>first|exact PLe.refl _|exact PLe.nil)|exact trivial);try conv=>whnf)|(refine ⟨_, _, h2, ?_, ?_⟩;(focus first|(refine ⟨?_, ?_, ?_, trivial⟩<;>first|exact PLe.refl _|exact PLe.nil)|exact trivial);try conv=>whnf)|(refine ⟨_, _, d2, ?_, ?_⟩;(focus first|(refine ⟨?_, ?_, ?_, trivial⟩<;>first|exact PLe.refl _|exact PLe.nil)|exact trivial);try conv=>whnf)|fail)
    exact ⟨(), (by refine Wk.of ?_ ?_ rfl rfl rfl<;>repeat' (first|exact trivial|exact WkD.same _|refine ⟨?_, ?_⟩|fail))⟩
  rintro ⟨⟩
  refine ⟨Unit, fun _ => [(1, .pv (fpv awP)), (2, .pv (fpv awQ)), (3, .pv (fpv awE)), (4, .clo 24 [] []), (5, .pv (fpv awK)), (7, .pv (.int .i64 0)), (8, .pv (actsPV [awA])), (9, .pv (u64 3)), (10, .pv (.int .i64 0)), (11, .pv (u64 3)), (12, .pv (.int .i64 0)), (13, .pv (u64 15)), (14, .pv (.int .i64 0))], fun _ => 0, fun _ => [], ?_, ?_⟩
  · (try conv=>whnf);repeat' (first|(refine PureFn.dcq (f := 29) rfl ?_;try conv=>whnf)|(refine PureFn.dcq (f := 24) rfl ?_;try conv=>whnf)|(refine PureFn.dcq (f := 25) rfl ?_;try conv=>whnf)|(refine PureFn.dcq (f := 19) rfl ?_;try conv=>whnf)|(refine PureFn.dcq (f := 10) rfl ?_;try conv=>whnf)|(refine ⟨_, _, hH, ?_, ?_⟩;(focus first|(refine ⟨trivial⟩<;>first|exact PLe.refl _|exact PLe.nil)|exact trivial);try conv=>whnf)|(refine ⟨_, _, o0, ?_, ?_⟩;(focus first|(refine ⟨?_, ?_, trivial⟩<;>first|exact PLe.refl _|exact PLe.nil)|exact trivial);try conv=>whnf)|(refine ⟨_, _, o1, ?_, ?_⟩;(focus first|(refine ⟨?_, ?_, trivial⟩<;>first|exact PLe.refl _|exact PLe.nil)|exact trivial);try conv=>whnf)|(refine ⟨_, _, h3, ?_, ?_⟩;(focus first|(refine ⟨?_, ?_, trivial⟩<;>first|exact PLe.refl _|exact PLe.nil)|exact trivial);try conv=>whnf)|(refine ⟨_, _, h4, ?_, ?_⟩;(focus first|(refine ⟨?_, ?_, trivial⟩<;>first|exact PLe.refl _|exact PLe.nil)|exact trivial);try conv=>whnf)|(refine ⟨_, _, h5, ?_, ?_⟩;(focus first|(refine ⟨?_, ?_, trivial⟩<;>first|exact PLe.refl _|exact PLe.nil)|exact trivial);try conv=>whnf)|(refine ⟨_, _, d3, ?_, ?_⟩;(focus first|(refine ⟨?_, ?_, ?_, trivial⟩<;>first|exact PLe.refl _|exact PLe.nil)|exact trivial);try conv=>whnf)|fail)
    exact ⟨(), (by refine Wk.of ?_ ?_ rfl rfl rfl<;>repeat' (first|exact trivial|exact WkD.same _|refine ⟨?_, ?_⟩|fail))⟩
  rintro ⟨⟩
  refine ⟨Unit, fun _ => [(1, .pv (fpv awP)), (2, .pv (fpv awQ)), (3, .pv (fpv awE)), (4, .clo 24 [] []), (5, .pv (fpv awK)), (7, .pv (.int .i64 0)), (8, .pv (actsPV [awA])), (9, .pv (u64 3)), (10, .pv (.int .i64 0)), (11, .pv (u64 3)), (12, .pv (.int .i64 0)), (13, .pv (u64 15)), (14, .pv (.int .i64 0)), (15, .ref 0 0), (16, .pv (.int .i64 0)), (17, .pv (.int .i64 1)), (18, .pv (.int .i64 0))], fun _ => 1, fun _ => [(0, .var (cellsM awM))], ?_, ?_⟩
  · (try conv=>whnf);repeat' (first|(apply And.intro<;>try conv=>whnf)|(apply cellsI;rfl)|(refine PureFn.dcq (f := 29) rfl ?_;try conv=>whnf)|(refine PureFn.dcq (f := 14) rfl ?_;try conv=>whnf)|(refine ⟨_, _, hH, ?_, ?_⟩;(focus first|(refine ⟨trivial⟩<;>first|exact PLe.refl _|exact PLe.nil)|exact trivial);try conv=>whnf)|(refine ⟨_, _, r1, ?_, ?_⟩;(focus first|(refine ⟨?_, ?_, ?_, ?_, trivial⟩<;>first|exact PLe.refl _|exact PLe.nil)|exact trivial);try conv=>whnf)|fail)
    exact ⟨(), (by refine Wk.of ?_ ?_ rfl rfl rfl<;>repeat' (first|exact trivial|exact WkD.same _|exact WkO.same _ _ rfl|refine ⟨?_, ?_⟩|fail))⟩
  rintro ⟨⟩
  refine ⟨Unit, fun _ => [(1, .pv (fpv awP)), (2, .pv (fpv awQ)), (3, .pv (fpv awE)), (4, .clo 24 [] []), (5, .pv (fpv awK)), (7, .pv (.int .i64 0)), (8, .pv (actsPV [awA])), (9, .pv (u64 3)), (10, .pv (.int .i64 0)), (11, .pv (u64 3)), (12, .pv (.int .i64 0)), (13, .pv (u64 15)), (14, .pv (.int .i64 0)), (15, .ref 0 0), (16, .pv (.int .i64 0)), (17, .pv (.int .i64 1)), (18, .pv (.int .i64 0)), (21, .pv (.int .i64 0)), (22, .pv (.int .i64 11))], fun _ => 1, fun _ => [(0, .var (cellsM awM))], ?_, ?_⟩
  · (try conv=>whnf);repeat' (first|(apply And.intro<;>try conv=>whnf)|(apply cellsI;rfl)|(refine PureFn.dcq (f := 29) rfl ?_;try conv=>whnf)|(refine PureFn.dcq (f := 14) rfl ?_;try conv=>whnf)|(refine ⟨_, _, hH, ?_, ?_⟩;(focus first|(refine ⟨trivial⟩<;>first|exact PLe.refl _|exact PLe.nil)|exact trivial);try conv=>whnf)|(refine ⟨_, _, r2, ?_, ?_⟩;(focus first|(refine ⟨?_, ?_, ?_, ?_, trivial⟩<;>first|exact PLe.refl _|exact PLe.nil)|exact trivial);try conv=>whnf)|fail)
    exact ⟨(), (by refine Wk.of ?_ ?_ rfl rfl rfl<;>repeat' (first|exact trivial|exact WkD.same _|exact WkO.same _ _ rfl|refine ⟨?_, ?_⟩|fail))⟩
  rintro ⟨⟩
  refine ⟨Unit, fun _ => [(1, .pv (fpv awP)), (2, .pv (fpv awQ)), (3, .pv (fpv awE)), (4, .clo 24 [] []), (5, .pv (fpv awK)), (7, .pv (.int .i64 0)), (8, .pv (actsPV [awA])), (9, .pv (u64 3)), (10, .pv (.int .i64 0)), (11, .pv (u64 3)), (12, .pv (.int .i64 0)), (13, .pv (u64 15)), (14, .pv (.int .i64 0)), (15, .ref 0 0), (16, .pv (.int .i64 0)), (17, .pv (.int .i64 1)), (18, .pv (.int .i64 0)), (21, .pv (.int .i64 0)), (22, .pv (.int .i64 11)), (24, .pv (.int .i64 6))], fun _ => 1, fun _ => [(0, .var (cellsM awM))], ?_, ?_⟩
  · (try conv=>whnf);repeat' (first|(refine PureFn.dcq (f := 29) rfl ?_;try conv=>whnf)|(refine PureFn.dcq (f := 30) rfl ?_;try conv=>whnf)|(refine PureFn.dcq (f := 10) rfl ?_;try conv=>whnf)|(refine ⟨_, _, hH, ?_, ?_⟩;(focus first|(refine ⟨trivial⟩<;>first|exact PLe.refl _|exact PLe.nil)|exact trivial);try conv=>whnf)|(refine ⟨_, _, h2, ?_, ?_⟩;(focus first|(refine ⟨?_, ?_, ?_, trivial⟩<;>first|exact PLe.refl _|exact PLe.nil)|exact trivial);try conv=>whnf)|(refine ⟨_, _, d4, ?_, ?_⟩;(focus first|(refine ⟨?_, ?_, ?_, trivial⟩<;>first|exact PLe.refl _|exact PLe.nil)|exact trivial);try conv=>whnf)|fail)
    exact ⟨(), (by refine Wk.of ?_ ?_ rfl rfl rfl<;>repeat' (first|exact trivial|exact WkD.same _|exact WkO.same _ _ rfl|refine ⟨?_, ?_⟩|fail))⟩
  rintro ⟨⟩
  have e3 : awM.n = 3 := awk4n
  (try conv=>whnf);repeat' (first|(apply And.intro<;>try conv=>whnf)|(intro h;try conv=>whnf)|apply True.intro|(apply WhenQ.mk;(try conv=>whnf);rotate_left;(try conv=>whnf);rotate_right)|with_reducible assumption|(refine PureFn.dcq (f := 29) rfl ?_;try conv=>whnf)|(refine PureFn.dcq (f := 12) rfl ?_;try conv=>whnf)|(refine ⟨_, _, hH, ?_, ?_⟩;(focus first|(refine ⟨trivial⟩<;>first|exact PLe.refl _|exact PLe.nil)|exact trivial);try conv=>whnf)|(refine ⟨_, _, c1, ?_, ?_⟩;(focus first|(refine ⟨?_, ?_, trivial⟩<;>first|exact PLe.refl _|exact PLe.nil)|exact trivial);try conv=>whnf)|fail)
  exact (fun (b : Bool) (h : b = true) => (show PLe (.bool b) (.bool true) from h ▸ .refl _)) _ (by kernel_rfl)
end Go.Proofs.YtlaolpkgabknfaaGreatDoor
set_option maxRecDepth 100000
set_option maxHeartbeats 8000000
namespace Go.Proofs.YtlaolpkgabknfaaGreatDoor
open Go Go.Dv

def scnPV (m : Mo) (acts : List Act) : PV := .agg [.int .i64 m.n, .sl (m.val.map u64), .sl (m.rel.map rowPV), actsPV acts]
def cellsS (m : Mo) (acts : List Act) : List DV := [.pv (.int .i64 m.n), .pv (.sl (m.val.map u64)), .pv (.sl (m.rel.map rowPV)), .pv (actsPV acts)]
def longB (fs : List (List Nd)) : Bool := fs.any fun f => decide ((f.length : Int) > 40)
def fewD (m : Mo) (acts : List Act) (fs : List (List Nd)) : Bool := bif longB fs then false else bif fewM m 10 then fewR acts else false
theorem fewD_ok {m : Mo} {acts : List Act} {fs : List (List Nd)} (h : fewD m acts fs = true) : (∀ f, f ∈ fs → f.length ≤ 40) ∧ fewM m 10 = true ∧ fewR acts = true := by
  unfold fewD at h
  cases h1 : longB fs with
  | true => rw [h1] at h; cases h
  | false =>
    rw [h1, cond_false] at h
    cases h2 : fewM m 10 with
    | false => rw [h2] at h; cases h
    | true =>
      rw [h2, cond_true] at h
      refine ⟨fun f hf => ?_, rfl, h⟩
      have := List.any_eq_false.1 h1 f hf
      have := of_decide_eq_false (show decide ((f.length : Int) > 40) = false by simpa using this)
      omega
theorem lw_few (m : Mo) (acts : List Act) (fs : List (List Nd)) (hl : fs.length ≤ 1000) : PureFn Tryz.prog 8 [scnPV m acts, .sl (fs.map fpv)] (.bool (fewD m acts fs)) := by
  have h1 := rm_Few m 10
  have h2 := rd_Few acts
  refine PureFn.introC [7] mixed (fn := Tryz.f8) rfl rfl rfl fun M w0 => ?_
  try conv=>whnf
  refine ⟨{ _x : Unit // longB fs = false }, fun _ => [(2, .ref 0 0)], fun _ => 1, fun _ => [(0, .var (cellsS m acts))], ?_, ?_⟩
  · try conv=>whnf
    refine ⟨{ i : Nat // i ≤ fs.length ∧ longB (fs.take i) = false }, fun i => [(2, .ref 0 0), (7, .pv (.sl (fs.map fpv))), (8, .pv (i64 (fs.map fpv).length)), (9, .pv (i64 i.1))], fun _ => 1, fun _ => [(0, .var (cellsS m acts))], fun i => fs.length - i.1, ⟨⟨0, Nat.zero_le _, rfl⟩, (by refine Wk.of ?_ ?_ rfl rfl rfl<;>repeat' (first|exact trivial|exact WkD.same _|exact WkO.same _ _ rfl|refine ⟨?_, ?_⟩|fail))⟩, ?_⟩
    rintro ⟨i, hi, hb⟩
    (try conv=>whnf);repeat' (first|(apply And.intro<;>try conv=>whnf)|(intro h;try conv=>whnf)|(apply infoT;rfl)|fail)
    · have hi' : i < fs.length := by simpa using lt_dec h
      have hn : fs[i]? = some fs[i] := List.getElem?_eq_getElem hi'
      have e4 : ((fs[i].map Nd.pv).length : Int) = (fs[i].length : Int) := by simp
      refine ⟨_, _, rfl, idx_map hn, rfl, ?_⟩
      (try conv=>whnf);repeat' (first|(apply And.intro<;>try conv=>whnf)|(intro h;try conv=>whnf)|fail)
      · have h9 : longB fs = true := any_at (p := fun f : List Nd => decide ((f.length : Int) > 40)) hi' (by rw [← e4]; exact h)
        rw [fewD, h9]; exact .refl _
      · exact ⟨⟨i + 1, hi', any_take (p := fun f : List Nd => decide ((f.length : Int) > 40)) hi' hb (by rw [← e4]; exact h)⟩, by show fs.length - (i + 1) < fs.length - i; omega, (by refine Wk.of ?_ ?_ rfl rfl rfl<;>repeat' (first|exact trivial|exact WkD.same _|exact WkO.same _ _ rfl|refine WkD.int ?_|refine ⟨?_, ?_⟩|(refine wrapA ?_ ?_ ?_;(focus simp;done);(focus (try dsimp only);omega);(focus (try dsimp only);omega))|fail))⟩
    · have hi' : i = fs.length := by have := ge_dec (m := (fs.map fpv).length) h (by simpa using hi); simpa using this
      subst hi'
      rw [List.take_length] at hb
      exact ⟨⟨(), hb⟩, (by refine Wk.of ?_ ?_ rfl rfl rfl<;>repeat' (first|exact trivial|exact WkD.same _|exact WkO.same _ _ rfl|refine ⟨?_, ?_⟩|fail))⟩
  rintro ⟨_, hb⟩
  have hd : fewD m acts fs = bif fewM m 10 then fewR acts else false := by rw [fewD, hb]; rfl
  rw [hd]
  (try conv=>whnf);repeat' (first|(apply And.intro<;>try conv=>whnf)|(intro h;try conv=>whnf)|apply True.intro|(apply WhenQ.mk;(try conv=>whnf);rotate_left;(try conv=>whnf);rotate_right)|with_reducible assumption|(refine PureFn.dcq (f := 31) rfl ?_;try conv=>whnf)|(refine PureFn.dcq (f := 32) rfl ?_;try conv=>whnf)|(refine ⟨_, _, h1, ?_, ?_⟩;(focus first|(refine ⟨?_, ?_, trivial⟩<;>first|exact PLe.refl _|exact PLe.nil)|exact trivial);try conv=>whnf)|(refine ⟨_, _, h2, ?_, ?_⟩;(focus first|(refine ⟨?_, trivial⟩<;>first|exact PLe.refl _|exact PLe.nil)|exact trivial);try conv=>whnf)|fail)
  exact .refl _
theorem lw_shallow (f : List Nd) (hl : f.length ≤ 1000) : PureFn Tryz.prog 9 [fpv f] (.bool (decide ((shC f : Int) ≤ 4))) := by
  refine PureFn.intro mixed (fn := Tryz.f9) rfl rfl rfl fun M w0 => ?_
  try conv=>whnf
  refine ⟨{ i : Nat // i ≤ f.length }, fun i => [(3, .pv (i64 (shC (f.take i.1)))), (6, .pv (fpv f)), (7, .pv (i64 (f.map Nd.pv).length)), (8, .pv (i64 i.1))], fun _ => 0, fun _ => [], fun i => f.length - i.1, ⟨⟨0, Nat.zero_le _⟩, (by refine Wk.of ?_ ?_ rfl rfl rfl<;>repeat' (first|exact trivial|exact WkD.same _|refine ⟨?_, ?_⟩|fail))⟩, ?_⟩
  rintro ⟨i, hi⟩
  have hcl : shC (f.take i) ≤ 1000 := by
    have := List.length_filter_le dynN (f.take i)
    have h2 := List.length_take_le i f
    rw [shC]; omega
  (try conv=>whnf);repeat' (first|(apply And.intro<;>try conv=>whnf)|(intro h;try conv=>whnf)|(apply infoT;rfl)|fail)
  · have hi' : i < f.length := by simpa using lt_dec h
    have hn : f[i]? = some f[i] := List.getElem?_eq_getElem hi'
    have htk : f.take (i + 1) = f.take i ++ [f[i]] := List.take_succ_eq_append_getElem hi'
    have hs1 : dynN f[i] = true → shC (f.take (i + 1)) = shC (f.take i) + 1 := fun h => by rw [shC, shC, htk, List.filter_append, List.length_append, List.filter_cons, h]; rfl
    have hs0 : dynN f[i] = false → shC (f.take (i + 1)) = shC (f.take i) := fun h => by rw [shC, shC, htk, List.filter_append, List.length_append, List.filter_cons, h]; rfl
    refine ⟨_, _, rfl, idx_map hn, rfl, ?_⟩
    (try conv=>whnf);repeat' (first|(apply And.intro<;>try conv=>whnf)|(intro h;try conv=>whnf)|apply True.intro|(apply WhenQ.mk;(try conv=>whnf);rotate_left;(try conv=>whnf);rotate_right)|with_reducible assumption|(apply not_of;with_reducible assumption)|fail)
    · have h2 : dynN f[i] = true := h
      refine ⟨⟨i + 1, hi'⟩, by show f.length - (i + 1) < f.length - i; omega, ?_⟩
      (refine Wk.of ?_ ?_ rfl rfl rfl<;>repeat' (first|exact trivial|exact WkD.same _|refine WkD.int ?_|refine ⟨?_, ?_⟩|(refine wrapA ?_ ?_ ?_;(focus simp;done);(focus (try dsimp only);omega);(focus (try dsimp only);omega))|fail))
      rw [hs1 h2]
      show IntKind.wrap .i64 ((shC (f.take i) : Int) + 1) = _
      exact Go.Dv.wrap_small (by omega) (by omega)
    · have h2 : dynN f[i] = false := h
      refine ⟨⟨i + 1, hi'⟩, by show f.length - (i + 1) < f.length - i; omega, ?_⟩
      (refine Wk.of ?_ ?_ rfl rfl rfl<;>repeat' (first|exact trivial|exact WkD.same _|refine WkD.int ?_|refine ⟨?_, ?_⟩|(refine wrapA ?_ ?_ ?_;(focus simp;done);(focus (try dsimp only);omega);(focus (try dsimp only);omega))|fail))
      rw [hs0 h2]
  · have hi' : i = f.length := by have := ge_dec (m := (f.map Nd.pv).length) h (by simpa using hi); simpa using this
    subst hi'
    rw [List.take_length]
    exact .refl _
end Go.Proofs.YtlaolpkgabknfaaGreatDoor
set_option maxRecDepth 100000
set_option maxHeartbeats 4000000
namespace Go.Proofs.YtlaolpkgabknfaaGreatDoor
open Go Go.Dv

theorem u_acts : Tryz.prog.underlying 26 = some (.slice 59) := by kernel_rfl
theorem u_scn : ∃ fs : Array Field, Tryz.prog.underlying 28 = some (.struct fs) ∧ fs.toList.map (·.type) = [25, 26] := ⟨_, rfl, by kernel_rfl⟩
theorem arg_scn {n : Nat} {p : PV} (h : TyA Tryz.prog (n + 9) 28 p) : ∃ (m : Mo) (acts : List Act), PLe p (scnPV m acts) ∧ FitM m ∧ ∀ a, a ∈ acts → Fit a := by
  obtain ⟨cs, h, rfl⟩ := h
  obtain ⟨fs0, hu0, hf0⟩ := u_scn
  have hm : mkE Tryz.prog 28 cs = .agg cs := by simp only [mkE, kindT, hu0]
  obtain ⟨cm, b, r1, rfl, h1, hb, m1⟩ := fs_cons hf0 (tyS (n := n + 8) hu0 h)
  obtain ⟨ca, d, r2, rfl, h2, hd, m2⟩ := fs_cons m1 hb
  have := fs_nil m2 hd
  subst this
  obtain ⟨fs, hu, hf⟩ := u_mod
  obtain ⟨a, b, r1, rfl, g1, hb, m1⟩ := fs_cons hf (tyS (n := n + 7) hu h1)
  obtain ⟨c, d, r2, rfl, g2, hd, m2⟩ := fs_cons m1 hb
  obtain ⟨e, g, r3, rfl, g3, hg, m3⟩ := fs_cons m2 hd
  have := fs_nil m3 hg
  subst this
  obtain ⟨w, rfl, _⟩ := int_of (n := n + 6) g1
  obtain ⟨val, q2, rfl, l2, hv⟩ := slice_of (n := n + 6) (g := u64) (Q := fun s => s < 2 ^ 64) u_rowT (u64_el (n := n + 5)) g2
  obtain ⟨rel, q3, rfl, l3, hr⟩ := slice_of (n := n + 6) (g := rowPV) (Q := fun r => ∀ s, s ∈ r → s < 2 ^ 64) u_relT (fun p hp => el_of (n := n + 5) u_rowT (u64_el (n := n + 4)) p hp) g3
  obtain ⟨acts, q4, rfl, l4, ha⟩ := slice_of (n := n + 7) (g := Act.pv) (Q := Fit) u_acts (fun p hp => arg_act (n := n) hp) h2
  refine ⟨⟨w, val, rel⟩, acts, ?_, ⟨hv, hr⟩, ha⟩
  rw [hm]
  exact PLe.aggs ⟨.refl _, l2, l3, l4, trivial⟩
end Go.Proofs.YtlaolpkgabknfaaGreatDoor
