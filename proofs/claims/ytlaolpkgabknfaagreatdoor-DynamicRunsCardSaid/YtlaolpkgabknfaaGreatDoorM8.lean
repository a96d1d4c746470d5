/- Parts of the proof, one after the other: Products: Worlds of the program walked. Products: Update of the program walked. Products: Update of the program walked. Products: At of the program walked; the examples of the law. The number of trailing zeros: the library's function walked, over its table. Models: the members of a set, and Restrict of the program walked. Products: the examples of the law; models as arguments. Products: the law ProductTrue walked. Products: what the law ProductKeeps asks (plain). Models: Restrict, and announcements, of the program walked. The dynamic language: where its formulas hold (plain). The dynamic language: sets, static formulas, requests (plain). The layer Dv, part 23: a call sees a part of the heap, under other numbers. The dynamic language: the evaluation of the program walked: at. -/
import Derived.Test.YtlaolpkgabknfaaGreatDoorChecked
import Derived.WalkKit
import Derived.Laws.Bits64b
import Derived.Lib.TrailingZeros
import Derived.Test.YtlaolpkgabknfaaGreatDoorM7
set_option maxRecDepth 100000
set_option maxHeartbeats 4000000
namespace Go.Proofs.YtlaolpkgabknfaaGreatDoor
open Go Go.Dv

def HMA (m : Mo) (a : Act) : List (Nat × DObj) := [(0, .var (cellsM m)), (1, .var (cellsA a))]
theorem pr_Worlds (m : Mo) (a : Act) (hf : FitM m) (hfa : Fit a) (hl : a.rel.length ≤ 1000) (hp : ∀ l, l ∈ a.post → l.length ≤ 1000) : PureFn Tryz.prog 124 [m.pv, a.pv] (worldsPV (worldsI m a)) := by
  refine PureFn.introC [4, 7, 8, 16, 26] mixed (fn := Tryz.f124) rfl rfl rfl fun M w0 => ?_
  have hC := md_Check m hf
  have hK := ac_Check a (m.rel.length : Nat) (m.val.length : Nat) hfa hl hp
  rw [show PV.int .i64 ((m.rel.length : Nat) : Int) = .int .i64 ((m.rel.map rowPV).length : Nat) by rw [List.length_map], show PV.int .i64 ((m.val.length : Nat) : Int) = .int .i64 ((m.val.map u64).length : Nat) by rw [List.length_map]] at hK
  try conv=>whnf
  refine ⟨{ _x : Unit // (moI m != 0) = false }, fun _ => [(2, .ref 0 0), (3, .ref 1 0)], fun _ => 2, fun _ => HMA m a, ?_, ?_⟩
  · (try conv=>whnf);repeat' (first|(apply And.intro<;>try conv=>whnf)|(intro h;try conv=>whnf)|(refine PureFn.dcq (f := 40) rfl ?_;try conv=>whnf)|(refine ⟨_, _, hC, ?_, ?_⟩;(focus first|(refine ⟨?_, trivial⟩<;>first|exact PLe.refl _|exact PLe.nil)|exact trivial);try conv=>whnf)|fail)
    · have h9 : moaI m a = moI m := by rw [moaI, h]; rfl
      rw [worldsI, h9, h]
      exact le_worlds _
    · exact ⟨⟨(), h⟩, (by refine Wk.of ?_ ?_ rfl rfl rfl<;>repeat' (first|exact trivial|exact WkD.same _|exact WkO.same _ _ rfl|refine ⟨?_, ?_⟩|fail))⟩
  rintro ⟨_, h1⟩
  have hmo : moaI m a = actI a (m.rel.length : Int) (m.val.length : Int) := by rw [moaI, h1]; rfl
  refine ⟨{ _x : Unit // (moaI m a != 0) = false }, fun _ => [(2, .ref 0 0), (3, .ref 1 0)], fun _ => 2, fun _ => HMA m a, ?_, ?_⟩
  · (try conv=>whnf);repeat' (first|(apply And.intro<;>try conv=>whnf)|(intro h;try conv=>whnf)|(refine PureFn.dcq (f := 41) rfl ?_;try conv=>whnf)|(refine ⟨_, _, hK, ?_, ?_⟩;(focus first|(refine ⟨?_, ?_, ?_, trivial⟩<;>first|exact PLe.refl _|exact PLe.nil)|exact trivial);try conv=>whnf)|fail)
    · have h9 : (moaI m a != 0) = true := by rw [hmo]; exact h
      rw [worldsI, h9, hmo]
      exact le_worlds _
    · exact ⟨⟨(), by rw [hmo]; exact h⟩, (by refine Wk.of ?_ ?_ rfl rfl rfl<;>repeat' (first|exact trivial|exact WkD.same _|exact WkO.same _ _ rfl|refine ⟨?_, ?_⟩|fail))⟩
  rintro ⟨_, h2⟩
  have h20 : moaI m a = 0 := by simpa using h2
  obtain ⟨⟨n, hM⟩, hAc⟩ := moaI_ok h20
  have hO := actI_ok hAc
  have hn8 := hO.n8
  have hn1 := hO.n1
  have hn64 := hM.n64
  have hres : worldsI m a = bif ((pairsL m a).length : Int) == 0 then ([], 11) else (pairsL m a, 0) := by rw [worldsI, h2]; rfl
  have hpl : pairsL m a = pairsW (possP m a) a.pre.length n := by rw [pairsL, hM.nn]; rfl
  rw [hres, hpl]
  clear hres hpl
  have hph := fun (e : Nat) (he : e < a.pre.length) => pre_holds h20 he
  rw [hM.nn, Int.toNat_natCast] at hph
  generalize hpe : possP m a = p at hph ⊢
  have hN : ((a.pre.map fpv).length : Int).toNat = a.pre.length := by rw [List.length_map]; rfl
  have hz1 : List.replicate ((a.pre.map fpv).length : Int).toNat (PV.int .u64 0) = mixV a.pre.length (fun e => u64 (p e)) (fun _ => u64 0) 0 := by rw [hN]; exact mixV_rep _ _ _
  have hbig : ((a.pre.map fpv).length : Int) ≤ (big : Int) := by
    show ((a.pre.map fpv).length : Int) ≤ 4294967296
    rw [List.length_map]; omega
  have hml := mixV_len a.pre.length (fun e => u64 (p e)) (fun _ => u64 0)
  refine ⟨Unit, fun _ => [(2, .ref 0 0), (3, .ref 1 0), (8, .buf 2 (mixV a.pre.length (fun e => u64 (p e)) (fun _ => u64 0) 0).length)], fun _ => 3, fun _ => [(0, .var (cellsM m)), (1, .var (cellsA a)), (2, .arr 1 (mixV a.pre.length (fun e => u64 (p e)) (fun _ => u64 0) 0))], ?_, ?_⟩
  · (try conv=>whnf);repeat' (first|(apply And.intro<;>try conv=>whnf)|(apply Or.inl;try conv=>whnf)|fail)
    · rfl
    · exact Int.natCast_nonneg _
    · exact hbig
    refine ⟨(), ?_⟩
    (refine Wk.of ?_ ?_ rfl rfl rfl<;>repeat' (first|exact trivial|exact WkD.same _|exact WkO.same _ _ rfl|refine ⟨?_, ?_⟩|fail))
    · exact WkD.eq (congrArg (fun z : List PV => DV.buf 2 z.length) hz1)
    · exact WkO.same _ _ (congrArg (fun z => some (DObj.arr 1 z)) hz1)
  rintro ⟨⟩
  clear hz1 hN hbig
  refine ⟨Unit, fun _ => [(2, .ref 0 0), (8, .pv (.sl (mixV a.pre.length (fun e => u64 (p e)) (fun _ => u64 0) a.pre.length)))], fun _ => 3, fun _ => [(0, .var (cellsM m))], ?_, ?_⟩
  · try conv=>whnf
    refine ⟨{ i : Nat // i ≤ a.pre.length }, fun i => [(2, .ref 0 0), (3, .ref 1 0), (8, .buf 2 (mixV a.pre.length (fun e => u64 (p e)) (fun _ => u64 0) i.1).length), (38, .pv (.sl (a.pre.map fpv))), (39, .pv (i64 (a.pre.map fpv).length)), (40, .pv (i64 i.1))], fun _ => 3, fun i => [(0, .var (cellsM m)), (1, .var (cellsA a)), (2, .arr 1 (mixV a.pre.length (fun e => u64 (p e)) (fun _ => u64 0) i.1))], fun i => a.pre.length - i.1, ⟨⟨0, Nat.zero_le _⟩, (by refine Wk.of ?_ ?_ rfl rfl rfl<;>repeat' (first|exact trivial|exact WkD.same _|exact WkO.same _ _ rfl|refine ⟨?_, ?_⟩|fail))⟩, ?_⟩
    rintro ⟨i, hi⟩
    have hmi := hml i
    have hmi1 := hml (i + 1)
    (try conv=>whnf);repeat' (first|(apply And.intro<;>try conv=>whnf)|(intro h;try conv=>whnf)|(apply infoT;rfl)|fail)
    · have hi' : i < a.pre.length := by simpa using lt_dec h
      obtain ⟨f, hn, hw⟩ : ∃ f, a.pre[i]? = some f ∧ a.pre.getD i [] = f := ⟨_, getD_mem hi', rfl⟩
      obtain ⟨hh, hlt⟩ := hph i hi'
      have hH := ck_Holds m f hf
      rw [hw] at hh
      rw [hh] at hH
      have hst := mixV_set (n := a.pre.length) (p := fun e => u64 (p e)) (q := fun _ => u64 0) (e := i)
      refine ⟨_, _, rfl, idx_map hn, rfl, ?_⟩
      (try conv=>whnf);repeat' (first|(apply And.intro<;>try conv=>whnf)|(intro h;try conv=>whnf)|(refine PureFn.dcq (f := 18) rfl ?_;try conv=>whnf)|(refine ⟨_, _, hH, ?_, ?_⟩;(focus first|(refine ⟨?_, ?_, trivial⟩<;>first|exact PLe.refl _|exact PLe.nil)|exact trivial);try conv=>whnf)|fail)
      · cases h
      refine ⟨i, rfl, by rw [hmi]; exact hi', ?_⟩
      (try conv=>whnf);repeat' (first|(apply And.intro<;>try conv=>whnf)|fail)
      refine ⟨_, mixV_old hi', Nat.le_refl 1, ?_⟩
      try conv=>whnf
      refine ⟨⟨i + 1, hi'⟩, by show a.pre.length - (i + 1) < a.pre.length - i; omega, ?_⟩
      (refine Wk.of ?_ ?_ rfl rfl rfl<;>repeat' (first|exact trivial|exact WkD.same _|exact WkO.same _ _ rfl|refine WkD.int ?_|refine ⟨?_, ?_⟩|(refine wrapA ?_ ?_ ?_;(focus simp;done);(focus (try dsimp only);omega);(focus (try dsimp only);omega))|fail))
      · exact WkD.eq (congrArg (DV.buf 2) (hmi.trans hmi1.symm))
      · exact WkO.same _ _ (congrArg (fun z => some (DObj.arr 1 z)) hst)
    · have hi' : i = a.pre.length := by have := ge_dec (m := (a.pre.map fpv).length) h (by simpa using hi); simpa using this
      subst hi'
      exact ⟨(), (by refine Wk.of ?_ ?_ rfl rfl rfl<;>repeat' (first|exact trivial|exact WkD.same _|exact WkO.same _ _ rfl|exact WkD.fz _ _ _ rfl (Or.inl ⟨_, rfl⟩) rfl|refine ⟨?_, ?_⟩|fail))⟩
  rintro ⟨⟩
  have hPl : ∀ w e, w ≤ n → e ≤ a.pre.length → ((pairsB p a.pre.length w e).map pairPV).length ≤ 1000 := fun w e hw he => by
    have h1 := pairsW_len p a.pre.length w
    have h2 := pairsE_len p w e
    have h3 : w * a.pre.length ≤ 64 * 8 := Nat.mul_le_mul (by omega) hn8
    rw [List.length_map, pairsB, List.length_append]; omega
  have hmN := hml a.pre.length
  have hmnn := hM.nn
  try conv=>whnf
  refine ⟨Unit, fun _ => [(13, .pv (.sl ((pairsB p a.pre.length n 0).map pairPV)))], fun _ => 4, fun _ => [], ?_, ?_⟩
  · try conv=>whnf
    refine ⟨{ w : Nat // w ≤ n }, fun w => [(2, .ref 0 0), (8, .pv (.sl (mixV a.pre.length (fun e => u64 (p e)) (fun _ => u64 0) a.pre.length))), (13, .buf 3 ((pairsB p a.pre.length w.1 0).map pairPV).length), (14, .pv (i64 w.1))], fun _ => 4, fun w => [(0, .var (cellsM m)), (3, .arr 2 ((pairsB p a.pre.length w.1 0).map pairPV))], fun w => n - w.1, ⟨⟨0, Nat.zero_le _⟩, (by refine Wk.of ?_ ?_ rfl rfl rfl<;>repeat' (first|exact trivial|exact WkD.same _|exact WkO.same _ _ rfl|exact WkD.new' rfl rfl rfl|exact WkO.new _ _ rfl|exact rfl|refine ⟨?_, ?_⟩|fail))⟩, ?_⟩
    rintro ⟨w, hw⟩
    try conv=>whnf
    refine ⟨{ e : Nat // e ≤ a.pre.length ∧ (w = n → e = 0) }, fun e => [(2, .ref 0 0), (8, .pv (.sl (mixV a.pre.length (fun e => u64 (p e)) (fun _ => u64 0) a.pre.length))), (13, .buf 3 ((pairsB p a.pre.length w e.1).map pairPV).length), (14, .pv (i64 w)), (61, .pv (.sl (mixV a.pre.length (fun e => u64 (p e)) (fun _ => u64 0) a.pre.length))), (62, .pv (i64 (mixV a.pre.length (fun e => u64 (p e)) (fun _ => u64 0) a.pre.length).length)), (63, .pv (i64 e.1))], fun _ => 4, fun e => [(0, .var (cellsM m)), (3, .arr 2 ((pairsB p a.pre.length w e.1).map pairPV))], fun e => a.pre.length - e.1, ⟨⟨0, Nat.zero_le _, fun _ => rfl⟩, (by refine Wk.of ?_ ?_ rfl rfl rfl<;>repeat' (first|exact trivial|exact WkD.same _|exact WkO.same _ _ rfl|refine ⟨?_, ?_⟩|fail))⟩, ?_⟩
    rintro ⟨e, he, hwe⟩
    have hple := hPl w e hw he
    (try conv=>whnf);repeat' (first|(apply And.intro<;>try conv=>whnf)|(intro h;try conv=>whnf)|(apply infoT;rfl)|fail)
    · have he' : e < a.pre.length := by have := lt_dec h; rwa [hmN] at this
      obtain ⟨_, hlt⟩ := hph e he'
      have h64 : p e < 2 ^ 64 := Nat.lt_of_lt_of_le hlt (pow64_le hn64)
      have hsu := pairsB_succ p a.pre.length w e
      refine ⟨e, _, rfl, mixV_new he' he', rfl, ?_⟩
      have hb0 : w ≠ n → (andU (shrU (p e) w) 1 == 0) = !(p e).testBit w := fun hwn => bit_zero h64 (by omega)
      (try conv=>whnf);repeat' (first|(apply And.intro<;>try conv=>whnf)|(intro h;try conv=>whnf)|(apply cellsI;rfl)|(apply szI;rfl)|fail)
      · have hwn : w = n := by
          have : (w : Int) = m.n := by simpa using h
          omega
        subst hwn
        obtain rfl : e = 0 := hwe rfl
        exact ⟨(), (by refine Wk.of ?_ ?_ rfl rfl rfl<;>repeat' (first|exact trivial|exact WkD.fz _ _ _ rfl (Or.inl ⟨_, rfl⟩) rfl|refine ⟨?_, ?_⟩|fail))⟩
      · exact Int.natCast_nonneg _
      · rename_i hw9
        have hwn : w ≠ n := fun e => by
          have : ¬ (w : Int) = m.n := by simpa using hw9
          omega
        have ht : (p e).testBit w = false := by
          have : (!(p e).testBit w) = true := by rw [← hb0 hwn]; exact h
          simpa using this
        rw [ht, cond_false] at hsu
        refine ⟨⟨e + 1, he', fun q => absurd q hwn⟩, by show a.pre.length - (e + 1) < a.pre.length - e; omega, ?_⟩
        (refine Wk.of ?_ ?_ rfl rfl rfl<;>repeat' (first|exact trivial|exact WkD.same _|exact WkO.same _ _ rfl|refine WkD.int ?_|refine ⟨?_, ?_⟩|(refine wrapA ?_ ?_ ?_;(focus simp;done);(focus (try dsimp only);omega);(focus (try dsimp only);omega))|fail))
        · exact WkD.eq (congrArg (fun l : List (Nat × Nat) => DV.buf 3 (l.map pairPV).length) hsu.symm)
        · exact WkO.same _ _ (congrArg (fun l : List (Nat × Nat) => some (DObj.arr 2 (l.map pairPV))) hsu.symm)
      · exact app_big (n := 1000) hple (by decide)
      · rename_i hw9
        have hwn : w ≠ n := fun e => by
          have : ¬ (w : Int) = m.n := by simpa using hw9
          omega
        have ht : (p e).testBit w = true := by
          have : (!(p e).testBit w) = false := by rw [← hb0 hwn]; exact h
          simpa using this
        rw [ht, cond_true] at hsu
        have er : (pairsB p a.pre.length w e).map pairPV ++ [.agg [.int .i64 (w : Int), .int .i64 (e : Int)]] = (pairsB p a.pre.length w (e + 1)).map pairPV := by rw [hsu, List.map_append]; rfl
        refine ⟨⟨e + 1, he', fun q => absurd q hwn⟩, by show a.pre.length - (e + 1) < a.pre.length - e; omega, ?_⟩
        (refine Wk.of ?_ ?_ rfl rfl rfl<;>repeat' (first|exact trivial|exact WkD.same _|exact WkO.same _ _ rfl|exact WkD.eq (congrArg (fun z : List PV => DV.buf _ z.length) er)|exact WkO.same _ _ (congrArg (fun z => some (DObj.arr _ z)) er)|refine WkD.int ?_|refine ⟨?_, ?_⟩|(refine wrapA ?_ ?_ ?_;(focus simp;done);(focus (try dsimp only);omega);(focus (try dsimp only);omega))|fail))
    · have he' : e = a.pre.length := by have := ge_dec h (by rw [hmN]; exact he); rwa [hmN] at this
      have hwn : w < n := by
        rcases Nat.lt_or_ge w n with q | q
        · exact q
        · have := hwe (by omega); omega
      subst he'
      have hew : pairsB p a.pre.length w a.pre.length = pairsB p a.pre.length (w + 1) 0 := by rw [pairsB_full, pairsB_zero]
      try conv=>whnf
      refine ⟨⟨w + 1, hwn⟩, by show n - (w + 1) < n - w; omega, ?_⟩
      (refine Wk.of ?_ ?_ rfl rfl rfl<;>repeat' (first|exact trivial|exact WkD.same _|exact WkO.same _ _ rfl|refine WkD.int ?_|refine ⟨?_, ?_⟩|(refine wrapA ?_ ?_ ?_;(focus simp;done);(focus (try dsimp only);omega);(focus (try dsimp only);omega))|fail))
      · exact WkD.eq (congrArg (fun l : List (Nat × Nat) => DV.buf 3 (l.map pairPV).length) hew)
      · exact WkO.same _ _ (congrArg (fun l : List (Nat × Nat) => some (DObj.arr 2 (l.map pairPV))) hew)
  rintro ⟨⟩
  rw [← pairsB_zero]
  generalize pairsB p a.pre.length n 0 = L
  have e9 : ((L.map pairPV).length : Int) = (L.length : Int) := by simp
  (try conv=>whnf);repeat' (first|(apply And.intro<;>try conv=>whnf)|(intro h;try conv=>whnf)|fail)
  · rw [show ((L.length : Int) == 0) = true by rw [← e9]; exact h]
    exact le_worlds _
  · rw [show ((L.length : Int) == 0) = false by rw [← e9]; exact h]
    exact .refl _
end Go.Proofs.YtlaolpkgabknfaaGreatDoor
set_option maxRecDepth 100000
set_option maxHeartbeats 4000000
namespace Go.Proofs.YtlaolpkgabknfaaGreatDoor
open Go Go.Dv

def cells0 : List DV := [.pv (.int .i64 0), .pv .nil, .pv .nil]
def pairD (q : Nat × Nat) : List DV := [.pv (i64 q.1), .pv (i64 q.2)]
/-- The heap while the values of a fact are reckoned. -/
def HV (m : Mo) (a : Act) (l : List (Nat × Nat)) (vs vl : List Nat) : List (Nat × DObj) :=
  [(0, .var (cellsM m)), (1, .var (cellsA a)), (2, .var cells0), (3, .var [.pv (.sl (l.map pairPV))]), (4, .var [.pv (i64 (l.map pairPV).length), .buf 5 (vs.map u64).length, .pv .nil]), (5, .arr 1 (vs.map u64)), (7, .var [.pv (rowPV vl)])]
theorem upd2 {M : Nat → Prop} {w0 : World} (m : Mo) (a : Act) (l : List (Nat × Nat)) (vs vl : List Nat) (q : Nat × Nat) (h1 : q.1 < 64) (h2 : q.2 < vl.length) (hv : ∀ s, s ∈ vl → s < 2 ^ 64) (base : Nat) (K : DV → DH → Prop) (hK : K (.pv (.bool ((vl.getD q.2 0).testBit q.1))) ⟨8, 0, base, objsOf (HV m a l vs vl)⟩) :
    DC Tryz.prog M w0 127 [.agg (pairD q), .ref 7 0] ⟨8, 0, base, objsOf (HV m a l vs vl)⟩ K := by
  refine DC.weaken (DC.intro mixed (fn := Tryz.f127) rfl rfl rfl ?_)
  obtain ⟨x, hx, hw⟩ : ∃ x, vl[q.2]? = some x ∧ vl.getD q.2 0 = x := ⟨_, getD_mem h2, rfl⟩
  have hx64 := hv x (List.mem_iff_getElem?.2 ⟨_, hx⟩)
  rw [hw, ← bit_one hx64 h1] at hK
  (try conv=>whnf);repeat' (first|(apply And.intro<;>try conv=>whnf)|(apply infoT;rfl)|(refine lin_plan (by kernel_rfl) ?_;try conv=>whnf)|(refine ⟨_, _, rfl, idx_map (by with_reducible assumption), rfl, ?_⟩;try conv=>whnf)|fail)
  · exact Int.natCast_nonneg _
  · exact ⟨_, 8, HV m a l vs vl, (by refine Wk.of ?_ ?_ rfl rfl rfl<;>repeat' (first|exact trivial|exact WkD.same _|exact WkO.same _ _ rfl|refine ⟨?_, ?_⟩|fail)), hK⟩
/-- The heap while the relation of an agent is reckoned, of a pair. -/
def HW (m : Mo) (a : Act) (l : List (Nat × Nat)) (vs : List Nat) (rs : List (List Nat)) (i : Nat) (r : List Nat) (mx : List PV) (x : Nat × Nat) : List (Nat × DObj) :=
  [(0, .var (cellsM m)), (1, .var (cellsA a)), (2, .var cells0), (3, .var [.pv (.sl (l.map pairPV))]), (4, .var [.pv (i64 (l.map pairPV).length), .pv (rowPV vs), .buf 5 (rs.map rowPV).length]), (5, .arr 1 (rs.map rowPV)), (6, .var [.pv (i64 i)]), (7, .var [.pv (rowPV r)]), (8, .arr 1 mx), (9, .var (pairD x))]
theorem upd3 {M : Nat → Prop} {w0 : World} (m : Mo) (a : Act) (l : List (Nat × Nat)) (vs : List Nat) (rs : List (List Nat)) (i : Nat) (r : List Nat) (mx : List PV) (x q : Nat × Nat) (ra : List Nat) (hra : a.rel[i]? = some ra)
    (hx1 : x.1 < r.length) (hx2 : x.2 < ra.length) (hq1 : q.1 < 64) (hq2 : q.2 < 64) (hr : ∀ s, s ∈ r → s < 2 ^ 64) (hr2 : ∀ s, s ∈ ra → s < 2 ^ 64) (base : Nat) (K : DV → DH → Prop) (hK : K (.pv (.bool (seesP r ra x q))) ⟨10, 0, base, objsOf (HW m a l vs rs i r mx x)⟩) :
    DC Tryz.prog M w0 128 [.agg (pairD q), .ref 7 0, .ref 9 0, .ref 1 0, .ref 6 0] ⟨10, 0, base, objsOf (HW m a l vs rs i r mx x)⟩ K := by
  refine DC.weaken (DC.intro mixed (fn := Tryz.f128) rfl rfl rfl ?_)
  obtain ⟨u, hu, hw⟩ : ∃ u, r[x.1]? = some u ∧ r.getD x.1 0 = u := ⟨_, getD_mem hx1, rfl⟩
  obtain ⟨v, hv, hw2⟩ : ∃ v, ra[x.2]? = some v ∧ ra.getD x.2 0 = v := ⟨_, getD_mem hx2, rfl⟩
  have hu64 := hr u (List.mem_iff_getElem?.2 ⟨_, hu⟩)
  have hv64 := hr2 v (List.mem_iff_getElem?.2 ⟨_, hv⟩)
  rw [seesP, hw, hw2, ← bit_one hu64 hq1, ← bit_one hv64 hq2] at hK
  (try conv=>whnf);repeat' (first|(apply And.intro<;>try conv=>whnf)|(intro h;try conv=>whnf)|apply True.intro|(apply infoT;rfl)|(apply WhenQ.mk;(try conv=>whnf);rotate_left;(try conv=>whnf);rotate_right)|with_reducible assumption|(refine lin_plan (by kernel_rfl) ?_;try conv=>whnf)|(refine ⟨_, _, rfl, idx_map (by with_reducible assumption), rfl, ?_⟩;try conv=>whnf)|fail)
  · exact Int.natCast_nonneg _
  · exact Int.natCast_nonneg _
  · exact ⟨_, 10, HW m a l vs rs i r mx x, (by refine Wk.of ?_ ?_ rfl rfl rfl<;>repeat' (first|exact trivial|exact WkD.same _|exact WkO.same _ _ rfl|refine ⟨?_, ?_⟩|fail)), hK⟩
theorem whr_V {M : Nat → Prop} {w0 : World} (m : Mo) (a : Act) (l : List (Nat × Nat)) (vs vl : List Nat) (hlp : ∀ y, y ∈ l → y.1 < 64 ∧ y.2 < vl.length) (hv : ∀ s, s ∈ vl → s < 2 ^ 64) (hl : l.length ≤ 64) (base : Nat) (K : DV → DH → Prop) (hK : K (.pv (u64 (maskOf (fun k => (fun q : Nat × Nat => (vl.getD q.2 0).testBit q.1) (l.getD k (0, 0))) l.length))) ⟨8, 0, base, objsOf (HV m a l vs vl)⟩) :
    DC Tryz.prog M w0 125 [.clo 127 [] [.ref 7 0], .ref 3 0] ⟨8, 0, base, objsOf (HV m a l vs vl)⟩ K := by
  refine DC.weaken (DC.intro mixed (fn := Tryz.f125) rfl rfl rfl ?_)
  try conv=>whnf
  refine ⟨{ i : Nat // i ≤ l.length }, fun i => [(0, .clo 127 [] [.ref 7 0]), (4, .pv (u64 (maskOf (fun k => (fun q : Nat × Nat => (vl.getD q.2 0).testBit q.1) (l.getD k (0, 0))) i.1))), (7, .pv (.sl (l.map pairPV))), (8, .pv (i64 (l.map pairPV).length)), (9, .pv (i64 i.1))], fun _ => 8, fun _ => HV m a l vs vl, fun i => l.length - i.1, ⟨⟨0, Nat.zero_le _⟩, (by refine Wk.of ?_ ?_ rfl rfl rfl<;>repeat' (first|exact trivial|exact WkD.same _|exact WkO.same _ _ rfl|refine ⟨?_, ?_⟩|fail))⟩, ?_⟩
  rintro ⟨j, hj⟩
  (try conv=>whnf);repeat' (first|(apply And.intro<;>try conv=>whnf)|(intro h;try conv=>whnf)|(apply infoT;rfl)|fail)
  · have hj' : j < l.length := by simpa using lt_dec h
    obtain ⟨y, hy, hyw⟩ : ∃ y, l[j]? = some y ∧ l.getD j (0, 0) = y := ⟨_, getD_mem hj', rfl⟩
    have hym : y ∈ l := List.mem_iff_getElem?.2 ⟨j, hy⟩
    refine ⟨_, _, rfl, idx_map hy, rfl, ?_⟩
    try conv=>whnf
    refine DC.call 8 (HV m a l vs vl) ⟨rfl, rfl, rfl, rfl, rfl, rfl, rfl, rfl, trivial⟩ rfl rfl rfl rfl fun M' => ?_
    refine upd2 m a l vs vl y (hlp y hym).1 (hlp y hym).2 hv _ _ ?_
    refine ⟨rfl, ?_⟩
    (try conv=>whnf);repeat' (first|(apply And.intro<;>try conv=>whnf)|(intro h;try conv=>whnf)|fail)
    · exact Int.natCast_nonneg _
    · have hq : (fun q : Nat × Nat => (vl.getD q.2 0).testBit q.1) (l.getD j (0, 0)) = true := by rw [hyw]; exact h
      refine ⟨⟨j + 1, hj'⟩, by show l.length - (j + 1) < l.length - j; omega, ?_⟩
      (refine Wk.of ?_ ?_ rfl rfl rfl<;>repeat' (first|exact trivial|exact WkD.same _|exact WkO.same _ _ rfl|refine WkD.int ?_|refine ⟨?_, ?_⟩|(refine wrapA ?_ ?_ ?_;(focus simp;done);(focus (try dsimp only);omega);(focus (try dsimp only);omega))|fail))
      exact or_shl (q := fun k => (fun q : Nat × Nat => (vl.getD q.2 0).testBit q.1) (l.getD k (0, 0))) (w := j) (by omega) hq
    · have hq : (fun q : Nat × Nat => (vl.getD q.2 0).testBit q.1) (l.getD j (0, 0)) = false := by rw [hyw]; exact h
      refine ⟨⟨j + 1, hj'⟩, by show l.length - (j + 1) < l.length - j; omega, ?_⟩
      (refine Wk.of ?_ ?_ rfl rfl rfl<;>repeat' (first|exact trivial|exact WkD.same _|exact WkO.same _ _ rfl|refine WkD.int ?_|refine ⟨?_, ?_⟩|(refine wrapA ?_ ?_ ?_;(focus simp;done);(focus (try dsimp only);omega);(focus (try dsimp only);omega))|fail))
      exact congrArg (fun z : Nat => (z : Int)) (mask_no (q := fun k => (fun q : Nat × Nat => (vl.getD q.2 0).testBit q.1) (l.getD k (0, 0))) hq)
  · have hj' : j = l.length := by have := ge_dec (m := (l.map pairPV).length) h (by simpa using hj); simpa using this
    subst hj'
    exact ⟨_, 8, HV m a l vs vl, (by refine Wk.of ?_ ?_ rfl rfl rfl<;>repeat' (first|exact trivial|exact WkD.same _|exact WkO.same _ _ rfl|refine ⟨?_, ?_⟩|fail)), hK⟩
theorem whr_W {M : Nat → Prop} {w0 : World} (m : Mo) (a : Act) (l : List (Nat × Nat)) (vs : List Nat) (rs : List (List Nat)) (i : Nat) (r : List Nat) (mx : List PV) (x : Nat × Nat) (ra : List Nat) (hra : a.rel[i]? = some ra) (hx1 : x.1 < r.length) (hx2 : x.2 < ra.length) (hlp : ∀ y, y ∈ l → y.1 < 64 ∧ y.2 < 64) (hr : ∀ s, s ∈ r → s < 2 ^ 64) (hr2 : ∀ s, s ∈ ra → s < 2 ^ 64) (hl : l.length ≤ 64) (base : Nat) (K : DV → DH → Prop) (hK : K (.pv (u64 (maskOf (fun k => (fun q : Nat × Nat => seesP r ra x q) (l.getD k (0, 0))) l.length))) ⟨10, 0, base, objsOf (HW m a l vs rs i r mx x)⟩) :
    DC Tryz.prog M w0 125 [.clo 128 [] [.ref 7 0, .ref 9 0, .ref 1 0, .ref 6 0], .ref 3 0] ⟨10, 0, base, objsOf (HW m a l vs rs i r mx x)⟩ K := by
  refine DC.weaken (DC.intro mixed (fn := Tryz.f125) rfl rfl rfl ?_)
  try conv=>whnf
  refine ⟨{ i : Nat // i ≤ l.length }, fun i => [(0, .clo 128 [] [.ref 7 0, .ref 9 0, .ref 1 0, .ref 6 0]), (4, .pv (u64 (maskOf (fun k => (fun q : Nat × Nat => seesP r ra x q) (l.getD k (0, 0))) i.1))), (7, .pv (.sl (l.map pairPV))), (8, .pv (i64 (l.map pairPV).length)), (9, .pv (i64 i.1))], fun _ => 10, fun _ => HW m a l vs rs i r mx x, fun i => l.length - i.1, ⟨⟨0, Nat.zero_le _⟩, (by refine Wk.of ?_ ?_ rfl rfl rfl<;>repeat' (first|exact trivial|exact WkD.same _|exact WkO.same _ _ rfl|refine ⟨?_, ?_⟩|fail))⟩, ?_⟩
  rintro ⟨j, hj⟩
  (try conv=>whnf);repeat' (first|(apply And.intro<;>try conv=>whnf)|(intro h;try conv=>whnf)|(apply infoT;rfl)|fail)
  · have hj' : j < l.length := by simpa using lt_dec h
    obtain ⟨y, hy, hyw⟩ : ∃ y, l[j]? = some y ∧ l.getD j (0, 0) = y := ⟨_, getD_mem hj', rfl⟩
    have hym : y ∈ l := List.mem_iff_getElem?.2 ⟨j, hy⟩
    refine ⟨_, _, rfl, idx_map hy, rfl, ?_⟩
    try conv=>whnf
    refine DC.call 10 (HW m a l vs rs i r mx x) ⟨rfl, rfl, rfl, rfl, rfl, rfl, rfl, rfl, rfl, rfl, trivial⟩ rfl rfl rfl rfl fun M' => ?_
    refine upd3 m a l vs rs i r mx x y ra hra hx1 hx2 (hlp y hym).1 (hlp y hym).2 hr hr2 _ _ ?_
    refine ⟨rfl, ?_⟩
    (try conv=>whnf);repeat' (first|(apply And.intro<;>try conv=>whnf)|(intro h;try conv=>whnf)|fail)
    · exact Int.natCast_nonneg _
    · have hq : (fun q : Nat × Nat => seesP r ra x q) (l.getD j (0, 0)) = true := by rw [hyw]; exact h
      refine ⟨⟨j + 1, hj'⟩, by show l.length - (j + 1) < l.length - j; omega, ?_⟩
      (refine Wk.of ?_ ?_ rfl rfl rfl<;>repeat' (first|exact trivial|exact WkD.same _|exact WkO.same _ _ rfl|refine WkD.int ?_|refine ⟨?_, ?_⟩|(refine wrapA ?_ ?_ ?_;(focus simp;done);(focus (try dsimp only);omega);(focus (try dsimp only);omega))|fail))
      exact or_shl (q := fun k => (fun q : Nat × Nat => seesP r ra x q) (l.getD k (0, 0))) (w := j) (by omega) hq
    · have hq : (fun q : Nat × Nat => seesP r ra x q) (l.getD j (0, 0)) = false := by rw [hyw]; exact h
      refine ⟨⟨j + 1, hj'⟩, by show l.length - (j + 1) < l.length - j; omega, ?_⟩
      (refine Wk.of ?_ ?_ rfl rfl rfl<;>repeat' (first|exact trivial|exact WkD.same _|exact WkO.same _ _ rfl|refine WkD.int ?_|refine ⟨?_, ?_⟩|(refine wrapA ?_ ?_ ?_;(focus simp;done);(focus (try dsimp only);omega);(focus (try dsimp only);omega))|fail))
      exact congrArg (fun z : Nat => (z : Int)) (mask_no (q := fun k => (fun q : Nat × Nat => seesP r ra x q) (l.getD k (0, 0))) hq)
  · have hj' : j = l.length := by have := ge_dec (m := (l.map pairPV).length) h (by simpa using hj); simpa using this
    subst hj'
    exact ⟨_, 10, HW m a l vs rs i r mx x, (by refine Wk.of ?_ ?_ rfl rfl rfl<;>repeat' (first|exact trivial|exact WkD.same _|exact WkO.same _ _ rfl|refine ⟨?_, ?_⟩|fail)), hK⟩
end Go.Proofs.YtlaolpkgabknfaaGreatDoor
set_option maxRecDepth 100000
set_option maxHeartbeats 4000000
namespace Go.Proofs.YtlaolpkgabknfaaGreatDoor
open Go Go.Dv

def vsU (m : Mo) (a : Act) (l : List (Nat × Nat)) (i : Nat) : List Nat := (List.range i).map (valP m a l)
def rsU (m : Mo) (a : Act) (l : List (Nat × Nat)) (i : Nat) : List (List Nat) := (List.range i).map (relP m a l)
theorem vsU_succ (m : Mo) (a : Act) (l : List (Nat × Nat)) (i : Nat) : vsU m a l (i + 1) = vsU m a l i ++ [valP m a l i] := by rw [vsU, List.range_succ, List.map_append]; rfl
theorem rsU_succ (m : Mo) (a : Act) (l : List (Nat × Nat)) (i : Nat) : rsU m a l (i + 1) = rsU m a l i ++ [relP m a l i] := by rw [rsU, List.range_succ, List.map_append]; rfl
def vlU (m : Mo) (a : Act) (i : Nat) : List Nat := (List.range a.pre.length).map fun e => valuP m a e i
theorem vlU_get {m : Mo} {a : Act} {i e : Nat} (h : e < a.pre.length) : (vlU m a i).getD e 0 = valuP m a e i := by
  rw [vlU, List.getD_eq_getElem?_getD, List.getElem?_map, List.getElem?_range h]; rfl
def updPlan : Plan := .one 2 (.one 3 (.two 0 (.two 1 (.one 4 (.one 5 (.one 6 (.one 7 (.one 8 .done))))) 4 (.one 1 (.one 5 (.one 6 (.one 7 (.one 8 .done)))))) 4 (.one 0 (.one 1 (.one 5 (.one 6 (.one 7 (.one 8 .done))))))))
theorem pr_Update (m : Mo) (a : Act) (hf : FitM m) (hfa : Fit a) (hl : a.rel.length ≤ 1000) (hp : ∀ l, l ∈ a.post → l.length ≤ 1000) : PureFn Tryz.prog 82 [m.pv, a.pv] (updPV (updI m a)) := by
  refine PureFn.introC [4, 6, 20, 22, 31, 33] mixed (fn := Tryz.f82) rfl rfl rfl fun M w0 => ?_
  have hW := pr_Worlds m a hf hfa hl hp
  obtain ⟨l, e, hX⟩ : ∃ l e, worldsI m a = (l, e) := ⟨_, _, rfl⟩
  have hwo := worldsI_ok (m := m) (a := a)
  rw [updI]
  rw [hX] at hW hwo ⊢
  clear hX
  have e9 : ((l.map pairPV).length : Int) = (l.length : Int) := by simp
  (try conv=>whnf);repeat' (first|(refine PureFn.dcq (f := 124) rfl ?_;try conv=>whnf)|(refine ⟨_, _, hW, ?_, ?_⟩;(focus first|(refine ⟨?_, ?_, trivial⟩<;>first|exact PLe.refl _|exact PLe.nil)|exact trivial);try conv=>whnf)|fail)
  refine ⟨{ _x : Unit // (e != 0) = false }, fun _ => [(2, .ref 0 0), (3, .ref 1 0), (4, .ref 2 0), (7, .ref 3 0)], fun _ => 4, fun _ => [(0, .var (cellsM m)), (1, .var (cellsA a)), (2, .var cells0), (3, .var [.pv (.sl (l.map pairPV))])], ?_, ?_⟩
  · (try conv=>whnf);repeat' (first|(apply And.intro<;>try conv=>whnf)|(intro h;try conv=>whnf)|fail)
    · rw [show (((l, e) : List (Nat × Nat) × Int).2 != 0) = true from h]; exact le_upd _
    · exact ⟨⟨(), h⟩, (by refine Wk.of ?_ ?_ rfl rfl rfl<;>repeat' (first|exact trivial|exact WkD.same _|exact WkO.same _ _ rfl|refine ⟨?_, ?_⟩|fail))⟩
  rintro ⟨_, h1⟩
  obtain ⟨hma, hpl, hl1⟩ := hwo (show e = 0 by simpa using h1)
  obtain ⟨⟨n, hM⟩, hAc⟩ := moaI_ok hma
  have hO := actI_ok hAc
  have hn8 := hO.n8
  have hn64 := hM.n64
  have hfa8 := hM.fa
  have hag := hM.ag
  have hpl : l = pairsL m a := hpl
  have hmem : ∀ y, y ∈ l → y.1 < n ∧ y.2 < a.pre.length := fun y hy => by
    rw [hpl, pairsL, hM.nn] at hy
    have := pairsW_mem.1 hy
    exact ⟨this.1, this.2.1⟩
  clear hpl hl1
  refine ⟨{ _x : Unit // decide ((l.length : Int) > 64) = false }, fun _ => [(2, .ref 0 0), (3, .ref 1 0), (4, .ref 2 0), (7, .ref 3 0)], fun _ => 4, fun _ => [(0, .var (cellsM m)), (1, .var (cellsA a)), (2, .var cells0), (3, .var [.pv (.sl (l.map pairPV))])], ?_, ?_⟩
  · (try conv=>whnf);repeat' (first|(apply And.intro<;>try conv=>whnf)|(intro h;try conv=>whnf)|fail)
    · have h9 : decide ((l.length : Int) > 64) = true := by rw [← e9]; exact h
      rw [show (((l, e) : List (Nat × Nat) × Int).2 != 0) = false from h1, show decide ((((l, e) : List (Nat × Nat) × Int).1.length : Int) > 64) = true from h9]
      exact le_upd _
    · exact ⟨⟨(), by rw [← e9]; exact h⟩, (by refine Wk.of ?_ ?_ rfl rfl rfl<;>repeat' (first|exact trivial|exact WkD.same _|exact WkO.same _ _ rfl|refine ⟨?_, ?_⟩|fail))⟩
  rintro ⟨_, h2⟩
  have hl64 : l.length ≤ 64 := by have := of_decide_eq_false h2; omega
  have hres : (bif (((l, e) : List (Nat × Nat) × Int).2 != 0) then (noMo, ([] : List (Nat × Nat)), ((l, e) : List (Nat × Nat) × Int).2) else bif decide ((((l, e) : List (Nat × Nat) × Int).1.length : Int) > 64) then (noMo, [], 8) else (prodM m a ((l, e) : List (Nat × Nat) × Int).1, ((l, e) : List (Nat × Nat) × Int).1, (0 : Int))) = (prodM m a l, l, 0) := by
    rw [show (((l, e) : List (Nat × Nat) × Int).2 != 0) = false from h1, show decide ((((l, e) : List (Nat × Nat) × Int).1.length : Int) > 64) = false from h2]; rfl
  rw [hres]
  clear hres
  try conv=>whnf
  refine ⟨Unit, fun _ => [(2, .ref 0 0), (3, .ref 1 0), (4, .ref 2 0), (7, .ref 3 0), (9, .clo 125 [] [.ref 3 0]), (10, .ref 4 0)], fun _ => 5, fun _ => [(0, .var (cellsM m)), (1, .var (cellsA a)), (2, .var cells0), (3, .var [.pv (.sl (l.map pairPV))]), (4, .var [.pv (i64 (l.map pairPV).length), .pv (rowPV (vsU m a l m.val.length)), .pv .nil])], ?_, ?_⟩
  · try conv=>whnf
    refine ⟨{ i : Nat // i ≤ m.val.length }, fun i => [(2, .ref 0 0), (3, .ref 1 0), (4, .ref 2 0), (7, .ref 3 0), (9, .clo 125 [] [.ref 3 0]), (10, .ref 4 0), (41, .pv (i64 (m.val.map u64).length)), (42, .pv (i64 i.1))], fun _ => 6, fun i => [(0, .var (cellsM m)), (1, .var (cellsA a)), (2, .var cells0), (3, .var [.pv (.sl (l.map pairPV))]), (4, .var [.pv (i64 (l.map pairPV).length), .buf 5 ((vsU m a l i.1).map u64).length, .pv .nil]), (5, .arr 1 ((vsU m a l i.1).map u64))], fun i => m.val.length - i.1, ⟨⟨0, Nat.zero_le _⟩, (by refine Wk.of ?_ ?_ rfl rfl rfl<;>repeat' (first|exact trivial|exact WkD.same _|exact WkO.same _ _ rfl|exact WkD.new' rfl rfl rfl|exact WkO.new _ _ rfl|refine WkO.vars rfl ?_|exact rfl|refine ⟨?_, ?_⟩|fail))⟩, ?_⟩
    rintro ⟨i, hi⟩
    (try conv=>whnf);repeat' (first|(apply And.intro<;>try conv=>whnf)|(intro h;try conv=>whnf)|(apply Or.inl;try conv=>whnf)|fail)
    · rfl
    · exact Int.natCast_nonneg _
    · show ((a.pre.map fpv).length : Int) ≤ 4294967296
      rw [List.length_map]; omega
    · have hi' : i < m.val.length := by simpa using lt_dec h
      have hN : ((a.pre.map fpv).length : Int).toNat = a.pre.length := by rw [List.length_map]; rfl
      have hz1 : List.replicate ((a.pre.map fpv).length : Int).toNat (PV.int .u64 0) = (mixV a.pre.length (fun e => u64 (valuP m a e i)) (fun _ => u64 0) 0) := by rw [hN]; exact mixV_rep _ _ _
      have hmlv := mixV_len a.pre.length (fun e => u64 (valuP m a e i)) (fun _ => u64 0)
      refine ⟨Unit, fun _ => [(2, .ref 0 0), (3, .ref 1 0), (4, .ref 2 0), (7, .ref 3 0), (9, .clo 125 [] [.ref 3 0]), (10, .ref 4 0), (12, .ref 7 0), (41, .pv (i64 (m.val.map u64).length)), (42, .pv (i64 i))], fun _ => 8, fun _ => [(0, .var (cellsM m)), (1, .var (cellsA a)), (2, .var cells0), (3, .var [.pv (.sl (l.map pairPV))]), (4, .var [.pv (i64 (l.map pairPV).length), .buf 5 ((vsU m a l i).map u64).length, .pv .nil]), (5, .arr 1 ((vsU m a l i).map u64)), (7, .var [.pv (.sl (mixV a.pre.length (fun e => u64 (valuP m a e i)) (fun _ => u64 0) a.pre.length))])], ?_, ?_⟩
      · try conv=>whnf
        refine ⟨{ k : Nat // k ≤ a.pre.length }, fun k => [(2, .ref 0 0), (3, .ref 1 0), (4, .ref 2 0), (7, .ref 3 0), (9, .clo 125 [] [.ref 3 0]), (10, .ref 4 0), (11, .pv (i64 i)), (12, .ref 7 0), (41, .pv (i64 (m.val.map u64).length)), (42, .pv (i64 i)), (50, .pv (i64 a.pre.length)), (51, .pv (i64 k.1))], fun _ => 8, fun k => [(0, .var (cellsM m)), (1, .var (cellsA a)), (2, .var cells0), (3, .var [.pv (.sl (l.map pairPV))]), (4, .var [.pv (i64 (l.map pairPV).length), .buf 5 ((vsU m a l i).map u64).length, .pv .nil]), (5, .arr 1 ((vsU m a l i).map u64)), (6, .arr 1 (mixV a.pre.length (fun e => u64 (valuP m a e i)) (fun _ => u64 0) k.1)), (7, .var [.buf 6 (mixV a.pre.length (fun e => u64 (valuP m a e i)) (fun _ => u64 0) k.1).length])], fun k => a.pre.length - k.1, ⟨⟨0, Nat.zero_le _⟩, ?_⟩, ?_⟩
        · (refine Wk.of ?_ ?_ rfl rfl rfl<;>repeat' (first|exact trivial|exact WkD.same _|exact WkO.same _ _ rfl|refine WkD.int ?_|refine WkO.vars rfl ?_|refine ⟨?_, ?_⟩|fail))
          · exact congrArg (fun z : Nat => (z : Int)) ((List.length_replicate ..).trans hN)
          · exact WkO.same _ _ (congrArg (fun z => some (DObj.arr 1 z)) hz1)
          · exact WkD.eq (congrArg (fun z : List PV => DV.buf 6 z.length) hz1)
        rintro ⟨k, hk⟩
        have hmk := hmlv k
        have hmk1 := hmlv (k + 1)
        have hst := mixV_set (n := a.pre.length) (p := fun e => u64 (valuP m a e i)) (q := fun _ => u64 0) (e := k)
        (try conv=>whnf);repeat' (first|(apply And.intro<;>try conv=>whnf)|(intro h;try conv=>whnf)|fail)
        · have hk' : k < a.pre.length := lt_dec h
          have hV := ac_Value a k i hfa hl hp
          have hv0 := valI_ok hma hk' hi'
          obtain ⟨g, hg⟩ : ∃ g, valI a k i = (g, 0) := ⟨(valI a k i).1, Prod.ext rfl hv0⟩
          rw [hg] at hV
          have hH := ck_Holds m g hf
          have hvp : (holdsI m g).1 = valuP m a k i := by rw [valuP, hg]
          obtain ⟨z, hz⟩ : ∃ z, holdsI m g = (valuP m a k i, z) := ⟨(holdsI m g).2, Prod.ext hvp rfl⟩
          rw [hz] at hH
          (try conv=>whnf);repeat' (first|(apply And.intro<;>try conv=>whnf)|(intro h;try conv=>whnf)|(refine PureFn.dcq (f := 126) rfl ?_;try conv=>whnf)|(refine ⟨_, _, hV, ?_, ?_⟩;(focus first|(refine ⟨?_, ?_, ?_, trivial⟩<;>first|exact PLe.refl _|exact PLe.nil)|exact trivial);try conv=>whnf)|fail)
          · cases h
          refine ⟨Plan.lin 0 10, [9], by kernel_rfl, ?_⟩
          (try conv=>whnf);repeat' (first|(apply And.intro<;>try conv=>whnf)|(refine ⟨_, (by (conv=>whnf);exact hH), rfl, ?_⟩;try conv=>whnf)|fail)
          refine ⟨k, rfl, by rw [hmk]; exact hk', ?_⟩
          (try conv=>whnf);repeat' (first|(apply And.intro<;>try conv=>whnf)|fail)
          refine ⟨_, mixV_old hk', Nat.le_refl 1, ?_⟩
          try conv=>whnf
          refine ⟨⟨k + 1, hk'⟩, by show a.pre.length - (k + 1) < a.pre.length - k; omega, ?_⟩
          (refine Wk.of ?_ ?_ rfl rfl rfl<;>repeat' (first|exact trivial|exact WkD.same _|exact WkO.same _ _ rfl|refine WkD.int ?_|refine WkO.vars rfl ?_|refine ⟨?_, ?_⟩|(refine wrapA ?_ ?_ ?_;(focus simp;done);(focus (try dsimp only);omega);(focus (try dsimp only);omega))|fail))
          · exact WkO.same _ _ (congrArg (fun z => some (DObj.arr 1 z)) hst)
          · exact WkD.eq (congrArg (DV.buf 6) (hmk.trans hmk1.symm))
        · have hk' : k = a.pre.length := ge_dec h hk
          subst hk'
          exact ⟨(), (by refine Wk.of ?_ ?_ rfl rfl rfl<;>repeat' (first|exact trivial|exact WkD.same _|exact WkO.same _ _ rfl|exact WkD.fz _ _ _ rfl (Or.inl ⟨_, rfl⟩) rfl|refine WkO.vars rfl ?_|refine ⟨?_, ?_⟩|fail))⟩
      rintro ⟨⟩
      have hvl : (mixV a.pre.length (fun e => u64 (valuP m a e i)) (fun _ => u64 0) a.pre.length) = (vlU m a i).map u64 := by rw [mixV_full, vlU, List.map_map]; rfl
      have hlv : (vlU m a i).length = a.pre.length := by simp [vlU]
      have hv64 : ∀ s, s ∈ vlU m a i → s < 2 ^ 64 := fun s hs => by
        obtain ⟨e, _, rfl⟩ := List.mem_map.1 hs
        exact Nat.lt_of_lt_of_le (holds_lt n hM) (pow64_le hn64)
      have hmk : maskOf (fun k => ((vlU m a i).getD (l.getD k (0, 0)).2 0).testBit (l.getD k (0, 0)).1) l.length = valP m a l i := maskOf_congr fun k hk => by
        rw [vlU_get (hmem _ (List.mem_iff_getElem?.2 ⟨k, getD_mem hk⟩)).2]
      have hvs := vsU_succ m a l i
      have hvsl : ((vsU m a l i).map u64).length ≤ 1000 := by simp [vsU]; omega
      rw [hvl]
      try conv=>whnf
      have er : (vsU m a l i).map u64 ++ [PV.int .u64 ((valP m a l i : Nat) : Int)] = (vsU m a l (i + 1)).map u64 := by rw [hvs, List.map_append]; rfl
      have hlpV : ∀ y, y ∈ l → y.1 < 64 ∧ y.2 < (vlU m a i).length := fun y hy => ⟨by have := (hmem y hy).1; omega, by rw [hlv]; exact (hmem y hy).2⟩
      refine ⟨updPlan, [4, 6, 8], by kernel_rfl, ?_⟩
      (try conv=>whnf);repeat' (first|(apply And.intro<;>try conv=>whnf)|fail)
      all_goals (refine whr_V m a l (vsU m a l i) (vlU m a i) hlpV hv64 hl64 _ _ ?_)
      all_goals (rw [hmk])
      all_goals ((try conv=>whnf);repeat' (first|(apply And.intro<;>try conv=>whnf)|(apply cellsI;rfl)|(apply szI;rfl)|fail))
      · exact app_big (n := 1000) hvsl (by decide)
      · refine ⟨⟨i + 1, hi'⟩, by show m.val.length - (i + 1) < m.val.length - i; omega, ?_⟩
        (refine Wk.of ?_ ?_ rfl rfl rfl<;>repeat' (first|exact trivial|exact WkD.same _|exact WkO.same _ _ rfl|exact WkD.eq (congrArg (fun z : List PV => DV.buf _ z.length) er)|exact WkO.same _ _ (congrArg (fun z => some (DObj.arr _ z)) er)|refine WkD.int ?_|refine WkO.vars rfl ?_|refine ⟨?_, ?_⟩|(refine wrapA ?_ ?_ ?_;(focus simp;done);(focus (try dsimp only);omega);(focus (try dsimp only);omega))|fail))
      · exact app_big (n := 1000) hvsl (by decide)
      · refine ⟨⟨i + 1, hi'⟩, by show m.val.length - (i + 1) < m.val.length - i; omega, ?_⟩
        (refine Wk.of ?_ ?_ rfl rfl rfl<;>repeat' (first|exact trivial|exact WkD.same _|exact WkO.same _ _ rfl|exact WkD.eq (congrArg (fun z : List PV => DV.buf _ z.length) er)|exact WkO.same _ _ (congrArg (fun z => some (DObj.arr _ z)) er)|refine WkD.int ?_|refine WkO.vars rfl ?_|refine ⟨?_, ?_⟩|(refine wrapA ?_ ?_ ?_;(focus simp;done);(focus (try dsimp only);omega);(focus (try dsimp only);omega))|fail))
      · exact app_big (n := 1000) hvsl (by decide)
      · refine ⟨⟨i + 1, hi'⟩, by show m.val.length - (i + 1) < m.val.length - i; omega, ?_⟩
        (refine Wk.of ?_ ?_ rfl rfl rfl<;>repeat' (first|exact trivial|exact WkD.same _|exact WkO.same _ _ rfl|exact WkD.eq (congrArg (fun z : List PV => DV.buf _ z.length) er)|exact WkO.same _ _ (congrArg (fun z => some (DObj.arr _ z)) er)|refine WkD.int ?_|refine WkO.vars rfl ?_|refine ⟨?_, ?_⟩|(refine wrapA ?_ ?_ ?_;(focus simp;done);(focus (try dsimp only);omega);(focus (try dsimp only);omega))|fail))
    · have hi' : i = m.val.length := by have := ge_dec (m := (m.val.map u64).length) h (by simpa using hi); simpa using this
      subst hi'
      exact ⟨(), (by refine Wk.of ?_ ?_ rfl rfl rfl<;>repeat' (first|exact trivial|exact WkD.same _|exact WkO.same _ _ rfl|exact WkD.fz _ _ _ rfl (Or.inl ⟨_, rfl⟩) rfl|refine WkO.vars rfl ?_|refine ⟨?_, ?_⟩|fail))⟩
  rintro ⟨⟩
  generalize hVS : (vsU m a l m.val.length) = vs
  refine ⟨Unit, fun _ => [(4, .ref 2 0), (7, .ref 3 0), (10, .ref 4 0)], fun _ => 5, fun _ => [(2, .var cells0), (3, .var [.pv (.sl (l.map pairPV))]), (4, .var [.pv (i64 (l.map pairPV).length), .pv (rowPV vs), .pv (.sl ((rsU m a l m.rel.length).map rowPV))])], ?_, ?_⟩
  · try conv=>whnf
    refine ⟨{ i : Nat // i ≤ m.rel.length }, fun i => [(2, .ref 0 0), (3, .ref 1 0), (4, .ref 2 0), (7, .ref 3 0), (9, .clo 125 [] [.ref 3 0]), (10, .ref 4 0), (85, .pv (.sl (m.rel.map rowPV))), (86, .pv (i64 (m.rel.map rowPV).length)), (87, .pv (i64 i.1))], fun _ => 6, fun i => [(0, .var (cellsM m)), (1, .var (cellsA a)), (2, .var cells0), (3, .var [.pv (.sl (l.map pairPV))]), (4, .var [.pv (i64 (l.map pairPV).length), .pv (rowPV vs), .buf 5 ((rsU m a l i.1).map rowPV).length]), (5, .arr 1 ((rsU m a l i.1).map rowPV))], fun i => m.rel.length - i.1, ⟨⟨0, Nat.zero_le _⟩, (by refine Wk.of ?_ ?_ rfl rfl rfl<;>repeat' (first|exact trivial|exact WkD.same _|exact WkO.same _ _ rfl|exact WkD.new' rfl rfl rfl|exact WkO.new _ _ rfl|refine WkO.vars rfl ?_|exact rfl|refine ⟨?_, ?_⟩|fail))⟩, ?_⟩
    rintro ⟨i, hi⟩
    (try conv=>whnf);repeat' (first|(apply And.intro<;>try conv=>whnf)|(intro h;try conv=>whnf)|(apply infoT;rfl)|fail)
    · have hi' : i < m.rel.length := by simpa using lt_dec h
      obtain ⟨r, hr, hrw⟩ : ∃ r, m.rel[i]? = some r ∧ m.rel.getD i [] = r := ⟨_, getD_mem hi', rfl⟩
      have hrm : r ∈ m.rel := List.mem_iff_getElem?.2 ⟨i, hr⟩
      have hrl := hM.rows r hrm
      have hrb := hf.2 r hrm
      obtain ⟨ra, hra, hraw⟩ : ∃ r, a.rel[i]? = some r ∧ a.rel.getD i [] = r := ⟨_, getD_mem (by have := hO.ags; omega), rfl⟩
      have hram : ra ∈ a.rel := List.mem_iff_getElem?.2 ⟨i, hra⟩
      have hral := hO.rows ra hram
      have hrab := hfa ra hram
      have hN : ((l.map pairPV).length : Int).toNat = l.length := by rw [List.length_map]; rfl
      have hz1 : List.replicate ((l.map pairPV).length : Int).toNat (PV.int .u64 0) = (mixV l.length (fun k => u64 (rowP r ra l (l.getD k (0, 0)))) (fun _ => u64 0) 0) := by rw [hN]; exact mixV_rep _ _ _
      have hmlv := mixV_len l.length (fun k => u64 (rowP r ra l (l.getD k (0, 0)))) (fun _ => u64 0)
      refine ⟨_, _, rfl, idx_map hr, rfl, ?_⟩
      (try conv=>whnf);repeat' (first|(apply And.intro<;>try conv=>whnf)|(apply Or.inl;try conv=>whnf)|fail)
      · rfl
      · exact Int.natCast_nonneg _
      · show ((l.map pairPV).length : Int) ≤ 4294967296
        rw [List.length_map]; omega
      refine ⟨Unit, fun _ => [(2, .ref 0 0), (3, .ref 1 0), (4, .ref 2 0), (7, .ref 3 0), (9, .clo 125 [] [.ref 3 0]), (10, .ref 4 0), (18, .pv (.sl (mixV l.length (fun k => u64 (rowP r ra l (l.getD k (0, 0)))) (fun _ => u64 0) l.length))), (85, .pv (.sl (m.rel.map rowPV))), (86, .pv (i64 (m.rel.map rowPV).length)), (87, .pv (i64 i))], fun _ => 6, fun _ => [(0, .var (cellsM m)), (1, .var (cellsA a)), (2, .var cells0), (3, .var [.pv (.sl (l.map pairPV))]), (4, .var [.pv (i64 (l.map pairPV).length), .pv (rowPV vs), .buf 5 ((rsU m a l i).map rowPV).length]), (5, .arr 1 ((rsU m a l i).map rowPV))], ?_, ?_⟩
      · try conv=>whnf
        refine ⟨{ k : Nat // k ≤ l.length }, fun k => [(2, .ref 0 0), (3, .ref 1 0), (4, .ref 2 0), (7, .ref 3 0), (9, .clo 125 [] [.ref 3 0]), (10, .ref 4 0), (16, .ref 6 0), (17, .ref 7 0), (18, .buf 8 (mixV l.length (fun k => u64 (rowP r ra l (l.getD k (0, 0)))) (fun _ => u64 0) k.1).length), (85, .pv (.sl (m.rel.map rowPV))), (86, .pv (i64 (m.rel.map rowPV).length)), (87, .pv (i64 i)), (95, .pv (.sl (l.map pairPV))), (96, .pv (i64 (l.map pairPV).length)), (97, .pv (i64 k.1))], fun _ => 9, fun k => [(0, .var (cellsM m)), (1, .var (cellsA a)), (2, .var cells0), (3, .var [.pv (.sl (l.map pairPV))]), (4, .var [.pv (i64 (l.map pairPV).length), .pv (rowPV vs), .buf 5 ((rsU m a l i).map rowPV).length]), (5, .arr 1 ((rsU m a l i).map rowPV)), (6, .var [.pv (i64 i)]), (7, .var [.pv (rowPV r)]), (8, .arr 1 (mixV l.length (fun k => u64 (rowP r ra l (l.getD k (0, 0)))) (fun _ => u64 0) k.1))], fun k => l.length - k.1, ⟨⟨0, Nat.zero_le _⟩, ?_⟩, ?_⟩
        · (refine Wk.of ?_ ?_ rfl rfl rfl<;>repeat' (first|exact trivial|exact WkD.same _|exact WkO.same _ _ rfl|refine ⟨?_, ?_⟩|fail))
          · exact WkD.eq (congrArg (fun z : List PV => DV.buf 8 z.length) hz1)
          · exact WkO.same _ _ (congrArg (fun z => some (DObj.arr 1 z)) hz1)
        rintro ⟨k, hk⟩
        have hmk := hmlv k
        have hmk1 := hmlv (k + 1)
        have hst := mixV_set (n := l.length) (p := fun k => u64 (rowP r ra l (l.getD k (0, 0)))) (q := fun _ => u64 0) (e := k)
        (try conv=>whnf);repeat' (first|(apply And.intro<;>try conv=>whnf)|(intro h;try conv=>whnf)|(apply infoT;rfl)|fail)
        · have hk' : k < l.length := by simpa using lt_dec h
          obtain ⟨x, hx, hxw⟩ : ∃ y, l[k]? = some y ∧ l.getD k (0, 0) = y := ⟨_, getD_mem hk', rfl⟩
          have hxm := hmem x (List.mem_iff_getElem?.2 ⟨k, hx⟩)
          refine ⟨_, _, rfl, idx_map hx, rfl, ?_⟩
          try conv=>whnf
          refine DC.call 10 (HW m a l vs (rsU m a l i) i r (mixV l.length (fun k => u64 (rowP r ra l (l.getD k (0, 0)))) (fun _ => u64 0) k) x) ⟨rfl, rfl, rfl, rfl, rfl, rfl, rfl, rfl, rfl, rfl, trivial⟩ rfl rfl rfl rfl fun M' => ?_
          refine whr_W m a l vs (rsU m a l i) i r (mixV l.length (fun k => u64 (rowP r ra l (l.getD k (0, 0)))) (fun _ => u64 0) k) x ra hra (by omega) (by omega) (fun y hy => by have := hmem y hy; exact ⟨by omega, by omega⟩) hrb hrab hl64 _ _ ?_
          refine ⟨rfl, ?_⟩
          (try conv=>whnf);repeat' (first|(apply And.intro<;>try conv=>whnf)|fail)
          refine ⟨k, rfl, by rw [hmk]; exact hk', ?_⟩
          (try conv=>whnf);repeat' (first|(apply And.intro<;>try conv=>whnf)|fail)
          refine ⟨_, mixV_old hk', Nat.le_refl 1, ?_⟩
          try conv=>whnf
          rw [hxw] at hst
          refine ⟨⟨k + 1, hk'⟩, by show l.length - (k + 1) < l.length - k; omega, ?_⟩
          (refine Wk.of ?_ ?_ rfl rfl rfl<;>repeat' (first|exact trivial|exact WkD.same _|exact WkO.same _ _ rfl|refine WkD.int ?_|refine ⟨?_, ?_⟩|(refine wrapA ?_ ?_ ?_;(focus simp;done);(focus (try dsimp only);omega);(focus (try dsimp only);omega))|fail))
          · exact WkD.eq (congrArg (DV.buf 8) (hmk.trans hmk1.symm))
          · exact WkO.same _ _ (congrArg (fun z => some (DObj.arr 1 z)) hst)
        · have hk' : k = l.length := by have := ge_dec (m := (l.map pairPV).length) h (by simpa using hk); simpa using this
          subst hk'
          exact ⟨(), (by refine Wk.of ?_ ?_ rfl rfl rfl<;>repeat' (first|exact trivial|exact WkD.same _|exact WkO.same _ _ rfl|exact WkD.fz _ _ _ rfl (Or.inl ⟨_, rfl⟩) rfl|refine ⟨?_, ?_⟩|fail))⟩
      rintro ⟨⟩
      have hrs := rsU_succ m a l i
      have hrsl : ((rsU m a l i).map rowPV).length ≤ 1000 := by simp [rsU]; omega
      have er : (rsU m a l i).map rowPV ++ [PV.sl (mixV l.length (fun k => u64 (rowP r ra l (l.getD k (0, 0)))) (fun _ => u64 0) l.length)] = (rsU m a l (i + 1)).map rowPV := by
        rw [hrs, List.map_append, mixV_full, relP, hrw, hraw]
        congr 1
        show [PV.sl _] = [rowPV (l.map (rowP r ra l))]
        rw [rowPV, List.map_map]
        congr 2
        exact map_getD (g := fun x => u64 (rowP r ra l x)) (d := (0, 0)) rfl
      (try conv=>whnf);repeat' (first|(apply And.intro<;>try conv=>whnf)|(apply cellsI;rfl)|(apply szI;rfl)|fail)
      · exact app_big (n := 1000) hrsl (by decide)
      refine ⟨⟨i + 1, hi'⟩, by show m.rel.length - (i + 1) < m.rel.length - i; omega, ?_⟩
      (refine Wk.of ?_ ?_ rfl rfl rfl<;>repeat' (first|exact trivial|exact WkD.same _|exact WkO.same _ _ rfl|exact WkD.eq (congrArg (fun z : List PV => DV.buf _ z.length) er)|exact WkO.same _ _ (congrArg (fun z => some (DObj.arr _ z)) er)|refine WkD.int ?_|refine WkO.vars rfl ?_|refine ⟨?_, ?_⟩|(refine wrapA ?_ ?_ ?_;(focus simp;done);(focus (try dsimp only);omega);(focus (try dsimp only);omega))|fail))
    · have hi' : i = m.rel.length := by have := ge_dec (m := (m.rel.map rowPV).length) h (by simpa using hi); simpa using this
      subst hi'
      exact ⟨(), (by refine Wk.of ?_ ?_ rfl rfl rfl<;>repeat' (first|exact trivial|exact WkD.same _|exact WkO.same _ _ rfl|exact WkD.fz _ _ _ rfl (Or.inl ⟨_, rfl⟩) rfl|refine WkO.vars rfl ?_|refine ⟨?_, ?_⟩|fail))⟩
  rintro ⟨⟩
  try conv=>whnf
  refine ⟨.one 0 (.two 1 (.one 2 (.one 3 (.one 4 .done))) 2 (.one 1 (.one 3 (.one 4 .done)))), [2], by kernel_rfl, ?_⟩
  have hfin : updPV (prodM m a l, l, 0) = .tup [.agg [i64 (l.map pairPV).length, rowPV vs, .sl ((rsU m a l m.rel.length).map rowPV)], .sl (l.map pairPV), .int .i64 0] := by rw [← hVS, List.length_map]; rfl
  (try conv=>whnf);repeat' (first|(apply And.intro<;>try conv=>whnf)|fail)
  all_goals (rw [hfin]; exact .refl _)
end Go.Proofs.YtlaolpkgabknfaaGreatDoor
set_option maxRecDepth 100000
set_option maxHeartbeats 4000000
namespace Go.Proofs.YtlaolpkgabknfaaGreatDoor
open Go Go.Dv

def isP (w e : Int) (q : Nat × Nat) : Bool := bif (q.1 : Int) == w then (q.2 : Int) == e else false
def ixP (l : List (Nat × Nat)) (w e : Int) : Int := match l.findIdx? (isP w e) with | none => -1 | some i => (i : Int)
theorem find_at {α : Type} {p : α → Bool} : ∀ {l : List α} {i : Nat} {x : α}, l[i]? = some x → p x = true → (l.take i).any p = false → l.findIdx? p = some i
  | [], i, x, h, _, _ => by simp at h
  | a :: r, 0, x, h, hx, _ => by
    have : a = x := by simpa using h
    subst this
    simp [List.findIdx?_cons, hx]
  | a :: r, i + 1, x, h, hx, hn => by
    have h1 : r[i]? = some x := by simpa using h
    have hn2 : (p a || (r.take i).any p) = false := by simpa using hn
    rw [Bool.or_eq_false_iff] at hn2
    rw [List.findIdx?_cons, hn2.1, find_at h1 hx hn2.2]; rfl
theorem find_none {α : Type} {p : α → Bool} {l : List α} (h : l.any p = false) : l.findIdx? p = none := by
  rw [List.findIdx?_eq_none_iff]
  exact fun x hx => by simpa using List.any_eq_false.1 h x hx
theorem fit_pair (x y : Int) : fitT Tryz.prog 124 (.agg [.int .i64 x, .int .i64 y]) = true := by kernel_rfl
theorem eq_pair (w e : Int) (q : Nat × Nat) : eqPVs [.int .i64 w, .int .i64 e] [i64 q.1, i64 q.2] = isP w e q := by
  show ((w == (q.1 : Int)) && ((e == (q.2 : Int)) && true)) = bif (q.1 : Int) == w then (q.2 : Int) == e else false
  rw [Bool.and_true, show (w == (q.1 : Int)) = ((q.1 : Int) == w) by rw [Bool.eq_iff_iff, beq_iff_eq, beq_iff_eq]; exact ⟨Eq.symm, Eq.symm⟩, show (e == (q.2 : Int)) = ((q.2 : Int) == e) by rw [Bool.eq_iff_iff, beq_iff_eq, beq_iff_eq]; exact ⟨Eq.symm, Eq.symm⟩]
  cases ((q.1 : Int) == w) <;> rfl
theorem sl_IndexP (l : List (Nat × Nat)) (w e : Int) (hl : l.length ≤ 1000) : PureFn Tryz.prog 83 [.sl (l.map pairPV), .agg [.int .i64 w, .int .i64 e]] (.int .i64 (ixP l w e)) := by
  refine PureFn.intro mixed (fn := Tryz.f83) rfl rfl rfl fun M w0 => ?_
  try conv=>whnf
  refine ⟨{ i : Nat // i ≤ l.length ∧ (l.take i).any (isP w e) = false }, fun i => [(0, .pv (.sl (l.map pairPV))), (3, .ref 0 0), (7, .pv (i64 (l.map pairPV).length)), (8, .pv (i64 i.1))], fun _ => 1, fun _ => [(0, .var [.pv (.int .i64 w), .pv (.int .i64 e)])], fun i => l.length - i.1, ⟨⟨0, Nat.zero_le _, rfl⟩, (by refine Wk.of ?_ ?_ rfl rfl rfl<;>repeat' (first|exact trivial|exact WkD.same _|exact WkO.same _ _ rfl|refine ⟨?_, ?_⟩|fail))⟩, ?_⟩
  rintro ⟨i, hi, hn⟩
  (try conv=>whnf);repeat' (first|(apply And.intro<;>try conv=>whnf)|(intro h;try conv=>whnf)|(apply infoT;rfl)|(refine lin_plan (by kernel_rfl) ?_;try conv=>whnf)|fail)
  · have hi' : i < l.length := by simpa using lt_dec h
    obtain ⟨y, hy, hyw⟩ : ∃ y, l[i]? = some y ∧ l[i] = y := ⟨_, List.getElem?_eq_getElem hi', rfl⟩
    refine ⟨_, _, rfl, idx_map hy, rfl, ?_⟩
    (try conv=>whnf);repeat' (first|(apply And.intro<;>try conv=>whnf)|(intro h;try conv=>whnf)|(apply guardI;kernel_rfl)|fail)
    · exact fit_pair _ _
    · exact fit_pair _ _
    · have hq : isP w e y = true := by rw [← eq_pair]; exact h
      rw [ixP, find_at hy hq hn]
      exact .refl _
    · have hq : isP w e y = false := by rw [← eq_pair]; exact h
      exact ⟨⟨i + 1, hi', any_take hi' hn (by rw [hyw]; exact hq)⟩, by show l.length - (i + 1) < l.length - i; omega, (by refine Wk.of ?_ ?_ rfl rfl rfl<;>repeat' (first|exact trivial|exact WkD.same _|exact WkO.same _ _ rfl|refine WkD.int ?_|refine ⟨?_, ?_⟩|(refine wrapA ?_ ?_ ?_;(focus simp;done);(focus (try dsimp only);omega);(focus (try dsimp only);omega))|fail))⟩
  · have hi' : i = l.length := by have := ge_dec (m := (l.map pairPV).length) h (by simpa using hi); simpa using this
    subst hi'
    rw [List.take_length] at hn
    rw [ixP, find_none hn]
    exact .refl _
theorem updI_len (m : Mo) (a : Act) : (updI m a).2.1.length ≤ 64 := by
  unfold updI
  cases ((worldsI m a).2 != 0) with
  | true => exact Nat.zero_le _
  | false =>
    cases h : decide (((worldsI m a).1.length : Int) > 64) with
    | true => exact Nat.zero_le _
    | false =>
      have := of_decide_eq_false h
      show (worldsI m a).1.length ≤ 64
      omega
end Go.Proofs.YtlaolpkgabknfaaGreatDoor
set_option maxRecDepth 100000
namespace Go.Proofs.YtlaolpkgabknfaaGreatDoor
open Go Go.RowKit

theorem tz64_core (x k idx : Nat) (w : World) (hx0 : ((x : Int) == 0) = false)
    (key : IntKind.u64.wrap (bits BinOp.and IntKind.u64 (x : Int) (IntKind.u64.wrap (-(x : Int))) * 285870213051353865) / 288230376151711744 = (idx : Int))
    (hi : idx < 64) (hk : k < 64) (hcell : w.cell? ⟨0, idx, none⟩ = some (.int .u8 k)) :
    Calls Tryz.prog 122 #[.int .u64 x] w fun e w' => e = .returned (.int .i64 k) ∧ w' = w := by
  go_enter Tryz.func122, Tryz.ntmps122
  go_wp2_with (simp only [key])
  go_ret
  exact ⟨rfl, rfl⟩
theorem tz64_zero (w : World) : Calls Tryz.prog 122 #[.int .u64 0] w fun e w' => e = .returned (.int .i64 64) ∧ w' = w := by
  go_enter Tryz.func122, Tryz.ntmps122
  go_wp2
  go_ret
  exact ⟨rfl, rfl⟩
theorem tz64_key (x a : Nat) (hx : x < 18446744073709551616) (hx0 : x ≠ 0) (hlow : x &&& (18446744073709551616 - x) = a) :
    IntKind.u64.wrap (bits BinOp.and IntKind.u64 (x : Int) (IntKind.u64.wrap (-(x : Int))) * 285870213051353865) / 288230376151711744 = ((a * 285870213051353865 % 18446744073709551616 / 288230376151711744 : Nat) : Int) := by
  have e1 : IntKind.u64.wrap (-(x : Int)) = ((18446744073709551616 - x : Nat) : Int) := by rw [IntKind.wrap_u64]; omega
  rw [e1, bits_and_u64_nat x _ hx (by omega), hlow, IntKind.wrap_u64]
  omega
theorem tz64 (x : Nat) (hx : x < 18446744073709551616) (w : World) (hT : ∀ j, j < Lib.deBruijn64tab.length → w.cell? ⟨0, j, none⟩ = some (.int .u8 (Lib.deBruijn64tab.getD j 0))) :
    Calls Tryz.prog 122 #[.int .u64 x] w fun e w' => e = .returned (.int .i64 (Lib.ctz 64 x)) ∧ w' = w := by
  by_cases hx0 : x = 0
  · subst hx0
    exact tz64_zero w
  · obtain ⟨hlow, hk⟩ := Lib.lowest_bit 64 x hx0 hx
    obtain ⟨hi, htab⟩ := Lib.deBruijn64_at _ hk
    have hcell := hT _ hi
    rw [htab] at hcell
    exact tz64_core x _ _ w (by simp; omega) (tz64_key x _ hx hx0 hlow) hi hk hcell
end Go.Proofs.YtlaolpkgabknfaaGreatDoor
set_option maxRecDepth 100000
set_option maxHeartbeats 4000000
namespace Go.Proofs.YtlaolpkgabknfaaGreatDoor
open Go Go.Dv
open Go.RowKit (Below)

/-! the members of a set -/
def memL (s : Nat) : List Nat := (List.range 64).filter s.testBit
theorem memL_mem {s i : Nat} : i ∈ memL s ↔ i < 64 ∧ s.testBit i = true := by rw [memL, List.mem_filter, List.mem_range]
theorem filter_first {p : Nat → Bool} {k : Nat} (hk : p k = true) (h : ∀ i, i < k → p i = false) : ∀ n, k < n → (List.range n).filter p = k :: (List.range n).filter (fun i => p i && !(i == k))
  | 0, h0 => by omega
  | n + 1, h0 => by
    rw [List.range_succ, List.filter_append, List.filter_append]
    by_cases e : n = k
    · have e1 : (List.range n).filter p = [] := List.filter_eq_nil_iff.2 fun i hi => by rw [h i (by have := List.mem_range.1 hi; omega)]; simp
      have e2 : (List.range n).filter (fun i => p i && !(i == k)) = [] := List.filter_eq_nil_iff.2 fun i hi => by rw [h i (by have := List.mem_range.1 hi; omega)]; simp
      rw [e1, e2, e]
      simp [hk]
    · have e3 : (n == k) = false := by simpa using e
      rw [filter_first hk h n (by omega), List.cons_append]
      congr 2
      simp only [List.filter_cons, List.filter_nil, e3, Bool.not_false, Bool.and_true]
theorem ctz_bits {x : Nat} (h0 : x ≠ 0) (h : x < 2 ^ 64) : Lib.ctz 64 x < 64 ∧ x.testBit (Lib.ctz 64 x) = true ∧ (∀ i, i < Lib.ctz 64 x → x.testBit i = false) ∧ ∀ i, (x &&& (x - 1)).testBit i = (x.testBit i && !(i == Lib.ctz 64 x)) := by
  obtain ⟨q, hq, hk⟩ := Lib.ctzFrom_spec 64 x (by omega) h
  have e : Lib.ctz 64 x = Lib.ctzFrom 64 x := by simp [Lib.ctz, h0]
  rw [e]
  generalize Lib.ctzFrom 64 x = k at hq hk ⊢
  have hb : ∀ i, x.testBit i = (decide (k ≤ i) && (2 * q + 1).testBit (i - k)) := fun i => by
    rw [hq, Nat.testBit_two_pow_mul]
  have hp := Nat.two_pow_pos k
  have hx1 : x - 1 = 2 ^ k * (2 * q) + (2 ^ k - 1) := by rw [hq, Nat.mul_add]; omega
  have hc : ∀ i, (x - 1).testBit i = if i < k then (2 ^ k - 1).testBit i else (2 * q).testBit (i - k) := fun i => by
    rw [hx1, Nat.testBit_two_pow_mul_add _ (by omega)]
  refine ⟨hk, ?_, fun i hi => ?_, fun i => ?_⟩
  · rw [hb, decide_eq_true (Nat.le_refl k), Nat.sub_self]; simp
  · rw [hb, decide_eq_false (by omega)]; rfl
  · rw [Nat.testBit_and, hb, hc]
    by_cases hi : i < k
    · rw [decide_eq_false (by omega)]; rfl
    · rw [if_neg hi, decide_eq_true (by omega), Bool.true_and]
      by_cases e : i = k
      · rw [e, Nat.sub_self]; simp
      · obtain ⟨j, hj⟩ : ∃ j, i - k = j + 1 := ⟨i - k - 1, by omega⟩
        have e3 : (i == k) = false := by simpa using e
        rw [hj, e3, Nat.testBit_succ, Nat.testBit_succ, show (2 * q + 1) / 2 = q by omega, show 2 * q / 2 = q by omega]
        cases q.testBit j <;> rfl
theorem memL_step {x : Nat} (h0 : x ≠ 0) (h : x < 2 ^ 64) : memL x = Lib.ctz 64 x :: memL (x &&& (x - 1)) := by
  obtain ⟨h1, h2, h3, h4⟩ := ctz_bits h0 h
  rw [memL, filter_first h2 h3 64 h1, memL]
  congr 2
  funext i
  rw [h4 i]
theorem memL_zero : memL 0 = [] := by rw [memL]; exact List.filter_eq_nil_iff.2 fun i _ => by rw [Nat.zero_testBit]; simp
theorem memL_len (s : Nat) : (memL s).length ≤ 64 := Nat.le_trans (List.length_filter_le _ _) (by simp)
theorem memL_pos {s : Nat} (h0 : s ≠ 0) (h : s < 2 ^ 64) : 1 ≤ (memL s).length := by rw [memL_step h0 h]; simp
theorem fn_tz (x : Nat) (hx : x < 2 ^ 64) : PureFn Tryz.prog 122 [u64 x] (.int .i64 (Lib.ctz 64 x : Nat)) := by
  refine PureFn.mk ⟨by kernel_rfl, fun M w vs hG hM hrel => ?_⟩
  obtain ⟨hl, hr⟩ := hrel
  match vs, hl with
  | [v], _ =>
    have h1 := hr 0 _ v rfl rfl
    cases h1
    refine (tz64 x hx w hG.2).mono ?_
    rintro e w' ⟨rfl, rfl⟩
    exact ⟨_, rfl, .int _ _, Below.refl _ _⟩
def intsPV (l : List Nat) : PV := .sl (l.map i64)
theorem md_members (s : Nat) (hs : s < 2 ^ 64) : PureFn Tryz.prog 79 [u64 s] (intsPV (memL s)) := by
  refine PureFn.intro mixed (fn := Tryz.f79) rfl rfl rfl fun M w0 => ?_
  try conv=>whnf
  refine ⟨{ q : Nat × List Nat // q.1 < 2 ^ 64 ∧ q.2 ++ memL q.1 = memL s }, fun q => [(0, .pv (u64 q.1.1)), (3, .buf 0 (q.1.2.map i64).length)], fun _ => 1, fun q => [(0, .arr 1 (q.1.2.map i64))], fun q => (memL q.1.1).length, ⟨⟨(s, []), hs, rfl⟩, (by refine Wk.of ?_ ?_ rfl rfl rfl<;>repeat' (first|exact trivial|exact WkD.same _|exact WkD.new' rfl rfl rfl|exact WkO.new _ _ rfl|exact rfl|refine ⟨?_, ?_⟩|fail))⟩, ?_⟩
  rintro ⟨⟨x, l⟩, hx, hl⟩
  have hx : x < 2 ^ 64 := hx
  have hl : l ++ memL x = memL s := hl
  have hT := fn_tz x hx
  have hlen : (l.map i64).length ≤ 1000 := by
    have h1 := memL_len s
    rw [← hl, List.length_append] at h1
    rw [List.length_map]; omega
  (try conv=>whnf);repeat' (first|(apply And.intro<;>try conv=>whnf)|(intro h;try conv=>whnf)|(apply bleI;rfl)|(apply cellsI;rfl)|(apply szI;rfl)|(refine PureFn.dcq (f := 122) rfl ?_;try conv=>whnf)|(refine ⟨_, _, hT, ?_, ?_⟩;(focus first|(refine ⟨?_, trivial⟩<;>first|exact PLe.refl _|exact PLe.nil)|exact trivial);try conv=>whnf)|fail)
  · exact app_big (n := 1000) hlen (by decide)
  · have hx0 : x ≠ 0 := by
      have h0 : ((x : Int) != 0) = true := h
      intro e; rw [e] at h0; exact absurd h0 (by decide)
    have hst := memL_step hx0 hx
    refine ⟨⟨(x &&& (x - 1), l ++ [Lib.ctz 64 x]), Nat.and_lt_two_pow _ (by omega), ?_⟩, ?_, ?_⟩
    · show l ++ [Lib.ctz 64 x] ++ memL (x &&& (x - 1)) = memL s
      rw [← hl, hst, List.append_assoc]; rfl
    · show (memL (x &&& (x - 1))).length < (memL x).length
      rw [hst, List.length_cons]; omega
    have e1 : andU (x : Nat) (IntKind.wrap .u64 ((x : Int) - 1)) = ((x &&& (x - 1) : Nat) : Int) := by
      rw [wrapU (by omega) (by omega), show ((x : Int) - 1) = ((x - 1 : Nat) : Int) by omega, andU_nat hx (by omega)]
    have e2 : (l.map i64) ++ [PV.int .i64 (Lib.ctz 64 x : Nat)] = (l ++ [Lib.ctz 64 x]).map i64 := by rw [List.map_append]; rfl
    (refine Wk.of ?_ ?_ rfl rfl rfl<;>repeat' (first|exact trivial|exact WkD.eq (congrArg (fun z : List PV => DV.buf _ z.length) e2)|exact WkO.same _ _ (congrArg (fun z => some (DObj.arr _ z)) e2)|refine WkD.int ?_|refine ⟨?_, ?_⟩|fail))
    all_goals exact e1
  · have hx0 : x = 0 := by
      have h0 : ((x : Int) != 0) = false := h
      have : (x : Int) = 0 := by simpa using h0
      omega
    rw [hx0, memL_zero, List.append_nil] at hl
    have e9 : intsPV (memL s) = .sl (l.map i64) := by rw [intsPV, ← hl]
    exact e9.symm ▸ .refl (.sl (l.map i64))

/-! the worlds of a list, taken for a model -/
def pullN (s : Nat) (ws : List Nat) : Nat := maskOf (fun i => s.testBit (ws.getD i 0)) ws.length
theorem pull_step {q : Nat → Bool} {s w i : Nat} (hs : s < 2 ^ 64) (hw : w < 64) (hi : i < 64) (hq : q i = s.testBit w) : orU (maskOf q i : Nat) (shlU (andU (shrU (s : Nat) (w : Nat)) 1) (i : Nat)) = ((maskOf q (i + 1) : Nat) : Int) := by
  rw [bit_and s w hs hw]
  cases h : s.testBit w with
  | true => rw [if_pos rfl]; exact or_shl hi (by rw [hq, h])
  | false =>
    rw [if_neg (by decide), ← mask_no (q := q) (w := i) (by rw [hq, h]), show shlU 0 (i : Nat) = ((0 : Nat) : Int) by show IntKind.wrap .u64 (0 * _) = 0; rw [Int.zero_mul]; rfl, orU_nat (mask_lt64 q (by omega)) (by decide), Nat.or_zero]
theorem md_pull (s : Nat) (ws : List Nat) (hs : s < 2 ^ 64) (hw : ∀ w, w ∈ ws → w < 64) (hl : ws.length ≤ 64) : PureFn Tryz.prog 123 [u64 s, intsPV ws] (u64 (pullN s ws)) := by
  refine PureFn.intro mixed (fn := Tryz.f123) rfl rfl rfl fun M w0 => ?_
  try conv=>whnf
  refine ⟨{ i : Nat // i ≤ ws.length }, fun i => [(0, .pv (u64 s)), (5, .pv (u64 (maskOf (fun i => s.testBit (ws.getD i 0)) i.1))), (8, .pv (intsPV ws)), (9, .pv (i64 (ws.map i64).length)), (10, .pv (i64 i.1))], fun _ => 0, fun _ => [], fun i => ws.length - i.1, ⟨⟨0, Nat.zero_le _⟩, (by refine Wk.of ?_ ?_ rfl rfl rfl<;>repeat' (first|exact trivial|exact WkD.same _|refine ⟨?_, ?_⟩|fail))⟩, ?_⟩
  intro i
  have hi := i.2
  (try conv=>whnf);repeat' (first|(apply And.intro<;>try conv=>whnf)|(intro h;try conv=>whnf)|(apply infoT;rfl)|fail)
  · have hi' : i.1 < ws.length := by simpa using lt_dec h
    obtain ⟨w, hx, hxw⟩ : ∃ y, ws[i.1]? = some y ∧ ws.getD i.1 0 = y := ⟨_, getD_mem hi', rfl⟩
    have hw64 := hw w (List.mem_iff_getElem?.2 ⟨_, hx⟩)
    have hst := pull_step (q := fun i => s.testBit (ws.getD i 0)) hs hw64 (show i.1 < 64 by omega) (by show s.testBit (ws.getD i.1 0) = _; rw [hxw])
    refine ⟨_, _, rfl, idx_map hx, rfl, ?_⟩
    (try conv=>whnf);repeat' (first|(apply And.intro<;>try conv=>whnf)|fail)
    · exact Int.natCast_nonneg _
    · exact Int.natCast_nonneg _
    · refine ⟨⟨i.1 + 1, hi'⟩, by show ws.length - (i.1 + 1) < ws.length - i.1; omega, ?_⟩
      (refine Wk.of ?_ ?_ rfl rfl rfl<;>repeat' (first|exact trivial|exact WkD.same _|refine WkD.int ?_|refine ⟨?_, ?_⟩|(refine wrapA ?_ ?_ ?_;(focus simp;done);(focus (try dsimp only);omega);(focus (try dsimp only);omega))|fail))
      exact hst
  · have hi' : i.1 = ws.length := by have := ge_dec (m := (ws.map i64).length) h (by simpa using hi); simpa using this
    exact le_int (congrArg (fun k => ((maskOf (fun i => s.testBit (ws.getD i 0)) k : Nat) : Int)) hi')
def arrI (m : Mo) (ws : List Nat) : Mo := ⟨(ws.length : Int), m.val.map fun s => pullN s ws, m.rel.map fun r => ws.map fun w => pullN (r.getD w 0) ws⟩
theorem take_map {α β : Type} {f : α → β} {l : List α} {i : Nat} {x : α} (h : l[i]? = some x) : (l.take (i + 1)).map f = (l.take i).map f ++ [f x] := by
  obtain ⟨h1, h2⟩ := List.getElem?_eq_some_iff.1 h
  rw [List.take_succ_eq_append_getElem h1, List.map_append, h2]; rfl
theorem md_arrange (m : Mo) (ws : List Nat) (n : Nat) (hM : OkM m n) (hw : ∀ w, w ∈ ws → w < n) (hl : ws.length ≤ 64) : PureFn Tryz.prog 80 [m.pv, intsPV ws] (arrI m ws).pv := by
  refine PureFn.introC [7, 16, 18] mixed (fn := Tryz.f80) rfl rfl rfl fun M w0 => ?_
  have hf := hM.fit
  have hn64 := hM.n64
  have hag := hM.ag
  have hfa := hM.fa
  have hw64 : ∀ w, w ∈ ws → w < 64 := fun w hh => by have := hw w hh; omega
  obtain ⟨ro, qro⟩ : ∃ ro : List Nat → List Nat, ro = fun r => ws.map fun w => pullN (r.getD w 0) ws := ⟨_, rfl⟩
  have har : (arrI m ws).pv = .agg [i64 (ws.map i64).length, rowPV ((m.val.take m.val.length).map fun s => pullN s ws), .sl (((m.rel.take m.rel.length).map ro).map rowPV)] := by rw [qro, List.length_map, List.take_length, List.take_length]; rfl
  rw [har]
  try conv=>whnf
  refine ⟨Unit, fun _ => [(1, .pv (intsPV ws)), (2, .ref 0 0), (4, .ref 1 0), (5, .ref 2 0)], fun _ => 3, fun _ => [(0, .var (cellsM m)), (1, .var cells0), (2, .var [.pv (i64 (ws.map i64).length), .pv (rowPV ((m.val.take m.val.length).map fun s => pullN s ws)), .pv .nil])], ?_, ?_⟩
  · try conv=>whnf
    refine ⟨{ i : Nat // i ≤ m.val.length }, fun i => [(1, .pv (intsPV ws)), (2, .ref 0 0), (4, .ref 1 0), (5, .ref 2 0), (17, .pv (.sl (m.val.map u64))), (18, .pv (i64 (m.val.map u64).length)), (19, .pv (i64 i.1))], fun _ => 4, fun i => [(0, .var (cellsM m)), (1, .var cells0), (2, .var [.pv (i64 (ws.map i64).length), .buf 3 (((m.val.take i.1).map fun s => pullN s ws).map u64).length, .pv .nil]), (3, .arr 1 (((m.val.take i.1).map fun s => pullN s ws).map u64))], fun i => m.val.length - i.1, ⟨⟨0, Nat.zero_le _⟩, (by refine Wk.of ?_ ?_ rfl rfl rfl<;>repeat' (first|exact trivial|exact WkD.same _|exact WkO.same _ _ rfl|exact WkD.new' rfl rfl rfl|exact WkO.new _ _ rfl|refine WkO.vars rfl ?_|exact rfl|refine ⟨?_, ?_⟩|fail))⟩, ?_⟩
    rintro ⟨i, hi⟩
    (try conv=>whnf);repeat' (first|(apply And.intro<;>try conv=>whnf)|(intro h;try conv=>whnf)|(apply infoT;rfl)|fail)
    · have hi' : i < m.val.length := by simpa using lt_dec h
      obtain ⟨s, hx⟩ : ∃ y, m.val[i]? = some y := ⟨_, List.getElem?_eq_getElem hi'⟩
      have hs64 := hf.1 s (List.mem_iff_getElem?.2 ⟨_, hx⟩)
      have hP := md_pull s ws hs64 hw64 hl
      have ht := take_map (f := fun s => pullN s ws) hx
      have hvsl : (((m.val.take i).map fun s => pullN s ws).map u64).length ≤ 1000 := by simp; omega
      have er : ((m.val.take i).map fun s => pullN s ws).map u64 ++ [PV.int .u64 ((pullN s ws : Nat) : Int)] = ((m.val.take (i + 1)).map fun s => pullN s ws).map u64 := by rw [ht, List.map_append]; rfl
      refine ⟨_, _, rfl, idx_map hx, rfl, ?_⟩
      (try conv=>whnf);repeat' (first|(apply And.intro<;>try conv=>whnf)|(apply cellsI;rfl)|(apply szI;rfl)|(refine lin_plan (by kernel_rfl) ?_;try conv=>whnf)|(refine ⟨_, (by (conv=>whnf);exact hP), rfl, ?_⟩;try conv=>whnf)|fail)
      · exact app_big (n := 1000) hvsl (by decide)
      · refine ⟨⟨i + 1, hi'⟩, by show m.val.length - (i + 1) < m.val.length - i; omega, ?_⟩
        (refine Wk.of ?_ ?_ rfl rfl rfl<;>repeat' (first|exact trivial|exact WkD.same _|exact WkO.same _ _ rfl|exact WkD.eq (congrArg (fun z : List PV => DV.buf _ z.length) er)|exact WkO.same _ _ (congrArg (fun z => some (DObj.arr _ z)) er)|refine WkD.int ?_|refine WkO.vars rfl ?_|refine ⟨?_, ?_⟩|(refine wrapA ?_ ?_ ?_;(focus simp;done);(focus (try dsimp only);omega);(focus (try dsimp only);omega))|fail))
    · have hi' : i = m.val.length := by have := ge_dec (m := (m.val.map u64).length) h (by simpa using hi); simpa using this
      subst hi'
      exact ⟨(), (by refine Wk.of ?_ ?_ rfl rfl rfl<;>repeat' (first|exact trivial|exact WkD.same _|exact WkO.same _ _ rfl|exact WkD.fz _ _ _ rfl (Or.inl ⟨_, rfl⟩) rfl|refine WkO.vars rfl ?_|refine ⟨?_, ?_⟩|fail))⟩
  rintro ⟨⟩
  generalize ((m.val.take m.val.length).map fun s => pullN s ws) = V
  refine ⟨Unit, fun _ => [(4, .ref 1 0), (5, .ref 2 0)], fun _ => 3, fun _ => [(1, .var cells0), (2, .var [.pv (i64 (ws.map i64).length), .pv (rowPV V), .pv (.sl (((m.rel.take m.rel.length).map ro).map rowPV))])], ?_, ?_⟩
  · try conv=>whnf
    refine ⟨{ i : Nat // i ≤ m.rel.length }, fun i => [(1, .pv (intsPV ws)), (2, .ref 0 0), (4, .ref 1 0), (5, .ref 2 0), (33, .pv (.sl (m.rel.map rowPV))), (34, .pv (i64 (m.rel.map rowPV).length)), (35, .pv (i64 i.1))], fun _ => 4, fun i => [(0, .var (cellsM m)), (1, .var cells0), (2, .var [.pv (i64 (ws.map i64).length), .pv (rowPV V), .buf 3 (((m.rel.take i.1).map ro).map rowPV).length]), (3, .arr 1 (((m.rel.take i.1).map ro).map rowPV))], fun i => m.rel.length - i.1, ⟨⟨0, Nat.zero_le _⟩, (by refine Wk.of ?_ ?_ rfl rfl rfl<;>repeat' (first|exact trivial|exact WkD.same _|exact WkO.same _ _ rfl|exact WkD.new' rfl rfl rfl|exact WkO.new _ _ rfl|refine WkO.vars rfl ?_|exact rfl|refine ⟨?_, ?_⟩|fail))⟩, ?_⟩
    rintro ⟨i, hi⟩
    (try conv=>whnf);repeat' (first|(apply And.intro<;>try conv=>whnf)|(intro h;try conv=>whnf)|(apply infoT;rfl)|fail)
    · have hi' : i < m.rel.length := by simpa using lt_dec h
      obtain ⟨r, hx⟩ : ∃ y, m.rel[i]? = some y := ⟨_, List.getElem?_eq_getElem hi'⟩
      have hrm : r ∈ m.rel := List.mem_iff_getElem?.2 ⟨_, hx⟩
      have hrl := hM.rows r hrm
      have hr64 := hf.2 r hrm
      have ht := take_map (f := ro) hx
      have hvsl : (((m.rel.take i).map ro).map rowPV).length ≤ 1000 := by simp; omega
      have er : ((m.rel.take i).map ro).map rowPV ++ [rowPV (ro r)] = ((m.rel.take (i + 1)).map ro).map rowPV := by rw [ht, List.map_append]; rfl
      refine ⟨_, _, rfl, idx_map hx, rfl, ?_⟩
      try conv=>whnf
      refine ⟨Unit, fun _ => [(1, .pv (intsPV ws)), (2, .ref 0 0), (4, .ref 1 0), (5, .ref 2 0), (10, .pv (rowPV ((ws.take ws.length).map fun w => pullN (r.getD w 0) ws))), (33, .pv (.sl (m.rel.map rowPV))), (34, .pv (i64 (m.rel.map rowPV).length)), (35, .pv (i64 i))], fun _ => 4, fun _ => [(0, .var (cellsM m)), (1, .var cells0), (2, .var [.pv (i64 (ws.map i64).length), .pv (rowPV V), .buf 3 (((m.rel.take i).map ro).map rowPV).length]), (3, .arr 1 (((m.rel.take i).map ro).map rowPV))], ?_, ?_⟩
      · try conv=>whnf
        refine ⟨{ j : Nat // j ≤ ws.length }, fun j => [(1, .pv (intsPV ws)), (2, .ref 0 0), (4, .ref 1 0), (5, .ref 2 0), (9, .pv (rowPV r)), (10, .buf 4 (((ws.take j.1).map fun w => pullN (r.getD w 0) ws).map u64).length), (33, .pv (.sl (m.rel.map rowPV))), (34, .pv (i64 (m.rel.map rowPV).length)), (35, .pv (i64 i)), (39, .pv (intsPV ws)), (40, .pv (i64 (ws.map i64).length)), (41, .pv (i64 j.1))], fun _ => 5, fun j => [(0, .var (cellsM m)), (1, .var cells0), (2, .var [.pv (i64 (ws.map i64).length), .pv (rowPV V), .buf 3 (((m.rel.take i).map ro).map rowPV).length]), (3, .arr 1 (((m.rel.take i).map ro).map rowPV)), (4, .arr 1 (((ws.take j.1).map fun w => pullN (r.getD w 0) ws).map u64))], fun j => ws.length - j.1, ⟨⟨0, Nat.zero_le _⟩, (by refine Wk.of ?_ ?_ rfl rfl rfl<;>repeat' (first|exact trivial|exact WkD.same _|exact WkO.same _ _ rfl|exact WkD.new' rfl rfl rfl|exact WkO.new _ _ rfl|exact rfl|refine ⟨?_, ?_⟩|fail))⟩, ?_⟩
        rintro ⟨j, hj⟩
        (try conv=>whnf);repeat' (first|(apply And.intro<;>try conv=>whnf)|(intro h;try conv=>whnf)|(apply infoT;rfl)|fail)
        · have hj' : j < ws.length := by simpa using lt_dec h
          obtain ⟨w, hx2⟩ : ∃ y, ws[j]? = some y := ⟨_, List.getElem?_eq_getElem hj'⟩
          have hwn := hw w (List.mem_iff_getElem?.2 ⟨_, hx2⟩)
          have hx3 : r[w]? = some (r.getD w 0) := getD_mem (by omega)
          have hs64 := hr64 _ (List.mem_iff_getElem?.2 ⟨_, hx3⟩)
          have hP := md_pull (r.getD w 0) ws hs64 hw64 hl
          have ht2 := take_map (f := fun w => pullN (r.getD w 0) ws) hx2
          have hvsl2 : (((ws.take j).map fun w => pullN (r.getD w 0) ws).map u64).length ≤ 1000 := by simp; omega
          have er2 : ((ws.take j).map fun w => pullN (r.getD w 0) ws).map u64 ++ [PV.int .u64 ((pullN (r.getD w 0) ws : Nat) : Int)] = ((ws.take (j + 1)).map fun w => pullN (r.getD w 0) ws).map u64 := by rw [ht2, List.map_append]; rfl
          generalize hgz : r.getD w 0 = z at hx3 hP er2
          refine ⟨_, _, rfl, idx_map hx2, rfl, ?_⟩
          (try conv=>whnf);repeat' (first|(apply And.intro<;>try conv=>whnf)|(apply infoT;rfl)|(apply cellsI;rfl)|(apply szI;rfl)|(refine ⟨_, _, rfl, idx_map (by with_reducible assumption), rfl, ?_⟩;try conv=>whnf)|(refine PureFn.dcq (f := 123) rfl ?_;try conv=>whnf)|(refine ⟨_, _, hP, ?_, ?_⟩;(focus first|(refine ⟨?_, ?_, trivial⟩<;>first|exact PLe.refl _|exact PLe.nil)|exact trivial);try conv=>whnf)|fail)
          · exact app_big (n := 1000) hvsl2 (by decide)
          · refine ⟨⟨j + 1, hj'⟩, by show ws.length - (j + 1) < ws.length - j; omega, ?_⟩
            (refine Wk.of ?_ ?_ rfl rfl rfl<;>repeat' (first|exact trivial|exact WkD.same _|exact WkO.same _ _ rfl|exact WkD.eq (congrArg (fun z : List PV => DV.buf _ z.length) er2)|exact WkO.same _ _ (congrArg (fun z => some (DObj.arr _ z)) er2)|refine WkD.int ?_|refine ⟨?_, ?_⟩|(refine wrapA ?_ ?_ ?_;(focus simp;done);(focus (try dsimp only);omega);(focus (try dsimp only);omega))|fail))
        · have hj' : j = ws.length := by have := ge_dec (m := (ws.map i64).length) h (by simpa using hj); simpa using this
          subst hj'
          exact ⟨(), (by refine Wk.of ?_ ?_ rfl rfl rfl<;>repeat' (first|exact trivial|exact WkD.same _|exact WkO.same _ _ rfl|exact WkD.fz _ _ _ rfl (Or.inl ⟨_, rfl⟩) rfl|refine ⟨?_, ?_⟩|fail))⟩
      rintro ⟨⟩
      have hR : (ws.take ws.length).map (fun w => pullN (r.getD w 0) ws) = ro r := by rw [List.take_length, qro]
      generalize (ws.take ws.length).map (fun w => pullN (r.getD w 0) ws) = R at hR
      rw [← hR] at er
      (try conv=>whnf);repeat' (first|(apply And.intro<;>try conv=>whnf)|(apply cellsI;rfl)|(apply szI;rfl)|fail)
      · exact app_big (n := 1000) hvsl (by decide)
      · refine ⟨⟨i + 1, hi'⟩, by show m.rel.length - (i + 1) < m.rel.length - i; omega, ?_⟩
        (refine Wk.of ?_ ?_ rfl rfl rfl<;>repeat' (first|exact trivial|exact WkD.same _|exact WkO.same _ _ rfl|exact WkD.eq (congrArg (fun z : List PV => DV.buf _ z.length) er)|exact WkO.same _ _ (congrArg (fun z => some (DObj.arr _ z)) er)|refine WkD.int ?_|refine WkO.vars rfl ?_|refine ⟨?_, ?_⟩|(refine wrapA ?_ ?_ ?_;(focus simp;done);(focus (try dsimp only);omega);(focus (try dsimp only);omega))|fail))
    · have hi' : i = m.rel.length := by have := ge_dec (m := (m.rel.map rowPV).length) h (by simpa using hi); simpa using this
      subst hi'
      exact ⟨(), (by refine Wk.of ?_ ?_ rfl rfl rfl<;>repeat' (first|exact trivial|exact WkD.same _|exact WkO.same _ _ rfl|exact WkD.fz _ _ _ rfl (Or.inl ⟨_, rfl⟩) rfl|refine WkO.vars rfl ?_|refine ⟨?_, ?_⟩|fail))⟩
  rintro ⟨⟩
  try conv=>whnf
  exact .refl _
end Go.Proofs.YtlaolpkgabknfaaGreatDoor
set_option maxRecDepth 100000
set_option maxHeartbeats 4000000
namespace Go.Proofs.YtlaolpkgabknfaaGreatDoor
open Go Go.Dv

theorem u_mod : ∃ fs : Array Field, Tryz.prog.underlying 25 = some (.struct fs) ∧ fs.toList.map (·.type) = [3, 22, 23] := ⟨_, rfl, by kernel_rfl⟩
end Go.Proofs.YtlaolpkgabknfaaGreatDoor
set_option maxRecDepth 100000
set_option maxHeartbeats 4000000
namespace Go.Proofs.YtlaolpkgabknfaaGreatDoor
open Go Go.Dv

theorem whenOff {c : Bool} {A B : DV → Prop} (hc : c = false) (h2 : B (.pv (.bool false))) : WhenQ (fun d => c = true → A d) B :=
  WhenQ.mk (d := .pv (.bool false)) (fun h => by rw [hc] at h; cases h) h2
end Go.Proofs.YtlaolpkgabknfaaGreatDoor
set_option maxRecDepth 100000
set_option maxHeartbeats 4000000
namespace Go.Proofs.YtlaolpkgabknfaaGreatDoor
open Go Go.Dv

theorem updI_ok {m : Mo} {a : Act} (h : (updI m a).2.2 = 0) : moaI m a = 0 ∧ (updI m a).2.1 = pairsL m a ∧ (updI m a).1 = prodM m a (pairsL m a) ∧ 1 ≤ (pairsL m a).length ∧ (pairsL m a).length ≤ 64 := by
  unfold updI at h ⊢
  cases h1 : ((worldsI m a).2 != 0) with
  | true => rw [h1] at h; simp only [cond_true] at h; rw [h] at h1; cases h1
  | false =>
    rw [h1] at h
    obtain ⟨k1, k2, k3⟩ := worldsI_ok (m := m) (a := a) (by simpa using h1)
    cases h2 : decide (((worldsI m a).1.length : Int) > 64) with
    | true => rw [h2] at h; cases h
    | false =>
      have := of_decide_eq_false h2
      rw [k2] at this
      refine ⟨k1, ?_, ?_, k3, by omega⟩
      · rw [k2]; rfl
      · rw [k2]; rfl
end Go.Proofs.YtlaolpkgabknfaaGreatDoor
set_option maxRecDepth 100000
set_option maxHeartbeats 4000000
namespace Go.Proofs.YtlaolpkgabknfaaGreatDoor
open Go Go.Dv

def restPV (x : Mo × List Nat × Int) : PV := .tup [x.1.pv, intsPV x.2.1, .int .i64 x.2.2]
theorem nand_all {s n : Nat} (hs : s < 2 ^ n) (hn : n ≤ 64) : andNotU (s : Nat) ((2 ^ n - 1 : Nat) : Int) = 0 := by
  have h64 : s < 2 ^ 64 := Nat.lt_of_lt_of_le hs (pow64_le hn)
  rw [andNotU_eq h64, Nat.and_two_pow_sub_one_eq_mod, Nat.mod_eq_of_lt hs, Nat.xor_self]; rfl
theorem md_Restrict (m : Mo) (n s : Nat) (hM : OkM m n) (hs : s < 2 ^ n) (h0 : s ≠ 0) : PureFn Tryz.prog 44 [m.pv, u64 s] (restPV (arrI m (memL s), memL s, 0)) := by
  refine PureFn.intro mixed (fn := Tryz.f44) rfl rfl rfl fun M w0 => ?_
  have hn64 := hM.n64
  have hs64 : s < 2 ^ 64 := Nat.lt_of_lt_of_le hs (pow64_le hn64)
  have hC := md_Check m hM.fit
  rw [ok_moI hM] at hC
  have hA := md_all n (by omega)
  rw [show i64 n = .int .i64 m.n by rw [hM.nn]; rfl] at hA
  have hB := md_members s hs64
  have hR := md_arrange m (memL s) n hM (fun w hw => bit_lt hs (memL_mem.1 hw).2) (memL_len s)
  have hz := nand_all hs hn64
  have h0' : ¬ (s : Int) = 0 := by omega
  generalize memL s = ws at hB hR
  (try conv=>whnf);repeat' (first|(apply And.intro<;>try conv=>whnf)|(intro h;try conv=>whnf)|(refine PureFn.dcq (f := 40) rfl ?_;try conv=>whnf)|(refine PureFn.dcq (f := 78) rfl ?_;try conv=>whnf)|(refine PureFn.dcq (f := 79) rfl ?_;try conv=>whnf)|(refine PureFn.dcq (f := 80) rfl ?_;try conv=>whnf)|(refine ⟨_, _, hC, ?_, ?_⟩;(focus first|(refine ⟨?_, trivial⟩<;>first|exact PLe.refl _|exact PLe.nil)|exact trivial);try conv=>whnf)|(refine ⟨_, _, hA, ?_, ?_⟩;(focus first|(refine ⟨?_, trivial⟩<;>first|exact PLe.refl _|exact PLe.nil)|exact trivial);try conv=>whnf)|(refine ⟨_, _, hB, ?_, ?_⟩;(focus first|(refine ⟨?_, trivial⟩<;>first|exact PLe.refl _|exact PLe.nil)|exact trivial);try conv=>whnf)|(refine ⟨_, _, hR, ?_, ?_⟩;(focus first|(refine ⟨?_, ?_, trivial⟩<;>first|exact PLe.refl _|exact PLe.nil)|exact trivial);try conv=>whnf)|fail)
  · exact absurd (show ((0 : Int) != 0) = true from h) (by decide)
  · have h1 : (andNotU (s : Nat) ((2 ^ n - 1 : Nat) : Int) != 0) = true := h
    rw [hz] at h1; exact absurd h1 (by decide)
  · have h1 : ((s : Int) == 0) = true := h
    exact absurd (by simpa using h1) h0'
  · exact .refl _
/-! the product with a public announcement -/
theorem pairs_one {p : Nat → Nat} : ∀ n, pairsW p 1 n = ((List.range n).filter (p 0).testBit).map fun w => (w, 0)
  | 0 => rfl
  | n + 1 => by
    rw [pairsW, pairs_one n, List.range_succ, List.filter_append, List.map_append]
    congr 1
    rw [pairsE, pairsE, List.filter_cons, List.filter_nil]
    cases (p 0).testBit n <;> rfl
theorem filter_more {s n : Nat} (hs : s < 2 ^ n) : ∀ d, (List.range (n + d)).filter s.testBit = (List.range n).filter s.testBit
  | 0 => rfl
  | d + 1 => by
    rw [show n + (d + 1) = n + d + 1 by omega, List.range_succ, List.filter_append, filter_more hs d, List.filter_cons, List.filter_nil, Nat.testBit_lt_two_pow (Nat.lt_of_lt_of_le hs (Nat.pow_le_pow_right (by decide) (by omega)))]
    simp
theorem memL_range {s n : Nat} (hs : s < 2 ^ n) (hn : n ≤ 64) : memL s = (List.range n).filter s.testBit := by
  have := filter_more hs (64 - n)
  rw [show n + (64 - n) = 64 by omega] at this
  exact this
def pubA (A : Nat) (f : List Nd) : Act := ⟨[comp f], [[]], onesL A⟩
end Go.Proofs.YtlaolpkgabknfaaGreatDoor
set_option maxRecDepth 100000
set_option maxHeartbeats 4000000
namespace Go.Proofs.YtlaolpkgabknfaaGreatDoor
open Go Go.Dv

/-- A set whose members are told by their places in a list, added to a set. -/
def sprG (t : Nat) : List Nat → Nat → Nat → Nat
  | [], _, acc => acc
  | w :: r, i, acc => sprG t r (i + 1) (acc ||| (bif t.testBit i then 2 ^ w else 0))
theorem sprG_lt {t n : Nat} : ∀ {ws : List Nat} {i acc : Nat}, (∀ w, w ∈ ws → w < n) → acc < 2 ^ n → sprG t ws i acc < 2 ^ n
  | [], _, _, _, h => h
  | w :: r, i, acc, hw, h => by
    rw [sprG]
    refine sprG_lt (fun x hx => hw x (List.mem_cons_of_mem _ hx)) (Nat.or_lt_two_pow h ?_)
    cases t.testBit i with
    | true => exact Nat.pow_lt_pow_right (by decide) (hw w (by simp))
    | false => exact Nat.two_pow_pos n
theorem sprG_drop {t : Nat} {ws : List Nat} {i acc w : Nat} (h : ws[i]? = some w) : sprG t (ws.drop i) i acc = sprG t (ws.drop (i + 1)) (i + 1) (acc ||| (bif t.testBit i then 2 ^ w else 0)) := by
  obtain ⟨h1, h2⟩ := List.getElem?_eq_some_iff.1 h
  rw [List.drop_eq_getElem_cons h1, h2]; rfl
/-- A set without the worlds of the pairs of an event whose places are not in a set. -/
def clrN (acc w : Nat) : Nat := acc ^^^ (acc &&& 2 ^ w)
def evG (e : Int) (t : Nat) : List (Nat × Nat) → Nat → Nat → Nat
  | [], _, acc => acc
  | q :: r, i, acc => evG e t r (i + 1) (bif (bif (q.2 : Int) == e then !t.testBit i else false) then clrN acc q.1 else acc)
theorem evG_drop {e : Int} {t : Nat} {l : List (Nat × Nat)} {i acc : Nat} {q : Nat × Nat} (h : l[i]? = some q) : evG e t (l.drop i) i acc = evG e t (l.drop (i + 1)) (i + 1) (bif (bif (q.2 : Int) == e then !t.testBit i else false) then clrN acc q.1 else acc) := by
  obtain ⟨h1, h2⟩ := List.getElem?_eq_some_iff.1 h
  rw [List.drop_eq_getElem_cons h1, h2]; rfl
theorem clrN_lt {acc w n : Nat} (h : acc < 2 ^ n) : clrN acc w < 2 ^ n := Nat.xor_lt_two_pow h (Nat.lt_of_le_of_lt Nat.and_le_left h)
theorem evG_lt {e : Int} {t n : Nat} : ∀ {l : List (Nat × Nat)} {i acc : Nat}, acc < 2 ^ n → evG e t l i acc < 2 ^ n
  | [], _, _, h => h
  | q :: r, i, acc, h => by
    rw [evG]
    refine evG_lt ?_
    cases (bif (q.2 : Int) == e then !t.testBit i else false) with
    | true => exact clrN_lt h
    | false => exact h

/-! where a formula of the dynamic language holds; nothing, if a product is too large -/
def dvT (acts : List Act) : Tr → Mo → Option Nat
  | .none, _ => some 0
  | .nd op i e g a b, m =>
    bif op == 16 then
      match dvT acts a m with
      | none => none
      | some s => bif s == 0 then some (2 ^ m.n.toNat - 1) else match dvT acts b (arrI m (memL s)) with
        | none => none
        | some t => some (sprG t (memL s) 0 (notN m.n.toNat s))
    else bif op == 17 then
      bif (holdsI m ((acts.getD i.toNat noAct).pre.getD e.toNat [])).1 == 0 then some (2 ^ m.n.toNat - 1)
      else bif (updI m (acts.getD i.toNat noAct)).2.2 != 0 then none
      else match dvT acts a (updI m (acts.getD i.toNat noAct)).1 with
        | none => none
        | some t => some (evG e t (updI m (acts.getD i.toNat noAct)).2.1 0 (2 ^ m.n.toNat - 1))
    else match dvT acts a m, dvT acts b m with
      | some x, some y => some (vlN m m.n.toNat op i g x y)
      | _, _ => none
/-- A model and an environment that fit. -/
structure OkD (acts : List Act) (m : Mo) (n : Nat) : Prop where
  okm : OkM m n
  act : ∀ a, a ∈ acts → actI a m.rel.length m.val.length = 0
theorem arr_ok {m : Mo} {n : Nat} (hM : OkM m n) {ws : List Nat} (h1 : 1 ≤ ws.length) (h64 : ws.length ≤ 64) : OkM (arrI m ws) ws.length := by
  refine ⟨rfl, h1, h64, by simp [arrI]; exact hM.ag, by simp [arrI]; exact hM.fa, fun r hr => ?_, fun s hs => ?_, fun r hr s hs => ?_⟩
  · obtain ⟨r0, _, rfl⟩ := List.mem_map.1 hr
    simp
  · obtain ⟨s0, _, rfl⟩ := List.mem_map.1 hs
    exact maskOf_lt _ _
  · obtain ⟨r0, _, rfl⟩ := List.mem_map.1 hr
    obtain ⟨w, _, rfl⟩ := List.mem_map.1 hs
    exact maskOf_lt _ _
theorem OkD.arr {acts : List Act} {m : Mo} {n s : Nat} (h : OkD acts m n) (hs : s < 2 ^ n) (h0 : s ≠ 0) : OkD acts (arrI m (memL s)) (memL s).length := by
  refine ⟨arr_ok h.okm (memL_pos h0 (Nat.lt_of_lt_of_le hs (pow64_le h.okm.n64))) (memL_len s), fun a ha => ?_⟩
  have e1 : (arrI m (memL s)).rel.length = m.rel.length := by simp [arrI]
  have e2 : (arrI m (memL s)).val.length = m.val.length := by simp [arrI]
  rw [e1, e2]
  exact h.act a ha
theorem OkD.upd {acts : List Act} {m : Mo} {n : Nat} {a : Act} (h : OkD acts m n) (h0 : (updI m a).2.2 = 0) : OkD acts (updI m a).1 (updI m a).2.1.length ∧ ∀ q, q ∈ (updI m a).2.1 → q.1 < n := by
  obtain ⟨k1, k2, k3, k4, k5⟩ := updI_ok h0
  rw [k2, k3]
  refine ⟨⟨prod_ok h.okm k4 k5, fun b hb => ?_⟩, fun q hq => ?_⟩
  · have e1 : (prodM m a (pairsL m a)).rel.length = m.rel.length := by simp [prodM]
    have e2 : (prodM m a (pairsL m a)).val.length = m.val.length := by simp [prodM]
    rw [e1, e2]
    exact h.act b hb
  · rw [pairsL, h.okm.nn] at hq
    exact (pairsW_mem.1 hq).1
end Go.Proofs.YtlaolpkgabknfaaGreatDoor
set_option maxRecDepth 100000
set_option maxHeartbeats 4000000
namespace Go.Proofs.YtlaolpkgabknfaaGreatDoor
open Go Go.Dv

/-! requests -/
def actsI (A F : Int) : List Act → Int
  | [] => 0
  | a :: r => bif actI a A F != 0 then actI a A F else actsI A F r
def chkD (m : Mo) (acts : List Act) : Int := bif moI m != 0 then moI m else bif decide ((acts.length : Int) > 8) then 8 else actsI (m.rel.length : Int) (m.val.length : Int) acts
def badA (acts : List Act) (x : Nd) : Bool := bif x.op == 17 then (bif decide (x.i ≥ (acts.length : Int)) then true else decide (x.e ≥ ((acts.getD x.i.toNat noAct).pre.length : Int))) else false
def reqD (m : Mo) (acts : List Act) (f : List Nd) : Int :=
  bif chkD m acts != 0 then chkD m acts else bif check f != 0 then check f else bif nand64' (frags f : Nat) 207 != 0 then 10 else bif !fits f (m.rel.length : Int) (m.val.length : Int) then 2 else bif (comp f).any (badA acts) then 6 else 0
def dynI (m : Mo) (acts : List Act) (f : List Nd) : Nat × Int := bif reqD m acts f != 0 then (0, reqD m acts f) else match dvT acts (root f) m with
  | none => (0, 8)
  | some s => (s, 0)
theorem actsI_ok {A F : Int} : ∀ {l : List Act}, actsI A F l = 0 → ∀ a, a ∈ l → actI a A F = 0
  | [], _, a, ha => by cases ha
  | b :: r, h, a, ha => by
    rw [actsI] at h
    cases hb : (actI b A F != 0) with
    | true => rw [hb] at h; simp only [cond_true] at h; rw [h] at hb; cases hb
    | false =>
      rw [hb] at h
      rcases List.mem_cons.1 ha with rfl | ha
      · simpa using hb
      · exact actsI_ok (show actsI A F r = 0 from h) a ha
theorem chkD_ok {m : Mo} {acts : List Act} (h : chkD m acts = 0) : ∃ n, OkD acts m n ∧ acts.length ≤ 8 := by
  unfold chkD at h
  cases h1 : (moI m != 0) with
  | true => rw [h1] at h; simp only [cond_true] at h; rw [h] at h1; cases h1
  | false =>
    rw [h1, cond_false] at h
    cases h2 : decide ((acts.length : Int) > 8) with
    | true => rw [h2] at h; cases h
    | false =>
      rw [h2, cond_false] at h
      obtain ⟨n, hM⟩ := moI_ok (m := m) (by simpa using h1)
      have := of_decide_eq_false h2
      exact ⟨n, ⟨hM, actsI_ok h⟩, by omega⟩
/-- May a node of a formula be asked for? -/
def ndQ (A F : Nat) (acts : List Act) (op i e g : Int) : Bool :=
  decide (fragN ⟨op, i, e, g, 0, 0⟩ &&& 207 = fragN ⟨op, i, e, g, 0, 0⟩) && decide (agN ⟨op, i, e, g, 0, 0⟩ < 2 ^ A) && decide (factN ⟨op, i, e, g, 0, 0⟩ < 2 ^ F) && !badA acts ⟨op, i, e, g, 0, 0⟩
theorem nand_sub {a b : Nat} (ha : a < 2 ^ 62) : nand64' (a : Int) (b : Int) = 0 ↔ subM a b = true := by rw [← nand_zero ha, beq_iff_eq]
theorem orN_in {m : Nd → Nat} : ∀ {c : List Nd} {y : Nd}, y ∈ c → Sub (m y) (orN m c)
  | x :: r, y, h => by
    rw [orN_cons]
    intro i hi
    rw [Nat.testBit_or, Bool.or_eq_true]
    rcases List.mem_cons.1 h with rfl | h
    · exact .inl hi
    · exact .inr (orN_in h i hi)
theorem orN_all {m : Nd → Nat} {b : Nat} : ∀ {c : List Nd}, (∀ x, x ∈ c → Sub (m x) b) → Sub (orN m c) b
  | [], _ => fun i hi => by simp [orN] at hi
  | x :: r, h => by
    rw [orN_cons]
    exact or_sub (h x (by simp)) (orN_all fun y hy => h y (List.mem_cons_of_mem _ hy))
theorem and_self_sub {a b : Nat} : a &&& b = a ↔ Sub a b := by
  constructor
  · intro h i hi
    rw [← h, Nat.testBit_and, Bool.and_eq_true] at hi
    exact hi.2
  · intro h
    apply Nat.eq_of_testBit_eq
    intro i
    rw [Nat.testBit_and]
    cases hb : a.testBit i with
    | false => rfl
    | true => rw [h i hb]; rfl
theorem reqD_iff {m : Mo} {acts : List Act} {f : List Nd} : reqD m acts f = 0 ↔ chkD m acts = 0 ∧ check f = 0 ∧ ∀ x, x ∈ comp f → ndQ m.rel.length m.val.length acts x.op x.i x.e x.g = true := by
  have hfr : frags f < 2 ^ 62 := Nat.lt_of_lt_of_le (frags_lt f) (by decide)
  have hag := agents_lt f
  have hfa := facts_lt f
  have e1 : ∀ x : Nd, fragN ⟨x.op, x.i, x.e, x.g, 0, 0⟩ = fragN x := fun x => rfl
  have e2 : ∀ x : Nd, agN ⟨x.op, x.i, x.e, x.g, 0, 0⟩ = agN x := fun x => rfl
  have e3 : ∀ x : Nd, factN ⟨x.op, x.i, x.e, x.g, 0, 0⟩ = factN x := fun x => rfl
  have e4 : ∀ x : Nd, badA acts ⟨x.op, x.i, x.e, x.g, 0, 0⟩ = badA acts x := fun x => rfl
  constructor
  · intro h
    unfold reqD at h
    cases h1 : (chkD m acts != 0) with
    | true => rw [h1] at h; simp only [cond_true] at h; rw [h] at h1; cases h1
    | false =>
      rw [h1, cond_false] at h
      cases h2 : (check f != 0) with
      | true => rw [h2] at h; simp only [cond_true] at h; rw [h] at h2; cases h2
      | false =>
        rw [h2, cond_false] at h
        cases h3 : (nand64' (frags f : Nat) 207 != 0) with
        | true => rw [h3] at h; cases h
        | false =>
          rw [h3, cond_false] at h
          cases h4 : (!fits f (m.rel.length : Int) (m.val.length : Int)) with
          | true => rw [h4] at h; cases h
          | false =>
            rw [h4, cond_false] at h
            cases h5 : (comp f).any (badA acts) with
            | true => rw [h5] at h; cases h
            | false =>
              have hc : check f = 0 := by simpa using h2
              have hfit : fits f (m.rel.length : Int) (m.val.length : Int) = true := by simpa using h4
              have h6 : belowB (agents f) (m.rel.length : Int) = true ∧ belowB (facts f) (m.val.length : Int) = true := by
                unfold fits at hfit
                rw [hc] at hfit
                cases hb : belowB (agents f) (m.rel.length : Int) with
                | true => rw [hb] at hfit; exact ⟨rfl, hfit⟩
                | false => rw [hb] at hfit; cases hfit
              rw [below_lt hag (by decide), below_lt hfa (by decide)] at h6
              have h7 : subM (frags f) 207 = true := (nand_sub hfr).1 (by simpa using h3)
              rw [subM_iff] at h7
              refine ⟨by simpa using h1, hc, fun x hx => ?_⟩
              simp only [ndQ, e1, e2, e3, e4, Bool.and_eq_true, decide_eq_true_eq]
              refine ⟨⟨⟨and_self_sub.2 ((orN_in hx).trans h7), Nat.lt_of_le_of_lt (orN_le hx) h6.1⟩, Nat.lt_of_le_of_lt (orN_le hx) h6.2⟩, ?_⟩
              have := List.any_eq_false.1 h5 x hx
              simpa using this
  · rintro ⟨h1, h2, h3⟩
    have h4 : ∀ x, x ∈ comp f → fragN x &&& 207 = fragN x ∧ agN x < 2 ^ m.rel.length ∧ factN x < 2 ^ m.val.length ∧ badA acts x = false := fun x hx => by
      have := h3 x hx
      simp only [ndQ, e1, e2, e3, e4, Bool.and_eq_true, decide_eq_true_eq] at this
      exact ⟨this.1.1.1, this.1.1.2, this.1.2, by simpa using this.2⟩
    have h5 : nand64' (frags f : Nat) 207 = 0 := (nand_sub (b := 207) hfr).2 (subM_iff.2 (orN_all fun x hx => and_self_sub.1 (h4 x hx).1))
    have h6 : agents f < 2 ^ m.rel.length := orN_lt fun x hx => (h4 x hx).2.1
    have h7 : facts f < 2 ^ m.val.length := orN_lt fun x hx => (h4 x hx).2.2.1
    have h8 : fits f (m.rel.length : Int) (m.val.length : Int) = true := by
      unfold fits
      rw [h2, (below_lt hag (by decide)).2 h6, show belowB (facts f) (m.val.length : Int) = true from (below_lt hfa (by decide)).2 h7]; rfl
    have h9 : (comp f).any (badA acts) = false := List.any_eq_false.2 fun x hx => by rw [(h4 x hx).2.2.2]; simp
    rw [reqD, h1, h2, h5, h8, h9]; rfl
end Go.Proofs.YtlaolpkgabknfaaGreatDoor
namespace Go.Dv
open Go.RowKit (Below)
mutual
/-- A value whose objects bear other numbers. -/
def DV.ren (ρ : Nat → Nat) : DV → DV
  | .agg l => .agg (DV.rens ρ l)
  | .tup l => .tup (DV.rens ρ l)
  | .ref k c => .ref (ρ k) c
  | .aref k n i c => .aref (ρ k) n i c
  | .buf k n => .buf (ρ k) n
  | .mp k => .mp (ρ k)
  | .vbuf k n => .vbuf (ρ k) n
  | .clo f a b => .clo f (DV.rens ρ a) (DV.rens ρ b)
  | .when c d => .when c (d.ren ρ)
  | .pv p => .pv p
  | .e0 => .e0
  | .eptr p c => .eptr p c
  | .fnv v => .fnv v
  | .raw v => .raw v
  | .any => .any
def DV.rens (ρ : Nat → Nat) : List DV → List DV
  | [] => []
  | d :: r => d.ren ρ :: DV.rens ρ r
end
def DObj.ren (ρ : Nat → Nat) : DObj → DObj
  | .var cs => .var (DV.rens ρ cs)
  | .arr sz es => .arr sz es
  | .fz l => .fz l
  | .mp es => .mp es
  | .gone => .gone
mutual
/-- All objects of a value are of a kind. -/
def DV.keys (p : Nat → Bool) : DV → Bool
  | .agg l => DV.keyss p l
  | .tup l => DV.keyss p l
  | .ref k _ => p k
  | .aref k _ _ _ => p k
  | .buf k _ => p k
  | .mp k => p k
  | .vbuf k _ => p k
  | .clo _ a b => DV.keyss p a && DV.keyss p b
  | .when c d => !c || d.keys p
  | _ => true
def DV.keyss (p : Nat → Bool) : List DV → Bool
  | [] => true
  | d :: r => d.keys p && DV.keyss p r
end
def DObj.keys (p : Nat → Bool) : DObj → Bool
  | .var cs => DV.keyss p cs
  | _ => true
theorem keyss_iff {p : Nat → Bool} : ∀ {l : List DV}, DV.keyss p l = true → ∀ (i : Nat) (d : DV), l[i]? = some d → d.keys p = true
  | [], _, i, d, h => by simp at h
  | x :: r, hk, i, d, h => by
    simp only [DV.keyss, Bool.and_eq_true] at hk
    cases i with
    | zero => simp at h; subst h; exact hk.1
    | succ i => exact keyss_iff hk.2 i d (by simpa using h)
theorem rens_len {ρ : Nat → Nat} : ∀ (l : List DV), (DV.rens ρ l).length = l.length
  | [] => rfl
  | _ :: r => by rw [DV.rens, List.length_cons, List.length_cons, rens_len r]
theorem rens_get {ρ : Nat → Nat} : ∀ {l : List DV} {i : Nat} {d : DV}, (DV.rens ρ l)[i]? = some d → ∃ d0, l[i]? = some d0 ∧ d = d0.ren ρ
  | [], i, d, h => by simp [DV.rens] at h
  | x :: r, i, d, h => by
    rw [DV.rens] at h
    cases i with
    | zero => simp at h; exact ⟨x, by simp, h.symm⟩
    | succ i =>
      obtain ⟨d0, h1, h2⟩ := rens_get (l := r) (i := i) (by simpa using h)
      exact ⟨d0, by simpa using h1, h2⟩
theorem ren_var {ρ : Nat → Nat} {o : Option DObj} {cs : List DV} (h : o.map (DObj.ren ρ) = some (.var cs)) : ∃ c0, o = some (.var c0) ∧ cs = DV.rens ρ c0 := by
  cases o with
  | none => cases h
  | some o =>
    cases o with
    | var c0 => exact ⟨c0, rfl, by simpa [DObj.ren] using h.symm⟩
    | arr => simp [DObj.ren] at h
    | fz => simp [DObj.ren] at h
    | mp => simp [DObj.ren] at h
    | gone => simp [DObj.ren] at h
theorem ren_arr {ρ : Nat → Nat} {o : Option DObj} {sz : Nat} {es : List PV} (h : o.map (DObj.ren ρ) = some (.arr sz es)) : o = some (.arr sz es) := by
  cases o with
  | none => cases h
  | some o => cases o <;> simp [DObj.ren] at h; obtain ⟨rfl, rfl⟩ := h; rfl
theorem ren_fz {ρ : Nat → Nat} {o : Option DObj} {es : List PV} (h : o.map (DObj.ren ρ) = some (.fz es)) : o = some (.fz es) := by
  cases o with
  | none => cases h
  | some o => cases o <;> simp [DObj.ren] at h; subst h; rfl
theorem ren_mp {ρ : Nat → Nat} {o : Option DObj} {es : List (PV × PV)} (h : o.map (DObj.ren ρ) = some (.mp es)) : o = some (.mp es) := by
  cases o with
  | none => cases h
  | some o => cases o <;> simp [DObj.ren] at h; subst h; rfl
theorem ren_some {ρ : Nat → Nat} {o : Option DObj} {x : DObj} (h : o.map (DObj.ren ρ) = some x) : ∃ y, o = some y ∧ x = y.ren ρ := by
  cases o with
  | none => cases h
  | some y => exact ⟨y, rfl, by simpa using h.symm⟩
theorem live_ren {ρ : Nat → Nat} {m : Loc} {o : DObj} : liveAt m (o.ren ρ) ↔ liveAt m o := by cases o <;> exact Iff.rfl
section
variable {P : Program} {M : Nat → Prop} {w0 : World}
theorem RelV.ren {T T' : Nat → Prop} {w : World} {μ μ' : Nat → Loc} {L L' : DH} {ρ : Nat → Nat} {p : Nat → Bool} {d : DV} {v : Value} (h : RelV T w μ L d v) (hu : d.keys p = true) (hT : ∀ b, T' b → T b)
    (hL : ∀ k, p k = true → L'.get (ρ k) = (L.get k).map (DObj.ren ρ) ∧ μ' (ρ k) = μ k) : RelV T' w μ' L' (d.ren ρ) v := by
  induction h with
  | pv q v h => exact .pv q v (h.sub hT)
  | e0 a => exact .e0 a
  | agg l vs h1 _ ih =>
    simp only [DV.keys] at hu
    refine .agg _ vs (by rw [rens_len]; exact h1) fun i d v hi hv => ?_
    obtain ⟨d0, g1, rfl⟩ := rens_get hi
    exact ih i d0 v g1 hv (keyss_iff hu i d0 g1)
  | tup l vs h1 _ ih =>
    simp only [DV.keys] at hu
    refine .tup _ vs (by rw [rens_len]; exact h1) fun i d v hi hv => ?_
    obtain ⟨d0, g1, rfl⟩ := rens_get hi
    exact ih i d0 v g1 hv (keyss_iff hu i d0 g1)
  | ref k c v h1 h2 =>
    obtain ⟨e1, e2⟩ := hL k hu
    refine .ref (ρ k) c v h1 fun cs hc => ?_
    rw [e1] at hc
    obtain ⟨c0, hc0, _⟩ := ren_var hc
    rw [e2]; exact h2 c0 hc0
  | aref k m i c v h1 h2 h3 =>
    obtain ⟨e1, e2⟩ := hL k hu
    exact .aref (ρ k) m i c v h1 (fun sz es hc => by rw [e1] at hc; rw [e2]; exact h2 sz es (ren_arr hc)) (fun es hc => by rw [e1] at hc; rw [e2]; exact h3 es (ren_fz hc))
  | eptr q c b off val h1 h2 h3 h4 => exact .eptr q c b off val (fun hb => h1 (hT b hb)) h2 h3 fun j q hj => (h4 j q hj).sub hT
  | buf k m v h1 h2 h3 =>
    obtain ⟨e1, e2⟩ := hL k hu
    exact .buf (ρ k) m v h1 (fun sz es hc => by rw [e1] at hc; rw [e2]; exact h2 sz es (ren_arr hc)) (fun es hc => by rw [e1] at hc; rw [e2]; exact h3 es (ren_fz hc))
  | vbuf k n v h1 h2 =>
    obtain ⟨e1, e2⟩ := hL k hu
    refine .vbuf (ρ k) n v h1 fun cs hc => ?_
    rw [e1] at hc
    obtain ⟨c0, hc0, _⟩ := ren_var hc
    rw [e2]; exact h2 c0 hc0
  | mp k v h1 h2 =>
    obtain ⟨e1, e2⟩ := hL k hu
    exact .mp (ρ k) v h1 fun es hc => by rw [e1] at hc; rw [e2]; exact h2 es (ren_mp hc)
  | clo f first caps fs cs h1 h2 _ _ ih1 ih2 =>
    simp only [DV.keys, Bool.and_eq_true] at hu
    refine .clo f _ _ fs cs (by rw [rens_len]; exact h1) (by rw [rens_len]; exact h2) (fun i d v hi hv => ?_) (fun i d v hi hv => ?_)
    · obtain ⟨d0, g1, rfl⟩ := rens_get hi
      exact ih1 i d0 v g1 hv (keyss_iff hu.1 i d0 g1)
    · obtain ⟨d0, g1, rfl⟩ := rens_get hi
      exact ih2 i d0 v g1 hv (keyss_iff hu.2 i d0 g1)
  | fnv v => exact .fnv v
  | when c d v _ h2 ih => exact .when c _ v (fun hc => ih hc (by simpa [DV.keys, hc] using hu)) h2
  | raw v => exact .raw v
  | any v => exact .any v
theorem ObjRel.ren {T T' : Nat → Prop} {w : World} {μ μ' : Nat → Loc} {L L' : DH} {ρ : Nat → Nat} {p : Nat → Bool} {k k' : Nat} {o : DObj} (h : ObjRel T w μ L k o) (hu : o.keys p = true) (hk : μ' k' = μ k) (hT : ∀ b, T' b → T b)
    (hL : ∀ k, p k = true → L'.get (ρ k) = (L.get k).map (DObj.ren ρ) ∧ μ' (ρ k) = μ k) : ObjRel T' w μ' L' k' (o.ren ρ) := by
  cases o with
  | var cs =>
    obtain ⟨vs, ty, h1, h2, h3⟩ := h
    refine ⟨vs, ty, by rw [hk]; exact h1, by rw [rens_len]; exact h2, fun i d v hi hv => ?_⟩
    obtain ⟨d0, g1, rfl⟩ := rens_get hi
    exact (h3 i d0 v g1 hv).ren (keyss_iff hu i d0 g1) hT hL
  | arr sz es =>
    rcases h with ⟨h1, h2⟩ | ⟨vs, ty, h1, h2, h3, h4, h5, h6⟩
    · exact .inl ⟨by rw [hk]; exact h1, h2⟩
    · refine .inr ⟨vs, ty, by rw [hk]; exact h1, by rw [hk]; exact h2, by rw [hk]; exact h3, by rw [hk]; exact h4, h5, fun i p j q hp hq => ?_⟩
      obtain ⟨v, g1, g2⟩ := h6 i p j q hp hq
      exact ⟨v, g1, g2.sub hT⟩
  | fz l =>
    rcases h with ⟨h1, h2⟩ | ⟨h1, h2, h3⟩
    · exact .inl ⟨by rw [hk]; exact h1, h2⟩
    · exact .inr ⟨by rw [hk]; exact h1, by rw [hk]; exact h2, by rw [hk]; exact h3.sub hT⟩
  | gone => trivial
  | mp es =>
    obtain ⟨ents, clock, h1, h2, h3⟩ := h
    exact ⟨ents, clock, by rw [hk]; exact h1, h2, fun i kv e hi he => ⟨(h3 i kv e hi he).1.sub hT, (h3 i kv e hi he).2.sub hT⟩⟩
mutual
theorem keys_under (n : Nat) : ∀ d : DV, d.keys (fun k => Nat.blt k n) = d.under n
  | .agg l => by simp only [DV.keys, DV.under]; exact keyss_unders n l
  | .tup l => by simp only [DV.keys, DV.under]; exact keyss_unders n l
  | .ref _ _ => rfl
  | .aref _ _ _ _ => rfl
  | .buf _ _ => rfl
  | .mp _ => rfl
  | .vbuf _ _ => rfl
  | .clo _ a b => by simp only [DV.keys, DV.under, keyss_unders n a, keyss_unders n b]
  | .when c d => by simp only [DV.keys, DV.under, keys_under n d]
  | .pv _ => rfl
  | .e0 => rfl
  | .eptr _ _ => rfl
  | .fnv _ => rfl
  | .raw _ => rfl
  | .any => rfl
theorem keyss_unders (n : Nat) : ∀ l : List DV, DV.keyss (fun k => Nat.blt k n) l = DV.unders n l
  | [] => rfl
  | d :: r => by simp only [DV.keyss, DV.unders, keys_under n d, keyss_unders n r]
end
mutual
theorem ren_under {n m : Nat} {ρ : Nat → Nat} (hρ : ∀ k, k < n → ρ k < m) : ∀ d : DV, d.under n = true → (d.ren ρ).under m = true
  | .agg l, h => by simp only [DV.under, DV.ren] at h ⊢; exact rens_under hρ l h
  | .tup l, h => by simp only [DV.under, DV.ren] at h ⊢; exact rens_under hρ l h
  | .ref k _, h => by simp only [DV.under, DV.ren, Nat.blt_eq] at h ⊢; exact hρ k h
  | .aref k _ _ _, h => by simp only [DV.under, DV.ren, Nat.blt_eq] at h ⊢; exact hρ k h
  | .buf k _, h => by simp only [DV.under, DV.ren, Nat.blt_eq] at h ⊢; exact hρ k h
  | .mp k, h => by simp only [DV.under, DV.ren, Nat.blt_eq] at h ⊢; exact hρ k h
  | .vbuf k _, h => by simp only [DV.under, DV.ren, Nat.blt_eq] at h ⊢; exact hρ k h
  | .clo _ a b, h => by
    simp only [DV.under, DV.ren, Bool.and_eq_true] at h ⊢
    exact ⟨rens_under hρ a h.1, rens_under hρ b h.2⟩
  | .when c d, h => by
    simp only [DV.under, DV.ren] at h ⊢
    cases c with
    | false => rfl
    | true => simpa using ren_under hρ d (by simpa using h)
  | .pv _, _ => rfl
  | .e0, _ => rfl
  | .eptr _ _, _ => rfl
  | .fnv _, _ => rfl
  | .raw _, _ => rfl
  | .any, _ => rfl
theorem rens_under {n m : Nat} {ρ : Nat → Nat} (hρ : ∀ k, k < n → ρ k < m) : ∀ l : List DV, DV.unders n l = true → DV.unders m (DV.rens ρ l) = true
  | [], _ => rfl
  | d :: r, h => by
    simp only [DV.unders, DV.rens, Bool.and_eq_true] at h ⊢
    exact ⟨ren_under hρ d h.1, rens_under hρ r h.2⟩
end
theorem obj_keys {n : Nat} : ∀ {o : DObj}, o.under n = true → o.keys (fun k => Nat.blt k n) = true
  | .var cs, h => by simp only [DObj.under] at h; simp only [DObj.keys]; rw [keyss_unders]; exact h
  | .arr _ _, _ => rfl
  | .fz _, _ => rfl
  | .mp _, _ => rfl
  | .gone, _ => rfl
theorem obj_ren_under {n m : Nat} {ρ : Nat → Nat} (hρ : ∀ k, k < n → ρ k < m) : ∀ {o : DObj}, o.under n = true → (o.ren ρ).under m = true
  | .var cs, h => rens_under hρ cs h
  | .arr _ _, _ => rfl
  | .fz _, _ => rfl
  | .mp _, _ => rfl
  | .gone, _ => rfl
/-- The heap behind a call that sees some objects under other numbers. -/
def DH.mergeR (L : DH) (ρ σ : Nat → Nat) (p : Nat → Bool) (L' : DH) : DH := { L with get := fun k => bif p k then (L'.get (σ k)).map (DObj.ren ρ) else L.get k }
theorem mergeR_in {L L' : DH} {ρ σ : Nat → Nat} {p : Nat → Bool} {k : Nat} (h : p k = true) : (L.mergeR ρ σ p L').get k = (L'.get (σ k)).map (DObj.ren ρ) := by
  simp only [DH.mergeR, h, cond_true]
theorem mergeR_out {L L' : DH} {ρ σ : Nat → Nat} {p : Nat → Bool} {k : Nat} (h : p k = false) : (L.mergeR ρ σ p L').get k = L.get k := by
  simp only [DH.mergeR, h, cond_false]
theorem DC.ren {f : FuncId} {args : List DV} {L H : DH} {K : DV → DH → Prop} (ρ σ : Nat → Nat) (p : Nat → Bool) (h1 : ∀ k, k < H.next → p (ρ k) = true ∧ σ (ρ k) = k ∧ ρ k < L.next) (h2 : ∀ k, p k = true → σ k < H.next ∧ ρ (σ k) = k)
    (hag : ∀ k, k < H.next → H.get k = (L.get (ρ k)).map (DObj.ren σ)) (hkp : ∀ k o, k < H.next → L.get (ρ k) = some o → o.keys p = true) (hnone : ∀ k, H.next ≤ k → H.get k = none) (hlo : H.lo = 0) (hlo' : L.lo = 0)
    (hbase : H.base ≤ H.next) (hkeys : ∀ k o, H.get k = some o → o.under H.next = true) (hargs : DV.keyss p args = true) (hargsU : DV.unders H.next (DV.rens σ args) = true)
    (h : ∀ M, DC P M w0 f (DV.rens σ args) H fun d L' => L'.next = H.next ∧ K (d.ren ρ) (L.mergeR ρ σ p L')) : DC P M w0 f args L K := by
  refine DC.mk ⟨(h M).elim.1, fun μ w vs hr hu hrel => ?_⟩
  have hlt : ∀ k o, H.get k = some o → k < H.next := fun k o hk => by
    rcases Nat.lt_or_ge k H.next with h' | h'
    · exact h'
    · rw [hnone k h'] at hk; cases hk
  have hsub : ∀ k o, H.get k = some o → ∃ o', L.get (ρ k) = some o' ∧ o = o'.ren σ := fun k o hk => by
    rw [hag k (hlt k o hk)] at hk
    exact ren_some hk
  let M' : Nat → Prop := fun b => M b ∨ ∃ k o, p k = false ∧ L.get k = some o ∧ liveAt (μ k) o ∧ (μ k).blk = b
  let μH : Nat → Loc := fun k => μ (ρ k)
  have hin : ∀ k o, p k = true → L.get k = some o → H.get (σ k) = some (o.ren σ) := fun k o hk ho => by
    obtain ⟨g1, g2⟩ := h2 k hk
    rw [hag _ g1, g2, ho]; rfl
  have hT : ∀ b, Tot M' μH H b ↔ Tot M μ L b := fun b => by
    constructor
    · rintro ((hb | ⟨k, o, _, h2, h3, h4⟩) | ⟨k, o, q1, q2, q3⟩)
      · exact .inl hb
      · exact .inr ⟨k, o, h2, h3, h4⟩
      · obtain ⟨o', g1, rfl⟩ := hsub k o q1
        exact .inr ⟨ρ k, o', g1, live_ren.1 q2, q3⟩
    · rintro (hb | ⟨k, o, q1, q2, q3⟩)
      · exact .inl (.inl hb)
      · cases hp : p k with
        | true =>
          obtain ⟨g1, g2⟩ := h2 k hp
          refine .inr ⟨σ k, o.ren σ, hin k o hp q1, ?_, ?_⟩
          · show liveAt (μ (ρ (σ k))) _
            rw [g2]; exact live_ren.2 q2
          · show (μ (ρ (σ k))).blk = b
            rw [g2]; exact q3
        | false => exact .inl (.inr ⟨k, o, hp, q1, q2, q3⟩)
  have hLH : ∀ k, p k = true → H.get (σ k) = (L.get k).map (DObj.ren σ) ∧ μH (σ k) = μ k := fun k hk => by
    obtain ⟨g1, g2⟩ := h2 k hk
    exact ⟨by rw [hag _ g1, g2], by show μ (ρ (σ k)) = μ k; rw [g2]⟩
  have hrH : HR M' w0 μH H w := by
    refine ⟨hr.ext, ?_, fun k o hk => ⟨hlt k o hk, hkeys k o hk⟩, ?_, ?_, ?_, hbase, by rw [hlo]; exact Nat.zero_le _, hr.glb⟩
    · rintro b (hb | ⟨k, o, _, q2, q3, rfl⟩)
      · exact hr.mlt b hb
      · exact (hr.live k o q2 q3).1
    · intro k o hk hl
      obtain ⟨o', g0, rfl⟩ := hsub k o hk
      obtain ⟨g1, g2, g3⟩ := hr.live (ρ k) o' g0 (live_ren.1 hl)
      refine ⟨g1, ?_, fun _ => g3 (by rw [hlo']; exact Nat.zero_le _)⟩
      rintro (hb | ⟨k', o2, hk', q2, q3, q4⟩)
      · exact g2 hb
      · have := hr.inj k' o2 (ρ k) o' q2 q3 g0 (live_ren.1 hl) q4
        rw [this, (h1 k (hlt k _ hk)).1] at hk'
        cases hk'
    · intro k o k' o' q1 q2 q3 q4 q5
      obtain ⟨a, a1, rfl⟩ := hsub k o q1
      obtain ⟨b, b1, rfl⟩ := hsub k' o' q3
      have e := hr.inj (ρ k) a (ρ k') b a1 (live_ren.1 q2) b1 (live_ren.1 q4) q5
      rw [← (h1 k (hlt k _ q1)).2.1, ← (h1 k' (hlt k' _ q3)).2.1, e]
    · intro k o hk
      obtain ⟨o', g0, rfl⟩ := hsub k o hk
      exact (hr.obj (ρ k) o' g0).ren (hkp k o' (hlt k _ hk) g0) rfl (fun b hb => (hT b).1 hb) hLH
  have hrelH : RelVs (Tot M' μH H) w μH H (DV.rens σ args) vs := ⟨by rw [rens_len]; exact hrel.1, fun i d v hd hv => by
    obtain ⟨d0, g1, rfl⟩ := rens_get hd
    exact (hrel.2 i d0 v g1 hv).ren (keyss_iff hargs i d0 g1) (fun b hb => (hT b).1 hb) hLH⟩
  refine ((h M').elim.2 μH w vs hrH hargsU hrelH).mono ?_
  rintro e w' ⟨v, he, μ', d, L', ⟨hn', hK⟩, hr', hv, hdu, hs⟩
  let μL : Nat → Loc := fun k => bif p k then μ' (σ k) else μ k
  have hμin : ∀ k, p k = true → μL k = μ' (σ k) := fun k hk => by show (bif p k then _ else _) = _; rw [hk]; rfl
  have hμout : ∀ k, p k = false → μL k = μ k := fun k hk => by show (bif p k then _ else _) = _; rw [hk]; rfl
  refine ⟨v, he, μL, d.ren ρ, L.mergeR ρ σ p L', hK, ?_⟩
  have hk' : ∀ k o, L'.get k = some o → k < H.next := fun k o hk => by have := (hr'.keys k o hk).1; omega
  have hframe : ∀ k o, p k = false → L.get k = some o → liveAt (μ k) o → w'.heap[(μ k).blk]? = w.heap[(μ k).blk]? := by
    intro k o hk hg hl
    refine hs.same _ (hr.live k o hg hl).1 ?_
    rintro ⟨j, o', q1, q2, q3, q4⟩
    obtain ⟨a, a1, rfl⟩ := hsub j o' q2
    have := hr.inj (ρ j) a k o a1 (live_ren.1 q3) hg hl q4
    rw [← this, (h1 j (hlt j _ q2)).1] at hk
    cases hk
  have hW : ∀ b, Wbl μH H b → Wbl μ L b := by
    rintro b ⟨k, o, q1, q2, q3, q4⟩
    obtain ⟨a, a1, rfl⟩ := hsub k o q2
    exact ⟨ρ k, a, by rw [hlo']; exact Nat.zero_le _, a1, live_ren.1 q3, q4⟩
  have hback : ∀ k o, p k = true → (L.mergeR ρ σ p L').get k = some o → ∃ o', L'.get (σ k) = some o' ∧ o = o'.ren ρ := fun k o hk ho => by
    rw [mergeR_in hk] at ho
    exact ren_some ho
  have hstp : Stp L μ w (L.mergeR ρ σ p L') μL w' := by
    refine ⟨⟨?_, ?_, ?_, ?_⟩, hs.os, hs.tape, hs.output, hs.size, fun b hb hn => hs.same b hb fun hw => hn (hW b hw), ?_, Nat.le_refl _, rfl, rfl⟩
    · intro k cs' hkl hc
      cases hp : p k with
      | true =>
        rw [mergeR_in hp] at hc
        rw [hμin k hp]
        obtain ⟨c0, g1, _⟩ := ren_var hc
        obtain ⟨cs, g2, g3⟩ := hs.evo.var (σ k) c0 (h2 k hp).1 g1
        obtain ⟨a, a1, a2⟩ := hsub (σ k) _ g2
        rw [(h2 k hp).2] at a1
        cases a with
        | var ca => exact ⟨ca, a1, by rw [g3]; show μ (ρ (σ k)) = μ k; rw [(h2 k hp).2]⟩
        | arr => simp [DObj.ren] at a2
        | fz => simp [DObj.ren] at a2
        | mp => simp [DObj.ren] at a2
        | gone => simp [DObj.ren] at a2
      | false =>
        rw [mergeR_out hp] at hc
        rw [hμout k hp]
        exact ⟨cs', hc, rfl⟩
    · intro k cs' hkl hc
      cases hp : p k with
      | true =>
        rw [mergeR_in hp] at hc
        rw [hμin k hp]
        obtain ⟨cs, g2, g3⟩ := hs.evo.mp (σ k) cs' (h2 k hp).1 (ren_mp hc)
        obtain ⟨a, a1, a2⟩ := hsub (σ k) _ g2
        rw [(h2 k hp).2] at a1
        have a3 := ren_mp (ρ := σ) (o := some a) (es := cs) (by rw [a2]; rfl)
        exact ⟨cs, by rw [a1]; exact a3, by rw [g3]; show μ (ρ (σ k)) = μ k; rw [(h2 k hp).2]⟩
      | false =>
        rw [mergeR_out hp] at hc
        rw [hμout k hp]
        exact ⟨cs', hc, rfl⟩
    · intro k sz es' hkl hc
      cases hp : p k with
      | true =>
        rw [mergeR_in hp] at hc
        rw [hμin k hp]
        obtain ⟨es, g2, g3⟩ := hs.evo.arr (σ k) sz es' (h2 k hp).1 (ren_arr hc)
        obtain ⟨a, a1, a2⟩ := hsub (σ k) _ g2
        rw [(h2 k hp).2] at a1
        have a3 := ren_arr (ρ := σ) (o := some a) (sz := sz) (es := es) (by rw [a2]; rfl)
        refine ⟨es, by rw [a1]; exact a3, ?_⟩
        rcases g3 with g3 | ⟨g3, g4⟩
        · exact .inl g3
        · exact .inr ⟨g3, by rw [g4]; show μ (ρ (σ k)) = μ k; rw [(h2 k hp).2]⟩
      | false =>
        rw [mergeR_out hp] at hc
        rw [hμout k hp]
        exact ⟨es', hc, .inr ⟨rfl, rfl⟩⟩
    · intro k es' hkl hc
      cases hp : p k with
      | true =>
        rw [mergeR_in hp] at hc
        rw [hμin k hp]
        have em : μH (σ k) = μ k := by show μ (ρ (σ k)) = μ k; rw [(h2 k hp).2]
        rcases hs.evo.fz (σ k) es' (h2 k hp).1 (ren_fz hc) with ⟨g2, g3⟩ | ⟨sz, es, g2, g3, g4⟩
        · obtain ⟨a, a1, a2⟩ := hsub (σ k) _ g2
          rw [(h2 k hp).2] at a1
          have a3 := ren_fz (ρ := σ) (o := some a) (es := es') (by rw [a2]; rfl)
          exact .inl ⟨by rw [a1]; exact a3, by rw [g3]; exact em⟩
        · obtain ⟨a, a1, a2⟩ := hsub (σ k) _ g2
          rw [(h2 k hp).2] at a1
          have a3 := ren_arr (ρ := σ) (o := some a) (sz := sz) (es := es) (by rw [a2]; rfl)
          refine .inr ⟨sz, es, by rw [a1]; exact a3, g3, ?_⟩
          rcases g4 with g4 | ⟨g4, g5⟩
          · exact .inl g4
          · exact .inr ⟨g4, by rw [g5]; exact em⟩
      | false =>
        rw [mergeR_out hp] at hc
        rw [hμout k hp]
        exact .inl ⟨hc, rfl⟩
    · intro k o hc hl
      cases hp : p k with
      | true =>
        obtain ⟨o', g1, rfl⟩ := hback k o hp hc
        rw [hμin k hp] at hl ⊢
        rcases hs.blk (σ k) o' g1 (live_ren.1 hl) with ⟨q1, ⟨o0, q2, q3⟩, q4⟩ | q1
        · obtain ⟨a, a1, rfl⟩ := hsub (σ k) _ q2
          rw [(h2 k hp).2] at a1
          have em : μH (σ k) = μ k := by show μ (ρ (σ k)) = μ k; rw [(h2 k hp).2]
          rw [em] at q3 q4
          exact .inl ⟨(hr.keys k a a1).1, ⟨a, a1, live_ren.1 q3⟩, q4⟩
        · exact .inr q1
      | false =>
        rw [mergeR_out hp] at hc
        rw [hμout k hp] at hl ⊢
        exact .inl ⟨(hr.keys k o hc).1, ⟨o, hc, hl⟩, rfl⟩
  have hT' : ∀ b, Tot M μL (L.mergeR ρ σ p L') b → Tot M' μ' L' b := by
    rintro b (hb | ⟨k, o, q1, q2, q3⟩)
    · exact .inl (.inl hb)
    · cases hp : p k with
      | true =>
        obtain ⟨o', g1, rfl⟩ := hback k o hp q1
        rw [hμin k hp] at q2 q3
        exact .inr ⟨σ k, o', g1, live_ren.1 q2, q3⟩
      | false =>
        rw [mergeR_out hp] at q1
        rw [hμout k hp] at q2 q3
        exact .inl (.inr ⟨k, o, hp, q1, q2, q3⟩)
  have hL' : ∀ k, Nat.blt k H.next = true → (L.mergeR ρ σ p L').get (ρ k) = (L'.get k).map (DObj.ren ρ) ∧ μL (ρ k) = μ' k := fun k hk => by
    have hk : k < H.next := by simpa using hk
    obtain ⟨g1, g2, _⟩ := h1 k hk
    exact ⟨by rw [mergeR_in g1, g2], by rw [hμin _ g1, g2]⟩
  have hnew : ∀ k o, L'.get k = some o → liveAt (μ' k) o → ∀ j oj, p j = false → L.get j = some oj → liveAt (μ j) oj → (μ' k).blk ≠ (μ j).blk := by
    intro k o hk hl j oj hj q2 q3 he
    exact (hr'.live k o hk hl).2.1 (.inr ⟨j, oj, hj, q2, q3, he.symm⟩)
  have hdk : d.keys (fun k => Nat.blt k H.next) = true := by rw [keys_under, ← hn']; exact hdu
  have hρu : ∀ k, k < H.next → ρ k < L.next := fun k hk => (h1 k hk).2.2
  refine ⟨⟨hr'.ext, fun b hb => hr'.mlt b (.inl hb), ?_, ?_, ?_, ?_, hr.base, hr.lob, hr.glb⟩, hv.ren hdk hT' hL', ren_under hρu d (by rw [← hn']; exact hdu), hstp⟩
  · intro k o hk
    cases hp : p k with
    | true =>
      obtain ⟨o', g1, rfl⟩ := hback k o hp hk
      have g2 := (hr'.keys (σ k) o' g1).2
      rw [hn'] at g2
      have := hρu (σ k) (h2 k hp).1
      rw [(h2 k hp).2] at this
      exact ⟨this, obj_ren_under hρu g2⟩
    | false => rw [mergeR_out hp] at hk; exact hr.keys k o hk
  · intro k o hk hl
    cases hp : p k with
    | true =>
      obtain ⟨o', g1, rfl⟩ := hback k o hp hk
      rw [hμin k hp] at hl ⊢
      obtain ⟨q1, q2, q3⟩ := hr'.live (σ k) o' g1 (live_ren.1 hl)
      refine ⟨q1, fun hM => q2 (.inl hM), fun _ => q3 (by rw [hs.lo, hlo]; exact Nat.zero_le _)⟩
    | false =>
      rw [mergeR_out hp] at hk
      rw [hμout k hp] at hl ⊢
      obtain ⟨q1, q2, q3⟩ := hr.live k o hk hl
      exact ⟨Nat.lt_of_lt_of_le q1 hs.size, q2, q3⟩
  · intro k o k' o' q1 q2 q3 q4 q5
    cases hp : p k with
    | true =>
      cases hp' : p k' with
      | true =>
        obtain ⟨a, a1, rfl⟩ := hback k o hp q1
        obtain ⟨b, b1, rfl⟩ := hback k' o' hp' q3
        rw [hμin k hp] at q2 q5
        rw [hμin k' hp'] at q4 q5
        have e := hr'.inj (σ k) a (σ k') b a1 (live_ren.1 q2) b1 (live_ren.1 q4) q5
        rw [← (h2 k hp).2, ← (h2 k' hp').2, e]
      | false =>
        obtain ⟨a, a1, rfl⟩ := hback k o hp q1
        rw [mergeR_out hp'] at q3
        rw [hμin k hp] at q2 q5
        rw [hμout k' hp'] at q4 q5
        exact absurd q5 (hnew (σ k) a a1 (live_ren.1 q2) k' o' hp' q3 q4)
    | false =>
      cases hp' : p k' with
      | true =>
        obtain ⟨b, b1, rfl⟩ := hback k' o' hp' q3
        rw [mergeR_out hp] at q1
        rw [hμout k hp] at q2 q5
        rw [hμin k' hp'] at q4 q5
        exact absurd q5.symm (hnew (σ k') b b1 (live_ren.1 q4) k o hp q1 q2)
      | false =>
        rw [mergeR_out hp] at q1
        rw [mergeR_out hp'] at q3
        rw [hμout k hp] at q2 q5
        rw [hμout k' hp'] at q4 q5
        exact hr.inj k o k' o' q1 q2 q3 q4 q5
  · intro k o hk
    cases hp : p k with
    | true =>
      obtain ⟨a, a1, rfl⟩ := hback k o hp hk
      have g2 := (hr'.keys (σ k) a a1).2
      rw [hn'] at g2
      exact (hr'.obj (σ k) a a1).ren (obj_keys g2) (hμin k hp) hT' hL'
    | false =>
      rw [mergeR_out hp] at hk
      exact (hr.obj k o hk).stp hstp (hμout k hp) (hframe k o hp hk) (hr.keys k o hk).2

/-! the renaming told by a list: key k of the callee's heap is the k-th of the list -/
def rhoR (rs : List Nat) (k : Nat) : Nat := rs.getD k 0
def memR : List Nat → Nat → Bool
  | [], _ => false
  | x :: r, k => bif Nat.beq k x then true else memR r k
def sigR : List Nat → Nat → Nat
  | [], _ => 0
  | x :: r, k => bif Nat.beq k x then 0 else sigR r k + 1
def nodR : List Nat → Bool
  | [] => true
  | x :: r => bif memR r x then false else nodR r
theorem sigR_in : ∀ {rs : List Nat} {k : Nat}, memR rs k = true → sigR rs k < rs.length ∧ rhoR rs (sigR rs k) = k
  | [], _, h => by cases h
  | x :: r, k, h => by
    cases hk : Nat.beq k x with
    | true =>
      have e : k = x := Nat.eq_of_beq_eq_true hk
      simp only [sigR, hk, cond_true]
      exact ⟨by simp, e.symm⟩
    | false =>
      simp only [memR, hk, cond_false] at h
      obtain ⟨h1, h2⟩ := sigR_in h
      simp only [sigR, hk, cond_false]
      exact ⟨by simpa using h1, by simpa [rhoR] using h2⟩
theorem memR_get : ∀ {rs : List Nat} {i : Nat}, i < rs.length → memR rs (rhoR rs i) = true
  | [], _, h => by simp at h
  | x :: r, 0, _ => by simp [rhoR, memR, Nat.beq_refl]
  | x :: r, i + 1, h => by
    have := memR_get (rs := r) (i := i) (by simpa using h)
    have e : rhoR (x :: r) (i + 1) = rhoR r i := by simp [rhoR]
    rw [e, memR]
    cases Nat.beq (rhoR r i) x with
    | true => rfl
    | false => exact this
theorem sigR_get : ∀ {rs : List Nat} {i : Nat}, nodR rs = true → i < rs.length → sigR rs (rhoR rs i) = i
  | [], _, _, h => by simp at h
  | x :: r, 0, _, _ => by simp [rhoR, sigR, Nat.beq_refl]
  | x :: r, i + 1, hn, h => by
    have e : rhoR (x :: r) (i + 1) = rhoR r i := by simp [rhoR]
    have hi : i < r.length := by simpa using h
    rw [nodR] at hn
    cases hm : memR r x with
    | true => rw [hm] at hn; cases hn
    | false =>
      rw [hm, cond_false] at hn
      have h1 := sigR_get hn hi
      have h2 := memR_get hi
      rw [e, sigR]
      cases hb : Nat.beq (rhoR r i) x with
      | true => rw [Nat.eq_of_beq_eq_true hb, hm] at h2; cases h2
      | false => rw [cond_false, h1]
def agrR (g g' : Nat → Option DObj) (rs : List Nat) : Nat → Prop
  | 0 => True
  | n + 1 => (g n = (g' (rhoR rs n)).map (DObj.ren (sigR rs)) ∧ (g' (rhoR rs n)).elim true (DObj.keys (memR rs)) = true) ∧ agrR g g' rs n
theorem agrR_lt {g g' : Nat → Option DObj} {rs : List Nat} : ∀ {n : Nat}, agrR g g' rs n → ∀ k, k < n → g k = (g' (rhoR rs k)).map (DObj.ren (sigR rs)) ∧ (g' (rhoR rs k)).elim true (DObj.keys (memR rs)) = true
  | 0, _, k, h => by omega
  | n + 1, ha, k, h => by
    by_cases e : k = n
    · subst e; exact ha.1
    · exact agrR_lt ha.2 k (by omega)
theorem DC.callR {f : FuncId} {args : List DV} {L : DH} {K : DV → DH → Prop} (rs : List Nat) (Hl : List (Nat × DObj)) (hn : nodR rs = true) (hlt : (rs.all fun k => Nat.blt k L.next) = true) (hlo : L.lo = 0) (hag : agrR (objsOf Hl) L.get rs rs.length)
    (hu : wkU rs.length [] Hl = true) (hargs : DV.keyss (memR rs) args = true) (hargsU : DV.unders rs.length (DV.rens (sigR rs) args) = true)
    (h : ∀ M, DC P M w0 f (DV.rens (sigR rs) args) ⟨rs.length, 0, rs.length, objsOf Hl⟩ fun d L' => L'.next = rs.length ∧ K (d.ren (rhoR rs)) (L.mergeR (rhoR rs) (sigR rs) (memR rs) L')) : DC P M w0 f args L K := by
  simp only [wkU, List.all_nil, Bool.true_and, List.all_eq_true, Bool.and_eq_true] at hu
  refine DC.ren (H := ⟨rs.length, 0, rs.length, objsOf Hl⟩) (rhoR rs) (sigR rs) (memR rs) (fun k hk => ⟨memR_get hk, sigR_get hn hk, ?_⟩) (fun k hk => sigR_in hk) (fun k hk => (agrR_lt hag k hk).1) (fun k o hk ho => ?_) (fun k hk => ?_) rfl hlo (Nat.le_refl _)
    (fun k o hk => (hu _ (objsOf_mem hk)).2) hargs hargsU h
  · rw [List.all_eq_true] at hlt
    have hk : k < rs.length := hk
    have := hlt (rhoR rs k) (by rw [rhoR, List.getD_eq_getElem?_getD, List.getElem?_eq_getElem hk]; exact List.getElem_mem hk)
    simpa using this
  · have := (agrR_lt hag k hk).2
    rw [ho] at this
    exact this
  · cases hg : objsOf Hl k with
    | none => exact hg
    | some o =>
      have := (hu _ (objsOf_mem hg)).1
      have h1 : k < rs.length := by simpa using this
      have h2 : rs.length ≤ k := hk
      omega
end
end Go.Dv
set_option maxRecDepth 100000
set_option maxHeartbeats 4000000
namespace Go.Proofs.YtlaolpkgabknfaaGreatDoor
open Go Go.Dv

def setM (es : List (Nat × Nat)) : List (PV × PV) := es.map fun e => (.int .i64 (e.1 : Int), u64 e.2)
theorem mfnd_setM (i : Nat) : ∀ (es : List (Nat × Nat)) (s : Nat), (mfnd (.int .i64 (i : Int)) (setM es) s).map Prod.snd = (look i es).map u64
  | [], s => rfl
  | e :: r, s => by
    simp only [setM, List.map_cons, mfnd, look]
    by_cases h : e.1 = i
    · rw [if_pos (int_eq.2 h), if_pos h]; rfl
    · rw [if_neg (fun e => h (int_eq.1 e)), if_neg h]
      exact mfnd_setM i r (s + 1)
theorem mfind_setM (i : Nat) (es : List (Nat × Nat)) : mfind (setM es) (.int .i64 (i : Int)) = (look i es).map u64 := mfnd_setM i es 0
theorem mput_setM (i k : Nat) : ∀ (es : List (Nat × Nat)), mput (setM es) (.int .i64 (i : Int)) (u64 k) = setM (dput i k es)
  | [] => rfl
  | e :: r => by
    simp only [setM, List.map_cons, mput_cons, dput]
    by_cases h : e.1 = i
    · rw [if_pos (int_eq.2 h), if_pos h]; rfl
    · rw [if_neg (fun e => h (int_eq.1 e)), if_neg h]
      rw [List.map_cons]
      congr 1
      exact mput_setM i k r
def actsPV (acts : List Act) : PV := .sl (acts.map Act.pv)
def evC (m : Mo) (acts : List Act) (c : List Nd) : List DV := [.pv (.int .i64 m.n), .pv (.sl (m.val.map u64)), .pv (.sl (m.rel.map rowPV)), .pv (u64 (2 ^ m.n.toNat - 1)), .pv (actsPV acts), .pv (fpv c), .mp 2, .ref 0 0]
def H0 (m : Mo) (acts : List Act) (c : List Nd) (es : List (Nat × Nat)) (err : Int) : List (Nat × DObj) := [(0, .var [.pv (.int .i64 err)]), (1, .var (evC m acts c)), (2, .mp (setM es))]
/-- What is reckoned already. -/
def InvE (acts : List Act) (c : List Nd) (m : Mo) (n : Nat) (es : List (Nat × Nat)) (err : Int) : Prop := ∀ k s, look k es = some s → s < 2 ^ n ∧ (err = 0 → dvT acts (tree c k) m = some s)
structure PostE (acts : List Act) (c : List Nd) (m : Mo) (n : Nat) (i : Nat) (err : Int) (s : Nat) (es' : List (Nat × Nat)) (err' : Int) : Prop where
  lt : s < 2 ^ n
  inv : InvE acts c m n es' err'
  er : err' = 0 ∨ err' = 8
  ok : err' = 0 → err = 0 ∧ dvT acts (tree c i) m = some s
  no : err' ≠ 0 → err ≠ 0 ∨ dvT acts (tree c i) m = none
/-- Nodes that may be asked for. -/
structure CxD (A F : Nat) (acts : List Act) (c : List Nd) : Prop where
  okl : Okl c
  len : c.length ≤ 1000
  op : ∀ x, x ∈ c → x.op ≤ 13 ∨ x.op = 16 ∨ x.op = 17
  fact : ∀ x, x ∈ c → x.op = 3 → x.i < F
  ag : ∀ x, x ∈ c → x.op = 9 ∨ x.op = 10 → x.i < A
  gr : ∀ x, x ∈ c → x.op = 11 ∨ x.op = 12 ∨ x.op = 13 → 1 ≤ x.g ∧ x.g < shl64 1 (A : Int)
  ev : ∀ x, x ∈ c → x.op = 17 → 0 ≤ x.i ∧ x.i < acts.length ∧ 0 ≤ x.e ∧ x.e < (acts.getD x.i.toNat noAct).pre.length
structure ModD (acts : List Act) (m : Mo) (n A F : Nat) : Prop where
  okd : OkD acts m n
  ra : m.rel.length = A
  rf : m.val.length = F
/-- What a call of at or of value does to the evaluation. -/
def ConE (fid : Nat) (arg : DV) (acts : List Act) (c : List Nd) (A F i : Nat) : Prop := ∀ (m : Mo) (n : Nat) (es : List (Nat × Nat)) (err : Int), ModD acts m n A F → InvE acts c m n es err → (err = 0 ∨ err = 8) →
  ∀ (M : Nat → Prop) (w0 : World) (base : Nat) (K : DV → DH → Prop), (∀ s es' err', PostE acts c m n i err s es' err' → K (.pv (u64 s)) ⟨3, 0, base, objsOf (H0 m acts c es' err')⟩) →
    DC Tryz.prog M w0 fid [.ref 1 0, arg] ⟨3, 0, base, objsOf (H0 m acts c es err)⟩ K
theorem con_L {fid : Nat} {arg : DV} {acts : List Act} {c : List Nd} {A F i : Nat} (h : ConE fid arg acts c A F i) (hu : DV.under 3 arg = true) {m : Mo} {n : Nat} {es : List (Nat × Nat)} {err : Int} (hM : ModD acts m n A F) (hI : InvE acts c m n es err) (hE : err = 0 ∨ err = 8)
    {M : Nat → Prop} {w0 : World} {L : DH} {K : DV → DH → Prop} (h0 : L.lo = 0) (hn : Nat.ble 3 L.next = true) (g0 : L.get 0 = some (.var [.pv (.int .i64 err)])) (g1 : L.get 1 = some (.var (evC m acts c))) (g2 : L.get 2 = some (.mp (setM es)))
    (hK : ∀ s es' err', PostE acts c m n i err s es' err' → K (.pv (u64 s)) (L.merge ⟨3, 0, 3, objsOf (H0 m acts c es' err')⟩ 3)) : DC Tryz.prog M w0 fid [.ref 1 0, arg] L K := by
  refine DC.call 3 (H0 m acts c es err) ⟨g2.symm, g1.symm, g0.symm, trivial⟩ rfl hn (by rw [h0]; rfl) ?_ fun M' => ?_
  · show (Nat.blt 1 3 && (arg.under 3 && true)) = true
    rw [hu]; rfl
  · rw [h0]
    exact h m n es err hM hI hE M' w0 3 _ fun s es' err' hp => ⟨rfl, hK s es' err' hp⟩
theorem lt64 {acts : List Act} {c : List Nd} {m : Mo} {n i : Nat} {err err' : Int} {s : Nat} {es' : List (Nat × Nat)} (hM : OkM m n) (p : PostE acts c m n i err s es' err') : s < 2 ^ 64 := Nat.lt_of_lt_of_le p.lt (pow64_le hM.n64)
theorem at_dc {acts : List Act} {c : List Nd} {A F i : Nat} (hC : CxD A F acts c) (hi : i < c.length) (hv : ∀ x, c[i]? = some x → ConE 59 (.agg x.dvs) acts c A F i) : ConE 36 (.pv (.int .i64 (i : Nat))) acts c A F i := by
  intro m n es err hM hI hE M w0 base K hK
  have hlen := hC.len
  obtain ⟨x, hx⟩ : ∃ x, c[i]? = some x := ⟨_, List.getElem?_eq_getElem hi⟩
  have hv' := hv
  have hmf := mfind_setM i es
  refine DC.weaken (DC.intro mixed (fn := Tryz.f36) rfl rfl rfl ?_)
  cases hl : look i es with
  | some s =>
    rw [hl] at hmf
    have hoff : (!true) = false := rfl
    (try conv=>whnf);repeat' (first|(apply And.intro<;>try conv=>whnf)|(intro h;first|with_reducible exact nt0 h|try conv=>whnf)|(apply infoT;rfl)|(apply fitI;rfl)|(apply whenOff;(focus with_reducible assumption);try conv=>whnf)|(refine ⟨_, _, rfl, idx_map (by with_reducible assumption), rfl, ?_⟩;try conv=>whnf)|(apply ex2;(focus with_reducible assumption);try conv=>whnf)|fail)
    · obtain ⟨e, _, rfl⟩ := List.mem_map.1 h; rfl
    · exact absurd (show (bif !true then false else false) = true from h) (by decide)
    · obtain ⟨q1, q2⟩ := hI i s hl
      exact ⟨.pv (u64 s), 3, H0 m acts c es err, (by refine Wk.of ?_ ?_ rfl rfl rfl<;>repeat' (first|exact trivial|exact WkD.same _|exact WkO.same _ _ rfl|refine ⟨?_, ?_⟩|fail)), hK s es err ⟨q1, hI, hE, fun h => ⟨h, q2 h⟩, fun h => .inl h⟩⟩
  | none =>
    rw [hl] at hmf
    rcases hE with rfl | rfl
    · (try conv=>whnf);repeat' (first|(apply And.intro<;>try conv=>whnf)|(intro h;try conv=>whnf)|apply True.intro|(apply infoT;rfl)|(apply fitI;rfl)|(apply WhenQ.mk;(try conv=>whnf);rotate_left;(try conv=>whnf);rotate_right)|with_reducible assumption|(refine ⟨_, _, rfl, idx_map (by with_reducible assumption), rfl, ?_⟩;try conv=>whnf)|(apply ex2;(focus with_reducible assumption);try conv=>whnf)|fail)
      · obtain ⟨e, _, rfl⟩ := List.mem_map.1 h; rfl
      · refine con_L (hv' x hx) rfl hM hI (.inl rfl) rfl rfl rfl rfl rfl fun s1 es1 er1 p1 => ?_
        (try conv=>whnf);repeat' (first|(apply And.intro<;>try conv=>whnf)|(intro h;try conv=>whnf)|(apply fitI;rfl)|fail)
        · obtain ⟨e, _, rfl⟩ := List.mem_map.1 h; rfl
        · refine ⟨.pv (u64 s1), 3, H0 m acts c (dput i s1 es1) er1, ?_, hK s1 (dput i s1 es1) er1 ⟨p1.lt, fun k s hk => ?_, p1.er, p1.ok, p1.no⟩⟩
          · (refine Wk.of ?_ ?_ rfl rfl rfl<;>repeat' (first|exact trivial|exact WkD.same _|exact WkO.same _ _ rfl|refine ⟨?_, ?_⟩|fail))
            exact WkO.same _ _ (congrArg (fun z => some (DObj.mp z)) (mput_setM i s1 es1))
          · rw [look_dput] at hk
            by_cases e : k = i
            · rw [if_pos e] at hk
              have hk := Option.some.inj hk
              subst hk
              rw [e]
              exact ⟨p1.lt, fun h => (p1.ok h).2⟩
            · rw [if_neg e] at hk
              exact p1.inv k s hk
      · exact absurd (show (bif !false then (0 : Int) == 0 else false) = false from h) (by decide)
    · (try conv=>whnf);repeat' (first|(apply And.intro<;>try conv=>whnf)|(intro h;try conv=>whnf)|apply True.intro|(apply infoT;rfl)|(apply fitI;rfl)|(apply WhenQ.mk;(try conv=>whnf);rotate_left;(try conv=>whnf);rotate_right)|with_reducible assumption|(refine ⟨_, _, rfl, idx_map (by with_reducible assumption), rfl, ?_⟩;try conv=>whnf)|(apply ex2;(focus with_reducible assumption);try conv=>whnf)|fail)
      · obtain ⟨e, _, rfl⟩ := List.mem_map.1 h; rfl
      · exact absurd (show (bif !false then (8 : Int) == 0 else false) = true from h) (by decide)
      · exact ⟨.pv (u64 0), 3, H0 m acts c es 8, (by refine Wk.of ?_ ?_ rfl rfl rfl<;>repeat' (first|exact trivial|exact WkD.same _|exact WkO.same _ _ rfl|refine ⟨?_, ?_⟩|fail)), hK 0 es 8 ⟨Nat.two_pow_pos n, hI, .inr rfl, fun h => absurd h (by decide), fun _ => .inl (by decide)⟩⟩
end Go.Proofs.YtlaolpkgabknfaaGreatDoor
