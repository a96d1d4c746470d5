/- Parts of the proof, one after the other: Products: Worlds of the program walked. Products: Update of the program walked. Products: Update of the program walked. Products: At of the program walked; the examples of the law. The number of trailing zeros: the library's function walked, over its table. Models: the members of a set, and Restrict of the program walked. The reference of models walked: squeeze, Members. The reference of models walked: Take. Products: the examples of the law; models as arguments. Products: the law ProductTrue walked. Products: what the law ProductKeeps asks (plain). Models: Restrict, and announcements, of the program walked. The reference of models walked: Restrict. The dynamic language: where its formulas hold (plain). The dynamic language: sets, static formulas, requests (plain). The dynamic language: which nodes are evaluated in the same model (plain; the reference's way). -/
import Derived.Test.YtlaolpkgabknfaaGreatDoorChecked
import Derived.WalkKit
import Derived.Laws.Bits64b
import Derived.Lib.TrailingZeros
import Derived.Test.YtlaolpkgabknfaaGreatDoorM7
set_option maxRecDepth 100000
set_option maxHeartbeats 4000000
namespace Go.Proofs.YtlaolpkgabknfaaGreatDoor
open Go Go.Dv

def HMA (m : Mo) (a : Act) : List (Nat × DObj) := [(0, .var (cellsM m)), (1, .var (cellsA a))]
theorem pr_Worlds (m : Mo) (a : Act) (hf : FitM m) (hfa : Fit a) (hl : a.rel.length ≤ 1000) (hp : ∀ l, l ∈ a.post → l.length ≤ 1000) : PureFn Tryz.prog 124 [m.pv, a.pv] (worldsPV (worldsI m a)) := by
  refine PureFn.introC [4, 7, 8, 16, 26] mixed (fn := Tryz.f124) rfl rfl rfl fun M w0 => ?_
  have hC := md_Check m hf
  have hK := ac_Check a (m.rel.length : Nat) (m.val.length : Nat) hfa hl hp
  rw [show PV.int .i64 ((m.rel.length : Nat) : Int) = .int .i64 ((m.rel.map rowPV).length : Nat) by rw [List.length_map], show PV.int .i64 ((m.val.length : Nat) : Int) = .int .i64 ((m.val.map u64).length : Nat) by rw [List.length_map]] at hK
  try conv=>whnf
  refine ⟨{ _x : Unit // (moI m != 0) = false }, fun _ => [(2, .ref 0 0), (3, .ref 1 0)], fun _ => 2, fun _ => HMA m a, ?_, ?_⟩
  · (try conv=>whnf);repeat' (first|(apply And.intro<;>try conv=>whnf)|(intro h;try conv=>whnf)|(refine PureFn.dcq (f := 40) rfl ?_;try conv=>whnf)|(refine ⟨_, _, hC, ?_, ?_⟩;(focus first|(refine ⟨?_, trivial⟩<;>first|exact PLe.refl _|exact PLe.nil)|exact trivial);try conv=>whnf)|fail)
    · have h9 : moaI m a = moI m := by rw [moaI, h]; rfl
      rw [worldsI, h9, h]
      exact le_worlds _
    · exact ⟨⟨(), h⟩, (by refine Wk.of ?_ ?_ rfl rfl rfl<;>repeat' (first|exact trivial|exact WkD.same _|exact WkO.same _ _ rfl|refine ⟨?_, ?_⟩|fail))⟩
  rintro ⟨_, h1⟩
  have hmo : moaI m a = actI a (m.rel.length : Int) (m.val.length : Int) := by rw [moaI, h1]; rfl
  refine ⟨{ _x : Unit // (moaI m a != 0) = false }, fun _ => [(2, .ref 0 0), (3, .ref 1 0)], fun _ => 2, fun _ => HMA m a, ?_, ?_⟩
  · (try conv=>whnf);repeat' (first|(apply And.intro<;>try conv=>whnf)|(intro h;try conv=>whnf)|(refine PureFn.dcq (f := 41) rfl ?_;try conv=>whnf)|(refine ⟨_, _, hK, ?_, ?_⟩;(focus first|(refine ⟨?_, ?_, ?_, trivial⟩<;>first|exact PLe.refl _|exact PLe.nil)|exact trivial);try conv=>whnf)|fail)
    · have h9 : (moaI m a != 0) = true := by rw [hmo]; exact h
      rw [worldsI, h9, hmo]
      exact le_worlds _
    · exact ⟨⟨(), by rw [hmo]; exact h⟩, (by refine Wk.of ?_ ?_ rfl rfl rfl<;>repeat' (first|exact trivial|exact WkD.same _|exact WkO.same _ _ rfl|refine ⟨?_, ?_⟩|fail))⟩
  rintro ⟨_, h2⟩
  have h20 : moaI m a = 0 := by simpa using h2
  obtain ⟨⟨n, hM⟩, hAc⟩ := moaI_ok h20
  have hO := actI_ok hAc
  have hn8 := hO.n8
  have hn1 := hO.n1
  have hn64 := hM.n64
  have hres : worldsI m a = bif ((pairsL m a).length : Int) == 0 then ([], 11) else (pairsL m a, 0) := by rw [worldsI, h2]; rfl
  have hpl : pairsL m a = pairsW (possP m a) a.pre.length n := by rw [pairsL, hM.nn]; rfl
  rw [hres, hpl]
  clear hres hpl
  have hph := fun (e : Nat) (he : e < a.pre.length) => pre_holds h20 he
  rw [hM.nn, Int.toNat_natCast] at hph
  generalize hpe : possP m a = p at hph ⊢
  have hN : ((a.pre.map fpv).length : Int).toNat = a.pre.length := by rw [List.length_map]; rfl
  have hz1 : List.replicate ((a.pre.map fpv).length : Int).toNat (PV.int .u64 0) = mixV a.pre.length (fun e => u64 (p e)) (fun _ => u64 0) 0 := by rw [hN]; exact mixV_rep _ _ _
  have hbig : ((a.pre.map fpv).length : Int) ≤ (big : Int) := by
    show ((a.pre.map fpv).length : Int) ≤ 4294967296
    rw [List.length_map]; omega
  have hml := mixV_len a.pre.length (fun e => u64 (p e)) (fun _ => u64 0)
  refine ⟨Unit, fun _ => [(2, .ref 0 0), (3, .ref 1 0), (8, .buf 2 (mixV a.pre.length (fun e => u64 (p e)) (fun _ => u64 0) 0).length)], fun _ => 3, fun _ => [(0, .var (cellsM m)), (1, .var (cellsA a)), (2, .arr 1 (mixV a.pre.length (fun e => u64 (p e)) (fun _ => u64 0) 0))], ?_, ?_⟩
  · (try conv=>whnf);repeat' (first|(apply And.intro<;>try conv=>whnf)|(apply Or.inl;try conv=>whnf)|fail)
    · rfl
    · exact Int.natCast_nonneg _
    · exact hbig
    refine ⟨(), ?_⟩
    (refine Wk.of ?_ ?_ rfl rfl rfl<;>repeat' (first|exact trivial|exact WkD.same _|exact WkO.same _ _ rfl|refine ⟨?_, ?_⟩|fail))
    · exact WkD.eq (congrArg (fun z : List PV => DV.buf 2 z.length) hz1)
    · exact WkO.same _ _ (congrArg (fun z => some (DObj.arr 1 z)) hz1)
  rintro ⟨⟩
  clear hz1 hN hbig
  refine ⟨Unit, fun _ => [(2, .ref 0 0), (8, .pv (.sl (mixV a.pre.length (fun e => u64 (p e)) (fun _ => u64 0) a.pre.length)))], fun _ => 3, fun _ => [(0, .var (cellsM m))], ?_, ?_⟩
  · try conv=>whnf
    refine ⟨{ i : Nat // i ≤ a.pre.length }, fun i => [(2, .ref 0 0), (3, .ref 1 0), (8, .buf 2 (mixV a.pre.length (fun e => u64 (p e)) (fun _ => u64 0) i.1).length), (38, .pv (.sl (a.pre.map fpv))), (39, .pv (i64 (a.pre.map fpv).length)), (40, .pv (i64 i.1))], fun _ => 3, fun i => [(0, .var (cellsM m)), (1, .var (cellsA a)), (2, .arr 1 (mixV a.pre.length (fun e => u64 (p e)) (fun _ => u64 0) i.1))], fun i => a.pre.length - i.1, ⟨⟨0, Nat.zero_le _⟩, (by refine Wk.of ?_ ?_ rfl rfl rfl<;>repeat' (first|exact trivial|exact WkD.same _|exact WkO.same _ _ rfl|refine ⟨?_, ?_⟩|fail))⟩, ?_⟩
    rintro ⟨i, hi⟩
    have hmi := hml i
    have hmi1 := hml (i + 1)
    (try conv=>whnf);repeat' (first|(apply And.intro<;>try conv=>whnf)|(intro h;try conv=>whnf)|(apply infoT;rfl)|fail)
    · have hi' : i < a.pre.length := by simpa using lt_dec h
      obtain ⟨f, hn, hw⟩ : ∃ f, a.pre[i]? = some f ∧ a.pre.getD i [] = f := ⟨_, getD_mem hi', rfl⟩
      obtain ⟨hh, hlt⟩ := hph i hi'
      have hH := ck_Holds m f hf
      rw [hw] at hh
      rw [hh] at hH
      have hst := mixV_set (n := a.pre.length) (p := fun e => u64 (p e)) (q := fun _ => u64 0) (e := i)
      refine ⟨_, _, rfl, idx_map hn, rfl, ?_⟩
      (try conv=>whnf);repeat' (first|(apply And.intro<;>try conv=>whnf)|(intro h;try conv=>whnf)|(refine PureFn.dcq (f := 18) rfl ?_;try conv=>whnf)|(refine ⟨_, _, hH, ?_, ?_⟩;(focus first|(refine ⟨?_, ?_, trivial⟩<;>first|exact PLe.refl _|exact PLe.nil)|exact trivial);try conv=>whnf)|fail)
      · cases h
      refine ⟨i, rfl, by rw [hmi]; exact hi', ?_⟩
      (try conv=>whnf);repeat' (first|(apply And.intro<;>try conv=>whnf)|fail)
      refine ⟨_, mixV_old hi', Nat.le_refl 1, ?_⟩
      try conv=>whnf
      refine ⟨⟨i + 1, hi'⟩, by show a.pre.length - (i + 1) < a.pre.length - i; omega, ?_⟩
      (refine Wk.of ?_ ?_ rfl rfl rfl<;>repeat' (first|exact trivial|exact WkD.same _|exact WkO.same _ _ rfl|refine WkD.int ?_|refine ⟨?_, ?_⟩|(refine wrapA ?_ ?_ ?_;(focus simp;done);(focus (try dsimp only);omega);(focus (try dsimp only);omega))|fail))
      · exact WkD.eq (congrArg (DV.buf 2) (hmi.trans hmi1.symm))
      · exact WkO.same _ _ (congrArg (fun z => some (DObj.arr 1 z)) hst)
    · have hi' : i = a.pre.length := by have := ge_dec (m := (a.pre.map fpv).length) h (by simpa using hi); simpa using this
      subst hi'
      exact ⟨(), (by refine Wk.of ?_ ?_ rfl rfl rfl<;>repeat' (first|exact trivial|exact WkD.same _|exact WkO.same _ _ rfl|exact WkD.fz _ _ _ rfl (Or.inl ⟨_, rfl⟩) rfl|refine ⟨?_, ?_⟩|fail))⟩
  rintro ⟨⟩
  have hPl : ∀ w e, w ≤ n → e ≤ a.pre.length → ((pairsB p a.pre.length w e).map pairPV).length ≤ 1000 := fun w e hw he => by
    have h1 := pairsW_len p a.pre.length w
    have h2 := pairsE_len p w e
    have h3 : w * a.pre.length ≤ 64 * 8 := Nat.mul_le_mul (by omega) hn8
    rw [List.length_map, pairsB, List.length_append]; omega
  have hmN := hml a.pre.length
  have hmnn := hM.nn
  try conv=>whnf
  refine ⟨Unit, fun _ => [(13, .pv (.sl ((pairsB p a.pre.length n 0).map pairPV)))], fun _ => 4, fun _ => [], ?_, ?_⟩
  · try conv=>whnf
    refine ⟨{ w : Nat // w ≤ n }, fun w => [(2, .ref 0 0), (8, .pv (.sl (mixV a.pre.length (fun e => u64 (p e)) (fun _ => u64 0) a.pre.length))), (13, .buf 3 ((pairsB p a.pre.length w.1 0).map pairPV).length), (14, .pv (i64 w.1))], fun _ => 4, fun w => [(0, .var (cellsM m)), (3, .arr 2 ((pairsB p a.pre.length w.1 0).map pairPV))], fun w => n - w.1, ⟨⟨0, Nat.zero_le _⟩, (by refine Wk.of ?_ ?_ rfl rfl rfl<;>repeat' (first|exact trivial|exact WkD.same _|exact WkO.same _ _ rfl|exact WkD.new' rfl rfl rfl|exact WkO.new _ _ rfl|exact rfl|refine ⟨?_, ?_⟩|fail))⟩, ?_⟩
    rintro ⟨w, hw⟩
    try conv=>whnf
    refine ⟨{ e : Nat // e ≤ a.pre.length ∧ (w = n → e = 0) }, fun e => [(2, .ref 0 0), (8, .pv (.sl (mixV a.pre.length (fun e => u64 (p e)) (fun _ => u64 0) a.pre.length))), (13, .buf 3 ((pairsB p a.pre.length w e.1).map pairPV).length), (14, .pv (i64 w)), (61, .pv (.sl (mixV a.pre.length (fun e => u64 (p e)) (fun _ => u64 0) a.pre.length))), (62, .pv (i64 (mixV a.pre.length (fun e => u64 (p e)) (fun _ => u64 0) a.pre.length).length)), (63, .pv (i64 e.1))], fun _ => 4, fun e => [(0, .var (cellsM m)), (3, .arr 2 ((pairsB p a.pre.length w e.1).map pairPV))], fun e => a.pre.length - e.1, ⟨⟨0, Nat.zero_le _, fun _ => rfl⟩, (by refine Wk.of ?_ ?_ rfl rfl rfl<;>repeat' (first|exact trivial|exact WkD.same _|exact WkO.same _ _ rfl|refine ⟨?_, ?_⟩|fail))⟩, ?_⟩
    rintro ⟨e, he, hwe⟩
    have hple := hPl w e hw he
    (try conv=>whnf);repeat' (first|(apply And.intro<;>try conv=>whnf)|(intro h;try conv=>whnf)|(apply infoT;rfl)|fail)
    · have he' : e < a.pre.length := by have := lt_dec h; rwa [hmN] at this
      obtain ⟨_, hlt⟩ := hph e he'
      have h64 : p e < 2 ^ 64 := Nat.lt_of_lt_of_le hlt (pow64_le hn64)
      have hsu := pairsB_succ p a.pre.length w e
      refine ⟨e, _, rfl, mixV_new he' he', rfl, ?_⟩
      have hb0 : w ≠ n → (andU (shrU (p e) w) 1 == 0) = !(p e).testBit w := fun hwn => bit_zero h64 (by omega)
      (try conv=>whnf);repeat' (first|(apply And.intro<;>try conv=>whnf)|(intro h;try conv=>whnf)|(apply cellsI;rfl)|(apply szI;rfl)|fail)
      · have hwn : w = n := by
          have : (w : Int) = m.n := by simpa using h
          omega
        subst hwn
        obtain rfl : e = 0 := hwe rfl
        exact ⟨(), (by refine Wk.of ?_ ?_ rfl rfl rfl<;>repeat' (first|exact trivial|exact WkD.fz _ _ _ rfl (Or.inl ⟨_, rfl⟩) rfl|refine ⟨?_, ?_⟩|fail))⟩
      · exact Int.natCast_nonneg _
      · rename_i hw9
        have hwn : w ≠ n := fun e => by
          have : ¬ (w : Int) = m.n := by simpa using hw9
          omega
        have ht : (p e).testBit w = false := by
          have : (!(p e).testBit w) = true := by rw [← hb0 hwn]; exact h
          simpa using this
        rw [ht, cond_false] at hsu
        refine ⟨⟨e + 1, he', fun q => absurd q hwn⟩, by show a.pre.length - (e + 1) < a.pre.length - e; omega, ?_⟩
        (refine Wk.of ?_ ?_ rfl rfl rfl<;>repeat' (first|exact trivial|exact WkD.same _|exact WkO.same _ _ rfl|refine WkD.int ?_|refine ⟨?_, ?_⟩|(refine wrapA ?_ ?_ ?_;(focus simp;done);(focus (try dsimp only);omega);(focus (try dsimp only);omega))|fail))
        · exact WkD.eq (congrArg (fun l : List (Nat × Nat) => DV.buf 3 (l.map pairPV).length) hsu.symm)
        · exact WkO.same _ _ (congrArg (fun l : List (Nat × Nat) => some (DObj.arr 2 (l.map pairPV))) hsu.symm)
      · exact app_big (n := 1000) hple (by decide)
      · rename_i hw9
        have hwn : w ≠ n := fun e => by
          have : ¬ (w : Int) = m.n := by simpa using hw9
          omega
        have ht : (p e).testBit w = true := by
          have : (!(p e).testBit w) = false := by rw [← hb0 hwn]; exact h
          simpa using this
        rw [ht, cond_true] at hsu
        have er : (pairsB p a.pre.length w e).map pairPV ++ [.agg [.int .i64 (w : Int), .int .i64 (e : Int)]] = (pairsB p a.pre.length w (e + 1)).map pairPV := by rw [hsu, List.map_append]; rfl
        refine ⟨⟨e + 1, he', fun q => absurd q hwn⟩, by show a.pre.length - (e + 1) < a.pre.length - e; omega, ?_⟩
        (refine Wk.of ?_ ?_ rfl rfl rfl<;>repeat' (first|exact trivial|exact WkD.same _|exact WkO.same _ _ rfl|exact WkD.eq (congrArg (fun z : List PV => DV.buf _ z.length) er)|exact WkO.same _ _ (congrArg (fun z => some (DObj.arr _ z)) er)|refine WkD.int ?_|refine ⟨?_, ?_⟩|(refine wrapA ?_ ?_ ?_;(focus simp;done);(focus (try dsimp only);omega);(focus (try dsimp only);omega))|fail))
    · have he' : e = a.pre.length := by have := ge_dec h (by rw [hmN]; exact he); rwa [hmN] at this
      have hwn : w < n := by
        rcases Nat.lt_or_ge w n with q | q
        · exact q
        · have := hwe (by omega); omega
      subst he'
      have hew : pairsB p a.pre.length w a.pre.length = pairsB p a.pre.length (w + 1) 0 := by rw [pairsB_full, pairsB_zero]
      try conv=>whnf
      refine ⟨⟨w + 1, hwn⟩, by show n - (w + 1) < n - w; omega, ?_⟩
      (refine Wk.of ?_ ?_ rfl rfl rfl<;>repeat' (first|exact trivial|exact WkD.same _|exact WkO.same _ _ rfl|refine WkD.int ?_|refine ⟨?_, ?_⟩|(refine wrapA ?_ ?_ ?_;(focus simp;done);(focus (try dsimp only);omega);(focus (try dsimp only);omega))|fail))
      · exact WkD.eq (congrArg (fun l : List (Nat × Nat) => DV.buf 3 (l.map pairPV).length) hew)
      · exact WkO.same _ _ (congrArg (fun l : List (Nat × Nat) => some (DObj.arr 2 (l.map pairPV))) hew)
  rintro ⟨⟩
  rw [← pairsB_zero]
  generalize pairsB p a.pre.length n 0 = L
  have e9 : ((L.map pairPV).length : Int) = (L.length : Int) := by simp
  (try conv=>whnf);repeat' (first|(apply And.intro<;>try conv=>whnf)|(intro h;try conv=>whnf)|fail)
  · rw [show ((L.length : Int) == 0) = true by rw [← e9]; exact h]
    exact le_worlds _
  · rw [show ((L.length : Int) == 0) = false by rw [← e9]; exact h]
    exact .refl _
end Go.Proofs.YtlaolpkgabknfaaGreatDoor
set_option maxRecDepth 100000
set_option maxHeartbeats 4000000
namespace Go.Proofs.YtlaolpkgabknfaaGreatDoor
open Go Go.Dv

def cells0 : List DV := [.pv (.int .i64 0), .pv .nil, .pv .nil]
def pairD (q : Nat × Nat) : List DV := [.pv (i64 q.1), .pv (i64 q.2)]
/-- The heap while the values of a fact are reckoned. -/
def HV (m : Mo) (a : Act) (l : List (Nat × Nat)) (vs vl : List Nat) : List (Nat × DObj) :=
  [(0, .var (cellsM m)), (1, .var (cellsA a)), (2, .var cells0), (3, .var [.pv (.sl (l.map pairPV))]), (4, .var [.pv (i64 (l.map pairPV).length), .buf 5 (vs.map u64).length, .pv .nil]), (5, .arr 1 (vs.map u64)), (7, .var [.pv (rowPV vl)])]
theorem upd2 {M : Nat → Prop} {w0 : World} (m : Mo) (a : Act) (l : List (Nat × Nat)) (vs vl : List Nat) (q : Nat × Nat) (h1 : q.1 < 64) (h2 : q.2 < vl.length) (hv : ∀ s, s ∈ vl → s < 2 ^ 64) (base : Nat) (K : DV → DH → Prop) (hK : K (.pv (.bool ((vl.getD q.2 0).testBit q.1))) ⟨8, 0, base, objsOf (HV m a l vs vl)⟩) :
    DC Tryz.prog M w0 127 [.agg (pairD q), .ref 7 0] ⟨8, 0, base, objsOf (HV m a l vs vl)⟩ K := by
  refine DC.weaken (DC.intro mixed (fn := Tryz.f127) rfl rfl rfl ?_)
  obtain ⟨x, hx, hw⟩ : ∃ x, vl[q.2]? = some x ∧ vl.getD q.2 0 = x := ⟨_, getD_mem h2, rfl⟩
  have hx64 := hv x (List.mem_iff_getElem?.2 ⟨_, hx⟩)
  rw [hw, ← bit_one hx64 h1] at hK
  (try conv=>whnf);repeat' (first|(apply And.intro<;>try conv=>whnf)|(apply infoT;rfl)|(refine lin_plan (by kernel_rfl) ?_;try conv=>whnf)|(refine ⟨_, _, rfl, idx_map (by with_reducible assumption), rfl, ?_⟩;try conv=>whnf)|fail)
  · exact Int.natCast_nonneg _
  · exact ⟨_, 8, HV m a l vs vl, (by refine Wk.of ?_ ?_ rfl rfl rfl<;>repeat' (first|exact trivial|exact WkD.same _|exact WkO.same _ _ rfl|refine ⟨?_, ?_⟩|fail)), hK⟩
/-- The heap while the relation of an agent is reckoned, of a pair. -/
def HW (m : Mo) (a : Act) (l : List (Nat × Nat)) (vs : List Nat) (rs : List (List Nat)) (i : Nat) (r : List Nat) (mx : List PV) (x : Nat × Nat) : List (Nat × DObj) :=
  [(0, .var (cellsM m)), (1, .var (cellsA a)), (2, .var cells0), (3, .var [.pv (.sl (l.map pairPV))]), (4, .var [.pv (i64 (l.map pairPV).length), .pv (rowPV vs), .buf 5 (rs.map rowPV).length]), (5, .arr 1 (rs.map rowPV)), (6, .var [.pv (i64 i)]), (7, .var [.pv (rowPV r)]), (8, .arr 1 mx), (9, .var (pairD x))]
theorem upd3 {M : Nat → Prop} {w0 : World} (m : Mo) (a : Act) (l : List (Nat × Nat)) (vs : List Nat) (rs : List (List Nat)) (i : Nat) (r : List Nat) (mx : List PV) (x q : Nat × Nat) (ra : List Nat) (hra : a.rel[i]? = some ra)
    (hx1 : x.1 < r.length) (hx2 : x.2 < ra.length) (hq1 : q.1 < 64) (hq2 : q.2 < 64) (hr : ∀ s, s ∈ r → s < 2 ^ 64) (hr2 : ∀ s, s ∈ ra → s < 2 ^ 64) (base : Nat) (K : DV → DH → Prop) (hK : K (.pv (.bool (seesP r ra x q))) ⟨10, 0, base, objsOf (HW m a l vs rs i r mx x)⟩) :
    DC Tryz.prog M w0 128 [.agg (pairD q), .ref 7 0, .ref 9 0, .ref 1 0, .ref 6 0] ⟨10, 0, base, objsOf (HW m a l vs rs i r mx x)⟩ K := by
  refine DC.weaken (DC.intro mixed (fn := Tryz.f128) rfl rfl rfl ?_)
  obtain ⟨u, hu, hw⟩ : ∃ u, r[x.1]? = some u ∧ r.getD x.1 0 = u := ⟨_, getD_mem hx1, rfl⟩
  obtain ⟨v, hv, hw2⟩ : ∃ v, ra[x.2]? = some v ∧ ra.getD x.2 0 = v := ⟨_, getD_mem hx2, rfl⟩
  have hu64 := hr u (List.mem_iff_getElem?.2 ⟨_, hu⟩)
  have hv64 := hr2 v (List.mem_iff_getElem?.2 ⟨_, hv⟩)
  rw [seesP, hw, hw2, ← bit_one hu64 hq1, ← bit_one hv64 hq2] at hK
  (try conv=>whnf);repeat' (first|(apply And.intro<;>try conv=>whnf)|(intro h;try conv=>whnf)|apply True.intro|(apply infoT;rfl)|(apply WhenQ.mk;(try conv=>whnf);rotate_left;(try conv=>whnf);rotate_right)|with_reducible assumption|(refine lin_plan (by kernel_rfl) ?_;try conv=>whnf)|(refine ⟨_, _, rfl, idx_map (by with_reducible assumption), rfl, ?_⟩;try conv=>whnf)|fail)
  · exact Int.natCast_nonneg _
  · exact Int.natCast_nonneg _
  · exact ⟨_, 10, HW m a l vs rs i r mx x, (by refine Wk.of ?_ ?_ rfl rfl rfl<;>repeat' (first|exact trivial|exact WkD.same _|exact WkO.same _ _ rfl|refine ⟨?_, ?_⟩|fail)), hK⟩
theorem whr_V {M : Nat → Prop} {w0 : World} (m : Mo) (a : Act) (l : List (Nat × Nat)) (vs vl : List Nat) (hlp : ∀ y, y ∈ l → y.1 < 64 ∧ y.2 < vl.length) (hv : ∀ s, s ∈ vl → s < 2 ^ 64) (hl : l.length ≤ 64) (base : Nat) (K : DV → DH → Prop) (hK : K (.pv (u64 (maskOf (fun k => (fun q : Nat × Nat => (vl.getD q.2 0).testBit q.1) (l.getD k (0, 0))) l.length))) ⟨8, 0, base, objsOf (HV m a l vs vl)⟩) :
    DC Tryz.prog M w0 125 [.clo 127 [] [.ref 7 0], .ref 3 0] ⟨8, 0, base, objsOf (HV m a l vs vl)⟩ K := by
  refine DC.weaken (DC.intro mixed (fn := Tryz.f125) rfl rfl rfl ?_)
  try conv=>whnf
  refine ⟨{ i : Nat // i ≤ l.length }, fun i => [(0, .clo 127 [] [.ref 7 0]), (4, .pv (u64 (maskOf (fun k => (fun q : Nat × Nat => (vl.getD q.2 0).testBit q.1) (l.getD k (0, 0))) i.1))), (7, .pv (.sl (l.map pairPV))), (8, .pv (i64 (l.map pairPV).length)), (9, .pv (i64 i.1))], fun _ => 8, fun _ => HV m a l vs vl, fun i => l.length - i.1, ⟨⟨0, Nat.zero_le _⟩, (by refine Wk.of ?_ ?_ rfl rfl rfl<;>repeat' (first|exact trivial|exact WkD.same _|exact WkO.same _ _ rfl|refine ⟨?_, ?_⟩|fail))⟩, ?_⟩
  rintro ⟨j, hj⟩
  (try conv=>whnf);repeat' (first|(apply And.intro<;>try conv=>whnf)|(intro h;try conv=>whnf)|(apply infoT;rfl)|fail)
  · have hj' : j < l.length := by simpa using lt_dec h
    obtain ⟨y, hy, hyw⟩ : ∃ y, l[j]? = some y ∧ l.getD j (0, 0) = y := ⟨_, getD_mem hj', rfl⟩
    have hym : y ∈ l := List.mem_iff_getElem?.2 ⟨j, hy⟩
    refine ⟨_, _, rfl, idx_map hy, rfl, ?_⟩
    try conv=>whnf
    refine DC.call 8 (HV m a l vs vl) ⟨rfl, rfl, rfl, rfl, rfl, rfl, rfl, rfl, trivial⟩ rfl rfl rfl rfl fun M' => ?_
    refine upd2 m a l vs vl y (hlp y hym).1 (hlp y hym).2 hv _ _ ?_
    refine ⟨rfl, ?_⟩
    (try conv=>whnf);repeat' (first|(apply And.intro<;>try conv=>whnf)|(intro h;try conv=>whnf)|fail)
    · exact Int.natCast_nonneg _
    · have hq : (fun q : Nat × Nat => (vl.getD q.2 0).testBit q.1) (l.getD j (0, 0)) = true := by rw [hyw]; exact h
      refine ⟨⟨j + 1, hj'⟩, by show l.length - (j + 1) < l.length - j; omega, ?_⟩
      (refine Wk.of ?_ ?_ rfl rfl rfl<;>repeat' (first|exact trivial|exact WkD.same _|exact WkO.same _ _ rfl|refine WkD.int ?_|refine ⟨?_, ?_⟩|(refine wrapA ?_ ?_ ?_;(focus simp;done);(focus (try dsimp only);omega);(focus (try dsimp only);omega))|fail))
      exact or_shl (q := fun k => (fun q : Nat × Nat => (vl.getD q.2 0).testBit q.1) (l.getD k (0, 0))) (w := j) (by omega) hq
    · have hq : (fun q : Nat × Nat => (vl.getD q.2 0).testBit q.1) (l.getD j (0, 0)) = false := by rw [hyw]; exact h
      refine ⟨⟨j + 1, hj'⟩, by show l.length - (j + 1) < l.length - j; omega, ?_⟩
      (refine Wk.of ?_ ?_ rfl rfl rfl<;>repeat' (first|exact trivial|exact WkD.same _|exact WkO.same _ _ rfl|refine WkD.int ?_|refine ⟨?_, ?_⟩|(refine wrapA ?_ ?_ ?_;(focus simp;done);(focus (try dsimp only);omega);(focus (try dsimp only);omega))|fail))
      exact congrArg (fun z : Nat => (z : Int)) (mask_no (q := fun k => (fun q : Nat × Nat => (vl.getD q.2 0).testBit q.1) (l.getD k (0, 0))) hq)
  · have hj' : j = l.length := by have := ge_dec (m := (l.map pairPV).length) h (by simpa using hj); simpa using this
    subst hj'
    exact ⟨_, 8, HV m a l vs vl, (by refine Wk.of ?_ ?_ rfl rfl rfl<;>repeat' (first|exact trivial|exact WkD.same _|exact WkO.same _ _ rfl|refine ⟨?_, ?_⟩|fail)), hK⟩
theorem whr_W {M : Nat → Prop} {w0 : World} (m : Mo) (a : Act) (l : List (Nat × Nat)) (vs : List Nat) (rs : List (List Nat)) (i : Nat) (r : List Nat) (mx : List PV) (x : Nat × Nat) (ra : List Nat) (hra : a.rel[i]? = some ra) (hx1 : x.1 < r.length) (hx2 : x.2 < ra.length) (hlp : ∀ y, y ∈ l → y.1 < 64 ∧ y.2 < 64) (hr : ∀ s, s ∈ r → s < 2 ^ 64) (hr2 : ∀ s, s ∈ ra → s < 2 ^ 64) (hl : l.length ≤ 64) (base : Nat) (K : DV → DH → Prop) (hK : K (.pv (u64 (maskOf (fun k => (fun q : Nat × Nat => seesP r ra x q) (l.getD k (0, 0))) l.length))) ⟨10, 0, base, objsOf (HW m a l vs rs i r mx x)⟩) :
    DC Tryz.prog M w0 125 [.clo 128 [] [.ref 7 0, .ref 9 0, .ref 1 0, .ref 6 0], .ref 3 0] ⟨10, 0, base, objsOf (HW m a l vs rs i r mx x)⟩ K := by
  refine DC.weaken (DC.intro mixed (fn := Tryz.f125) rfl rfl rfl ?_)
  try conv=>whnf
  refine ⟨{ i : Nat // i ≤ l.length }, fun i => [(0, .clo 128 [] [.ref 7 0, .ref 9 0, .ref 1 0, .ref 6 0]), (4, .pv (u64 (maskOf (fun k => (fun q : Nat × Nat => seesP r ra x q) (l.getD k (0, 0))) i.1))), (7, .pv (.sl (l.map pairPV))), (8, .pv (i64 (l.map pairPV).length)), (9, .pv (i64 i.1))], fun _ => 10, fun _ => HW m a l vs rs i r mx x, fun i => l.length - i.1, ⟨⟨0, Nat.zero_le _⟩, (by refine Wk.of ?_ ?_ rfl rfl rfl<;>repeat' (first|exact trivial|exact WkD.same _|exact WkO.same _ _ rfl|refine ⟨?_, ?_⟩|fail))⟩, ?_⟩
  rintro ⟨j, hj⟩
  (try conv=>whnf);repeat' (first|(apply And.intro<;>try conv=>whnf)|(intro h;try conv=>whnf)|(apply infoT;rfl)|fail)
  · have hj' : j < l.length := by simpa using lt_dec h
    obtain ⟨y, hy, hyw⟩ : ∃ y, l[j]? = some y ∧ l.getD j (0, 0) = y := ⟨_, getD_mem hj', rfl⟩
    have hym : y ∈ l := List.mem_iff_getElem?.2 ⟨j, hy⟩
    refine ⟨_, _, rfl, idx_map hy, rfl, ?_⟩
    try conv=>whnf
    refine DC.call 10 (HW m a l vs rs i r mx x) ⟨rfl, rfl, rfl, rfl, rfl, rfl, rfl, rfl, rfl, rfl, trivial⟩ rfl rfl rfl rfl fun M' => ?_
    refine upd3 m a l vs rs i r mx x y ra hra hx1 hx2 (hlp y hym).1 (hlp y hym).2 hr hr2 _ _ ?_
    refine ⟨rfl, ?_⟩
    (try conv=>whnf);repeat' (first|(apply And.intro<;>try conv=>whnf)|(intro h;try conv=>whnf)|fail)
    · exact Int.natCast_nonneg _
    · have hq : (fun q : Nat × Nat => seesP r ra x q) (l.getD j (0, 0)) = true := by rw [hyw]; exact h
      refine ⟨⟨j + 1, hj'⟩, by show l.length - (j + 1) < l.length - j; omega, ?_⟩
      (refine Wk.of ?_ ?_ rfl rfl rfl<;>repeat' (first|exact trivial|exact WkD.same _|exact WkO.same _ _ rfl|refine WkD.int ?_|refine ⟨?_, ?_⟩|(refine wrapA ?_ ?_ ?_;(focus simp;done);(focus (try dsimp only);omega);(focus (try dsimp only);omega))|fail))
      exact or_shl (q := fun k => (fun q : Nat × Nat => seesP r ra x q) (l.getD k (0, 0))) (w := j) (by omega) hq
    · have hq : (fun q : Nat × Nat => seesP r ra x q) (l.getD j (0, 0)) = false := by rw [hyw]; exact h
      refine ⟨⟨j + 1, hj'⟩, by show l.length - (j + 1) < l.length - j; omega, ?_⟩
      (refine Wk.of ?_ ?_ rfl rfl rfl<;>repeat' (first|exact trivial|exact WkD.same _|exact WkO.same _ _ rfl|refine WkD.int ?_|refine ⟨?_, ?_⟩|(refine wrapA ?_ ?_ ?_;(focus simp;done);(focus (try dsimp only);omega);(focus (try dsimp only);omega))|fail))
      exact congrArg (fun z : Nat => (z : Int)) (mask_no (q := fun k => (fun q : Nat × Nat => seesP r ra x q) (l.getD k (0, 0))) hq)
  · have hj' : j = l.length := by have := ge_dec (m := (l.map pairPV).length) h (by simpa using hj); simpa using this
    subst hj'
    exact ⟨_, 10, HW m a l vs rs i r mx x, (by refine Wk.of ?_ ?_ rfl rfl rfl<;>repeat' (first|exact trivial|exact WkD.same _|exact WkO.same _ _ rfl|refine ⟨?_, ?_⟩|fail)), hK⟩
end Go.Proofs.YtlaolpkgabknfaaGreatDoor
set_option maxRecDepth 100000
set_option maxHeartbeats 4000000
namespace Go.Proofs.YtlaolpkgabknfaaGreatDoor
open Go Go.Dv

def vsU (m : Mo) (a : Act) (l : List (Nat × Nat)) (i : Nat) : List Nat := (List.range i).map (valP m a l)
def rsU (m : Mo) (a : Act) (l : List (Nat × Nat)) (i : Nat) : List (List Nat) := (List.range i).map (relP m a l)
theorem vsU_succ (m : Mo) (a : Act) (l : List (Nat × Nat)) (i : Nat) : vsU m a l (i + 1) = vsU m a l i ++ [valP m a l i] := by rw [vsU, List.range_succ, List.map_append]; rfl
theorem rsU_succ (m : Mo) (a : Act) (l : List (Nat × Nat)) (i : Nat) : rsU m a l (i + 1) = rsU m a l i ++ [relP m a l i] := by rw [rsU, List.range_succ, List.map_append]; rfl
def vlU (m : Mo) (a : Act) (i : Nat) : List Nat := (List.range a.pre.length).map fun e => valuP m a e i
theorem vlU_get {m : Mo} {a : Act} {i e : Nat} (h : e < a.pre.length) : (vlU m a i).getD e 0 = valuP m a e i := by
  rw [vlU, List.getD_eq_getElem?_getD, List.getElem?_map, List.getElem?_range h]; rfl
def updPlan : Plan := .one 2 (.one 3 (.two 0 (.two 1 (.one 4 (.one 5 (.one 6 (.one 7 (.one 8 .done))))) 4 (.one 1 (.one 5 (.one 6 (.one 7 (.one 8 .done)))))) 4 (.one 0 (.one 1 (.one 5 (.one 6 (.one 7 (.one 8 .done))))))))
theorem pr_Update (m : Mo) (a : Act) (hf : FitM m) (hfa : Fit a) (hl : a.rel.length ≤ 1000) (hp : ∀ l, l ∈ a.post → l.length ≤ 1000) : PureFn Tryz.prog 82 [m.pv, a.pv] (updPV (updI m a)) := by
  refine PureFn.introC [4, 6, 20, 22, 31, 33] mixed (fn := Tryz.f82) rfl rfl rfl fun M w0 => ?_
  have hW := pr_Worlds m a hf hfa hl hp
  obtain ⟨l, e, hX⟩ : ∃ l e, worldsI m a = (l, e) := ⟨_, _, rfl⟩
  have hwo := worldsI_ok (m := m) (a := a)
  rw [updI]
  rw [hX] at hW hwo ⊢
  clear hX
  have e9 : ((l.map pairPV).length : Int) = (l.length : Int) := by simp
  (try conv=>whnf);repeat' (first|(refine PureFn.dcq (f := 124) rfl ?_;try conv=>whnf)|(refine ⟨_, _, hW, ?_, ?_⟩;(focus first|(refine ⟨?_, ?_, trivial⟩<;>first|exact PLe.refl _|exact PLe.nil)|exact trivial);try conv=>whnf)|fail)
  refine ⟨{ _x : Unit // (e != 0) = false }, fun _ => [(2, .ref 0 0), (3, .ref 1 0), (4, .ref 2 0), (7, .ref 3 0)], fun _ => 4, fun _ => [(0, .var (cellsM m)), (1, .var (cellsA a)), (2, .var cells0), (3, .var [.pv (.sl (l.map pairPV))])], ?_, ?_⟩
  · (try conv=>whnf);repeat' (first|(apply And.intro<;>try conv=>whnf)|(intro h;try conv=>whnf)|fail)
    · rw [show (((l, e) : List (Nat × Nat) × Int).2 != 0) = true from h]; exact le_upd _
    · exact ⟨⟨(), h⟩, (by refine Wk.of ?_ ?_ rfl rfl rfl<;>repeat' (first|exact trivial|exact WkD.same _|exact WkO.same _ _ rfl|refine ⟨?_, ?_⟩|fail))⟩
  rintro ⟨_, h1⟩
  obtain ⟨hma, hpl, hl1⟩ := hwo (show e = 0 by simpa using h1)
  obtain ⟨⟨n, hM⟩, hAc⟩ := moaI_ok hma
  have hO := actI_ok hAc
  have hn8 := hO.n8
  have hn64 := hM.n64
  have hfa8 := hM.fa
  have hag := hM.ag
  have hpl : l = pairsL m a := hpl
  have hmem : ∀ y, y ∈ l → y.1 < n ∧ y.2 < a.pre.length := fun y hy => by
    rw [hpl, pairsL, hM.nn] at hy
    have := pairsW_mem.1 hy
    exact ⟨this.1, this.2.1⟩
  clear hpl hl1
  refine ⟨{ _x : Unit // decide ((l.length : Int) > 64) = false }, fun _ => [(2, .ref 0 0), (3, .ref 1 0), (4, .ref 2 0), (7, .ref 3 0)], fun _ => 4, fun _ => [(0, .var (cellsM m)), (1, .var (cellsA a)), (2, .var cells0), (3, .var [.pv (.sl (l.map pairPV))])], ?_, ?_⟩
  · (try conv=>whnf);repeat' (first|(apply And.intro<;>try conv=>whnf)|(intro h;try conv=>whnf)|fail)
    · have h9 : decide ((l.length : Int) > 64) = true := by rw [← e9]; exact h
      rw [show (((l, e) : List (Nat × Nat) × Int).2 != 0) = false from h1, show decide ((((l, e) : List (Nat × Nat) × Int).1.length : Int) > 64) = true from h9]
      exact le_upd _
    · exact ⟨⟨(), by rw [← e9]; exact h⟩, (by refine Wk.of ?_ ?_ rfl rfl rfl<;>repeat' (first|exact trivial|exact WkD.same _|exact WkO.same _ _ rfl|refine ⟨?_, ?_⟩|fail))⟩
  rintro ⟨_, h2⟩
  have hl64 : l.length ≤ 64 := by have := of_decide_eq_false h2; omega
  have hres : (bif (((l, e) : List (Nat × Nat) × Int).2 != 0) then (noMo, ([] : List (Nat × Nat)), ((l, e) : List (Nat × Nat) × Int).2) else bif decide ((((l, e) : List (Nat × Nat) × Int).1.length : Int) > 64) then (noMo, [], 8) else (prodM m a ((l, e) : List (Nat × Nat) × Int).1, ((l, e) : List (Nat × Nat) × Int).1, (0 : Int))) = (prodM m a l, l, 0) := by
    rw [show (((l, e) : List (Nat × Nat) × Int).2 != 0) = false from h1, show decide ((((l, e) : List (Nat × Nat) × Int).1.length : Int) > 64) = false from h2]; rfl
  rw [hres]
  clear hres
  try conv=>whnf
  refine ⟨Unit, fun _ => [(2, .ref 0 0), (3, .ref 1 0), (4, .ref 2 0), (7, .ref 3 0), (9, .clo 125 [] [.ref 3 0]), (10, .ref 4 0)], fun _ => 5, fun _ => [(0, .var (cellsM m)), (1, .var (cellsA a)), (2, .var cells0), (3, .var [.pv (.sl (l.map pairPV))]), (4, .var [.pv (i64 (l.map pairPV).length), .pv (rowPV (vsU m a l m.val.length)), .pv .nil])], ?_, ?_⟩
  · try conv=>whnf
    refine ⟨{ i : Nat // i ≤ m.val.length }, fun i => [(2, .ref 0 0), (3, .ref 1 0), (4, .ref 2 0), (7, .ref 3 0), (9, .clo 125 [] [.ref 3 0]), (10, .ref 4 0), (41, .pv (i64 (m.val.map u64).length)), (42, .pv (i64 i.1))], fun _ => 6, fun i => [(0, .var (cellsM m)), (1, .var (cellsA a)), (2, .var cells0), (3, .var [.pv (.sl (l.map pairPV))]), (4, .var [.pv (i64 (l.map pairPV).length), .buf 5 ((vsU m a l i.1).map u64).length, .pv .nil]), (5, .arr 1 ((vsU m a l i.1).map u64))], fun i => m.val.length - i.1, ⟨⟨0, Nat.zero_le _⟩, (by refine Wk.of ?_ ?_ rfl rfl rfl<;>repeat' (first|exact trivial|exact WkD.same _|exact WkO.same _ _ rfl|exact WkD.new' rfl rfl rfl|exact WkO.new _ _ rfl|refine WkO.vars rfl ?_|exact rfl|refine ⟨?_, ?_⟩|fail))⟩, ?_⟩
    rintro ⟨i, hi⟩
    (try conv=>whnf);repeat' (first|(apply And.intro<;>try conv=>whnf)|(intro h;try conv=>whnf)|(apply Or.inl;try conv=>whnf)|fail)
    · rfl
    · exact Int.natCast_nonneg _
    · show ((a.pre.map fpv).length : Int) ≤ 4294967296
      rw [List.length_map]; omega
    · have hi' : i < m.val.length := by simpa using lt_dec h
      have hN : ((a.pre.map fpv).length : Int).toNat = a.pre.length := by rw [List.length_map]; rfl
      have hz1 : List.replicate ((a.pre.map fpv).length : Int).toNat (PV.int .u64 0) = (mixV a.pre.length (fun e => u64 (valuP m a e i)) (fun _ => u64 0) 0) := by rw [hN]; exact mixV_rep _ _ _
      have hmlv := mixV_len a.pre.length (fun e => u64 (valuP m a e i)) (fun _ => u64 0)
      refine ⟨Unit, fun _ => [(2, .ref 0 0), (3, .ref 1 0), (4, .ref 2 0), (7, .ref 3 0), (9, .clo 125 [] [.ref 3 0]), (10, .ref 4 0), (12, .ref 7 0), (41, .pv (i64 (m.val.map u64).length)), (42, .pv (i64 i))], fun _ => 8, fun _ => [(0, .var (cellsM m)), (1, .var (cellsA a)), (2, .var cells0), (3, .var [.pv (.sl (l.map pairPV))]), (4, .var [.pv (i64 (l.map pairPV).length), .buf 5 ((vsU m a l i).map u64).length, .pv .nil]), (5, .arr 1 ((vsU m a l i).map u64)), (7, .var [.pv (.sl (mixV a.pre.length (fun e => u64 (valuP m a e i)) (fun _ => u64 0) a.pre.length))])], ?_, ?_⟩
      · try conv=>whnf
        refine ⟨{ k : Nat // k ≤ a.pre.length }, fun k => [(2, .ref 0 0), (3, .ref 1 0), (4, .ref 2 0), (7, .ref 3 0), (9, .clo 125 [] [.ref 3 0]), (10, .ref 4 0), (11, .pv (i64 i)), (12, .ref 7 0), (41, .pv (i64 (m.val.map u64).length)), (42, .pv (i64 i)), (50, .pv (i64 a.pre.length)), (51, .pv (i64 k.1))], fun _ => 8, fun k => [(0, .var (cellsM m)), (1, .var (cellsA a)), (2, .var cells0), (3, .var [.pv (.sl (l.map pairPV))]), (4, .var [.pv (i64 (l.map pairPV).length), .buf 5 ((vsU m a l i).map u64).length, .pv .nil]), (5, .arr 1 ((vsU m a l i).map u64)), (6, .arr 1 (mixV a.pre.length (fun e => u64 (valuP m a e i)) (fun _ => u64 0) k.1)), (7, .var [.buf 6 (mixV a.pre.length (fun e => u64 (valuP m a e i)) (fun _ => u64 0) k.1).length])], fun k => a.pre.length - k.1, ⟨⟨0, Nat.zero_le _⟩, ?_⟩, ?_⟩
        · (refine Wk.of ?_ ?_ rfl rfl rfl<;>repeat' (first|exact trivial|exact WkD.same _|exact WkO.same _ _ rfl|refine WkD.int ?_|refine WkO.vars rfl ?_|refine ⟨?_, ?_⟩|fail))
          · exact congrArg (fun z : Nat => (z : Int)) ((List.length_replicate ..).trans hN)
          · exact WkO.same _ _ (congrArg (fun z => some (DObj.arr 1 z)) hz1)
          · exact WkD.eq (congrArg (fun z : List PV => DV.buf 6 z.length) hz1)
        rintro ⟨k, hk⟩
        have hmk := hmlv k
        have hmk1 := hmlv (k + 1)
        have hst := mixV_set (n := a.pre.length) (p := fun e => u64 (valuP m a e i)) (q := fun _ => u64 0) (e := k)
        (try conv=>whnf);repeat' (first|(apply And.intro<;>try conv=>whnf)|(intro h;try conv=>whnf)|fail)
        · have hk' : k < a.pre.length := lt_dec h
          have hV := ac_Value a k i hfa hl hp
          have hv0 := valI_ok hma hk' hi'
          obtain ⟨g, hg⟩ : ∃ g, valI a k i = (g, 0) := ⟨(valI a k i).1, Prod.ext rfl hv0⟩
          rw [hg] at hV
          have hH := ck_Holds m g hf
          have hvp : (holdsI m g).1 = valuP m a k i := by rw [valuP, hg]
          obtain ⟨z, hz⟩ : ∃ z, holdsI m g = (valuP m a k i, z) := ⟨(holdsI m g).2, Prod.ext hvp rfl⟩
          rw [hz] at hH
          (try conv=>whnf);repeat' (first|(apply And.intro<;>try conv=>whnf)|(intro h;try conv=>whnf)|(refine PureFn.dcq (f := 126) rfl ?_;try conv=>whnf)|(refine ⟨_, _, hV, ?_, ?_⟩;(focus first|(refine ⟨?_, ?_, ?_, trivial⟩<;>first|exact PLe.refl _|exact PLe.nil)|exact trivial);try conv=>whnf)|fail)
          · cases h
          refine ⟨Plan.lin 0 10, [9], by kernel_rfl, ?_⟩
          (try conv=>whnf);repeat' (first|(apply And.intro<;>try conv=>whnf)|(refine ⟨_, (by (conv=>whnf);exact hH), rfl, ?_⟩;try conv=>whnf)|fail)
          refine ⟨k, rfl, by rw [hmk]; exact hk', ?_⟩
          (try conv=>whnf);repeat' (first|(apply And.intro<;>try conv=>whnf)|fail)
          refine ⟨_, mixV_old hk', Nat.le_refl 1, ?_⟩
          try conv=>whnf
          refine ⟨⟨k + 1, hk'⟩, by show a.pre.length - (k + 1) < a.pre.length - k; omega, ?_⟩
          (refine Wk.of ?_ ?_ rfl rfl rfl<;>repeat' (first|exact trivial|exact WkD.same _|exact WkO.same _ _ rfl|refine WkD.int ?_|refine WkO.vars rfl ?_|refine ⟨?_, ?_⟩|(refine wrapA ?_ ?_ ?_;(focus simp;done);(focus (try dsimp only);omega);(focus (try dsimp only);omega))|fail))
          · exact WkO.same _ _ (congrArg (fun z => some (DObj.arr 1 z)) hst)
          · exact WkD.eq (congrArg (DV.buf 6) (hmk.trans hmk1.symm))
        · have hk' : k = a.pre.length := ge_dec h hk
          subst hk'
          exact ⟨(), (by refine Wk.of ?_ ?_ rfl rfl rfl<;>repeat' (first|exact trivial|exact WkD.same _|exact WkO.same _ _ rfl|exact WkD.fz _ _ _ rfl (Or.inl ⟨_, rfl⟩) rfl|refine WkO.vars rfl ?_|refine ⟨?_, ?_⟩|fail))⟩
      rintro ⟨⟩
      have hvl : (mixV a.pre.length (fun e => u64 (valuP m a e i)) (fun _ => u64 0) a.pre.length) = (vlU m a i).map u64 := by rw [mixV_full, vlU, List.map_map]; rfl
      have hlv : (vlU m a i).length = a.pre.length := by simp [vlU]
      have hv64 : ∀ s, s ∈ vlU m a i → s < 2 ^ 64 := fun s hs => by
        obtain ⟨e, _, rfl⟩ := List.mem_map.1 hs
        exact Nat.lt_of_lt_of_le (holds_lt n hM) (pow64_le hn64)
      have hmk : maskOf (fun k => ((vlU m a i).getD (l.getD k (0, 0)).2 0).testBit (l.getD k (0, 0)).1) l.length = valP m a l i := maskOf_congr fun k hk => by
        rw [vlU_get (hmem _ (List.mem_iff_getElem?.2 ⟨k, getD_mem hk⟩)).2]
      have hvs := vsU_succ m a l i
      have hvsl : ((vsU m a l i).map u64).length ≤ 1000 := by simp [vsU]; omega
      rw [hvl]
      try conv=>whnf
      have er : (vsU m a l i).map u64 ++ [PV.int .u64 ((valP m a l i : Nat) : Int)] = (vsU m a l (i + 1)).map u64 := by rw [hvs, List.map_append]; rfl
      have hlpV : ∀ y, y ∈ l → y.1 < 64 ∧ y.2 < (vlU m a i).length := fun y hy => ⟨by have := (hmem y hy).1; omega, by rw [hlv]; exact (hmem y hy).2⟩
      refine ⟨updPlan, [4, 6, 8], by kernel_rfl, ?_⟩
      (try conv=>whnf);repeat' (first|(apply And.intro<;>try conv=>whnf)|fail)
      all_goals (refine whr_V m a l (vsU m a l i) (vlU m a i) hlpV hv64 hl64 _ _ ?_)
      all_goals (rw [hmk])
      all_goals ((try conv=>whnf);repeat' (first|(apply And.intro<;>try conv=>whnf)|(apply cellsI;rfl)|(apply szI;rfl)|fail))
      · exact app_big (n := 1000) hvsl (by decide)
      · refine ⟨⟨i + 1, hi'⟩, by show m.val.length - (i + 1) < m.val.length - i; omega, ?_⟩
        (refine Wk.of ?_ ?_ rfl rfl rfl<;>repeat' (first|exact trivial|exact WkD.same _|exact WkO.same _ _ rfl|exact WkD.eq (congrArg (fun z : List PV => DV.buf _ z.length) er)|exact WkO.same _ _ (congrArg (fun z => some (DObj.arr _ z)) er)|refine WkD.int ?_|refine WkO.vars rfl ?_|refine ⟨?_, ?_⟩|(refine wrapA ?_ ?_ ?_;(focus simp;done);(focus (try dsimp only);omega);(focus (try dsimp only);omega))|fail))
      · exact app_big (n := 1000) hvsl (by decide)
      · refine ⟨⟨i + 1, hi'⟩, by show m.val.length - (i + 1) < m.val.length - i; omega, ?_⟩
        (refine Wk.of ?_ ?_ rfl rfl rfl<;>repeat' (first|exact trivial|exact WkD.same _|exact WkO.same _ _ rfl|exact WkD.eq (congrArg (fun z : List PV => DV.buf _ z.length) er)|exact WkO.same _ _ (congrArg (fun z => some (DObj.arr _ z)) er)|refine WkD.int ?_|refine WkO.vars rfl ?_|refine ⟨?_, ?_⟩|(refine wrapA ?_ ?_ ?_;(focus simp;done);(focus (try dsimp only);omega);(focus (try dsimp only);omega))|fail))
      · exact app_big (n := 1000) hvsl (by decide)
      · refine ⟨⟨i + 1, hi'⟩, by show m.val.length - (i + 1) < m.val.length - i; omega, ?_⟩
        (refine Wk.of ?_ ?_ rfl rfl rfl<;>repeat' (first|exact trivial|exact WkD.same _|exact WkO.same _ _ rfl|exact WkD.eq (congrArg (fun z : List PV => DV.buf _ z.length) er)|exact WkO.same _ _ (congrArg (fun z => some (DObj.arr _ z)) er)|refine WkD.int ?_|refine WkO.vars rfl ?_|refine ⟨?_, ?_⟩|(refine wrapA ?_ ?_ ?_;(focus simp;done);(focus (try dsimp only);omega);(focus (try dsimp only);omega))|fail))
    · have hi' : i = m.val.length := by have := ge_dec (m := (m.val.map u64).length) h (by simpa using hi); simpa using this
      subst hi'
      exact ⟨(), (by refine Wk.of ?_ ?_ rfl rfl rfl<;>repeat' (first|exact trivial|exact WkD.same _|exact WkO.same _ _ rfl|exact WkD.fz _ _ _ rfl (Or.inl ⟨_, rfl⟩) rfl|refine WkO.vars rfl ?_|refine ⟨?_, ?_⟩|fail))⟩
  rintro ⟨⟩
  generalize hVS : (vsU m a l m.val.length) = vs
  refine ⟨Unit, fun _ => [(4, .ref 2 0), (7, .ref 3 0), (10, .ref 4 0)], fun _ => 5, fun _ => [(2, .var cells0), (3, .var [.pv (.sl (l.map pairPV))]), (4, .var [.pv (i64 (l.map pairPV).length), .pv (rowPV vs), .pv (.sl ((rsU m a l m.rel.length).map rowPV))])], ?_, ?_⟩
  · try conv=>whnf
    refine ⟨{ i : Nat // i ≤ m.rel.length }, fun i => [(2, .ref 0 0), (3, .ref 1 0), (4, .ref 2 0), (7, .ref 3 0), (9, .clo 125 [] [.ref 3 0]), (10, .ref 4 0), (85, .pv (.sl (m.rel.map rowPV))), (86, .pv (i64 (m.rel.map rowPV).length)), (87, .pv (i64 i.1))], fun _ => 6, fun i => [(0, .var (cellsM m)), (1, .var (cellsA a)), (2, .var cells0), (3, .var [.pv (.sl (l.map pairPV))]), (4, .var [.pv (i64 (l.map pairPV).length), .pv (rowPV vs), .buf 5 ((rsU m a l i.1).map rowPV).length]), (5, .arr 1 ((rsU m a l i.1).map rowPV))], fun i => m.rel.length - i.1, ⟨⟨0, Nat.zero_le _⟩, (by refine Wk.of ?_ ?_ rfl rfl rfl<;>repeat' (first|exact trivial|exact WkD.same _|exact WkO.same _ _ rfl|exact WkD.new' rfl rfl rfl|exact WkO.new _ _ rfl|refine WkO.vars rfl ?_|exact rfl|refine ⟨?_, ?_⟩|fail))⟩, ?_⟩
    rintro ⟨i, hi⟩
    (try conv=>whnf);repeat' (first|(apply And.intro<;>try conv=>whnf)|(intro h;try conv=>whnf)|(apply infoT;rfl)|fail)
    · have hi' : i < m.rel.length := by simpa using lt_dec h
      obtain ⟨r, hr, hrw⟩ : ∃ r, m.rel[i]? = some r ∧ m.rel.getD i [] = r := ⟨_, getD_mem hi', rfl⟩
      have hrm : r ∈ m.rel := List.mem_iff_getElem?.2 ⟨i, hr⟩
      have hrl := hM.rows r hrm
      have hrb := hf.2 r hrm
      obtain ⟨ra, hra, hraw⟩ : ∃ r, a.rel[i]? = some r ∧ a.rel.getD i [] = r := ⟨_, getD_mem (by have := hO.ags; omega), rfl⟩
      have hram : ra ∈ a.rel := List.mem_iff_getElem?.2 ⟨i, hra⟩
      have hral := hO.rows ra hram
      have hrab := hfa ra hram
      have hN : ((l.map pairPV).length : Int).toNat = l.length := by rw [List.length_map]; rfl
      have hz1 : List.replicate ((l.map pairPV).length : Int).toNat (PV.int .u64 0) = (mixV l.length (fun k => u64 (rowP r ra l (l.getD k (0, 0)))) (fun _ => u64 0) 0) := by rw [hN]; exact mixV_rep _ _ _
      have hmlv := mixV_len l.length (fun k => u64 (rowP r ra l (l.getD k (0, 0)))) (fun _ => u64 0)
      refine ⟨_, _, rfl, idx_map hr, rfl, ?_⟩
      (try conv=>whnf);repeat' (first|(apply And.intro<;>try conv=>whnf)|(apply Or.inl;try conv=>whnf)|fail)
      · rfl
      · exact Int.natCast_nonneg _
      · show ((l.map pairPV).length : Int) ≤ 4294967296
        rw [List.length_map]; omega
      refine ⟨Unit, fun _ => [(2, .ref 0 0), (3, .ref 1 0), (4, .ref 2 0), (7, .ref 3 0), (9, .clo 125 [] [.ref 3 0]), (10, .ref 4 0), (18, .pv (.sl (mixV l.length (fun k => u64 (rowP r ra l (l.getD k (0, 0)))) (fun _ => u64 0) l.length))), (85, .pv (.sl (m.rel.map rowPV))), (86, .pv (i64 (m.rel.map rowPV).length)), (87, .pv (i64 i))], fun _ => 6, fun _ => [(0, .var (cellsM m)), (1, .var (cellsA a)), (2, .var cells0), (3, .var [.pv (.sl (l.map pairPV))]), (4, .var [.pv (i64 (l.map pairPV).length), .pv (rowPV vs), .buf 5 ((rsU m a l i).map rowPV).length]), (5, .arr 1 ((rsU m a l i).map rowPV))], ?_, ?_⟩
      · try conv=>whnf
        refine ⟨{ k : Nat // k ≤ l.length }, fun k => [(2, .ref 0 0), (3, .ref 1 0), (4, .ref 2 0), (7, .ref 3 0), (9, .clo 125 [] [.ref 3 0]), (10, .ref 4 0), (16, .ref 6 0), (17, .ref 7 0), (18, .buf 8 (mixV l.length (fun k => u64 (rowP r ra l (l.getD k (0, 0)))) (fun _ => u64 0) k.1).length), (85, .pv (.sl (m.rel.map rowPV))), (86, .pv (i64 (m.rel.map rowPV).length)), (87, .pv (i64 i)), (95, .pv (.sl (l.map pairPV))), (96, .pv (i64 (l.map pairPV).length)), (97, .pv (i64 k.1))], fun _ => 9, fun k => [(0, .var (cellsM m)), (1, .var (cellsA a)), (2, .var cells0), (3, .var [.pv (.sl (l.map pairPV))]), (4, .var [.pv (i64 (l.map pairPV).length), .pv (rowPV vs), .buf 5 ((rsU m a l i).map rowPV).length]), (5, .arr 1 ((rsU m a l i).map rowPV)), (6, .var [.pv (i64 i)]), (7, .var [.pv (rowPV r)]), (8, .arr 1 (mixV l.length (fun k => u64 (rowP r ra l (l.getD k (0, 0)))) (fun _ => u64 0) k.1))], fun k => l.length - k.1, ⟨⟨0, Nat.zero_le _⟩, ?_⟩, ?_⟩
        · (refine Wk.of ?_ ?_ rfl rfl rfl<;>repeat' (first|exact trivial|exact WkD.same _|exact WkO.same _ _ rfl|refine ⟨?_, ?_⟩|fail))
          · exact WkD.eq (congrArg (fun z : List PV => DV.buf 8 z.length) hz1)
          · exact WkO.same _ _ (congrArg (fun z => some (DObj.arr 1 z)) hz1)
        rintro ⟨k, hk⟩
        have hmk := hmlv k
        have hmk1 := hmlv (k + 1)
        have hst := mixV_set (n := l.length) (p := fun k => u64 (rowP r ra l (l.getD k (0, 0)))) (q := fun _ => u64 0) (e := k)
        (try conv=>whnf);repeat' (first|(apply And.intro<;>try conv=>whnf)|(intro h;try conv=>whnf)|(apply infoT;rfl)|fail)
        · have hk' : k < l.length := by simpa using lt_dec h
          obtain ⟨x, hx, hxw⟩ : ∃ y, l[k]? = some y ∧ l.getD k (0, 0) = y := ⟨_, getD_mem hk', rfl⟩
          have hxm := hmem x (List.mem_iff_getElem?.2 ⟨k, hx⟩)
          refine ⟨_, _, rfl, idx_map hx, rfl, ?_⟩
          try conv=>whnf
          refine DC.call 10 (HW m a l vs (rsU m a l i) i r (mixV l.length (fun k => u64 (rowP r ra l (l.getD k (0, 0)))) (fun _ => u64 0) k) x) ⟨rfl, rfl, rfl, rfl, rfl, rfl, rfl, rfl, rfl, rfl, trivial⟩ rfl rfl rfl rfl fun M' => ?_
          refine whr_W m a l vs (rsU m a l i) i r (mixV l.length (fun k => u64 (rowP r ra l (l.getD k (0, 0)))) (fun _ => u64 0) k) x ra hra (by omega) (by omega) (fun y hy => by have := hmem y hy; exact ⟨by omega, by omega⟩) hrb hrab hl64 _ _ ?_
          refine ⟨rfl, ?_⟩
          (try conv=>whnf);repeat' (first|(apply And.intro<;>try conv=>whnf)|fail)
          refine ⟨k, rfl, by rw [hmk]; exact hk', ?_⟩
          (try conv=>whnf);repeat' (first|(apply And.intro<;>try conv=>whnf)|fail)
          refine ⟨_, mixV_old hk', Nat.le_refl 1, ?_⟩
          try conv=>whnf
          rw [hxw] at hst
          refine ⟨⟨k + 1, hk'⟩, by show l.length - (k + 1) < l.length - k; omega, ?_⟩
          (refine Wk.of ?_ ?_ rfl rfl rfl<;>repeat' (first|exact trivial|exact WkD.same _|exact WkO.same _ _ rfl|refine WkD.int ?_|refine ⟨?_, ?_⟩|(refine wrapA ?_ ?_ ?_;(focus simp;done);(focus (try dsimp only);omega);(focus (try dsimp only);omega))|fail))
          · exact WkD.eq (congrArg (DV.buf 8) (hmk.trans hmk1.symm))
          · exact WkO.same _ _ (congrArg (fun z => some (DObj.arr 1 z)) hst)
        · have hk' : k = l.length := by have := ge_dec (m := (l.map pairPV).length) h (by simpa using hk); simpa using this
          subst hk'
          exact ⟨(), (by refine Wk.of ?_ ?_ rfl rfl rfl<;>repeat' (first|exact trivial|exact WkD.same _|exact WkO.same _ _ rfl|exact WkD.fz _ _ _ rfl (Or.inl ⟨_, rfl⟩) rfl|refine ⟨?_, ?_⟩|fail))⟩
      rintro ⟨⟩
      have hrs := rsU_succ m a l i
      have hrsl : ((rsU m a l i).map rowPV).length ≤ 1000 := by simp [rsU]; omega
      have er : (rsU m a l i).map rowPV ++ [PV.sl (mixV l.length (fun k => u64 (rowP r ra l (l.getD k (0, 0)))) (fun _ => u64 0) l.length)] = (rsU m a l (i + 1)).map rowPV := by
        rw [hrs, List.map_append, mixV_full, relP, hrw, hraw]
        congr 1
        show [PV.sl _] = [rowPV (l.map (rowP r ra l))]
        rw [rowPV, List.map_map]
        congr 2
        exact map_getD (g := fun x => u64 (rowP r ra l x)) (d := (0, 0)) rfl
      (try conv=>whnf);repeat' (first|(apply And.intro<;>try conv=>whnf)|(apply cellsI;rfl)|(apply szI;rfl)|fail)
      · exact app_big (n := 1000) hrsl (by decide)
      refine ⟨⟨i + 1, hi'⟩, by show m.rel.length - (i + 1) < m.rel.length - i; omega, ?_⟩
      (refine Wk.of ?_ ?_ rfl rfl rfl<;>repeat' (first|exact trivial|exact WkD.same _|exact WkO.same _ _ rfl|exact WkD.eq (congrArg (fun z : List PV => DV.buf _ z.length) er)|exact WkO.same _ _ (congrArg (fun z => some (DObj.arr _ z)) er)|refine WkD.int ?_|refine WkO.vars rfl ?_|refine ⟨?_, ?_⟩|(refine wrapA ?_ ?_ ?_;(focus simp;done);(focus (try dsimp only);omega);(focus (try dsimp only);omega))|fail))
    · have hi' : i = m.rel.length := by have := ge_dec (m := (m.rel.map rowPV).length) h (by simpa using hi); simpa using this
      subst hi'
      exact ⟨(), (by refine Wk.of ?_ ?_ rfl rfl rfl<;>repeat' (first|exact trivial|exact WkD.same _|exact WkO.same _ _ rfl|exact WkD.fz _ _ _ rfl (Or.inl ⟨_, rfl⟩) rfl|refine WkO.vars rfl ?_|refine ⟨?_, ?_⟩|fail))⟩
  rintro ⟨⟩
  try conv=>whnf
  refine ⟨.one 0 (.two 1 (.one 2 (.one 3 (.one 4 .done))) 2 (.one 1 (.one 3 (.one 4 .done)))), [2], by kernel_rfl, ?_⟩
  have hfin : updPV (prodM m a l, l, 0) = .tup [.agg [i64 (l.map pairPV).length, rowPV vs, .sl ((rsU m a l m.rel.length).map rowPV)], .sl (l.map pairPV), .int .i64 0] := by rw [← hVS, List.length_map]; rfl
  (try conv=>whnf);repeat' (first|(apply And.intro<;>try conv=>whnf)|fail)
  all_goals (rw [hfin]; exact .refl _)
end Go.Proofs.YtlaolpkgabknfaaGreatDoor
set_option maxRecDepth 100000
set_option maxHeartbeats 4000000
namespace Go.Proofs.YtlaolpkgabknfaaGreatDoor
open Go Go.Dv

def isP (w e : Int) (q : Nat × Nat) : Bool := bif (q.1 : Int) == w then (q.2 : Int) == e else false
def ixP (l : List (Nat × Nat)) (w e : Int) : Int := match l.findIdx? (isP w e) with | none => -1 | some i => (i : Int)
theorem find_at {α : Type} {p : α → Bool} : ∀ {l : List α} {i : Nat} {x : α}, l[i]? = some x → p x = true → (l.take i).any p = false → l.findIdx? p = some i
  | [], i, x, h, _, _ => by simp at h
  | a :: r, 0, x, h, hx, _ => by
    have : a = x := by simpa using h
    subst this
    simp [List.findIdx?_cons, hx]
  | a :: r, i + 1, x, h, hx, hn => by
    have h1 : r[i]? = some x := by simpa using h
    have hn2 : (p a || (r.take i).any p) = false := by simpa using hn
    rw [Bool.or_eq_false_iff] at hn2
    rw [List.findIdx?_cons, hn2.1, find_at h1 hx hn2.2]; rfl
theorem find_none {α : Type} {p : α → Bool} {l : List α} (h : l.any p = false) : l.findIdx? p = none := by
  rw [List.findIdx?_eq_none_iff]
  exact fun x hx => by simpa using List.any_eq_false.1 h x hx
theorem fit_pair (x y : Int) : fitT Tryz.prog 124 (.agg [.int .i64 x, .int .i64 y]) = true := by kernel_rfl
theorem eq_pair (w e : Int) (q : Nat × Nat) : eqPVs [.int .i64 w, .int .i64 e] [i64 q.1, i64 q.2] = isP w e q := by
  show ((w == (q.1 : Int)) && ((e == (q.2 : Int)) && true)) = bif (q.1 : Int) == w then (q.2 : Int) == e else false
  rw [Bool.and_true, show (w == (q.1 : Int)) = ((q.1 : Int) == w) by rw [Bool.eq_iff_iff, beq_iff_eq, beq_iff_eq]; exact ⟨Eq.symm, Eq.symm⟩, show (e == (q.2 : Int)) = ((q.2 : Int) == e) by rw [Bool.eq_iff_iff, beq_iff_eq, beq_iff_eq]; exact ⟨Eq.symm, Eq.symm⟩]
  cases ((q.1 : Int) == w) <;> rfl
theorem sl_IndexP (l : List (Nat × Nat)) (w e : Int) (hl : l.length ≤ 1000) : PureFn Tryz.prog 83 [.sl (l.map pairPV), .agg [.int .i64 w, .int .i64 e]] (.int .i64 (ixP l w e)) := by
  refine PureFn.intro mixed (fn := Tryz.f83) rfl rfl rfl fun M w0 => ?_
  try conv=>whnf
  refine ⟨{ i : Nat // i ≤ l.length ∧ (l.take i).any (isP w e) = false }, fun i => [(0, .pv (.sl (l.map pairPV))), (3, .ref 0 0), (7, .pv (i64 (l.map pairPV).length)), (8, .pv (i64 i.1))], fun _ => 1, fun _ => [(0, .var [.pv (.int .i64 w), .pv (.int .i64 e)])], fun i => l.length - i.1, ⟨⟨0, Nat.zero_le _, rfl⟩, (by refine Wk.of ?_ ?_ rfl rfl rfl<;>repeat' (first|exact trivial|exact WkD.same _|exact WkO.same _ _ rfl|refine ⟨?_, ?_⟩|fail))⟩, ?_⟩
  rintro ⟨i, hi, hn⟩
  (try conv=>whnf);repeat' (first|(apply And.intro<;>try conv=>whnf)|(intro h;try conv=>whnf)|(apply infoT;rfl)|(refine lin_plan (by kernel_rfl) ?_;try conv=>whnf)|fail)
  · have hi' : i < l.length := by simpa using lt_dec h
    obtain ⟨y, hy, hyw⟩ : ∃ y, l[i]? = some y ∧ l[i] = y := ⟨_, List.getElem?_eq_getElem hi', rfl⟩
    refine ⟨_, _, rfl, idx_map hy, rfl, ?_⟩
    (try conv=>whnf);repeat' (first|(apply And.intro<;>try conv=>whnf)|(intro h;try conv=>whnf)|(apply guardI;kernel_rfl)|fail)
    · exact fit_pair _ _
    · exact fit_pair _ _
    · have hq : isP w e y = true := by rw [← eq_pair]; exact h
      rw [ixP, find_at hy hq hn]
      exact .refl _
    · have hq : isP w e y = false := by rw [← eq_pair]; exact h
      exact ⟨⟨i + 1, hi', any_take hi' hn (by rw [hyw]; exact hq)⟩, by show l.length - (i + 1) < l.length - i; omega, (by refine Wk.of ?_ ?_ rfl rfl rfl<;>repeat' (first|exact trivial|exact WkD.same _|exact WkO.same _ _ rfl|refine WkD.int ?_|refine ⟨?_, ?_⟩|(refine wrapA ?_ ?_ ?_;(focus simp;done);(focus (try dsimp only);omega);(focus (try dsimp only);omega))|fail))⟩
  · have hi' : i = l.length := by have := ge_dec (m := (l.map pairPV).length) h (by simpa using hi); simpa using this
    subst hi'
    rw [List.take_length] at hn
    rw [ixP, find_none hn]
    exact .refl _
theorem updI_len (m : Mo) (a : Act) : (updI m a).2.1.length ≤ 64 := by
  unfold updI
  cases ((worldsI m a).2 != 0) with
  | true => exact Nat.zero_le _
  | false =>
    cases h : decide (((worldsI m a).1.length : Int) > 64) with
    | true => exact Nat.zero_le _
    | false =>
      have := of_decide_eq_false h
      show (worldsI m a).1.length ≤ 64
      omega
end Go.Proofs.YtlaolpkgabknfaaGreatDoor
set_option maxRecDepth 100000
namespace Go.Proofs.YtlaolpkgabknfaaGreatDoor
open Go Go.RowKit

theorem tz64_core (x k idx : Nat) (w : World) (hx0 : ((x : Int) == 0) = false)
    (key : IntKind.u64.wrap (bits BinOp.and IntKind.u64 (x : Int) (IntKind.u64.wrap (-(x : Int))) * 285870213051353865) / 288230376151711744 = (idx : Int))
    (hi : idx < 64) (hk : k < 64) (hcell : w.cell? ⟨0, idx, none⟩ = some (.int .u8 k)) :
    Calls Tryz.prog 122 #[.int .u64 x] w fun e w' => e = .returned (.int .i64 k) ∧ w' = w := by
  go_enter Tryz.func122, Tryz.ntmps122
  go_wp2_with (simp only [key])
  go_ret
  exact ⟨rfl, rfl⟩
theorem tz64_zero (w : World) : Calls Tryz.prog 122 #[.int .u64 0] w fun e w' => e = .returned (.int .i64 64) ∧ w' = w := by
  go_enter Tryz.func122, Tryz.ntmps122
  go_wp2
  go_ret
  exact ⟨rfl, rfl⟩
theorem tz64_key (x a : Nat) (hx : x < 18446744073709551616) (hx0 : x ≠ 0) (hlow : x &&& (18446744073709551616 - x) = a) :
    IntKind.u64.wrap (bits BinOp.and IntKind.u64 (x : Int) (IntKind.u64.wrap (-(x : Int))) * 285870213051353865) / 288230376151711744 = ((a * 285870213051353865 % 18446744073709551616 / 288230376151711744 : Nat) : Int) := by
  have e1 : IntKind.u64.wrap (-(x : Int)) = ((18446744073709551616 - x : Nat) : Int) := by rw [IntKind.wrap_u64]; omega
  rw [e1, bits_and_u64_nat x _ hx (by omega), hlow, IntKind.wrap_u64]
  omega
theorem tz64 (x : Nat) (hx : x < 18446744073709551616) (w : World) (hT : ∀ j, j < Lib.deBruijn64tab.length → w.cell? ⟨0, j, none⟩ = some (.int .u8 (Lib.deBruijn64tab.getD j 0))) :
    Calls Tryz.prog 122 #[.int .u64 x] w fun e w' => e = .returned (.int .i64 (Lib.ctz 64 x)) ∧ w' = w := by
  by_cases hx0 : x = 0
  · subst hx0
    exact tz64_zero w
  · obtain ⟨hlow, hk⟩ := Lib.lowest_bit 64 x hx0 hx
    obtain ⟨hi, htab⟩ := Lib.deBruijn64_at _ hk
    have hcell := hT _ hi
    rw [htab] at hcell
    exact tz64_core x _ _ w (by simp; omega) (tz64_key x _ hx hx0 hlow) hi hk hcell
end Go.Proofs.YtlaolpkgabknfaaGreatDoor
set_option maxRecDepth 100000
set_option maxHeartbeats 4000000
namespace Go.Proofs.YtlaolpkgabknfaaGreatDoor
open Go Go.Dv
open Go.RowKit (Below)

/-! the members of a set -/
def memL (s : Nat) : List Nat := (List.range 64).filter s.testBit
theorem memL_mem {s i : Nat} : i ∈ memL s ↔ i < 64 ∧ s.testBit i = true := by rw [memL, List.mem_filter, List.mem_range]
theorem filter_first {p : Nat → Bool} {k : Nat} (hk : p k = true) (h : ∀ i, i < k → p i = false) : ∀ n, k < n → (List.range n).filter p = k :: (List.range n).filter (fun i => p i && !(i == k))
  | 0, h0 => by omega
  | n + 1, h0 => by
    rw [List.range_succ, List.filter_append, List.filter_append]
    by_cases e : n = k
    · have e1 : (List.range n).filter p = [] := List.filter_eq_nil_iff.2 fun i hi => by rw [h i (by have := List.mem_range.1 hi; omega)]; simp
      have e2 : (List.range n).filter (fun i => p i && !(i == k)) = [] := List.filter_eq_nil_iff.2 fun i hi => by rw [h i (by have := List.mem_range.1 hi; omega)]; simp
      rw [e1, e2, e]
      simp [hk]
    · have e3 : (n == k) = false := by simpa using e
      rw [filter_first hk h n (by omega), List.cons_append]
      congr 2
      simp only [List.filter_cons, List.filter_nil, e3, Bool.not_false, Bool.and_true]
theorem ctz_bits {x : Nat} (h0 : x ≠ 0) (h : x < 2 ^ 64) : Lib.ctz 64 x < 64 ∧ x.testBit (Lib.ctz 64 x) = true ∧ (∀ i, i < Lib.ctz 64 x → x.testBit i = false) ∧ ∀ i, (x &&& (x - 1)).testBit i = (x.testBit i && !(i == Lib.ctz 64 x)) := by
  obtain ⟨q, hq, hk⟩ := Lib.ctzFrom_spec 64 x (by omega) h
  have e : Lib.ctz 64 x = Lib.ctzFrom 64 x := by simp [Lib.ctz, h0]
  rw [e]
  generalize Lib.ctzFrom 64 x = k at hq hk ⊢
  have hb : ∀ i, x.testBit i = (decide (k ≤ i) && (2 * q + 1).testBit (i - k)) := fun i => by
    rw [hq, Nat.testBit_two_pow_mul]
  have hp := Nat.two_pow_pos k
  have hx1 : x - 1 = 2 ^ k * (2 * q) + (2 ^ k - 1) := by rw [hq, Nat.mul_add]; omega
  have hc : ∀ i, (x - 1).testBit i = if i < k then (2 ^ k - 1).testBit i else (2 * q).testBit (i - k) := fun i => by
    rw [hx1, Nat.testBit_two_pow_mul_add _ (by omega)]
  refine ⟨hk, ?_, fun i hi => ?_, fun i => ?_⟩
  · rw [hb, decide_eq_true (Nat.le_refl k), Nat.sub_self]; simp
  · rw [hb, decide_eq_false (by omega)]; rfl
  · rw [Nat.testBit_and, hb, hc]
    by_cases hi : i < k
    · rw [decide_eq_false (by omega)]; rfl
    · rw [if_neg hi, decide_eq_true (by omega), Bool.true_and]
      by_cases e : i = k
      · rw [e, Nat.sub_self]; simp
      · obtain ⟨j, hj⟩ : ∃ j, i - k = j + 1 := ⟨i - k - 1, by omega⟩
        have e3 : (i == k) = false := by simpa using e
        rw [hj, e3, Nat.testBit_succ, Nat.testBit_succ, show (2 * q + 1) / 2 = q by omega, show 2 * q / 2 = q by omega]
        cases q.testBit j <;> rfl
theorem memL_step {x : Nat} (h0 : x ≠ 0) (h : x < 2 ^ 64) : memL x = Lib.ctz 64 x :: memL (x &&& (x - 1)) := by
  obtain ⟨h1, h2, h3, h4⟩ := ctz_bits h0 h
  rw [memL, filter_first h2 h3 64 h1, memL]
  congr 2
  funext i
  rw [h4 i]
theorem memL_zero : memL 0 = [] := by rw [memL]; exact List.filter_eq_nil_iff.2 fun i _ => by rw [Nat.zero_testBit]; simp
theorem memL_len (s : Nat) : (memL s).length ≤ 64 := Nat.le_trans (List.length_filter_le _ _) (by simp)
theorem memL_pos {s : Nat} (h0 : s ≠ 0) (h : s < 2 ^ 64) : 1 ≤ (memL s).length := by rw [memL_step h0 h]; simp
theorem fn_tz (x : Nat) (hx : x < 2 ^ 64) : PureFn Tryz.prog 122 [u64 x] (.int .i64 (Lib.ctz 64 x : Nat)) := by
  refine PureFn.mk ⟨by kernel_rfl, fun M w vs hG hM hrel => ?_⟩
  obtain ⟨hl, hr⟩ := hrel
  match vs, hl with
  | [v], _ =>
    have h1 := hr 0 _ v rfl rfl
    cases h1
    refine (tz64 x hx w hG.2).mono ?_
    rintro e w' ⟨rfl, rfl⟩
    exact ⟨_, rfl, .int _ _, Below.refl _ _⟩
def intsPV (l : List Nat) : PV := .sl (l.map i64)
theorem md_members (s : Nat) (hs : s < 2 ^ 64) : PureFn Tryz.prog 79 [u64 s] (intsPV (memL s)) := by
  refine PureFn.intro mixed (fn := Tryz.f79) rfl rfl rfl fun M w0 => ?_
  try conv=>whnf
  refine ⟨{ q : Nat × List Nat // q.1 < 2 ^ 64 ∧ q.2 ++ memL q.1 = memL s }, fun q => [(0, .pv (u64 q.1.1)), (3, .buf 0 (q.1.2.map i64).length)], fun _ => 1, fun q => [(0, .arr 1 (q.1.2.map i64))], fun q => (memL q.1.1).length, ⟨⟨(s, []), hs, rfl⟩, (by refine Wk.of ?_ ?_ rfl rfl rfl<;>repeat' (first|exact trivial|exact WkD.same _|exact WkD.new' rfl rfl rfl|exact WkO.new _ _ rfl|exact rfl|refine ⟨?_, ?_⟩|fail))⟩, ?_⟩
  rintro ⟨⟨x, l⟩, hx, hl⟩
  have hx : x < 2 ^ 64 := hx
  have hl : l ++ memL x = memL s := hl
  have hT := fn_tz x hx
  have hlen : (l.map i64).length ≤ 1000 := by
    have h1 := memL_len s
    rw [← hl, List.length_append] at h1
    rw [List.length_map]; omega
  (try conv=>whnf);repeat' (first|(apply And.intro<;>try conv=>whnf)|(intro h;try conv=>whnf)|(apply bleI;rfl)|(apply cellsI;rfl)|(apply szI;rfl)|(refine PureFn.dcq (f := 122) rfl ?_;try conv=>whnf)|(refine ⟨_, _, hT, ?_, ?_⟩;(focus first|(refine ⟨?_, trivial⟩<;>first|exact PLe.refl _|exact PLe.nil)|exact trivial);try conv=>whnf)|fail)
  · exact app_big (n := 1000) hlen (by decide)
  · have hx0 : x ≠ 0 := by
      have h0 : ((x : Int) != 0) = true := h
      intro e; rw [e] at h0; exact absurd h0 (by decide)
    have hst := memL_step hx0 hx
    refine ⟨⟨(x &&& (x - 1), l ++ [Lib.ctz 64 x]), Nat.and_lt_two_pow _ (by omega), ?_⟩, ?_, ?_⟩
    · show l ++ [Lib.ctz 64 x] ++ memL (x &&& (x - 1)) = memL s
      rw [← hl, hst, List.append_assoc]; rfl
    · show (memL (x &&& (x - 1))).length < (memL x).length
      rw [hst, List.length_cons]; omega
    have e1 : andU (x : Nat) (IntKind.wrap .u64 ((x : Int) - 1)) = ((x &&& (x - 1) : Nat) : Int) := by
      rw [wrapU (by omega) (by omega), show ((x : Int) - 1) = ((x - 1 : Nat) : Int) by omega, andU_nat hx (by omega)]
    have e2 : (l.map i64) ++ [PV.int .i64 (Lib.ctz 64 x : Nat)] = (l ++ [Lib.ctz 64 x]).map i64 := by rw [List.map_append]; rfl
    (refine Wk.of ?_ ?_ rfl rfl rfl<;>repeat' (first|exact trivial|exact WkD.eq (congrArg (fun z : List PV => DV.buf _ z.length) e2)|exact WkO.same _ _ (congrArg (fun z => some (DObj.arr _ z)) e2)|refine WkD.int ?_|refine ⟨?_, ?_⟩|fail))
    all_goals exact e1
  · have hx0 : x = 0 := by
      have h0 : ((x : Int) != 0) = false := h
      have : (x : Int) = 0 := by simpa using h0
      omega
    rw [hx0, memL_zero, List.append_nil] at hl
    have e9 : intsPV (memL s) = .sl (l.map i64) := by rw [intsPV, ← hl]
    exact e9.symm ▸ .refl (.sl (l.map i64))

/-! the worlds of a list, taken for a model -/
def pullN (s : Nat) (ws : List Nat) : Nat := maskOf (fun i => s.testBit (ws.getD i 0)) ws.length
theorem pull_step {q : Nat → Bool} {s w i : Nat} (hs : s < 2 ^ 64) (hw : w < 64) (hi : i < 64) (hq : q i = s.testBit w) : orU (maskOf q i : Nat) (shlU (andU (shrU (s : Nat) (w : Nat)) 1) (i : Nat)) = ((maskOf q (i + 1) : Nat) : Int) := by
  rw [bit_and s w hs hw]
  cases h : s.testBit w with
  | true => rw [if_pos rfl]; exact or_shl hi (by rw [hq, h])
  | false =>
    rw [if_neg (by decide), ← mask_no (q := q) (w := i) (by rw [hq, h]), show shlU 0 (i : Nat) = ((0 : Nat) : Int) by show IntKind.wrap .u64 (0 * _) = 0; rw [Int.zero_mul]; rfl, orU_nat (mask_lt64 q (by omega)) (by decide), Nat.or_zero]
theorem md_pull (s : Nat) (ws : List Nat) (hs : s < 2 ^ 64) (hw : ∀ w, w ∈ ws → w < 64) (hl : ws.length ≤ 64) : PureFn Tryz.prog 123 [u64 s, intsPV ws] (u64 (pullN s ws)) := by
  refine PureFn.intro mixed (fn := Tryz.f123) rfl rfl rfl fun M w0 => ?_
  try conv=>whnf
  refine ⟨{ i : Nat // i ≤ ws.length }, fun i => [(0, .pv (u64 s)), (5, .pv (u64 (maskOf (fun i => s.testBit (ws.getD i 0)) i.1))), (8, .pv (intsPV ws)), (9, .pv (i64 (ws.map i64).length)), (10, .pv (i64 i.1))], fun _ => 0, fun _ => [], fun i => ws.length - i.1, ⟨⟨0, Nat.zero_le _⟩, (by refine Wk.of ?_ ?_ rfl rfl rfl<;>repeat' (first|exact trivial|exact WkD.same _|refine ⟨?_, ?_⟩|fail))⟩, ?_⟩
  intro i
  have hi := i.2
  (try conv=>whnf);repeat' (first|(apply And.intro<;>try conv=>whnf)|(intro h;try conv=>whnf)|(apply infoT;rfl)|fail)
  · have hi' : i.1 < ws.length := by simpa using lt_dec h
    obtain ⟨w, hx, hxw⟩ : ∃ y, ws[i.1]? = some y ∧ ws.getD i.1 0 = y := ⟨_, getD_mem hi', rfl⟩
    have hw64 := hw w (List.mem_iff_getElem?.2 ⟨_, hx⟩)
    have hst := pull_step (q := fun i => s.testBit (ws.getD i 0)) hs hw64 (show i.1 < 64 by omega) (by show s.testBit (ws.getD i.1 0) = _; rw [hxw])
    refine ⟨_, _, rfl, idx_map hx, rfl, ?_⟩
    (try conv=>whnf);repeat' (first|(apply And.intro<;>try conv=>whnf)|fail)
    · exact Int.natCast_nonneg _
    · exact Int.natCast_nonneg _
    · refine ⟨⟨i.1 + 1, hi'⟩, by show ws.length - (i.1 + 1) < ws.length - i.1; omega, ?_⟩
      (refine Wk.of ?_ ?_ rfl rfl rfl<;>repeat' (first|exact trivial|exact WkD.same _|refine WkD.int ?_|refine ⟨?_, ?_⟩|(refine wrapA ?_ ?_ ?_;(focus simp;done);(focus (try dsimp only);omega);(focus (try dsimp only);omega))|fail))
      exact hst
  · have hi' : i.1 = ws.length := by have := ge_dec (m := (ws.map i64).length) h (by simpa using hi); simpa using this
    exact le_int (congrArg (fun k => ((maskOf (fun i => s.testBit (ws.getD i 0)) k : Nat) : Int)) hi')
def arrI (m : Mo) (ws : List Nat) : Mo := ⟨(ws.length : Int), m.val.map fun s => pullN s ws, m.rel.map fun r => ws.map fun w => pullN (r.getD w 0) ws⟩
theorem take_map {α β : Type} {f : α → β} {l : List α} {i : Nat} {x : α} (h : l[i]? = some x) : (l.take (i + 1)).map f = (l.take i).map f ++ [f x] := by
  obtain ⟨h1, h2⟩ := List.getElem?_eq_some_iff.1 h
  rw [List.take_succ_eq_append_getElem h1, List.map_append, h2]; rfl
theorem md_arrange (m : Mo) (ws : List Nat) (n : Nat) (hM : OkM m n) (hw : ∀ w, w ∈ ws → w < n) (hl : ws.length ≤ 64) : PureFn Tryz.prog 80 [m.pv, intsPV ws] (arrI m ws).pv := by
  refine PureFn.introC [7, 16, 18] mixed (fn := Tryz.f80) rfl rfl rfl fun M w0 => ?_
  have hf := hM.fit
  have hn64 := hM.n64
  have hag := hM.ag
  have hfa := hM.fa
  have hw64 : ∀ w, w ∈ ws → w < 64 := fun w hh => by have := hw w hh; omega
  obtain ⟨ro, qro⟩ : ∃ ro : List Nat → List Nat, ro = fun r => ws.map fun w => pullN (r.getD w 0) ws := ⟨_, rfl⟩
  have har : (arrI m ws).pv = .agg [i64 (ws.map i64).length, rowPV ((m.val.take m.val.length).map fun s => pullN s ws), .sl (((m.rel.take m.rel.length).map ro).map rowPV)] := by rw [qro, List.length_map, List.take_length, List.take_length]; rfl
  rw [har]
  try conv=>whnf
  refine ⟨Unit, fun _ => [(1, .pv (intsPV ws)), (2, .ref 0 0), (4, .ref 1 0), (5, .ref 2 0)], fun _ => 3, fun _ => [(0, .var (cellsM m)), (1, .var cells0), (2, .var [.pv (i64 (ws.map i64).length), .pv (rowPV ((m.val.take m.val.length).map fun s => pullN s ws)), .pv .nil])], ?_, ?_⟩
  · try conv=>whnf
    refine ⟨{ i : Nat // i ≤ m.val.length }, fun i => [(1, .pv (intsPV ws)), (2, .ref 0 0), (4, .ref 1 0), (5, .ref 2 0), (17, .pv (.sl (m.val.map u64))), (18, .pv (i64 (m.val.map u64).length)), (19, .pv (i64 i.1))], fun _ => 4, fun i => [(0, .var (cellsM m)), (1, .var cells0), (2, .var [.pv (i64 (ws.map i64).length), .buf 3 (((m.val.take i.1).map fun s => pullN s ws).map u64).length, .pv .nil]), (3, .arr 1 (((m.val.take i.1).map fun s => pullN s ws).map u64))], fun i => m.val.length - i.1, ⟨⟨0, Nat.zero_le _⟩, (by refine Wk.of ?_ ?_ rfl rfl rfl<;>repeat' (first|exact trivial|exact WkD.same _|exact WkO.same _ _ rfl|exact WkD.new' rfl rfl rfl|exact WkO.new _ _ rfl|refine WkO.vars rfl ?_|exact rfl|refine ⟨?_, ?_⟩|fail))⟩, ?_⟩
    rintro ⟨i, hi⟩
    (try conv=>whnf);repeat' (first|(apply And.intro<;>try conv=>whnf)|(intro h;try conv=>whnf)|(apply infoT;rfl)|fail)
    · have hi' : i < m.val.length := by simpa using lt_dec h
      obtain ⟨s, hx⟩ : ∃ y, m.val[i]? = some y := ⟨_, List.getElem?_eq_getElem hi'⟩
      have hs64 := hf.1 s (List.mem_iff_getElem?.2 ⟨_, hx⟩)
      have hP := md_pull s ws hs64 hw64 hl
      have ht := take_map (f := fun s => pullN s ws) hx
      have hvsl : (((m.val.take i).map fun s => pullN s ws).map u64).length ≤ 1000 := by simp; omega
      have er : ((m.val.take i).map fun s => pullN s ws).map u64 ++ [PV.int .u64 ((pullN s ws : Nat) : Int)] = ((m.val.take (i + 1)).map fun s => pullN s ws).map u64 := by rw [ht, List.map_append]; rfl
      refine ⟨_, _, rfl, idx_map hx, rfl, ?_⟩
      (try conv=>whnf);repeat' (first|(apply And.intro<;>try conv=>whnf)|(apply cellsI;rfl)|(apply szI;rfl)|(refine lin_plan (by kernel_rfl) ?_;try conv=>whnf)|(refine ⟨_, (by (conv=>whnf);exact hP), rfl, ?_⟩;try conv=>whnf)|fail)
      · exact app_big (n := 1000) hvsl (by decide)
      · refine ⟨⟨i + 1, hi'⟩, by show m.val.length - (i + 1) < m.val.length - i; omega, ?_⟩
        (refine Wk.of ?_ ?_ rfl rfl rfl<;>repeat' (first|exact trivial|exact WkD.same _|exact WkO.same _ _ rfl|exact WkD.eq (congrArg (fun z : List PV => DV.buf _ z.length) er)|exact WkO.same _ _ (congrArg (fun z => some (DObj.arr _ z)) er)|refine WkD.int ?_|refine WkO.vars rfl ?_|refine ⟨?_, ?_⟩|(refine wrapA ?_ ?_ ?_;(focus simp;done);(focus (try dsimp only);omega);(focus (try dsimp only);omega))|fail))
    · have hi' : i = m.val.length := by have := ge_dec (m := (m.val.map u64).length) h (by simpa using hi); simpa using this
      subst hi'
      exact ⟨(), (by refine Wk.of ?_ ?_ rfl rfl rfl<;>repeat' (first|exact trivial|exact WkD.same _|exact WkO.same _ _ rfl|exact WkD.fz _ _ _ rfl (Or.inl ⟨_, rfl⟩) rfl|refine WkO.vars rfl ?_|refine ⟨?_, ?_⟩|fail))⟩
  rintro ⟨⟩
  generalize ((m.val.take m.val.length).map fun s => pullN s ws) = V
  refine ⟨Unit, fun _ => [(4, .ref 1 0), (5, .ref 2 0)], fun _ => 3, fun _ => [(1, .var cells0), (2, .var [.pv (i64 (ws.map i64).length), .pv (rowPV V), .pv (.sl (((m.rel.take m.rel.length).map ro).map rowPV))])], ?_, ?_⟩
  · try conv=>whnf
    refine ⟨{ i : Nat // i ≤ m.rel.length }, fun i => [(1, .pv (intsPV ws)), (2, .ref 0 0), (4, .ref 1 0), (5, .ref 2 0), (33, .pv (.sl (m.rel.map rowPV))), (34, .pv (i64 (m.rel.map rowPV).length)), (35, .pv (i64 i.1))], fun _ => 4, fun i => [(0, .var (cellsM m)), (1, .var cells0), (2, .var [.pv (i64 (ws.map i64).length), .pv (rowPV V), .buf 3 (((m.rel.take i.1).map ro).map rowPV).length]), (3, .arr 1 (((m.rel.take i.1).map ro).map rowPV))], fun i => m.rel.length - i.1, ⟨⟨0, Nat.zero_le _⟩, (by refine Wk.of ?_ ?_ rfl rfl rfl<;>repeat' (first|exact trivial|exact WkD.same _|exact WkO.same _ _ rfl|exact WkD.new' rfl rfl rfl|exact WkO.new _ _ rfl|refine WkO.vars rfl ?_|exact rfl|refine ⟨?_, ?_⟩|fail))⟩, ?_⟩
    rintro ⟨i, hi⟩
    (try conv=>whnf);repeat' (first|(apply And.intro<;>try conv=>whnf)|(intro h;try conv=>whnf)|(apply infoT;rfl)|fail)
    · have hi' : i < m.rel.length := by simpa using lt_dec h
      obtain ⟨r, hx⟩ : ∃ y, m.rel[i]? = some y := ⟨_, List.getElem?_eq_getElem hi'⟩
      have hrm : r ∈ m.rel := List.mem_iff_getElem?.2 ⟨_, hx⟩
      have hrl := hM.rows r hrm
      have hr64 := hf.2 r hrm
      have ht := take_map (f := ro) hx
      have hvsl : (((m.rel.take i).map ro).map rowPV).length ≤ 1000 := by simp; omega
      have er : ((m.rel.take i).map ro).map rowPV ++ [rowPV (ro r)] = ((m.rel.take (i + 1)).map ro).map rowPV := by rw [ht, List.map_append]; rfl
      refine ⟨_, _, rfl, idx_map hx, rfl, ?_⟩
      try conv=>whnf
      refine ⟨Unit, fun _ => [(1, .pv (intsPV ws)), (2, .ref 0 0), (4, .ref 1 0), (5, .ref 2 0), (10, .pv (rowPV ((ws.take ws.length).map fun w => pullN (r.getD w 0) ws))), (33, .pv (.sl (m.rel.map rowPV))), (34, .pv (i64 (m.rel.map rowPV).length)), (35, .pv (i64 i))], fun _ => 4, fun _ => [(0, .var (cellsM m)), (1, .var cells0), (2, .var [.pv (i64 (ws.map i64).length), .pv (rowPV V), .buf 3 (((m.rel.take i).map ro).map rowPV).length]), (3, .arr 1 (((m.rel.take i).map ro).map rowPV))], ?_, ?_⟩
      · try conv=>whnf
        refine ⟨{ j : Nat // j ≤ ws.length }, fun j => [(1, .pv (intsPV ws)), (2, .ref 0 0), (4, .ref 1 0), (5, .ref 2 0), (9, .pv (rowPV r)), (10, .buf 4 (((ws.take j.1).map fun w => pullN (r.getD w 0) ws).map u64).length), (33, .pv (.sl (m.rel.map rowPV))), (34, .pv (i64 (m.rel.map rowPV).length)), (35, .pv (i64 i)), (39, .pv (intsPV ws)), (40, .pv (i64 (ws.map i64).length)), (41, .pv (i64 j.1))], fun _ => 5, fun j => [(0, .var (cellsM m)), (1, .var cells0), (2, .var [.pv (i64 (ws.map i64).length), .pv (rowPV V), .buf 3 (((m.rel.take i).map ro).map rowPV).length]), (3, .arr 1 (((m.rel.take i).map ro).map rowPV)), (4, .arr 1 (((ws.take j.1).map fun w => pullN (r.getD w 0) ws).map u64))], fun j => ws.length - j.1, ⟨⟨0, Nat.zero_le _⟩, (by refine Wk.of ?_ ?_ rfl rfl rfl<;>repeat' (first|exact trivial|exact WkD.same _|exact WkO.same _ _ rfl|exact WkD.new' rfl rfl rfl|exact WkO.new _ _ rfl|exact rfl|refine ⟨?_, ?_⟩|fail))⟩, ?_⟩
        rintro ⟨j, hj⟩
        (try conv=>whnf);repeat' (first|(apply And.intro<;>try conv=>whnf)|(intro h;try conv=>whnf)|(apply infoT;rfl)|fail)
        · have hj' : j < ws.length := by simpa using lt_dec h
          obtain ⟨w, hx2⟩ : ∃ y, ws[j]? = some y := ⟨_, List.getElem?_eq_getElem hj'⟩
          have hwn := hw w (List.mem_iff_getElem?.2 ⟨_, hx2⟩)
          have hx3 : r[w]? = some (r.getD w 0) := getD_mem (by omega)
          have hs64 := hr64 _ (List.mem_iff_getElem?.2 ⟨_, hx3⟩)
          have hP := md_pull (r.getD w 0) ws hs64 hw64 hl
          have ht2 := take_map (f := fun w => pullN (r.getD w 0) ws) hx2
          have hvsl2 : (((ws.take j).map fun w => pullN (r.getD w 0) ws).map u64).length ≤ 1000 := by simp; omega
          have er2 : ((ws.take j).map fun w => pullN (r.getD w 0) ws).map u64 ++ [PV.int .u64 ((pullN (r.getD w 0) ws : Nat) : Int)] = ((ws.take (j + 1)).map fun w => pullN (r.getD w 0) ws).map u64 := by rw [ht2, List.map_append]; rfl
          generalize hgz : r.getD w 0 = z at hx3 hP er2
          refine ⟨_, _, rfl, idx_map hx2, rfl, ?_⟩
          (try conv=>whnf);repeat' (first|(apply And.intro<;>try conv=>whnf)|(apply infoT;rfl)|(apply cellsI;rfl)|(apply szI;rfl)|(refine ⟨_, _, rfl, idx_map (by with_reducible assumption), rfl, ?_⟩;try conv=>whnf)|(refine PureFn.dcq (f := 123) rfl ?_;try conv=>whnf)|(refine ⟨_, _, hP, ?_, ?_⟩;(focus first|(refine ⟨?_, ?_, trivial⟩<;>first|exact PLe.refl _|exact PLe.nil)|exact trivial);try conv=>whnf)|fail)
          · exact app_big (n := 1000) hvsl2 (by decide)
          · refine ⟨⟨j + 1, hj'⟩, by show ws.length - (j + 1) < ws.length - j; omega, ?_⟩
            (refine Wk.of ?_ ?_ rfl rfl rfl<;>repeat' (first|exact trivial|exact WkD.same _|exact WkO.same _ _ rfl|exact WkD.eq (congrArg (fun z : List PV => DV.buf _ z.length) er2)|exact WkO.same _ _ (congrArg (fun z => some (DObj.arr _ z)) er2)|refine WkD.int ?_|refine ⟨?_, ?_⟩|(refine wrapA ?_ ?_ ?_;(focus simp;done);(focus (try dsimp only);omega);(focus (try dsimp only);omega))|fail))
        · have hj' : j = ws.length := by have := ge_dec (m := (ws.map i64).length) h (by simpa using hj); simpa using this
          subst hj'
          exact ⟨(), (by refine Wk.of ?_ ?_ rfl rfl rfl<;>repeat' (first|exact trivial|exact WkD.same _|exact WkO.same _ _ rfl|exact WkD.fz _ _ _ rfl (Or.inl ⟨_, rfl⟩) rfl|refine ⟨?_, ?_⟩|fail))⟩
      rintro ⟨⟩
      have hR : (ws.take ws.length).map (fun w => pullN (r.getD w 0) ws) = ro r := by rw [List.take_length, qro]
      generalize (ws.take ws.length).map (fun w => pullN (r.getD w 0) ws) = R at hR
      rw [← hR] at er
      (try conv=>whnf);repeat' (first|(apply And.intro<;>try conv=>whnf)|(apply cellsI;rfl)|(apply szI;rfl)|fail)
      · exact app_big (n := 1000) hvsl (by decide)
      · refine ⟨⟨i + 1, hi'⟩, by show m.rel.length - (i + 1) < m.rel.length - i; omega, ?_⟩
        (refine Wk.of ?_ ?_ rfl rfl rfl<;>repeat' (first|exact trivial|exact WkD.same _|exact WkO.same _ _ rfl|exact WkD.eq (congrArg (fun z : List PV => DV.buf _ z.length) er)|exact WkO.same _ _ (congrArg (fun z => some (DObj.arr _ z)) er)|refine WkD.int ?_|refine WkO.vars rfl ?_|refine ⟨?_, ?_⟩|(refine wrapA ?_ ?_ ?_;(focus simp;done);(focus (try dsimp only);omega);(focus (try dsimp only);omega))|fail))
    · have hi' : i = m.rel.length := by have := ge_dec (m := (m.rel.map rowPV).length) h (by simpa using hi); simpa using this
      subst hi'
      exact ⟨(), (by refine Wk.of ?_ ?_ rfl rfl rfl<;>repeat' (first|exact trivial|exact WkD.same _|exact WkO.same _ _ rfl|exact WkD.fz _ _ _ rfl (Or.inl ⟨_, rfl⟩) rfl|refine WkO.vars rfl ?_|refine ⟨?_, ?_⟩|fail))⟩
  rintro ⟨⟩
  try conv=>whnf
  exact .refl _
end Go.Proofs.YtlaolpkgabknfaaGreatDoor
set_option maxRecDepth 100000
set_option maxHeartbeats 4000000
namespace Go.Proofs.YtlaolpkgabknfaaGreatDoor
open Go Go.Dv

theorem rm_squeeze (s : Nat) (ws : List Nat) (hl : ws.length ≤ 64) (hw : ∀ w, w ∈ ws → w < 64) : PureFn Tryz.prog 156 [u64 s, intsPV ws] (u64 (pullN s ws)) := by
  refine PureFn.intro mixed (fn := Tryz.f156) rfl rfl rfl fun M w0 => ?_
  try conv=>whnf
  refine ⟨{ i : Nat // i ≤ ws.length }, fun i => [(0, .pv (u64 s)), (1, .pv (intsPV ws)), (5, .pv (u64 (maskOf (fun i => s.testBit (ws.getD i 0)) i.1))), (6, .pv (i64 i.1))], fun _ => 0, fun _ => [], fun i => ws.length - i.1, ⟨⟨0, Nat.zero_le _⟩, (by refine Wk.of ?_ ?_ rfl rfl rfl<;>repeat' (first|exact trivial|exact WkD.same _|refine ⟨?_, ?_⟩|fail))⟩, ?_⟩
  rintro ⟨i, hi⟩
  (try conv=>whnf);repeat' (first|(apply And.intro<;>try conv=>whnf)|(intro h;try conv=>whnf)|(apply infoT;rfl)|fail)
  · have hi' : i < ws.length := by simpa using lt_dec h
    obtain ⟨w, hx, hxw⟩ : ∃ y, ws[i]? = some y ∧ ws.getD i 0 = y := ⟨_, getD_mem hi', rfl⟩
    have hwn := hw w (List.mem_iff_getElem?.2 ⟨_, hx⟩)
    have hH := rm_Has s w hwn
    have hix := idx_map (g := i64) hx
    clear h
    (try conv=>whnf);repeat' (first|(apply And.intro<;>try conv=>whnf)|(intro h;try conv=>whnf)|(refine ⟨_, _, rfl, idx_map (by with_reducible assumption), rfl, ?_⟩;try conv=>whnf)|(refine PureFn.dcq (f := 85) rfl ?_;try conv=>whnf)|(refine ⟨_, _, hH, ?_, ?_⟩;(focus first|(refine ⟨?_, ?_, trivial⟩<;>first|exact PLe.refl _|exact PLe.nil)|exact trivial);try conv=>whnf)|fail)
    · exact Int.natCast_nonneg _
    · have h : s.testBit w = true := h
      refine ⟨⟨i + 1, hi'⟩, by show ws.length - (i + 1) < ws.length - i; omega, ?_⟩
      (refine Wk.of ?_ ?_ rfl rfl rfl<;>repeat' (first|exact trivial|exact WkD.same _|refine WkD.int ?_|refine ⟨?_, ?_⟩|(refine wrapA ?_ ?_ ?_;(focus simp;done);(focus (try dsimp only);omega);(focus (try dsimp only);omega))|fail))
      exact or_shl (q := fun i => s.testBit (ws.getD i 0)) (show i < 64 by omega) (by show s.testBit (ws.getD i 0) = true; rw [hxw]; exact h)
    · have h : s.testBit w = false := h
      refine ⟨⟨i + 1, hi'⟩, by show ws.length - (i + 1) < ws.length - i; omega, ?_⟩
      (refine Wk.of ?_ ?_ rfl rfl rfl<;>repeat' (first|exact trivial|exact WkD.same _|refine WkD.int ?_|refine ⟨?_, ?_⟩|(refine wrapA ?_ ?_ ?_;(focus simp;done);(focus (try dsimp only);omega);(focus (try dsimp only);omega))|fail))
      show ((maskOf (fun i => s.testBit (ws.getD i 0)) i : Nat) : Int) = ((maskOf (fun i => s.testBit (ws.getD i 0)) (i + 1) : Nat) : Int)
      rw [maskOf, show s.testBit (ws.getD i 0) = false by rw [hxw]; exact h]; rfl
  · have hi' : i = ws.length := by have := ge_dec (m := (ws.map i64).length) h (by simpa using hi); simpa using this
    subst hi'
    exact .refl _
theorem rm_Members (s : Nat) : PureFn Tryz.prog 147 [u64 s] (intsPV (memL s)) := by
  refine PureFn.intro mixed (fn := Tryz.f147) rfl rfl rfl fun M w0 => ?_
  try conv=>whnf
  refine ⟨{ w : Nat // w ≤ 64 }, fun w => [(0, .pv (u64 s)), (3, .buf 0 (((List.range w.1).filter s.testBit).map i64).length), (4, .pv (i64 w.1))], fun _ => 1, fun w => [(0, .arr 1 (((List.range w.1).filter s.testBit).map i64))], fun w => 64 - w.1, ⟨⟨0, Nat.zero_le _⟩, (by refine Wk.of ?_ ?_ rfl rfl rfl<;>repeat' (first|exact trivial|exact WkD.same _|exact WkD.new' rfl rfl rfl|exact WkO.new _ _ rfl|exact rfl|refine ⟨?_, ?_⟩|fail))⟩, ?_⟩
  rintro ⟨w, hw⟩
  (try conv=>whnf);repeat' (first|(apply And.intro<;>try conv=>whnf)|(intro h;try conv=>whnf)|(apply bleI;rfl)|fail)
  · have hw' : w < 64 := by have := of_decide_eq_true (show decide ((w : Int) < 64) = true from h); omega
    have hH := rm_Has s w hw'
    clear h
    (try conv=>whnf);repeat' (first|(apply And.intro<;>try conv=>whnf)|(intro h;try conv=>whnf)|(apply cellsI;rfl)|(apply szI;rfl)|(refine PureFn.dcq (f := 85) rfl ?_;try conv=>whnf)|(refine ⟨_, _, hH, ?_, ?_⟩;(focus first|(refine ⟨?_, ?_, trivial⟩<;>first|exact PLe.refl _|exact PLe.nil)|exact trivial);try conv=>whnf)|fail)
    · show (((List.range w).filter s.testBit).map i64).length + 1 ≤ 4294967296
      have := List.length_filter_le s.testBit (List.range w)
      rw [List.length_range] at this
      rw [List.length_map]; omega
    · have h : s.testBit w = true := h
      have e : ((List.range (w + 1)).filter s.testBit).map i64 = ((List.range w).filter s.testBit).map i64 ++ [i64 w] := by
        rw [List.range_succ, List.filter_append, List.filter_cons_of_pos (by simpa using h), List.filter_nil, List.map_append]; rfl
      refine ⟨⟨w + 1, hw'⟩, by show 64 - (w + 1) < 64 - w; omega, Wk.of ?_ ⟨.same _ _ (congrArg (fun z => some (DObj.arr 1 z)) e.symm), trivial, trivial⟩ rfl rfl rfl⟩
      (repeat' (first | (exact trivial) | (exact WkD.same _) | (exact WkD.eq (congrArg (fun z => DV.buf 0 (List.length z)) e.symm)) | (exact WkD.int (wrapA (by simp) (by (try dsimp only); omega) (by (try dsimp only); omega))) | (refine ⟨?_, ?_⟩) | fail))
    · have h : s.testBit w = false := h
      have e : ((List.range (w + 1)).filter s.testBit).map i64 = ((List.range w).filter s.testBit).map i64 := by
        rw [List.range_succ, List.filter_append, List.filter_cons_of_neg (by simp [h]), List.filter_nil, List.append_nil]
      refine ⟨⟨w + 1, hw'⟩, by show 64 - (w + 1) < 64 - w; omega, Wk.of ?_ ⟨.same _ _ (congrArg (fun z => some (DObj.arr 1 z)) e.symm), trivial, trivial⟩ rfl rfl rfl⟩
      (repeat' (first | (exact trivial) | (exact WkD.same _) | (exact WkD.eq (congrArg (fun z => DV.buf 0 (List.length z)) e.symm)) | (exact WkD.int (wrapA (by simp) (by (try dsimp only); omega) (by (try dsimp only); omega))) | (refine ⟨?_, ?_⟩) | fail))
  · have hw' : w = 64 := by have := of_decide_eq_false (show decide ((w : Int) < 64) = false from h); omega
    subst hw'
    exact .refl _
end Go.Proofs.YtlaolpkgabknfaaGreatDoor
set_option maxRecDepth 100000
set_option maxHeartbeats 4000000
namespace Go.Proofs.YtlaolpkgabknfaaGreatDoor
open Go Go.Dv

theorem rm_Take (m : Mo) (ws : List Nat) (n : Nat) (hM : OkM m n) (hw : ∀ w, w ∈ ws → w < n) (hl : ws.length ≤ 64) : PureFn Tryz.prog 148 [m.pv, intsPV ws] (arrI m ws).pv := by
  refine PureFn.introC [6, 14, 15] mixed (fn := Tryz.f148) rfl rfl rfl fun M w0 => ?_
  have hf := hM.fit
  have hn64 := hM.n64
  have hag := hM.ag
  have hfa := hM.fa
  have hw64 : ∀ w, w ∈ ws → w < 64 := fun w hh => by have := hw w hh; omega
  have ei : ∀ r : List Nat, (r.map i64).length = r.length := fun r => List.length_map _
  have eu : ∀ r : List Nat, (r.map u64).length = r.length := fun r => List.length_map _
  have er : ∀ r : List (List Nat), (r.map rowPV).length = r.length := fun r => List.length_map _
  obtain ⟨ro, qro⟩ : ∃ ro : List Nat → List Nat, ro = fun r => ws.map fun w => pullN (r.getD w 0) ws := ⟨_, rfl⟩
  have har : (arrI m ws).pv = .agg [i64 (ws.map i64).length, rowPV ((m.val.take m.val.length).map fun s => pullN s ws), .sl (((m.rel.take m.rel.length).map ro).map rowPV)] := by rw [qro, List.length_map, List.take_length, List.take_length]; rfl
  rw [har]
  try conv=>whnf
  refine ⟨Unit, fun _ => [(1, .pv (intsPV ws)), (2, .ref 0 0), (4, .ref 1 0), (5, .ref 2 0)], fun _ => 3, fun _ => [(0, .var (cellsM m)), (1, .var cells0), (2, .var [.pv (i64 (ws.map i64).length), .pv (rowPV ((m.val.take m.val.length).map fun s => pullN s ws)), .pv .nil])], ?_, ?_⟩
  · try conv=>whnf
    refine ⟨{ i : Nat // i ≤ m.val.length }, fun i => [(1, .pv (intsPV ws)), (2, .ref 0 0), (4, .ref 1 0), (5, .ref 2 0), (6, .pv (i64 i.1))], fun _ => 4, fun i => [(0, .var (cellsM m)), (1, .var cells0), (2, .var [.pv (i64 (ws.map i64).length), .buf 3 (((m.val.take i.1).map fun s => pullN s ws).map u64).length, .pv .nil]), (3, .arr 1 (((m.val.take i.1).map fun s => pullN s ws).map u64))], fun i => m.val.length - i.1, ⟨⟨0, Nat.zero_le _⟩, (by refine Wk.of ?_ ?_ rfl rfl rfl<;>repeat' (first|exact trivial|exact WkD.same _|exact WkO.same _ _ rfl|exact WkD.new' rfl rfl rfl|exact WkO.new _ _ rfl|refine WkO.vars rfl ?_|exact rfl|refine ⟨?_, ?_⟩|fail))⟩, ?_⟩
    rintro ⟨i, hi⟩
    (try conv=>whnf);repeat' (first|(apply And.intro<;>try conv=>whnf)|(intro h;try conv=>whnf)|(apply infoT;rfl)|(refine lin_plan (by kernel_rfl) ?_;try conv=>whnf)|fail)
    · have hi' : i < m.val.length := by simpa using lt_dec h
      obtain ⟨s, hx⟩ : ∃ y, m.val[i]? = some y := ⟨_, List.getElem?_eq_getElem hi'⟩
      have hP := rm_squeeze s ws hl hw64
      have ht := take_map (f := fun s => pullN s ws) hx
      have hvsl : (((m.val.take i).map fun s => pullN s ws).map u64).length ≤ 1000 := by simp; omega
      have er : ((m.val.take i).map fun s => pullN s ws).map u64 ++ [PV.int .u64 ((pullN s ws : Nat) : Int)] = ((m.val.take (i + 1)).map fun s => pullN s ws).map u64 := by rw [ht, List.map_append]; rfl
      have hix := idx_map (g := u64) hx
      (try conv=>whnf);repeat' (first|(apply And.intro<;>try conv=>whnf)|(apply cellsI;rfl)|(apply szI;rfl)|(refine ⟨_, _, rfl, idx_map (by with_reducible assumption), rfl, ?_⟩;try conv=>whnf)|(refine ⟨_, (by (conv=>whnf);exact hP), rfl, ?_⟩;try conv=>whnf)|fail)
      · exact app_big (n := 1000) hvsl (by decide)
      · refine ⟨⟨i + 1, hi'⟩, by show m.val.length - (i + 1) < m.val.length - i; omega, ?_⟩
        (refine Wk.of ?_ ?_ rfl rfl rfl<;>repeat' (first|exact trivial|exact WkD.same _|exact WkO.same _ _ rfl|exact WkD.eq (congrArg (fun z : List PV => DV.buf _ z.length) er)|exact WkO.same _ _ (congrArg (fun z => some (DObj.arr _ z)) er)|refine WkD.int ?_|refine WkO.vars rfl ?_|refine ⟨?_, ?_⟩|(refine wrapA ?_ ?_ ?_;(focus simp;done);(focus (try dsimp only);omega);(focus (try dsimp only);omega))|fail))
    · have hi' : i = m.val.length := by have := ge_dec (m := (m.val.map u64).length) h (by simpa using hi); simpa using this
      subst hi'
      exact ⟨(), (by refine Wk.of ?_ ?_ rfl rfl rfl<;>repeat' (first|exact trivial|exact WkD.same _|exact WkO.same _ _ rfl|exact WkD.fz _ _ _ rfl (Or.inl ⟨_, rfl⟩) rfl|refine WkO.vars rfl ?_|refine ⟨?_, ?_⟩|fail))⟩
  rintro ⟨⟩
  generalize ((m.val.take m.val.length).map fun s => pullN s ws) = V
  refine ⟨Unit, fun _ => [(4, .ref 1 0), (5, .ref 2 0)], fun _ => 3, fun _ => [(1, .var cells0), (2, .var [.pv (i64 (ws.map i64).length), .pv (rowPV V), .pv (.sl (((m.rel.take m.rel.length).map ro).map rowPV))])], ?_, ?_⟩
  · try conv=>whnf
    refine ⟨{ i : Nat // i ≤ m.rel.length }, fun i => [(1, .pv (intsPV ws)), (2, .ref 0 0), (4, .ref 1 0), (5, .ref 2 0), (7, .pv (i64 i.1))], fun _ => 4, fun i => [(0, .var (cellsM m)), (1, .var cells0), (2, .var [.pv (i64 (ws.map i64).length), .pv (rowPV V), .buf 3 (((m.rel.take i.1).map ro).map rowPV).length]), (3, .arr 1 (((m.rel.take i.1).map ro).map rowPV))], fun i => m.rel.length - i.1, ⟨⟨0, Nat.zero_le _⟩, (by refine Wk.of ?_ ?_ rfl rfl rfl<;>repeat' (first|exact trivial|exact WkD.same _|exact WkO.same _ _ rfl|exact WkD.new' rfl rfl rfl|exact WkO.new _ _ rfl|refine WkO.vars rfl ?_|exact rfl|refine ⟨?_, ?_⟩|fail))⟩, ?_⟩
    rintro ⟨i, hi⟩
    (try conv=>whnf);repeat' (first|(apply And.intro<;>try conv=>whnf)|(intro h;try conv=>whnf)|fail)
    · have hi' : i < m.rel.length := by simpa using lt_dec h
      obtain ⟨r, hx⟩ : ∃ y, m.rel[i]? = some y := ⟨_, List.getElem?_eq_getElem hi'⟩
      have hrm : r ∈ m.rel := List.mem_iff_getElem?.2 ⟨_, hx⟩
      have hrl := hM.rows r hrm
      have ht := take_map (f := ro) hx
      have hvsl : (((m.rel.take i).map ro).map rowPV).length ≤ 1000 := by simp; omega
      have er : ((m.rel.take i).map ro).map rowPV ++ [rowPV (ro r)] = ((m.rel.take (i + 1)).map ro).map rowPV := by rw [ht, List.map_append]; rfl
      have hixr := idx_map (g := rowPV) hx
      refine ⟨Unit, fun _ => [(1, .pv (intsPV ws)), (2, .ref 0 0), (4, .ref 1 0), (5, .ref 2 0), (8, .pv (rowPV ((ws.take ws.length).map fun w => pullN (r.getD w 0) ws))), (7, .pv (i64 i))], fun _ => 4, fun _ => [(0, .var (cellsM m)), (1, .var cells0), (2, .var [.pv (i64 (ws.map i64).length), .pv (rowPV V), .buf 3 (((m.rel.take i).map ro).map rowPV).length]), (3, .arr 1 (((m.rel.take i).map ro).map rowPV))], ?_, ?_⟩
      · try conv=>whnf
        refine ⟨{ j : Nat // j ≤ ws.length }, fun j => [(1, .pv (intsPV ws)), (2, .ref 0 0), (4, .ref 1 0), (5, .ref 2 0), (7, .pv (i64 i)), (8, .buf 4 (((ws.take j.1).map fun w => pullN (r.getD w 0) ws).map u64).length), (9, .pv (i64 j.1))], fun _ => 5, fun j => [(0, .var (cellsM m)), (1, .var cells0), (2, .var [.pv (i64 (ws.map i64).length), .pv (rowPV V), .buf 3 (((m.rel.take i).map ro).map rowPV).length]), (3, .arr 1 (((m.rel.take i).map ro).map rowPV)), (4, .arr 1 (((ws.take j.1).map fun w => pullN (r.getD w 0) ws).map u64))], fun j => ws.length - j.1, ⟨⟨0, Nat.zero_le _⟩, (by refine Wk.of ?_ ?_ rfl rfl rfl<;>repeat' (first|exact trivial|exact WkD.same _|exact WkO.same _ _ rfl|exact WkD.new' rfl rfl rfl|exact WkO.new _ _ rfl|exact rfl|refine ⟨?_, ?_⟩|fail))⟩, ?_⟩
        rintro ⟨j, hj⟩
        (try conv=>whnf);repeat' (first|(apply And.intro<;>try conv=>whnf)|(intro h;try conv=>whnf)|(apply infoT;rfl)|(refine lin_plan (by kernel_rfl) ?_;try conv=>whnf)|(refine ⟨_, _, rfl, idx_map (by with_reducible assumption), rfl, ?_⟩;try conv=>whnf)|fail)
        · have hj' : j < ws.length := by simpa using lt_dec h
          obtain ⟨w, hx2⟩ : ∃ y, ws[j]? = some y := ⟨_, List.getElem?_eq_getElem hj'⟩
          have hwn := hw w (List.mem_iff_getElem?.2 ⟨_, hx2⟩)
          have hx3 : r[w]? = some (r.getD w 0) := getD_mem (by omega)
          have hP := rm_squeeze (r.getD w 0) ws hl hw64
          have ht2 := take_map (f := fun w => pullN (r.getD w 0) ws) hx2
          have hvsl2 : (((ws.take j).map fun w => pullN (r.getD w 0) ws).map u64).length ≤ 1000 := by simp; omega
          have er2 : ((ws.take j).map fun w => pullN (r.getD w 0) ws).map u64 ++ [PV.int .u64 ((pullN (r.getD w 0) ws : Nat) : Int)] = ((ws.take (j + 1)).map fun w => pullN (r.getD w 0) ws).map u64 := by rw [ht2, List.map_append]; rfl
          generalize hgz : r.getD w 0 = z at hx3 hP er2
          have hix2 := idx_map (g := i64) hx2
          have hix3 := idx_map (g := u64) hx3
          (try conv=>whnf);repeat' (first|(apply And.intro<;>try conv=>whnf)|(apply infoT;rfl)|(apply cellsI;rfl)|(apply szI;rfl)|(refine ⟨_, _, rfl, idx_map (by with_reducible assumption), rfl, ?_⟩;try conv=>whnf)|(refine ⟨_, (by (conv=>whnf);exact hP), rfl, ?_⟩;try conv=>whnf)|fail)
          · exact app_big (n := 1000) hvsl2 (by decide)
          · refine ⟨⟨j + 1, hj'⟩, by show ws.length - (j + 1) < ws.length - j; omega, ?_⟩
            (refine Wk.of ?_ ?_ rfl rfl rfl<;>repeat' (first|exact trivial|exact WkD.same _|exact WkO.same _ _ rfl|exact WkD.eq (congrArg (fun z : List PV => DV.buf _ z.length) er2)|exact WkO.same _ _ (congrArg (fun z => some (DObj.arr _ z)) er2)|refine WkD.int ?_|refine ⟨?_, ?_⟩|(refine wrapA ?_ ?_ ?_;(focus simp;done);(focus (try dsimp only);omega);(focus (try dsimp only);omega))|fail))
        · have hj' : j = ws.length := by have := ge_dec (m := (ws.map i64).length) h (by simpa using hj); simpa using this
          subst hj'
          exact ⟨(), (by refine Wk.of ?_ ?_ rfl rfl rfl<;>repeat' (first|exact trivial|exact WkD.same _|exact WkO.same _ _ rfl|exact WkD.fz _ _ _ rfl (Or.inl ⟨_, rfl⟩) rfl|refine ⟨?_, ?_⟩|fail))⟩
      rintro ⟨⟩
      have hR : (ws.take ws.length).map (fun w => pullN (r.getD w 0) ws) = ro r := by rw [List.take_length, qro]
      generalize (ws.take ws.length).map (fun w => pullN (r.getD w 0) ws) = R at hR
      rw [← hR] at er
      (try conv=>whnf);repeat' (first|(apply And.intro<;>try conv=>whnf)|(apply cellsI;rfl)|(apply szI;rfl)|fail)
      · exact app_big (n := 1000) hvsl (by decide)
      · refine ⟨⟨i + 1, hi'⟩, by show m.rel.length - (i + 1) < m.rel.length - i; omega, ?_⟩
        (refine Wk.of ?_ ?_ rfl rfl rfl<;>repeat' (first|exact trivial|exact WkD.same _|exact WkO.same _ _ rfl|exact WkD.eq (congrArg (fun z : List PV => DV.buf _ z.length) er)|exact WkO.same _ _ (congrArg (fun z => some (DObj.arr _ z)) er)|refine WkD.int ?_|refine WkO.vars rfl ?_|refine ⟨?_, ?_⟩|(refine wrapA ?_ ?_ ?_;(focus simp;done);(focus (try dsimp only);omega);(focus (try dsimp only);omega))|fail))
    · have hi' : i = m.rel.length := by have := ge_dec (m := (m.rel.map rowPV).length) h (by simpa using hi); simpa using this
      subst hi'
      exact ⟨(), (by refine Wk.of ?_ ?_ rfl rfl rfl<;>repeat' (first|exact trivial|exact WkD.same _|exact WkO.same _ _ rfl|exact WkD.fz _ _ _ rfl (Or.inl ⟨_, rfl⟩) rfl|refine WkO.vars rfl ?_|refine ⟨?_, ?_⟩|fail))⟩
  rintro ⟨⟩
  try conv=>whnf
  exact .refl _
end Go.Proofs.YtlaolpkgabknfaaGreatDoor
set_option maxRecDepth 100000
set_option maxHeartbeats 4000000
namespace Go.Proofs.YtlaolpkgabknfaaGreatDoor
open Go Go.Dv

theorem u_mod : ∃ fs : Array Field, Tryz.prog.underlying 25 = some (.struct fs) ∧ fs.toList.map (·.type) = [3, 22, 23] := ⟨_, rfl, by kernel_rfl⟩
end Go.Proofs.YtlaolpkgabknfaaGreatDoor
set_option maxRecDepth 100000
set_option maxHeartbeats 4000000
namespace Go.Proofs.YtlaolpkgabknfaaGreatDoor
open Go Go.Dv

theorem whenOff {c : Bool} {A B : DV → Prop} (hc : c = false) (h2 : B (.pv (.bool false))) : WhenQ (fun d => c = true → A d) B :=
  WhenQ.mk (d := .pv (.bool false)) (fun h => by rw [hc] at h; cases h) h2
end Go.Proofs.YtlaolpkgabknfaaGreatDoor
set_option maxRecDepth 100000
set_option maxHeartbeats 4000000
namespace Go.Proofs.YtlaolpkgabknfaaGreatDoor
open Go Go.Dv

theorem updI_ok {m : Mo} {a : Act} (h : (updI m a).2.2 = 0) : moaI m a = 0 ∧ (updI m a).2.1 = pairsL m a ∧ (updI m a).1 = prodM m a (pairsL m a) ∧ 1 ≤ (pairsL m a).length ∧ (pairsL m a).length ≤ 64 := by
  unfold updI at h ⊢
  cases h1 : ((worldsI m a).2 != 0) with
  | true => rw [h1] at h; simp only [cond_true] at h; rw [h] at h1; cases h1
  | false =>
    rw [h1] at h
    obtain ⟨k1, k2, k3⟩ := worldsI_ok (m := m) (a := a) (by simpa using h1)
    cases h2 : decide (((worldsI m a).1.length : Int) > 64) with
    | true => rw [h2] at h; cases h
    | false =>
      have := of_decide_eq_false h2
      rw [k2] at this
      refine ⟨k1, ?_, ?_, k3, by omega⟩
      · rw [k2]; rfl
      · rw [k2]; rfl
theorem getD_map_range {β : Type} {f : Nat → β} {n i : Nat} {d : β} (h : i < n) : ((List.range n).map f).getD i d = f i := by
  rw [List.getD_eq_getElem?_getD, List.getElem?_map, List.getElem?_range h]; rfl
end Go.Proofs.YtlaolpkgabknfaaGreatDoor
set_option maxRecDepth 100000
set_option maxHeartbeats 4000000
namespace Go.Proofs.YtlaolpkgabknfaaGreatDoor
open Go Go.Dv

def restPV (x : Mo × List Nat × Int) : PV := .tup [x.1.pv, intsPV x.2.1, .int .i64 x.2.2]
theorem nand_all {s n : Nat} (hs : s < 2 ^ n) (hn : n ≤ 64) : andNotU (s : Nat) ((2 ^ n - 1 : Nat) : Int) = 0 := by
  have h64 : s < 2 ^ 64 := Nat.lt_of_lt_of_le hs (pow64_le hn)
  rw [andNotU_eq h64, Nat.and_two_pow_sub_one_eq_mod, Nat.mod_eq_of_lt hs, Nat.xor_self]; rfl
theorem md_Restrict (m : Mo) (n s : Nat) (hM : OkM m n) (hs : s < 2 ^ n) (h0 : s ≠ 0) : PureFn Tryz.prog 44 [m.pv, u64 s] (restPV (arrI m (memL s), memL s, 0)) := by
  refine PureFn.intro mixed (fn := Tryz.f44) rfl rfl rfl fun M w0 => ?_
  have hn64 := hM.n64
  have hs64 : s < 2 ^ 64 := Nat.lt_of_lt_of_le hs (pow64_le hn64)
  have hC := md_Check m hM.fit
  rw [ok_moI hM] at hC
  have hA := md_all n (by omega)
  rw [show i64 n = .int .i64 m.n by rw [hM.nn]; rfl] at hA
  have hB := md_members s hs64
  have hR := md_arrange m (memL s) n hM (fun w hw => bit_lt hs (memL_mem.1 hw).2) (memL_len s)
  have hz := nand_all hs hn64
  have h0' : ¬ (s : Int) = 0 := by omega
  generalize memL s = ws at hB hR
  (try conv=>whnf);repeat' (first|(apply And.intro<;>try conv=>whnf)|(intro h;try conv=>whnf)|(refine PureFn.dcq (f := 40) rfl ?_;try conv=>whnf)|(refine PureFn.dcq (f := 78) rfl ?_;try conv=>whnf)|(refine PureFn.dcq (f := 79) rfl ?_;try conv=>whnf)|(refine PureFn.dcq (f := 80) rfl ?_;try conv=>whnf)|(refine ⟨_, _, hC, ?_, ?_⟩;(focus first|(refine ⟨?_, trivial⟩<;>first|exact PLe.refl _|exact PLe.nil)|exact trivial);try conv=>whnf)|(refine ⟨_, _, hA, ?_, ?_⟩;(focus first|(refine ⟨?_, trivial⟩<;>first|exact PLe.refl _|exact PLe.nil)|exact trivial);try conv=>whnf)|(refine ⟨_, _, hB, ?_, ?_⟩;(focus first|(refine ⟨?_, trivial⟩<;>first|exact PLe.refl _|exact PLe.nil)|exact trivial);try conv=>whnf)|(refine ⟨_, _, hR, ?_, ?_⟩;(focus first|(refine ⟨?_, ?_, trivial⟩<;>first|exact PLe.refl _|exact PLe.nil)|exact trivial);try conv=>whnf)|fail)
  · exact absurd (show ((0 : Int) != 0) = true from h) (by decide)
  · have h1 : (andNotU (s : Nat) ((2 ^ n - 1 : Nat) : Int) != 0) = true := h
    rw [hz] at h1; exact absurd h1 (by decide)
  · have h1 : ((s : Int) == 0) = true := h
    exact absurd (by simpa using h1) h0'
  · exact .refl _
/-! the product with a public announcement -/
theorem pairs_one {p : Nat → Nat} : ∀ n, pairsW p 1 n = ((List.range n).filter (p 0).testBit).map fun w => (w, 0)
  | 0 => rfl
  | n + 1 => by
    rw [pairsW, pairs_one n, List.range_succ, List.filter_append, List.map_append]
    congr 1
    rw [pairsE, pairsE, List.filter_cons, List.filter_nil]
    cases (p 0).testBit n <;> rfl
theorem filter_more {s n : Nat} (hs : s < 2 ^ n) : ∀ d, (List.range (n + d)).filter s.testBit = (List.range n).filter s.testBit
  | 0 => rfl
  | d + 1 => by
    rw [show n + (d + 1) = n + d + 1 by omega, List.range_succ, List.filter_append, filter_more hs d, List.filter_cons, List.filter_nil, Nat.testBit_lt_two_pow (Nat.lt_of_lt_of_le hs (Nat.pow_le_pow_right (by decide) (by omega)))]
    simp
theorem memL_range {s n : Nat} (hs : s < 2 ^ n) (hn : n ≤ 64) : memL s = (List.range n).filter s.testBit := by
  have := filter_more hs (64 - n)
  rw [show n + (64 - n) = 64 by omega] at this
  exact this
def pubA (A : Nat) (f : List Nd) : Act := ⟨[comp f], [[]], onesL A⟩
end Go.Proofs.YtlaolpkgabknfaaGreatDoor
set_option maxRecDepth 100000
set_option maxHeartbeats 4000000
namespace Go.Proofs.YtlaolpkgabknfaaGreatDoor
open Go Go.Dv

theorem rm_Restrict (m : Mo) (n s : Nat) (hM : OkM m n) (hs : s < 2 ^ n) (h0 : s ≠ 0) : PureFn Tryz.prog 109 [m.pv, u64 s] (restPV (arrI m (memL s), memL s, 0)) := by
  have hn64 := hM.n64
  have hC := rm_Check m hM.fit
  rw [ok_moI hM] at hC
  have hA := rm_All n hn64
  rw [show i64 n = .int .i64 m.n by rw [hM.nn]; rfl] at hA
  have hB := rm_Members s
  have hR := rm_Take m (memL s) n hM (fun w hw => bit_lt hs (memL_mem.1 hw).2) (memL_len s)
  have hz := nand_all hs hn64
  have h0' : ¬ (s : Int) = 0 := by omega
  generalize memL s = ws at hB hR
  refine PureFn.intro mixed (fn := Tryz.f109) rfl rfl rfl fun M w0 => ?_
  (try conv=>whnf);repeat' (first|(apply And.intro<;>try conv=>whnf)|(intro h;try conv=>whnf)|(refine PureFn.dcq (f := 42) rfl ?_;try conv=>whnf)|(refine PureFn.dcq (f := 20) rfl ?_;try conv=>whnf)|(refine PureFn.dcq (f := 147) rfl ?_;try conv=>whnf)|(refine PureFn.dcq (f := 148) rfl ?_;try conv=>whnf)|(refine ⟨_, _, hC, ?_, ?_⟩;(focus first|(refine ⟨?_, trivial⟩<;>first|exact PLe.refl _|exact PLe.nil)|exact trivial);try conv=>whnf)|(refine ⟨_, _, hA, ?_, ?_⟩;(focus first|(refine ⟨?_, trivial⟩<;>first|exact PLe.refl _|exact PLe.nil)|exact trivial);try conv=>whnf)|(refine ⟨_, _, hB, ?_, ?_⟩;(focus first|(refine ⟨?_, trivial⟩<;>first|exact PLe.refl _|exact PLe.nil)|exact trivial);try conv=>whnf)|(refine ⟨_, _, hR, ?_, ?_⟩;(focus first|(refine ⟨?_, ?_, trivial⟩<;>first|exact PLe.refl _|exact PLe.nil)|exact trivial);try conv=>whnf)|fail)
  · exact absurd (show ((0 : Int) != 0) = true from h) (by decide)
  · have h1 : (andNotU (s : Nat) ((2 ^ n - 1 : Nat) : Int) != 0) = true := h
    rw [hz] at h1; exact absurd h1 (by decide)
  · have h1 : ((s : Int) == 0) = true := h
    exact absurd (by simpa using h1) h0'
  · exact .refl _
end Go.Proofs.YtlaolpkgabknfaaGreatDoor
set_option maxRecDepth 100000
set_option maxHeartbeats 4000000
namespace Go.Proofs.YtlaolpkgabknfaaGreatDoor
open Go Go.Dv

/-- A set whose members are told by their places in a list, added to a set. -/
def sprG (t : Nat) : List Nat → Nat → Nat → Nat
  | [], _, acc => acc
  | w :: r, i, acc => sprG t r (i + 1) (acc ||| (bif t.testBit i then 2 ^ w else 0))
theorem sprG_acc (t : Nat) : ∀ (ws : List Nat) (i acc : Nat), sprG t ws i acc = acc ||| sprG t ws i 0
  | [], i, acc => (Nat.or_zero acc).symm
  | w :: r, i, acc => by
    rw [sprG, sprG, sprG_acc t r (i + 1) (acc ||| _), sprG_acc t r (i + 1) (0 ||| _), Nat.zero_or, Nat.or_assoc]
theorem sprG_lt {t n : Nat} : ∀ {ws : List Nat} {i acc : Nat}, (∀ w, w ∈ ws → w < n) → acc < 2 ^ n → sprG t ws i acc < 2 ^ n
  | [], _, _, _, h => h
  | w :: r, i, acc, hw, h => by
    rw [sprG]
    refine sprG_lt (fun x hx => hw x (List.mem_cons_of_mem _ hx)) (Nat.or_lt_two_pow h ?_)
    cases t.testBit i with
    | true => exact Nat.pow_lt_pow_right (by decide) (hw w (by simp))
    | false => exact Nat.two_pow_pos n
theorem sprG_drop {t : Nat} {ws : List Nat} {i acc w : Nat} (h : ws[i]? = some w) : sprG t (ws.drop i) i acc = sprG t (ws.drop (i + 1)) (i + 1) (acc ||| (bif t.testBit i then 2 ^ w else 0)) := by
  obtain ⟨h1, h2⟩ := List.getElem?_eq_some_iff.1 h
  rw [List.drop_eq_getElem_cons h1, h2]; rfl
theorem sprG_bit {t : Nat} : ∀ {ws : List Nat} {i acc v : Nat}, (sprG t ws i acc).testBit v = true ↔ acc.testBit v = true ∨ ∃ k : Nat, ws[k]? = some v ∧ t.testBit (i + k) = true
  | [], i, acc, v => by simp [sprG]
  | w :: r, i, acc, v => by
    rw [sprG, sprG_bit, Nat.testBit_or, Bool.or_eq_true]
    constructor
    · rintro ((h | h) | ⟨k, h1, h2⟩)
      · exact .inl h
      · cases hb : t.testBit i with
        | true =>
          rw [hb, cond_true, Nat.testBit_two_pow, decide_eq_true_eq] at h
          exact .inr ⟨0, by rw [h]; rfl, hb⟩
        | false => rw [hb, cond_false, Nat.zero_testBit] at h; cases h
      · exact .inr ⟨k + 1, by simpa using h1, by rw [← h2]; congr 1; omega⟩
    · rintro (h | ⟨k, h1, h2⟩)
      · exact .inl (.inl h)
      · cases k with
        | zero =>
          refine .inl (.inr ?_)
          have : w = v := by simpa using h1
          rw [show t.testBit i = true from h2, cond_true, this, Nat.testBit_two_pow]; simp
        | succ k => exact .inr ⟨k, by simpa using h1, by rw [← h2]; congr 1; omega⟩
/-- A set without the worlds of the pairs of an event whose places are not in a set. -/
def clrN (acc w : Nat) : Nat := acc ^^^ (acc &&& 2 ^ w)
theorem clrN_bit {acc w v : Nat} : (clrN acc w).testBit v = (acc.testBit v && !(w == v)) := by
  rw [clrN, Nat.testBit_xor, Nat.testBit_and, Nat.testBit_two_pow]
  by_cases h : w = v
  · rw [decide_eq_true h, show (w == v) = true by simpa using h]; cases acc.testBit v <;> rfl
  · rw [decide_eq_false h, show (w == v) = false by simpa using h]; cases acc.testBit v <;> rfl
def evG (e : Int) (t : Nat) : List (Nat × Nat) → Nat → Nat → Nat
  | [], _, acc => acc
  | q :: r, i, acc => evG e t r (i + 1) (bif (bif (q.2 : Int) == e then !t.testBit i else false) then clrN acc q.1 else acc)
theorem evG_drop {e : Int} {t : Nat} {l : List (Nat × Nat)} {i acc : Nat} {q : Nat × Nat} (h : l[i]? = some q) : evG e t (l.drop i) i acc = evG e t (l.drop (i + 1)) (i + 1) (bif (bif (q.2 : Int) == e then !t.testBit i else false) then clrN acc q.1 else acc) := by
  obtain ⟨h1, h2⟩ := List.getElem?_eq_some_iff.1 h
  rw [List.drop_eq_getElem_cons h1, h2]; rfl
theorem evG_bit {e t : Nat} : ∀ {l : List (Nat × Nat)} {i acc v : Nat}, (evG e t l i acc).testBit v = true ↔ acc.testBit v = true ∧ ∀ k : Nat, l[k]? = some (v, e) → t.testBit (i + k) = true
  | [], i, acc, v => by simp [evG]
  | q :: r, i, acc, v => by
    rw [evG, evG_bit]
    have key : ∀ (A : Prop) (c : Bool), ((bif c then clrN acc q.1 else acc).testBit v = true ∧ A) ↔ (acc.testBit v = true ∧ (c = true → q.1 ≠ v) ∧ A) := fun A c => by
      cases c with
      | false => simp
      | true =>
        rw [cond_true, clrN_bit, Bool.and_eq_true]
        simp only [Bool.not_eq_true', beq_eq_false_iff_ne, ne_eq, true_implies]
        exact and_assoc
    rw [key]
    refine and_congr_right fun _ => ?_
    constructor
    · rintro ⟨h1, h2⟩ k hk
      cases k with
      | zero =>
        have hq : q = (v, e) := by simpa using hk
        cases hb : t.testBit i with
        | true => rfl
        | false =>
          exfalso
          refine h1 ?_ (by rw [hq])
          rw [hq, hb]; simp
      | succ k =>
        have := h2 k (by simpa using hk)
        rw [← this]; congr 1; omega
    · intro h
      refine ⟨fun hc hv => ?_, fun k hk => ?_⟩
      · cases he : ((q.2 : Int) == (e : Int)) with
        | false => rw [he] at hc; cases hc
        | true =>
          rw [he, cond_true] at hc
          have h2 : q = (v, e) := by
            obtain ⟨x, y⟩ := q
            have e1 : x = v := hv
            have e2 : (y : Int) = e := by simpa using he
            rw [Prod.mk.injEq]; exact ⟨e1, by omega⟩
          have := h 0 (by rw [h2]; rfl)
          rw [Nat.add_zero] at this
          rw [this] at hc; cases hc
      · have := h (k + 1) (by simpa using hk)
        rw [← this]; congr 1; omega
theorem clrN_lt {acc w n : Nat} (h : acc < 2 ^ n) : clrN acc w < 2 ^ n := Nat.xor_lt_two_pow h (Nat.lt_of_le_of_lt Nat.and_le_left h)
theorem evG_lt {e : Int} {t n : Nat} : ∀ {l : List (Nat × Nat)} {i acc : Nat}, acc < 2 ^ n → evG e t l i acc < 2 ^ n
  | [], _, _, h => h
  | q :: r, i, acc, h => by
    rw [evG]
    refine evG_lt ?_
    cases (bif (q.2 : Int) == e then !t.testBit i else false) with
    | true => exact clrN_lt h
    | false => exact h

/-! where a formula of the dynamic language holds; nothing, if a product is too large -/
def dvT (acts : List Act) : Tr → Mo → Option Nat
  | .none, _ => some 0
  | .nd op i e g a b, m =>
    bif op == 16 then
      match dvT acts a m with
      | none => none
      | some s => bif s == 0 then some (2 ^ m.n.toNat - 1) else match dvT acts b (arrI m (memL s)) with
        | none => none
        | some t => some (sprG t (memL s) 0 (notN m.n.toNat s))
    else bif op == 17 then
      bif (holdsI m ((acts.getD i.toNat noAct).pre.getD e.toNat [])).1 == 0 then some (2 ^ m.n.toNat - 1)
      else bif (updI m (acts.getD i.toNat noAct)).2.2 != 0 then none
      else match dvT acts a (updI m (acts.getD i.toNat noAct)).1 with
        | none => none
        | some t => some (evG e t (updI m (acts.getD i.toNat noAct)).2.1 0 (2 ^ m.n.toNat - 1))
    else match dvT acts a m, dvT acts b m with
      | some x, some y => some (vlN m m.n.toNat op i g x y)
      | _, _ => none
/-- A model and an environment that fit. -/
structure OkD (acts : List Act) (m : Mo) (n : Nat) : Prop where
  okm : OkM m n
  act : ∀ a, a ∈ acts → actI a m.rel.length m.val.length = 0
theorem arr_ok {m : Mo} {n : Nat} (hM : OkM m n) {ws : List Nat} (h1 : 1 ≤ ws.length) (h64 : ws.length ≤ 64) : OkM (arrI m ws) ws.length := by
  refine ⟨rfl, h1, h64, by simp [arrI]; exact hM.ag, by simp [arrI]; exact hM.fa, fun r hr => ?_, fun s hs => ?_, fun r hr s hs => ?_⟩
  · obtain ⟨r0, _, rfl⟩ := List.mem_map.1 hr
    simp
  · obtain ⟨s0, _, rfl⟩ := List.mem_map.1 hs
    exact maskOf_lt _ _
  · obtain ⟨r0, _, rfl⟩ := List.mem_map.1 hr
    obtain ⟨w, _, rfl⟩ := List.mem_map.1 hs
    exact maskOf_lt _ _
theorem OkD.arr {acts : List Act} {m : Mo} {n s : Nat} (h : OkD acts m n) (hs : s < 2 ^ n) (h0 : s ≠ 0) : OkD acts (arrI m (memL s)) (memL s).length := by
  refine ⟨arr_ok h.okm (memL_pos h0 (Nat.lt_of_lt_of_le hs (pow64_le h.okm.n64))) (memL_len s), fun a ha => ?_⟩
  have e1 : (arrI m (memL s)).rel.length = m.rel.length := by simp [arrI]
  have e2 : (arrI m (memL s)).val.length = m.val.length := by simp [arrI]
  rw [e1, e2]
  exact h.act a ha
theorem OkD.upd {acts : List Act} {m : Mo} {n : Nat} {a : Act} (h : OkD acts m n) (h0 : (updI m a).2.2 = 0) : OkD acts (updI m a).1 (updI m a).2.1.length ∧ ∀ q, q ∈ (updI m a).2.1 → q.1 < n := by
  obtain ⟨k1, k2, k3, k4, k5⟩ := updI_ok h0
  rw [k2, k3]
  refine ⟨⟨prod_ok h.okm k4 k5, fun b hb => ?_⟩, fun q hq => ?_⟩
  · have e1 : (prodM m a (pairsL m a)).rel.length = m.rel.length := by simp [prodM]
    have e2 : (prodM m a (pairsL m a)).val.length = m.val.length := by simp [prodM]
    rw [e1, e2]
    exact h.act b hb
  · rw [pairsL, h.okm.nn] at hq
    exact (pairsW_mem.1 hq).1
end Go.Proofs.YtlaolpkgabknfaaGreatDoor
set_option maxRecDepth 100000
set_option maxHeartbeats 4000000
namespace Go.Proofs.YtlaolpkgabknfaaGreatDoor
open Go Go.Dv

/-! requests -/
def actsI (A F : Int) : List Act → Int
  | [] => 0
  | a :: r => bif actI a A F != 0 then actI a A F else actsI A F r
def chkD (m : Mo) (acts : List Act) : Int := bif moI m != 0 then moI m else bif decide ((acts.length : Int) > 8) then 8 else actsI (m.rel.length : Int) (m.val.length : Int) acts
def badA (acts : List Act) (x : Nd) : Bool := bif x.op == 17 then (bif decide (x.i ≥ (acts.length : Int)) then true else decide (x.e ≥ ((acts.getD x.i.toNat noAct).pre.length : Int))) else false
def reqD (m : Mo) (acts : List Act) (f : List Nd) : Int :=
  bif chkD m acts != 0 then chkD m acts else bif check f != 0 then check f else bif nand64' (frags f : Nat) 207 != 0 then 10 else bif !fits f (m.rel.length : Int) (m.val.length : Int) then 2 else bif (comp f).any (badA acts) then 6 else 0
def dynI (m : Mo) (acts : List Act) (f : List Nd) : Nat × Int := bif reqD m acts f != 0 then (0, reqD m acts f) else match dvT acts (root f) m with
  | none => (0, 8)
  | some s => (s, 0)
theorem actsI_ok {A F : Int} : ∀ {l : List Act}, actsI A F l = 0 → ∀ a, a ∈ l → actI a A F = 0
  | [], _, a, ha => by cases ha
  | b :: r, h, a, ha => by
    rw [actsI] at h
    cases hb : (actI b A F != 0) with
    | true => rw [hb] at h; simp only [cond_true] at h; rw [h] at hb; cases hb
    | false =>
      rw [hb] at h
      rcases List.mem_cons.1 ha with rfl | ha
      · simpa using hb
      · exact actsI_ok (show actsI A F r = 0 from h) a ha
theorem chkD_ok {m : Mo} {acts : List Act} (h : chkD m acts = 0) : ∃ n, OkD acts m n ∧ acts.length ≤ 8 := by
  unfold chkD at h
  cases h1 : (moI m != 0) with
  | true => rw [h1] at h; simp only [cond_true] at h; rw [h] at h1; cases h1
  | false =>
    rw [h1, cond_false] at h
    cases h2 : decide ((acts.length : Int) > 8) with
    | true => rw [h2] at h; cases h
    | false =>
      rw [h2, cond_false] at h
      obtain ⟨n, hM⟩ := moI_ok (m := m) (by simpa using h1)
      have := of_decide_eq_false h2
      exact ⟨n, ⟨hM, actsI_ok h⟩, by omega⟩
/-- May a node of a formula be asked for? -/
def ndQ (A F : Nat) (acts : List Act) (op i e g : Int) : Bool :=
  decide (fragN ⟨op, i, e, g, 0, 0⟩ &&& 207 = fragN ⟨op, i, e, g, 0, 0⟩) && decide (agN ⟨op, i, e, g, 0, 0⟩ < 2 ^ A) && decide (factN ⟨op, i, e, g, 0, 0⟩ < 2 ^ F) && !badA acts ⟨op, i, e, g, 0, 0⟩
theorem nand_sub {a b : Nat} (ha : a < 2 ^ 62) : nand64' (a : Int) (b : Int) = 0 ↔ subM a b = true := by rw [← nand_zero ha, beq_iff_eq]
theorem orN_in {m : Nd → Nat} : ∀ {c : List Nd} {y : Nd}, y ∈ c → Sub (m y) (orN m c)
  | x :: r, y, h => by
    rw [orN_cons]
    intro i hi
    rw [Nat.testBit_or, Bool.or_eq_true]
    rcases List.mem_cons.1 h with rfl | h
    · exact .inl hi
    · exact .inr (orN_in h i hi)
theorem orN_all {m : Nd → Nat} {b : Nat} : ∀ {c : List Nd}, (∀ x, x ∈ c → Sub (m x) b) → Sub (orN m c) b
  | [], _ => fun i hi => by simp [orN] at hi
  | x :: r, h => by
    rw [orN_cons]
    exact or_sub (h x (by simp)) (orN_all fun y hy => h y (List.mem_cons_of_mem _ hy))
theorem and_self_sub {a b : Nat} : a &&& b = a ↔ Sub a b := by
  constructor
  · intro h i hi
    rw [← h, Nat.testBit_and, Bool.and_eq_true] at hi
    exact hi.2
  · intro h
    apply Nat.eq_of_testBit_eq
    intro i
    rw [Nat.testBit_and]
    cases hb : a.testBit i with
    | false => rfl
    | true => rw [h i hb]; rfl
theorem reqD_iff {m : Mo} {acts : List Act} {f : List Nd} : reqD m acts f = 0 ↔ chkD m acts = 0 ∧ check f = 0 ∧ ∀ x, x ∈ comp f → ndQ m.rel.length m.val.length acts x.op x.i x.e x.g = true := by
  have hfr : frags f < 2 ^ 62 := Nat.lt_of_lt_of_le (frags_lt f) (by decide)
  have hag := agents_lt f
  have hfa := facts_lt f
  have e1 : ∀ x : Nd, fragN ⟨x.op, x.i, x.e, x.g, 0, 0⟩ = fragN x := fun x => rfl
  have e2 : ∀ x : Nd, agN ⟨x.op, x.i, x.e, x.g, 0, 0⟩ = agN x := fun x => rfl
  have e3 : ∀ x : Nd, factN ⟨x.op, x.i, x.e, x.g, 0, 0⟩ = factN x := fun x => rfl
  have e4 : ∀ x : Nd, badA acts ⟨x.op, x.i, x.e, x.g, 0, 0⟩ = badA acts x := fun x => rfl
  constructor
  · intro h
    unfold reqD at h
    cases h1 : (chkD m acts != 0) with
    | true => rw [h1] at h; simp only [cond_true] at h; rw [h] at h1; cases h1
    | false =>
      rw [h1, cond_false] at h
      cases h2 : (check f != 0) with
      | true => rw [h2] at h; simp only [cond_true] at h; rw [h] at h2; cases h2
      | false =>
        rw [h2, cond_false] at h
        cases h3 : (nand64' (frags f : Nat) 207 != 0) with
        | true => rw [h3] at h; cases h
        | false =>
          rw [h3, cond_false] at h
          cases h4 : (!fits f (m.rel.length : Int) (m.val.length : Int)) with
          | true => rw [h4] at h; cases h
          | false =>
            rw [h4, cond_false] at h
            cases h5 : (comp f).any (badA acts) with
            | true => rw [h5] at h; cases h
            | false =>
              have hc : check f = 0 := by simpa using h2
              have hfit : fits f (m.rel.length : Int) (m.val.length : Int) = true := by simpa using h4
              have h6 : belowB (agents f) (m.rel.length : Int) = true ∧ belowB (facts f) (m.val.length : Int) = true := by
                unfold fits at hfit
                rw [hc] at hfit
                cases hb : belowB (agents f) (m.rel.length : Int) with
                | true => rw [hb] at hfit; exact ⟨rfl, hfit⟩
                | false => rw [hb] at hfit; cases hfit
              rw [below_lt hag (by decide), below_lt hfa (by decide)] at h6
              have h7 : subM (frags f) 207 = true := (nand_sub hfr).1 (by simpa using h3)
              rw [subM_iff] at h7
              refine ⟨by simpa using h1, hc, fun x hx => ?_⟩
              simp only [ndQ, e1, e2, e3, e4, Bool.and_eq_true, decide_eq_true_eq]
              refine ⟨⟨⟨and_self_sub.2 ((orN_in hx).trans h7), Nat.lt_of_le_of_lt (orN_le hx) h6.1⟩, Nat.lt_of_le_of_lt (orN_le hx) h6.2⟩, ?_⟩
              have := List.any_eq_false.1 h5 x hx
              simpa using this
  · rintro ⟨h1, h2, h3⟩
    have h4 : ∀ x, x ∈ comp f → fragN x &&& 207 = fragN x ∧ agN x < 2 ^ m.rel.length ∧ factN x < 2 ^ m.val.length ∧ badA acts x = false := fun x hx => by
      have := h3 x hx
      simp only [ndQ, e1, e2, e3, e4, Bool.and_eq_true, decide_eq_true_eq] at this
      exact ⟨this.1.1.1, this.1.1.2, this.1.2, by simpa using this.2⟩
    have h5 : nand64' (frags f : Nat) 207 = 0 := (nand_sub (b := 207) hfr).2 (subM_iff.2 (orN_all fun x hx => and_self_sub.1 (h4 x hx).1))
    have h6 : agents f < 2 ^ m.rel.length := orN_lt fun x hx => (h4 x hx).2.1
    have h7 : facts f < 2 ^ m.val.length := orN_lt fun x hx => (h4 x hx).2.2.1
    have h8 : fits f (m.rel.length : Int) (m.val.length : Int) = true := by
      unfold fits
      rw [h2, (below_lt hag (by decide)).2 h6, show belowB (facts f) (m.val.length : Int) = true from (below_lt hfa (by decide)).2 h7]; rfl
    have h9 : (comp f).any (badA acts) = false := List.any_eq_false.2 fun x hx => by rw [(h4 x hx).2.2.2]; simp
    rw [reqD, h1, h2, h5, h8, h9]; rfl
end Go.Proofs.YtlaolpkgabknfaaGreatDoor
set_option maxRecDepth 100000
set_option maxHeartbeats 4000000
namespace Go.Proofs.YtlaolpkgabknfaaGreatDoor
open Go Go.Dv

/-- The children that are evaluated in the same model. -/
def kidX (x : Nd) : Bool := bif usesX x.op then !(x.op == 17) else false
def kidY (x : Nd) : Bool := bif usesY x.op then !(x.op == 16) else false
theorem kidX_none {acts : List Act} {m : Mo} {c : List Nd} (hc : Okl c) {i : Nat} {x : Nd} (hx : c[i]? = some x) (hk : kidX x = true) (h : dvT acts (tree c x.x.toNat) m = none) : dvT acts (tree c i) m = none := by
  unfold kidX at hk
  cases hu : usesX x.op with
  | false => rw [hu] at hk; cases hk
  | true =>
    rw [hu, cond_true] at hk
    have h17 : (x.op == 17) = false := by simpa using hk
    rw [tree_nd hc hx, hu, cond_true, dvT, h, h17]
    cases (x.op == 16) <;> rfl
theorem kidY_none {acts : List Act} {m : Mo} {c : List Nd} (hc : Okl c) {i : Nat} {x : Nd} (hx : c[i]? = some x) (hk : kidY x = true) (h : dvT acts (tree c x.y.toNat) m = none) : dvT acts (tree c i) m = none := by
  unfold kidY at hk
  cases hu : usesY x.op with
  | false => rw [hu] at hk; cases hk
  | true =>
    rw [hu, cond_true] at hk
    have h16 : (x.op == 16) = false := by simpa using hk
    have h17 : (x.op == 17) = false := by
      cases h : (x.op == 17) with
      | false => rfl
      | true => rw [show x.op = 17 by simpa using h] at hu; exact absurd hu (by decide)
    rw [tree_nd hc hx, hu, cond_true, dvT, h, h16, h17]
    cases dvT acts (bif usesX x.op then tree c x.x.toNat else .none) m <;> rfl
def setX (x : Nd) (l : List Bool) : List Bool := bif kidX x then l.set x.x.toNat true else l
def setY (x : Nd) (l : List Bool) : List Bool := bif kidY x then l.set x.y.toNat true else l
def nstep (x : Nd) (i : Nat) (l : List Bool) : List Bool := bif l.getD i false then setY x (setX x l) else l
def needG (c : List Nd) : Nat → List Bool → List Bool
  | 0, l => l
  | k + 1, l => needG c k (nstep (c.getD k ⟨0, 0, 0, 0, 0, 0⟩) k l)
def needI (root : Nat) : List Bool := (List.range (root + 1)).map fun i => i == root
def needL (c : List Nd) (root : Nat) : List Bool := needG c (root + 1) (needI root)
theorem set_len (x : Nd) (l : List Bool) : (setX x l).length = l.length ∧ (setY x l).length = l.length := by
  unfold setX setY
  cases kidX x <;> cases kidY x <;> simp
theorem nstep_len (x : Nd) (i : Nat) (l : List Bool) : (nstep x i l).length = l.length := by
  unfold nstep
  cases l.getD i false with
  | true => rw [cond_true, (set_len _ _).2, (set_len _ _).1]
  | false => rfl
theorem needG_len (c : List Nd) : ∀ k l, (needG c k l).length = l.length
  | 0, _ => rfl
  | k + 1, l => by rw [needG, needG_len c k, nstep_len]
theorem getD_set {l : List Bool} {i j : Nat} {b : Bool} : (l.set i b).getD j false = if i = j ∧ i < l.length then b else l.getD j false := by
  rw [List.getD_eq_getElem?_getD, List.getElem?_set, List.getD_eq_getElem?_getD]
  by_cases h : i = j
  · subst h
    by_cases h2 : i < l.length
    · simp [h2]
    · simp [h2]
  · simp [h]
theorem nstep_get {x : Nd} {i j : Nat} {l : List Bool} : (nstep x i l).getD j false = true → l.getD j false = true ∨ (l.getD i false = true ∧ ((kidX x = true ∧ x.x.toNat = j) ∨ (kidY x = true ∧ x.y.toNat = j))) := by
  unfold nstep
  cases hi : l.getD i false with
  | false => exact fun h => .inl h
  | true =>
    rw [cond_true]
    intro h
    unfold setY at h
    cases hy : kidY x with
    | true =>
      rw [hy, cond_true, getD_set] at h
      by_cases e : x.y.toNat = j ∧ x.y.toNat < (setX x l).length
      · exact .inr ⟨rfl, .inr ⟨rfl, e.1⟩⟩
      · rw [if_neg e] at h
        unfold setX at h
        cases hx : kidX x with
        | true =>
          rw [hx, cond_true, getD_set] at h
          by_cases e2 : x.x.toNat = j ∧ x.x.toNat < l.length
          · exact .inr ⟨rfl, .inl ⟨rfl, e2.1⟩⟩
          · rw [if_neg e2] at h; exact .inl h
        | false => rw [hx] at h; exact .inl h
    | false =>
      rw [hy, cond_false] at h
      unfold setX at h
      cases hx : kidX x with
      | true =>
        rw [hx, cond_true, getD_set] at h
        by_cases e2 : x.x.toNat = j ∧ x.x.toNat < l.length
        · exact .inr ⟨rfl, .inl ⟨rfl, e2.1⟩⟩
        · rw [if_neg e2] at h; exact .inl h
      | false => rw [hx] at h; exact .inl h
theorem setX_up {x : Nd} {l : List Bool} {j : Nat} (h : l.getD j false = true) : (setX x l).getD j false = true := by
  unfold setX
  cases kidX x with
  | true => rw [cond_true, getD_set]; split <;> first | rfl | exact h
  | false => exact h
theorem setY_up {x : Nd} {l : List Bool} {j : Nat} (h : l.getD j false = true) : (setY x l).getD j false = true := by
  unfold setY
  cases kidY x with
  | true => rw [cond_true, getD_set]; split <;> first | rfl | exact h
  | false => exact h
theorem nstep_up {x : Nd} {i j : Nat} {l : List Bool} (h : l.getD j false = true) : (nstep x i l).getD j false = true := by
  unfold nstep
  cases l.getD i false with
  | true => exact setY_up (setX_up h)
  | false => exact h
theorem needG_up {c : List Nd} {j : Nat} : ∀ k {l : List Bool}, l.getD j false = true → (needG c k l).getD j false = true
  | 0, _, h => h
  | k + 1, _, h => needG_up k (nstep_up h)
section
variable {c : List Nd} (hc : Okl c)
include hc
theorem kid_lt {i : Nat} {x : Nd} (hx : c[i]? = some x) : (kidX x = true → x.x.toNat < i) ∧ (kidY x = true → x.y.toNat < i) := by
  have ok := hc i x hx
  constructor
  · intro h
    unfold kidX at h
    cases hu : usesX x.op with
    | false => rw [hu] at h; cases h
    | true => have := ok.x hu; omega
  · intro h
    unfold kidY at h
    cases hu : usesY x.op with
    | false => rw [hu] at h; cases h
    | true => have := ok.y hu; omega
theorem needG_keep : ∀ (k : Nat) {l : List Bool} {j : Nat}, k ≤ c.length → k ≤ j → (needG c k l).getD j false = true → l.getD j false = true
  | 0, _, _, _, _, h => h
  | k + 1, l, j, hk, hj, h => by
    have h1 := needG_keep k (by omega) (by omega) h
    have hx := getD_mem (l := c) (i := k) (d := ⟨0, 0, 0, 0, 0, 0⟩) (by omega)
    obtain ⟨q1, q2⟩ := kid_lt hc hx
    rcases nstep_get h1 with h2 | ⟨_, ⟨h3, h4⟩ | ⟨h3, h4⟩⟩
    · exact h2
    · have := q1 h3; omega
    · have := q2 h3; omega
/-- What is needed for a node is needed. -/
theorem needG_kid : ∀ (k : Nat) {l : List Bool} {i : Nat} {x : Nd}, k ≤ c.length → k ≤ l.length → i < k → c[i]? = some x → (needG c k l).getD i false = true →
    (kidX x = true → (needG c k l).getD x.x.toNat false = true) ∧ (kidY x = true → (needG c k l).getD x.y.toNat false = true)
  | 0, _, _, _, _, _, hi, _, _ => by omega
  | k + 1, l, i, x, hk, hl, hi, hx, h => by
    by_cases e : i = k
    · subst e
      have h1 := needG_keep hc i (by omega) (Nat.le_refl i) h
      have hxk : c.getD i ⟨0, 0, 0, 0, 0, 0⟩ = x := by rw [List.getD_eq_getElem?_getD, hx]; rfl
      obtain ⟨q1, q2⟩ := kid_lt hc hx
      rw [needG, hxk]
      rw [hxk] at h1
      have h2 : l.getD i false = true := by
        rcases nstep_get h1 with h2 | ⟨h2, _⟩ <;> exact h2
      have h3 : nstep x i l = setY x (setX x l) := by unfold nstep; rw [h2]; rfl
      rw [h3]
      constructor
      · intro hk1
        refine needG_up i (setY_up ?_)
        have := q1 hk1
        unfold setX
        rw [hk1, cond_true, getD_set, if_pos ⟨rfl, by omega⟩]
      · intro hk2
        refine needG_up i ?_
        have := q2 hk2
        unfold setY
        rw [hk2, cond_true, getD_set, if_pos ⟨rfl, by rw [(set_len _ _).1]; omega⟩]
    · rw [needG] at h ⊢
      exact needG_kid k (by omega) (by rw [nstep_len]; omega) (by omega) hx h
/-- If a needed node has no set, the root has none. -/
theorem needG_none {acts : List Act} {m : Mo} {root : Nat} : ∀ (k : Nat) {l : List Bool}, k ≤ c.length → (∀ j, l.getD j false = true → dvT acts (tree c j) m = none → dvT acts (tree c root) m = none) →
    ∀ j, (needG c k l).getD j false = true → dvT acts (tree c j) m = none → dvT acts (tree c root) m = none
  | 0, _, _, hl, j, h, hn => hl j h hn
  | k + 1, l, hk, hl, j, h, hn => by
    have hx := getD_mem (l := c) (i := k) (d := ⟨0, 0, 0, 0, 0, 0⟩) (by omega)
    refine needG_none k (by omega) (fun j' h' hn' => ?_) j h hn
    rcases nstep_get h' with h2 | ⟨h2, ⟨h3, h4⟩ | ⟨h3, h4⟩⟩
    · exact hl j' h2 hn'
    · exact hl k h2 (kidX_none hc hx h3 (by rw [h4]; exact hn'))
    · exact hl k h2 (kidY_none hc hx h3 (by rw [h4]; exact hn'))
theorem need_none {acts : List Act} {m : Mo} {root : Nat} (hr : root < c.length) {j : Nat} (h : (needL c root).getD j false = true) (hn : dvT acts (tree c j) m = none) : dvT acts (tree c root) m = none := by
  refine needG_none hc (root + 1) (by omega) (fun j' h' hn' => ?_) j h hn
  have : j' = root := by
    unfold needI at h'
    by_cases q : j' < root + 1
    · rw [getD_map_range q] at h'
      simpa using h'
    · rw [List.getD_eq_getElem?_getD, List.getElem?_eq_none (by simp; omega)] at h'; cases h'
  rw [← this]; exact hn'
omit hc in
theorem need_root {root : Nat} (_hr : root < c.length) : (needL c root).getD root false = true := by
  refine needG_up _ ?_
  rw [needI, getD_map_range (by omega)]; simp
theorem need_kid {root i : Nat} {x : Nd} (hr : root < c.length) (hi : i ≤ root) (hx : c[i]? = some x) (h : (needL c root).getD i false = true) :
    (kidX x = true → (needL c root).getD x.x.toNat false = true) ∧ (kidY x = true → (needL c root).getD x.y.toNat false = true) :=
  needG_kid hc (root + 1) (by omega) (by simp [needI]) (by omega) hx h
end
end Go.Proofs.YtlaolpkgabknfaaGreatDoor
