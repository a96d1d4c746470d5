/- Parts of the proof, one after the other: Products: Worlds of the program walked. Products: Update of the program walked. Products: Update of the program walked. Models: the reference's All, Check, Same, Few walked. Products: At of the program walked; the examples of the law. The number of trailing zeros: the library's function walked, over its table. Models: the members of a set, and Restrict of the program walked. Products: the examples of the law; models as arguments. Products: the law ProductTrue walked. Models: Restrict, and announcements, of the program walked. Products: the law ProductAnnounces walked. -/
import Derived.Test.YtnbnkgcjgfmlcaaDoorChecked
import Derived.WalkKit
import Derived.Laws.Bits64b
import Derived.Lib.TrailingZeros
import Derived.Test.YtnbnkgcjgfmlcaaDoorM6
set_option maxRecDepth 100000
set_option maxHeartbeats 4000000
namespace Go.Proofs.YtnbnkgcjgfmlcaaDoor
open Go Go.Dv

def HMA (m : Mo) (a : Act) : List (Nat × DObj) := [(0, .var (cellsM m)), (1, .var (cellsA a))]
theorem pr_Worlds (m : Mo) (a : Act) (hf : FitM m) (hfa : Fit a) (hl : a.rel.length ≤ 1000) (hp : ∀ l, l ∈ a.post → l.length ≤ 1000) : PureFn Tryd.prog 25 [m.pv, a.pv] (worldsPV (worldsI m a)) := by
  refine PureFn.introC [4, 7, 8, 16, 26] mixed (fn := Tryd.f25) rfl rfl rfl fun M w0 => ?_
  have hC := md_Check m hf
  have hK := ac_Check a (m.rel.length : Nat) (m.val.length : Nat) hfa hl hp
  rw [show PV.int .i64 ((m.rel.length : Nat) : Int) = .int .i64 ((m.rel.map rowPV).length : Nat) by rw [List.length_map], show PV.int .i64 ((m.val.length : Nat) : Int) = .int .i64 ((m.val.map u64).length : Nat) by rw [List.length_map]] at hK
  try conv=>whnf
  refine ⟨{ _x : Unit // (moI m != 0) = false }, fun _ => [(2, .ref 0 0), (3, .ref 1 0)], fun _ => 2, fun _ => HMA m a, ?_, ?_⟩
  · (try conv=>whnf);repeat' (first|(apply And.intro<;>try conv=>whnf)|(intro h;try conv=>whnf)|(refine PureFn.dcq (f := 42) rfl ?_;try conv=>whnf)|(refine ⟨_, _, hC, ?_, ?_⟩;(focus first|(refine ⟨?_, trivial⟩<;>first|exact PLe.refl _|exact PLe.nil)|exact trivial);try conv=>whnf)|fail)
    · have h9 : moaI m a = moI m := by rw [moaI, h]; rfl
      rw [worldsI, h9, h]
      exact le_worlds _
    · exact ⟨⟨(), h⟩, (by refine Wk.of ?_ ?_ rfl rfl rfl<;>repeat' (first|exact trivial|exact WkD.same _|exact WkO.same _ _ rfl|refine ⟨?_, ?_⟩|fail))⟩
  rintro ⟨_, h1⟩
  have hmo : moaI m a = actI a (m.rel.length : Int) (m.val.length : Int) := by rw [moaI, h1]; rfl
  refine ⟨{ _x : Unit // (moaI m a != 0) = false }, fun _ => [(2, .ref 0 0), (3, .ref 1 0)], fun _ => 2, fun _ => HMA m a, ?_, ?_⟩
  · (try conv=>whnf);repeat' (first|(apply And.intro<;>try conv=>whnf)|(intro h;try conv=>whnf)|(refine PureFn.dcq (f := 43) rfl ?_;try conv=>whnf)|(refine ⟨_, _, hK, ?_, ?_⟩;(focus first|(refine ⟨?_, ?_, ?_, trivial⟩<;>first|exact PLe.refl _|exact PLe.nil)|exact trivial);try conv=>whnf)|fail)
    · have h9 : (moaI m a != 0) = true := by rw [hmo]; exact h
      rw [worldsI, h9, hmo]
      exact le_worlds _
    · exact ⟨⟨(), by rw [hmo]; exact h⟩, (by refine Wk.of ?_ ?_ rfl rfl rfl<;>repeat' (first|exact trivial|exact WkD.same _|exact WkO.same _ _ rfl|refine ⟨?_, ?_⟩|fail))⟩
  rintro ⟨_, h2⟩
  have h20 : moaI m a = 0 := by simpa using h2
  obtain ⟨⟨n, hM⟩, hAc⟩ := moaI_ok h20
  have hO := actI_ok hAc
  have hn8 := hO.n8
  have hn1 := hO.n1
  have hn64 := hM.n64
  have hres : worldsI m a = bif ((pairsL m a).length : Int) == 0 then ([], 11) else (pairsL m a, 0) := by rw [worldsI, h2]; rfl
  have hpl : pairsL m a = pairsW (possP m a) a.pre.length n := by rw [pairsL, hM.nn]; rfl
  rw [hres, hpl]
  clear hres hpl
  have hph := fun (e : Nat) (he : e < a.pre.length) => pre_holds h20 he
  rw [hM.nn, Int.toNat_natCast] at hph
  generalize hpe : possP m a = p at hph ⊢
  have hN : ((a.pre.map fpv).length : Int).toNat = a.pre.length := by rw [List.length_map]; rfl
  have hz1 : List.replicate ((a.pre.map fpv).length : Int).toNat (PV.int .u64 0) = mixV a.pre.length (fun e => u64 (p e)) (fun _ => u64 0) 0 := by rw [hN]; exact mixV_rep _ _ _
  have hbig : ((a.pre.map fpv).length : Int) ≤ (big : Int) := by
    show ((a.pre.map fpv).length : Int) ≤ 4294967296
    rw [List.length_map]; omega
  have hml := mixV_len a.pre.length (fun e => u64 (p e)) (fun _ => u64 0)
  refine ⟨Unit, fun _ => [(2, .ref 0 0), (3, .ref 1 0), (8, .buf 2 (mixV a.pre.length (fun e => u64 (p e)) (fun _ => u64 0) 0).length)], fun _ => 3, fun _ => [(0, .var (cellsM m)), (1, .var (cellsA a)), (2, .arr 1 (mixV a.pre.length (fun e => u64 (p e)) (fun _ => u64 0) 0))], ?_, ?_⟩
  · (try conv=>whnf);repeat' (first|(apply And.intro<;>try conv=>whnf)|fail)
    · rfl
    · exact Int.natCast_nonneg _
    · exact hbig
    refine ⟨(), ?_⟩
    (refine Wk.of ?_ ?_ rfl rfl rfl<;>repeat' (first|exact trivial|exact WkD.same _|exact WkO.same _ _ rfl|refine ⟨?_, ?_⟩|fail))
    · exact WkD.eq (congrArg (fun z : List PV => DV.buf 2 z.length) hz1)
    · exact WkO.same _ _ (congrArg (fun z => some (DObj.arr 1 z)) hz1)
  rintro ⟨⟩
  clear hz1 hN hbig
  refine ⟨Unit, fun _ => [(2, .ref 0 0), (8, .pv (.sl (mixV a.pre.length (fun e => u64 (p e)) (fun _ => u64 0) a.pre.length)))], fun _ => 3, fun _ => [(0, .var (cellsM m))], ?_, ?_⟩
  · try conv=>whnf
    refine ⟨{ i : Nat // i ≤ a.pre.length }, fun i => [(2, .ref 0 0), (3, .ref 1 0), (8, .buf 2 (mixV a.pre.length (fun e => u64 (p e)) (fun _ => u64 0) i.1).length), (38, .pv (.sl (a.pre.map fpv))), (39, .pv (i64 (a.pre.map fpv).length)), (40, .pv (i64 i.1))], fun _ => 3, fun i => [(0, .var (cellsM m)), (1, .var (cellsA a)), (2, .arr 1 (mixV a.pre.length (fun e => u64 (p e)) (fun _ => u64 0) i.1))], fun i => a.pre.length - i.1, ⟨⟨0, Nat.zero_le _⟩, (by refine Wk.of ?_ ?_ rfl rfl rfl<;>repeat' (first|exact trivial|exact WkD.same _|exact WkO.same _ _ rfl|refine ⟨?_, ?_⟩|fail))⟩, ?_⟩
    rintro ⟨i, hi⟩
    have hmi := hml i
    have hmi1 := hml (i + 1)
    (try conv=>whnf);repeat' (first|(apply And.intro<;>try conv=>whnf)|(intro h;try conv=>whnf)|(apply infoT;rfl)|fail)
    · have hi' : i < a.pre.length := by simpa using lt_dec h
      obtain ⟨f, hn, hw⟩ : ∃ f, a.pre[i]? = some f ∧ a.pre.getD i [] = f := ⟨_, getD_mem hi', rfl⟩
      obtain ⟨hh, hlt⟩ := hph i hi'
      have hH := ck_Holds m f hf
      rw [hw] at hh
      rw [hh] at hH
      have hst := mixV_set (n := a.pre.length) (p := fun e => u64 (p e)) (q := fun _ => u64 0) (e := i)
      refine ⟨_, _, rfl, idx_map hn, rfl, ?_⟩
      (try conv=>whnf);repeat' (first|(apply And.intro<;>try conv=>whnf)|(intro h;try conv=>whnf)|(refine PureFn.dcq (f := 28) rfl ?_;try conv=>whnf)|(refine ⟨_, _, hH, ?_, ?_⟩;(focus first|(refine ⟨?_, ?_, trivial⟩<;>first|exact PLe.refl _|exact PLe.nil)|exact trivial);try conv=>whnf)|fail)
      · cases h
      refine ⟨i, rfl, by rw [hmi]; exact hi', ?_⟩
      (try conv=>whnf);repeat' (first|(apply And.intro<;>try conv=>whnf)|fail)
      refine ⟨_, mixV_old hi', Nat.le_refl 1, ?_⟩
      try conv=>whnf
      refine ⟨⟨i + 1, hi'⟩, by show a.pre.length - (i + 1) < a.pre.length - i; omega, ?_⟩
      (refine Wk.of ?_ ?_ rfl rfl rfl<;>repeat' (first|exact trivial|exact WkD.same _|exact WkO.same _ _ rfl|refine WkD.int ?_|refine ⟨?_, ?_⟩|(refine wrapA ?_ ?_ ?_;(focus simp;done);(focus (try dsimp only);omega);(focus (try dsimp only);omega))|fail))
      · exact WkD.eq (congrArg (DV.buf 2) (hmi.trans hmi1.symm))
      · exact WkO.same _ _ (congrArg (fun z => some (DObj.arr 1 z)) hst)
    · have hi' : i = a.pre.length := by have := ge_dec (m := (a.pre.map fpv).length) h (by simpa using hi); simpa using this
      subst hi'
      exact ⟨(), (by refine Wk.of ?_ ?_ rfl rfl rfl<;>repeat' (first|exact trivial|exact WkD.same _|exact WkO.same _ _ rfl|exact WkD.fz _ _ _ rfl (Or.inl ⟨_, rfl⟩) rfl|refine ⟨?_, ?_⟩|fail))⟩
  rintro ⟨⟩
  have hPl : ∀ w e, w ≤ n → e ≤ a.pre.length → ((pairsB p a.pre.length w e).map pairPV).length ≤ 1000 := fun w e hw he => by
    have h1 := pairsW_len p a.pre.length w
    have h2 := pairsE_len p w e
    have h3 : w * a.pre.length ≤ 64 * 8 := Nat.mul_le_mul (by omega) hn8
    rw [List.length_map, pairsB, List.length_append]; omega
  have hmN := hml a.pre.length
  have hmnn := hM.nn
  try conv=>whnf
  refine ⟨Unit, fun _ => [(13, .pv (.sl ((pairsB p a.pre.length n 0).map pairPV)))], fun _ => 4, fun _ => [], ?_, ?_⟩
  · try conv=>whnf
    refine ⟨{ w : Nat // w ≤ n }, fun w => [(2, .ref 0 0), (8, .pv (.sl (mixV a.pre.length (fun e => u64 (p e)) (fun _ => u64 0) a.pre.length))), (13, .buf 3 ((pairsB p a.pre.length w.1 0).map pairPV).length), (14, .pv (i64 w.1))], fun _ => 4, fun w => [(0, .var (cellsM m)), (3, .arr 2 ((pairsB p a.pre.length w.1 0).map pairPV))], fun w => n - w.1, ⟨⟨0, Nat.zero_le _⟩, (by refine Wk.of ?_ ?_ rfl rfl rfl<;>repeat' (first|exact trivial|exact WkD.same _|exact WkO.same _ _ rfl|exact WkD.new' rfl rfl rfl|exact WkO.new _ _ rfl|exact rfl|refine ⟨?_, ?_⟩|fail))⟩, ?_⟩
    rintro ⟨w, hw⟩
    try conv=>whnf
    refine ⟨{ e : Nat // e ≤ a.pre.length ∧ (w = n → e = 0) }, fun e => [(2, .ref 0 0), (8, .pv (.sl (mixV a.pre.length (fun e => u64 (p e)) (fun _ => u64 0) a.pre.length))), (13, .buf 3 ((pairsB p a.pre.length w e.1).map pairPV).length), (14, .pv (i64 w)), (61, .pv (.sl (mixV a.pre.length (fun e => u64 (p e)) (fun _ => u64 0) a.pre.length))), (62, .pv (i64 (mixV a.pre.length (fun e => u64 (p e)) (fun _ => u64 0) a.pre.length).length)), (63, .pv (i64 e.1))], fun _ => 4, fun e => [(0, .var (cellsM m)), (3, .arr 2 ((pairsB p a.pre.length w e.1).map pairPV))], fun e => a.pre.length - e.1, ⟨⟨0, Nat.zero_le _, fun _ => rfl⟩, (by refine Wk.of ?_ ?_ rfl rfl rfl<;>repeat' (first|exact trivial|exact WkD.same _|exact WkO.same _ _ rfl|refine ⟨?_, ?_⟩|fail))⟩, ?_⟩
    rintro ⟨e, he, hwe⟩
    have hple := hPl w e hw he
    (try conv=>whnf);repeat' (first|(apply And.intro<;>try conv=>whnf)|(intro h;try conv=>whnf)|(apply infoT;rfl)|fail)
    · have he' : e < a.pre.length := by have := lt_dec h; rwa [hmN] at this
      obtain ⟨_, hlt⟩ := hph e he'
      have h64 : p e < 2 ^ 64 := Nat.lt_of_lt_of_le hlt (pow64_le hn64)
      have hsu := pairsB_succ p a.pre.length w e
      refine ⟨e, _, rfl, mixV_new he' he', rfl, ?_⟩
      have hb0 : w ≠ n → (andU (shrU (p e) w) 1 == 0) = !(p e).testBit w := fun hwn => bit_zero h64 (by omega)
      (try conv=>whnf);repeat' (first|(apply And.intro<;>try conv=>whnf)|(intro h;try conv=>whnf)|(apply cellsI;rfl)|(apply szI;rfl)|fail)
      · have hwn : w = n := by
          have : (w : Int) = m.n := by simpa using h
          omega
        subst hwn
        obtain rfl : e = 0 := hwe rfl
        exact ⟨(), (by refine Wk.of ?_ ?_ rfl rfl rfl<;>repeat' (first|exact trivial|exact WkD.fz _ _ _ rfl (Or.inl ⟨_, rfl⟩) rfl|refine ⟨?_, ?_⟩|fail))⟩
      · exact Int.natCast_nonneg _
      · rename_i hw9
        have hwn : w ≠ n := fun e => by
          have : ¬ (w : Int) = m.n := by simpa using hw9
          omega
        have ht : (p e).testBit w = false := by
          have : (!(p e).testBit w) = true := by rw [← hb0 hwn]; exact h
          simpa using this
        rw [ht, cond_false] at hsu
        refine ⟨⟨e + 1, he', fun q => absurd q hwn⟩, by show a.pre.length - (e + 1) < a.pre.length - e; omega, ?_⟩
        (refine Wk.of ?_ ?_ rfl rfl rfl<;>repeat' (first|exact trivial|exact WkD.same _|exact WkO.same _ _ rfl|refine WkD.int ?_|refine ⟨?_, ?_⟩|(refine wrapA ?_ ?_ ?_;(focus simp;done);(focus (try dsimp only);omega);(focus (try dsimp only);omega))|fail))
        · exact WkD.eq (congrArg (fun l : List (Nat × Nat) => DV.buf 3 (l.map pairPV).length) hsu.symm)
        · exact WkO.same _ _ (congrArg (fun l : List (Nat × Nat) => some (DObj.arr 2 (l.map pairPV))) hsu.symm)
      · exact app_big (n := 1000) hple (by decide)
      · rename_i hw9
        have hwn : w ≠ n := fun e => by
          have : ¬ (w : Int) = m.n := by simpa using hw9
          omega
        have ht : (p e).testBit w = true := by
          have : (!(p e).testBit w) = false := by rw [← hb0 hwn]; exact h
          simpa using this
        rw [ht, cond_true] at hsu
        have er : (pairsB p a.pre.length w e).map pairPV ++ [.agg [.int .i64 (w : Int), .int .i64 (e : Int)]] = (pairsB p a.pre.length w (e + 1)).map pairPV := by rw [hsu, List.map_append]; rfl
        refine ⟨⟨e + 1, he', fun q => absurd q hwn⟩, by show a.pre.length - (e + 1) < a.pre.length - e; omega, ?_⟩
        (refine Wk.of ?_ ?_ rfl rfl rfl<;>repeat' (first|exact trivial|exact WkD.same _|exact WkO.same _ _ rfl|exact WkD.eq (congrArg (fun z : List PV => DV.buf _ z.length) er)|exact WkO.same _ _ (congrArg (fun z => some (DObj.arr _ z)) er)|refine WkD.int ?_|refine ⟨?_, ?_⟩|(refine wrapA ?_ ?_ ?_;(focus simp;done);(focus (try dsimp only);omega);(focus (try dsimp only);omega))|fail))
    · have he' : e = a.pre.length := by have := ge_dec h (by rw [hmN]; exact he); rwa [hmN] at this
      have hwn : w < n := by
        rcases Nat.lt_or_ge w n with q | q
        · exact q
        · have := hwe (by omega); omega
      subst he'
      have hew : pairsB p a.pre.length w a.pre.length = pairsB p a.pre.length (w + 1) 0 := by rw [pairsB_full, pairsB_zero]
      try conv=>whnf
      refine ⟨⟨w + 1, hwn⟩, by show n - (w + 1) < n - w; omega, ?_⟩
      (refine Wk.of ?_ ?_ rfl rfl rfl<;>repeat' (first|exact trivial|exact WkD.same _|exact WkO.same _ _ rfl|refine WkD.int ?_|refine ⟨?_, ?_⟩|(refine wrapA ?_ ?_ ?_;(focus simp;done);(focus (try dsimp only);omega);(focus (try dsimp only);omega))|fail))
      · exact WkD.eq (congrArg (fun l : List (Nat × Nat) => DV.buf 3 (l.map pairPV).length) hew)
      · exact WkO.same _ _ (congrArg (fun l : List (Nat × Nat) => some (DObj.arr 2 (l.map pairPV))) hew)
  rintro ⟨⟩
  rw [← pairsB_zero]
  generalize pairsB p a.pre.length n 0 = L
  have e9 : ((L.map pairPV).length : Int) = (L.length : Int) := by simp
  (try conv=>whnf);repeat' (first|(apply And.intro<;>try conv=>whnf)|(intro h;try conv=>whnf)|fail)
  · rw [show ((L.length : Int) == 0) = true by rw [← e9]; exact h]
    exact le_worlds _
  · rw [show ((L.length : Int) == 0) = false by rw [← e9]; exact h]
    exact .refl _
end Go.Proofs.YtnbnkgcjgfmlcaaDoor
set_option maxRecDepth 100000
set_option maxHeartbeats 4000000
namespace Go.Proofs.YtnbnkgcjgfmlcaaDoor
open Go Go.Dv

def cells0 : List DV := [.pv (.int .i64 0), .pv .nil, .pv .nil]
def pairD (q : Nat × Nat) : List DV := [.pv (i64 q.1), .pv (i64 q.2)]
/-- The heap while the values of a fact are reckoned. -/
def HV (m : Mo) (a : Act) (l : List (Nat × Nat)) (vs vl : List Nat) : List (Nat × DObj) :=
  [(0, .var (cellsM m)), (1, .var (cellsA a)), (2, .var cells0), (3, .var [.pv (.sl (l.map pairPV))]), (4, .var [.pv (i64 (l.map pairPV).length), .buf 5 (vs.map u64).length, .pv .nil]), (5, .arr 1 (vs.map u64)), (7, .var [.pv (rowPV vl)])]
theorem upd2 {M : Nat → Prop} {w0 : World} (m : Mo) (a : Act) (l : List (Nat × Nat)) (vs vl : List Nat) (q : Nat × Nat) (h1 : q.1 < 64) (h2 : q.2 < vl.length) (hv : ∀ s, s ∈ vl → s < 2 ^ 64) (base : Nat) (K : DV → DH → Prop) (hK : K (.pv (.bool ((vl.getD q.2 0).testBit q.1))) ⟨8, 0, base, objsOf (HV m a l vs vl)⟩) :
    DC Tryd.prog M w0 29 [.agg (pairD q), .ref 7 0] ⟨8, 0, base, objsOf (HV m a l vs vl)⟩ K := by
  refine DC.weaken (DC.intro mixed (fn := Tryd.f29) rfl rfl rfl ?_)
  obtain ⟨x, hx, hw⟩ : ∃ x, vl[q.2]? = some x ∧ vl.getD q.2 0 = x := ⟨_, getD_mem h2, rfl⟩
  have hx64 := hv x (List.mem_iff_getElem?.2 ⟨_, hx⟩)
  rw [hw, ← bit_one hx64 h1] at hK
  (try conv=>whnf);repeat' (first|(apply And.intro<;>try conv=>whnf)|(apply infoT;rfl)|(refine lin_plan (by kernel_rfl) ?_;try conv=>whnf)|(refine ⟨_, _, rfl, idx_map (by with_reducible assumption), rfl, ?_⟩;try conv=>whnf)|fail)
  · exact Int.natCast_nonneg _
  · exact ⟨_, 8, HV m a l vs vl, (by refine Wk.of ?_ ?_ rfl rfl rfl<;>repeat' (first|exact trivial|exact WkD.same _|exact WkO.same _ _ rfl|refine ⟨?_, ?_⟩|fail)), hK⟩
/-- The heap while the relation of an agent is reckoned, of a pair. -/
def HW (m : Mo) (a : Act) (l : List (Nat × Nat)) (vs : List Nat) (rs : List (List Nat)) (i : Nat) (r : List Nat) (mx : List PV) (x : Nat × Nat) : List (Nat × DObj) :=
  [(0, .var (cellsM m)), (1, .var (cellsA a)), (2, .var cells0), (3, .var [.pv (.sl (l.map pairPV))]), (4, .var [.pv (i64 (l.map pairPV).length), .pv (rowPV vs), .buf 5 (rs.map rowPV).length]), (5, .arr 1 (rs.map rowPV)), (6, .var [.pv (i64 i)]), (7, .var [.pv (rowPV r)]), (8, .arr 1 mx), (9, .var (pairD x))]
theorem upd3 {M : Nat → Prop} {w0 : World} (m : Mo) (a : Act) (l : List (Nat × Nat)) (vs : List Nat) (rs : List (List Nat)) (i : Nat) (r : List Nat) (mx : List PV) (x q : Nat × Nat) (ra : List Nat) (hra : a.rel[i]? = some ra)
    (hx1 : x.1 < r.length) (hx2 : x.2 < ra.length) (hq1 : q.1 < 64) (hq2 : q.2 < 64) (hr : ∀ s, s ∈ r → s < 2 ^ 64) (hr2 : ∀ s, s ∈ ra → s < 2 ^ 64) (base : Nat) (K : DV → DH → Prop) (hK : K (.pv (.bool (seesP r ra x q))) ⟨10, 0, base, objsOf (HW m a l vs rs i r mx x)⟩) :
    DC Tryd.prog M w0 30 [.agg (pairD q), .ref 7 0, .ref 9 0, .ref 1 0, .ref 6 0] ⟨10, 0, base, objsOf (HW m a l vs rs i r mx x)⟩ K := by
  refine DC.weaken (DC.intro mixed (fn := Tryd.f30) rfl rfl rfl ?_)
  obtain ⟨u, hu, hw⟩ : ∃ u, r[x.1]? = some u ∧ r.getD x.1 0 = u := ⟨_, getD_mem hx1, rfl⟩
  obtain ⟨v, hv, hw2⟩ : ∃ v, ra[x.2]? = some v ∧ ra.getD x.2 0 = v := ⟨_, getD_mem hx2, rfl⟩
  have hu64 := hr u (List.mem_iff_getElem?.2 ⟨_, hu⟩)
  have hv64 := hr2 v (List.mem_iff_getElem?.2 ⟨_, hv⟩)
  rw [seesP, hw, hw2, ← bit_one hu64 hq1, ← bit_one hv64 hq2] at hK
  (try conv=>whnf);repeat' (first|(apply And.intro<;>try conv=>whnf)|(intro h;try conv=>whnf)|apply True.intro|(apply infoT;rfl)|(apply WhenQ.mk;(try conv=>whnf);rotate_left;(try conv=>whnf);rotate_right)|with_reducible assumption|(refine lin_plan (by kernel_rfl) ?_;try conv=>whnf)|(refine ⟨_, _, rfl, idx_map (by with_reducible assumption), rfl, ?_⟩;try conv=>whnf)|fail)
  · exact Int.natCast_nonneg _
  · exact Int.natCast_nonneg _
  · exact ⟨_, 10, HW m a l vs rs i r mx x, (by refine Wk.of ?_ ?_ rfl rfl rfl<;>repeat' (first|exact trivial|exact WkD.same _|exact WkO.same _ _ rfl|refine ⟨?_, ?_⟩|fail)), hK⟩
theorem whr_V {M : Nat → Prop} {w0 : World} (m : Mo) (a : Act) (l : List (Nat × Nat)) (vs vl : List Nat) (hlp : ∀ y, y ∈ l → y.1 < 64 ∧ y.2 < vl.length) (hv : ∀ s, s ∈ vl → s < 2 ^ 64) (hl : l.length ≤ 64) (base : Nat) (K : DV → DH → Prop) (hK : K (.pv (u64 (maskOf (fun k => (fun q : Nat × Nat => (vl.getD q.2 0).testBit q.1) (l.getD k (0, 0))) l.length))) ⟨8, 0, base, objsOf (HV m a l vs vl)⟩) :
    DC Tryd.prog M w0 26 [.clo 29 [] [.ref 7 0], .ref 3 0] ⟨8, 0, base, objsOf (HV m a l vs vl)⟩ K := by
  refine DC.weaken (DC.intro mixed (fn := Tryd.f26) rfl rfl rfl ?_)
  try conv=>whnf
  refine ⟨{ i : Nat // i ≤ l.length }, fun i => [(0, .clo 29 [] [.ref 7 0]), (4, .pv (u64 (maskOf (fun k => (fun q : Nat × Nat => (vl.getD q.2 0).testBit q.1) (l.getD k (0, 0))) i.1))), (7, .pv (.sl (l.map pairPV))), (8, .pv (i64 (l.map pairPV).length)), (9, .pv (i64 i.1))], fun _ => 8, fun _ => HV m a l vs vl, fun i => l.length - i.1, ⟨⟨0, Nat.zero_le _⟩, (by refine Wk.of ?_ ?_ rfl rfl rfl<;>repeat' (first|exact trivial|exact WkD.same _|exact WkO.same _ _ rfl|refine ⟨?_, ?_⟩|fail))⟩, ?_⟩
  rintro ⟨j, hj⟩
  (try conv=>whnf);repeat' (first|(apply And.intro<;>try conv=>whnf)|(intro h;try conv=>whnf)|(apply infoT;rfl)|fail)
  · have hj' : j < l.length := by simpa using lt_dec h
    obtain ⟨y, hy, hyw⟩ : ∃ y, l[j]? = some y ∧ l.getD j (0, 0) = y := ⟨_, getD_mem hj', rfl⟩
    have hym : y ∈ l := List.mem_iff_getElem?.2 ⟨j, hy⟩
    refine ⟨_, _, rfl, idx_map hy, rfl, ?_⟩
    try conv=>whnf
    refine DC.call 8 (HV m a l vs vl) ⟨rfl, rfl, rfl, rfl, rfl, rfl, rfl, rfl, trivial⟩ rfl rfl rfl rfl fun M' => ?_
    refine upd2 m a l vs vl y (hlp y hym).1 (hlp y hym).2 hv _ _ ?_
    refine ⟨rfl, ?_⟩
    (try conv=>whnf);repeat' (first|(apply And.intro<;>try conv=>whnf)|(intro h;try conv=>whnf)|fail)
    · exact Int.natCast_nonneg _
    · have hq : (fun q : Nat × Nat => (vl.getD q.2 0).testBit q.1) (l.getD j (0, 0)) = true := by rw [hyw]; exact h
      refine ⟨⟨j + 1, hj'⟩, by show l.length - (j + 1) < l.length - j; omega, ?_⟩
      (refine Wk.of ?_ ?_ rfl rfl rfl<;>repeat' (first|exact trivial|exact WkD.same _|exact WkO.same _ _ rfl|refine WkD.int ?_|refine ⟨?_, ?_⟩|(refine wrapA ?_ ?_ ?_;(focus simp;done);(focus (try dsimp only);omega);(focus (try dsimp only);omega))|fail))
      exact or_shl (q := fun k => (fun q : Nat × Nat => (vl.getD q.2 0).testBit q.1) (l.getD k (0, 0))) (w := j) (by omega) hq
    · have hq : (fun q : Nat × Nat => (vl.getD q.2 0).testBit q.1) (l.getD j (0, 0)) = false := by rw [hyw]; exact h
      refine ⟨⟨j + 1, hj'⟩, by show l.length - (j + 1) < l.length - j; omega, ?_⟩
      (refine Wk.of ?_ ?_ rfl rfl rfl<;>repeat' (first|exact trivial|exact WkD.same _|exact WkO.same _ _ rfl|refine WkD.int ?_|refine ⟨?_, ?_⟩|(refine wrapA ?_ ?_ ?_;(focus simp;done);(focus (try dsimp only);omega);(focus (try dsimp only);omega))|fail))
      exact congrArg (fun z : Nat => (z : Int)) (mask_no (q := fun k => (fun q : Nat × Nat => (vl.getD q.2 0).testBit q.1) (l.getD k (0, 0))) hq)
  · have hj' : j = l.length := by have := ge_dec (m := (l.map pairPV).length) h (by simpa using hj); simpa using this
    subst hj'
    exact ⟨_, 8, HV m a l vs vl, (by refine Wk.of ?_ ?_ rfl rfl rfl<;>repeat' (first|exact trivial|exact WkD.same _|exact WkO.same _ _ rfl|refine ⟨?_, ?_⟩|fail)), hK⟩
theorem whr_W {M : Nat → Prop} {w0 : World} (m : Mo) (a : Act) (l : List (Nat × Nat)) (vs : List Nat) (rs : List (List Nat)) (i : Nat) (r : List Nat) (mx : List PV) (x : Nat × Nat) (ra : List Nat) (hra : a.rel[i]? = some ra) (hx1 : x.1 < r.length) (hx2 : x.2 < ra.length) (hlp : ∀ y, y ∈ l → y.1 < 64 ∧ y.2 < 64) (hr : ∀ s, s ∈ r → s < 2 ^ 64) (hr2 : ∀ s, s ∈ ra → s < 2 ^ 64) (hl : l.length ≤ 64) (base : Nat) (K : DV → DH → Prop) (hK : K (.pv (u64 (maskOf (fun k => (fun q : Nat × Nat => seesP r ra x q) (l.getD k (0, 0))) l.length))) ⟨10, 0, base, objsOf (HW m a l vs rs i r mx x)⟩) :
    DC Tryd.prog M w0 26 [.clo 30 [] [.ref 7 0, .ref 9 0, .ref 1 0, .ref 6 0], .ref 3 0] ⟨10, 0, base, objsOf (HW m a l vs rs i r mx x)⟩ K := by
  refine DC.weaken (DC.intro mixed (fn := Tryd.f26) rfl rfl rfl ?_)
  try conv=>whnf
  refine ⟨{ i : Nat // i ≤ l.length }, fun i => [(0, .clo 30 [] [.ref 7 0, .ref 9 0, .ref 1 0, .ref 6 0]), (4, .pv (u64 (maskOf (fun k => (fun q : Nat × Nat => seesP r ra x q) (l.getD k (0, 0))) i.1))), (7, .pv (.sl (l.map pairPV))), (8, .pv (i64 (l.map pairPV).length)), (9, .pv (i64 i.1))], fun _ => 10, fun _ => HW m a l vs rs i r mx x, fun i => l.length - i.1, ⟨⟨0, Nat.zero_le _⟩, (by refine Wk.of ?_ ?_ rfl rfl rfl<;>repeat' (first|exact trivial|exact WkD.same _|exact WkO.same _ _ rfl|refine ⟨?_, ?_⟩|fail))⟩, ?_⟩
  rintro ⟨j, hj⟩
  (try conv=>whnf);repeat' (first|(apply And.intro<;>try conv=>whnf)|(intro h;try conv=>whnf)|(apply infoT;rfl)|fail)
  · have hj' : j < l.length := by simpa using lt_dec h
    obtain ⟨y, hy, hyw⟩ : ∃ y, l[j]? = some y ∧ l.getD j (0, 0) = y := ⟨_, getD_mem hj', rfl⟩
    have hym : y ∈ l := List.mem_iff_getElem?.2 ⟨j, hy⟩
    refine ⟨_, _, rfl, idx_map hy, rfl, ?_⟩
    try conv=>whnf
    refine DC.call 10 (HW m a l vs rs i r mx x) ⟨rfl, rfl, rfl, rfl, rfl, rfl, rfl, rfl, rfl, rfl, trivial⟩ rfl rfl rfl rfl fun M' => ?_
    refine upd3 m a l vs rs i r mx x y ra hra hx1 hx2 (hlp y hym).1 (hlp y hym).2 hr hr2 _ _ ?_
    refine ⟨rfl, ?_⟩
    (try conv=>whnf);repeat' (first|(apply And.intro<;>try conv=>whnf)|(intro h;try conv=>whnf)|fail)
    · exact Int.natCast_nonneg _
    · have hq : (fun q : Nat × Nat => seesP r ra x q) (l.getD j (0, 0)) = true := by rw [hyw]; exact h
      refine ⟨⟨j + 1, hj'⟩, by show l.length - (j + 1) < l.length - j; omega, ?_⟩
      (refine Wk.of ?_ ?_ rfl rfl rfl<;>repeat' (first|exact trivial|exact WkD.same _|exact WkO.same _ _ rfl|refine WkD.int ?_|refine ⟨?_, ?_⟩|(refine wrapA ?_ ?_ ?_;(focus simp;done);(focus (try dsimp only);omega);(focus (try dsimp only);omega))|fail))
      exact or_shl (q := fun k => (fun q : Nat × Nat => seesP r ra x q) (l.getD k (0, 0))) (w := j) (by omega) hq
    · have hq : (fun q : Nat × Nat => seesP r ra x q) (l.getD j (0, 0)) = false := by rw [hyw]; exact h
      refine ⟨⟨j + 1, hj'⟩, by show l.length - (j + 1) < l.length - j; omega, ?_⟩
      (refine Wk.of ?_ ?_ rfl rfl rfl<;>repeat' (first|exact trivial|exact WkD.same _|exact WkO.same _ _ rfl|refine WkD.int ?_|refine ⟨?_, ?_⟩|(refine wrapA ?_ ?_ ?_;(focus simp;done);(focus (try dsimp only);omega);(focus (try dsimp only);omega))|fail))
      exact congrArg (fun z : Nat => (z : Int)) (mask_no (q := fun k => (fun q : Nat × Nat => seesP r ra x q) (l.getD k (0, 0))) hq)
  · have hj' : j = l.length := by have := ge_dec (m := (l.map pairPV).length) h (by simpa using hj); simpa using this
    subst hj'
    exact ⟨_, 10, HW m a l vs rs i r mx x, (by refine Wk.of ?_ ?_ rfl rfl rfl<;>repeat' (first|exact trivial|exact WkD.same _|exact WkO.same _ _ rfl|refine ⟨?_, ?_⟩|fail)), hK⟩
end Go.Proofs.YtnbnkgcjgfmlcaaDoor
set_option maxRecDepth 100000
set_option maxHeartbeats 4000000
namespace Go.Proofs.YtnbnkgcjgfmlcaaDoor
open Go Go.Dv

def vsU (m : Mo) (a : Act) (l : List (Nat × Nat)) (i : Nat) : List Nat := (List.range i).map (valP m a l)
def rsU (m : Mo) (a : Act) (l : List (Nat × Nat)) (i : Nat) : List (List Nat) := (List.range i).map (relP m a l)
theorem vsU_succ (m : Mo) (a : Act) (l : List (Nat × Nat)) (i : Nat) : vsU m a l (i + 1) = vsU m a l i ++ [valP m a l i] := by rw [vsU, List.range_succ, List.map_append]; rfl
theorem rsU_succ (m : Mo) (a : Act) (l : List (Nat × Nat)) (i : Nat) : rsU m a l (i + 1) = rsU m a l i ++ [relP m a l i] := by rw [rsU, List.range_succ, List.map_append]; rfl
def vlU (m : Mo) (a : Act) (i : Nat) : List Nat := (List.range a.pre.length).map fun e => valuP m a e i
theorem vlU_get {m : Mo} {a : Act} {i e : Nat} (h : e < a.pre.length) : (vlU m a i).getD e 0 = valuP m a e i := by
  rw [vlU, List.getD_eq_getElem?_getD, List.getElem?_map, List.getElem?_range h]; rfl
def updPlan : Plan := .one 2 (.one 3 (.two 0 (.two 1 (.one 4 (.one 5 (.one 6 (.one 7 (.one 8 .done))))) 4 (.one 1 (.one 5 (.one 6 (.one 7 (.one 8 .done)))))) 4 (.one 0 (.one 1 (.one 5 (.one 6 (.one 7 (.one 8 .done))))))))
theorem pr_Update (m : Mo) (a : Act) (hf : FitM m) (hfa : Fit a) (hl : a.rel.length ≤ 1000) (hp : ∀ l, l ∈ a.post → l.length ≤ 1000) : PureFn Tryd.prog 11 [m.pv, a.pv] (updPV (updI m a)) := by
  refine PureFn.introC [4, 6, 20, 22, 31, 33] mixed (fn := Tryd.f11) rfl rfl rfl fun M w0 => ?_
  have hW := pr_Worlds m a hf hfa hl hp
  obtain ⟨l, e, hX⟩ : ∃ l e, worldsI m a = (l, e) := ⟨_, _, rfl⟩
  have hwo := worldsI_ok (m := m) (a := a)
  rw [updI]
  rw [hX] at hW hwo ⊢
  clear hX
  have e9 : ((l.map pairPV).length : Int) = (l.length : Int) := by simp
  (try conv=>whnf);repeat' (first|(refine PureFn.dcq (f := 25) rfl ?_;try conv=>whnf)|(refine ⟨_, _, hW, ?_, ?_⟩;(focus first|(refine ⟨?_, ?_, trivial⟩<;>first|exact PLe.refl _|exact PLe.nil)|exact trivial);try conv=>whnf)|fail)
  refine ⟨{ _x : Unit // (e != 0) = false }, fun _ => [(2, .ref 0 0), (3, .ref 1 0), (4, .ref 2 0), (7, .ref 3 0)], fun _ => 4, fun _ => [(0, .var (cellsM m)), (1, .var (cellsA a)), (2, .var cells0), (3, .var [.pv (.sl (l.map pairPV))])], ?_, ?_⟩
  · (try conv=>whnf);repeat' (first|(apply And.intro<;>try conv=>whnf)|(intro h;try conv=>whnf)|fail)
    · rw [show (((l, e) : List (Nat × Nat) × Int).2 != 0) = true from h]; exact le_upd _
    · exact ⟨⟨(), h⟩, (by refine Wk.of ?_ ?_ rfl rfl rfl<;>repeat' (first|exact trivial|exact WkD.same _|exact WkO.same _ _ rfl|refine ⟨?_, ?_⟩|fail))⟩
  rintro ⟨_, h1⟩
  obtain ⟨hma, hpl, hl1⟩ := hwo (show e = 0 by simpa using h1)
  obtain ⟨⟨n, hM⟩, hAc⟩ := moaI_ok hma
  have hO := actI_ok hAc
  have hn8 := hO.n8
  have hn64 := hM.n64
  have hfa8 := hM.fa
  have hag := hM.ag
  have hpl : l = pairsL m a := hpl
  have hmem : ∀ y, y ∈ l → y.1 < n ∧ y.2 < a.pre.length := fun y hy => by
    rw [hpl, pairsL, hM.nn] at hy
    have := pairsW_mem.1 hy
    exact ⟨this.1, this.2.1⟩
  clear hpl hl1
  refine ⟨{ _x : Unit // decide ((l.length : Int) > 64) = false }, fun _ => [(2, .ref 0 0), (3, .ref 1 0), (4, .ref 2 0), (7, .ref 3 0)], fun _ => 4, fun _ => [(0, .var (cellsM m)), (1, .var (cellsA a)), (2, .var cells0), (3, .var [.pv (.sl (l.map pairPV))])], ?_, ?_⟩
  · (try conv=>whnf);repeat' (first|(apply And.intro<;>try conv=>whnf)|(intro h;try conv=>whnf)|fail)
    · have h9 : decide ((l.length : Int) > 64) = true := by rw [← e9]; exact h
      rw [show (((l, e) : List (Nat × Nat) × Int).2 != 0) = false from h1, show decide ((((l, e) : List (Nat × Nat) × Int).1.length : Int) > 64) = true from h9]
      exact le_upd _
    · exact ⟨⟨(), by rw [← e9]; exact h⟩, (by refine Wk.of ?_ ?_ rfl rfl rfl<;>repeat' (first|exact trivial|exact WkD.same _|exact WkO.same _ _ rfl|refine ⟨?_, ?_⟩|fail))⟩
  rintro ⟨_, h2⟩
  have hl64 : l.length ≤ 64 := by have := of_decide_eq_false h2; omega
  have hres : (bif (((l, e) : List (Nat × Nat) × Int).2 != 0) then (noMo, ([] : List (Nat × Nat)), ((l, e) : List (Nat × Nat) × Int).2) else bif decide ((((l, e) : List (Nat × Nat) × Int).1.length : Int) > 64) then (noMo, [], 8) else (prodM m a ((l, e) : List (Nat × Nat) × Int).1, ((l, e) : List (Nat × Nat) × Int).1, (0 : Int))) = (prodM m a l, l, 0) := by
    rw [show (((l, e) : List (Nat × Nat) × Int).2 != 0) = false from h1, show decide ((((l, e) : List (Nat × Nat) × Int).1.length : Int) > 64) = false from h2]; rfl
  rw [hres]
  clear hres
  try conv=>whnf
  refine ⟨Unit, fun _ => [(2, .ref 0 0), (3, .ref 1 0), (4, .ref 2 0), (7, .ref 3 0), (9, .clo 26 [] [.ref 3 0]), (10, .ref 4 0)], fun _ => 5, fun _ => [(0, .var (cellsM m)), (1, .var (cellsA a)), (2, .var cells0), (3, .var [.pv (.sl (l.map pairPV))]), (4, .var [.pv (i64 (l.map pairPV).length), .pv (rowPV (vsU m a l m.val.length)), .pv .nil])], ?_, ?_⟩
  · try conv=>whnf
    refine ⟨{ i : Nat // i ≤ m.val.length }, fun i => [(2, .ref 0 0), (3, .ref 1 0), (4, .ref 2 0), (7, .ref 3 0), (9, .clo 26 [] [.ref 3 0]), (10, .ref 4 0), (41, .pv (i64 (m.val.map u64).length)), (42, .pv (i64 i.1))], fun _ => 6, fun i => [(0, .var (cellsM m)), (1, .var (cellsA a)), (2, .var cells0), (3, .var [.pv (.sl (l.map pairPV))]), (4, .var [.pv (i64 (l.map pairPV).length), .buf 5 ((vsU m a l i.1).map u64).length, .pv .nil]), (5, .arr 1 ((vsU m a l i.1).map u64))], fun i => m.val.length - i.1, ⟨⟨0, Nat.zero_le _⟩, (by refine Wk.of ?_ ?_ rfl rfl rfl<;>repeat' (first|exact trivial|exact WkD.same _|exact WkO.same _ _ rfl|exact WkD.new' rfl rfl rfl|exact WkO.new _ _ rfl|refine WkO.vars rfl ?_|exact rfl|refine ⟨?_, ?_⟩|fail))⟩, ?_⟩
    rintro ⟨i, hi⟩
    (try conv=>whnf);repeat' (first|(apply And.intro<;>try conv=>whnf)|(intro h;try conv=>whnf)|fail)
    · rfl
    · exact Int.natCast_nonneg _
    · show ((a.pre.map fpv).length : Int) ≤ 4294967296
      rw [List.length_map]; omega
    · have hi' : i < m.val.length := by simpa using lt_dec h
      have hN : ((a.pre.map fpv).length : Int).toNat = a.pre.length := by rw [List.length_map]; rfl
      have hz1 : List.replicate ((a.pre.map fpv).length : Int).toNat (PV.int .u64 0) = (mixV a.pre.length (fun e => u64 (valuP m a e i)) (fun _ => u64 0) 0) := by rw [hN]; exact mixV_rep _ _ _
      have hmlv := mixV_len a.pre.length (fun e => u64 (valuP m a e i)) (fun _ => u64 0)
      refine ⟨Unit, fun _ => [(2, .ref 0 0), (3, .ref 1 0), (4, .ref 2 0), (7, .ref 3 0), (9, .clo 26 [] [.ref 3 0]), (10, .ref 4 0), (12, .ref 7 0), (41, .pv (i64 (m.val.map u64).length)), (42, .pv (i64 i))], fun _ => 8, fun _ => [(0, .var (cellsM m)), (1, .var (cellsA a)), (2, .var cells0), (3, .var [.pv (.sl (l.map pairPV))]), (4, .var [.pv (i64 (l.map pairPV).length), .buf 5 ((vsU m a l i).map u64).length, .pv .nil]), (5, .arr 1 ((vsU m a l i).map u64)), (7, .var [.pv (.sl (mixV a.pre.length (fun e => u64 (valuP m a e i)) (fun _ => u64 0) a.pre.length))])], ?_, ?_⟩
      · try conv=>whnf
        refine ⟨{ k : Nat // k ≤ a.pre.length }, fun k => [(2, .ref 0 0), (3, .ref 1 0), (4, .ref 2 0), (7, .ref 3 0), (9, .clo 26 [] [.ref 3 0]), (10, .ref 4 0), (11, .pv (i64 i)), (12, .ref 7 0), (41, .pv (i64 (m.val.map u64).length)), (42, .pv (i64 i)), (50, .pv (i64 a.pre.length)), (51, .pv (i64 k.1))], fun _ => 8, fun k => [(0, .var (cellsM m)), (1, .var (cellsA a)), (2, .var cells0), (3, .var [.pv (.sl (l.map pairPV))]), (4, .var [.pv (i64 (l.map pairPV).length), .buf 5 ((vsU m a l i).map u64).length, .pv .nil]), (5, .arr 1 ((vsU m a l i).map u64)), (6, .arr 1 (mixV a.pre.length (fun e => u64 (valuP m a e i)) (fun _ => u64 0) k.1)), (7, .var [.buf 6 (mixV a.pre.length (fun e => u64 (valuP m a e i)) (fun _ => u64 0) k.1).length])], fun k => a.pre.length - k.1, ⟨⟨0, Nat.zero_le _⟩, ?_⟩, ?_⟩
        · (refine Wk.of ?_ ?_ rfl rfl rfl<;>repeat' (first|exact trivial|exact WkD.same _|exact WkO.same _ _ rfl|refine WkD.int ?_|refine WkO.vars rfl ?_|refine ⟨?_, ?_⟩|fail))
          · exact congrArg (fun z : Nat => (z : Int)) ((List.length_replicate ..).trans hN)
          · exact WkO.same _ _ (congrArg (fun z => some (DObj.arr 1 z)) hz1)
          · exact WkD.eq (congrArg (fun z : List PV => DV.buf 6 z.length) hz1)
        rintro ⟨k, hk⟩
        have hmk := hmlv k
        have hmk1 := hmlv (k + 1)
        have hst := mixV_set (n := a.pre.length) (p := fun e => u64 (valuP m a e i)) (q := fun _ => u64 0) (e := k)
        (try conv=>whnf);repeat' (first|(apply And.intro<;>try conv=>whnf)|(intro h;try conv=>whnf)|fail)
        · have hk' : k < a.pre.length := lt_dec h
          have hV := ac_Value a k i hfa hl hp
          have hv0 := valI_ok hma hk' hi'
          obtain ⟨g, hg⟩ : ∃ g, valI a k i = (g, 0) := ⟨(valI a k i).1, Prod.ext rfl hv0⟩
          rw [hg] at hV
          have hH := ck_Holds m g hf
          have hvp : (holdsI m g).1 = valuP m a k i := by rw [valuP, hg]
          obtain ⟨z, hz⟩ : ∃ z, holdsI m g = (valuP m a k i, z) := ⟨(holdsI m g).2, Prod.ext hvp rfl⟩
          rw [hz] at hH
          (try conv=>whnf);repeat' (first|(apply And.intro<;>try conv=>whnf)|(intro h;try conv=>whnf)|(refine PureFn.dcq (f := 27) rfl ?_;try conv=>whnf)|(refine ⟨_, _, hV, ?_, ?_⟩;(focus first|(refine ⟨?_, ?_, ?_, trivial⟩<;>first|exact PLe.refl _|exact PLe.nil)|exact trivial);try conv=>whnf)|fail)
          · cases h
          refine ⟨Plan.lin 0 10, [9], by kernel_rfl, ?_⟩
          (try conv=>whnf);repeat' (first|(apply And.intro<;>try conv=>whnf)|(refine ⟨_, (by (conv=>whnf);exact hH), rfl, ?_⟩;try conv=>whnf)|fail)
          refine ⟨k, rfl, by rw [hmk]; exact hk', ?_⟩
          (try conv=>whnf);repeat' (first|(apply And.intro<;>try conv=>whnf)|fail)
          refine ⟨_, mixV_old hk', Nat.le_refl 1, ?_⟩
          try conv=>whnf
          refine ⟨⟨k + 1, hk'⟩, by show a.pre.length - (k + 1) < a.pre.length - k; omega, ?_⟩
          (refine Wk.of ?_ ?_ rfl rfl rfl<;>repeat' (first|exact trivial|exact WkD.same _|exact WkO.same _ _ rfl|refine WkD.int ?_|refine WkO.vars rfl ?_|refine ⟨?_, ?_⟩|(refine wrapA ?_ ?_ ?_;(focus simp;done);(focus (try dsimp only);omega);(focus (try dsimp only);omega))|fail))
          · exact WkO.same _ _ (congrArg (fun z => some (DObj.arr 1 z)) hst)
          · exact WkD.eq (congrArg (DV.buf 6) (hmk.trans hmk1.symm))
        · have hk' : k = a.pre.length := ge_dec h hk
          subst hk'
          exact ⟨(), (by refine Wk.of ?_ ?_ rfl rfl rfl<;>repeat' (first|exact trivial|exact WkD.same _|exact WkO.same _ _ rfl|exact WkD.fz _ _ _ rfl (Or.inl ⟨_, rfl⟩) rfl|refine WkO.vars rfl ?_|refine ⟨?_, ?_⟩|fail))⟩
      rintro ⟨⟩
      have hvl : (mixV a.pre.length (fun e => u64 (valuP m a e i)) (fun _ => u64 0) a.pre.length) = (vlU m a i).map u64 := by rw [mixV_full, vlU, List.map_map]; rfl
      have hlv : (vlU m a i).length = a.pre.length := by simp [vlU]
      have hv64 : ∀ s, s ∈ vlU m a i → s < 2 ^ 64 := fun s hs => by
        obtain ⟨e, _, rfl⟩ := List.mem_map.1 hs
        exact Nat.lt_of_lt_of_le (holds_lt n hM) (pow64_le hn64)
      have hmk : maskOf (fun k => ((vlU m a i).getD (l.getD k (0, 0)).2 0).testBit (l.getD k (0, 0)).1) l.length = valP m a l i := maskOf_congr fun k hk => by
        rw [vlU_get (hmem _ (List.mem_iff_getElem?.2 ⟨k, getD_mem hk⟩)).2]
      have hvs := vsU_succ m a l i
      have hvsl : ((vsU m a l i).map u64).length ≤ 1000 := by simp [vsU]; omega
      rw [hvl]
      try conv=>whnf
      have er : (vsU m a l i).map u64 ++ [PV.int .u64 ((valP m a l i : Nat) : Int)] = (vsU m a l (i + 1)).map u64 := by rw [hvs, List.map_append]; rfl
      have hlpV : ∀ y, y ∈ l → y.1 < 64 ∧ y.2 < (vlU m a i).length := fun y hy => ⟨by have := (hmem y hy).1; omega, by rw [hlv]; exact (hmem y hy).2⟩
      refine ⟨updPlan, [4, 6, 8], by kernel_rfl, ?_⟩
      (try conv=>whnf);repeat' (first|(apply And.intro<;>try conv=>whnf)|fail)
      all_goals (refine whr_V m a l (vsU m a l i) (vlU m a i) hlpV hv64 hl64 _ _ ?_)
      all_goals (rw [hmk])
      all_goals ((try conv=>whnf);repeat' (first|(apply And.intro<;>try conv=>whnf)|(apply cellsI;rfl)|(apply szI;rfl)|fail))
      · exact app_big (n := 1000) hvsl (by decide)
      · refine ⟨⟨i + 1, hi'⟩, by show m.val.length - (i + 1) < m.val.length - i; omega, ?_⟩
        (refine Wk.of ?_ ?_ rfl rfl rfl<;>repeat' (first|exact trivial|exact WkD.same _|exact WkO.same _ _ rfl|exact WkD.eq (congrArg (fun z : List PV => DV.buf _ z.length) er)|exact WkO.same _ _ (congrArg (fun z => some (DObj.arr _ z)) er)|refine WkD.int ?_|refine WkO.vars rfl ?_|refine ⟨?_, ?_⟩|(refine wrapA ?_ ?_ ?_;(focus simp;done);(focus (try dsimp only);omega);(focus (try dsimp only);omega))|fail))
      · exact app_big (n := 1000) hvsl (by decide)
      · refine ⟨⟨i + 1, hi'⟩, by show m.val.length - (i + 1) < m.val.length - i; omega, ?_⟩
        (refine Wk.of ?_ ?_ rfl rfl rfl<;>repeat' (first|exact trivial|exact WkD.same _|exact WkO.same _ _ rfl|exact WkD.eq (congrArg (fun z : List PV => DV.buf _ z.length) er)|exact WkO.same _ _ (congrArg (fun z => some (DObj.arr _ z)) er)|refine WkD.int ?_|refine WkO.vars rfl ?_|refine ⟨?_, ?_⟩|(refine wrapA ?_ ?_ ?_;(focus simp;done);(focus (try dsimp only);omega);(focus (try dsimp only);omega))|fail))
      · exact app_big (n := 1000) hvsl (by decide)
      · refine ⟨⟨i + 1, hi'⟩, by show m.val.length - (i + 1) < m.val.length - i; omega, ?_⟩
        (refine Wk.of ?_ ?_ rfl rfl rfl<;>repeat' (first|exact trivial|exact WkD.same _|exact WkO.same _ _ rfl|exact WkD.eq (congrArg (fun z : List PV => DV.buf _ z.length) er)|exact WkO.same _ _ (congrArg (fun z => some (DObj.arr _ z)) er)|refine WkD.int ?_|refine WkO.vars rfl ?_|refine ⟨?_, ?_⟩|(refine wrapA ?_ ?_ ?_;(focus simp;done);(focus (try dsimp only);omega);(focus (try dsimp only);omega))|fail))
    · have hi' : i = m.val.length := by have := ge_dec (m := (m.val.map u64).length) h (by simpa using hi); simpa using this
      subst hi'
      exact ⟨(), (by refine Wk.of ?_ ?_ rfl rfl rfl<;>repeat' (first|exact trivial|exact WkD.same _|exact WkO.same _ _ rfl|exact WkD.fz _ _ _ rfl (Or.inl ⟨_, rfl⟩) rfl|refine WkO.vars rfl ?_|refine ⟨?_, ?_⟩|fail))⟩
  rintro ⟨⟩
  generalize hVS : (vsU m a l m.val.length) = vs
  refine ⟨Unit, fun _ => [(4, .ref 2 0), (7, .ref 3 0), (10, .ref 4 0)], fun _ => 5, fun _ => [(2, .var cells0), (3, .var [.pv (.sl (l.map pairPV))]), (4, .var [.pv (i64 (l.map pairPV).length), .pv (rowPV vs), .pv (.sl ((rsU m a l m.rel.length).map rowPV))])], ?_, ?_⟩
  · try conv=>whnf
    refine ⟨{ i : Nat // i ≤ m.rel.length }, fun i => [(2, .ref 0 0), (3, .ref 1 0), (4, .ref 2 0), (7, .ref 3 0), (9, .clo 26 [] [.ref 3 0]), (10, .ref 4 0), (85, .pv (.sl (m.rel.map rowPV))), (86, .pv (i64 (m.rel.map rowPV).length)), (87, .pv (i64 i.1))], fun _ => 6, fun i => [(0, .var (cellsM m)), (1, .var (cellsA a)), (2, .var cells0), (3, .var [.pv (.sl (l.map pairPV))]), (4, .var [.pv (i64 (l.map pairPV).length), .pv (rowPV vs), .buf 5 ((rsU m a l i.1).map rowPV).length]), (5, .arr 1 ((rsU m a l i.1).map rowPV))], fun i => m.rel.length - i.1, ⟨⟨0, Nat.zero_le _⟩, (by refine Wk.of ?_ ?_ rfl rfl rfl<;>repeat' (first|exact trivial|exact WkD.same _|exact WkO.same _ _ rfl|exact WkD.new' rfl rfl rfl|exact WkO.new _ _ rfl|refine WkO.vars rfl ?_|exact rfl|refine ⟨?_, ?_⟩|fail))⟩, ?_⟩
    rintro ⟨i, hi⟩
    (try conv=>whnf);repeat' (first|(apply And.intro<;>try conv=>whnf)|(intro h;try conv=>whnf)|(apply infoT;rfl)|fail)
    · have hi' : i < m.rel.length := by simpa using lt_dec h
      obtain ⟨r, hr, hrw⟩ : ∃ r, m.rel[i]? = some r ∧ m.rel.getD i [] = r := ⟨_, getD_mem hi', rfl⟩
      have hrm : r ∈ m.rel := List.mem_iff_getElem?.2 ⟨i, hr⟩
      have hrl := hM.rows r hrm
      have hrb := hf.2 r hrm
      obtain ⟨ra, hra, hraw⟩ : ∃ r, a.rel[i]? = some r ∧ a.rel.getD i [] = r := ⟨_, getD_mem (by have := hO.ags; omega), rfl⟩
      have hram : ra ∈ a.rel := List.mem_iff_getElem?.2 ⟨i, hra⟩
      have hral := hO.rows ra hram
      have hrab := hfa ra hram
      have hN : ((l.map pairPV).length : Int).toNat = l.length := by rw [List.length_map]; rfl
      have hz1 : List.replicate ((l.map pairPV).length : Int).toNat (PV.int .u64 0) = (mixV l.length (fun k => u64 (rowP r ra l (l.getD k (0, 0)))) (fun _ => u64 0) 0) := by rw [hN]; exact mixV_rep _ _ _
      have hmlv := mixV_len l.length (fun k => u64 (rowP r ra l (l.getD k (0, 0)))) (fun _ => u64 0)
      refine ⟨_, _, rfl, idx_map hr, rfl, ?_⟩
      (try conv=>whnf);repeat' (first|(apply And.intro<;>try conv=>whnf)|fail)
      · rfl
      · exact Int.natCast_nonneg _
      · show ((l.map pairPV).length : Int) ≤ 4294967296
        rw [List.length_map]; omega
      refine ⟨Unit, fun _ => [(2, .ref 0 0), (3, .ref 1 0), (4, .ref 2 0), (7, .ref 3 0), (9, .clo 26 [] [.ref 3 0]), (10, .ref 4 0), (18, .pv (.sl (mixV l.length (fun k => u64 (rowP r ra l (l.getD k (0, 0)))) (fun _ => u64 0) l.length))), (85, .pv (.sl (m.rel.map rowPV))), (86, .pv (i64 (m.rel.map rowPV).length)), (87, .pv (i64 i))], fun _ => 6, fun _ => [(0, .var (cellsM m)), (1, .var (cellsA a)), (2, .var cells0), (3, .var [.pv (.sl (l.map pairPV))]), (4, .var [.pv (i64 (l.map pairPV).length), .pv (rowPV vs), .buf 5 ((rsU m a l i).map rowPV).length]), (5, .arr 1 ((rsU m a l i).map rowPV))], ?_, ?_⟩
      · try conv=>whnf
        refine ⟨{ k : Nat // k ≤ l.length }, fun k => [(2, .ref 0 0), (3, .ref 1 0), (4, .ref 2 0), (7, .ref 3 0), (9, .clo 26 [] [.ref 3 0]), (10, .ref 4 0), (16, .ref 6 0), (17, .ref 7 0), (18, .buf 8 (mixV l.length (fun k => u64 (rowP r ra l (l.getD k (0, 0)))) (fun _ => u64 0) k.1).length), (85, .pv (.sl (m.rel.map rowPV))), (86, .pv (i64 (m.rel.map rowPV).length)), (87, .pv (i64 i)), (95, .pv (.sl (l.map pairPV))), (96, .pv (i64 (l.map pairPV).length)), (97, .pv (i64 k.1))], fun _ => 9, fun k => [(0, .var (cellsM m)), (1, .var (cellsA a)), (2, .var cells0), (3, .var [.pv (.sl (l.map pairPV))]), (4, .var [.pv (i64 (l.map pairPV).length), .pv (rowPV vs), .buf 5 ((rsU m a l i).map rowPV).length]), (5, .arr 1 ((rsU m a l i).map rowPV)), (6, .var [.pv (i64 i)]), (7, .var [.pv (rowPV r)]), (8, .arr 1 (mixV l.length (fun k => u64 (rowP r ra l (l.getD k (0, 0)))) (fun _ => u64 0) k.1))], fun k => l.length - k.1, ⟨⟨0, Nat.zero_le _⟩, ?_⟩, ?_⟩
        · (refine Wk.of ?_ ?_ rfl rfl rfl<;>repeat' (first|exact trivial|exact WkD.same _|exact WkO.same _ _ rfl|refine ⟨?_, ?_⟩|fail))
          · exact WkD.eq (congrArg (fun z : List PV => DV.buf 8 z.length) hz1)
          · exact WkO.same _ _ (congrArg (fun z => some (DObj.arr 1 z)) hz1)
        rintro ⟨k, hk⟩
        have hmk := hmlv k
        have hmk1 := hmlv (k + 1)
        have hst := mixV_set (n := l.length) (p := fun k => u64 (rowP r ra l (l.getD k (0, 0)))) (q := fun _ => u64 0) (e := k)
        (try conv=>whnf);repeat' (first|(apply And.intro<;>try conv=>whnf)|(intro h;try conv=>whnf)|(apply infoT;rfl)|fail)
        · have hk' : k < l.length := by simpa using lt_dec h
          obtain ⟨x, hx, hxw⟩ : ∃ y, l[k]? = some y ∧ l.getD k (0, 0) = y := ⟨_, getD_mem hk', rfl⟩
          have hxm := hmem x (List.mem_iff_getElem?.2 ⟨k, hx⟩)
          refine ⟨_, _, rfl, idx_map hx, rfl, ?_⟩
          try conv=>whnf
          refine DC.call 10 (HW m a l vs (rsU m a l i) i r (mixV l.length (fun k => u64 (rowP r ra l (l.getD k (0, 0)))) (fun _ => u64 0) k) x) ⟨rfl, rfl, rfl, rfl, rfl, rfl, rfl, rfl, rfl, rfl, trivial⟩ rfl rfl rfl rfl fun M' => ?_
          refine whr_W m a l vs (rsU m a l i) i r (mixV l.length (fun k => u64 (rowP r ra l (l.getD k (0, 0)))) (fun _ => u64 0) k) x ra hra (by omega) (by omega) (fun y hy => by have := hmem y hy; exact ⟨by omega, by omega⟩) hrb hrab hl64 _ _ ?_
          refine ⟨rfl, ?_⟩
          (try conv=>whnf);repeat' (first|(apply And.intro<;>try conv=>whnf)|fail)
          refine ⟨k, rfl, by rw [hmk]; exact hk', ?_⟩
          (try conv=>whnf);repeat' (first|(apply And.intro<;>try conv=>whnf)|fail)
          refine ⟨_, mixV_old hk', Nat.le_refl 1, ?_⟩
          try conv=>whnf
          rw [hxw] at hst
          refine ⟨⟨k + 1, hk'⟩, by show l.length - (k + 1) < l.length - k; omega, ?_⟩
          (refine Wk.of ?_ ?_ rfl rfl rfl<;>repeat' (first|exact trivial|exact WkD.same _|exact WkO.same _ _ rfl|refine WkD.int ?_|refine ⟨?_, ?_⟩|(refine wrapA ?_ ?_ ?_;(focus simp;done);(focus (try dsimp only);omega);(focus (try dsimp only);omega))|fail))
          · exact WkD.eq (congrArg (DV.buf 8) (hmk.trans hmk1.symm))
          · exact WkO.same _ _ (congrArg (fun z => some (DObj.arr 1 z)) hst)
        · have hk' : k = l.length := by have := ge_dec (m := (l.map pairPV).length) h (by simpa using hk); simpa using this
          subst hk'
          exact ⟨(), (by refine Wk.of ?_ ?_ rfl rfl rfl<;>repeat' (first|exact trivial|exact WkD.same _|exact WkO.same _ _ rfl|exact WkD.fz _ _ _ rfl (Or.inl ⟨_, rfl⟩) rfl|refine ⟨?_, ?_⟩|fail))⟩
      rintro ⟨⟩
      have hrs := rsU_succ m a l i
      have hrsl : ((rsU m a l i).map rowPV).length ≤ 1000 := by simp [rsU]; omega
      have er : (rsU m a l i).map rowPV ++ [PV.sl (mixV l.length (fun k => u64 (rowP r ra l (l.getD k (0, 0)))) (fun _ => u64 0) l.length)] = (rsU m a l (i + 1)).map rowPV := by
        rw [hrs, List.map_append, mixV_full, relP, hrw, hraw]
        congr 1
        show [PV.sl _] = [rowPV (l.map (rowP r ra l))]
        rw [rowPV, List.map_map]
        congr 2
        exact map_getD (g := fun x => u64 (rowP r ra l x)) (d := (0, 0)) rfl
      (try conv=>whnf);repeat' (first|(apply And.intro<;>try conv=>whnf)|(apply cellsI;rfl)|(apply szI;rfl)|fail)
      · exact app_big (n := 1000) hrsl (by decide)
      refine ⟨⟨i + 1, hi'⟩, by show m.rel.length - (i + 1) < m.rel.length - i; omega, ?_⟩
      (refine Wk.of ?_ ?_ rfl rfl rfl<;>repeat' (first|exact trivial|exact WkD.same _|exact WkO.same _ _ rfl|exact WkD.eq (congrArg (fun z : List PV => DV.buf _ z.length) er)|exact WkO.same _ _ (congrArg (fun z => some (DObj.arr _ z)) er)|refine WkD.int ?_|refine WkO.vars rfl ?_|refine ⟨?_, ?_⟩|(refine wrapA ?_ ?_ ?_;(focus simp;done);(focus (try dsimp only);omega);(focus (try dsimp only);omega))|fail))
    · have hi' : i = m.rel.length := by have := ge_dec (m := (m.rel.map rowPV).length) h (by simpa using hi); simpa using this
      subst hi'
      exact ⟨(), (by refine Wk.of ?_ ?_ rfl rfl rfl<;>repeat' (first|exact trivial|exact WkD.same _|exact WkO.same _ _ rfl|exact WkD.fz _ _ _ rfl (Or.inl ⟨_, rfl⟩) rfl|refine WkO.vars rfl ?_|refine ⟨?_, ?_⟩|fail))⟩
  rintro ⟨⟩
  try conv=>whnf
  refine ⟨.one 0 (.two 1 (.one 2 (.one 3 (.one 4 .done))) 2 (.one 1 (.one 3 (.one 4 .done)))), [2], by kernel_rfl, ?_⟩
  have hfin : updPV (prodM m a l, l, 0) = .tup [.agg [i64 (l.map pairPV).length, rowPV vs, .sl ((rsU m a l m.rel.length).map rowPV)], .sl (l.map pairPV), .int .i64 0] := by rw [← hVS, List.length_map]; rfl
  (try conv=>whnf);repeat' (first|(apply And.intro<;>try conv=>whnf)|fail)
  all_goals (rw [hfin]; exact .refl _)
end Go.Proofs.YtnbnkgcjgfmlcaaDoor
set_option maxRecDepth 100000
set_option maxHeartbeats 4000000
namespace Go.Proofs.YtnbnkgcjgfmlcaaDoor
open Go Go.Dv

theorem rm_All (n : Nat) (hn : n ≤ 64) : PureFn Tryd.prog 33 [i64 n] (u64 (2 ^ n - 1)) := by
  refine PureFn.intro mixed (fn := Tryd.f33) rfl rfl rfl fun M w0 => ?_
  (try conv=>whnf);repeat' (first|(apply And.intro<;>try conv=>whnf)|(intro h;try conv=>whnf)|fail)
  · have h1 := of_decide_eq_true h
    obtain rfl : n = 64 := by omega
    exact .refl _
  · exact Int.natCast_nonneg _
  · have h1 := of_decide_eq_false h
    exact le_int (all_nat (by omega))
theorem rm_beyond (n : Nat) (l : List Nat) (hn : n ≤ 64) (hl : l.length ≤ 1000) (hs : ∀ s, s ∈ l → s < 2 ^ 64) : PureFn Tryd.prog 14 [.sl (l.map u64), i64 n] (.bool (outB n l)) := by
  refine PureFn.intro mixed (fn := Tryd.f14) rfl rfl rfl fun M w0 => ?_
  have hA := rm_All n hn
  try conv=>whnf
  refine ⟨{ i : Nat // i ≤ l.length ∧ (l.take i).any (fun s => !decide (s < 2 ^ n)) = false }, fun i => [(0, .pv (.sl (l.map u64))), (1, .pv (i64 n)), (5, .pv (i64 i.1))], fun _ => 0, fun _ => [], fun i => l.length - i.1, ⟨⟨0, Nat.zero_le _, rfl⟩, (by refine Wk.of ?_ ?_ rfl rfl rfl<;>repeat' (first|exact trivial|exact WkD.same _|refine ⟨?_, ?_⟩|fail))⟩, ?_⟩
  rintro ⟨i, hi, ha⟩
  (try conv=>whnf);repeat' (first|(apply And.intro<;>try conv=>whnf)|(intro h;try conv=>whnf)|(apply infoT;rfl)|(refine lin_plan (by kernel_rfl) ?_;try conv=>whnf)|fail)
  · have hi' : i < l.length := by simpa using lt_dec h
    have hm : l[i]? = some l[i] := List.getElem?_eq_getElem hi'
    have hsi := hs _ (List.getElem_mem hi')
    have hob := andNotU_out (s := l[i]) hn hsi
    refine ⟨_, _, rfl, idx_map hm, rfl, ?_⟩
    (try conv=>whnf);repeat' (first|(apply And.intro<;>try conv=>whnf)|(intro h;try conv=>whnf)|(refine ⟨_, (by (conv=>whnf);exact hA), rfl, ?_⟩;try conv=>whnf)|fail)
    · have e : outB n l = true := any_at hi' (by rw [← hob]; exact h)
      rw [e]; exact .refl _
    · exact ⟨⟨i + 1, hi', any_take hi' ha (by rw [← hob]; exact h)⟩, by show l.length - (i + 1) < l.length - i; omega, (by refine Wk.of ?_ ?_ rfl rfl rfl<;>repeat' (first|exact trivial|exact WkD.same _|refine WkD.int ?_|refine ⟨?_, ?_⟩|(refine wrapA ?_ ?_ ?_;(focus simp;done);(focus (try dsimp only);omega);(focus (try dsimp only);omega))|fail))⟩
  · have hi' : i = l.length := by have := ge_dec (m := (l.map u64).length) h (by simpa using hi); simpa using this
    subst hi'
    rw [List.take_length] at ha
    rw [show outB n l = false from ha]; exact .refl _
theorem rm_Check (m : Mo) (hf : FitM m) : PureFn Tryd.prog 5 [m.pv] (.int .i64 (moI m)) := by
  refine PureFn.introC [3, 5, 10, 12] mixed (fn := Tryd.f5) rfl rfl rfl fun M w0 => ?_
  have e1 : ((m.val.map u64).length : Int) = (m.val.length : Int) := by simp
  have e2 : ((m.rel.map rowPV).length : Int) = (m.rel.length : Int) := by simp
  try conv=>whnf
  refine ⟨{ _x : Unit // moB1 m = false }, fun _ => [(1, .ref 0 0)], fun _ => 1, fun _ => HM m, ?_, ?_⟩
  · (try conv=>whnf);repeat' (first|(apply And.intro<;>try conv=>whnf)|(intro h;try conv=>whnf)|apply True.intro|(apply WhenQ.mk;(try conv=>whnf);rotate_left;(try conv=>whnf);rotate_right)|with_reducible assumption|(apply not_of;with_reducible assumption)|fail)
    · refine le_int ?_
      rw [moI, show moB1 m = true from h]; rfl
    · exact ⟨⟨(), h⟩, (by refine Wk.of ?_ ?_ rfl rfl rfl<;>repeat' (first|exact trivial|exact WkD.same _|exact WkO.same _ _ rfl|refine ⟨?_, ?_⟩|fail))⟩
  rintro ⟨_, h1⟩
  obtain ⟨n, hmn, n1, n64⟩ := moB1_no h1
  refine ⟨{ _x : Unit // moB2 m = false }, fun _ => [(1, .ref 0 0)], fun _ => 1, fun _ => HM m, ?_, ?_⟩
  · (try conv=>whnf);repeat' (first|(apply And.intro<;>try conv=>whnf)|(intro h;try conv=>whnf)|apply True.intro|(apply WhenQ.mk;(try conv=>whnf);rotate_left;(try conv=>whnf);rotate_right)|with_reducible assumption|(apply not_of;with_reducible assumption)|fail)
    · have h9 : moB2 m = true := by rw [moB2, ← e1, ← e2]; exact h
      refine le_int ?_
      rw [moI, h1, h9]; rfl
    · have h9 : moB2 m = false := by rw [moB2, ← e1, ← e2]; exact h
      exact ⟨⟨(), h9⟩, (by refine Wk.of ?_ ?_ rfl rfl rfl<;>repeat' (first|exact trivial|exact WkD.same _|exact WkO.same _ _ rfl|refine ⟨?_, ?_⟩|fail))⟩
  rintro ⟨_, h2⟩
  obtain ⟨ag, fa⟩ := moB2_no h2
  refine ⟨{ _x : Unit // moB3 m = false }, fun _ => [(1, .ref 0 0)], fun _ => 1, fun _ => HM m, ?_, ?_⟩
  · try conv=>whnf
    refine ⟨{ i : Nat // i ≤ m.rel.length ∧ (m.rel.take i).any (fun r => (r.length : Int) != m.n) = false }, fun i => [(1, .ref 0 0), (3, .pv (i64 i.1))], fun _ => 1, fun _ => HM m, fun i => m.rel.length - i.1, ⟨⟨0, Nat.zero_le _, rfl⟩, (by refine Wk.of ?_ ?_ rfl rfl rfl<;>repeat' (first|exact trivial|exact WkD.same _|exact WkO.same _ _ rfl|refine ⟨?_, ?_⟩|fail))⟩, ?_⟩
    rintro ⟨i, hi, ha⟩
    (try conv=>whnf);repeat' (first|(apply And.intro<;>try conv=>whnf)|(intro h;try conv=>whnf)|(apply infoT;rfl)|(refine lin_plan (by kernel_rfl) ?_;try conv=>whnf)|fail)
    · have hi' : i < m.rel.length := by simpa using lt_dec h
      have hm : m.rel[i]? = some m.rel[i] := List.getElem?_eq_getElem hi'
      have e3 : (((m.rel[i]).map u64).length : Int) = ((m.rel[i]).length : Int) := by simp
      refine ⟨_, _, rfl, idx_map hm, rfl, ?_⟩
      (try conv=>whnf);repeat' (first|(apply And.intro<;>try conv=>whnf)|(intro h;try conv=>whnf)|fail)
      · have e : moB3 m = true := any_at hi' (by rw [← e3]; exact h)
        refine le_int ?_
        rw [moI, h1, h2, e]; rfl
      · exact ⟨⟨i + 1, hi', any_take hi' ha (by rw [← e3]; exact h)⟩, by show m.rel.length - (i + 1) < m.rel.length - i; omega, (by refine Wk.of ?_ ?_ rfl rfl rfl<;>repeat' (first|exact trivial|exact WkD.same _|exact WkO.same _ _ rfl|refine WkD.int ?_|refine ⟨?_, ?_⟩|(refine wrapA ?_ ?_ ?_;(focus simp;done);(focus (try dsimp only);omega);(focus (try dsimp only);omega))|fail))⟩
    · have hi' : i = m.rel.length := by have := ge_dec (m := (m.rel.map rowPV).length) h (by simpa using hi); simpa using this
      subst hi'
      rw [List.take_length] at ha
      exact ⟨⟨(), ha⟩, (by refine Wk.of ?_ ?_ rfl rfl rfl<;>repeat' (first|exact trivial|exact WkD.same _|exact WkO.same _ _ rfl|refine ⟨?_, ?_⟩|fail))⟩
  rintro ⟨_, h3⟩
  have hrl : ∀ r, r ∈ m.rel → r.length ≤ 1000 := fun r hr => by
    have := List.any_eq_false.1 h3 r hr
    have h6 : ((r.length : Int) != m.n) = false := by simpa using this
    have h7 : (r.length : Int) = m.n := by simpa using h6
    omega
  have hO := rm_beyond n m.val n64 (by omega) hf.1
  rw [show i64 n = .int .i64 m.n by rw [hmn]; rfl] at hO
  have e4 : moB4 m = bif outB n m.val then true else m.rel.any fun r => outB n r := by rw [moB4, hmn, Int.toNat_natCast]
  refine ⟨{ _x : Unit // outB n m.val = false }, fun _ => [(1, .ref 0 0)], fun _ => 1, fun _ => HM m, ?_, ?_⟩
  · (try conv=>whnf);repeat' (first|(apply And.intro<;>try conv=>whnf)|(intro h;try conv=>whnf)|(refine PureFn.dcq (f := 14) rfl ?_;try conv=>whnf)|(refine ⟨_, _, hO, ?_, ?_⟩;(focus first|(refine ⟨?_, ?_, trivial⟩<;>first|exact PLe.refl _|exact PLe.nil)|exact trivial);try conv=>whnf)|fail)
    · refine le_int ?_
      rw [moI, h1, h2, h3, e4, h]; rfl
    · exact ⟨⟨(), h⟩, (by refine Wk.of ?_ ?_ rfl rfl rfl<;>repeat' (first|exact trivial|exact WkD.same _|exact WkO.same _ _ rfl|refine ⟨?_, ?_⟩|fail))⟩
  rintro ⟨_, h4⟩
  try conv=>whnf
  refine ⟨{ i : Nat // i ≤ m.rel.length ∧ (m.rel.take i).any (fun r => outB n r) = false }, fun i => [(1, .ref 0 0), (4, .pv (i64 i.1))], fun _ => 1, fun _ => HM m, fun i => m.rel.length - i.1, ⟨⟨0, Nat.zero_le _, rfl⟩, (by refine Wk.of ?_ ?_ rfl rfl rfl<;>repeat' (first|exact trivial|exact WkD.same _|exact WkO.same _ _ rfl|refine ⟨?_, ?_⟩|fail))⟩, ?_⟩
  rintro ⟨i, hi, ha⟩
  (try conv=>whnf);repeat' (first|(apply And.intro<;>try conv=>whnf)|(intro h;try conv=>whnf)|(apply infoT;rfl)|(refine lin_plan (by kernel_rfl) ?_;try conv=>whnf)|fail)
  · have hi' : i < m.rel.length := by simpa using lt_dec h
    have hm : m.rel[i]? = some m.rel[i] := List.getElem?_eq_getElem hi'
    have hrm := List.getElem_mem hi'
    have hO2 := rm_beyond n m.rel[i] n64 (hrl _ hrm) (hf.2 _ hrm)
    rw [show i64 n = .int .i64 m.n by rw [hmn]; rfl] at hO2
    refine ⟨_, _, rfl, idx_map hm, rfl, ?_⟩
    (try conv=>whnf);repeat' (first|(apply And.intro<;>try conv=>whnf)|(intro h;try conv=>whnf)|(refine ⟨_, (by (conv=>whnf);exact hO2), rfl, ?_⟩;try conv=>whnf)|fail)
    · have e : (m.rel.any fun r => outB n r) = true := any_at hi' h
      refine le_int ?_
      rw [moI, h1, h2, h3, e4, h4, e]; rfl
    · exact ⟨⟨i + 1, hi', any_take hi' ha h⟩, by show m.rel.length - (i + 1) < m.rel.length - i; omega, (by refine Wk.of ?_ ?_ rfl rfl rfl<;>repeat' (first|exact trivial|exact WkD.same _|exact WkO.same _ _ rfl|refine WkD.int ?_|refine ⟨?_, ?_⟩|(refine wrapA ?_ ?_ ?_;(focus simp;done);(focus (try dsimp only);omega);(focus (try dsimp only);omega))|fail))⟩
  · have hi' : i = m.rel.length := by have := ge_dec (m := (m.rel.map rowPV).length) h (by simpa using hi); simpa using this
    subst hi'
    rw [List.take_length] at ha
    refine le_int ?_
    rw [moI, h1, h2, h3, e4, h4, ha]; rfl
theorem rm_SameSets (l : List Nat) (hl : l.length ≤ 1000) : PureFn Tryd.prog 32 [rowPV l, rowPV l] (.bool true) := by
  refine PureFn.intro mixed (fn := Tryd.f32) rfl rfl rfl fun M w0 => ?_
  (try conv=>whnf);repeat' (first|(apply And.intro<;>try conv=>whnf)|(intro h;try conv=>whnf)|fail)
  · simp at h
  refine ⟨{ i : Nat // i ≤ l.length }, fun i => [(0, .pv (rowPV l)), (1, .pv (rowPV l)), (5, .pv (i64 i.1))], fun _ => 0, fun _ => [], fun i => l.length - i.1, ⟨⟨0, Nat.zero_le _⟩, (by refine Wk.of ?_ ?_ rfl rfl rfl<;>repeat' (first|exact trivial|exact WkD.same _|refine ⟨?_, ?_⟩|fail))⟩, ?_⟩
  rintro ⟨i, hi⟩
  (try conv=>whnf);repeat' (first|(apply And.intro<;>try conv=>whnf)|(intro h;try conv=>whnf)|(apply infoT;rfl)|(refine lin_plan (by kernel_rfl) ?_;try conv=>whnf)|fail)
  · have hi' : i < l.length := by simpa using lt_dec h
    have hm : l[i]? = some l[i] := List.getElem?_eq_getElem hi'
    refine ⟨_, _, rfl, idx_map hm, rfl, ?_⟩
    (try conv=>whnf);repeat' (first|(apply And.intro<;>try conv=>whnf)|(intro h;try conv=>whnf)|(apply infoT;rfl)|(refine ⟨_, _, rfl, idx_map (by with_reducible assumption), rfl, ?_⟩;try conv=>whnf)|fail)
    · simp at h
    · exact ⟨⟨i + 1, hi'⟩, by show l.length - (i + 1) < l.length - i; omega, (by refine Wk.of ?_ ?_ rfl rfl rfl<;>repeat' (first|exact trivial|exact WkD.same _|refine WkD.int ?_|refine ⟨?_, ?_⟩|(refine wrapA ?_ ?_ ?_;(focus simp;done);(focus (try dsimp only);omega);(focus (try dsimp only);omega))|fail))⟩
  · exact .refl _
theorem rm_Same (m : Mo) (h1 : m.val.length ≤ 1000) (h2 : m.rel.length ≤ 1000) (h3 : ∀ r, r ∈ m.rel → r.length ≤ 1000) : PureFn Tryd.prog 13 [m.pv, m.pv] (.bool true) := by
  refine PureFn.introC [3] mixed (fn := Tryd.f13) rfl rfl rfl fun M w0 => ?_
  have hS := rm_SameSets m.val h1
  try conv=>whnf
  refine ⟨Unit, fun _ => [(2, .ref 0 0), (3, .ref 1 0)], fun _ => 2, fun _ => [(0, .var (cellsM m)), (1, .var (cellsM m))], ?_, ?_⟩
  · (try conv=>whnf);repeat' (first|(apply And.intro<;>try conv=>whnf)|(intro h;try conv=>whnf)|apply True.intro|(apply WhenQ.mk;(try conv=>whnf);rotate_left;(try conv=>whnf);rotate_right)|with_reducible assumption|(apply not_of;with_reducible assumption)|(refine PureFn.dcq (f := 32) rfl ?_;try conv=>whnf)|(refine ⟨_, _, hS, ?_, ?_⟩;(focus first|(refine ⟨?_, ?_, trivial⟩<;>first|exact PLe.refl _|exact PLe.nil)|exact trivial);try conv=>whnf)|fail)
    · simp at h
    · exact ⟨(), (by refine Wk.of ?_ ?_ rfl rfl rfl<;>repeat' (first|exact trivial|exact WkD.same _|exact WkO.same _ _ rfl|refine ⟨?_, ?_⟩|fail))⟩
  rintro ⟨⟩
  try conv=>whnf
  refine ⟨{ i : Nat // i ≤ m.rel.length }, fun i => [(2, .ref 0 0), (3, .ref 1 0), (5, .pv (i64 i.1))], fun _ => 2, fun _ => [(0, .var (cellsM m)), (1, .var (cellsM m))], fun i => m.rel.length - i.1, ⟨⟨0, Nat.zero_le _⟩, (by refine Wk.of ?_ ?_ rfl rfl rfl<;>repeat' (first|exact trivial|exact WkD.same _|exact WkO.same _ _ rfl|refine ⟨?_, ?_⟩|fail))⟩, ?_⟩
  rintro ⟨i, hi⟩
  (try conv=>whnf);repeat' (first|(apply And.intro<;>try conv=>whnf)|(intro h;try conv=>whnf)|(apply infoT;rfl)|(refine lin_plan (by kernel_rfl) ?_;try conv=>whnf)|fail)
  · have hi' : i < m.rel.length := by simpa using lt_dec h
    have hm : m.rel[i]? = some m.rel[i] := List.getElem?_eq_getElem hi'
    have hS2 := rm_SameSets m.rel[i] (h3 _ (List.getElem_mem hi'))
    refine ⟨_, _, rfl, idx_map hm, rfl, ?_⟩
    (try conv=>whnf);repeat' (first|(apply And.intro<;>try conv=>whnf)|(intro h;first|with_reducible exact nt0 h|try conv=>whnf)|(apply infoT;rfl)|(refine ⟨_, _, rfl, idx_map (by with_reducible assumption), rfl, ?_⟩;try conv=>whnf)|(refine ⟨_, (by (conv=>whnf);exact hS2), rfl, ?_⟩;try conv=>whnf)|fail)
    exact ⟨⟨i + 1, hi'⟩, by show m.rel.length - (i + 1) < m.rel.length - i; omega, (by refine Wk.of ?_ ?_ rfl rfl rfl<;>repeat' (first|exact trivial|exact WkD.same _|exact WkO.same _ _ rfl|refine WkD.int ?_|refine ⟨?_, ?_⟩|(refine wrapA ?_ ?_ ?_;(focus simp;done);(focus (try dsimp only);omega);(focus (try dsimp only);omega))|fail))⟩
  · exact .refl _
def fewB (m : Mo) (k : Int) : Bool := bif bif bif decide (m.n > k) then decide (m.n ≤ 64) else false then true else decide ((m.val.length : Int) > 20) then true else decide ((m.rel.length : Int) > 10)
def fewM (m : Mo) (k : Int) : Bool := bif fewB m k then false else !(m.rel.any fun r => decide ((r.length : Int) > 70))
theorem rm_Few (m : Mo) (k : Int) : PureFn Tryd.prog 4 [m.pv, .int .i64 k] (.bool (fewM m k)) := by
  refine PureFn.introC [3] mixed (fn := Tryd.f4) rfl rfl rfl fun M w0 => ?_
  have e1 : ((m.val.map u64).length : Int) = (m.val.length : Int) := by simp
  have e2 : ((m.rel.map rowPV).length : Int) = (m.rel.length : Int) := by simp
  try conv=>whnf
  refine ⟨{ _x : Unit // fewB m k = false }, fun _ => [(2, .ref 0 0)], fun _ => 1, fun _ => HM m, ?_, ?_⟩
  · (try conv=>whnf);repeat' (first|(apply And.intro<;>try conv=>whnf)|(intro h;try conv=>whnf)|apply True.intro|(apply WhenQ.mk;(try conv=>whnf);rotate_left;(try conv=>whnf);rotate_right)|with_reducible assumption|(apply not_of;with_reducible assumption)|fail)
    · have h9 : fewB m k = true := by rw [fewB, ← e1, ← e2]; exact h
      rw [fewM, h9]; exact .refl _
    · have h9 : fewB m k = false := by rw [fewB, ← e1, ← e2]; exact h
      exact ⟨⟨(), h9⟩, (by refine Wk.of ?_ ?_ rfl rfl rfl<;>repeat' (first|exact trivial|exact WkD.same _|exact WkO.same _ _ rfl|refine ⟨?_, ?_⟩|fail))⟩
  rintro ⟨_, h1⟩
  have hrl : m.rel.length ≤ 10 := by
    unfold fewB at h1
    cases q1 : (bif bif decide (m.n > k) then decide (m.n ≤ 64) else false then true else decide ((m.val.length : Int) > 20)) with
    | true => rw [q1] at h1; cases h1
    | false =>
      rw [q1] at h1
      have := of_decide_eq_false (show decide ((m.rel.length : Int) > 10) = false from h1)
      omega
  try conv=>whnf
  refine ⟨{ i : Nat // i ≤ m.rel.length ∧ (m.rel.take i).any (fun r => decide ((r.length : Int) > 70)) = false }, fun i => [(2, .ref 0 0), (5, .pv (i64 i.1))], fun _ => 1, fun _ => HM m, fun i => m.rel.length - i.1, ⟨⟨0, Nat.zero_le _, rfl⟩, (by refine Wk.of ?_ ?_ rfl rfl rfl<;>repeat' (first|exact trivial|exact WkD.same _|exact WkO.same _ _ rfl|refine ⟨?_, ?_⟩|fail))⟩, ?_⟩
  rintro ⟨i, hi, ha⟩
  (try conv=>whnf);repeat' (first|(apply And.intro<;>try conv=>whnf)|(intro h;try conv=>whnf)|(apply infoT;rfl)|fail)
  · have hi' : i < m.rel.length := by simpa using lt_dec h
    have hm : m.rel[i]? = some m.rel[i] := List.getElem?_eq_getElem hi'
    have e3 : (((m.rel[i]).map u64).length : Int) = ((m.rel[i]).length : Int) := by simp
    refine ⟨_, _, rfl, idx_map hm, rfl, ?_⟩
    (try conv=>whnf);repeat' (first|(apply And.intro<;>try conv=>whnf)|(intro h;try conv=>whnf)|fail)
    · have e : (m.rel.any fun r => decide ((r.length : Int) > 70)) = true := any_at hi' (by rw [← e3]; exact h)
      rw [fewM, h1, e]; exact .refl _
    · exact ⟨⟨i + 1, hi', any_take hi' ha (by rw [← e3]; exact h)⟩, by show m.rel.length - (i + 1) < m.rel.length - i; omega, (by refine Wk.of ?_ ?_ rfl rfl rfl<;>repeat' (first|exact trivial|exact WkD.same _|exact WkO.same _ _ rfl|refine WkD.int ?_|refine ⟨?_, ?_⟩|(refine wrapA ?_ ?_ ?_;(focus simp;done);(focus (try dsimp only);omega);(focus (try dsimp only);omega))|fail))⟩
  · have hi' : i = m.rel.length := by have := ge_dec (m := (m.rel.map rowPV).length) h (by simpa using hi); simpa using this
    subst hi'
    rw [List.take_length] at ha
    rw [fewM, h1, ha]; exact .refl _
end Go.Proofs.YtnbnkgcjgfmlcaaDoor
set_option maxRecDepth 100000
set_option maxHeartbeats 4000000
namespace Go.Proofs.YtnbnkgcjgfmlcaaDoor
open Go Go.Dv

def isP (w e : Int) (q : Nat × Nat) : Bool := bif (q.1 : Int) == w then (q.2 : Int) == e else false
def ixP (l : List (Nat × Nat)) (w e : Int) : Int := match l.findIdx? (isP w e) with | none => -1 | some i => (i : Int)
theorem find_at {α : Type} {p : α → Bool} : ∀ {l : List α} {i : Nat} {x : α}, l[i]? = some x → p x = true → (l.take i).any p = false → l.findIdx? p = some i
  | [], i, x, h, _, _ => by simp at h
  | a :: r, 0, x, h, hx, _ => by
    have : a = x := by simpa using h
    subst this
    simp [List.findIdx?_cons, hx]
  | a :: r, i + 1, x, h, hx, hn => by
    have h1 : r[i]? = some x := by simpa using h
    have hn2 : (p a || (r.take i).any p) = false := by simpa using hn
    rw [Bool.or_eq_false_iff] at hn2
    rw [List.findIdx?_cons, hn2.1, find_at h1 hx hn2.2]; rfl
theorem find_none {α : Type} {p : α → Bool} {l : List α} (h : l.any p = false) : l.findIdx? p = none := by
  rw [List.findIdx?_eq_none_iff]
  exact fun x hx => by simpa using List.any_eq_false.1 h x hx
theorem fit_pair (x y : Int) : fitT Tryd.prog 47 (.agg [.int .i64 x, .int .i64 y]) = true := by kernel_rfl
theorem eq_pair (w e : Int) (q : Nat × Nat) : eqPVs [.int .i64 w, .int .i64 e] [i64 q.1, i64 q.2] = isP w e q := by
  show ((w == (q.1 : Int)) && ((e == (q.2 : Int)) && true)) = bif (q.1 : Int) == w then (q.2 : Int) == e else false
  rw [Bool.and_true, show (w == (q.1 : Int)) = ((q.1 : Int) == w) by rw [Bool.eq_iff_iff, beq_iff_eq, beq_iff_eq]; exact ⟨Eq.symm, Eq.symm⟩, show (e == (q.2 : Int)) = ((q.2 : Int) == e) by rw [Bool.eq_iff_iff, beq_iff_eq, beq_iff_eq]; exact ⟨Eq.symm, Eq.symm⟩]
  cases ((q.1 : Int) == w) <;> rfl
theorem sl_IndexP (l : List (Nat × Nat)) (w e : Int) (hl : l.length ≤ 1000) : PureFn Tryd.prog 37 [.sl (l.map pairPV), .agg [.int .i64 w, .int .i64 e]] (.int .i64 (ixP l w e)) := by
  refine PureFn.intro mixed (fn := Tryd.f37) rfl rfl rfl fun M w0 => ?_
  try conv=>whnf
  refine ⟨{ i : Nat // i ≤ l.length ∧ (l.take i).any (isP w e) = false }, fun i => [(0, .pv (.sl (l.map pairPV))), (3, .ref 0 0), (7, .pv (i64 (l.map pairPV).length)), (8, .pv (i64 i.1))], fun _ => 1, fun _ => [(0, .var [.pv (.int .i64 w), .pv (.int .i64 e)])], fun i => l.length - i.1, ⟨⟨0, Nat.zero_le _, rfl⟩, (by refine Wk.of ?_ ?_ rfl rfl rfl<;>repeat' (first|exact trivial|exact WkD.same _|exact WkO.same _ _ rfl|refine ⟨?_, ?_⟩|fail))⟩, ?_⟩
  rintro ⟨i, hi, hn⟩
  (try conv=>whnf);repeat' (first|(apply And.intro<;>try conv=>whnf)|(intro h;try conv=>whnf)|(apply infoT;rfl)|(refine lin_plan (by kernel_rfl) ?_;try conv=>whnf)|fail)
  · have hi' : i < l.length := by simpa using lt_dec h
    obtain ⟨y, hy, hyw⟩ : ∃ y, l[i]? = some y ∧ l[i] = y := ⟨_, List.getElem?_eq_getElem hi', rfl⟩
    refine ⟨_, _, rfl, idx_map hy, rfl, ?_⟩
    (try conv=>whnf);repeat' (first|(apply And.intro<;>try conv=>whnf)|(intro h;try conv=>whnf)|(apply guardI;kernel_rfl)|fail)
    · exact fit_pair _ _
    · exact fit_pair _ _
    · have hq : isP w e y = true := by rw [← eq_pair]; exact h
      rw [ixP, find_at hy hq hn]
      exact .refl _
    · have hq : isP w e y = false := by rw [← eq_pair]; exact h
      exact ⟨⟨i + 1, hi', any_take hi' hn (by rw [hyw]; exact hq)⟩, by show l.length - (i + 1) < l.length - i; omega, (by refine Wk.of ?_ ?_ rfl rfl rfl<;>repeat' (first|exact trivial|exact WkD.same _|exact WkO.same _ _ rfl|refine WkD.int ?_|refine ⟨?_, ?_⟩|(refine wrapA ?_ ?_ ?_;(focus simp;done);(focus (try dsimp only);omega);(focus (try dsimp only);omega))|fail))⟩
  · have hi' : i = l.length := by have := ge_dec (m := (l.map pairPV).length) h (by simpa using hi); simpa using this
    subst hi'
    rw [List.take_length] at hn
    rw [ixP, find_none hn]
    exact .refl _
theorem sl_EqP (l : List (Nat × Nat)) (hl : l.length ≤ 1000) : PureFn Tryd.prog 21 [.sl (l.map pairPV), .sl (l.map pairPV)] (.bool true) := by
  refine PureFn.intro mixed (fn := Tryd.f21) rfl rfl rfl fun M w0 => ?_
  (try conv=>whnf);repeat' (first|(apply And.intro<;>try conv=>whnf)|(intro h;try conv=>whnf)|fail)
  · simp at h
  refine ⟨{ i : Nat // i ≤ l.length }, fun i => [(0, .pv (.sl (l.map pairPV))), (1, .pv (.sl (l.map pairPV))), (12, .pv (i64 (l.map pairPV).length)), (13, .pv (i64 i.1))], fun _ => 0, fun _ => [], fun i => l.length - i.1, ⟨⟨0, Nat.zero_le _⟩, (by refine Wk.of ?_ ?_ rfl rfl rfl<;>repeat' (first|exact trivial|exact WkD.same _|refine ⟨?_, ?_⟩|fail))⟩, ?_⟩
  rintro ⟨i, hi⟩
  (try conv=>whnf);repeat' (first|(apply And.intro<;>try conv=>whnf)|(intro h;try conv=>whnf)|(apply infoT;rfl)|(refine lin_plan (by kernel_rfl) ?_;try conv=>whnf)|fail)
  · have hi' : i < l.length := by simpa using lt_dec h
    obtain ⟨y, hy, hyw⟩ : ∃ y, l[i]? = some y ∧ l[i] = y := ⟨_, List.getElem?_eq_getElem hi', rfl⟩
    have hs : isP y.1 y.2 y = true := by simp [isP]
    refine ⟨_, _, rfl, idx_map hy, rfl, ?_⟩
    (try conv=>whnf);repeat' (first|(apply And.intro<;>try conv=>whnf)|(intro h;try conv=>whnf)|(apply infoT;rfl)|(apply guardI;kernel_rfl)|(refine ⟨_, _, rfl, idx_map (by with_reducible assumption), rfl, ?_⟩;try conv=>whnf)|fail)
    · exact fit_pair _ _
    · exact fit_pair _ _
    · have h9 : (!eqPVs [.int .i64 (y.1 : Int), .int .i64 (y.2 : Int)] [i64 y.1, i64 y.2]) = true := h
      rw [eq_pair, hs] at h9; cases h9
    · exact ⟨⟨i + 1, hi'⟩, by show l.length - (i + 1) < l.length - i; omega, (by refine Wk.of ?_ ?_ rfl rfl rfl<;>repeat' (first|exact trivial|exact WkD.same _|refine WkD.int ?_|refine ⟨?_, ?_⟩|(refine wrapA ?_ ?_ ?_;(focus simp;done);(focus (try dsimp only);omega);(focus (try dsimp only);omega))|fail))⟩
  · exact .refl _
theorem updI_len (m : Mo) (a : Act) : (updI m a).2.1.length ≤ 64 := by
  unfold updI
  cases ((worldsI m a).2 != 0) with
  | true => exact Nat.zero_le _
  | false =>
    cases h : decide (((worldsI m a).1.length : Int) > 64) with
    | true => exact Nat.zero_le _
    | false =>
      have := of_decide_eq_false h
      show (worldsI m a).1.length ≤ 64
      omega
theorem pr_At (m : Mo) (w : Int) (a : Act) (e : Int) (hf : FitM m) (hfa : Fit a) (hl : a.rel.length ≤ 1000) (hp : ∀ l, l ∈ a.post → l.length ≤ 1000) : PureFn Tryd.prog 22 [m.pv, .int .i64 w, a.pv, .int .i64 e] (atPV (atI m w a e)) := by
  refine PureFn.introC [2, 8, 9] mixed (fn := Tryd.f22) rfl rfl rfl fun M w0 => ?_
  have hU := pr_Update m a hf hfa hl hp
  have hlen := updI_len m a
  obtain ⟨R, hR⟩ : ∃ R, R = atI m w a e := ⟨_, rfl⟩
  rw [← hR]
  rw [atI] at hR
  generalize updI m a = X at hU hlen hR
  obtain ⟨p, l, c⟩ := X
  have hlen : l.length ≤ 64 := hlen
  have hg : ((p, l, c) : Mo × List (Nat × Nat) × Int).2.2 = c := rfl
  rw [hg] at hR
  have e1 : ((a.pre.map fpv).length : Int) = (a.pre.length : Int) := by simp
  have hI := sl_IndexP l w e (by omega)
  try conv=>whnf
  refine ⟨Unit, fun _ => [(1, .pv (.int .i64 w)), (3, .pv (.int .i64 e)), (4, .ref 0 0), (6, .ref 1 0), (8, .ref 2 0), (11, .ref 3 0), (12, .pv (.sl (l.map pairPV))), (13, .pv (.int .i64 c))], fun _ => 4, fun _ => [(0, .var (cellsM m)), (1, .var (cellsA a)), (2, .var cells0), (3, .var (cellsM p))], ?_, ?_⟩
  · (try conv=>whnf);repeat' (first|(refine PureFn.dcq (f := 11) rfl ?_;try conv=>whnf)|(refine ⟨_, _, hU, ?_, ?_⟩;(focus first|(refine ⟨?_, ?_, trivial⟩<;>first|exact PLe.refl _|exact PLe.nil)|exact trivial);try conv=>whnf)|fail)
    exact ⟨(), (by refine Wk.of ?_ ?_ rfl rfl rfl<;>repeat' (first|exact trivial|exact WkD.same _|exact WkO.same _ _ rfl|refine ⟨?_, ?_⟩|fail))⟩
  rintro ⟨⟩
  refine ⟨{ _x : Unit // (c != 0) = false ∧ badW m w = false ∧ badEv a e = false }, fun _ => [(1, .pv (.int .i64 w)), (3, .pv (.int .i64 e)), (8, .ref 2 0), (11, .ref 3 0), (12, .pv (.sl (l.map pairPV)))], fun _ => 4, fun _ => [(2, .var cells0), (3, .var (cellsM p))], ?_, ?_⟩
  · (try conv=>whnf);repeat' (first|(apply And.intro<;>try conv=>whnf)|(intro h;try conv=>whnf)|apply True.intro|(apply WhenQ.mk;(try conv=>whnf);rotate_left;(try conv=>whnf);rotate_right)|with_reducible assumption|(apply not_of;with_reducible assumption)|fail)
    · have h0 : (c != 0) = true := h
      rw [hR, h0]; exact PLe.tups ⟨le_noMo, .refl _, .refl _, trivial⟩
    · rename_i h0
      rw [hR, show (c != 0) = false from h0, show badW m w = true from h]; exact PLe.tups ⟨le_noMo, .refl _, .refl _, trivial⟩
    · rename_i h0 h1
      have h9 : badEv a e = true := by rw [badEv, ← e1]; exact h
      rw [hR, show (c != 0) = false from h0, show badW m w = false from h1, h9]; exact PLe.tups ⟨le_noMo, .refl _, .refl _, trivial⟩
    · rename_i h0 h1
      have h9 : badEv a e = false := by rw [badEv, ← e1]; exact h
      exact ⟨⟨(), h0, h1, h9⟩, (by refine Wk.of ?_ ?_ rfl rfl rfl<;>repeat' (first|exact trivial|exact WkD.same _|exact WkO.same _ _ rfl|refine ⟨?_, ?_⟩|fail))⟩
  rintro ⟨_, h0, h1, h2⟩
  rw [h0, h1, h2] at hR
  have hR : R = match l.findIdx? (isP w e) with | none => (noMo, 0, 11) | some i => (p, (i : Int), 0) := hR
  rw [ixP] at hI
  cases hx : l.findIdx? (isP w e) with
  | none =>
    rw [hx] at hI hR
    have hI : PureFn Tryd.prog 37 [.sl (l.map pairPV), .agg [.int .i64 w, .int .i64 e]] (.int .i64 (-1)) := hI
    rw [hR]
    refine ⟨Unit, fun _ => [(8, .ref 2 0), (11, .ref 3 0), (14, .pv (.int .i64 (-1)))], fun _ => 4, fun _ => [(2, .var cells0), (3, .var (cellsM p))], ?_, ?_⟩
    · (try conv=>whnf);repeat' (first|(refine PureFn.dcq (f := 37) rfl ?_;try conv=>whnf)|(refine ⟨_, _, hI, ?_, ?_⟩;(focus first|(refine ⟨?_, ?_, trivial⟩<;>first|exact PLe.refl _|exact PLe.nil)|exact trivial);try conv=>whnf)|fail)
      exact ⟨(), (by refine Wk.of ?_ ?_ rfl rfl rfl<;>repeat' (first|exact trivial|exact WkD.same _|exact WkO.same _ _ rfl|refine ⟨?_, ?_⟩|fail))⟩
    rintro ⟨⟩
    (try conv=>whnf);repeat' (first|(apply And.intro<;>try conv=>whnf)|(intro h;try conv=>whnf)|fail)
    · exact PLe.tups ⟨le_noMo, .refl _, .refl _, trivial⟩
    · simp at h
  | some i =>
    rw [hx] at hI hR
    have hI : PureFn Tryd.prog 37 [.sl (l.map pairPV), .agg [.int .i64 w, .int .i64 e]] (.int .i64 (i : Nat)) := hI
    rw [hR]
    refine ⟨Unit, fun _ => [(8, .ref 2 0), (11, .ref 3 0), (14, .pv (i64 i))], fun _ => 4, fun _ => [(2, .var cells0), (3, .var (cellsM p))], ?_, ?_⟩
    · (try conv=>whnf);repeat' (first|(refine PureFn.dcq (f := 37) rfl ?_;try conv=>whnf)|(refine ⟨_, _, hI, ?_, ?_⟩;(focus first|(refine ⟨?_, ?_, trivial⟩<;>first|exact PLe.refl _|exact PLe.nil)|exact trivial);try conv=>whnf)|fail)
      exact ⟨(), (by refine Wk.of ?_ ?_ rfl rfl rfl<;>repeat' (first|exact trivial|exact WkD.same _|exact WkO.same _ _ rfl|refine ⟨?_, ?_⟩|fail))⟩
    rintro ⟨⟩
    (try conv=>whnf);repeat' (first|(apply And.intro<;>try conv=>whnf)|(intro h;try conv=>whnf)|fail)
    · have := of_decide_eq_true h
      omega
    · exact .refl _
end Go.Proofs.YtnbnkgcjgfmlcaaDoor
set_option maxRecDepth 100000
namespace Go.Proofs.YtnbnkgcjgfmlcaaDoor
open Go Go.RowKit

theorem tz64_core (x k idx : Nat) (w : World) (hx0 : ((x : Int) == 0) = false)
    (key : IntKind.u64.wrap (bits BinOp.and IntKind.u64 (x : Int) (IntKind.u64.wrap (-(x : Int))) * 285870213051353865) / 288230376151711744 = (idx : Int))
    (hi : idx < 64) (hk : k < 64) (hcell : w.cell? ⟨0, idx, none⟩ = some (.int .u8 k)) :
    Calls Tryd.prog 69 #[.int .u64 x] w fun e w' => e = .returned (.int .i64 k) ∧ w' = w := by
  go_enter Tryd.func69, Tryd.ntmps69
  go_wp2_with (simp only [key])
  go_ret
  exact ⟨rfl, rfl⟩
theorem tz64_zero (w : World) : Calls Tryd.prog 69 #[.int .u64 0] w fun e w' => e = .returned (.int .i64 64) ∧ w' = w := by
  go_enter Tryd.func69, Tryd.ntmps69
  go_wp2
  go_ret
  exact ⟨rfl, rfl⟩
theorem tz64_key (x a : Nat) (hx : x < 18446744073709551616) (hx0 : x ≠ 0) (hlow : x &&& (18446744073709551616 - x) = a) :
    IntKind.u64.wrap (bits BinOp.and IntKind.u64 (x : Int) (IntKind.u64.wrap (-(x : Int))) * 285870213051353865) / 288230376151711744 = ((a * 285870213051353865 % 18446744073709551616 / 288230376151711744 : Nat) : Int) := by
  have e1 : IntKind.u64.wrap (-(x : Int)) = ((18446744073709551616 - x : Nat) : Int) := by rw [IntKind.wrap_u64]; omega
  rw [e1, bits_and_u64_nat x _ hx (by omega), hlow, IntKind.wrap_u64]
  omega
theorem tz64 (x : Nat) (hx : x < 18446744073709551616) (w : World) (hT : ∀ j, j < Lib.deBruijn64tab.length → w.cell? ⟨0, j, none⟩ = some (.int .u8 (Lib.deBruijn64tab.getD j 0))) :
    Calls Tryd.prog 69 #[.int .u64 x] w fun e w' => e = .returned (.int .i64 (Lib.ctz 64 x)) ∧ w' = w := by
  by_cases hx0 : x = 0
  · subst hx0
    exact tz64_zero w
  · obtain ⟨hlow, hk⟩ := Lib.lowest_bit 64 x hx0 hx
    obtain ⟨hi, htab⟩ := Lib.deBruijn64_at _ hk
    have hcell := hT _ hi
    rw [htab] at hcell
    exact tz64_core x _ _ w (by simp; omega) (tz64_key x _ hx hx0 hlow) hi hk hcell
end Go.Proofs.YtnbnkgcjgfmlcaaDoor
set_option maxRecDepth 100000
set_option maxHeartbeats 4000000
namespace Go.Proofs.YtnbnkgcjgfmlcaaDoor
open Go Go.Dv
open Go.RowKit (Below)

/-! the members of a set -/
def memL (s : Nat) : List Nat := (List.range 64).filter s.testBit
theorem memL_mem {s i : Nat} : i ∈ memL s ↔ i < 64 ∧ s.testBit i = true := by rw [memL, List.mem_filter, List.mem_range]
theorem filter_first {p : Nat → Bool} {k : Nat} (hk : p k = true) (h : ∀ i, i < k → p i = false) : ∀ n, k < n → (List.range n).filter p = k :: (List.range n).filter (fun i => p i && !(i == k))
  | 0, h0 => by omega
  | n + 1, h0 => by
    rw [List.range_succ, List.filter_append, List.filter_append]
    by_cases e : n = k
    · have e1 : (List.range n).filter p = [] := List.filter_eq_nil_iff.2 fun i hi => by rw [h i (by have := List.mem_range.1 hi; omega)]; simp
      have e2 : (List.range n).filter (fun i => p i && !(i == k)) = [] := List.filter_eq_nil_iff.2 fun i hi => by rw [h i (by have := List.mem_range.1 hi; omega)]; simp
      rw [e1, e2, e]
      simp [hk]
    · have e3 : (n == k) = false := by simpa using e
      rw [filter_first hk h n (by omega), List.cons_append]
      congr 2
      simp only [List.filter_cons, List.filter_nil, e3, Bool.not_false, Bool.and_true]
theorem ctz_bits {x : Nat} (h0 : x ≠ 0) (h : x < 2 ^ 64) : Lib.ctz 64 x < 64 ∧ x.testBit (Lib.ctz 64 x) = true ∧ (∀ i, i < Lib.ctz 64 x → x.testBit i = false) ∧ ∀ i, (x &&& (x - 1)).testBit i = (x.testBit i && !(i == Lib.ctz 64 x)) := by
  obtain ⟨q, hq, hk⟩ := Lib.ctzFrom_spec 64 x (by omega) h
  have e : Lib.ctz 64 x = Lib.ctzFrom 64 x := by simp [Lib.ctz, h0]
  rw [e]
  generalize Lib.ctzFrom 64 x = k at hq hk ⊢
  have hb : ∀ i, x.testBit i = (decide (k ≤ i) && (2 * q + 1).testBit (i - k)) := fun i => by
    rw [hq, Nat.testBit_two_pow_mul]
  have hp := Nat.two_pow_pos k
  have hx1 : x - 1 = 2 ^ k * (2 * q) + (2 ^ k - 1) := by rw [hq, Nat.mul_add]; omega
  have hc : ∀ i, (x - 1).testBit i = if i < k then (2 ^ k - 1).testBit i else (2 * q).testBit (i - k) := fun i => by
    rw [hx1, Nat.testBit_two_pow_mul_add _ (by omega)]
  refine ⟨hk, ?_, fun i hi => ?_, fun i => ?_⟩
  · rw [hb, decide_eq_true (Nat.le_refl k), Nat.sub_self]; simp
  · rw [hb, decide_eq_false (by omega)]; rfl
  · rw [Nat.testBit_and, hb, hc]
    by_cases hi : i < k
    · rw [decide_eq_false (by omega)]; rfl
    · rw [if_neg hi, decide_eq_true (by omega), Bool.true_and]
      by_cases e : i = k
      · rw [e, Nat.sub_self]; simp
      · obtain ⟨j, hj⟩ : ∃ j, i - k = j + 1 := ⟨i - k - 1, by omega⟩
        have e3 : (i == k) = false := by simpa using e
        rw [hj, e3, Nat.testBit_succ, Nat.testBit_succ, show (2 * q + 1) / 2 = q by omega, show 2 * q / 2 = q by omega]
        cases q.testBit j <;> rfl
theorem memL_step {x : Nat} (h0 : x ≠ 0) (h : x < 2 ^ 64) : memL x = Lib.ctz 64 x :: memL (x &&& (x - 1)) := by
  obtain ⟨h1, h2, h3, h4⟩ := ctz_bits h0 h
  rw [memL, filter_first h2 h3 64 h1, memL]
  congr 2
  funext i
  rw [h4 i]
theorem memL_zero : memL 0 = [] := by rw [memL]; exact List.filter_eq_nil_iff.2 fun i _ => by rw [Nat.zero_testBit]; simp
theorem memL_len (s : Nat) : (memL s).length ≤ 64 := Nat.le_trans (List.length_filter_le _ _) (by simp)
theorem memL_pos {s : Nat} (h0 : s ≠ 0) (h : s < 2 ^ 64) : 1 ≤ (memL s).length := by rw [memL_step h0 h]; simp
theorem fn_tz (x : Nat) (hx : x < 2 ^ 64) : PureFn Tryd.prog 69 [u64 x] (.int .i64 (Lib.ctz 64 x : Nat)) := by
  refine PureFn.mk ⟨by kernel_rfl, fun M w vs hG hM hrel => ?_⟩
  obtain ⟨hl, hr⟩ := hrel
  match vs, hl with
  | [v], _ =>
    have h1 := hr 0 _ v rfl rfl
    cases h1
    refine (tz64 x hx w hG.2).mono ?_
    rintro e w' ⟨rfl, rfl⟩
    exact ⟨_, rfl, .int _ _, Below.refl _ _⟩
def intsPV (l : List Nat) : PV := .sl (l.map i64)
theorem md_members (s : Nat) (hs : s < 2 ^ 64) : PureFn Tryd.prog 48 [u64 s] (intsPV (memL s)) := by
  refine PureFn.intro mixed (fn := Tryd.f48) rfl rfl rfl fun M w0 => ?_
  try conv=>whnf
  refine ⟨{ q : Nat × List Nat // q.1 < 2 ^ 64 ∧ q.2 ++ memL q.1 = memL s }, fun q => [(0, .pv (u64 q.1.1)), (3, .buf 0 (q.1.2.map i64).length)], fun _ => 1, fun q => [(0, .arr 1 (q.1.2.map i64))], fun q => (memL q.1.1).length, ⟨⟨(s, []), hs, rfl⟩, (by refine Wk.of ?_ ?_ rfl rfl rfl<;>repeat' (first|exact trivial|exact WkD.same _|exact WkD.new' rfl rfl rfl|exact WkO.new _ _ rfl|exact rfl|refine ⟨?_, ?_⟩|fail))⟩, ?_⟩
  rintro ⟨⟨x, l⟩, hx, hl⟩
  have hx : x < 2 ^ 64 := hx
  have hl : l ++ memL x = memL s := hl
  have hT := fn_tz x hx
  have hlen : (l.map i64).length ≤ 1000 := by
    have h1 := memL_len s
    rw [← hl, List.length_append] at h1
    rw [List.length_map]; omega
  (try conv=>whnf);repeat' (first|(apply And.intro<;>try conv=>whnf)|(intro h;try conv=>whnf)|(apply bleI;rfl)|(apply cellsI;rfl)|(apply szI;rfl)|(refine PureFn.dcq (f := 69) rfl ?_;try conv=>whnf)|(refine ⟨_, _, hT, ?_, ?_⟩;(focus first|(refine ⟨?_, trivial⟩<;>first|exact PLe.refl _|exact PLe.nil)|exact trivial);try conv=>whnf)|fail)
  · exact app_big (n := 1000) hlen (by decide)
  · have hx0 : x ≠ 0 := by
      have h0 : ((x : Int) != 0) = true := h
      intro e; rw [e] at h0; exact absurd h0 (by decide)
    have hst := memL_step hx0 hx
    refine ⟨⟨(x &&& (x - 1), l ++ [Lib.ctz 64 x]), Nat.and_lt_two_pow _ (by omega), ?_⟩, ?_, ?_⟩
    · show l ++ [Lib.ctz 64 x] ++ memL (x &&& (x - 1)) = memL s
      rw [← hl, hst, List.append_assoc]; rfl
    · show (memL (x &&& (x - 1))).length < (memL x).length
      rw [hst, List.length_cons]; omega
    have e1 : andU (x : Nat) (IntKind.wrap .u64 ((x : Int) - 1)) = ((x &&& (x - 1) : Nat) : Int) := by
      rw [wrapU (by omega) (by omega), show ((x : Int) - 1) = ((x - 1 : Nat) : Int) by omega, andU_nat hx (by omega)]
    have e2 : (l.map i64) ++ [PV.int .i64 (Lib.ctz 64 x : Nat)] = (l ++ [Lib.ctz 64 x]).map i64 := by rw [List.map_append]; rfl
    (refine Wk.of ?_ ?_ rfl rfl rfl<;>repeat' (first|exact trivial|exact WkD.eq (congrArg (fun z : List PV => DV.buf _ z.length) e2)|exact WkO.same _ _ (congrArg (fun z => some (DObj.arr _ z)) e2)|refine WkD.int ?_|refine ⟨?_, ?_⟩|fail))
    all_goals exact e1
  · have hx0 : x = 0 := by
      have h0 : ((x : Int) != 0) = false := h
      have : (x : Int) = 0 := by simpa using h0
      omega
    rw [hx0, memL_zero, List.append_nil] at hl
    have e9 : intsPV (memL s) = .sl (l.map i64) := by rw [intsPV, ← hl]
    exact e9.symm ▸ .refl (.sl (l.map i64))

/-! the worlds of a list, taken for a model -/
def pullN (s : Nat) (ws : List Nat) : Nat := maskOf (fun i => s.testBit (ws.getD i 0)) ws.length
theorem pull_step {q : Nat → Bool} {s w i : Nat} (hs : s < 2 ^ 64) (hw : w < 64) (hi : i < 64) (hq : q i = s.testBit w) : orU (maskOf q i : Nat) (shlU (andU (shrU (s : Nat) (w : Nat)) 1) (i : Nat)) = ((maskOf q (i + 1) : Nat) : Int) := by
  rw [bit_and s w hs hw]
  cases h : s.testBit w with
  | true => rw [if_pos rfl]; exact or_shl hi (by rw [hq, h])
  | false =>
    rw [if_neg (by decide), ← mask_no (q := q) (w := i) (by rw [hq, h]), show shlU 0 (i : Nat) = ((0 : Nat) : Int) by show IntKind.wrap .u64 (0 * _) = 0; rw [Int.zero_mul]; rfl, orU_nat (mask_lt64 q (by omega)) (by decide), Nat.or_zero]
theorem md_pull (s : Nat) (ws : List Nat) (hs : s < 2 ^ 64) (hw : ∀ w, w ∈ ws → w < 64) (hl : ws.length ≤ 64) : PureFn Tryd.prog 70 [u64 s, intsPV ws] (u64 (pullN s ws)) := by
  refine PureFn.intro mixed (fn := Tryd.f70) rfl rfl rfl fun M w0 => ?_
  try conv=>whnf
  refine ⟨{ i : Nat // i ≤ ws.length }, fun i => [(0, .pv (u64 s)), (5, .pv (u64 (maskOf (fun i => s.testBit (ws.getD i 0)) i.1))), (8, .pv (intsPV ws)), (9, .pv (i64 (ws.map i64).length)), (10, .pv (i64 i.1))], fun _ => 0, fun _ => [], fun i => ws.length - i.1, ⟨⟨0, Nat.zero_le _⟩, (by refine Wk.of ?_ ?_ rfl rfl rfl<;>repeat' (first|exact trivial|exact WkD.same _|refine ⟨?_, ?_⟩|fail))⟩, ?_⟩
  intro i
  have hi := i.2
  (try conv=>whnf);repeat' (first|(apply And.intro<;>try conv=>whnf)|(intro h;try conv=>whnf)|(apply infoT;rfl)|fail)
  · have hi' : i.1 < ws.length := by simpa using lt_dec h
    obtain ⟨w, hx, hxw⟩ : ∃ y, ws[i.1]? = some y ∧ ws.getD i.1 0 = y := ⟨_, getD_mem hi', rfl⟩
    have hw64 := hw w (List.mem_iff_getElem?.2 ⟨_, hx⟩)
    have hst := pull_step (q := fun i => s.testBit (ws.getD i 0)) hs hw64 (show i.1 < 64 by omega) (by show s.testBit (ws.getD i.1 0) = _; rw [hxw])
    refine ⟨_, _, rfl, idx_map hx, rfl, ?_⟩
    (try conv=>whnf);repeat' (first|(apply And.intro<;>try conv=>whnf)|fail)
    · exact Int.natCast_nonneg _
    · exact Int.natCast_nonneg _
    · refine ⟨⟨i.1 + 1, hi'⟩, by show ws.length - (i.1 + 1) < ws.length - i.1; omega, ?_⟩
      (refine Wk.of ?_ ?_ rfl rfl rfl<;>repeat' (first|exact trivial|exact WkD.same _|refine WkD.int ?_|refine ⟨?_, ?_⟩|(refine wrapA ?_ ?_ ?_;(focus simp;done);(focus (try dsimp only);omega);(focus (try dsimp only);omega))|fail))
      exact hst
  · have hi' : i.1 = ws.length := by have := ge_dec (m := (ws.map i64).length) h (by simpa using hi); simpa using this
    exact le_int (congrArg (fun k => ((maskOf (fun i => s.testBit (ws.getD i 0)) k : Nat) : Int)) hi')
def arrI (m : Mo) (ws : List Nat) : Mo := ⟨(ws.length : Int), m.val.map fun s => pullN s ws, m.rel.map fun r => ws.map fun w => pullN (r.getD w 0) ws⟩
theorem take_map {α β : Type} {f : α → β} {l : List α} {i : Nat} {x : α} (h : l[i]? = some x) : (l.take (i + 1)).map f = (l.take i).map f ++ [f x] := by
  obtain ⟨h1, h2⟩ := List.getElem?_eq_some_iff.1 h
  rw [List.take_succ_eq_append_getElem h1, List.map_append, h2]; rfl
theorem md_arrange (m : Mo) (ws : List Nat) (n : Nat) (hM : OkM m n) (hw : ∀ w, w ∈ ws → w < n) (hl : ws.length ≤ 64) : PureFn Tryd.prog 49 [m.pv, intsPV ws] (arrI m ws).pv := by
  refine PureFn.introC [7, 16, 18] mixed (fn := Tryd.f49) rfl rfl rfl fun M w0 => ?_
  have hf := hM.fit
  have hn64 := hM.n64
  have hag := hM.ag
  have hfa := hM.fa
  have hw64 : ∀ w, w ∈ ws → w < 64 := fun w hh => by have := hw w hh; omega
  obtain ⟨ro, qro⟩ : ∃ ro : List Nat → List Nat, ro = fun r => ws.map fun w => pullN (r.getD w 0) ws := ⟨_, rfl⟩
  have har : (arrI m ws).pv = .agg [i64 (ws.map i64).length, rowPV ((m.val.take m.val.length).map fun s => pullN s ws), .sl (((m.rel.take m.rel.length).map ro).map rowPV)] := by rw [qro, List.length_map, List.take_length, List.take_length]; rfl
  rw [har]
  try conv=>whnf
  refine ⟨Unit, fun _ => [(1, .pv (intsPV ws)), (2, .ref 0 0), (4, .ref 1 0), (5, .ref 2 0)], fun _ => 3, fun _ => [(0, .var (cellsM m)), (1, .var cells0), (2, .var [.pv (i64 (ws.map i64).length), .pv (rowPV ((m.val.take m.val.length).map fun s => pullN s ws)), .pv .nil])], ?_, ?_⟩
  · try conv=>whnf
    refine ⟨{ i : Nat // i ≤ m.val.length }, fun i => [(1, .pv (intsPV ws)), (2, .ref 0 0), (4, .ref 1 0), (5, .ref 2 0), (17, .pv (.sl (m.val.map u64))), (18, .pv (i64 (m.val.map u64).length)), (19, .pv (i64 i.1))], fun _ => 4, fun i => [(0, .var (cellsM m)), (1, .var cells0), (2, .var [.pv (i64 (ws.map i64).length), .buf 3 (((m.val.take i.1).map fun s => pullN s ws).map u64).length, .pv .nil]), (3, .arr 1 (((m.val.take i.1).map fun s => pullN s ws).map u64))], fun i => m.val.length - i.1, ⟨⟨0, Nat.zero_le _⟩, (by refine Wk.of ?_ ?_ rfl rfl rfl<;>repeat' (first|exact trivial|exact WkD.same _|exact WkO.same _ _ rfl|exact WkD.new' rfl rfl rfl|exact WkO.new _ _ rfl|refine WkO.vars rfl ?_|exact rfl|refine ⟨?_, ?_⟩|fail))⟩, ?_⟩
    rintro ⟨i, hi⟩
    (try conv=>whnf);repeat' (first|(apply And.intro<;>try conv=>whnf)|(intro h;try conv=>whnf)|(apply infoT;rfl)|fail)
    · have hi' : i < m.val.length := by simpa using lt_dec h
      obtain ⟨s, hx⟩ : ∃ y, m.val[i]? = some y := ⟨_, List.getElem?_eq_getElem hi'⟩
      have hs64 := hf.1 s (List.mem_iff_getElem?.2 ⟨_, hx⟩)
      have hP := md_pull s ws hs64 hw64 hl
      have ht := take_map (f := fun s => pullN s ws) hx
      have hvsl : (((m.val.take i).map fun s => pullN s ws).map u64).length ≤ 1000 := by simp; omega
      have er : ((m.val.take i).map fun s => pullN s ws).map u64 ++ [PV.int .u64 ((pullN s ws : Nat) : Int)] = ((m.val.take (i + 1)).map fun s => pullN s ws).map u64 := by rw [ht, List.map_append]; rfl
      refine ⟨_, _, rfl, idx_map hx, rfl, ?_⟩
      (try conv=>whnf);repeat' (first|(apply And.intro<;>try conv=>whnf)|(apply cellsI;rfl)|(apply szI;rfl)|(refine lin_plan (by kernel_rfl) ?_;try conv=>whnf)|(refine ⟨_, (by (conv=>whnf);exact hP), rfl, ?_⟩;try conv=>whnf)|fail)
      · exact app_big (n := 1000) hvsl (by decide)
      · refine ⟨⟨i + 1, hi'⟩, by show m.val.length - (i + 1) < m.val.length - i; omega, ?_⟩
        (refine Wk.of ?_ ?_ rfl rfl rfl<;>repeat' (first|exact trivial|exact WkD.same _|exact WkO.same _ _ rfl|exact WkD.eq (congrArg (fun z : List PV => DV.buf _ z.length) er)|exact WkO.same _ _ (congrArg (fun z => some (DObj.arr _ z)) er)|refine WkD.int ?_|refine WkO.vars rfl ?_|refine ⟨?_, ?_⟩|(refine wrapA ?_ ?_ ?_;(focus simp;done);(focus (try dsimp only);omega);(focus (try dsimp only);omega))|fail))
    · have hi' : i = m.val.length := by have := ge_dec (m := (m.val.map u64).length) h (by simpa using hi); simpa using this
      subst hi'
      exact ⟨(), (by refine Wk.of ?_ ?_ rfl rfl rfl<;>repeat' (first|exact trivial|exact WkD.same _|exact WkO.same _ _ rfl|exact WkD.fz _ _ _ rfl (Or.inl ⟨_, rfl⟩) rfl|refine WkO.vars rfl ?_|refine ⟨?_, ?_⟩|fail))⟩
  rintro ⟨⟩
  generalize ((m.val.take m.val.length).map fun s => pullN s ws) = V
  refine ⟨Unit, fun _ => [(4, .ref 1 0), (5, .ref 2 0)], fun _ => 3, fun _ => [(1, .var cells0), (2, .var [.pv (i64 (ws.map i64).length), .pv (rowPV V), .pv (.sl (((m.rel.take m.rel.length).map ro).map rowPV))])], ?_, ?_⟩
  · try conv=>whnf
    refine ⟨{ i : Nat // i ≤ m.rel.length }, fun i => [(1, .pv (intsPV ws)), (2, .ref 0 0), (4, .ref 1 0), (5, .ref 2 0), (33, .pv (.sl (m.rel.map rowPV))), (34, .pv (i64 (m.rel.map rowPV).length)), (35, .pv (i64 i.1))], fun _ => 4, fun i => [(0, .var (cellsM m)), (1, .var cells0), (2, .var [.pv (i64 (ws.map i64).length), .pv (rowPV V), .buf 3 (((m.rel.take i.1).map ro).map rowPV).length]), (3, .arr 1 (((m.rel.take i.1).map ro).map rowPV))], fun i => m.rel.length - i.1, ⟨⟨0, Nat.zero_le _⟩, (by refine Wk.of ?_ ?_ rfl rfl rfl<;>repeat' (first|exact trivial|exact WkD.same _|exact WkO.same _ _ rfl|exact WkD.new' rfl rfl rfl|exact WkO.new _ _ rfl|refine WkO.vars rfl ?_|exact rfl|refine ⟨?_, ?_⟩|fail))⟩, ?_⟩
    rintro ⟨i, hi⟩
    (try conv=>whnf);repeat' (first|(apply And.intro<;>try conv=>whnf)|(intro h;try conv=>whnf)|(apply infoT;rfl)|fail)
    · have hi' : i < m.rel.length := by simpa using lt_dec h
      obtain ⟨r, hx⟩ : ∃ y, m.rel[i]? = some y := ⟨_, List.getElem?_eq_getElem hi'⟩
      have hrm : r ∈ m.rel := List.mem_iff_getElem?.2 ⟨_, hx⟩
      have hrl := hM.rows r hrm
      have hr64 := hf.2 r hrm
      have ht := take_map (f := ro) hx
      have hvsl : (((m.rel.take i).map ro).map rowPV).length ≤ 1000 := by simp; omega
      have er : ((m.rel.take i).map ro).map rowPV ++ [rowPV (ro r)] = ((m.rel.take (i + 1)).map ro).map rowPV := by rw [ht, List.map_append]; rfl
      refine ⟨_, _, rfl, idx_map hx, rfl, ?_⟩
      try conv=>whnf
      refine ⟨Unit, fun _ => [(1, .pv (intsPV ws)), (2, .ref 0 0), (4, .ref 1 0), (5, .ref 2 0), (10, .pv (rowPV ((ws.take ws.length).map fun w => pullN (r.getD w 0) ws))), (33, .pv (.sl (m.rel.map rowPV))), (34, .pv (i64 (m.rel.map rowPV).length)), (35, .pv (i64 i))], fun _ => 4, fun _ => [(0, .var (cellsM m)), (1, .var cells0), (2, .var [.pv (i64 (ws.map i64).length), .pv (rowPV V), .buf 3 (((m.rel.take i).map ro).map rowPV).length]), (3, .arr 1 (((m.rel.take i).map ro).map rowPV))], ?_, ?_⟩
      · try conv=>whnf
        refine ⟨{ j : Nat // j ≤ ws.length }, fun j => [(1, .pv (intsPV ws)), (2, .ref 0 0), (4, .ref 1 0), (5, .ref 2 0), (9, .pv (rowPV r)), (10, .buf 4 (((ws.take j.1).map fun w => pullN (r.getD w 0) ws).map u64).length), (33, .pv (.sl (m.rel.map rowPV))), (34, .pv (i64 (m.rel.map rowPV).length)), (35, .pv (i64 i)), (39, .pv (intsPV ws)), (40, .pv (i64 (ws.map i64).length)), (41, .pv (i64 j.1))], fun _ => 5, fun j => [(0, .var (cellsM m)), (1, .var cells0), (2, .var [.pv (i64 (ws.map i64).length), .pv (rowPV V), .buf 3 (((m.rel.take i).map ro).map rowPV).length]), (3, .arr 1 (((m.rel.take i).map ro).map rowPV)), (4, .arr 1 (((ws.take j.1).map fun w => pullN (r.getD w 0) ws).map u64))], fun j => ws.length - j.1, ⟨⟨0, Nat.zero_le _⟩, (by refine Wk.of ?_ ?_ rfl rfl rfl<;>repeat' (first|exact trivial|exact WkD.same _|exact WkO.same _ _ rfl|exact WkD.new' rfl rfl rfl|exact WkO.new _ _ rfl|exact rfl|refine ⟨?_, ?_⟩|fail))⟩, ?_⟩
        rintro ⟨j, hj⟩
        (try conv=>whnf);repeat' (first|(apply And.intro<;>try conv=>whnf)|(intro h;try conv=>whnf)|(apply infoT;rfl)|fail)
        · have hj' : j < ws.length := by simpa using lt_dec h
          obtain ⟨w, hx2⟩ : ∃ y, ws[j]? = some y := ⟨_, List.getElem?_eq_getElem hj'⟩
          have hwn := hw w (List.mem_iff_getElem?.2 ⟨_, hx2⟩)
          have hx3 : r[w]? = some (r.getD w 0) := getD_mem (by omega)
          have hs64 := hr64 _ (List.mem_iff_getElem?.2 ⟨_, hx3⟩)
          have hP := md_pull (r.getD w 0) ws hs64 hw64 hl
          have ht2 := take_map (f := fun w => pullN (r.getD w 0) ws) hx2
          have hvsl2 : (((ws.take j).map fun w => pullN (r.getD w 0) ws).map u64).length ≤ 1000 := by simp; omega
          have er2 : ((ws.take j).map fun w => pullN (r.getD w 0) ws).map u64 ++ [PV.int .u64 ((pullN (r.getD w 0) ws : Nat) : Int)] = ((ws.take (j + 1)).map fun w => pullN (r.getD w 0) ws).map u64 := by rw [ht2, List.map_append]; rfl
          generalize hgz : r.getD w 0 = z at hx3 hP er2
          refine ⟨_, _, rfl, idx_map hx2, rfl, ?_⟩
          (try conv=>whnf);repeat' (first|(apply And.intro<;>try conv=>whnf)|(apply infoT;rfl)|(apply cellsI;rfl)|(apply szI;rfl)|(refine ⟨_, _, rfl, idx_map (by with_reducible assumption), rfl, ?_⟩;try conv=>whnf)|(refine PureFn.dcq (f := 70) rfl ?_;try conv=>whnf)|(refine ⟨_, _, hP, ?_, ?_⟩;(focus first|(refine ⟨?_, ?_, trivial⟩<;>first|exact PLe.refl _|exact PLe.nil)|exact trivial);try conv=>whnf)|fail)
          · exact app_big (n := 1000) hvsl2 (by decide)
          · refine ⟨⟨j + 1, hj'⟩, by show ws.length - (j + 1) < ws.length - j; omega, ?_⟩
            (refine Wk.of ?_ ?_ rfl rfl rfl<;>repeat' (first|exact trivial|exact WkD.same _|exact WkO.same _ _ rfl|exact WkD.eq (congrArg (fun z : List PV => DV.buf _ z.length) er2)|exact WkO.same _ _ (congrArg (fun z => some (DObj.arr _ z)) er2)|refine WkD.int ?_|refine ⟨?_, ?_⟩|(refine wrapA ?_ ?_ ?_;(focus simp;done);(focus (try dsimp only);omega);(focus (try dsimp only);omega))|fail))
        · have hj' : j = ws.length := by have := ge_dec (m := (ws.map i64).length) h (by simpa using hj); simpa using this
          subst hj'
          exact ⟨(), (by refine Wk.of ?_ ?_ rfl rfl rfl<;>repeat' (first|exact trivial|exact WkD.same _|exact WkO.same _ _ rfl|exact WkD.fz _ _ _ rfl (Or.inl ⟨_, rfl⟩) rfl|refine ⟨?_, ?_⟩|fail))⟩
      rintro ⟨⟩
      have hR : (ws.take ws.length).map (fun w => pullN (r.getD w 0) ws) = ro r := by rw [List.take_length, qro]
      generalize (ws.take ws.length).map (fun w => pullN (r.getD w 0) ws) = R at hR
      rw [← hR] at er
      (try conv=>whnf);repeat' (first|(apply And.intro<;>try conv=>whnf)|(apply cellsI;rfl)|(apply szI;rfl)|fail)
      · exact app_big (n := 1000) hvsl (by decide)
      · refine ⟨⟨i + 1, hi'⟩, by show m.rel.length - (i + 1) < m.rel.length - i; omega, ?_⟩
        (refine Wk.of ?_ ?_ rfl rfl rfl<;>repeat' (first|exact trivial|exact WkD.same _|exact WkO.same _ _ rfl|exact WkD.eq (congrArg (fun z : List PV => DV.buf _ z.length) er)|exact WkO.same _ _ (congrArg (fun z => some (DObj.arr _ z)) er)|refine WkD.int ?_|refine WkO.vars rfl ?_|refine ⟨?_, ?_⟩|(refine wrapA ?_ ?_ ?_;(focus simp;done);(focus (try dsimp only);omega);(focus (try dsimp only);omega))|fail))
    · have hi' : i = m.rel.length := by have := ge_dec (m := (m.rel.map rowPV).length) h (by simpa using hi); simpa using this
      subst hi'
      exact ⟨(), (by refine Wk.of ?_ ?_ rfl rfl rfl<;>repeat' (first|exact trivial|exact WkD.same _|exact WkO.same _ _ rfl|exact WkD.fz _ _ _ rfl (Or.inl ⟨_, rfl⟩) rfl|refine WkO.vars rfl ?_|refine ⟨?_, ?_⟩|fail))⟩
  rintro ⟨⟩
  try conv=>whnf
  exact .refl _
end Go.Proofs.YtnbnkgcjgfmlcaaDoor
set_option maxRecDepth 100000
set_option maxHeartbeats 4000000
namespace Go.Proofs.YtnbnkgcjgfmlcaaDoor
open Go Go.Dv

def exN : Mo := ⟨2, [1], [[3, 3], [3, 3]]⟩
def exX : Act := ⟨[[nI 3 0], [nI 3 0, n0 4]], [[], []], [[1, 2], [3, 3]]⟩
def exY : Act := ⟨[[nI 3 0], [nI 3 0, n0 4]], [[⟨0, [nI 3 0, n0 4]⟩], [⟨0, [nI 3 0, n0 4]⟩]], [[1, 2], [3, 3]]⟩
theorem exN_fit : FitM exN := ⟨by intro s hs; simp [exN] at hs; omega, by intro r hr s hs; simp [exN] at hr; subst hr; simp at hs; omega⟩
theorem exX_fit : Fit exX := by intro r hr s hs; simp [exX] at hr; rcases hr with rfl | rfl <;> simp at hs <;> omega
theorem exY_fit : Fit exY := by intro r hr s hs; simp [exY] at hr; rcases hr with rfl | rfl <;> simp at hs <;> omega
theorem exX_post : ∀ l, l ∈ exX.post → l.length ≤ 1000 := by intro l hl; simp [exX] at hl; subst hl; decide
theorem exY_post : ∀ l, l ∈ exY.post → l.length ≤ 1000 := by intro l hl; simp [exY] at hl; subst hl; decide
def exPlan : Plan := .one 0 (.two 1 (.one 2 (.one 3 .done)) 2 (.one 1 (.one 3 .done)))
theorem lp_example : PureFn Tryd.prog 20 [] (.tup [exN.pv, exX.pv]) := by
  refine PureFn.intro mixed (fn := Tryd.f20) rfl rfl rfl fun M w0 => ?_
  (try conv=>whnf);repeat' (first|(apply And.intro<;>try conv=>whnf)|(apply cellsI;rfl)|fail)
  refine ⟨exPlan, [], by kernel_rfl, ?_⟩
  (try conv=>whnf);repeat' (first|(apply And.intro<;>try conv=>whnf)|fail)
  all_goals exact PLe.tups ⟨.refl _, PLe.aggs ⟨.refl _, PLe.sls ⟨.nil, .nil, trivial⟩, .refl _, trivial⟩, trivial⟩
theorem lp_awake : PureFn Tryd.prog 9 [] (.bool true) := by
  have hE := lp_example
  have u1 := (pr_Update exN exX exN_fit exX_fit (by decide) exX_post).to (q := .tup [.agg [.int .i64 2, .sl [u64 1], .sl [rowPV [1, 2], rowPV [3, 3]]], .sl [.agg [i64 0, i64 0], .agg [i64 1, i64 1]], .int .i64 0]) (by kernel_rfl)
  have a1 := (pr_At exN 1 exY 1 exN_fit exY_fit (by decide) exY_post).to (q := .tup [.agg [.int .i64 2, .sl [u64 2], .sl [rowPV [1, 2], rowPV [3, 3]]], .int .i64 1, .int .i64 0]) (by kernel_rfl)
  have a0 := (pr_At exN 1 exY 0 exN_fit exY_fit (by decide) exY_post).to (q := .tup [.agg [.int .i64 0, .sl [], .sl []], .int .i64 0, .int .i64 11]) (by kernel_rfl)
  have e1 : PureFn Tryd.prog 21 [.sl [.agg [i64 0, i64 0], .agg [i64 1, i64 1]], .sl [.agg [i64 0, i64 0], .agg [i64 1, i64 1]]] (.bool true) := (sl_EqP [(0, 0), (1, 1)] (by decide)).to (by kernel_rfl)
  have s1 : PureFn Tryd.prog 13 [.agg [.int .i64 2, .sl [u64 1], .sl [rowPV [1, 2], rowPV [3, 3]]], .agg [.int .i64 2, .sl [u64 1], .sl [rowPV [1, 2], rowPV [3, 3]]]] (.bool true) := (rm_Same ⟨2, [1], [[1, 2], [3, 3]]⟩ (by decide) (by decide) (by decide)).to (by kernel_rfl)
  refine PureFn.introC [2, 3, 5, 6, 7, 8, 9] mixed (fn := Tryd.f9) rfl rfl rfl fun M w0 => ?_
  try conv=>whnf
  refine ⟨Unit, fun _ => [(1, .ref 0 0), (2, .ref 1 0)], fun _ => 2, fun _ => [(0, .var [.pv (.int .i64 2), .pv (.sl [u64 1]), .pv (.sl [rowPV [3, 3], rowPV [3, 3]])]), (1, .var [.pv (.sl [fpv [nI 3 0], fpv [nI 3 0, n0 4]]), .pv (.sl [.sl [], .sl []]), .pv (.sl [rowPV [1, 2], rowPV [3, 3]])])], ?_, ?_⟩
  · (try conv=>whnf);repeat' (first|(refine PureFn.dcq (f := 20) rfl ?_;try conv=>whnf)|(refine ⟨_, _, hE, ?_, ?_⟩;(focus first|(refine ⟨trivial⟩<;>first|exact PLe.refl _|exact PLe.nil)|exact trivial);try conv=>whnf)|fail)
    exact ⟨(), (by refine Wk.of ?_ ?_ rfl rfl rfl<;>repeat' (first|exact trivial|exact WkD.same _|exact WkO.same _ _ rfl|refine ⟨?_, ?_⟩|fail))⟩
  rintro ⟨⟩
  refine ⟨Unit, fun _ => [(1, .ref 0 0), (2, .ref 1 0), (3, .ref 2 0), (4, .pv (.sl [.agg [i64 0, i64 0], .agg [i64 1, i64 1]])), (5, .pv (.int .i64 0))], fun _ => 3, fun _ => [(0, .var [.pv (.int .i64 2), .pv (.sl [u64 1]), .pv (.sl [rowPV [3, 3], rowPV [3, 3]])]), (1, .var [.pv (.sl [fpv [nI 3 0], fpv [nI 3 0, n0 4]]), .pv (.sl [.sl [], .sl []]), .pv (.sl [rowPV [1, 2], rowPV [3, 3]])]), (2, .var [.pv (.int .i64 2), .pv (.sl [u64 1]), .pv (.sl [rowPV [1, 2], rowPV [3, 3]])])], ?_, ?_⟩
  · (try conv=>whnf);repeat' (first|(refine PureFn.dcq (f := 11) rfl ?_;try conv=>whnf)|(refine ⟨_, _, u1, ?_, ?_⟩;(focus first|(refine ⟨?_, ?_, trivial⟩<;>first|exact PLe.refl _|exact PLe.nil)|exact trivial);try conv=>whnf)|fail)
    exact ⟨(), (by refine Wk.of ?_ ?_ rfl rfl rfl<;>repeat' (first|exact trivial|exact WkD.same _|exact WkO.same _ _ rfl|refine ⟨?_, ?_⟩|fail))⟩
  rintro ⟨⟩
  refine ⟨Unit, fun _ => [(1, .ref 0 0), (2, .ref 1 0)], fun _ => 2, fun _ => [(0, .var [.pv (.int .i64 2), .pv (.sl [u64 1]), .pv (.sl [rowPV [3, 3], rowPV [3, 3]])]), (1, .var [.pv (.sl [fpv [nI 3 0], fpv [nI 3 0, n0 4]]), .pv (.sl [.sl [], .sl []]), .pv (.sl [rowPV [1, 2], rowPV [3, 3]])])], ?_, ?_⟩
  · (try conv=>whnf);repeat' (first|(apply And.intro<;>try conv=>whnf)|(intro h;try conv=>whnf)|apply True.intro|(apply cellsI;rfl)|(apply WhenQ.mk;(try conv=>whnf);rotate_left;(try conv=>whnf);rotate_right)|with_reducible assumption|(apply not_of;with_reducible assumption)|(refine PureFn.dcq (f := 21) rfl ?_;try conv=>whnf)|(refine PureFn.dcq (f := 13) rfl ?_;try conv=>whnf)|(refine ⟨_, _, e1, ?_, ?_⟩;(focus first|(refine ⟨?_, ?_, trivial⟩<;>first|exact PLe.refl _|exact PLe.nil)|exact trivial);try conv=>whnf)|(refine ⟨_, _, s1, ?_, ?_⟩;(focus first|(refine ⟨?_, ?_, trivial⟩<;>first|exact PLe.refl _|exact PLe.nil)|exact trivial);try conv=>whnf)|fail)
    · exact absurd h (by decide)
    · exact ⟨(), (by refine Wk.of ?_ ?_ rfl rfl rfl<;>repeat' (first|exact trivial|exact WkD.same _|exact WkO.same _ _ rfl|refine ⟨?_, ?_⟩|fail))⟩
  rintro ⟨⟩
  refine ⟨Unit, fun _ => [(1, .ref 0 0), (2, .ref 1 0), (6, .pv (fpv [nI 3 0, n0 4]))], fun _ => 2, fun _ => [(0, .var [.pv (.int .i64 2), .pv (.sl [u64 1]), .pv (.sl [rowPV [3, 3], rowPV [3, 3]])]), (1, .var [.pv (.sl [fpv [nI 3 0], fpv [nI 3 0, n0 4]]), .pv (.sl [.sl [], .sl []]), .pv (.sl [rowPV [1, 2], rowPV [3, 3]])])], ?_, ?_⟩
  · (try conv=>whnf);repeat' (first|(apply And.intro<;>try conv=>whnf)|(apply cellsI;rfl)|fail)
    exact ⟨(), (by refine Wk.of ?_ ?_ rfl rfl rfl<;>repeat' (first|exact trivial|exact WkD.same _|exact WkO.same _ _ rfl|refine ⟨?_, ?_⟩|fail))⟩
  rintro ⟨⟩
  refine ⟨Unit, fun _ => [(1, .ref 0 0), (2, .ref 1 0)], fun _ => 2, fun _ => [(0, .var [.pv (.int .i64 2), .pv (.sl [u64 1]), .pv (.sl [rowPV [3, 3], rowPV [3, 3]])]), (1, .var [.pv (.sl [fpv [nI 3 0], fpv [nI 3 0, n0 4]]), .pv (.sl [.sl [.agg [i64 0, fpv [nI 3 0, n0 4]]], .sl [.agg [i64 0, fpv [nI 3 0, n0 4]]]]), .pv (.sl [rowPV [1, 2], rowPV [3, 3]])])], ?_, ?_⟩
  · (try conv=>whnf);repeat' (first|(apply And.intro<;>try conv=>whnf)|(apply cellsI;rfl)|fail)
    exact ⟨(), (by refine Wk.of ?_ ?_ rfl rfl rfl<;>repeat' (first|exact trivial|exact WkD.same _|exact WkO.same _ _ rfl|refine ⟨?_, ?_⟩|fail))⟩
  rintro ⟨⟩
  refine ⟨Unit, fun _ => [(1, .ref 0 0), (2, .ref 1 0), (7, .ref 2 0), (8, .pv (.int .i64 1)), (9, .pv (.int .i64 0))], fun _ => 3, fun _ => [(0, .var [.pv (.int .i64 2), .pv (.sl [u64 1]), .pv (.sl [rowPV [3, 3], rowPV [3, 3]])]), (1, .var [.pv (.sl [fpv [nI 3 0], fpv [nI 3 0, n0 4]]), .pv (.sl [.sl [.agg [i64 0, fpv [nI 3 0, n0 4]]], .sl [.agg [i64 0, fpv [nI 3 0, n0 4]]]]), .pv (.sl [rowPV [1, 2], rowPV [3, 3]])]), (2, .var [.pv (.int .i64 2), .pv (.sl [u64 2]), .pv (.sl [rowPV [1, 2], rowPV [3, 3]])])], ?_, ?_⟩
  · (try conv=>whnf);repeat' (first|(refine PureFn.dcq (f := 22) rfl ?_;try conv=>whnf)|(refine ⟨_, _, a1, ?_, ?_⟩;(focus first|(refine ⟨?_, ?_, ?_, ?_, trivial⟩<;>first|exact PLe.refl _|exact PLe.nil)|exact trivial);try conv=>whnf)|fail)
    exact ⟨(), (by refine Wk.of ?_ ?_ rfl rfl rfl<;>repeat' (first|exact trivial|exact WkD.same _|exact WkO.same _ _ rfl|refine ⟨?_, ?_⟩|fail))⟩
  rintro ⟨⟩
  refine ⟨Unit, fun _ => [(7, .ref 2 0), (8, .pv (.int .i64 1)), (9, .pv (.int .i64 0)), (12, .pv (.int .i64 11))], fun _ => 3, fun _ => [(2, .var [.pv (.int .i64 2), .pv (.sl [u64 2]), .pv (.sl [rowPV [1, 2], rowPV [3, 3]])])], ?_, ?_⟩
  · (try conv=>whnf);repeat' (first|(refine PureFn.dcq (f := 22) rfl ?_;try conv=>whnf)|(refine ⟨_, _, a0, ?_, ?_⟩;(focus first|(refine ⟨?_, ?_, ?_, ?_, trivial⟩<;>first|exact PLe.refl _|exact PLe.nil)|exact trivial);try conv=>whnf)|fail)
    exact ⟨(), (by refine Wk.of ?_ ?_ rfl rfl rfl<;>repeat' (first|exact trivial|exact WkD.same _|exact WkO.same _ _ rfl|refine ⟨?_, ?_⟩|fail))⟩
  rintro ⟨⟩
  (try conv=>whnf);repeat' (first|(apply And.intro<;>try conv=>whnf)|(intro h;try conv=>whnf)|apply True.intro|(apply infoT;rfl)|(apply WhenQ.mk;(try conv=>whnf);rotate_left;(try conv=>whnf);rotate_right)|with_reducible assumption|(refine ⟨0, _, rfl, rfl, rfl, ?_⟩;try conv=>whnf)|fail)
  exact le_bool (by decide)
theorem u_mod : ∃ fs : Array Field, Tryd.prog.underlying 25 = some (.struct fs) ∧ fs.toList.map (·.type) = [3, 22, 23] := ⟨_, rfl, by kernel_rfl⟩
theorem arg_mod {n : Nat} {p : PV} (h : TyA Tryd.prog (n + 4) 25 p) : ∃ m : Mo, PLe p m.pv ∧ FitM m := by
  obtain ⟨cs, h, rfl⟩ := h
  obtain ⟨fs, hu, hf⟩ := u_mod
  have hm : mkE Tryd.prog 25 cs = .agg cs := by simp only [mkE, kindT, hu]
  obtain ⟨a, b, r1, rfl, h1, hb, m1⟩ := fs_cons hf (tyS (n := n + 3) hu h)
  obtain ⟨c, d, r2, rfl, h2, hd, m2⟩ := fs_cons m1 hb
  obtain ⟨e, g, r3, rfl, h3, hg, m3⟩ := fs_cons m2 hd
  have := fs_nil m3 hg
  subst this
  obtain ⟨w, rfl, _⟩ := int_of (n := n + 2) h1
  obtain ⟨val, q2, rfl, l2, hv⟩ := slice_of (n := n + 2) (g := u64) (Q := fun s => s < 2 ^ 64) u_rowT (u64_el (n := n + 1)) h2
  obtain ⟨rel, q3, rfl, l3, hr⟩ := slice_of (n := n + 2) (g := rowPV) (Q := fun r => ∀ s, s ∈ r → s < 2 ^ 64) u_relT (fun p hp => el_of (n := n + 1) u_rowT (u64_el (n := n)) p hp) h3
  refine ⟨⟨w, val, rel⟩, ?_, hv, hr⟩
  rw [hm]
  exact PLe.aggs ⟨.refl _, l2, l3, trivial⟩
end Go.Proofs.YtnbnkgcjgfmlcaaDoor
set_option maxRecDepth 100000
set_option maxHeartbeats 4000000
namespace Go.Proofs.YtnbnkgcjgfmlcaaDoor
open Go Go.Dv

theorem whenOff {c : Bool} {A B : DV → Prop} (hc : c = false) (h2 : B (.pv (.bool false))) : WhenQ (fun d => c = true → A d) B :=
  WhenQ.mk (d := .pv (.bool false)) (fun h => by rw [hc] at h; cases h) h2
end Go.Proofs.YtnbnkgcjgfmlcaaDoor
set_option maxRecDepth 100000
set_option maxHeartbeats 4000000
namespace Go.Proofs.YtnbnkgcjgfmlcaaDoor
open Go Go.Dv

def restPV (x : Mo × List Nat × Int) : PV := .tup [x.1.pv, intsPV x.2.1, .int .i64 x.2.2]
theorem le_rest (e : Int) : PLe (.tup [.agg [.int .i64 0, .nil, .nil], .nil, .int .i64 e]) (restPV (noMo, [], e)) := PLe.tups ⟨le_noMo, .nil, .refl _, trivial⟩
theorem nand_all {s n : Nat} (hs : s < 2 ^ n) (hn : n ≤ 64) : andNotU (s : Nat) ((2 ^ n - 1 : Nat) : Int) = 0 := by
  have h64 : s < 2 ^ 64 := Nat.lt_of_lt_of_le hs (pow64_le hn)
  rw [andNotU_eq h64, Nat.and_two_pow_sub_one_eq_mod, Nat.mod_eq_of_lt hs, Nat.xor_self]; rfl
theorem md_Restrict (m : Mo) (n s : Nat) (hM : OkM m n) (hs : s < 2 ^ n) (h0 : s ≠ 0) : PureFn Tryd.prog 31 [m.pv, u64 s] (restPV (arrI m (memL s), memL s, 0)) := by
  refine PureFn.intro mixed (fn := Tryd.f31) rfl rfl rfl fun M w0 => ?_
  have hn64 := hM.n64
  have hs64 : s < 2 ^ 64 := Nat.lt_of_lt_of_le hs (pow64_le hn64)
  have hC := md_Check m hM.fit
  rw [ok_moI hM] at hC
  have hA := md_all n (by omega)
  rw [show i64 n = .int .i64 m.n by rw [hM.nn]; rfl] at hA
  have hB := md_members s hs64
  have hR := md_arrange m (memL s) n hM (fun w hw => bit_lt hs (memL_mem.1 hw).2) (memL_len s)
  have hz := nand_all hs hn64
  have h0' : ¬ (s : Int) = 0 := by omega
  generalize memL s = ws at hB hR
  (try conv=>whnf);repeat' (first|(apply And.intro<;>try conv=>whnf)|(intro h;try conv=>whnf)|(refine PureFn.dcq (f := 42) rfl ?_;try conv=>whnf)|(refine PureFn.dcq (f := 47) rfl ?_;try conv=>whnf)|(refine PureFn.dcq (f := 48) rfl ?_;try conv=>whnf)|(refine PureFn.dcq (f := 49) rfl ?_;try conv=>whnf)|(refine ⟨_, _, hC, ?_, ?_⟩;(focus first|(refine ⟨?_, trivial⟩<;>first|exact PLe.refl _|exact PLe.nil)|exact trivial);try conv=>whnf)|(refine ⟨_, _, hA, ?_, ?_⟩;(focus first|(refine ⟨?_, trivial⟩<;>first|exact PLe.refl _|exact PLe.nil)|exact trivial);try conv=>whnf)|(refine ⟨_, _, hB, ?_, ?_⟩;(focus first|(refine ⟨?_, trivial⟩<;>first|exact PLe.refl _|exact PLe.nil)|exact trivial);try conv=>whnf)|(refine ⟨_, _, hR, ?_, ?_⟩;(focus first|(refine ⟨?_, ?_, trivial⟩<;>first|exact PLe.refl _|exact PLe.nil)|exact trivial);try conv=>whnf)|fail)
  · exact absurd (show ((0 : Int) != 0) = true from h) (by decide)
  · have h1 : (andNotU (s : Nat) ((2 ^ n - 1 : Nat) : Int) != 0) = true := h
    rw [hz] at h1; exact absurd h1 (by decide)
  · have h1 : ((s : Int) == 0) = true := h
    exact absurd (by simpa using h1) h0'
  · exact .refl _
theorem holds_split' {m : Mo} {f : List Nd} (h : (holdsI m f).2 = 0) : reqI m f = 0 := by
  by_cases q : reqI m f = 0
  · exact q
  · rw [holdsI, show (reqI m f != 0) = true by simpa using q] at h
    exact absurd h q
/-- An announcement. -/
def annI (m : Mo) (f : List Nd) : Mo × List Nat × Int := bif (holdsI m f).2 != 0 then (noMo, [], (holdsI m f).2) else bif (holdsI m f).1 == 0 then (noMo, [], 11) else (arrI m (memL (holdsI m f).1), memL (holdsI m f).1, 0)
theorem an_Update (m : Mo) (f : List Nd) (hf : FitM m) : PureFn Tryd.prog 12 [m.pv, fpv f] (restPV (annI m f)) := by
  have hH := ck_Holds m f hf
  by_cases h0 : (holdsI m f).2 = 0
  · obtain ⟨n, hM⟩ := (reqI_ok (holds_split' h0)).1
    have hlt := holds_lt (f := f) n hM
    have hR := fun hs => md_Restrict m n (holdsI m f).1 hM hlt hs
    have hX : annI m f = bif (holdsI m f).1 == 0 then (noMo, [], 11) else (arrI m (memL (holdsI m f).1), memL (holdsI m f).1, 0) := by rw [annI, h0]; rfl
    rw [hX]
    rw [show holdsI m f = ((holdsI m f).1, 0) from Prod.ext rfl h0] at hH
    generalize (holdsI m f).1 = s at hH hR
    by_cases hs : s = 0
    · subst hs
      refine PureFn.intro mixed (fn := Tryd.f12) rfl rfl rfl fun M w0 => ?_
      (try conv=>whnf);repeat' (first|(apply And.intro<;>try conv=>whnf)|(intro h;try conv=>whnf)|(refine PureFn.dcq (f := 28) rfl ?_;try conv=>whnf)|(refine ⟨_, _, hH, ?_, ?_⟩;(focus first|(refine ⟨?_, ?_, trivial⟩<;>first|exact PLe.refl _|exact PLe.nil)|exact trivial);try conv=>whnf)|fail)
      all_goals first
        | exact absurd (show ((0 : Int) != 0) = true from h) (by decide)
        | exact absurd (show ((0 : Int) == 0) = false from h) (by decide)
        | exact le_rest _
    · have hR := hR hs
      have hb : (s == 0) = false := by simpa using hs
      rw [hb]
      refine PureFn.intro mixed (fn := Tryd.f12) rfl rfl rfl fun M w0 => ?_
      (try conv=>whnf);repeat' (first|(apply And.intro<;>try conv=>whnf)|(intro h;try conv=>whnf)|(refine PureFn.dcq (f := 28) rfl ?_;try conv=>whnf)|(refine PureFn.dcq (f := 31) rfl ?_;try conv=>whnf)|(refine ⟨_, _, hH, ?_, ?_⟩;(focus first|(refine ⟨?_, ?_, trivial⟩<;>first|exact PLe.refl _|exact PLe.nil)|exact trivial);try conv=>whnf)|(refine ⟨_, _, hR, ?_, ?_⟩;(focus first|(refine ⟨?_, ?_, trivial⟩<;>first|exact PLe.refl _|exact PLe.nil)|exact trivial);try conv=>whnf)|fail)
      · exact absurd (show ((0 : Int) != 0) = true from h) (by decide)
      · have h1 : ((s : Int) == 0) = true := h
        have : (s : Int) = 0 := by simpa using h1
        omega
      · exact .refl _
  · have hb : ((holdsI m f).2 != 0) = true := by simpa using h0
    rw [annI, hb]
    generalize holdsI m f = X at hH hb
    obtain ⟨s, e⟩ := X
    refine PureFn.introC [4] mixed (fn := Tryd.f12) rfl rfl rfl fun M w0 => ?_
    (try conv=>whnf);repeat' (first|(refine PureFn.dcq (f := 28) rfl ?_;try conv=>whnf)|(refine ⟨_, _, hH, ?_, ?_⟩;(focus first|(refine ⟨?_, ?_, trivial⟩<;>first|exact PLe.refl _|exact PLe.nil)|exact trivial);try conv=>whnf)|fail)
    refine ⟨{ _x : Unit // False }, fun _ => [], fun _ => 0, fun _ => [], ?_, fun ⟨_, h⟩ => h.elim⟩
    (try conv=>whnf);repeat' (first|(apply And.intro<;>try conv=>whnf)|(intro h;first|with_reducible exact tf (by assumption) h|try conv=>whnf)|fail)
    · exact le_rest _

/-! the product with a public announcement -/
theorem map_getD' {α β : Type} {l : List α} {g : α → β} {d : α} : (List.range l.length).map (fun i => g (l.getD i d)) = l.map g := by
  apply List.ext_getElem (by simp)
  intro i h1 h2
  have h3 : i < l.length := by simpa using h2
  rw [List.getElem_map, List.getElem_map, List.getElem_range, List.getD_eq_getElem?_getD, List.getElem?_eq_getElem h3]; rfl
theorem pairs_one {p : Nat → Nat} : ∀ n, pairsW p 1 n = ((List.range n).filter (p 0).testBit).map fun w => (w, 0)
  | 0 => rfl
  | n + 1 => by
    rw [pairsW, pairs_one n, List.range_succ, List.filter_append, List.map_append]
    congr 1
    rw [pairsE, pairsE, List.filter_cons, List.filter_nil]
    cases (p 0).testBit n <;> rfl
theorem filter_more {s n : Nat} (hs : s < 2 ^ n) : ∀ d, (List.range (n + d)).filter s.testBit = (List.range n).filter s.testBit
  | 0 => rfl
  | d + 1 => by
    rw [show n + (d + 1) = n + d + 1 by omega, List.range_succ, List.filter_append, filter_more hs d, List.filter_cons, List.filter_nil, Nat.testBit_lt_two_pow (Nat.lt_of_lt_of_le hs (Nat.pow_le_pow_right (by decide) (by omega)))]
    simp
theorem memL_range {s n : Nat} (hs : s < 2 ^ n) (hn : n ≤ 64) : memL s = (List.range n).filter s.testBit := by
  have := filter_more hs (64 - n)
  rw [show n + (64 - n) = 64 by omega] at this
  exact this
def pubA (A : Nat) (f : List Nd) : Act := ⟨[comp f], [[]], onesL A⟩
theorem pubA_act {A F : Nat} {f : List Nd} (hA : A ≤ 4) (hF : F ≤ 8) (hs : statI A F f = 0) : actI (pubA A f) A F = 0 := by
  have hrl : (onesL A).length = A := by simp [onesL]
  have hrb : rowsBad (onesL A) 1 = false := by
    rw [rowsBad, List.any_eq_false]
    intro r hr
    rw [List.eq_of_mem_replicate hr]; simp
  have hbb : bitsBad (onesL A) 1 = false := by
    rw [bitsBad, List.any_eq_false]
    intro r hr
    rw [List.eq_of_mem_replicate hr]; decide
  have hsh : shapeI (pubA A f) A = 0 := by
    unfold shapeI pubA
    simp only [List.length_singleton, hrl, hrb, hbb]
    simp
  have hc : statI A F (comp f) = 0 := by
    obtain ⟨h1, h2⟩ := statM_iff.1 hs
    exact statM_iff.2 ⟨comp_check h1, by rw [comp_comp h1]; exact h2⟩
  rw [actI, decide_eq_false (show ¬ (A : Int) < 0 by omega), decide_eq_false (show ¬ (A : Int) > 4 by omega), decide_eq_false (show ¬ (F : Int) < 0 by omega), decide_eq_false (show ¬ (F : Int) > 8 by omega), hsh]
  show evs' A F [comp f] [[]] = 0
  rw [evs', hc]; rfl
theorem holds_compr {m : Mo} {n : Nat} {f : List Nd} (hM : OkM m n) (hs : statI m.rel.length m.val.length f = 0) : holdsI m (comp f) = holdsI m f := by
  obtain ⟨h1, h2⟩ := statM_iff.1 hs
  have hc : statI m.rel.length m.val.length (comp f) = 0 := statM_iff.2 ⟨comp_check h1, by rw [comp_comp h1]; exact h2⟩
  have k1 : reqI m f = 0 := by rw [reqI, ok_moI hM]; exact hs
  have k2 : reqI m (comp f) = 0 := by rw [reqI, ok_moI hM]; exact hc
  rw [holdsI, holdsI, k1, k2, root_comp h1]
/-- The product with a public announcement is the part of the model where the formula holds. -/
theorem pub_prod {m : Mo} {n : Nat} {f : List Nd} (hM : OkM m n) (hs : statI m.rel.length m.val.length f = 0) :
    pairsL m (pubA m.rel.length f) = (memL (holdsI m f).1).map (fun w => (w, 0)) ∧ prodM m (pubA m.rel.length f) (pairsL m (pubA m.rel.length f)) = arrI m (memL (holdsI m f).1) := by
  have hag := hM.ag
  have hfa := hM.fa
  have hact := pubA_act hag hfa hs
  have hp0 : possP m (pubA m.rel.length f) 0 = (holdsI m f).1 := by
    show (holdsI m (comp f)).1 = _
    rw [holds_compr hM hs]
  have hlt := holds_lt (f := f) n hM
  have hl : pairsL m (pubA m.rel.length f) = (memL (holdsI m f).1).map (fun w => (w, 0)) := by
    rw [pairsL, hM.nn, Int.toNat_natCast, show (pubA m.rel.length f).pre.length = 1 from rfl, pairs_one, hp0, memL_range hlt hM.n64]
  refine ⟨hl, ?_⟩
  rw [hl]
  obtain ⟨ws, hws⟩ : ∃ ws, ws = memL (holdsI m f).1 := ⟨_, rfl⟩
  rw [← hws]
  have hlen : (ws.map fun w => (w, 0)).length = ws.length := List.length_map _
  have hgd : ∀ k, k < ws.length → (ws.map fun w => (w, 0)).getD k (0, 0) = (ws.getD k 0, 0) := fun k hk => by
    rw [List.getD_eq_getElem?_getD, List.getElem?_map, getD_mem hk (d := 0)]; rfl
  have hal := (act_alone hfa hact).1
  rw [prodM, arrI, hlen]
  congr 1
  · rw [← map_getD' (l := m.val) (g := fun s => pullN s ws) (d := 0)]
    apply List.map_congr_left
    intro i hi
    have hi := List.mem_range.1 hi
    have hvi : valI (pubA m.rel.length f) (0 : Nat) (i : Nat) = (buildL (nI 3 i) [], 0) := by
      rw [valI, hal, badF_of (show i < 8 by omega)]; rfl
    have hv : valuP m (pubA m.rel.length f) 0 i = m.val.getD i 0 := by rw [valuP, hvi, holds_fact hM hi]
    rw [valP, pullN, hlen]
    refine maskOf_congr fun k hk => ?_
    rw [hgd k hk]
    show (valuP m (pubA m.rel.length f) 0 i).testBit _ = _
    rw [hv]
  · rw [← map_getD' (l := m.rel) (g := fun r => ws.map fun w => pullN (r.getD w 0) ws) (d := [])]
    apply List.map_congr_left
    intro i hi
    have hi := List.mem_range.1 hi
    have hone : (pubA m.rel.length f).rel.getD i [] = [1] := by
      show (onesL m.rel.length).getD i [] = [1]
      rw [List.getD_eq_getElem?_getD, onesL, List.getElem?_replicate, if_pos hi]; rfl
    rw [relP, hone, List.map_map]
    apply List.map_congr_left
    intro w _
    show rowP (m.rel.getD i []) [1] (ws.map fun w => (w, 0)) (w, 0) = pullN ((m.rel.getD i []).getD w 0) ws
    rw [rowP, pullN, hlen]
    refine maskOf_congr fun k hk => ?_
    rw [hgd k hk, seesP]
    show (bif ((m.rel.getD i []).getD w 0).testBit (ws.getD k 0) then ([1] : List Nat).getD 0 0 |>.testBit 0 else false) = _
    cases ((m.rel.getD i []).getD w 0).testBit (ws.getD k 0) <;> rfl
end Go.Proofs.YtnbnkgcjgfmlcaaDoor
set_option maxRecDepth 100000
set_option maxHeartbeats 4000000
namespace Go.Proofs.YtnbnkgcjgfmlcaaDoor
open Go Go.Dv

theorem rf_Few (f : List Nd) (n : Int) : PureFn Tryd.prog 6 [fpv f, .int .i64 n] (.bool (decide ((f.length : Int) ≤ n))) := by
  refine PureFn.intro mixed (fn := Tryd.f6) rfl rfl rfl fun M w0 => ?_
  have e : ((f.map Nd.pv).length : Int) = (f.length : Int) := by simp
  try conv=>whnf
  rw [← e]
  exact .refl _
def annC (m : Mo) (f : List Nd) : Bool := bif bif bif bif !fewM m 10 then true else moI m != 0 then true else !decide ((f.length : Int) ≤ 16) then true else !fits f (m.rel.length : Int) (m.val.length : Int) then true else nand64' (frags f : Nat) 15 != 0
theorem annC_no {m : Mo} {f : List Nd} (h : annC m f = false) : ∃ n, OkM m n ∧ n ≤ 10 ∧ f.length ≤ 16 ∧ statI m.rel.length m.val.length f = 0 := by
  obtain ⟨h1, b5⟩ := or_ff' (show (bif _ then true else _) = false from h)
  obtain ⟨h2, b4⟩ := or_ff' h1
  obtain ⟨h3, b3⟩ := or_ff' h2
  obtain ⟨b1, b2⟩ := or_ff' h3
  obtain ⟨n, hM⟩ := moI_ok (show moI m = 0 by simpa using b2)
  have hn64 := hM.n64
  have hnn := hM.nn
  have hfit : fits f (m.rel.length : Int) (m.val.length : Int) = true := by simpa using b4
  have hc : check f = 0 := by
    unfold fits at hfit
    by_cases q : check f = 0
    · exact q
    · rw [show (check f == 0) = false by simpa using q] at hfit; cases hfit
  have hn : m.n ≤ 10 := by
    have h7 : fewM m 10 = true := by simpa using b1
    unfold fewM at h7
    cases hb : fewB m 10 with
    | true => rw [hb] at h7; cases h7
    | false =>
      unfold fewB at hb
      obtain ⟨k1, _⟩ := or_ff' hb
      obtain ⟨k2, _⟩ := or_ff' k1
      by_cases q : m.n > 10
      · rw [decide_eq_true q, decide_eq_true (by omega)] at k2; cases k2
      · omega
  have hl : ((f.length : Int) ≤ 16) := by simpa using b3
  exact ⟨n, hM, by omega, by omega, by rw [statI, hc, b5, hfit]; rfl⟩
theorem pann_pure (m : Mo) (f : List Nd) (hf : FitM m) : PureFn Tryd.prog 3 [m.pv, fpv f] (.bool true) := by
  have hW := rm_Few m 10
  have hC := rm_Check m hf
  have hF := rf_Few f 16
  have hT := ref_Fits f (m.rel.length : Nat) (m.val.length : Nat)
  have hG := ref_Frags f
  have hA := lp_awake
  have e1 : ((m.rel.map rowPV).length : Int) = (m.rel.length : Int) := by simp
  have e2 : ((m.val.map u64).length : Int) = (m.val.length : Int) := by simp
  rw [← e1, ← e2] at hT
  have hca : annC m f = bif bif bif bif !fewM m 10 then true else moI m != 0 then true else !decide ((f.length : Int) ≤ 16) then true else !fits f ((m.rel.map rowPV).length : Int) ((m.val.map u64).length : Int) then true else nand64' (frags f : Nat) 15 != 0 := by rw [e1, e2]; rfl
  cases hg : annC m f with
  | true =>
    rw [hg] at hca
    refine PureFn.introC [3] mixed (fn := Tryd.f3) rfl rfl rfl fun M w0 => ?_
    try conv=>whnf
    refine ⟨{ _x : Unit // False }, fun _ => [], fun _ => 0, fun _ => [], ?_, fun ⟨_, h⟩ => h.elim⟩
    (try conv=>whnf);repeat' (first|(apply And.intro<;>try conv=>whnf)|(intro h;try conv=>whnf)|apply True.intro|(apply WhenQ.mk;(try conv=>whnf);rotate_left;(try conv=>whnf);rotate_right)|with_reducible assumption|(apply not_of;with_reducible assumption)|(refine PureFn.dcq (f := 4) rfl ?_;try conv=>whnf)|(refine PureFn.dcq (f := 5) rfl ?_;try conv=>whnf)|(refine PureFn.dcq (f := 6) rfl ?_;try conv=>whnf)|(refine PureFn.dcq (f := 7) rfl ?_;try conv=>whnf)|(refine PureFn.dcq (f := 8) rfl ?_;try conv=>whnf)|(refine PureFn.dcq (f := 9) rfl ?_;try conv=>whnf)|(refine ⟨_, _, hW, ?_, ?_⟩;(focus first|(refine ⟨?_, ?_, trivial⟩<;>first|exact PLe.refl _|exact PLe.nil)|exact trivial);try conv=>whnf)|(refine ⟨_, _, hC, ?_, ?_⟩;(focus first|(refine ⟨?_, trivial⟩<;>first|exact PLe.refl _|exact PLe.nil)|exact trivial);try conv=>whnf)|(refine ⟨_, _, hF, ?_, ?_⟩;(focus first|(refine ⟨?_, ?_, trivial⟩<;>first|exact PLe.refl _|exact PLe.nil)|exact trivial);try conv=>whnf)|(refine ⟨_, _, hT, ?_, ?_⟩;(focus first|(refine ⟨?_, ?_, ?_, trivial⟩<;>first|exact PLe.refl _|exact PLe.nil)|exact trivial);try conv=>whnf)|(refine ⟨_, _, hG, ?_, ?_⟩;(focus first|(refine ⟨?_, trivial⟩<;>first|exact PLe.refl _|exact PLe.nil)|exact trivial);try conv=>whnf)|(refine ⟨_, _, hA, ?_, ?_⟩;(focus first|(refine ⟨trivial⟩<;>first|exact PLe.refl _|exact PLe.nil)|exact trivial);try conv=>whnf)|fail)
    · exact .refl _
    · exact absurd (hca.trans h) (by decide)
  | false =>
    obtain ⟨n, hM, hn, hl, hs⟩ := annC_no hg
    rw [hg] at hca
    have hag := hM.ag
    have hfa := hM.fa
    have hnn := hM.nn
    have hh0 : (holdsI m f).2 = 0 := by
      have hr : reqI m f = 0 := by rw [reqI, ok_moI hM]; exact hs
      rw [holdsI, hr]; rfl
    have hlt := holds_lt (f := f) n hM
    have hPb := ac_Public m.rel.length f
    have hpe : pubI m.rel.length f = (pubA m.rel.length f, 0) := by
      have h1 : badAg (m.rel.length : Int) = false := by
        unfold badAg
        rw [decide_eq_false (by omega), decide_eq_false (by omega)]; rfl
      rw [pubI, h1, stat_mono hfa hs]; rfl
    rw [hpe, show PV.int .i64 ((m.rel.length : Nat) : Int) = .int .i64 ((m.rel.map rowPV).length : Nat) by rw [List.length_map]] at hPb
    have hfitA : Fit (pubA m.rel.length f) := fun r hr s hs => by
      rw [List.eq_of_mem_replicate (show r ∈ onesL m.rel.length from hr)] at hs
      rw [List.mem_singleton.1 hs]; decide
    have hU := pr_Update m (pubA m.rel.length f) hf hfitA (by simp [pubA, onesL]; omega) (by simp [pubA])
    have hN := an_Update m f hf
    obtain ⟨hpl, hpr⟩ := pub_prod hM hs
    obtain ⟨s, hse⟩ : ∃ s, s = (holdsI m f).1 := ⟨_, rfl⟩
    rw [← hse] at hlt hpl hpr
    obtain ⟨a, qa⟩ : ∃ a, a = pubA m.rel.length f := ⟨_, rfl⟩
    have hmoa : moaI m a = 0 := by rw [moaI, ok_moI hM, qa]; exact pubA_act hag hfa hs
    rw [← qa] at hPb hU hpl hpr
    obtain ⟨p, l, ws, e, hUe, hNe, hpf, hlw, hw64⟩ : ∃ (p : Mo) (l : List (Nat × Nat)) (ws : List Nat) (e : Int), updI m a = (p, l, e) ∧ annI m f = (p, ws, e) ∧ (p.val.length ≤ 1000 ∧ p.rel.length ≤ 1000 ∧ ∀ r, r ∈ p.rel → r.length ≤ 1000) ∧ (l = ws.map fun w => (w, 0)) ∧ ws.length ≤ 64 := by
      have hX : annI m f = bif s == 0 then (noMo, [], 11) else (arrI m (memL s), memL s, 0) := by rw [annI, hh0, hse]; rfl
      have hlen : (pairsL m a).length = (memL s).length := by rw [hpl, List.length_map]
      have hml := memL_len s
      have hs64 : s < 2 ^ 64 := Nat.lt_of_lt_of_le hlt (pow64_le hM.n64)
      by_cases h0 : s = 0
      · refine ⟨noMo, [], [], 11, ?_, by rw [hX, h0]; rfl, ⟨by decide, by decide, fun r hr => by cases hr⟩, rfl, by decide⟩
        rw [updI, worldsI, hmoa, hlen, h0, memL_zero]; rfl
      · have hp := memL_pos h0 hs64
        refine ⟨arrI m (memL s), pairsL m a, memL s, 0, ?_, by rw [hX, show (s == 0) = false by simpa using h0]; rfl, ⟨by simp [arrI]; omega, by simp [arrI]; omega, fun r hr => ?_⟩, hpl, hml⟩
        · have hW : worldsI m a = (pairsL m a, 0) := by
            rw [worldsI, hmoa, show (((pairsL m a).length : Int) == 0) = false by rw [hlen]; simp; intro h; rw [h] at hp; simp at hp]; rfl
          rw [updI, hW]
          show (bif decide (((pairsL m a).length : Int) > 64) then _ else _) = _
          rw [decide_eq_false (by omega), hpr]; rfl
        · obtain ⟨r0, _, rfl⟩ := List.mem_map.1 hr
          rw [List.length_map]; omega
    rw [hUe] at hU
    rw [hNe] at hN
    have hSa := rm_Same p hpf.1 hpf.2.1 hpf.2.2
    clear hUe hNe hpf hpl hpr
    have e3 : ((l.map pairPV).length : Int) = ((ws.map i64).length : Int) := by rw [hlw]; simp
    have hlk : ∀ i w, ws[i]? = some w → l[i]? = some (w, 0) := fun i w h => by rw [hlw, List.getElem?_map, h]; rfl
    have hll : l.length = ws.length := by rw [hlw, List.length_map]
    clear hlw
    refine PureFn.introC [3, 4, 5, 6, 8] mixed (fn := Tryd.f3) rfl rfl rfl fun M w0 => ?_
    try conv=>whnf
    refine ⟨Unit, fun _ => [(1, .pv (fpv f)), (2, .ref 0 0)], fun _ => 1, fun _ => [(0, .var (cellsM m))], ?_, ?_⟩
    · (try conv=>whnf);repeat' (first|(apply And.intro<;>try conv=>whnf)|(intro h;try conv=>whnf)|apply True.intro|(apply WhenQ.mk;(try conv=>whnf);rotate_left;(try conv=>whnf);rotate_right)|with_reducible assumption|(apply not_of;with_reducible assumption)|(refine PureFn.dcq (f := 4) rfl ?_;try conv=>whnf)|(refine PureFn.dcq (f := 5) rfl ?_;try conv=>whnf)|(refine PureFn.dcq (f := 6) rfl ?_;try conv=>whnf)|(refine PureFn.dcq (f := 7) rfl ?_;try conv=>whnf)|(refine PureFn.dcq (f := 8) rfl ?_;try conv=>whnf)|(refine PureFn.dcq (f := 9) rfl ?_;try conv=>whnf)|(refine ⟨_, _, hW, ?_, ?_⟩;(focus first|(refine ⟨?_, ?_, trivial⟩<;>first|exact PLe.refl _|exact PLe.nil)|exact trivial);try conv=>whnf)|(refine ⟨_, _, hC, ?_, ?_⟩;(focus first|(refine ⟨?_, trivial⟩<;>first|exact PLe.refl _|exact PLe.nil)|exact trivial);try conv=>whnf)|(refine ⟨_, _, hF, ?_, ?_⟩;(focus first|(refine ⟨?_, ?_, trivial⟩<;>first|exact PLe.refl _|exact PLe.nil)|exact trivial);try conv=>whnf)|(refine ⟨_, _, hT, ?_, ?_⟩;(focus first|(refine ⟨?_, ?_, ?_, trivial⟩<;>first|exact PLe.refl _|exact PLe.nil)|exact trivial);try conv=>whnf)|(refine ⟨_, _, hG, ?_, ?_⟩;(focus first|(refine ⟨?_, trivial⟩<;>first|exact PLe.refl _|exact PLe.nil)|exact trivial);try conv=>whnf)|(refine ⟨_, _, hA, ?_, ?_⟩;(focus first|(refine ⟨trivial⟩<;>first|exact PLe.refl _|exact PLe.nil)|exact trivial);try conv=>whnf)|fail)
      · exact .refl _
      · exact ⟨(), (by refine Wk.of ?_ ?_ rfl rfl rfl<;>repeat' (first|exact trivial|exact WkD.same _|exact WkO.same _ _ rfl|refine ⟨?_, ?_⟩|fail))⟩
    rintro ⟨⟩
    refine ⟨Unit, fun _ => [(1, .pv (fpv f)), (2, .ref 0 0), (5, .ref 1 0), (6, .pv (.int .i64 0))], fun _ => 2, fun _ => [(0, .var (cellsM m)), (1, .var (cellsA a))], ?_, ?_⟩
    · (try conv=>whnf);repeat' (first|(refine PureFn.dcq (f := 10) rfl ?_;try conv=>whnf)|(refine ⟨_, _, hPb, ?_, ?_⟩;(focus first|(refine ⟨?_, ?_, trivial⟩<;>first|exact PLe.refl _|exact PLe.nil)|exact trivial);try conv=>whnf)|fail)
      exact ⟨(), (by refine Wk.of ?_ ?_ rfl rfl rfl<;>repeat' (first|exact trivial|exact WkD.same _|exact WkO.same _ _ rfl|refine ⟨?_, ?_⟩|fail))⟩
    rintro ⟨⟩
    refine ⟨Unit, fun _ => [(1, .pv (fpv f)), (2, .ref 0 0), (6, .pv (.int .i64 0)), (7, .ref 2 0), (8, .pv (.sl (l.map pairPV))), (9, .pv (.int .i64 e))], fun _ => 3, fun _ => [(0, .var (cellsM m)), (1, .var (cellsA a)), (2, .var (cellsM p))], ?_, ?_⟩
    · (try conv=>whnf);repeat' (first|(refine PureFn.dcq (f := 11) rfl ?_;try conv=>whnf)|(refine ⟨_, _, hU, ?_, ?_⟩;(focus first|(refine ⟨?_, ?_, trivial⟩<;>first|exact PLe.refl _|exact PLe.nil)|exact trivial);try conv=>whnf)|fail)
      exact ⟨(), (by refine Wk.of ?_ ?_ rfl rfl rfl<;>repeat' (first|exact trivial|exact WkD.same _|exact WkO.same _ _ rfl|refine ⟨?_, ?_⟩|fail))⟩
    rintro ⟨⟩
    refine ⟨Unit, fun _ => [(6, .pv (.int .i64 0)), (7, .ref 2 0), (8, .pv (.sl (l.map pairPV))), (9, .pv (.int .i64 e)), (10, .ref 3 0), (11, .pv (intsPV ws)), (12, .pv (.int .i64 e))], fun _ => 4, fun _ => [(2, .var (cellsM p)), (3, .var (cellsM p))], ?_, ?_⟩
    · (try conv=>whnf);repeat' (first|(refine PureFn.dcq (f := 12) rfl ?_;try conv=>whnf)|(refine ⟨_, _, hN, ?_, ?_⟩;(focus first|(refine ⟨?_, ?_, trivial⟩<;>first|exact PLe.refl _|exact PLe.nil)|exact trivial);try conv=>whnf)|fail)
      exact ⟨(), (by refine Wk.of ?_ ?_ rfl rfl rfl<;>repeat' (first|exact trivial|exact WkD.same _|exact WkO.same _ _ rfl|refine ⟨?_, ?_⟩|fail))⟩
    rintro ⟨⟩
    refine ⟨Unit, fun _ => [(8, .pv (.sl (l.map pairPV))), (11, .pv (intsPV ws))], fun _ => 4, fun _ => [], ?_, ?_⟩
    · (try conv=>whnf);repeat' (first|(apply And.intro<;>try conv=>whnf)|(intro h;try conv=>whnf)|apply True.intro|(apply WhenQ.mk;(try conv=>whnf);rotate_left;(try conv=>whnf);rotate_right)|with_reducible assumption|(apply not_of;with_reducible assumption)|(refine PureFn.dcq (f := 13) rfl ?_;try conv=>whnf)|(refine ⟨_, _, hSa, ?_, ?_⟩;(focus first|(refine ⟨?_, ?_, trivial⟩<;>first|exact PLe.refl _|exact PLe.nil)|exact trivial);try conv=>whnf)|fail)
      · exfalso
        have h1 : (bif bif bif ((0 : Int) != 0) then true else (e != e) then true else !true then true else ((l.map pairPV).length : Int) != ((ws.map i64).length : Int)) = true := h
        rw [e3] at h1
        simp at h1
      · exact ⟨(), (by refine Wk.of ?_ ?_ rfl rfl rfl<;>repeat' (first|exact trivial|exact WkD.same _|refine ⟨?_, ?_⟩|fail))⟩
    rintro ⟨⟩
    try conv=>whnf
    refine ⟨{ i : Nat // i ≤ l.length }, fun i => [(8, .pv (.sl (l.map pairPV))), (11, .pv (intsPV ws)), (88, .pv (.sl (l.map pairPV))), (89, .pv (i64 (l.map pairPV).length)), (90, .pv (i64 i.1))], fun _ => 4, fun _ => [], fun i => l.length - i.1, ⟨⟨0, Nat.zero_le _⟩, (by refine Wk.of ?_ ?_ rfl rfl rfl<;>repeat' (first|exact trivial|exact WkD.same _|refine ⟨?_, ?_⟩|fail))⟩, ?_⟩
    rintro ⟨i, hi⟩
    (try conv=>whnf);repeat' (first|(apply And.intro<;>try conv=>whnf)|(intro h;try conv=>whnf)|(apply infoT;rfl)|(refine PureFn.dcq (f := 9) rfl ?_;try conv=>whnf)|(refine ⟨_, _, hA, ?_, ?_⟩;(focus first|(refine ⟨trivial⟩<;>first|exact PLe.refl _|exact PLe.nil)|exact trivial);try conv=>whnf)|fail)
    · have hi' : i < l.length := by simpa using lt_dec h
      obtain ⟨w, hw⟩ : ∃ w, ws[i]? = some w := ⟨_, List.getElem?_eq_getElem (by omega)⟩
      have hx := hlk i w hw
      refine ⟨_, _, rfl, idx_map hx, rfl, ?_⟩
      (try conv=>whnf);repeat' (first|(apply And.intro<;>try conv=>whnf)|(intro h;try conv=>whnf)|apply True.intro|(apply infoT;rfl)|(apply WhenQ.mk;(try conv=>whnf);rotate_left;(try conv=>whnf);rotate_right)|with_reducible assumption|(apply not_of;with_reducible assumption)|(refine lin_plan (by kernel_rfl) ?_;try conv=>whnf)|(refine ⟨_, _, rfl, idx_map (by with_reducible assumption), rfl, ?_⟩;try conv=>whnf)|fail)
      · exfalso
        have h1 : (bif ((w : Int) != (w : Int)) then true else (((0 : Nat) : Int) != 0)) = true := h
        simp at h1
      · exact ⟨⟨i + 1, hi'⟩, by show l.length - (i + 1) < l.length - i; omega, (by refine Wk.of ?_ ?_ rfl rfl rfl<;>repeat' (first|exact trivial|exact WkD.same _|refine WkD.int ?_|refine ⟨?_, ?_⟩|(refine wrapA ?_ ?_ ?_;(focus simp;done);(focus (try dsimp only);omega);(focus (try dsimp only);omega))|fail))⟩
    · exact .refl _
theorem pann_args (ps : List PV) (hps : TyAll Tryd.prog 8 Tryd.f3.params.toList ps) : PureFn Tryd.prog 3 ps (.bool true) := by
  obtain ⟨p1, r1, rfl, h1, p2, r2, rfl, h2, rfl⟩ := hps
  obtain ⟨m, hm, hf⟩ := arg_mod (n := 4) h1
  obtain ⟨f, hf2⟩ := arg_nodes (n := 5) h2
  exact (pann_pure m f hf).le ⟨hm, hf2, trivial⟩
end Go.Proofs.YtnbnkgcjgfmlcaaDoor
