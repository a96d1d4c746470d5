/- Parts of the proof, one after the other: Products: Worlds of the program walked. The reference of products walked: Worlds. Products: Update of the program walked. Products: Update of the program walked. The reference of products walked: value. The reference of products walked: Update. Products: At of the program walked; the examples of the law. Products: the examples of the law; models as arguments. The reference of products walked: At, SamePairs; the laws ProductUpdates and ProductAt. Products: the law ProductAt walked. -/
import Derived.Test.YtnbnkgcjgfmlcaaGreatM7
set_option maxRecDepth 100000
set_option maxHeartbeats 4000000
namespace Go.Proofs.YtnbnkgcjgfmlcaaGreat
open Go Go.Dv

def HMA (m : Mo) (a : Act) : List (Nat × DObj) := [(0, .var (cellsM m)), (1, .var (cellsA a))]
theorem pr_Worlds (m : Mo) (a : Act) (hf : FitM m) (hfa : Fit a) (hl : a.rel.length ≤ 1000) (hp : ∀ l, l ∈ a.post → l.length ≤ 1000) : PureFn Tryz.prog 8 [m.pv, a.pv] (worldsPV (worldsI m a)) := by
  refine PureFn.introC [4, 7, 8, 16, 26] mixed (fn := Tryz.f8) rfl rfl rfl fun M w0 => ?_
  have hC := md_Check m hf
  have hK := ac_Check a (m.rel.length : Nat) (m.val.length : Nat) hfa hl hp
  rw [show PV.int .i64 ((m.rel.length : Nat) : Int) = .int .i64 ((m.rel.map rowPV).length : Nat) by rw [List.length_map], show PV.int .i64 ((m.val.length : Nat) : Int) = .int .i64 ((m.val.map u64).length : Nat) by rw [List.length_map]] at hK
  try conv=>whnf
  refine ⟨{ _x : Unit // (moI m != 0) = false }, fun _ => [(2, .ref 0 0), (3, .ref 1 0)], fun _ => 2, fun _ => HMA m a, ?_, ?_⟩
  · (try conv=>whnf);repeat' (first|(apply And.intro<;>try conv=>whnf)|(intro h;try conv=>whnf)|(refine PureFn.dcq (f := 23) rfl ?_;try conv=>whnf)|(refine ⟨_, _, hC, ?_, ?_⟩;(focus first|(refine ⟨?_, trivial⟩<;>first|exact PLe.refl _|exact PLe.nil)|exact trivial);try conv=>whnf)|fail)
    · have h9 : moaI m a = moI m := by rw [moaI, h]; rfl
      rw [worldsI, h9, h]
      exact le_worlds _
    · exact ⟨⟨(), h⟩, (by refine Wk.of ?_ ?_ rfl rfl rfl<;>repeat' (first|exact trivial|exact WkD.same _|exact WkO.same _ _ rfl|refine ⟨?_, ?_⟩|fail))⟩
  rintro ⟨_, h1⟩
  have hmo : moaI m a = actI a (m.rel.length : Int) (m.val.length : Int) := by rw [moaI, h1]; rfl
  refine ⟨{ _x : Unit // (moaI m a != 0) = false }, fun _ => [(2, .ref 0 0), (3, .ref 1 0)], fun _ => 2, fun _ => HMA m a, ?_, ?_⟩
  · (try conv=>whnf);repeat' (first|(apply And.intro<;>try conv=>whnf)|(intro h;try conv=>whnf)|(refine PureFn.dcq (f := 24) rfl ?_;try conv=>whnf)|(refine ⟨_, _, hK, ?_, ?_⟩;(focus first|(refine ⟨?_, ?_, ?_, trivial⟩<;>first|exact PLe.refl _|exact PLe.nil)|exact trivial);try conv=>whnf)|fail)
    · have h9 : (moaI m a != 0) = true := by rw [hmo]; exact h
      rw [worldsI, h9, hmo]
      exact le_worlds _
    · exact ⟨⟨(), by rw [hmo]; exact h⟩, (by refine Wk.of ?_ ?_ rfl rfl rfl<;>repeat' (first|exact trivial|exact WkD.same _|exact WkO.same _ _ rfl|refine ⟨?_, ?_⟩|fail))⟩
  rintro ⟨_, h2⟩
  have h20 : moaI m a = 0 := by simpa using h2
  obtain ⟨⟨n, hM⟩, hAc⟩ := moaI_ok h20
  have hO := actI_ok hAc
  have hn8 := hO.n8
  have hn1 := hO.n1
  have hn64 := hM.n64
  have hres : worldsI m a = bif ((pairsL m a).length : Int) == 0 then ([], 11) else (pairsL m a, 0) := by rw [worldsI, h2]; rfl
  have hpl : pairsL m a = pairsW (possP m a) a.pre.length n := by rw [pairsL, hM.nn]; rfl
  rw [hres, hpl]
  clear hres hpl
  have hph := fun (e : Nat) (he : e < a.pre.length) => pre_holds h20 he
  rw [hM.nn, Int.toNat_natCast] at hph
  generalize hpe : possP m a = p at hph ⊢
  have hN : ((a.pre.map fpv).length : Int).toNat = a.pre.length := by rw [List.length_map]; rfl
  have hz1 : List.replicate ((a.pre.map fpv).length : Int).toNat (PV.int .u64 0) = mixV a.pre.length (fun e => u64 (p e)) (fun _ => u64 0) 0 := by rw [hN]; exact mixV_rep _ _ _
  have hbig : ((a.pre.map fpv).length : Int) ≤ (big : Int) := by
    show ((a.pre.map fpv).length : Int) ≤ 4294967296
    rw [List.length_map]; omega
  have hml := mixV_len a.pre.length (fun e => u64 (p e)) (fun _ => u64 0)
  refine ⟨Unit, fun _ => [(2, .ref 0 0), (3, .ref 1 0), (8, .buf 2 (mixV a.pre.length (fun e => u64 (p e)) (fun _ => u64 0) 0).length)], fun _ => 3, fun _ => [(0, .var (cellsM m)), (1, .var (cellsA a)), (2, .arr 1 (mixV a.pre.length (fun e => u64 (p e)) (fun _ => u64 0) 0))], ?_, ?_⟩
  · (try conv=>whnf);repeat' (first|(apply And.intro<;>try conv=>whnf)|fail)
    · rfl
    · exact Int.natCast_nonneg _
    · exact hbig
    refine ⟨(), ?_⟩
    (refine Wk.of ?_ ?_ rfl rfl rfl<;>repeat' (first|exact trivial|exact WkD.same _|exact WkO.same _ _ rfl|refine ⟨?_, ?_⟩|fail))
    · exact WkD.eq (congrArg (fun z : List PV => DV.buf 2 z.length) hz1)
    · exact WkO.same _ _ (congrArg (fun z => some (DObj.arr 1 z)) hz1)
  rintro ⟨⟩
  clear hz1 hN hbig
  refine ⟨Unit, fun _ => [(2, .ref 0 0), (8, .pv (.sl (mixV a.pre.length (fun e => u64 (p e)) (fun _ => u64 0) a.pre.length)))], fun _ => 3, fun _ => [(0, .var (cellsM m))], ?_, ?_⟩
  · try conv=>whnf
    refine ⟨{ i : Nat // i ≤ a.pre.length }, fun i => [(2, .ref 0 0), (3, .ref 1 0), (8, .buf 2 (mixV a.pre.length (fun e => u64 (p e)) (fun _ => u64 0) i.1).length), (38, .pv (.sl (a.pre.map fpv))), (39, .pv (i64 (a.pre.map fpv).length)), (40, .pv (i64 i.1))], fun _ => 3, fun i => [(0, .var (cellsM m)), (1, .var (cellsA a)), (2, .arr 1 (mixV a.pre.length (fun e => u64 (p e)) (fun _ => u64 0) i.1))], fun i => a.pre.length - i.1, ⟨⟨0, Nat.zero_le _⟩, (by refine Wk.of ?_ ?_ rfl rfl rfl<;>repeat' (first|exact trivial|exact WkD.same _|exact WkO.same _ _ rfl|refine ⟨?_, ?_⟩|fail))⟩, ?_⟩
    rintro ⟨i, hi⟩
    have hmi := hml i
    have hmi1 := hml (i + 1)
    (try conv=>whnf);repeat' (first|(apply And.intro<;>try conv=>whnf)|(intro h;try conv=>whnf)|(apply infoT;rfl)|fail)
    · have hi' : i < a.pre.length := by simpa using lt_dec h
      obtain ⟨f, hn, hw⟩ : ∃ f, a.pre[i]? = some f ∧ a.pre.getD i [] = f := ⟨_, getD_mem hi', rfl⟩
      obtain ⟨hh, hlt⟩ := hph i hi'
      have hH := ck_Holds m f hf
      rw [hw] at hh
      rw [hh] at hH
      have hst := mixV_set (n := a.pre.length) (p := fun e => u64 (p e)) (q := fun _ => u64 0) (e := i)
      refine ⟨_, _, rfl, idx_map hn, rfl, ?_⟩
      (try conv=>whnf);repeat' (first|(apply And.intro<;>try conv=>whnf)|(intro h;try conv=>whnf)|(refine PureFn.dcq (f := 25) rfl ?_;try conv=>whnf)|(refine ⟨_, _, hH, ?_, ?_⟩;(focus first|(refine ⟨?_, ?_, trivial⟩<;>first|exact PLe.refl _|exact PLe.nil)|exact trivial);try conv=>whnf)|fail)
      · cases h
      refine ⟨i, rfl, by rw [hmi]; exact hi', ?_⟩
      (try conv=>whnf);repeat' (first|(apply And.intro<;>try conv=>whnf)|fail)
      refine ⟨_, mixV_old hi', Nat.le_refl 1, ?_⟩
      try conv=>whnf
      refine ⟨⟨i + 1, hi'⟩, by show a.pre.length - (i + 1) < a.pre.length - i; omega, ?_⟩
      (refine Wk.of ?_ ?_ rfl rfl rfl<;>repeat' (first|exact trivial|exact WkD.same _|exact WkO.same _ _ rfl|refine WkD.int ?_|refine ⟨?_, ?_⟩|(refine wrapA ?_ ?_ ?_;(focus simp;done);(focus (try dsimp only);omega);(focus (try dsimp only);omega))|fail))
      · exact WkD.eq (congrArg (DV.buf 2) (hmi.trans hmi1.symm))
      · exact WkO.same _ _ (congrArg (fun z => some (DObj.arr 1 z)) hst)
    · have hi' : i = a.pre.length := by have := ge_dec (m := (a.pre.map fpv).length) h (by simpa using hi); simpa using this
      subst hi'
      exact ⟨(), (by refine Wk.of ?_ ?_ rfl rfl rfl<;>repeat' (first|exact trivial|exact WkD.same _|exact WkO.same _ _ rfl|exact WkD.fz _ _ _ rfl (Or.inl ⟨_, rfl⟩) rfl|refine ⟨?_, ?_⟩|fail))⟩
  rintro ⟨⟩
  have hPl : ∀ w e, w ≤ n → e ≤ a.pre.length → ((pairsB p a.pre.length w e).map pairPV).length ≤ 1000 := fun w e hw he => by
    have h1 := pairsW_len p a.pre.length w
    have h2 := pairsE_len p w e
    have h3 : w * a.pre.length ≤ 64 * 8 := Nat.mul_le_mul (by omega) hn8
    rw [List.length_map, pairsB, List.length_append]; omega
  have hmN := hml a.pre.length
  have hmnn := hM.nn
  try conv=>whnf
  refine ⟨Unit, fun _ => [(13, .pv (.sl ((pairsB p a.pre.length n 0).map pairPV)))], fun _ => 4, fun _ => [], ?_, ?_⟩
  · try conv=>whnf
    refine ⟨{ w : Nat // w ≤ n }, fun w => [(2, .ref 0 0), (8, .pv (.sl (mixV a.pre.length (fun e => u64 (p e)) (fun _ => u64 0) a.pre.length))), (13, .buf 3 ((pairsB p a.pre.length w.1 0).map pairPV).length), (14, .pv (i64 w.1))], fun _ => 4, fun w => [(0, .var (cellsM m)), (3, .arr 2 ((pairsB p a.pre.length w.1 0).map pairPV))], fun w => n - w.1, ⟨⟨0, Nat.zero_le _⟩, (by refine Wk.of ?_ ?_ rfl rfl rfl<;>repeat' (first|exact trivial|exact WkD.same _|exact WkO.same _ _ rfl|exact WkD.new' rfl rfl rfl|exact WkO.new _ _ rfl|exact rfl|refine ⟨?_, ?_⟩|fail))⟩, ?_⟩
    rintro ⟨w, hw⟩
    try conv=>whnf
    refine ⟨{ e : Nat // e ≤ a.pre.length ∧ (w = n → e = 0) }, fun e => [(2, .ref 0 0), (8, .pv (.sl (mixV a.pre.length (fun e => u64 (p e)) (fun _ => u64 0) a.pre.length))), (13, .buf 3 ((pairsB p a.pre.length w e.1).map pairPV).length), (14, .pv (i64 w)), (61, .pv (.sl (mixV a.pre.length (fun e => u64 (p e)) (fun _ => u64 0) a.pre.length))), (62, .pv (i64 (mixV a.pre.length (fun e => u64 (p e)) (fun _ => u64 0) a.pre.length).length)), (63, .pv (i64 e.1))], fun _ => 4, fun e => [(0, .var (cellsM m)), (3, .arr 2 ((pairsB p a.pre.length w e.1).map pairPV))], fun e => a.pre.length - e.1, ⟨⟨0, Nat.zero_le _, fun _ => rfl⟩, (by refine Wk.of ?_ ?_ rfl rfl rfl<;>repeat' (first|exact trivial|exact WkD.same _|exact WkO.same _ _ rfl|refine ⟨?_, ?_⟩|fail))⟩, ?_⟩
    rintro ⟨e, he, hwe⟩
    have hple := hPl w e hw he
    (try conv=>whnf);repeat' (first|(apply And.intro<;>try conv=>whnf)|(intro h;try conv=>whnf)|(apply infoT;rfl)|fail)
    · have he' : e < a.pre.length := by have := lt_dec h; rwa [hmN] at this
      obtain ⟨_, hlt⟩ := hph e he'
      have h64 : p e < 2 ^ 64 := Nat.lt_of_lt_of_le hlt (pow64_le hn64)
      have hsu := pairsB_succ p a.pre.length w e
      refine ⟨e, _, rfl, mixV_new he' he', rfl, ?_⟩
      have hb0 : w ≠ n → (andU (shrU (p e) w) 1 == 0) = !(p e).testBit w := fun hwn => bit_zero h64 (by omega)
      (try conv=>whnf);repeat' (first|(apply And.intro<;>try conv=>whnf)|(intro h;try conv=>whnf)|(apply cellsI;rfl)|(apply szI;rfl)|fail)
      · have hwn : w = n := by
          have : (w : Int) = m.n := by simpa using h
          omega
        subst hwn
        obtain rfl : e = 0 := hwe rfl
        exact ⟨(), (by refine Wk.of ?_ ?_ rfl rfl rfl<;>repeat' (first|exact trivial|exact WkD.fz _ _ _ rfl (Or.inl ⟨_, rfl⟩) rfl|refine ⟨?_, ?_⟩|fail))⟩
      · exact Int.natCast_nonneg _
      · rename_i hw9
        have hwn : w ≠ n := fun e => by
          have : ¬ (w : Int) = m.n := by simpa using hw9
          omega
        have ht : (p e).testBit w = false := by
          have : (!(p e).testBit w) = true := by rw [← hb0 hwn]; exact h
          simpa using this
        rw [ht, cond_false] at hsu
        refine ⟨⟨e + 1, he', fun q => absurd q hwn⟩, by show a.pre.length - (e + 1) < a.pre.length - e; omega, ?_⟩
        (refine Wk.of ?_ ?_ rfl rfl rfl<;>repeat' (first|exact trivial|exact WkD.same _|exact WkO.same _ _ rfl|refine WkD.int ?_|refine ⟨?_, ?_⟩|(refine wrapA ?_ ?_ ?_;(focus simp;done);(focus (try dsimp only);omega);(focus (try dsimp only);omega))|fail))
        · exact WkD.eq (congrArg (fun l : List (Nat × Nat) => DV.buf 3 (l.map pairPV).length) hsu.symm)
        · exact WkO.same _ _ (congrArg (fun l : List (Nat × Nat) => some (DObj.arr 2 (l.map pairPV))) hsu.symm)
      · exact app_big (n := 1000) hple (by decide)
      · rename_i hw9
        have hwn : w ≠ n := fun e => by
          have : ¬ (w : Int) = m.n := by simpa using hw9
          omega
        have ht : (p e).testBit w = true := by
          have : (!(p e).testBit w) = false := by rw [← hb0 hwn]; exact h
          simpa using this
        rw [ht, cond_true] at hsu
        have er : (pairsB p a.pre.length w e).map pairPV ++ [.agg [.int .i64 (w : Int), .int .i64 (e : Int)]] = (pairsB p a.pre.length w (e + 1)).map pairPV := by rw [hsu, List.map_append]; rfl
        refine ⟨⟨e + 1, he', fun q => absurd q hwn⟩, by show a.pre.length - (e + 1) < a.pre.length - e; omega, ?_⟩
        (refine Wk.of ?_ ?_ rfl rfl rfl<;>repeat' (first|exact trivial|exact WkD.same _|exact WkO.same _ _ rfl|exact WkD.eq (congrArg (fun z : List PV => DV.buf _ z.length) er)|exact WkO.same _ _ (congrArg (fun z => some (DObj.arr _ z)) er)|refine WkD.int ?_|refine ⟨?_, ?_⟩|(refine wrapA ?_ ?_ ?_;(focus simp;done);(focus (try dsimp only);omega);(focus (try dsimp only);omega))|fail))
    · have he' : e = a.pre.length := by have := ge_dec h (by rw [hmN]; exact he); rwa [hmN] at this
      have hwn : w < n := by
        rcases Nat.lt_or_ge w n with q | q
        · exact q
        · have := hwe (by omega); omega
      subst he'
      have hew : pairsB p a.pre.length w a.pre.length = pairsB p a.pre.length (w + 1) 0 := by rw [pairsB_full, pairsB_zero]
      try conv=>whnf
      refine ⟨⟨w + 1, hwn⟩, by show n - (w + 1) < n - w; omega, ?_⟩
      (refine Wk.of ?_ ?_ rfl rfl rfl<;>repeat' (first|exact trivial|exact WkD.same _|exact WkO.same _ _ rfl|refine WkD.int ?_|refine ⟨?_, ?_⟩|(refine wrapA ?_ ?_ ?_;(focus simp;done);(focus (try dsimp only);omega);(focus (try dsimp only);omega))|fail))
      · exact WkD.eq (congrArg (fun l : List (Nat × Nat) => DV.buf 3 (l.map pairPV).length) hew)
      · exact WkO.same _ _ (congrArg (fun l : List (Nat × Nat) => some (DObj.arr 2 (l.map pairPV))) hew)
  rintro ⟨⟩
  rw [← pairsB_zero]
  generalize pairsB p a.pre.length n 0 = L
  have e9 : ((L.map pairPV).length : Int) = (L.length : Int) := by simp
  (try conv=>whnf);repeat' (first|(apply And.intro<;>try conv=>whnf)|(intro h;try conv=>whnf)|fail)
  · rw [show ((L.length : Int) == 0) = true by rw [← e9]; exact h]
    exact le_worlds _
  · rw [show ((L.length : Int) == 0) = false by rw [← e9]; exact h]
    exact .refl _
end Go.Proofs.YtnbnkgcjgfmlcaaGreat
set_option maxRecDepth 100000
set_option maxHeartbeats 4000000
namespace Go.Proofs.YtnbnkgcjgfmlcaaGreat
open Go Go.Dv

theorem rp_Worlds (m : Mo) (a : Act) (hf : FitM m) (hfa : Fit a) (hl : a.rel.length ≤ 1000) (hp : ∀ l, l ∈ a.post → l.length ≤ 1000) : PureFn Tryz.prog 9 [m.pv, a.pv] (worldsPV (worldsI m a)) := by
  refine PureFn.introC [2, 5, 14, 24] mixed (fn := Tryz.f9) rfl rfl rfl fun M w0 => ?_
  have hC := rm_Check m hf
  have hK := ra_Check a (m.rel.length : Nat) (m.val.length : Nat) hfa hl hp
  rw [show PV.int .i64 ((m.rel.length : Nat) : Int) = .int .i64 ((m.rel.map rowPV).length : Nat) by rw [List.length_map], show PV.int .i64 ((m.val.length : Nat) : Int) = .int .i64 ((m.val.map u64).length : Nat) by rw [List.length_map]] at hK
  try conv=>whnf
  refine ⟨Unit, fun _ => [(2, .ref 0 0), (3, .ref 1 0), (6, .pv (.int .i64 (moI m)))], fun _ => 2, fun _ => HMA m a, ?_, ?_⟩
  · (try conv=>whnf);repeat' (first|(refine PureFn.dcq (f := 26) rfl ?_;try conv=>whnf)|(refine ⟨_, _, hC, ?_, ?_⟩;(focus first|(refine ⟨?_, trivial⟩<;>first|exact PLe.refl _|exact PLe.nil)|exact trivial);try conv=>whnf)|fail)
    exact ⟨(), (by refine Wk.of ?_ ?_ rfl rfl rfl<;>repeat' (first|exact trivial|exact WkD.same _|exact WkO.same _ _ rfl|refine ⟨?_, ?_⟩|fail))⟩
  rintro ⟨⟩
  (try conv=>whnf);repeat' (first|(apply And.intro<;>try conv=>whnf)|(intro h;try conv=>whnf)|fail)
  · have h9 : moaI m a = moI m := by rw [moaI, h]; rfl
    rw [worldsI, h9, h]
    exact le_worlds _
  have h1 := h
  have hmo : moaI m a = actI a (m.rel.length : Int) (m.val.length : Int) := by rw [moaI, h1]; rfl
  refine ⟨Unit, fun _ => [(2, .ref 0 0), (3, .ref 1 0), (7, .pv (.int .i64 (moaI m a)))], fun _ => 2, fun _ => HMA m a, ?_, ?_⟩
  · rw [hmo]
    (try conv=>whnf);repeat' (first|(refine PureFn.dcq (f := 27) rfl ?_;try conv=>whnf)|(refine ⟨_, _, hK, ?_, ?_⟩;(focus first|(refine ⟨?_, ?_, ?_, trivial⟩<;>first|exact PLe.refl _|exact PLe.nil)|exact trivial);try conv=>whnf)|fail)
    exact ⟨(), (by refine Wk.of ?_ ?_ rfl rfl rfl<;>repeat' (first|exact trivial|exact WkD.same _|exact WkO.same _ _ rfl|refine ⟨?_, ?_⟩|fail))⟩
  rintro ⟨⟩
  (try conv=>whnf);repeat' (first|(apply And.intro<;>try conv=>whnf)|(intro h;try conv=>whnf)|fail)
  · rw [worldsI, h]
    exact le_worlds _
  have h2 := h
  have h20 : moaI m a = 0 := by simpa using h2
  obtain ⟨⟨n, hM⟩, hAc⟩ := moaI_ok h20
  have hO := actI_ok hAc
  have hn8 := hO.n8
  have hn1 := hO.n1
  have hn64 := hM.n64
  have hnn := hM.nn
  have hres : worldsI m a = bif ((pairsL m a).length : Int) == 0 then ([], 11) else (pairsL m a, 0) := by rw [worldsI, show (moaI m a != 0) = false from h2]; rfl
  have hpl : pairsL m a = pairsW (possP m a) a.pre.length n := by rw [pairsL, hM.nn]; rfl
  rw [hres, hpl]
  clear hres hpl
  have hH : ∀ (e : Nat) (f : List Nd), a.pre[e]? = some f → PureFn Tryz.prog 28 [m.pv, fpv f] (.tup [u64 (possP m a e), .int .i64 0]) := by
    intro e f he
    have h := rc_Holds m f hf
    have he1 := (List.getElem?_eq_some_iff.1 he).1
    have hp := (pre_holds h20 he1).1
    have hg : a.pre.getD e [] = f := by rw [List.getD_eq_getElem?_getD, he]; rfl
    rw [hg] at hp
    rw [hp] at h
    exact h
  generalize hpe : possP m a = p at hH ⊢
  have hBl : ∀ w e, w ≤ n → e ≤ a.pre.length → ((pairsB p a.pre.length w e).map pairPV).length ≤ 600 := by
    intro w e h1 h2
    rw [List.length_map, pairsB, List.length_append]
    have := pairsW_len p a.pre.length w
    have := pairsE_len p w e
    have := Nat.mul_le_mul h1 hn8
    omega
  refine ⟨Unit, fun _ => [(2, .ref 0 0), (3, .ref 1 0), (8, .pv (.sl ((List.range a.pre.length).map fun e => u64 (p e))))], fun _ => 3, fun _ => HMA m a, ?_, ?_⟩
  · try conv=>whnf
    refine ⟨{ e : Nat // e ≤ a.pre.length }, fun e => [(2, .ref 0 0), (3, .ref 1 0), (8, .buf 2 ((List.range e.1).map fun e => u64 (p e)).length), (33, .pv (.sl (a.pre.map fpv))), (34, .pv (i64 (a.pre.map fpv).length)), (35, .pv (i64 e.1))], fun _ => 3, fun e => [(0, .var (cellsM m)), (1, .var (cellsA a)), (2, .arr 1 ((List.range e.1).map fun e => u64 (p e)))], fun e => a.pre.length - e.1, ⟨⟨0, Nat.zero_le _⟩, (by refine Wk.of ?_ ?_ rfl rfl rfl<;>repeat' (first|exact trivial|exact WkD.same _|exact WkO.same _ _ rfl|exact WkD.new' rfl rfl rfl|exact WkO.new _ _ rfl|exact rfl|refine ⟨?_, ?_⟩|fail))⟩, ?_⟩
    intro e
    have he := e.2
    (try conv=>whnf);repeat' (first|(apply And.intro<;>try conv=>whnf)|(intro h;try conv=>whnf)|(apply infoT;rfl)|fail)
    · have he' : e.1 < a.pre.length := by simpa using lt_dec h
      have hm : a.pre[e.1]? = some a.pre[e.1] := List.getElem?_eq_getElem he'
      have hHe := hH e.1 _ hm
      have hes : ((List.range e.1).map fun e => u64 (p e)) ++ [u64 (p e.1)] = (List.range (e.1 + 1)).map fun e => u64 (p e) := by rw [List.range_succ, List.map_append]; rfl
      refine ⟨_, _, rfl, idx_map hm, rfl, ?_⟩
      (try conv=>whnf);repeat' (first|(apply And.intro<;>try conv=>whnf)|(apply cellsI;rfl)|(apply szI;rfl)|(refine PureFn.dcq (f := 28) rfl ?_;try conv=>whnf)|(refine ⟨_, _, hHe, ?_, ?_⟩;(focus first|(refine ⟨?_, ?_, trivial⟩<;>first|exact PLe.refl _|exact PLe.nil)|exact trivial);try conv=>whnf)|fail)
      · exact app_big (n := 8) (by simp; omega) (by decide)
      · refine ⟨⟨e.1 + 1, he'⟩, by show a.pre.length - (e.1 + 1) < a.pre.length - e.1; omega, ?_⟩
        (refine Wk.of ?_ ?_ rfl rfl rfl<;>repeat' (first|exact trivial|exact WkD.same _|exact WkO.same _ _ rfl|exact WkD.eq (congrArg (fun z : List PV => DV.buf _ z.length) hes)|exact WkO.same _ _ (congrArg (fun z => some (DObj.arr _ z)) hes)|refine WkD.int ?_|refine ⟨?_, ?_⟩|(refine wrapA ?_ ?_ ?_;(focus simp;done);(focus (try dsimp only);omega);(focus (try dsimp only);omega))|fail))
    · obtain ⟨e0, he0⟩ := e
      have he' : e0 = a.pre.length := by have := ge_dec (m := (a.pre.map fpv).length) h (by simpa using he); simpa using this
      subst he'
      exact ⟨(), (by refine Wk.of ?_ ?_ rfl rfl rfl<;>repeat' (first|exact trivial|exact WkD.same _|exact WkO.same _ _ rfl|exact WkD.fz _ _ _ rfl (Or.inl ⟨_, rfl⟩) rfl|refine ⟨?_, ?_⟩|fail))⟩
  rintro ⟨⟩
  refine ⟨Unit, fun _ => [(13, .pv (.sl ((pairsW p a.pre.length n).map pairPV)))], fun _ => 4, fun _ => HMA m a, ?_, ?_⟩
  · try conv=>whnf
    refine ⟨{ w : Nat // w ≤ n }, fun w => [(2, .ref 0 0), (3, .ref 1 0), (8, .pv (.sl ((List.range a.pre.length).map fun e => u64 (p e)))), (13, .buf 3 ((pairsB p a.pre.length w.1 0).map pairPV).length), (14, .pv (i64 w.1))], fun _ => 4, fun w => [(0, .var (cellsM m)), (1, .var (cellsA a)), (3, .arr 2 ((pairsB p a.pre.length w.1 0).map pairPV))], fun w => n - w.1, ⟨⟨0, Nat.zero_le _⟩, (by refine Wk.of ?_ ?_ rfl rfl rfl<;>repeat' (first|exact trivial|exact WkD.same _|exact WkO.same _ _ rfl|exact WkD.new' rfl rfl rfl|exact WkO.new _ _ rfl|exact rfl|refine ⟨?_, ?_⟩|fail))⟩, ?_⟩
    intro w
    have hwn := w.2
    (try conv=>whnf);repeat' (first|(apply And.intro<;>try conv=>whnf)|(intro h;try conv=>whnf)|fail)
    · have hw' : w.1 < n := by rw [hnn] at h; exact lt_dec h
      refine ⟨{ e : Nat // e ≤ a.pre.length }, fun e => [(2, .ref 0 0), (3, .ref 1 0), (8, .pv (.sl ((List.range a.pre.length).map fun e => u64 (p e)))), (13, .buf 3 ((pairsB p a.pre.length w.1 e.1).map pairPV).length), (14, .pv (i64 w.1)), (58, .pv (i64 (a.pre.map fpv).length)), (59, .pv (i64 e.1))], fun _ => 4, fun e => [(0, .var (cellsM m)), (1, .var (cellsA a)), (3, .arr 2 ((pairsB p a.pre.length w.1 e.1).map pairPV))], fun e => a.pre.length - e.1, ⟨⟨0, Nat.zero_le _⟩, (by refine Wk.of ?_ ?_ rfl rfl rfl<;>repeat' (first|exact trivial|exact WkD.same _|exact WkO.same _ _ rfl|refine ⟨?_, ?_⟩|fail))⟩, ?_⟩
      intro e
      have he := e.2
      have hB1 := hBl w.1 e.1 hwn he
      have hs := pairsB_succ p a.pre.length w.1 e.1
      (try conv=>whnf);repeat' (first|(apply And.intro<;>try conv=>whnf)|(intro h;try conv=>whnf)|(apply infoT;rfl)|fail)
      · have he' : e.1 < a.pre.length := by simpa using lt_dec h
        have hHas := rm_Has (p e.1) w.1 (by omega)
        refine ⟨_, _, rfl, idx_map (g := fun e => u64 (p e)) (List.getElem?_range he'), rfl, ?_⟩
        (try conv=>whnf);repeat' (first|(apply And.intro<;>try conv=>whnf)|(intro h;try conv=>whnf)|(apply cellsI;rfl)|(apply szI;rfl)|(refine PureFn.dcq (f := 29) rfl ?_;try conv=>whnf)|(refine ⟨_, _, hHas, ?_, ?_⟩;(focus first|(refine ⟨?_, ?_, trivial⟩<;>first|exact PLe.refl _|exact PLe.nil)|exact trivial);try conv=>whnf)|fail)
        · exact app_big (n := 600) hB1 (by decide)
        · have hes : (pairsB p a.pre.length w.1 e.1).map pairPV ++ [pairPV (w.1, e.1)] = (pairsB p a.pre.length w.1 (e.1 + 1)).map pairPV := by rw [hs, show (p e.1).testBit w.1 = true from h, cond_true, List.map_append]; rfl
          refine ⟨⟨e.1 + 1, he'⟩, by show a.pre.length - (e.1 + 1) < a.pre.length - e.1; omega, ?_⟩
          (refine Wk.of ?_ ?_ rfl rfl rfl<;>repeat' (first|exact trivial|exact WkD.same _|exact WkO.same _ _ rfl|exact WkD.eq (congrArg (fun z : List PV => DV.buf _ z.length) hes)|exact WkO.same _ _ (congrArg (fun z => some (DObj.arr _ z)) hes)|refine WkD.int ?_|refine ⟨?_, ?_⟩|(refine wrapA ?_ ?_ ?_;(focus simp;done);(focus (try dsimp only);omega);(focus (try dsimp only);omega))|fail))
        · have hes : (pairsB p a.pre.length w.1 e.1).map pairPV = (pairsB p a.pre.length w.1 (e.1 + 1)).map pairPV := by rw [hs, show (p e.1).testBit w.1 = false from h, cond_false]
          refine ⟨⟨e.1 + 1, he'⟩, by show a.pre.length - (e.1 + 1) < a.pre.length - e.1; omega, ?_⟩
          (refine Wk.of ?_ ?_ rfl rfl rfl<;>repeat' (first|exact trivial|exact WkD.same _|exact WkO.same _ _ rfl|exact WkD.eq (congrArg (fun z : List PV => DV.buf _ z.length) hes)|exact WkO.same _ _ (congrArg (fun z => some (DObj.arr _ z)) hes)|refine WkD.int ?_|refine ⟨?_, ?_⟩|(refine wrapA ?_ ?_ ?_;(focus simp;done);(focus (try dsimp only);omega);(focus (try dsimp only);omega))|fail))
      · have he' : e.1 = a.pre.length := by have := ge_dec (m := (a.pre.map fpv).length) h (by simpa using he); simpa using this
        have ef : pairsB p a.pre.length w.1 e.1 = pairsB p a.pre.length (w.1 + 1) 0 := by rw [he', pairsB_full, pairsB_zero]
        have efm : (pairsB p a.pre.length w.1 e.1).map pairPV = (pairsB p a.pre.length (w.1 + 1) 0).map pairPV := by rw [ef]
        refine ⟨⟨w.1 + 1, hw'⟩, by show n - (w.1 + 1) < n - w.1; omega, ?_⟩
        (refine Wk.of ?_ ?_ rfl rfl rfl<;>repeat' (first|exact trivial|exact WkD.same _|exact WkO.same _ _ rfl|exact WkD.eq (congrArg (fun z : List PV => DV.buf _ z.length) efm)|exact WkO.same _ _ (congrArg (fun z => some (DObj.arr _ z)) efm)|refine WkD.int ?_|refine ⟨?_, ?_⟩|(refine wrapA ?_ ?_ ?_;(focus simp;done);(focus (try dsimp only);omega);(focus (try dsimp only);omega))|fail))
    · obtain ⟨w0', hw0⟩ := w
      have hw' : w0' = n := by rw [hnn] at h; exact ge_dec h hwn
      subst hw'
      have hfz : (pairsB p a.pre.length w0' 0).map pairPV = (pairsW p a.pre.length w0').map pairPV := by rw [pairsB_zero]
      refine ⟨(), ?_⟩
      rw [← hfz]
      (refine Wk.of ?_ ?_ rfl rfl rfl<;>repeat' (first|exact trivial|exact WkO.same _ _ rfl|exact WkD.fz _ _ _ rfl (Or.inl ⟨_, rfl⟩) rfl|refine ⟨?_, ?_⟩|fail))
  rintro ⟨⟩
  have hl0 : (((pairsW p a.pre.length n).map pairPV).length : Int) = ((pairsW p a.pre.length n).length : Int) := by simp
  (try conv=>whnf);repeat' (first|(apply And.intro<;>try conv=>whnf)|(intro h;try conv=>whnf)|fail)
  · rw [hl0] at h
    rw [h]
    exact le_worlds _
  · rw [hl0] at h
    rw [h]
    exact .refl _
end Go.Proofs.YtnbnkgcjgfmlcaaGreat
set_option maxRecDepth 100000
set_option maxHeartbeats 4000000
namespace Go.Proofs.YtnbnkgcjgfmlcaaGreat
open Go Go.Dv

def cells0 : List DV := [.pv (.int .i64 0), .pv .nil, .pv .nil]
def pairD (q : Nat × Nat) : List DV := [.pv (i64 q.1), .pv (i64 q.2)]
/-- The heap while the values of a fact are reckoned. -/
def HV (m : Mo) (a : Act) (l : List (Nat × Nat)) (vs vl : List Nat) : List (Nat × DObj) :=
  [(0, .var (cellsM m)), (1, .var (cellsA a)), (2, .var cells0), (3, .var [.pv (.sl (l.map pairPV))]), (4, .var [.pv (i64 (l.map pairPV).length), .buf 5 (vs.map u64).length, .pv .nil]), (5, .arr 1 (vs.map u64)), (7, .var [.pv (rowPV vl)])]
theorem upd2 {M : Nat → Prop} {w0 : World} (m : Mo) (a : Act) (l : List (Nat × Nat)) (vs vl : List Nat) (q : Nat × Nat) (h1 : q.1 < 64) (h2 : q.2 < vl.length) (hv : ∀ s, s ∈ vl → s < 2 ^ 64) (base : Nat) (K : DV → DH → Prop) (hK : K (.pv (.bool ((vl.getD q.2 0).testBit q.1))) ⟨8, 0, base, objsOf (HV m a l vs vl)⟩) :
    DC Tryz.prog M w0 32 [.agg (pairD q), .ref 7 0] ⟨8, 0, base, objsOf (HV m a l vs vl)⟩ K := by
  refine DC.weaken (DC.intro mixed (fn := Tryz.f32) rfl rfl rfl ?_)
  obtain ⟨x, hx, hw⟩ : ∃ x, vl[q.2]? = some x ∧ vl.getD q.2 0 = x := ⟨_, getD_mem h2, rfl⟩
  have hx64 := hv x (List.mem_iff_getElem?.2 ⟨_, hx⟩)
  rw [hw, ← bit_one hx64 h1] at hK
  (try conv=>whnf);repeat' (first|(apply And.intro<;>try conv=>whnf)|(apply infoT;rfl)|(refine lin_plan (by kernel_rfl) ?_;try conv=>whnf)|(refine ⟨_, _, rfl, idx_map (by with_reducible assumption), rfl, ?_⟩;try conv=>whnf)|fail)
  · exact Int.natCast_nonneg _
  · exact ⟨_, 8, HV m a l vs vl, (by refine Wk.of ?_ ?_ rfl rfl rfl<;>repeat' (first|exact trivial|exact WkD.same _|exact WkO.same _ _ rfl|refine ⟨?_, ?_⟩|fail)), hK⟩
/-- The heap while the relation of an agent is reckoned, of a pair. -/
def HW (m : Mo) (a : Act) (l : List (Nat × Nat)) (vs : List Nat) (rs : List (List Nat)) (i : Nat) (r : List Nat) (mx : List PV) (x : Nat × Nat) : List (Nat × DObj) :=
  [(0, .var (cellsM m)), (1, .var (cellsA a)), (2, .var cells0), (3, .var [.pv (.sl (l.map pairPV))]), (4, .var [.pv (i64 (l.map pairPV).length), .pv (rowPV vs), .buf 5 (rs.map rowPV).length]), (5, .arr 1 (rs.map rowPV)), (6, .var [.pv (i64 i)]), (7, .var [.pv (rowPV r)]), (8, .arr 1 mx), (9, .var (pairD x))]
theorem upd3 {M : Nat → Prop} {w0 : World} (m : Mo) (a : Act) (l : List (Nat × Nat)) (vs : List Nat) (rs : List (List Nat)) (i : Nat) (r : List Nat) (mx : List PV) (x q : Nat × Nat) (ra : List Nat) (hra : a.rel[i]? = some ra)
    (hx1 : x.1 < r.length) (hx2 : x.2 < ra.length) (hq1 : q.1 < 64) (hq2 : q.2 < 64) (hr : ∀ s, s ∈ r → s < 2 ^ 64) (hr2 : ∀ s, s ∈ ra → s < 2 ^ 64) (base : Nat) (K : DV → DH → Prop) (hK : K (.pv (.bool (seesP r ra x q))) ⟨10, 0, base, objsOf (HW m a l vs rs i r mx x)⟩) :
    DC Tryz.prog M w0 33 [.agg (pairD q), .ref 7 0, .ref 9 0, .ref 1 0, .ref 6 0] ⟨10, 0, base, objsOf (HW m a l vs rs i r mx x)⟩ K := by
  refine DC.weaken (DC.intro mixed (fn := Tryz.f33) rfl rfl rfl ?_)
  obtain ⟨u, hu, hw⟩ : ∃ u, r[x.1]? = some u ∧ r.getD x.1 0 = u := ⟨_, getD_mem hx1, rfl⟩
  obtain ⟨v, hv, hw2⟩ : ∃ v, ra[x.2]? = some v ∧ ra.getD x.2 0 = v := ⟨_, getD_mem hx2, rfl⟩
  have hu64 := hr u (List.mem_iff_getElem?.2 ⟨_, hu⟩)
  have hv64 := hr2 v (List.mem_iff_getElem?.2 ⟨_, hv⟩)
  rw [seesP, hw, hw2, ← bit_one hu64 hq1, ← bit_one hv64 hq2] at hK
  (try conv=>whnf);repeat' (first|(apply And.intro<;>try conv=>whnf)|(intro h;try conv=>whnf)|apply True.intro|(apply infoT;rfl)|(apply WhenQ.mk;(try conv=>whnf);rotate_left;(try conv=>whnf);rotate_right)|with_reducible assumption|(refine lin_plan (by kernel_rfl) ?_;try conv=>whnf)|(refine ⟨_, _, rfl, idx_map (by with_reducible assumption), rfl, ?_⟩;try conv=>whnf)|fail)
  · exact Int.natCast_nonneg _
  · exact Int.natCast_nonneg _
  · exact ⟨_, 10, HW m a l vs rs i r mx x, (by refine Wk.of ?_ ?_ rfl rfl rfl<;>repeat' (first|exact trivial|exact WkD.same _|exact WkO.same _ _ rfl|refine ⟨?_, ?_⟩|fail)), hK⟩
theorem whr_V {M : Nat → Prop} {w0 : World} (m : Mo) (a : Act) (l : List (Nat × Nat)) (vs vl : List Nat) (hlp : ∀ y, y ∈ l → y.1 < 64 ∧ y.2 < vl.length) (hv : ∀ s, s ∈ vl → s < 2 ^ 64) (hl : l.length ≤ 64) (base : Nat) (K : DV → DH → Prop) (hK : K (.pv (u64 (maskOf (fun k => (fun q : Nat × Nat => (vl.getD q.2 0).testBit q.1) (l.getD k (0, 0))) l.length))) ⟨8, 0, base, objsOf (HV m a l vs vl)⟩) :
    DC Tryz.prog M w0 30 [.clo 32 [] [.ref 7 0], .ref 3 0] ⟨8, 0, base, objsOf (HV m a l vs vl)⟩ K := by
  refine DC.weaken (DC.intro mixed (fn := Tryz.f30) rfl rfl rfl ?_)
  try conv=>whnf
  refine ⟨{ i : Nat // i ≤ l.length }, fun i => [(0, .clo 32 [] [.ref 7 0]), (4, .pv (u64 (maskOf (fun k => (fun q : Nat × Nat => (vl.getD q.2 0).testBit q.1) (l.getD k (0, 0))) i.1))), (7, .pv (.sl (l.map pairPV))), (8, .pv (i64 (l.map pairPV).length)), (9, .pv (i64 i.1))], fun _ => 8, fun _ => HV m a l vs vl, fun i => l.length - i.1, ⟨⟨0, Nat.zero_le _⟩, (by refine Wk.of ?_ ?_ rfl rfl rfl<;>repeat' (first|exact trivial|exact WkD.same _|exact WkO.same _ _ rfl|refine ⟨?_, ?_⟩|fail))⟩, ?_⟩
  rintro ⟨j, hj⟩
  (try conv=>whnf);repeat' (first|(apply And.intro<;>try conv=>whnf)|(intro h;try conv=>whnf)|(apply infoT;rfl)|fail)
  · have hj' : j < l.length := by simpa using lt_dec h
    obtain ⟨y, hy, hyw⟩ : ∃ y, l[j]? = some y ∧ l.getD j (0, 0) = y := ⟨_, getD_mem hj', rfl⟩
    have hym : y ∈ l := List.mem_iff_getElem?.2 ⟨j, hy⟩
    refine ⟨_, _, rfl, idx_map hy, rfl, ?_⟩
    try conv=>whnf
    refine DC.call 8 (HV m a l vs vl) ⟨rfl, rfl, rfl, rfl, rfl, rfl, rfl, rfl, trivial⟩ rfl rfl rfl rfl fun M' => ?_
    refine upd2 m a l vs vl y (hlp y hym).1 (hlp y hym).2 hv _ _ ?_
    refine ⟨rfl, ?_⟩
    (try conv=>whnf);repeat' (first|(apply And.intro<;>try conv=>whnf)|(intro h;try conv=>whnf)|fail)
    · exact Int.natCast_nonneg _
    · have hq : (fun q : Nat × Nat => (vl.getD q.2 0).testBit q.1) (l.getD j (0, 0)) = true := by rw [hyw]; exact h
      refine ⟨⟨j + 1, hj'⟩, by show l.length - (j + 1) < l.length - j; omega, ?_⟩
      (refine Wk.of ?_ ?_ rfl rfl rfl<;>repeat' (first|exact trivial|exact WkD.same _|exact WkO.same _ _ rfl|refine WkD.int ?_|refine ⟨?_, ?_⟩|(refine wrapA ?_ ?_ ?_;(focus simp;done);(focus (try dsimp only);omega);(focus (try dsimp only);omega))|fail))
      exact or_shl (q := fun k => (fun q : Nat × Nat => (vl.getD q.2 0).testBit q.1) (l.getD k (0, 0))) (w := j) (by omega) hq
    · have hq : (fun q : Nat × Nat => (vl.getD q.2 0).testBit q.1) (l.getD j (0, 0)) = false := by rw [hyw]; exact h
      refine ⟨⟨j + 1, hj'⟩, by show l.length - (j + 1) < l.length - j; omega, ?_⟩
      (refine Wk.of ?_ ?_ rfl rfl rfl<;>repeat' (first|exact trivial|exact WkD.same _|exact WkO.same _ _ rfl|refine WkD.int ?_|refine ⟨?_, ?_⟩|(refine wrapA ?_ ?_ ?_;(focus simp;done);(focus (try dsimp only);omega);(focus (try dsimp only);omega))|fail))
      exact congrArg (fun z : Nat => (z : Int)) (mask_no (q := fun k => (fun q : Nat × Nat => (vl.getD q.2 0).testBit q.1) (l.getD k (0, 0))) hq)
  · have hj' : j = l.length := by have := ge_dec (m := (l.map pairPV).length) h (by simpa using hj); simpa using this
    subst hj'
    exact ⟨_, 8, HV m a l vs vl, (by refine Wk.of ?_ ?_ rfl rfl rfl<;>repeat' (first|exact trivial|exact WkD.same _|exact WkO.same _ _ rfl|refine ⟨?_, ?_⟩|fail)), hK⟩
theorem whr_W {M : Nat → Prop} {w0 : World} (m : Mo) (a : Act) (l : List (Nat × Nat)) (vs : List Nat) (rs : List (List Nat)) (i : Nat) (r : List Nat) (mx : List PV) (x : Nat × Nat) (ra : List Nat) (hra : a.rel[i]? = some ra) (hx1 : x.1 < r.length) (hx2 : x.2 < ra.length) (hlp : ∀ y, y ∈ l → y.1 < 64 ∧ y.2 < 64) (hr : ∀ s, s ∈ r → s < 2 ^ 64) (hr2 : ∀ s, s ∈ ra → s < 2 ^ 64) (hl : l.length ≤ 64) (base : Nat) (K : DV → DH → Prop) (hK : K (.pv (u64 (maskOf (fun k => (fun q : Nat × Nat => seesP r ra x q) (l.getD k (0, 0))) l.length))) ⟨10, 0, base, objsOf (HW m a l vs rs i r mx x)⟩) :
    DC Tryz.prog M w0 30 [.clo 33 [] [.ref 7 0, .ref 9 0, .ref 1 0, .ref 6 0], .ref 3 0] ⟨10, 0, base, objsOf (HW m a l vs rs i r mx x)⟩ K := by
  refine DC.weaken (DC.intro mixed (fn := Tryz.f30) rfl rfl rfl ?_)
  try conv=>whnf
  refine ⟨{ i : Nat // i ≤ l.length }, fun i => [(0, .clo 33 [] [.ref 7 0, .ref 9 0, .ref 1 0, .ref 6 0]), (4, .pv (u64 (maskOf (fun k => (fun q : Nat × Nat => seesP r ra x q) (l.getD k (0, 0))) i.1))), (7, .pv (.sl (l.map pairPV))), (8, .pv (i64 (l.map pairPV).length)), (9, .pv (i64 i.1))], fun _ => 10, fun _ => HW m a l vs rs i r mx x, fun i => l.length - i.1, ⟨⟨0, Nat.zero_le _⟩, (by refine Wk.of ?_ ?_ rfl rfl rfl<;>repeat' (first|exact trivial|exact WkD.same _|exact WkO.same _ _ rfl|refine ⟨?_, ?_⟩|fail))⟩, ?_⟩
  rintro ⟨j, hj⟩
  (try conv=>whnf);repeat' (first|(apply And.intro<;>try conv=>whnf)|(intro h;try conv=>whnf)|(apply infoT;rfl)|fail)
  · have hj' : j < l.length := by simpa using lt_dec h
    obtain ⟨y, hy, hyw⟩ : ∃ y, l[j]? = some y ∧ l.getD j (0, 0) = y := ⟨_, getD_mem hj', rfl⟩
    have hym : y ∈ l := List.mem_iff_getElem?.2 ⟨j, hy⟩
    refine ⟨_, _, rfl, idx_map hy, rfl, ?_⟩
    try conv=>whnf
    refine DC.call 10 (HW m a l vs rs i r mx x) ⟨rfl, rfl, rfl, rfl, rfl, rfl, rfl, rfl, rfl, rfl, trivial⟩ rfl rfl rfl rfl fun M' => ?_
    refine upd3 m a l vs rs i r mx x y ra hra hx1 hx2 (hlp y hym).1 (hlp y hym).2 hr hr2 _ _ ?_
    refine ⟨rfl, ?_⟩
    (try conv=>whnf);repeat' (first|(apply And.intro<;>try conv=>whnf)|(intro h;try conv=>whnf)|fail)
    · exact Int.natCast_nonneg _
    · have hq : (fun q : Nat × Nat => seesP r ra x q) (l.getD j (0, 0)) = true := by rw [hyw]; exact h
      refine ⟨⟨j + 1, hj'⟩, by show l.length - (j + 1) < l.length - j; omega, ?_⟩
      (refine Wk.of ?_ ?_ rfl rfl rfl<;>repeat' (first|exact trivial|exact WkD.same _|exact WkO.same _ _ rfl|refine WkD.int ?_|refine ⟨?_, ?_⟩|(refine wrapA ?_ ?_ ?_;(focus simp;done);(focus (try dsimp only);omega);(focus (try dsimp only);omega))|fail))
      exact or_shl (q := fun k => (fun q : Nat × Nat => seesP r ra x q) (l.getD k (0, 0))) (w := j) (by omega) hq
    · have hq : (fun q : Nat × Nat => seesP r ra x q) (l.getD j (0, 0)) = false := by rw [hyw]; exact h
      refine ⟨⟨j + 1, hj'⟩, by show l.length - (j + 1) < l.length - j; omega, ?_⟩
      (refine Wk.of ?_ ?_ rfl rfl rfl<;>repeat' (first|exact trivial|exact WkD.same _|exact WkO.same _ _ rfl|refine WkD.int ?_|refine ⟨?_, ?_⟩|(refine wrapA ?_ ?_ ?_;(focus simp;done);(focus (try dsimp only);omega);(focus (try dsimp only);omega))|fail))
      exact congrArg (fun z : Nat => (z : Int)) (mask_no (q := fun k => (fun q : Nat × Nat => seesP r ra x q) (l.getD k (0, 0))) hq)
  · have hj' : j = l.length := by have := ge_dec (m := (l.map pairPV).length) h (by simpa using hj); simpa using this
    subst hj'
    exact ⟨_, 10, HW m a l vs rs i r mx x, (by refine Wk.of ?_ ?_ rfl rfl rfl<;>repeat' (first|exact trivial|exact WkD.same _|exact WkO.same _ _ rfl|refine ⟨?_, ?_⟩|fail)), hK⟩
end Go.Proofs.YtnbnkgcjgfmlcaaGreat
set_option maxRecDepth 100000
set_option maxHeartbeats 4000000
namespace Go.Proofs.YtnbnkgcjgfmlcaaGreat
open Go Go.Dv

def vsU (m : Mo) (a : Act) (l : List (Nat × Nat)) (i : Nat) : List Nat := (List.range i).map (valP m a l)
def rsU (m : Mo) (a : Act) (l : List (Nat × Nat)) (i : Nat) : List (List Nat) := (List.range i).map (relP m a l)
theorem vsU_succ (m : Mo) (a : Act) (l : List (Nat × Nat)) (i : Nat) : vsU m a l (i + 1) = vsU m a l i ++ [valP m a l i] := by rw [vsU, List.range_succ, List.map_append]; rfl
theorem rsU_succ (m : Mo) (a : Act) (l : List (Nat × Nat)) (i : Nat) : rsU m a l (i + 1) = rsU m a l i ++ [relP m a l i] := by rw [rsU, List.range_succ, List.map_append]; rfl
def vlU (m : Mo) (a : Act) (i : Nat) : List Nat := (List.range a.pre.length).map fun e => valuP m a e i
theorem vlU_get {m : Mo} {a : Act} {i e : Nat} (h : e < a.pre.length) : (vlU m a i).getD e 0 = valuP m a e i := by
  rw [vlU, List.getD_eq_getElem?_getD, List.getElem?_map, List.getElem?_range h]; rfl
def updPlan : Plan := .one 2 (.one 3 (.two 0 (.two 1 (.one 4 (.one 5 (.one 6 (.one 7 (.one 8 .done))))) 4 (.one 1 (.one 5 (.one 6 (.one 7 (.one 8 .done)))))) 4 (.one 0 (.one 1 (.one 5 (.one 6 (.one 7 (.one 8 .done))))))))
theorem pr_Update (m : Mo) (a : Act) (hf : FitM m) (hfa : Fit a) (hl : a.rel.length ≤ 1000) (hp : ∀ l, l ∈ a.post → l.length ≤ 1000) : PureFn Tryz.prog 10 [m.pv, a.pv] (updPV (updI m a)) := by
  refine PureFn.introC [4, 6, 20, 22, 31, 33] mixed (fn := Tryz.f10) rfl rfl rfl fun M w0 => ?_
  have hW := pr_Worlds m a hf hfa hl hp
  obtain ⟨l, e, hX⟩ : ∃ l e, worldsI m a = (l, e) := ⟨_, _, rfl⟩
  have hwo := worldsI_ok (m := m) (a := a)
  rw [updI]
  rw [hX] at hW hwo ⊢
  clear hX
  have e9 : ((l.map pairPV).length : Int) = (l.length : Int) := by simp
  (try conv=>whnf);repeat' (first|(refine PureFn.dcq (f := 8) rfl ?_;try conv=>whnf)|(refine ⟨_, _, hW, ?_, ?_⟩;(focus first|(refine ⟨?_, ?_, trivial⟩<;>first|exact PLe.refl _|exact PLe.nil)|exact trivial);try conv=>whnf)|fail)
  refine ⟨{ _x : Unit // (e != 0) = false }, fun _ => [(2, .ref 0 0), (3, .ref 1 0), (4, .ref 2 0), (7, .ref 3 0)], fun _ => 4, fun _ => [(0, .var (cellsM m)), (1, .var (cellsA a)), (2, .var cells0), (3, .var [.pv (.sl (l.map pairPV))])], ?_, ?_⟩
  · (try conv=>whnf);repeat' (first|(apply And.intro<;>try conv=>whnf)|(intro h;try conv=>whnf)|fail)
    · rw [show (((l, e) : List (Nat × Nat) × Int).2 != 0) = true from h]; exact le_upd _
    · exact ⟨⟨(), h⟩, (by refine Wk.of ?_ ?_ rfl rfl rfl<;>repeat' (first|exact trivial|exact WkD.same _|exact WkO.same _ _ rfl|refine ⟨?_, ?_⟩|fail))⟩
  rintro ⟨_, h1⟩
  obtain ⟨hma, hpl, hl1⟩ := hwo (show e = 0 by simpa using h1)
  obtain ⟨⟨n, hM⟩, hAc⟩ := moaI_ok hma
  have hO := actI_ok hAc
  have hn8 := hO.n8
  have hn64 := hM.n64
  have hfa8 := hM.fa
  have hag := hM.ag
  have hpl : l = pairsL m a := hpl
  have hmem : ∀ y, y ∈ l → y.1 < n ∧ y.2 < a.pre.length := fun y hy => by
    rw [hpl, pairsL, hM.nn] at hy
    have := pairsW_mem.1 hy
    exact ⟨this.1, this.2.1⟩
  clear hpl hl1
  refine ⟨{ _x : Unit // decide ((l.length : Int) > 64) = false }, fun _ => [(2, .ref 0 0), (3, .ref 1 0), (4, .ref 2 0), (7, .ref 3 0)], fun _ => 4, fun _ => [(0, .var (cellsM m)), (1, .var (cellsA a)), (2, .var cells0), (3, .var [.pv (.sl (l.map pairPV))])], ?_, ?_⟩
  · (try conv=>whnf);repeat' (first|(apply And.intro<;>try conv=>whnf)|(intro h;try conv=>whnf)|fail)
    · have h9 : decide ((l.length : Int) > 64) = true := by rw [← e9]; exact h
      rw [show (((l, e) : List (Nat × Nat) × Int).2 != 0) = false from h1, show decide ((((l, e) : List (Nat × Nat) × Int).1.length : Int) > 64) = true from h9]
      exact le_upd _
    · exact ⟨⟨(), by rw [← e9]; exact h⟩, (by refine Wk.of ?_ ?_ rfl rfl rfl<;>repeat' (first|exact trivial|exact WkD.same _|exact WkO.same _ _ rfl|refine ⟨?_, ?_⟩|fail))⟩
  rintro ⟨_, h2⟩
  have hl64 : l.length ≤ 64 := by have := of_decide_eq_false h2; omega
  have hres : (bif (((l, e) : List (Nat × Nat) × Int).2 != 0) then (noMo, ([] : List (Nat × Nat)), ((l, e) : List (Nat × Nat) × Int).2) else bif decide ((((l, e) : List (Nat × Nat) × Int).1.length : Int) > 64) then (noMo, [], 8) else (prodM m a ((l, e) : List (Nat × Nat) × Int).1, ((l, e) : List (Nat × Nat) × Int).1, (0 : Int))) = (prodM m a l, l, 0) := by
    rw [show (((l, e) : List (Nat × Nat) × Int).2 != 0) = false from h1, show decide ((((l, e) : List (Nat × Nat) × Int).1.length : Int) > 64) = false from h2]; rfl
  rw [hres]
  clear hres
  try conv=>whnf
  refine ⟨Unit, fun _ => [(2, .ref 0 0), (3, .ref 1 0), (4, .ref 2 0), (7, .ref 3 0), (9, .clo 30 [] [.ref 3 0]), (10, .ref 4 0)], fun _ => 5, fun _ => [(0, .var (cellsM m)), (1, .var (cellsA a)), (2, .var cells0), (3, .var [.pv (.sl (l.map pairPV))]), (4, .var [.pv (i64 (l.map pairPV).length), .pv (rowPV (vsU m a l m.val.length)), .pv .nil])], ?_, ?_⟩
  · try conv=>whnf
    refine ⟨{ i : Nat // i ≤ m.val.length }, fun i => [(2, .ref 0 0), (3, .ref 1 0), (4, .ref 2 0), (7, .ref 3 0), (9, .clo 30 [] [.ref 3 0]), (10, .ref 4 0), (41, .pv (i64 (m.val.map u64).length)), (42, .pv (i64 i.1))], fun _ => 6, fun i => [(0, .var (cellsM m)), (1, .var (cellsA a)), (2, .var cells0), (3, .var [.pv (.sl (l.map pairPV))]), (4, .var [.pv (i64 (l.map pairPV).length), .buf 5 ((vsU m a l i.1).map u64).length, .pv .nil]), (5, .arr 1 ((vsU m a l i.1).map u64))], fun i => m.val.length - i.1, ⟨⟨0, Nat.zero_le _⟩, (by refine Wk.of ?_ ?_ rfl rfl rfl<;>repeat' (first|exact trivial|exact WkD.same _|exact WkO.same _ _ rfl|exact WkD.new' rfl rfl rfl|exact WkO.new _ _ rfl|refine WkO.vars rfl ?_|exact rfl|refine ⟨?_, ?_⟩|fail))⟩, ?_⟩
    rintro ⟨i, hi⟩
    (try conv=>whnf);repeat' (first|(apply And.intro<;>try conv=>whnf)|(intro h;try conv=>whnf)|fail)
    · rfl
    · exact Int.natCast_nonneg _
    · show ((a.pre.map fpv).length : Int) ≤ 4294967296
      rw [List.length_map]; omega
    · have hi' : i < m.val.length := by simpa using lt_dec h
      have hN : ((a.pre.map fpv).length : Int).toNat = a.pre.length := by rw [List.length_map]; rfl
      have hz1 : List.replicate ((a.pre.map fpv).length : Int).toNat (PV.int .u64 0) = (mixV a.pre.length (fun e => u64 (valuP m a e i)) (fun _ => u64 0) 0) := by rw [hN]; exact mixV_rep _ _ _
      have hmlv := mixV_len a.pre.length (fun e => u64 (valuP m a e i)) (fun _ => u64 0)
      refine ⟨Unit, fun _ => [(2, .ref 0 0), (3, .ref 1 0), (4, .ref 2 0), (7, .ref 3 0), (9, .clo 30 [] [.ref 3 0]), (10, .ref 4 0), (12, .ref 7 0), (41, .pv (i64 (m.val.map u64).length)), (42, .pv (i64 i))], fun _ => 8, fun _ => [(0, .var (cellsM m)), (1, .var (cellsA a)), (2, .var cells0), (3, .var [.pv (.sl (l.map pairPV))]), (4, .var [.pv (i64 (l.map pairPV).length), .buf 5 ((vsU m a l i).map u64).length, .pv .nil]), (5, .arr 1 ((vsU m a l i).map u64)), (7, .var [.pv (.sl (mixV a.pre.length (fun e => u64 (valuP m a e i)) (fun _ => u64 0) a.pre.length))])], ?_, ?_⟩
      · try conv=>whnf
        refine ⟨{ k : Nat // k ≤ a.pre.length }, fun k => [(2, .ref 0 0), (3, .ref 1 0), (4, .ref 2 0), (7, .ref 3 0), (9, .clo 30 [] [.ref 3 0]), (10, .ref 4 0), (11, .pv (i64 i)), (12, .ref 7 0), (41, .pv (i64 (m.val.map u64).length)), (42, .pv (i64 i)), (50, .pv (i64 a.pre.length)), (51, .pv (i64 k.1))], fun _ => 8, fun k => [(0, .var (cellsM m)), (1, .var (cellsA a)), (2, .var cells0), (3, .var [.pv (.sl (l.map pairPV))]), (4, .var [.pv (i64 (l.map pairPV).length), .buf 5 ((vsU m a l i).map u64).length, .pv .nil]), (5, .arr 1 ((vsU m a l i).map u64)), (6, .arr 1 (mixV a.pre.length (fun e => u64 (valuP m a e i)) (fun _ => u64 0) k.1)), (7, .var [.buf 6 (mixV a.pre.length (fun e => u64 (valuP m a e i)) (fun _ => u64 0) k.1).length])], fun k => a.pre.length - k.1, ⟨⟨0, Nat.zero_le _⟩, ?_⟩, ?_⟩
        · (refine Wk.of ?_ ?_ rfl rfl rfl<;>repeat' (first|exact trivial|exact WkD.same _|exact WkO.same _ _ rfl|refine WkD.int ?_|refine WkO.vars rfl ?_|refine ⟨?_, ?_⟩|fail))
          · exact congrArg (fun z : Nat => (z : Int)) ((List.length_replicate ..).trans hN)
          · exact WkO.same _ _ (congrArg (fun z => some (DObj.arr 1 z)) hz1)
          · exact WkD.eq (congrArg (fun z : List PV => DV.buf 6 z.length) hz1)
        rintro ⟨k, hk⟩
        have hmk := hmlv k
        have hmk1 := hmlv (k + 1)
        have hst := mixV_set (n := a.pre.length) (p := fun e => u64 (valuP m a e i)) (q := fun _ => u64 0) (e := k)
        (try conv=>whnf);repeat' (first|(apply And.intro<;>try conv=>whnf)|(intro h;try conv=>whnf)|fail)
        · have hk' : k < a.pre.length := lt_dec h
          have hV := ac_Value a k i hfa hl hp
          have hv0 := valI_ok hma hk' hi'
          obtain ⟨g, hg⟩ : ∃ g, valI a k i = (g, 0) := ⟨(valI a k i).1, Prod.ext rfl hv0⟩
          rw [hg] at hV
          have hH := ck_Holds m g hf
          have hvp : (holdsI m g).1 = valuP m a k i := by rw [valuP, hg]
          obtain ⟨z, hz⟩ : ∃ z, holdsI m g = (valuP m a k i, z) := ⟨(holdsI m g).2, Prod.ext hvp rfl⟩
          rw [hz] at hH
          (try conv=>whnf);repeat' (first|(apply And.intro<;>try conv=>whnf)|(intro h;try conv=>whnf)|(refine PureFn.dcq (f := 31) rfl ?_;try conv=>whnf)|(refine ⟨_, _, hV, ?_, ?_⟩;(focus first|(refine ⟨?_, ?_, ?_, trivial⟩<;>first|exact PLe.refl _|exact PLe.nil)|exact trivial);try conv=>whnf)|fail)
          · cases h
          refine ⟨Plan.lin 0 10, [9], by kernel_rfl, ?_⟩
          (try conv=>whnf);repeat' (first|(apply And.intro<;>try conv=>whnf)|(refine ⟨_, (by (conv=>whnf);exact hH), rfl, ?_⟩;try conv=>whnf)|fail)
          refine ⟨k, rfl, by rw [hmk]; exact hk', ?_⟩
          (try conv=>whnf);repeat' (first|(apply And.intro<;>try conv=>whnf)|fail)
          refine ⟨_, mixV_old hk', Nat.le_refl 1, ?_⟩
          try conv=>whnf
          refine ⟨⟨k + 1, hk'⟩, by show a.pre.length - (k + 1) < a.pre.length - k; omega, ?_⟩
          (refine Wk.of ?_ ?_ rfl rfl rfl<;>repeat' (first|exact trivial|exact WkD.same _|exact WkO.same _ _ rfl|refine WkD.int ?_|refine WkO.vars rfl ?_|refine ⟨?_, ?_⟩|(refine wrapA ?_ ?_ ?_;(focus simp;done);(focus (try dsimp only);omega);(focus (try dsimp only);omega))|fail))
          · exact WkO.same _ _ (congrArg (fun z => some (DObj.arr 1 z)) hst)
          · exact WkD.eq (congrArg (DV.buf 6) (hmk.trans hmk1.symm))
        · have hk' : k = a.pre.length := ge_dec h hk
          subst hk'
          exact ⟨(), (by refine Wk.of ?_ ?_ rfl rfl rfl<;>repeat' (first|exact trivial|exact WkD.same _|exact WkO.same _ _ rfl|exact WkD.fz _ _ _ rfl (Or.inl ⟨_, rfl⟩) rfl|refine WkO.vars rfl ?_|refine ⟨?_, ?_⟩|fail))⟩
      rintro ⟨⟩
      have hvl : (mixV a.pre.length (fun e => u64 (valuP m a e i)) (fun _ => u64 0) a.pre.length) = (vlU m a i).map u64 := by rw [mixV_full, vlU, List.map_map]; rfl
      have hlv : (vlU m a i).length = a.pre.length := by simp [vlU]
      have hv64 : ∀ s, s ∈ vlU m a i → s < 2 ^ 64 := fun s hs => by
        obtain ⟨e, _, rfl⟩ := List.mem_map.1 hs
        exact Nat.lt_of_lt_of_le (holds_lt n hM) (pow64_le hn64)
      have hmk : maskOf (fun k => ((vlU m a i).getD (l.getD k (0, 0)).2 0).testBit (l.getD k (0, 0)).1) l.length = valP m a l i := maskOf_congr fun k hk => by
        rw [vlU_get (hmem _ (List.mem_iff_getElem?.2 ⟨k, getD_mem hk⟩)).2]
      have hvs := vsU_succ m a l i
      have hvsl : ((vsU m a l i).map u64).length ≤ 1000 := by simp [vsU]; omega
      rw [hvl]
      try conv=>whnf
      have er : (vsU m a l i).map u64 ++ [PV.int .u64 ((valP m a l i : Nat) : Int)] = (vsU m a l (i + 1)).map u64 := by rw [hvs, List.map_append]; rfl
      have hlpV : ∀ y, y ∈ l → y.1 < 64 ∧ y.2 < (vlU m a i).length := fun y hy => ⟨by have := (hmem y hy).1; omega, by rw [hlv]; exact (hmem y hy).2⟩
      refine ⟨updPlan, [4, 6, 8], by kernel_rfl, ?_⟩
      (try conv=>whnf);repeat' (first|(apply And.intro<;>try conv=>whnf)|fail)
      all_goals (refine whr_V m a l (vsU m a l i) (vlU m a i) hlpV hv64 hl64 _ _ ?_)
      all_goals (rw [hmk])
      all_goals ((try conv=>whnf);repeat' (first|(apply And.intro<;>try conv=>whnf)|(apply cellsI;rfl)|(apply szI;rfl)|fail))
      · exact app_big (n := 1000) hvsl (by decide)
      · refine ⟨⟨i + 1, hi'⟩, by show m.val.length - (i + 1) < m.val.length - i; omega, ?_⟩
        (refine Wk.of ?_ ?_ rfl rfl rfl<;>repeat' (first|exact trivial|exact WkD.same _|exact WkO.same _ _ rfl|exact WkD.eq (congrArg (fun z : List PV => DV.buf _ z.length) er)|exact WkO.same _ _ (congrArg (fun z => some (DObj.arr _ z)) er)|refine WkD.int ?_|refine WkO.vars rfl ?_|refine ⟨?_, ?_⟩|(refine wrapA ?_ ?_ ?_;(focus simp;done);(focus (try dsimp only);omega);(focus (try dsimp only);omega))|fail))
      · exact app_big (n := 1000) hvsl (by decide)
      · refine ⟨⟨i + 1, hi'⟩, by show m.val.length - (i + 1) < m.val.length - i; omega, ?_⟩
        (refine Wk.of ?_ ?_ rfl rfl rfl<;>repeat' (first|exact trivial|exact WkD.same _|exact WkO.same _ _ rfl|exact WkD.eq (congrArg (fun z : List PV => DV.buf _ z.length) er)|exact WkO.same _ _ (congrArg (fun z => some (DObj.arr _ z)) er)|refine WkD.int ?_|refine WkO.vars rfl ?_|refine ⟨?_, ?_⟩|(refine wrapA ?_ ?_ ?_;(focus simp;done);(focus (try dsimp only);omega);(focus (try dsimp only);omega))|fail))
      · exact app_big (n := 1000) hvsl (by decide)
      · refine ⟨⟨i + 1, hi'⟩, by show m.val.length - (i + 1) < m.val.length - i; omega, ?_⟩
        (refine Wk.of ?_ ?_ rfl rfl rfl<;>repeat' (first|exact trivial|exact WkD.same _|exact WkO.same _ _ rfl|exact WkD.eq (congrArg (fun z : List PV => DV.buf _ z.length) er)|exact WkO.same _ _ (congrArg (fun z => some (DObj.arr _ z)) er)|refine WkD.int ?_|refine WkO.vars rfl ?_|refine ⟨?_, ?_⟩|(refine wrapA ?_ ?_ ?_;(focus simp;done);(focus (try dsimp only);omega);(focus (try dsimp only);omega))|fail))
    · have hi' : i = m.val.length := by have := ge_dec (m := (m.val.map u64).length) h (by simpa using hi); simpa using this
      subst hi'
      exact ⟨(), (by refine Wk.of ?_ ?_ rfl rfl rfl<;>repeat' (first|exact trivial|exact WkD.same _|exact WkO.same _ _ rfl|exact WkD.fz _ _ _ rfl (Or.inl ⟨_, rfl⟩) rfl|refine WkO.vars rfl ?_|refine ⟨?_, ?_⟩|fail))⟩
  rintro ⟨⟩
  generalize hVS : (vsU m a l m.val.length) = vs
  refine ⟨Unit, fun _ => [(4, .ref 2 0), (7, .ref 3 0), (10, .ref 4 0)], fun _ => 5, fun _ => [(2, .var cells0), (3, .var [.pv (.sl (l.map pairPV))]), (4, .var [.pv (i64 (l.map pairPV).length), .pv (rowPV vs), .pv (.sl ((rsU m a l m.rel.length).map rowPV))])], ?_, ?_⟩
  · try conv=>whnf
    refine ⟨{ i : Nat // i ≤ m.rel.length }, fun i => [(2, .ref 0 0), (3, .ref 1 0), (4, .ref 2 0), (7, .ref 3 0), (9, .clo 30 [] [.ref 3 0]), (10, .ref 4 0), (85, .pv (.sl (m.rel.map rowPV))), (86, .pv (i64 (m.rel.map rowPV).length)), (87, .pv (i64 i.1))], fun _ => 6, fun i => [(0, .var (cellsM m)), (1, .var (cellsA a)), (2, .var cells0), (3, .var [.pv (.sl (l.map pairPV))]), (4, .var [.pv (i64 (l.map pairPV).length), .pv (rowPV vs), .buf 5 ((rsU m a l i.1).map rowPV).length]), (5, .arr 1 ((rsU m a l i.1).map rowPV))], fun i => m.rel.length - i.1, ⟨⟨0, Nat.zero_le _⟩, (by refine Wk.of ?_ ?_ rfl rfl rfl<;>repeat' (first|exact trivial|exact WkD.same _|exact WkO.same _ _ rfl|exact WkD.new' rfl rfl rfl|exact WkO.new _ _ rfl|refine WkO.vars rfl ?_|exact rfl|refine ⟨?_, ?_⟩|fail))⟩, ?_⟩
    rintro ⟨i, hi⟩
    (try conv=>whnf);repeat' (first|(apply And.intro<;>try conv=>whnf)|(intro h;try conv=>whnf)|(apply infoT;rfl)|fail)
    · have hi' : i < m.rel.length := by simpa using lt_dec h
      obtain ⟨r, hr, hrw⟩ : ∃ r, m.rel[i]? = some r ∧ m.rel.getD i [] = r := ⟨_, getD_mem hi', rfl⟩
      have hrm : r ∈ m.rel := List.mem_iff_getElem?.2 ⟨i, hr⟩
      have hrl := hM.rows r hrm
      have hrb := hf.2 r hrm
      obtain ⟨ra, hra, hraw⟩ : ∃ r, a.rel[i]? = some r ∧ a.rel.getD i [] = r := ⟨_, getD_mem (by have := hO.ags; omega), rfl⟩
      have hram : ra ∈ a.rel := List.mem_iff_getElem?.2 ⟨i, hra⟩
      have hral := hO.rows ra hram
      have hrab := hfa ra hram
      have hN : ((l.map pairPV).length : Int).toNat = l.length := by rw [List.length_map]; rfl
      have hz1 : List.replicate ((l.map pairPV).length : Int).toNat (PV.int .u64 0) = (mixV l.length (fun k => u64 (rowP r ra l (l.getD k (0, 0)))) (fun _ => u64 0) 0) := by rw [hN]; exact mixV_rep _ _ _
      have hmlv := mixV_len l.length (fun k => u64 (rowP r ra l (l.getD k (0, 0)))) (fun _ => u64 0)
      refine ⟨_, _, rfl, idx_map hr, rfl, ?_⟩
      (try conv=>whnf);repeat' (first|(apply And.intro<;>try conv=>whnf)|fail)
      · rfl
      · exact Int.natCast_nonneg _
      · show ((l.map pairPV).length : Int) ≤ 4294967296
        rw [List.length_map]; omega
      refine ⟨Unit, fun _ => [(2, .ref 0 0), (3, .ref 1 0), (4, .ref 2 0), (7, .ref 3 0), (9, .clo 30 [] [.ref 3 0]), (10, .ref 4 0), (18, .pv (.sl (mixV l.length (fun k => u64 (rowP r ra l (l.getD k (0, 0)))) (fun _ => u64 0) l.length))), (85, .pv (.sl (m.rel.map rowPV))), (86, .pv (i64 (m.rel.map rowPV).length)), (87, .pv (i64 i))], fun _ => 6, fun _ => [(0, .var (cellsM m)), (1, .var (cellsA a)), (2, .var cells0), (3, .var [.pv (.sl (l.map pairPV))]), (4, .var [.pv (i64 (l.map pairPV).length), .pv (rowPV vs), .buf 5 ((rsU m a l i).map rowPV).length]), (5, .arr 1 ((rsU m a l i).map rowPV))], ?_, ?_⟩
      · try conv=>whnf
        refine ⟨{ k : Nat // k ≤ l.length }, fun k => [(2, .ref 0 0), (3, .ref 1 0), (4, .ref 2 0), (7, .ref 3 0), (9, .clo 30 [] [.ref 3 0]), (10, .ref 4 0), (16, .ref 6 0), (17, .ref 7 0), (18, .buf 8 (mixV l.length (fun k => u64 (rowP r ra l (l.getD k (0, 0)))) (fun _ => u64 0) k.1).length), (85, .pv (.sl (m.rel.map rowPV))), (86, .pv (i64 (m.rel.map rowPV).length)), (87, .pv (i64 i)), (95, .pv (.sl (l.map pairPV))), (96, .pv (i64 (l.map pairPV).length)), (97, .pv (i64 k.1))], fun _ => 9, fun k => [(0, .var (cellsM m)), (1, .var (cellsA a)), (2, .var cells0), (3, .var [.pv (.sl (l.map pairPV))]), (4, .var [.pv (i64 (l.map pairPV).length), .pv (rowPV vs), .buf 5 ((rsU m a l i).map rowPV).length]), (5, .arr 1 ((rsU m a l i).map rowPV)), (6, .var [.pv (i64 i)]), (7, .var [.pv (rowPV r)]), (8, .arr 1 (mixV l.length (fun k => u64 (rowP r ra l (l.getD k (0, 0)))) (fun _ => u64 0) k.1))], fun k => l.length - k.1, ⟨⟨0, Nat.zero_le _⟩, ?_⟩, ?_⟩
        · (refine Wk.of ?_ ?_ rfl rfl rfl<;>repeat' (first|exact trivial|exact WkD.same _|exact WkO.same _ _ rfl|refine ⟨?_, ?_⟩|fail))
          · exact WkD.eq (congrArg (fun z : List PV => DV.buf 8 z.length) hz1)
          · exact WkO.same _ _ (congrArg (fun z => some (DObj.arr 1 z)) hz1)
        rintro ⟨k, hk⟩
        have hmk := hmlv k
        have hmk1 := hmlv (k + 1)
        have hst := mixV_set (n := l.length) (p := fun k => u64 (rowP r ra l (l.getD k (0, 0)))) (q := fun _ => u64 0) (e := k)
        (try conv=>whnf);repeat' (first|(apply And.intro<;>try conv=>whnf)|(intro h;try conv=>whnf)|(apply infoT;rfl)|fail)
        · have hk' : k < l.length := by simpa using lt_dec h
          obtain ⟨x, hx, hxw⟩ : ∃ y, l[k]? = some y ∧ l.getD k (0, 0) = y := ⟨_, getD_mem hk', rfl⟩
          have hxm := hmem x (List.mem_iff_getElem?.2 ⟨k, hx⟩)
          refine ⟨_, _, rfl, idx_map hx, rfl, ?_⟩
          try conv=>whnf
          refine DC.call 10 (HW m a l vs (rsU m a l i) i r (mixV l.length (fun k => u64 (rowP r ra l (l.getD k (0, 0)))) (fun _ => u64 0) k) x) ⟨rfl, rfl, rfl, rfl, rfl, rfl, rfl, rfl, rfl, rfl, trivial⟩ rfl rfl rfl rfl fun M' => ?_
          refine whr_W m a l vs (rsU m a l i) i r (mixV l.length (fun k => u64 (rowP r ra l (l.getD k (0, 0)))) (fun _ => u64 0) k) x ra hra (by omega) (by omega) (fun y hy => by have := hmem y hy; exact ⟨by omega, by omega⟩) hrb hrab hl64 _ _ ?_
          refine ⟨rfl, ?_⟩
          (try conv=>whnf);repeat' (first|(apply And.intro<;>try conv=>whnf)|fail)
          refine ⟨k, rfl, by rw [hmk]; exact hk', ?_⟩
          (try conv=>whnf);repeat' (first|(apply And.intro<;>try conv=>whnf)|fail)
          refine ⟨_, mixV_old hk', Nat.le_refl 1, ?_⟩
          try conv=>whnf
          rw [hxw] at hst
          refine ⟨⟨k + 1, hk'⟩, by show l.length - (k + 1) < l.length - k; omega, ?_⟩
          (refine Wk.of ?_ ?_ rfl rfl rfl<;>repeat' (first|exact trivial|exact WkD.same _|exact WkO.same _ _ rfl|refine WkD.int ?_|refine ⟨?_, ?_⟩|(refine wrapA ?_ ?_ ?_;(focus simp;done);(focus (try dsimp only);omega);(focus (try dsimp only);omega))|fail))
          · exact WkD.eq (congrArg (DV.buf 8) (hmk.trans hmk1.symm))
          · exact WkO.same _ _ (congrArg (fun z => some (DObj.arr 1 z)) hst)
        · have hk' : k = l.length := by have := ge_dec (m := (l.map pairPV).length) h (by simpa using hk); simpa using this
          subst hk'
          exact ⟨(), (by refine Wk.of ?_ ?_ rfl rfl rfl<;>repeat' (first|exact trivial|exact WkD.same _|exact WkO.same _ _ rfl|exact WkD.fz _ _ _ rfl (Or.inl ⟨_, rfl⟩) rfl|refine ⟨?_, ?_⟩|fail))⟩
      rintro ⟨⟩
      have hrs := rsU_succ m a l i
      have hrsl : ((rsU m a l i).map rowPV).length ≤ 1000 := by simp [rsU]; omega
      have er : (rsU m a l i).map rowPV ++ [PV.sl (mixV l.length (fun k => u64 (rowP r ra l (l.getD k (0, 0)))) (fun _ => u64 0) l.length)] = (rsU m a l (i + 1)).map rowPV := by
        rw [hrs, List.map_append, mixV_full, relP, hrw, hraw]
        congr 1
        show [PV.sl _] = [rowPV (l.map (rowP r ra l))]
        rw [rowPV, List.map_map]
        congr 2
        exact map_getD (g := fun x => u64 (rowP r ra l x)) (d := (0, 0)) rfl
      (try conv=>whnf);repeat' (first|(apply And.intro<;>try conv=>whnf)|(apply cellsI;rfl)|(apply szI;rfl)|fail)
      · exact app_big (n := 1000) hrsl (by decide)
      refine ⟨⟨i + 1, hi'⟩, by show m.rel.length - (i + 1) < m.rel.length - i; omega, ?_⟩
      (refine Wk.of ?_ ?_ rfl rfl rfl<;>repeat' (first|exact trivial|exact WkD.same _|exact WkO.same _ _ rfl|exact WkD.eq (congrArg (fun z : List PV => DV.buf _ z.length) er)|exact WkO.same _ _ (congrArg (fun z => some (DObj.arr _ z)) er)|refine WkD.int ?_|refine WkO.vars rfl ?_|refine ⟨?_, ?_⟩|(refine wrapA ?_ ?_ ?_;(focus simp;done);(focus (try dsimp only);omega);(focus (try dsimp only);omega))|fail))
    · have hi' : i = m.rel.length := by have := ge_dec (m := (m.rel.map rowPV).length) h (by simpa using hi); simpa using this
      subst hi'
      exact ⟨(), (by refine Wk.of ?_ ?_ rfl rfl rfl<;>repeat' (first|exact trivial|exact WkD.same _|exact WkO.same _ _ rfl|exact WkD.fz _ _ _ rfl (Or.inl ⟨_, rfl⟩) rfl|refine WkO.vars rfl ?_|refine ⟨?_, ?_⟩|fail))⟩
  rintro ⟨⟩
  try conv=>whnf
  refine ⟨.one 0 (.two 1 (.one 2 (.one 3 (.one 4 .done))) 2 (.one 1 (.one 3 (.one 4 .done)))), [2], by kernel_rfl, ?_⟩
  have hfin : updPV (prodM m a l, l, 0) = .tup [.agg [i64 (l.map pairPV).length, rowPV vs, .sl ((rsU m a l m.rel.length).map rowPV)], .sl (l.map pairPV), .int .i64 0] := by rw [← hVS, List.length_map]; rfl
  (try conv=>whnf);repeat' (first|(apply And.intro<;>try conv=>whnf)|fail)
  all_goals (rw [hfin]; exact .refl _)
end Go.Proofs.YtnbnkgcjgfmlcaaGreat
set_option maxRecDepth 100000
set_option maxHeartbeats 4000000
namespace Go.Proofs.YtnbnkgcjgfmlcaaGreat
open Go Go.Dv

def bitW (i : Nat) : Nat := 2 ^ i % 2 ^ 64
theorem bitW_lt {i : Nat} (h : i < 64) : bitW i = 2 ^ i := Nat.mod_eq_of_lt (Nat.pow_lt_pow_right (by decide) h)
theorem wrapU_mod (n : Nat) : IntKind.wrap .u64 (n : Int) = ((n % 2 ^ 64 : Nat) : Int) := by
  show (n : Int) % (2 ^ 64 : Int) = _
  omega
theorem bitW_mul (i : Nat) : IntKind.wrap .u64 ((bitW i : Nat) * 2) = ((bitW (i + 1) : Nat) : Int) := by
  rw [show ((bitW i : Nat) : Int) * 2 = ((bitW i * 2 : Nat) : Int) by omega, wrapU_mod]
  congr 1
  show 2 ^ i % 2 ^ 64 * 2 % 2 ^ 64 = 2 ^ (i + 1) % 2 ^ 64
  rw [Nat.mod_mul_mod]
  exact congrArg (fun z => z % 2 ^ 64) (Nat.pow_succ 2 i).symm
theorem mask_add {q : Nat → Bool} {i : Nat} (hi : i < 64) (h : q i = true) : IntKind.wrap .u64 ((maskOf q i : Nat) + (bitW i : Nat)) = ((maskOf q (i + 1) : Nat) : Int) := by
  have h1 := maskOf_lt q i
  have h2 : maskOf q i ||| 2 ^ i = maskOf q i + 2 ^ i := by
    have := Nat.two_pow_add_eq_or_of_lt h1 1
    rw [Nat.mul_one] at this
    rw [Nat.or_comm, ← this, Nat.add_comm]
  have h3 := maskOf_lt q (i + 1)
  have h4 : 2 ^ (i + 1) ≤ 2 ^ 64 := Nat.pow_le_pow_right (by decide) hi
  rw [← mask_or h] at h3 ⊢
  rw [h2] at h3 ⊢
  rw [bitW_lt hi, show ((maskOf q i : Nat) : Int) + ((2 ^ i : Nat) : Int) = ((maskOf q i + 2 ^ i : Nat) : Int) by omega, wrapU_mod, Nat.mod_eq_of_lt (by omega)]
theorem rp_value (m : Mo) (a : Act) (l : List (Nat × Nat)) (i : Nat) (hf : FitM m) (hfa : Fit a) (hl : a.rel.length ≤ 1000) (hp : ∀ l, l ∈ a.post → l.length ≤ 1000) (hma : moaI m a = 0) (hi : i < m.val.length) (hl64 : l.length ≤ 64) (hmem : ∀ y, y ∈ l → y.1 < 64 ∧ y.2 < a.pre.length) :
    PureFn Tryz.prog 34 [m.pv, a.pv, .sl (l.map pairPV), .int .i64 (i : Nat)] (u64 (valP m a l i)) := by
  obtain ⟨⟨n, hM⟩, hAc⟩ := moaI_ok hma
  have hO := actI_ok hAc
  have hn8 := hO.n8
  have hn64 := hM.n64
  refine PureFn.introC [9] mixed (fn := Tryz.f34) rfl rfl rfl fun M w0 => ?_
  have hlv : (vlU m a i).length = a.pre.length := by simp [vlU]
  have hsl : ∀ e, ((List.range e).map fun e => valuP m a e i).length = e := by simp
  have hmk : maskOf (fun k => ((vlU m a i).getD (l.getD k (0, 0)).2 0).testBit (l.getD k (0, 0)).1) l.length = valP m a l i := maskOf_congr fun k hk => by
    rw [vlU_get (hmem _ (List.mem_iff_getElem?.2 ⟨k, getD_mem hk⟩)).2]
  rw [← hmk]
  try conv=>whnf
  refine ⟨Unit, fun _ => [(2, .pv (.sl (l.map pairPV))), (9, .pv (.sl ((vlU m a i).map u64)))], fun _ => 3, fun _ => [], ?_, ?_⟩
  · try conv=>whnf
    refine ⟨{ e : Nat // e ≤ a.pre.length }, fun e => [(2, .pv (.sl (l.map pairPV))), (3, .pv (i64 i)), (4, .ref 0 0), (5, .ref 1 0), (9, .buf 2 (((List.range e.1).map fun e => valuP m a e i).map u64).length), (21, .pv (i64 (a.pre.map fpv).length)), (22, .pv (i64 e.1))], fun _ => 3, fun e => [(0, .var (cellsM m)), (1, .var (cellsA a)), (2, .arr 1 (((List.range e.1).map fun e => valuP m a e i).map u64))], fun e => a.pre.length - e.1, ⟨⟨0, Nat.zero_le _⟩, (by refine Wk.of ?_ ?_ rfl rfl rfl<;>repeat' (first|exact trivial|exact WkD.same _|exact WkO.same _ _ rfl|exact WkD.new' rfl rfl rfl|exact WkO.new _ _ rfl|exact rfl|refine ⟨?_, ?_⟩|fail))⟩, ?_⟩
    intro e
    have he := e.2
    (try conv=>whnf);repeat' (first|(apply And.intro<;>try conv=>whnf)|(intro h;try conv=>whnf)|fail)
    · have he' : e.1 < a.pre.length := by simpa using lt_dec h
      have hV := ra_Value a e.1 i hfa hl hp
      have hv0 := valI_ok hma he' hi
      obtain ⟨g, hg⟩ : ∃ g, valI a e.1 i = (g, 0) := ⟨(valI a e.1 i).1, Prod.ext rfl hv0⟩
      rw [hg] at hV
      have hH := rc_Holds m g hf
      have hvp : (holdsI m g).1 = valuP m a e.1 i := by rw [valuP, hg]
      rw [hvp] at hH
      have hes : ((List.range e.1).map fun e => valuP m a e i).map u64 ++ [u64 (valuP m a e.1 i)] = ((List.range (e.1 + 1)).map fun e => valuP m a e i).map u64 := by rw [List.range_succ, List.map_append, List.map_append]; rfl
      (try conv=>whnf);repeat' (first|(apply And.intro<;>try conv=>whnf)|(apply cellsI;rfl)|(apply szI;rfl)|(refine PureFn.dcq (f := 55) rfl ?_;try conv=>whnf)|(refine PureFn.dcq (f := 28) rfl ?_;try conv=>whnf)|(refine ⟨_, _, hV, ?_, ?_⟩;(focus first|(refine ⟨?_, ?_, ?_, trivial⟩<;>first|exact PLe.refl _|exact PLe.nil)|exact trivial);try conv=>whnf)|(refine ⟨_, _, hH, ?_, ?_⟩;(focus first|(refine ⟨?_, ?_, trivial⟩<;>first|exact PLe.refl _|exact PLe.nil)|exact trivial);try conv=>whnf)|fail)
      · exact app_big (n := 8) (by simp; omega) (by decide)
      · refine ⟨⟨e.1 + 1, he'⟩, by show a.pre.length - (e.1 + 1) < a.pre.length - e.1; omega, ?_⟩
        (refine Wk.of ?_ ?_ rfl rfl rfl<;>repeat' (first|exact trivial|exact WkD.same _|exact WkO.same _ _ rfl|exact WkD.eq (congrArg (fun z : List PV => DV.buf _ z.length) hes)|exact WkO.same _ _ (congrArg (fun z => some (DObj.arr _ z)) hes)|refine WkD.int ?_|refine ⟨?_, ?_⟩|(refine wrapA ?_ ?_ ?_;(focus simp;done);(focus (try dsimp only);omega);(focus (try dsimp only);omega))|fail))
    · obtain ⟨e0, he0⟩ := e
      have he' : e0 = a.pre.length := by have := ge_dec (m := (a.pre.map fpv).length) h (by simpa using he); simpa using this
      subst he'
      exact ⟨(), (by refine Wk.of ?_ ?_ rfl rfl rfl<;>repeat' (first|exact trivial|exact WkD.same _|exact WkD.fz _ _ _ rfl (Or.inl ⟨_, rfl⟩) rfl|refine ⟨?_, ?_⟩|fail))⟩
  rintro ⟨⟩
  generalize vlU m a i = vs at hlv
  try conv=>whnf
  refine ⟨{ k : Nat // k ≤ l.length }, fun k => [(9, .pv (.sl (vs.map u64))), (15, .pv (u64 (maskOf (fun k => (vs.getD (l.getD k (0, 0)).2 0).testBit (l.getD k (0, 0)).1) k.1))), (16, .pv (u64 (bitW k.1))), (43, .pv (.sl (l.map pairPV))), (44, .pv (i64 (l.map pairPV).length)), (45, .pv (i64 k.1))], fun _ => 3, fun _ => [], fun k => l.length - k.1, ⟨⟨0, Nat.zero_le _⟩, (by refine Wk.of ?_ ?_ rfl rfl rfl<;>repeat' (first|exact trivial|exact WkD.same _|refine ⟨?_, ?_⟩|fail))⟩, ?_⟩
  intro k
  have hk := k.2
  (try conv=>whnf);repeat' (first|(apply And.intro<;>try conv=>whnf)|(intro h;try conv=>whnf)|(apply infoT;rfl)|fail)
  · have hk' : k.1 < l.length := by simpa using lt_dec h
    obtain ⟨x, hx, hxw⟩ : ∃ y, l[k.1]? = some y ∧ l.getD k.1 (0, 0) = y := ⟨_, getD_mem hk', rfl⟩
    obtain ⟨hx1, hx2⟩ := hmem x (List.mem_iff_getElem?.2 ⟨k.1, hx⟩)
    have hvx : vs[x.2]? = some (vs.getD x.2 0) := getD_mem (by omega)
    have hHas := rm_Has (vs.getD x.2 0) x.1 hx1
    refine ⟨_, _, rfl, idx_map hx, rfl, ?_⟩
    (try conv=>whnf);repeat' (first|(apply And.intro<;>try conv=>whnf)|(intro h;try conv=>whnf)|(apply infoT;rfl)|(refine lin_plan (by kernel_rfl) ?_;try conv=>whnf)|(refine ⟨_, _, rfl, idx_map (by with_reducible assumption), rfl, ?_⟩;try conv=>whnf)|(refine ⟨_, (by (conv=>whnf);exact hHas), rfl, ?_⟩;try conv=>whnf)|fail)
    · refine ⟨⟨k.1 + 1, hk'⟩, by show l.length - (k.1 + 1) < l.length - k.1; omega, ?_⟩
      (refine Wk.of ?_ ?_ rfl rfl rfl<;>repeat' (first|exact trivial|exact WkD.same _|refine WkD.int ?_|refine ⟨?_, ?_⟩|(refine wrapA ?_ ?_ ?_;(focus simp;done);(focus (try dsimp only);omega);(focus (try dsimp only);omega))|fail))
      · exact mask_add (q := fun k => (vs.getD (l.getD k (0, 0)).2 0).testBit (l.getD k (0, 0)).1) (by omega) (by show (vs.getD (l.getD k.1 (0, 0)).2 0).testBit (l.getD k.1 (0, 0)).1 = true; rw [hxw]; exact h)
      · exact bitW_mul k.1
    · refine ⟨⟨k.1 + 1, hk'⟩, by show l.length - (k.1 + 1) < l.length - k.1; omega, ?_⟩
      (refine Wk.of ?_ ?_ rfl rfl rfl<;>repeat' (first|exact trivial|exact WkD.same _|refine WkD.int ?_|refine ⟨?_, ?_⟩|(refine wrapA ?_ ?_ ?_;(focus simp;done);(focus (try dsimp only);omega);(focus (try dsimp only);omega))|fail))
      · exact congrArg (fun z : Nat => (z : Int)) (mask_no (q := fun k => (vs.getD (l.getD k (0, 0)).2 0).testBit (l.getD k (0, 0)).1) (by show (vs.getD (l.getD k.1 (0, 0)).2 0).testBit (l.getD k.1 (0, 0)).1 = false; rw [hxw]; exact h))
      · exact bitW_mul k.1
  · have hk' : k.1 = l.length := by have := ge_dec (m := (l.map pairPV).length) h (by simpa using hk); simpa using this
    rw [hk']
    exact .refl _
end Go.Proofs.YtnbnkgcjgfmlcaaGreat
set_option maxRecDepth 100000
set_option maxHeartbeats 4000000
namespace Go.Proofs.YtnbnkgcjgfmlcaaGreat
open Go Go.Dv

theorem rp_Update (m : Mo) (a : Act) (hf : FitM m) (hfa : Fit a) (hl : a.rel.length ≤ 1000) (hp : ∀ l, l ∈ a.post → l.length ≤ 1000) : PureFn Tryz.prog 11 [m.pv, a.pv] (updPV (updI m a)) := by
  refine PureFn.introC [2, 12, 29, 31] mixed (fn := Tryz.f11) rfl rfl rfl fun M w0 => ?_
  have hW := rp_Worlds m a hf hfa hl hp
  obtain ⟨l, e, hX⟩ : ∃ l e, worldsI m a = (l, e) := ⟨_, _, rfl⟩
  have hwo := worldsI_ok (m := m) (a := a)
  rw [updI]
  rw [hX] at hW hwo ⊢
  clear hX
  have e9 : ((l.map pairPV).length : Int) = (l.length : Int) := by simp
  try conv=>whnf
  refine ⟨Unit, fun _ => [(2, .ref 0 0), (3, .ref 1 0), (4, .ref 2 0), (7, .pv (.sl (l.map pairPV))), (8, .pv (.int .i64 e))], fun _ => 3, fun _ => [(0, .var (cellsM m)), (1, .var (cellsA a)), (2, .var cells0)], ?_, ?_⟩
  · (try conv=>whnf);repeat' (first|(refine PureFn.dcq (f := 9) rfl ?_;try conv=>whnf)|(refine ⟨_, _, hW, ?_, ?_⟩;(focus first|(refine ⟨?_, ?_, trivial⟩<;>first|exact PLe.refl _|exact PLe.nil)|exact trivial);try conv=>whnf)|fail)
    exact ⟨(), (by refine Wk.of ?_ ?_ rfl rfl rfl<;>repeat' (first|exact trivial|exact WkD.same _|exact WkO.same _ _ rfl|refine ⟨?_, ?_⟩|fail))⟩
  rintro ⟨⟩
  (try conv=>whnf);repeat' (first|(apply And.intro<;>try conv=>whnf)|(intro h;try conv=>whnf)|fail)
  · rw [show (((l, e) : List (Nat × Nat) × Int).2 != 0) = true from h]; exact le_upd _
  · rename_i h1
    have h9 : decide ((l.length : Int) > 64) = true := by rw [← e9]; exact h
    rw [show (((l, e) : List (Nat × Nat) × Int).2 != 0) = false from h1, show decide ((((l, e) : List (Nat × Nat) × Int).1.length : Int) > 64) = true from h9]
    exact le_upd _
  rename_i h1
  have h2 : decide ((l.length : Int) > 64) = false := by rw [← e9]; exact h
  obtain ⟨hma, hpl, hl1⟩ := hwo (show e = 0 by simpa using h1)
  obtain ⟨⟨n, hM⟩, hAc⟩ := moaI_ok hma
  have hO := actI_ok hAc
  have hn8 := hO.n8
  have hn64 := hM.n64
  have hfa8 := hM.fa
  have hag := hM.ag
  have hpl : l = pairsL m a := hpl
  have hmem : ∀ y, y ∈ l → y.1 < n ∧ y.2 < a.pre.length := fun y hy => by
    rw [hpl, pairsL, hM.nn] at hy
    have := pairsW_mem.1 hy
    exact ⟨this.1, this.2.1⟩
  clear hpl hl1
  have hl64 : l.length ≤ 64 := by have := of_decide_eq_false h2; omega
  have hres : (bif (((l, e) : List (Nat × Nat) × Int).2 != 0) then (noMo, ([] : List (Nat × Nat)), ((l, e) : List (Nat × Nat) × Int).2) else bif decide ((((l, e) : List (Nat × Nat) × Int).1.length : Int) > 64) then (noMo, [], 8) else (prodM m a ((l, e) : List (Nat × Nat) × Int).1, ((l, e) : List (Nat × Nat) × Int).1, (0 : Int))) = (prodM m a l, l, 0) := by
    rw [show (((l, e) : List (Nat × Nat) × Int).2 != 0) = false from h1, show decide ((((l, e) : List (Nat × Nat) × Int).1.length : Int) > 64) = false from h2]; rfl
  rw [hres]
  clear hres
  refine ⟨Unit, fun _ => [(2, .ref 0 0), (3, .ref 1 0), (4, .ref 2 0), (7, .pv (.sl (l.map pairPV))), (9, .ref 3 0)], fun _ => 5, fun _ => [(0, .var (cellsM m)), (1, .var (cellsA a)), (2, .var cells0), (3, .var [.pv (i64 (l.map pairPV).length), .pv (rowPV (vsU m a l m.val.length)), .pv .nil])], ?_, ?_⟩
  · try conv=>whnf
    refine ⟨{ i : Nat // i ≤ m.val.length }, fun i => [(2, .ref 0 0), (3, .ref 1 0), (4, .ref 2 0), (7, .pv (.sl (l.map pairPV))), (9, .ref 3 0), (38, .pv (i64 (m.val.map u64).length)), (39, .pv (i64 i.1))], fun _ => 5, fun i => [(0, .var (cellsM m)), (1, .var (cellsA a)), (2, .var cells0), (3, .var [.pv (i64 (l.map pairPV).length), .buf 4 ((vsU m a l i.1).map u64).length, .pv .nil]), (4, .arr 1 ((vsU m a l i.1).map u64))], fun i => m.val.length - i.1, ⟨⟨0, Nat.zero_le _⟩, (by refine Wk.of ?_ ?_ rfl rfl rfl<;>repeat' (first|exact trivial|exact WkD.same _|exact WkO.same _ _ rfl|exact WkD.new' rfl rfl rfl|exact WkO.new _ _ rfl|refine WkO.vars rfl ?_|exact rfl|refine ⟨?_, ?_⟩|fail))⟩, ?_⟩
    intro i
    have hi := i.2
    have hvs := vsU_succ m a l i.1
    have hvsl : ((vsU m a l i.1).map u64).length ≤ 1000 := by simp [vsU]; omega
    have er : (vsU m a l i.1).map u64 ++ [u64 (valP m a l i.1)] = (vsU m a l (i.1 + 1)).map u64 := by rw [hvs, List.map_append]; rfl
    (try conv=>whnf);repeat' (first|(apply And.intro<;>try conv=>whnf)|(intro h;try conv=>whnf)|fail)
    · have hi' : i.1 < m.val.length := by simpa using lt_dec h
      have hV := rp_value m a l i.1 hf hfa hl hp hma hi' hl64 (fun y hy => ⟨by have := (hmem y hy).1; omega, (hmem y hy).2⟩)
      refine ⟨Plan.lin 0 11, [], by kernel_rfl, ?_⟩
      (try conv=>whnf);repeat' (first|(apply And.intro<;>try conv=>whnf)|(apply cellsI;rfl)|(apply szI;rfl)|(refine ⟨_, (by (conv=>whnf);exact hV), rfl, ?_⟩;try conv=>whnf)|fail)
      · exact app_big (n := 1000) hvsl (by decide)
      · refine ⟨⟨i.1 + 1, hi'⟩, by show m.val.length - (i.1 + 1) < m.val.length - i.1; omega, ?_⟩
        (refine Wk.of ?_ ?_ rfl rfl rfl<;>repeat' (first|exact trivial|exact WkD.same _|exact WkO.same _ _ rfl|exact WkD.eq (congrArg (fun z : List PV => DV.buf _ z.length) er)|exact WkO.same _ _ (congrArg (fun z => some (DObj.arr _ z)) er)|refine WkD.int ?_|refine WkO.vars rfl ?_|refine ⟨?_, ?_⟩|(refine wrapA ?_ ?_ ?_;(focus simp;done);(focus (try dsimp only);omega);(focus (try dsimp only);omega))|fail))
    · obtain ⟨i0, hi0⟩ := i
      have hi' : i0 = m.val.length := by have := ge_dec (m := (m.val.map u64).length) h (by simpa using hi); simpa using this
      subst hi'
      exact ⟨(), (by refine Wk.of ?_ ?_ rfl rfl rfl<;>repeat' (first|exact trivial|exact WkD.same _|exact WkO.same _ _ rfl|exact WkD.fz _ _ _ rfl (Or.inl ⟨_, rfl⟩) rfl|refine WkO.vars rfl ?_|refine ⟨?_, ?_⟩|fail))⟩
  rintro ⟨⟩
  generalize hVS : (vsU m a l m.val.length) = vs
  refine ⟨Unit, fun _ => [(4, .ref 2 0), (7, .pv (.sl (l.map pairPV))), (9, .ref 3 0)], fun _ => 5, fun _ => [(2, .var cells0), (3, .var [.pv (i64 (l.map pairPV).length), .pv (rowPV vs), .pv (.sl ((rsU m a l m.rel.length).map rowPV))])], ?_, ?_⟩
  · try conv=>whnf
    refine ⟨{ i : Nat // i ≤ m.rel.length }, fun i => [(2, .ref 0 0), (3, .ref 1 0), (4, .ref 2 0), (7, .pv (.sl (l.map pairPV))), (9, .ref 3 0), (55, .pv (i64 (m.rel.map rowPV).length)), (56, .pv (i64 i.1))], fun _ => 6, fun i => [(0, .var (cellsM m)), (1, .var (cellsA a)), (2, .var cells0), (3, .var [.pv (i64 (l.map pairPV).length), .pv (rowPV vs), .buf 5 ((rsU m a l i.1).map rowPV).length]), (5, .arr 1 ((rsU m a l i.1).map rowPV))], fun i => m.rel.length - i.1, ⟨⟨0, Nat.zero_le _⟩, (by refine Wk.of ?_ ?_ rfl rfl rfl<;>repeat' (first|exact trivial|exact WkD.same _|exact WkO.same _ _ rfl|exact WkD.new' rfl rfl rfl|exact WkO.new _ _ rfl|refine WkO.vars rfl ?_|exact rfl|refine ⟨?_, ?_⟩|fail))⟩, ?_⟩
    intro i
    have hi := i.2
    (try conv=>whnf);repeat' (first|(apply And.intro<;>try conv=>whnf)|(intro h;try conv=>whnf)|fail)
    · have hi' : i.1 < m.rel.length := by simpa using lt_dec h
      obtain ⟨r, hr, hrw⟩ : ∃ r, m.rel[i.1]? = some r ∧ m.rel.getD i.1 [] = r := ⟨_, getD_mem hi', rfl⟩
      have hrm : r ∈ m.rel := List.mem_iff_getElem?.2 ⟨i.1, hr⟩
      have hrl := hM.rows r hrm
      obtain ⟨ra, hra, hraw⟩ : ∃ r, a.rel[i.1]? = some r ∧ a.rel.getD i.1 [] = r := ⟨_, getD_mem (by have := hO.ags; omega), rfl⟩
      have hram : ra ∈ a.rel := List.mem_iff_getElem?.2 ⟨i.1, hra⟩
      have hral := hO.rows ra hram
      refine ⟨Unit, fun _ => [(2, .ref 0 0), (3, .ref 1 0), (4, .ref 2 0), (7, .pv (.sl (l.map pairPV))), (9, .ref 3 0), (11, .pv (i64 i.1)), (55, .pv (i64 (m.rel.map rowPV).length)), (56, .pv (i64 i.1)), (12, .pv (.sl (l.map fun x => u64 (rowP r ra l x))))], fun _ => 6, fun _ => [(0, .var (cellsM m)), (1, .var (cellsA a)), (2, .var cells0), (3, .var [.pv (i64 (l.map pairPV).length), .pv (rowPV vs), .buf 5 ((rsU m a l i.1).map rowPV).length]), (5, .arr 1 ((rsU m a l i.1).map rowPV))], ?_, ?_⟩
      · try conv=>whnf
        refine ⟨{ k : Nat // k ≤ l.length }, fun k => [(2, .ref 0 0), (3, .ref 1 0), (4, .ref 2 0), (7, .pv (.sl (l.map pairPV))), (9, .ref 3 0), (11, .pv (i64 i.1)), (55, .pv (i64 (m.rel.map rowPV).length)), (56, .pv (i64 i.1)), (12, .buf 6 ((l.take k.1).map fun x => u64 (rowP r ra l x)).length), (59, .pv (.sl (l.map pairPV))), (60, .pv (i64 (l.map pairPV).length)), (61, .pv (i64 k.1))], fun _ => 7, fun k => [(0, .var (cellsM m)), (1, .var (cellsA a)), (2, .var cells0), (3, .var [.pv (i64 (l.map pairPV).length), .pv (rowPV vs), .buf 5 ((rsU m a l i.1).map rowPV).length]), (5, .arr 1 ((rsU m a l i.1).map rowPV)), (6, .arr 1 ((l.take k.1).map fun x => u64 (rowP r ra l x)))], fun k => l.length - k.1, ⟨⟨0, Nat.zero_le _⟩, (by refine Wk.of ?_ ?_ rfl rfl rfl<;>repeat' (first|exact trivial|exact WkD.same _|exact WkO.same _ _ rfl|exact WkD.new' rfl rfl rfl|exact WkO.new _ _ rfl|exact rfl|refine ⟨?_, ?_⟩|fail))⟩, ?_⟩
        intro k
        have hk := k.2
        have hkl : ((l.take k.1).map fun x => u64 (rowP r ra l x)).length ≤ 64 := by simp; omega
        (try conv=>whnf);repeat' (first|(apply And.intro<;>try conv=>whnf)|(intro h;try conv=>whnf)|(apply infoT;rfl)|fail)
        · have hk' : k.1 < l.length := by simpa using lt_dec h
          obtain ⟨x, hx, hxw⟩ : ∃ y, l[k.1]? = some y ∧ l[k.1] = y := ⟨_, List.getElem?_eq_getElem hk', rfl⟩
          have hxm := hmem x (List.mem_iff_getElem?.2 ⟨k.1, hx⟩)
          have hrx : r[x.1]? = some (r.getD x.1 0) := getD_mem (by omega)
          have hrax : ra[x.2]? = some (ra.getD x.2 0) := getD_mem (by omega)
          have hes : ((l.take k.1).map fun x => u64 (rowP r ra l x)) ++ [u64 (rowP r ra l x)] = ((l.take (k.1 + 1)).map fun x => u64 (rowP r ra l x)) := by rw [List.take_succ_eq_append_getElem hk', List.map_append, hxw]; rfl
          refine ⟨_, _, rfl, idx_map hx, rfl, ?_⟩
          try conv=>whnf
          refine ⟨{ j : Nat // j ≤ l.length }, fun j => [(2, .ref 0 0), (3, .ref 1 0), (4, .ref 2 0), (7, .pv (.sl (l.map pairPV))), (9, .ref 3 0), (11, .pv (i64 i.1)), (55, .pv (i64 (m.rel.map rowPV).length)), (56, .pv (i64 i.1)), (12, .buf 6 ((l.take k.1).map fun x => u64 (rowP r ra l x)).length), (14, .ref 7 0), (15, .pv (u64 (maskOf (fun j => seesP r ra x (l.getD j (0, 0))) j.1))), (16, .pv (u64 (bitW j.1))), (59, .pv (.sl (l.map pairPV))), (60, .pv (i64 (l.map pairPV).length)), (61, .pv (i64 k.1)), (65, .pv (.sl (l.map pairPV))), (66, .pv (i64 (l.map pairPV).length)), (67, .pv (i64 j.1))], fun _ => 8, fun j => [(0, .var (cellsM m)), (1, .var (cellsA a)), (2, .var cells0), (3, .var [.pv (i64 (l.map pairPV).length), .pv (rowPV vs), .buf 5 ((rsU m a l i.1).map rowPV).length]), (5, .arr 1 ((rsU m a l i.1).map rowPV)), (6, .arr 1 ((l.take k.1).map fun x => u64 (rowP r ra l x))), (7, .var [.pv (i64 x.1), .pv (i64 x.2)])], fun j => l.length - j.1, ⟨⟨0, Nat.zero_le _⟩, (by refine Wk.of ?_ ?_ rfl rfl rfl<;>repeat' (first|exact trivial|exact WkD.same _|exact WkO.same _ _ rfl|refine ⟨?_, ?_⟩|fail))⟩, ?_⟩
          intro j
          have hj := j.2
          (try conv=>whnf);repeat' (first|(apply And.intro<;>try conv=>whnf)|(intro h;try conv=>whnf)|(apply infoT;rfl)|(apply cellsI;rfl)|(apply szI;rfl)|fail)
          · have hj' : j.1 < l.length := by simpa using lt_dec h
            obtain ⟨y, hy, hyw⟩ : ∃ y, l[j.1]? = some y ∧ l.getD j.1 (0, 0) = y := ⟨_, getD_mem hj', rfl⟩
            have hym := hmem y (List.mem_iff_getElem?.2 ⟨j.1, hy⟩)
            have hA1 := rm_Has (r.getD x.1 0) y.1 (by omega)
            have hA2 := rm_Has (ra.getD x.2 0) y.2 (by omega)
            have hsee : seesP r ra x (l.getD j.1 (0, 0)) = bif (r.getD x.1 0).testBit y.1 then (ra.getD x.2 0).testBit y.2 else false := by rw [hyw]; rfl
            refine ⟨_, _, rfl, idx_map hy, rfl, ?_⟩
            (try conv=>whnf);repeat' (first|(apply And.intro<;>try conv=>whnf)|(intro h;try conv=>whnf)|apply True.intro|(apply infoT;rfl)|(apply WhenQ.mk;(try conv=>whnf);rotate_left;(try conv=>whnf);rotate_right)|with_reducible assumption|(refine lin_plan (by kernel_rfl) ?_;try conv=>whnf)|(refine ⟨_, _, rfl, idx_map (by with_reducible assumption), rfl, ?_⟩;try conv=>whnf)|(refine ⟨_, (by (conv=>whnf);exact hA1), rfl, ?_⟩;try conv=>whnf)|(refine ⟨_, (by (conv=>whnf);exact hA2), rfl, ?_⟩;try conv=>whnf)|fail)
            · refine ⟨⟨j.1 + 1, hj'⟩, by show l.length - (j.1 + 1) < l.length - j.1; omega, ?_⟩
              (refine Wk.of ?_ ?_ rfl rfl rfl<;>repeat' (first|exact trivial|exact WkD.same _|exact WkO.same _ _ rfl|refine WkD.int ?_|refine ⟨?_, ?_⟩|(refine wrapA ?_ ?_ ?_;(focus simp;done);(focus (try dsimp only);omega);(focus (try dsimp only);omega))|fail))
              · exact mask_add (q := fun j => seesP r ra x (l.getD j (0, 0))) (by omega) (by show seesP r ra x (l.getD j.1 (0, 0)) = true; rw [hsee]; exact h)
              · exact bitW_mul j.1
            · refine ⟨⟨j.1 + 1, hj'⟩, by show l.length - (j.1 + 1) < l.length - j.1; omega, ?_⟩
              (refine Wk.of ?_ ?_ rfl rfl rfl<;>repeat' (first|exact trivial|exact WkD.same _|exact WkO.same _ _ rfl|refine WkD.int ?_|refine ⟨?_, ?_⟩|(refine wrapA ?_ ?_ ?_;(focus simp;done);(focus (try dsimp only);omega);(focus (try dsimp only);omega))|fail))
              · exact congrArg (fun z : Nat => (z : Int)) (mask_no (q := fun j => seesP r ra x (l.getD j (0, 0))) (by show seesP r ra x (l.getD j.1 (0, 0)) = false; rw [hsee]; exact h))
              · exact bitW_mul j.1
          · exact app_big (n := 64) hkl (by decide)
          · obtain ⟨j0, hj0⟩ := j
            have hj' : j0 = l.length := by have := ge_dec (m := (l.map pairPV).length) h (by simpa using hj); simpa using this
            subst hj'
            refine ⟨⟨k.1 + 1, hk'⟩, by show l.length - (k.1 + 1) < l.length - k.1; omega, ?_⟩
            (refine Wk.of ?_ ?_ rfl rfl rfl<;>repeat' (first|exact trivial|exact WkD.same _|exact WkO.same _ _ rfl|exact WkD.eq (congrArg (fun z : List PV => DV.buf _ z.length) hes)|exact WkO.same _ _ (congrArg (fun z => some (DObj.arr _ z)) hes)|refine WkD.int ?_|refine ⟨?_, ?_⟩|(refine wrapA ?_ ?_ ?_;(focus simp;done);(focus (try dsimp only);omega);(focus (try dsimp only);omega))|fail))
        · obtain ⟨k0, hk0⟩ := k
          have hk' : k0 = l.length := by have := ge_dec (m := (l.map pairPV).length) h (by simpa using hk); simpa using this
          subst hk'
          have hz : ((l.take l.length).map fun x => u64 (rowP r ra l x)) = (l.map fun x => u64 (rowP r ra l x)) := by rw [List.take_length]
          refine ⟨(), ?_⟩
          rw [← hz]
          (refine Wk.of ?_ ?_ rfl rfl rfl<;>repeat' (first|exact trivial|exact WkD.same _|exact WkO.same _ _ rfl|exact WkD.fz _ _ _ rfl (Or.inl ⟨_, rfl⟩) rfl|refine ⟨?_, ?_⟩|fail))
      rintro ⟨⟩
      have hrs := rsU_succ m a l i.1
      have hrsl : ((rsU m a l i.1).map rowPV).length ≤ 1000 := by simp [rsU]; omega
      have er : (rsU m a l i.1).map rowPV ++ [PV.sl (l.map fun x => u64 (rowP r ra l x))] = (rsU m a l (i.1 + 1)).map rowPV := by
        rw [hrs, List.map_append, relP, hrw, hraw]
        congr 1
        show [PV.sl _] = [rowPV (l.map (rowP r ra l))]
        rw [rowPV, List.map_map]; rfl
      (try conv=>whnf);repeat' (first|(apply And.intro<;>try conv=>whnf)|(apply cellsI;rfl)|(apply szI;rfl)|fail)
      · exact app_big (n := 1000) hrsl (by decide)
      refine ⟨⟨i.1 + 1, hi'⟩, by show m.rel.length - (i.1 + 1) < m.rel.length - i.1; omega, ?_⟩
      (refine Wk.of ?_ ?_ rfl rfl rfl<;>repeat' (first|exact trivial|exact WkD.same _|exact WkO.same _ _ rfl|exact WkD.eq (congrArg (fun z : List PV => DV.buf _ z.length) er)|exact WkO.same _ _ (congrArg (fun z => some (DObj.arr _ z)) er)|refine WkD.int ?_|refine WkO.vars rfl ?_|refine ⟨?_, ?_⟩|(refine wrapA ?_ ?_ ?_;(focus simp;done);(focus (try dsimp only);omega);(focus (try dsimp only);omega))|fail))
    · obtain ⟨i0, hi0⟩ := i
      have hi' : i0 = m.rel.length := by have := ge_dec (m := (m.rel.map rowPV).length) h (by simpa using hi); simpa using this
      subst hi'
      exact ⟨(), (by refine Wk.of ?_ ?_ rfl rfl rfl<;>repeat' (first|exact trivial|exact WkD.same _|exact WkO.same _ _ rfl|exact WkD.fz _ _ _ rfl (Or.inl ⟨_, rfl⟩) rfl|refine WkO.vars rfl ?_|refine ⟨?_, ?_⟩|fail))⟩
  rintro ⟨⟩
  have hfin : updPV (prodM m a l, l, 0) = .tup [.agg [i64 (l.map pairPV).length, rowPV vs, .sl ((rsU m a l m.rel.length).map rowPV)], .sl (l.map pairPV), .int .i64 0] := by rw [← hVS, List.length_map]; rfl
  try conv=>whnf
  rw [hfin]; exact .refl _
end Go.Proofs.YtnbnkgcjgfmlcaaGreat
set_option maxRecDepth 100000
set_option maxHeartbeats 4000000
namespace Go.Proofs.YtnbnkgcjgfmlcaaGreat
open Go Go.Dv

def isP (w e : Int) (q : Nat × Nat) : Bool := bif (q.1 : Int) == w then (q.2 : Int) == e else false
def ixP (l : List (Nat × Nat)) (w e : Int) : Int := match l.findIdx? (isP w e) with | none => -1 | some i => (i : Int)
theorem find_at {α : Type} {p : α → Bool} : ∀ {l : List α} {i : Nat} {x : α}, l[i]? = some x → p x = true → (l.take i).any p = false → l.findIdx? p = some i
  | [], i, x, h, _, _ => by simp at h
  | a :: r, 0, x, h, hx, _ => by
    have : a = x := by simpa using h
    subst this
    simp [List.findIdx?_cons, hx]
  | a :: r, i + 1, x, h, hx, hn => by
    have h1 : r[i]? = some x := by simpa using h
    have hn2 : (p a || (r.take i).any p) = false := by simpa using hn
    rw [Bool.or_eq_false_iff] at hn2
    rw [List.findIdx?_cons, hn2.1, find_at h1 hx hn2.2]; rfl
theorem find_none {α : Type} {p : α → Bool} {l : List α} (h : l.any p = false) : l.findIdx? p = none := by
  rw [List.findIdx?_eq_none_iff]
  exact fun x hx => by simpa using List.any_eq_false.1 h x hx
theorem fit_pair (x y : Int) : fitT Tryz.prog 55 (.agg [.int .i64 x, .int .i64 y]) = true := by kernel_rfl
theorem eq_pair (w e : Int) (q : Nat × Nat) : eqPVs [.int .i64 w, .int .i64 e] [i64 q.1, i64 q.2] = isP w e q := by
  show ((w == (q.1 : Int)) && ((e == (q.2 : Int)) && true)) = bif (q.1 : Int) == w then (q.2 : Int) == e else false
  rw [Bool.and_true, show (w == (q.1 : Int)) = ((q.1 : Int) == w) by rw [Bool.eq_iff_iff, beq_iff_eq, beq_iff_eq]; exact ⟨Eq.symm, Eq.symm⟩, show (e == (q.2 : Int)) = ((q.2 : Int) == e) by rw [Bool.eq_iff_iff, beq_iff_eq, beq_iff_eq]; exact ⟨Eq.symm, Eq.symm⟩]
  cases ((q.1 : Int) == w) <;> rfl
theorem sl_IndexP (l : List (Nat × Nat)) (w e : Int) (hl : l.length ≤ 1000) : PureFn Tryz.prog 36 [.sl (l.map pairPV), .agg [.int .i64 w, .int .i64 e]] (.int .i64 (ixP l w e)) := by
  refine PureFn.intro mixed (fn := Tryz.f36) rfl rfl rfl fun M w0 => ?_
  try conv=>whnf
  refine ⟨{ i : Nat // i ≤ l.length ∧ (l.take i).any (isP w e) = false }, fun i => [(0, .pv (.sl (l.map pairPV))), (3, .ref 0 0), (7, .pv (i64 (l.map pairPV).length)), (8, .pv (i64 i.1))], fun _ => 1, fun _ => [(0, .var [.pv (.int .i64 w), .pv (.int .i64 e)])], fun i => l.length - i.1, ⟨⟨0, Nat.zero_le _, rfl⟩, (by refine Wk.of ?_ ?_ rfl rfl rfl<;>repeat' (first|exact trivial|exact WkD.same _|exact WkO.same _ _ rfl|refine ⟨?_, ?_⟩|fail))⟩, ?_⟩
  rintro ⟨i, hi, hn⟩
  (try conv=>whnf);repeat' (first|(apply And.intro<;>try conv=>whnf)|(intro h;try conv=>whnf)|(apply infoT;rfl)|(refine lin_plan (by kernel_rfl) ?_;try conv=>whnf)|fail)
  · have hi' : i < l.length := by simpa using lt_dec h
    obtain ⟨y, hy, hyw⟩ : ∃ y, l[i]? = some y ∧ l[i] = y := ⟨_, List.getElem?_eq_getElem hi', rfl⟩
    refine ⟨_, _, rfl, idx_map hy, rfl, ?_⟩
    (try conv=>whnf);repeat' (first|(apply And.intro<;>try conv=>whnf)|(intro h;try conv=>whnf)|(apply guardI;kernel_rfl)|fail)
    · exact fit_pair _ _
    · exact fit_pair _ _
    · have hq : isP w e y = true := by rw [← eq_pair]; exact h
      rw [ixP, find_at hy hq hn]
      exact .refl _
    · have hq : isP w e y = false := by rw [← eq_pair]; exact h
      exact ⟨⟨i + 1, hi', any_take hi' hn (by rw [hyw]; exact hq)⟩, by show l.length - (i + 1) < l.length - i; omega, (by refine Wk.of ?_ ?_ rfl rfl rfl<;>repeat' (first|exact trivial|exact WkD.same _|exact WkO.same _ _ rfl|refine WkD.int ?_|refine ⟨?_, ?_⟩|(refine wrapA ?_ ?_ ?_;(focus simp;done);(focus (try dsimp only);omega);(focus (try dsimp only);omega))|fail))⟩
  · have hi' : i = l.length := by have := ge_dec (m := (l.map pairPV).length) h (by simpa using hi); simpa using this
    subst hi'
    rw [List.take_length] at hn
    rw [ixP, find_none hn]
    exact .refl _
theorem sl_EqP (l : List (Nat × Nat)) (hl : l.length ≤ 1000) : PureFn Tryz.prog 22 [.sl (l.map pairPV), .sl (l.map pairPV)] (.bool true) := by
  refine PureFn.intro mixed (fn := Tryz.f22) rfl rfl rfl fun M w0 => ?_
  (try conv=>whnf);repeat' (first|(apply And.intro<;>try conv=>whnf)|(intro h;try conv=>whnf)|fail)
  · simp at h
  refine ⟨{ i : Nat // i ≤ l.length }, fun i => [(0, .pv (.sl (l.map pairPV))), (1, .pv (.sl (l.map pairPV))), (12, .pv (i64 (l.map pairPV).length)), (13, .pv (i64 i.1))], fun _ => 0, fun _ => [], fun i => l.length - i.1, ⟨⟨0, Nat.zero_le _⟩, (by refine Wk.of ?_ ?_ rfl rfl rfl<;>repeat' (first|exact trivial|exact WkD.same _|refine ⟨?_, ?_⟩|fail))⟩, ?_⟩
  rintro ⟨i, hi⟩
  (try conv=>whnf);repeat' (first|(apply And.intro<;>try conv=>whnf)|(intro h;try conv=>whnf)|(apply infoT;rfl)|(refine lin_plan (by kernel_rfl) ?_;try conv=>whnf)|fail)
  · have hi' : i < l.length := by simpa using lt_dec h
    obtain ⟨y, hy, hyw⟩ : ∃ y, l[i]? = some y ∧ l[i] = y := ⟨_, List.getElem?_eq_getElem hi', rfl⟩
    have hs : isP y.1 y.2 y = true := by simp [isP]
    refine ⟨_, _, rfl, idx_map hy, rfl, ?_⟩
    (try conv=>whnf);repeat' (first|(apply And.intro<;>try conv=>whnf)|(intro h;try conv=>whnf)|(apply infoT;rfl)|(apply guardI;kernel_rfl)|(refine ⟨_, _, rfl, idx_map (by with_reducible assumption), rfl, ?_⟩;try conv=>whnf)|fail)
    · exact fit_pair _ _
    · exact fit_pair _ _
    · have h9 : (!eqPVs [.int .i64 (y.1 : Int), .int .i64 (y.2 : Int)] [i64 y.1, i64 y.2]) = true := h
      rw [eq_pair, hs] at h9; cases h9
    · exact ⟨⟨i + 1, hi'⟩, by show l.length - (i + 1) < l.length - i; omega, (by refine Wk.of ?_ ?_ rfl rfl rfl<;>repeat' (first|exact trivial|exact WkD.same _|refine WkD.int ?_|refine ⟨?_, ?_⟩|(refine wrapA ?_ ?_ ?_;(focus simp;done);(focus (try dsimp only);omega);(focus (try dsimp only);omega))|fail))⟩
  · exact .refl _
theorem updI_len (m : Mo) (a : Act) : (updI m a).2.1.length ≤ 64 := by
  unfold updI
  cases ((worldsI m a).2 != 0) with
  | true => exact Nat.zero_le _
  | false =>
    cases h : decide (((worldsI m a).1.length : Int) > 64) with
    | true => exact Nat.zero_le _
    | false =>
      have := of_decide_eq_false h
      show (worldsI m a).1.length ≤ 64
      omega
theorem pr_At (m : Mo) (w : Int) (a : Act) (e : Int) (hf : FitM m) (hfa : Fit a) (hl : a.rel.length ≤ 1000) (hp : ∀ l, l ∈ a.post → l.length ≤ 1000) : PureFn Tryz.prog 14 [m.pv, .int .i64 w, a.pv, .int .i64 e] (atPV (atI m w a e)) := by
  refine PureFn.introC [2, 8, 9] mixed (fn := Tryz.f14) rfl rfl rfl fun M w0 => ?_
  have hU := pr_Update m a hf hfa hl hp
  have hlen := updI_len m a
  obtain ⟨R, hR⟩ : ∃ R, R = atI m w a e := ⟨_, rfl⟩
  rw [← hR]
  rw [atI] at hR
  generalize updI m a = X at hU hlen hR
  obtain ⟨p, l, c⟩ := X
  have hlen : l.length ≤ 64 := hlen
  have hg : ((p, l, c) : Mo × List (Nat × Nat) × Int).2.2 = c := rfl
  rw [hg] at hR
  have e1 : ((a.pre.map fpv).length : Int) = (a.pre.length : Int) := by simp
  have hI := sl_IndexP l w e (by omega)
  try conv=>whnf
  refine ⟨Unit, fun _ => [(1, .pv (.int .i64 w)), (3, .pv (.int .i64 e)), (4, .ref 0 0), (6, .ref 1 0), (8, .ref 2 0), (11, .ref 3 0), (12, .pv (.sl (l.map pairPV))), (13, .pv (.int .i64 c))], fun _ => 4, fun _ => [(0, .var (cellsM m)), (1, .var (cellsA a)), (2, .var cells0), (3, .var (cellsM p))], ?_, ?_⟩
  · (try conv=>whnf);repeat' (first|(refine PureFn.dcq (f := 10) rfl ?_;try conv=>whnf)|(refine ⟨_, _, hU, ?_, ?_⟩;(focus first|(refine ⟨?_, ?_, trivial⟩<;>first|exact PLe.refl _|exact PLe.nil)|exact trivial);try conv=>whnf)|fail)
    exact ⟨(), (by refine Wk.of ?_ ?_ rfl rfl rfl<;>repeat' (first|exact trivial|exact WkD.same _|exact WkO.same _ _ rfl|refine ⟨?_, ?_⟩|fail))⟩
  rintro ⟨⟩
  refine ⟨{ _x : Unit // (c != 0) = false ∧ badW m w = false ∧ badEv a e = false }, fun _ => [(1, .pv (.int .i64 w)), (3, .pv (.int .i64 e)), (8, .ref 2 0), (11, .ref 3 0), (12, .pv (.sl (l.map pairPV)))], fun _ => 4, fun _ => [(2, .var cells0), (3, .var (cellsM p))], ?_, ?_⟩
  · (try conv=>whnf);repeat' (first|(apply And.intro<;>try conv=>whnf)|(intro h;try conv=>whnf)|apply True.intro|(apply WhenQ.mk;(try conv=>whnf);rotate_left;(try conv=>whnf);rotate_right)|with_reducible assumption|(apply not_of;with_reducible assumption)|fail)
    · have h0 : (c != 0) = true := h
      rw [hR, h0]; exact PLe.tups ⟨le_noMo, .refl _, .refl _, trivial⟩
    · rename_i h0
      rw [hR, show (c != 0) = false from h0, show badW m w = true from h]; exact PLe.tups ⟨le_noMo, .refl _, .refl _, trivial⟩
    · rename_i h0 h1
      have h9 : badEv a e = true := by rw [badEv, ← e1]; exact h
      rw [hR, show (c != 0) = false from h0, show badW m w = false from h1, h9]; exact PLe.tups ⟨le_noMo, .refl _, .refl _, trivial⟩
    · rename_i h0 h1
      have h9 : badEv a e = false := by rw [badEv, ← e1]; exact h
      exact ⟨⟨(), h0, h1, h9⟩, (by refine Wk.of ?_ ?_ rfl rfl rfl<;>repeat' (first|exact trivial|exact WkD.same _|exact WkO.same _ _ rfl|refine ⟨?_, ?_⟩|fail))⟩
  rintro ⟨_, h0, h1, h2⟩
  rw [h0, h1, h2] at hR
  have hR : R = match l.findIdx? (isP w e) with | none => (noMo, 0, 11) | some i => (p, (i : Int), 0) := hR
  rw [ixP] at hI
  cases hx : l.findIdx? (isP w e) with
  | none =>
    rw [hx] at hI hR
    have hI : PureFn Tryz.prog 36 [.sl (l.map pairPV), .agg [.int .i64 w, .int .i64 e]] (.int .i64 (-1)) := hI
    rw [hR]
    refine ⟨Unit, fun _ => [(8, .ref 2 0), (11, .ref 3 0), (14, .pv (.int .i64 (-1)))], fun _ => 4, fun _ => [(2, .var cells0), (3, .var (cellsM p))], ?_, ?_⟩
    · (try conv=>whnf);repeat' (first|(refine PureFn.dcq (f := 36) rfl ?_;try conv=>whnf)|(refine ⟨_, _, hI, ?_, ?_⟩;(focus first|(refine ⟨?_, ?_, trivial⟩<;>first|exact PLe.refl _|exact PLe.nil)|exact trivial);try conv=>whnf)|fail)
      exact ⟨(), (by refine Wk.of ?_ ?_ rfl rfl rfl<;>repeat' (first|exact trivial|exact WkD.same _|exact WkO.same _ _ rfl|refine ⟨?_, ?_⟩|fail))⟩
    rintro ⟨⟩
    (try conv=>whnf);repeat' (first|(apply And.intro<;>try conv=>whnf)|(intro h;try conv=>whnf)|fail)
    · exact PLe.tups ⟨le_noMo, .refl _, .refl _, trivial⟩
    · simp at h
  | some i =>
    rw [hx] at hI hR
    have hI : PureFn Tryz.prog 36 [.sl (l.map pairPV), .agg [.int .i64 w, .int .i64 e]] (.int .i64 (i : Nat)) := hI
    rw [hR]
    refine ⟨Unit, fun _ => [(8, .ref 2 0), (11, .ref 3 0), (14, .pv (i64 i))], fun _ => 4, fun _ => [(2, .var cells0), (3, .var (cellsM p))], ?_, ?_⟩
    · (try conv=>whnf);repeat' (first|(refine PureFn.dcq (f := 36) rfl ?_;try conv=>whnf)|(refine ⟨_, _, hI, ?_, ?_⟩;(focus first|(refine ⟨?_, ?_, trivial⟩<;>first|exact PLe.refl _|exact PLe.nil)|exact trivial);try conv=>whnf)|fail)
      exact ⟨(), (by refine Wk.of ?_ ?_ rfl rfl rfl<;>repeat' (first|exact trivial|exact WkD.same _|exact WkO.same _ _ rfl|refine ⟨?_, ?_⟩|fail))⟩
    rintro ⟨⟩
    (try conv=>whnf);repeat' (first|(apply And.intro<;>try conv=>whnf)|(intro h;try conv=>whnf)|fail)
    · have := of_decide_eq_true h
      omega
    · exact .refl _
end Go.Proofs.YtnbnkgcjgfmlcaaGreat
set_option maxRecDepth 100000
set_option maxHeartbeats 4000000
namespace Go.Proofs.YtnbnkgcjgfmlcaaGreat
open Go Go.Dv

def exN : Mo := ⟨2, [1], [[3, 3], [3, 3]]⟩
def exX : Act := ⟨[[nI 3 0], [nI 3 0, n0 4]], [[], []], [[1, 2], [3, 3]]⟩
def exY : Act := ⟨[[nI 3 0], [nI 3 0, n0 4]], [[⟨0, [nI 3 0, n0 4]⟩], [⟨0, [nI 3 0, n0 4]⟩]], [[1, 2], [3, 3]]⟩
theorem exN_fit : FitM exN := ⟨by intro s hs; simp [exN] at hs; omega, by intro r hr s hs; simp [exN] at hr; subst hr; simp at hs; omega⟩
theorem exX_fit : Fit exX := by intro r hr s hs; simp [exX] at hr; rcases hr with rfl | rfl <;> simp at hs <;> omega
theorem exY_fit : Fit exY := by intro r hr s hs; simp [exY] at hr; rcases hr with rfl | rfl <;> simp at hs <;> omega
theorem exX_post : ∀ l, l ∈ exX.post → l.length ≤ 1000 := by intro l hl; simp [exX] at hl; subst hl; decide
theorem exY_post : ∀ l, l ∈ exY.post → l.length ≤ 1000 := by intro l hl; simp [exY] at hl; subst hl; decide
theorem lp_few (m : Mo) (a : Act) : PureFn Tryz.prog 6 [m.pv, a.pv] (.bool (bif fewM m 12 then fewI a 16 else false)) := by
  refine PureFn.intro mixed (fn := Tryz.f6) rfl rfl rfl fun M w0 => ?_
  have h1 := rm_Few m 12
  have h2 := ra_Few a 16
  (try conv=>whnf);repeat' (first|(apply And.intro<;>try conv=>whnf)|(intro h;try conv=>whnf)|apply True.intro|(apply WhenQ.mk;(try conv=>whnf);rotate_left;(try conv=>whnf);rotate_right)|with_reducible assumption|(refine PureFn.dcq (f := 16) rfl ?_;try conv=>whnf)|(refine PureFn.dcq (f := 17) rfl ?_;try conv=>whnf)|(refine ⟨_, _, h1, ?_, ?_⟩;(focus first|(refine ⟨?_, ?_, trivial⟩<;>first|exact PLe.refl _|exact PLe.nil)|exact trivial);try conv=>whnf)|(refine ⟨_, _, h2, ?_, ?_⟩;(focus first|(refine ⟨?_, ?_, trivial⟩<;>first|exact PLe.refl _|exact PLe.nil)|exact trivial);try conv=>whnf)|fail)
  exact .refl _
def exPlan : Plan := .one 0 (.two 1 (.one 2 (.one 3 .done)) 2 (.one 1 (.one 3 .done)))
theorem lp_example : PureFn Tryz.prog 21 [] (.tup [exN.pv, exX.pv]) := by
  refine PureFn.intro mixed (fn := Tryz.f21) rfl rfl rfl fun M w0 => ?_
  (try conv=>whnf);repeat' (first|(apply And.intro<;>try conv=>whnf)|(apply cellsI;rfl)|fail)
  refine ⟨exPlan, [], by kernel_rfl, ?_⟩
  (try conv=>whnf);repeat' (first|(apply And.intro<;>try conv=>whnf)|fail)
  all_goals exact PLe.tups ⟨.refl _, PLe.aggs ⟨.refl _, PLe.sls ⟨.nil, .nil, trivial⟩, .refl _, trivial⟩, trivial⟩
theorem lp_awake : PureFn Tryz.prog 7 [] (.bool true) := by
  have hE := lp_example
  have u1 := (pr_Update exN exX exN_fit exX_fit (by decide) exX_post).to (q := .tup [.agg [.int .i64 2, .sl [u64 1], .sl [rowPV [1, 2], rowPV [3, 3]]], .sl [.agg [i64 0, i64 0], .agg [i64 1, i64 1]], .int .i64 0]) (by kernel_rfl)
  have a1 := (pr_At exN 1 exY 1 exN_fit exY_fit (by decide) exY_post).to (q := .tup [.agg [.int .i64 2, .sl [u64 2], .sl [rowPV [1, 2], rowPV [3, 3]]], .int .i64 1, .int .i64 0]) (by kernel_rfl)
  have a0 := (pr_At exN 1 exY 0 exN_fit exY_fit (by decide) exY_post).to (q := .tup [.agg [.int .i64 0, .sl [], .sl []], .int .i64 0, .int .i64 11]) (by kernel_rfl)
  have e1 : PureFn Tryz.prog 22 [.sl [.agg [i64 0, i64 0], .agg [i64 1, i64 1]], .sl [.agg [i64 0, i64 0], .agg [i64 1, i64 1]]] (.bool true) := (sl_EqP [(0, 0), (1, 1)] (by decide)).to (by kernel_rfl)
  have s1 : PureFn Tryz.prog 13 [.agg [.int .i64 2, .sl [u64 1], .sl [rowPV [1, 2], rowPV [3, 3]]], .agg [.int .i64 2, .sl [u64 1], .sl [rowPV [1, 2], rowPV [3, 3]]]] (.bool true) := (rm_Same ⟨2, [1], [[1, 2], [3, 3]]⟩ (by decide) (by decide) (by decide)).to (by kernel_rfl)
  refine PureFn.introC [2, 3, 5, 6, 7, 8, 9] mixed (fn := Tryz.f7) rfl rfl rfl fun M w0 => ?_
  try conv=>whnf
  refine ⟨Unit, fun _ => [(1, .ref 0 0), (2, .ref 1 0)], fun _ => 2, fun _ => [(0, .var [.pv (.int .i64 2), .pv (.sl [u64 1]), .pv (.sl [rowPV [3, 3], rowPV [3, 3]])]), (1, .var [.pv (.sl [fpv [nI 3 0], fpv [nI 3 0, n0 4]]), .pv (.sl [.sl [], .sl []]), .pv (.sl [rowPV [1, 2], rowPV [3, 3]])])], ?_, ?_⟩
  · (try conv=>whnf);repeat' (first|(refine PureFn.dcq (f := 21) rfl ?_;try conv=>whnf)|(refine ⟨_, _, hE, ?_, ?_⟩;(focus first|(refine ⟨trivial⟩<;>first|exact PLe.refl _|exact PLe.nil)|exact trivial);try conv=>whnf)|fail)
    exact ⟨(), (by refine Wk.of ?_ ?_ rfl rfl rfl<;>repeat' (first|exact trivial|exact WkD.same _|exact WkO.same _ _ rfl|refine ⟨?_, ?_⟩|fail))⟩
  rintro ⟨⟩
  refine ⟨Unit, fun _ => [(1, .ref 0 0), (2, .ref 1 0), (3, .ref 2 0), (4, .pv (.sl [.agg [i64 0, i64 0], .agg [i64 1, i64 1]])), (5, .pv (.int .i64 0))], fun _ => 3, fun _ => [(0, .var [.pv (.int .i64 2), .pv (.sl [u64 1]), .pv (.sl [rowPV [3, 3], rowPV [3, 3]])]), (1, .var [.pv (.sl [fpv [nI 3 0], fpv [nI 3 0, n0 4]]), .pv (.sl [.sl [], .sl []]), .pv (.sl [rowPV [1, 2], rowPV [3, 3]])]), (2, .var [.pv (.int .i64 2), .pv (.sl [u64 1]), .pv (.sl [rowPV [1, 2], rowPV [3, 3]])])], ?_, ?_⟩
  · (try conv=>whnf);repeat' (first|(refine PureFn.dcq (f := 10) rfl ?_;try conv=>whnf)|(refine ⟨_, _, u1, ?_, ?_⟩;(focus first|(refine ⟨?_, ?_, trivial⟩<;>first|exact PLe.refl _|exact PLe.nil)|exact trivial);try conv=>whnf)|fail)
    exact ⟨(), (by refine Wk.of ?_ ?_ rfl rfl rfl<;>repeat' (first|exact trivial|exact WkD.same _|exact WkO.same _ _ rfl|refine ⟨?_, ?_⟩|fail))⟩
  rintro ⟨⟩
  refine ⟨Unit, fun _ => [(1, .ref 0 0), (2, .ref 1 0)], fun _ => 2, fun _ => [(0, .var [.pv (.int .i64 2), .pv (.sl [u64 1]), .pv (.sl [rowPV [3, 3], rowPV [3, 3]])]), (1, .var [.pv (.sl [fpv [nI 3 0], fpv [nI 3 0, n0 4]]), .pv (.sl [.sl [], .sl []]), .pv (.sl [rowPV [1, 2], rowPV [3, 3]])])], ?_, ?_⟩
  · (try conv=>whnf);repeat' (first|(apply And.intro<;>try conv=>whnf)|(intro h;try conv=>whnf)|apply True.intro|(apply cellsI;rfl)|(apply WhenQ.mk;(try conv=>whnf);rotate_left;(try conv=>whnf);rotate_right)|with_reducible assumption|(apply not_of;with_reducible assumption)|(refine PureFn.dcq (f := 22) rfl ?_;try conv=>whnf)|(refine PureFn.dcq (f := 13) rfl ?_;try conv=>whnf)|(refine ⟨_, _, e1, ?_, ?_⟩;(focus first|(refine ⟨?_, ?_, trivial⟩<;>first|exact PLe.refl _|exact PLe.nil)|exact trivial);try conv=>whnf)|(refine ⟨_, _, s1, ?_, ?_⟩;(focus first|(refine ⟨?_, ?_, trivial⟩<;>first|exact PLe.refl _|exact PLe.nil)|exact trivial);try conv=>whnf)|fail)
    · exact absurd h (by decide)
    · exact ⟨(), (by refine Wk.of ?_ ?_ rfl rfl rfl<;>repeat' (first|exact trivial|exact WkD.same _|exact WkO.same _ _ rfl|refine ⟨?_, ?_⟩|fail))⟩
  rintro ⟨⟩
  refine ⟨Unit, fun _ => [(1, .ref 0 0), (2, .ref 1 0), (6, .pv (fpv [nI 3 0, n0 4]))], fun _ => 2, fun _ => [(0, .var [.pv (.int .i64 2), .pv (.sl [u64 1]), .pv (.sl [rowPV [3, 3], rowPV [3, 3]])]), (1, .var [.pv (.sl [fpv [nI 3 0], fpv [nI 3 0, n0 4]]), .pv (.sl [.sl [], .sl []]), .pv (.sl [rowPV [1, 2], rowPV [3, 3]])])], ?_, ?_⟩
  · (try conv=>whnf);repeat' (first|(apply And.intro<;>try conv=>whnf)|(apply cellsI;rfl)|fail)
    exact ⟨(), (by refine Wk.of ?_ ?_ rfl rfl rfl<;>repeat' (first|exact trivial|exact WkD.same _|exact WkO.same _ _ rfl|refine ⟨?_, ?_⟩|fail))⟩
  rintro ⟨⟩
  refine ⟨Unit, fun _ => [(1, .ref 0 0), (2, .ref 1 0)], fun _ => 2, fun _ => [(0, .var [.pv (.int .i64 2), .pv (.sl [u64 1]), .pv (.sl [rowPV [3, 3], rowPV [3, 3]])]), (1, .var [.pv (.sl [fpv [nI 3 0], fpv [nI 3 0, n0 4]]), .pv (.sl [.sl [.agg [i64 0, fpv [nI 3 0, n0 4]]], .sl [.agg [i64 0, fpv [nI 3 0, n0 4]]]]), .pv (.sl [rowPV [1, 2], rowPV [3, 3]])])], ?_, ?_⟩
  · (try conv=>whnf);repeat' (first|(apply And.intro<;>try conv=>whnf)|(apply cellsI;rfl)|fail)
    exact ⟨(), (by refine Wk.of ?_ ?_ rfl rfl rfl<;>repeat' (first|exact trivial|exact WkD.same _|exact WkO.same _ _ rfl|refine ⟨?_, ?_⟩|fail))⟩
  rintro ⟨⟩
  refine ⟨Unit, fun _ => [(1, .ref 0 0), (2, .ref 1 0), (7, .ref 2 0), (8, .pv (.int .i64 1)), (9, .pv (.int .i64 0))], fun _ => 3, fun _ => [(0, .var [.pv (.int .i64 2), .pv (.sl [u64 1]), .pv (.sl [rowPV [3, 3], rowPV [3, 3]])]), (1, .var [.pv (.sl [fpv [nI 3 0], fpv [nI 3 0, n0 4]]), .pv (.sl [.sl [.agg [i64 0, fpv [nI 3 0, n0 4]]], .sl [.agg [i64 0, fpv [nI 3 0, n0 4]]]]), .pv (.sl [rowPV [1, 2], rowPV [3, 3]])]), (2, .var [.pv (.int .i64 2), .pv (.sl [u64 2]), .pv (.sl [rowPV [1, 2], rowPV [3, 3]])])], ?_, ?_⟩
  · (try conv=>whnf);repeat' (first|(refine PureFn.dcq (f := 14) rfl ?_;try conv=>whnf)|(refine ⟨_, _, a1, ?_, ?_⟩;(focus first|(refine ⟨?_, ?_, ?_, ?_, trivial⟩<;>first|exact PLe.refl _|exact PLe.nil)|exact trivial);try conv=>whnf)|fail)
    exact ⟨(), (by refine Wk.of ?_ ?_ rfl rfl rfl<;>repeat' (first|exact trivial|exact WkD.same _|exact WkO.same _ _ rfl|refine ⟨?_, ?_⟩|fail))⟩
  rintro ⟨⟩
  refine ⟨Unit, fun _ => [(7, .ref 2 0), (8, .pv (.int .i64 1)), (9, .pv (.int .i64 0)), (12, .pv (.int .i64 11))], fun _ => 3, fun _ => [(2, .var [.pv (.int .i64 2), .pv (.sl [u64 2]), .pv (.sl [rowPV [1, 2], rowPV [3, 3]])])], ?_, ?_⟩
  · (try conv=>whnf);repeat' (first|(refine PureFn.dcq (f := 14) rfl ?_;try conv=>whnf)|(refine ⟨_, _, a0, ?_, ?_⟩;(focus first|(refine ⟨?_, ?_, ?_, ?_, trivial⟩<;>first|exact PLe.refl _|exact PLe.nil)|exact trivial);try conv=>whnf)|fail)
    exact ⟨(), (by refine Wk.of ?_ ?_ rfl rfl rfl<;>repeat' (first|exact trivial|exact WkD.same _|exact WkO.same _ _ rfl|refine ⟨?_, ?_⟩|fail))⟩
  rintro ⟨⟩
  (try conv=>whnf);repeat' (first|(apply And.intro<;>try conv=>whnf)|(intro h;try conv=>whnf)|apply True.intro|(apply infoT;rfl)|(apply WhenQ.mk;(try conv=>whnf);rotate_left;(try conv=>whnf);rotate_right)|with_reducible assumption|(refine ⟨0, _, rfl, rfl, rfl, ?_⟩;try conv=>whnf)|fail)
  exact le_bool (by decide)
theorem u_mod : ∃ fs : Array Field, Tryz.prog.underlying 25 = some (.struct fs) ∧ fs.toList.map (·.type) = [3, 22, 23] := ⟨_, rfl, by kernel_rfl⟩
theorem arg_mod {n : Nat} {p : PV} (h : TyA Tryz.prog (n + 4) 25 p) : ∃ m : Mo, PLe p m.pv ∧ FitM m := by
  obtain ⟨cs, h, rfl⟩ := h
  obtain ⟨fs, hu, hf⟩ := u_mod
  have hm : mkE Tryz.prog 25 cs = .agg cs := by simp only [mkE, kindT, hu]
  obtain ⟨a, b, r1, rfl, h1, hb, m1⟩ := fs_cons hf (tyS (n := n + 3) hu h)
  obtain ⟨c, d, r2, rfl, h2, hd, m2⟩ := fs_cons m1 hb
  obtain ⟨e, g, r3, rfl, h3, hg, m3⟩ := fs_cons m2 hd
  have := fs_nil m3 hg
  subst this
  obtain ⟨w, rfl, _⟩ := int_of (n := n + 2) h1
  obtain ⟨val, q2, rfl, l2, hv⟩ := slice_of (n := n + 2) (g := u64) (Q := fun s => s < 2 ^ 64) u_rowT (u64_el (n := n + 1)) h2
  obtain ⟨rel, q3, rfl, l3, hr⟩ := slice_of (n := n + 2) (g := rowPV) (Q := fun r => ∀ s, s ∈ r → s < 2 ^ 64) u_relT (fun p hp => el_of (n := n + 1) u_rowT (u64_el (n := n)) p hp) h3
  refine ⟨⟨w, val, rel⟩, ?_, hv, hr⟩
  rw [hm]
  exact PLe.aggs ⟨.refl _, l2, l3, trivial⟩
end Go.Proofs.YtnbnkgcjgfmlcaaGreat
set_option maxRecDepth 100000
set_option maxHeartbeats 4000000
namespace Go.Proofs.YtnbnkgcjgfmlcaaGreat
open Go Go.Dv

theorem rp_At (m : Mo) (w : Int) (a : Act) (e : Int) (hf : FitM m) (hfa : Fit a) (hl : a.rel.length ≤ 1000) (hp : ∀ l, l ∈ a.post → l.length ≤ 1000) : PureFn Tryz.prog 15 [m.pv, .int .i64 w, a.pv, .int .i64 e] (atPV (atI m w a e)) := by
  refine PureFn.introC [2, 8] mixed (fn := Tryz.f15) rfl rfl rfl fun M w0 => ?_
  have hU := rp_Update m a hf hfa hl hp
  have hlen := updI_len m a
  obtain ⟨R, hR⟩ : ∃ R, R = atI m w a e := ⟨_, rfl⟩
  rw [← hR]
  rw [atI] at hR
  generalize updI m a = X at hU hlen hR
  obtain ⟨p, l, c⟩ := X
  have hlen : l.length ≤ 64 := hlen
  have hg : ((p, l, c) : Mo × List (Nat × Nat) × Int).2.2 = c := rfl
  rw [hg] at hR
  have e1 : ((a.pre.map fpv).length : Int) = (a.pre.length : Int) := by simp
  try conv=>whnf
  refine ⟨Unit, fun _ => [(1, .pv (.int .i64 w)), (3, .pv (.int .i64 e)), (4, .ref 0 0), (6, .ref 1 0), (8, .ref 2 0), (11, .ref 3 0), (12, .pv (.sl (l.map pairPV))), (13, .pv (.int .i64 c))], fun _ => 4, fun _ => [(0, .var (cellsM m)), (1, .var (cellsA a)), (2, .var cells0), (3, .var (cellsM p))], ?_, ?_⟩
  · (try conv=>whnf);repeat' (first|(refine PureFn.dcq (f := 11) rfl ?_;try conv=>whnf)|(refine ⟨_, _, hU, ?_, ?_⟩;(focus first|(refine ⟨?_, ?_, trivial⟩<;>first|exact PLe.refl _|exact PLe.nil)|exact trivial);try conv=>whnf)|fail)
    exact ⟨(), (by refine Wk.of ?_ ?_ rfl rfl rfl<;>repeat' (first|exact trivial|exact WkD.same _|exact WkO.same _ _ rfl|refine ⟨?_, ?_⟩|fail))⟩
  rintro ⟨⟩
  (try conv=>whnf);repeat' (first|(apply And.intro<;>try conv=>whnf)|(intro h;try conv=>whnf)|apply True.intro|(apply WhenQ.mk;(try conv=>whnf);rotate_left;(try conv=>whnf);rotate_right)|with_reducible assumption|(apply not_of;with_reducible assumption)|fail)
  · rw [hR, show (c != 0) = true from h]; exact PLe.tups ⟨le_noMo, .refl _, .refl _, trivial⟩
  · rename_i h0
    rw [hR, show (c != 0) = false from h0, show badW m w = true from h]; exact PLe.tups ⟨le_noMo, .refl _, .refl _, trivial⟩
  rename_i h0
  have h1 := h
  refine ⟨{ _x : Unit // badEv a e = false }, fun _ => [(1, .pv (.int .i64 w)), (3, .pv (.int .i64 e)), (8, .ref 2 0), (11, .ref 3 0), (12, .pv (.sl (l.map pairPV)))], fun _ => 4, fun _ => [(2, .var cells0), (3, .var (cellsM p))], ?_, ?_⟩
  · (try conv=>whnf);repeat' (first|(apply And.intro<;>try conv=>whnf)|(intro h;try conv=>whnf)|apply True.intro|(apply WhenQ.mk;(try conv=>whnf);rotate_left;(try conv=>whnf);rotate_right)|with_reducible assumption|(apply not_of;with_reducible assumption)|fail)
    · have h9 : badEv a e = true := by rw [badEv, ← e1]; exact h
      rw [hR, show (c != 0) = false from h0, show badW m w = false from h1, h9]; exact PLe.tups ⟨le_noMo, .refl _, .refl _, trivial⟩
    · have h9 : badEv a e = false := by rw [badEv, ← e1]; exact h
      exact ⟨⟨(), h9⟩, (by refine Wk.of ?_ ?_ rfl rfl rfl<;>repeat' (first|exact trivial|exact WkD.same _|exact WkO.same _ _ rfl|refine ⟨?_, ?_⟩|fail))⟩
  rintro ⟨_, h2⟩
  rw [show (c != 0) = false from h0, show badW m w = false from h1, h2] at hR
  have hR : R = match l.findIdx? (isP w e) with | none => (noMo, 0, 11) | some i => (p, (i : Int), 0) := hR
  try conv=>whnf
  refine ⟨{ i : Nat // i ≤ l.length ∧ (l.take i).any (isP w e) = false }, fun i => [(1, .pv (.int .i64 w)), (3, .pv (.int .i64 e)), (8, .ref 2 0), (11, .ref 3 0), (46, .pv (.sl (l.map pairPV))), (47, .pv (i64 (l.map pairPV).length)), (48, .pv (i64 i.1))], fun _ => 4, fun _ => [(2, .var cells0), (3, .var (cellsM p))], fun i => l.length - i.1, ⟨⟨0, Nat.zero_le _, rfl⟩, (by refine Wk.of ?_ ?_ rfl rfl rfl<;>repeat' (first|exact trivial|exact WkD.same _|exact WkO.same _ _ rfl|refine ⟨?_, ?_⟩|fail))⟩, ?_⟩
  rintro ⟨i, hi, hn⟩
  (try conv=>whnf);repeat' (first|(apply And.intro<;>try conv=>whnf)|(intro h;try conv=>whnf)|(apply infoT;rfl)|fail)
  · have hi' : i < l.length := by simpa using lt_dec h
    obtain ⟨y, hy, hyw⟩ : ∃ y, l[i]? = some y ∧ l[i] = y := ⟨_, List.getElem?_eq_getElem hi', rfl⟩
    refine ⟨_, _, rfl, idx_map hy, rfl, ?_⟩
    (try conv=>whnf);repeat' (first|(apply And.intro<;>try conv=>whnf)|(intro h;try conv=>whnf)|apply True.intro|(apply WhenQ.mk;(try conv=>whnf);rotate_left;(try conv=>whnf);rotate_right)|with_reducible assumption|fail)
    · rw [hR, find_at hy (show isP w e y = true from h) hn]
      exact .refl _
    · exact ⟨⟨i + 1, hi', any_take hi' hn (by rw [hyw]; exact h)⟩, by show l.length - (i + 1) < l.length - i; omega, (by refine Wk.of ?_ ?_ rfl rfl rfl<;>repeat' (first|exact trivial|exact WkD.same _|exact WkO.same _ _ rfl|refine WkD.int ?_|refine ⟨?_, ?_⟩|(refine wrapA ?_ ?_ ?_;(focus simp;done);(focus (try dsimp only);omega);(focus (try dsimp only);omega))|fail))⟩
  · have hi' : i = l.length := by have := ge_dec (m := (l.map pairPV).length) h (by simpa using hi); simpa using this
    subst hi'
    rw [List.take_length] at hn
    rw [hR, find_none hn]
    exact PLe.tups ⟨le_noMo, .refl _, .refl _, trivial⟩
theorem upd_sizes {m : Mo} {a : Act} : (updI m a).1.val.length ≤ 1000 ∧ (updI m a).1.rel.length ≤ 1000 ∧ ∀ r, r ∈ (updI m a).1.rel → r.length ≤ 1000 := by
  have h0 : noMo.val.length ≤ 1000 ∧ noMo.rel.length ≤ 1000 ∧ ∀ r, r ∈ noMo.rel → r.length ≤ 1000 := ⟨by decide, by decide, by intro r hr; cases hr⟩
  by_cases hk : (worldsI m a).2 = 0
  · obtain ⟨k1, k2, k3⟩ := worldsI_ok hk
    obtain ⟨⟨n, hM⟩, hA⟩ := moaI_ok k1
    unfold updI
    rw [hk, k2]
    cases hq : decide (((pairsL m a).length : Int) > 64) with
    | true => exact h0
    | false =>
      have := of_decide_eq_false hq
      have hP := prod_ok (a := a) hM k3 (by omega)
      have h1 := hP.fa
      have h2 := hP.ag
      have h3 := hP.n64
      exact ⟨show (prodM m a (pairsL m a)).val.length ≤ 1000 by omega, show (prodM m a (pairsL m a)).rel.length ≤ 1000 by omega, fun r hr => by rw [hP.rows r hr]; omega⟩
  · have hb : ((worldsI m a).2 != 0) = true := by simpa using hk
    unfold updI
    rw [hb]; exact h0
theorem few_two {m : Mo} {a : Act} (h : (bif fewM m 12 then fewI a 16 else false) = true) : a.rel.length ≤ 1000 ∧ ∀ l, l ∈ a.post → l.length ≤ 1000 := by
  cases h1 : fewM m 12 with
  | false => rw [h1] at h; cases h
  | true =>
    rw [h1] at h
    obtain ⟨b1, b2, b3, _, b5⟩ := few_ok (show fewI a 16 = true from h)
    exact ⟨by omega, fun l hl => by have := (b5 l hl).1; omega⟩
end Go.Proofs.YtnbnkgcjgfmlcaaGreat
set_option maxRecDepth 100000
set_option maxHeartbeats 4000000
namespace Go.Proofs.YtnbnkgcjgfmlcaaGreat
open Go Go.Dv

theorem atI_sizes {m : Mo} {a : Act} {w e : Int} : (atI m w a e).1.val.length ≤ 1000 ∧ (atI m w a e).1.rel.length ≤ 1000 ∧ ∀ r, r ∈ (atI m w a e).1.rel → r.length ≤ 1000 := by
  have h0 : noMo.val.length ≤ 1000 ∧ noMo.rel.length ≤ 1000 ∧ ∀ r, r ∈ noMo.rel → r.length ≤ 1000 := ⟨by decide, by decide, by intro r hr; cases hr⟩
  unfold atI
  cases ((updI m a).2.2 != 0) with
  | true => exact h0
  | false =>
    cases badW m w with
    | true => exact h0
    | false =>
      cases badEv a e with
      | true => exact h0
      | false =>
        simp only [cond_false]
        split
        · exact h0
        · exact upd_sizes
theorem pat_pure (m : Mo) (a : Act) (w e : Int) (hf : FitM m) (hfa : Fit a) : PureFn Tryz.prog 4 [m.pv, a.pv, .agg [.int .i64 w, .int .i64 e]] (.bool true) := by
  have hW := lp_few m a
  have hA := lp_awake
  refine PureFn.introC [3, 4, 5] mixed (fn := Tryz.f4) rfl rfl rfl fun M w0 => ?_
  try conv=>whnf
  refine ⟨{ _x : Unit // (bif fewM m 12 then fewI a 16 else false) = true }, fun _ => [(3, .ref 0 0), (4, .ref 1 0), (5, .ref 2 0)], fun _ => 3, fun _ => [(0, .var (cellsM m)), (1, .var (cellsA a)), (2, .var [.pv (.int .i64 w), .pv (.int .i64 e)])], ?_, ?_⟩
  · (try conv=>whnf);repeat' (first|(apply And.intro<;>try conv=>whnf)|(intro h;try conv=>whnf)|(refine PureFn.dcq (f := 6) rfl ?_;try conv=>whnf)|(refine PureFn.dcq (f := 7) rfl ?_;try conv=>whnf)|(refine ⟨_, _, hW, ?_, ?_⟩;(focus first|(refine ⟨?_, ?_, trivial⟩<;>first|exact PLe.refl _|exact PLe.nil)|exact trivial);try conv=>whnf)|(refine ⟨_, _, hA, ?_, ?_⟩;(focus first|(refine ⟨trivial⟩<;>first|exact PLe.refl _|exact PLe.nil)|exact trivial);try conv=>whnf)|fail)
    · exact .refl _
    · exact ⟨⟨(), by simpa using h⟩, (by refine Wk.of ?_ ?_ rfl rfl rfl<;>repeat' (first|exact trivial|exact WkD.same _|exact WkO.same _ _ rfl|refine ⟨?_, ?_⟩|fail))⟩
  rintro ⟨_, hw⟩
  obtain ⟨g1, g2⟩ := few_two hw
  have hK := pr_At m w a e hf hfa g1 g2
  have hN := rp_At m w a e hf hfa g1 g2
  obtain ⟨hs1, hs2, hs3⟩ := atI_sizes (m := m) (a := a) (w := w) (e := e)
  generalize atI m w a e = Y at hK hN hs1 hs2 hs3
  obtain ⟨p, i, c⟩ := Y
  have hS := rm_Same p hs1 hs2 hs3
  refine ⟨Unit, fun _ => [(3, .ref 0 0), (4, .ref 1 0), (5, .ref 2 0), (7, .ref 3 0), (8, .pv (.int .i64 i)), (9, .pv (.int .i64 c))], fun _ => 4, fun _ => [(0, .var (cellsM m)), (1, .var (cellsA a)), (2, .var [.pv (.int .i64 w), .pv (.int .i64 e)]), (3, .var (cellsM p))], ?_, ?_⟩
  · (try conv=>whnf);repeat' (first|(refine PureFn.dcq (f := 14) rfl ?_;try conv=>whnf)|(refine ⟨_, _, hK, ?_, ?_⟩;(focus first|(refine ⟨?_, ?_, ?_, ?_, trivial⟩<;>first|exact PLe.refl _|exact PLe.nil)|exact trivial);try conv=>whnf)|fail)
    exact ⟨(), (by refine Wk.of ?_ ?_ rfl rfl rfl<;>repeat' (first|exact trivial|exact WkD.same _|exact WkO.same _ _ rfl|refine ⟨?_, ?_⟩|fail))⟩
  rintro ⟨⟩
  refine ⟨Unit, fun _ => [(7, .ref 3 0), (8, .pv (.int .i64 i)), (9, .pv (.int .i64 c)), (10, .ref 4 0), (11, .pv (.int .i64 i)), (12, .pv (.int .i64 c))], fun _ => 5, fun _ => [(3, .var (cellsM p)), (4, .var (cellsM p))], ?_, ?_⟩
  · (try conv=>whnf);repeat' (first|(refine PureFn.dcq (f := 15) rfl ?_;try conv=>whnf)|(refine ⟨_, _, hN, ?_, ?_⟩;(focus first|(refine ⟨?_, ?_, ?_, ?_, trivial⟩<;>first|exact PLe.refl _|exact PLe.nil)|exact trivial);try conv=>whnf)|fail)
    exact ⟨(), (by refine Wk.of ?_ ?_ rfl rfl rfl<;>repeat' (first|exact trivial|exact WkD.same _|exact WkO.same _ _ rfl|refine ⟨?_, ?_⟩|fail))⟩
  rintro ⟨⟩
  (try conv=>whnf);repeat' (first|(apply And.intro<;>try conv=>whnf)|(intro h;try conv=>whnf)|apply True.intro|(apply WhenQ.mk;(try conv=>whnf);rotate_left;(try conv=>whnf);rotate_right)|with_reducible assumption|(refine PureFn.dcq (f := 13) rfl ?_;try conv=>whnf)|(refine PureFn.dcq (f := 7) rfl ?_;try conv=>whnf)|(refine ⟨_, _, hS, ?_, ?_⟩;(focus first|(refine ⟨?_, ?_, trivial⟩<;>first|exact PLe.refl _|exact PLe.nil)|exact trivial);try conv=>whnf)|(refine ⟨_, _, hA, ?_, ?_⟩;(focus first|(refine ⟨trivial⟩<;>first|exact PLe.refl _|exact PLe.nil)|exact trivial);try conv=>whnf)|fail)
  exact le_bool (by simp)
theorem u_ask : ∃ fs : Array Field, Tryz.prog.underlying 40 = some (.struct fs) ∧ fs.toList.map (·.type) = [3, 3] := ⟨_, rfl, by kernel_rfl⟩
theorem arg_ask {n : Nat} {p : PV} (h : TyA Tryz.prog (n + 3) 40 p) : ∃ w e : Int, p = .agg [.int .i64 w, .int .i64 e] := by
  obtain ⟨cs, h, rfl⟩ := h
  obtain ⟨fs, hu, hf⟩ := u_ask
  have hm : mkE Tryz.prog 40 cs = .agg cs := by simp only [mkE, kindT, hu]
  obtain ⟨a, b, r1, rfl, h1, hb, m1⟩ := fs_cons hf (tyS (n := n + 2) hu h)
  obtain ⟨c, d, r2, rfl, h2, hd, m2⟩ := fs_cons m1 hb
  have := fs_nil m2 hd
  subst this
  obtain ⟨i, rfl, _⟩ := int_of (n := n + 1) h1
  obtain ⟨j, rfl, _⟩ := int_of (n := n + 1) h2
  exact ⟨i, j, hm⟩
theorem pat_args (ps : List PV) (hps : TyAll Tryz.prog 8 Tryz.f4.params.toList ps) : PureFn Tryz.prog 4 ps (.bool true) := by
  obtain ⟨p1, r1, rfl, h1, p2, r2, rfl, h2, p3, r3, rfl, h3, rfl⟩ := hps
  obtain ⟨m, hm, hf⟩ := arg_mod (n := 4) h1
  obtain ⟨a, ha, hfa⟩ := arg_act (n := 1) h2
  obtain ⟨w, e, rfl⟩ := arg_ask (n := 5) h3
  exact (pat_pure m a w e hf hfa).le ⟨hm, ha, .refl _, trivial⟩
end Go.Proofs.YtnbnkgcjgfmlcaaGreat
