/- Parts of the proof, one after the other: Products: Update of the program walked. Models: the reference's All, Check, Same, Few walked. Products: At of the program walked; the examples of the law. Products one after the other: what they are; copies of lists; the program walked. Action models one after the other: Chain of the program walked. The number of trailing zeros: the library's function walked, over its table. Models: the members of a set, and Restrict of the program walked. Products: the examples of the law; models as arguments. Products: what the law ProductKeeps asks (plain). Models: Restrict, and announcements, of the program walked. The dynamic language: sets, static formulas, requests (plain). Models: closed parts of models; formulas that are put together (plain). The dynamic language: announcing twice; the axioms (plain). Reductions of announcements: where they hold (plain). Reductions of events: where they hold (plain). Reductions: a formula and its reduction hold at the same worlds (plain). Reductions: what the laws ReduceEqual and ReduceAnnounces ask (plain). Announcements: as action models, and twice (plain). Action models one after the other: the product with their composition (plain). -/
import Derived.Test.YtejbieopeicgkaaGreatDoorChecked
import Derived.WalkKit
import Derived.Laws.Bits64b
import Derived.Lib.TrailingZeros
import Derived.Test.YtejbieopeicgkaaGreatDoorM9
set_option maxRecDepth 100000
set_option maxHeartbeats 4000000
namespace Go.Proofs.YtejbieopeicgkaaGreatDoor
open Go Go.Dv

def vsU (m : Mo) (a : Act) (l : List (Nat × Nat)) (i : Nat) : List Nat := (List.range i).map (valP m a l)
def rsU (m : Mo) (a : Act) (l : List (Nat × Nat)) (i : Nat) : List (List Nat) := (List.range i).map (relP m a l)
theorem vsU_succ (m : Mo) (a : Act) (l : List (Nat × Nat)) (i : Nat) : vsU m a l (i + 1) = vsU m a l i ++ [valP m a l i] := by rw [vsU, List.range_succ, List.map_append]; rfl
theorem rsU_succ (m : Mo) (a : Act) (l : List (Nat × Nat)) (i : Nat) : rsU m a l (i + 1) = rsU m a l i ++ [relP m a l i] := by rw [rsU, List.range_succ, List.map_append]; rfl
def vlU (m : Mo) (a : Act) (i : Nat) : List Nat := (List.range a.pre.length).map fun e => valuP m a e i
theorem vlU_get {m : Mo} {a : Act} {i e : Nat} (h : e < a.pre.length) : (vlU m a i).getD e 0 = valuP m a e i := by
  rw [vlU, List.getD_eq_getElem?_getD, List.getElem?_map, List.getElem?_range h]; rfl
def updPlan : Plan := .one 2 (.one 3 (.two 0 (.two 1 (.one 4 (.one 5 (.one 6 (.one 7 (.one 8 .done))))) 4 (.one 1 (.one 5 (.one 6 (.one 7 (.one 8 .done)))))) 4 (.one 0 (.one 1 (.one 5 (.one 6 (.one 7 (.one 8 .done))))))))
theorem pr_Update (m : Mo) (a : Act) (hf : FitM m) (hfa : Fit a) (hl : a.rel.length ≤ 1000) (hp : ∀ l, l ∈ a.post → l.length ≤ 1000) : PureFn Tryz.prog 18 [m.pv, a.pv] (updPV (updI m a)) := by
  refine PureFn.introC [4, 6, 20, 22, 31, 33] mixed (fn := Tryz.f18) rfl rfl rfl fun M w0 => ?_
  have hW := pr_Worlds m a hf hfa hl hp
  obtain ⟨l, e, hX⟩ : ∃ l e, worldsI m a = (l, e) := ⟨_, _, rfl⟩
  have hwo := worldsI_ok (m := m) (a := a)
  rw [updI]
  rw [hX] at hW hwo ⊢
  clear hX
  have e9 : ((l.map pairPV).length : Int) = (l.length : Int) := by simp
  (try conv=>whnf);repeat' (first|(refine PureFn.dcq (f := 59) rfl ?_;try conv=>whnf)|(refine ⟨_, _, hW, ?_, ?_⟩;(focus first|(refine ⟨?_, ?_, trivial⟩<;>first|exact PLe.refl _|exact PLe.nil)|exact trivial);try conv=>whnf)|fail)
  refine ⟨{ _x : Unit // (e != 0) = false }, fun _ => [(2, .ref 0 0), (3, .ref 1 0), (4, .ref 2 0), (7, .ref 3 0)], fun _ => 4, fun _ => [(0, .var (cellsM m)), (1, .var (cellsA a)), (2, .var cells0), (3, .var [.pv (.sl (l.map pairPV))])], ?_, ?_⟩
  · (try conv=>whnf);repeat' (first|(apply And.intro<;>try conv=>whnf)|(intro h;try conv=>whnf)|fail)
    · rw [show (((l, e) : List (Nat × Nat) × Int).2 != 0) = true from h]; exact le_upd _
    · exact ⟨⟨(), h⟩, (by refine Wk.of ?_ ?_ rfl rfl rfl<;>repeat' (first|exact trivial|exact WkD.same _|exact WkO.same _ _ rfl|refine ⟨?_, ?_⟩|fail))⟩
  rintro ⟨_, h1⟩
  obtain ⟨hma, hpl, hl1⟩ := hwo (show e = 0 by simpa using h1)
  obtain ⟨⟨n, hM⟩, hAc⟩ := moaI_ok hma
  have hO := actI_ok hAc
  have hn8 := hO.n8
  have hn64 := hM.n64
  have hfa8 := hM.fa
  have hag := hM.ag
  have hpl : l = pairsL m a := hpl
  have hmem : ∀ y, y ∈ l → y.1 < n ∧ y.2 < a.pre.length := fun y hy => by
    rw [hpl, pairsL, hM.nn] at hy
    have := pairsW_mem.1 hy
    exact ⟨this.1, this.2.1⟩
  clear hpl hl1
  refine ⟨{ _x : Unit // decide ((l.length : Int) > 64) = false }, fun _ => [(2, .ref 0 0), (3, .ref 1 0), (4, .ref 2 0), (7, .ref 3 0)], fun _ => 4, fun _ => [(0, .var (cellsM m)), (1, .var (cellsA a)), (2, .var cells0), (3, .var [.pv (.sl (l.map pairPV))])], ?_, ?_⟩
  · (try conv=>whnf);repeat' (first|(apply And.intro<;>try conv=>whnf)|(intro h;try conv=>whnf)|fail)
    · have h9 : decide ((l.length : Int) > 64) = true := by rw [← e9]; exact h
      rw [show (((l, e) : List (Nat × Nat) × Int).2 != 0) = false from h1, show decide ((((l, e) : List (Nat × Nat) × Int).1.length : Int) > 64) = true from h9]
      exact le_upd _
    · exact ⟨⟨(), by rw [← e9]; exact h⟩, (by refine Wk.of ?_ ?_ rfl rfl rfl<;>repeat' (first|exact trivial|exact WkD.same _|exact WkO.same _ _ rfl|refine ⟨?_, ?_⟩|fail))⟩
  rintro ⟨_, h2⟩
  have hl64 : l.length ≤ 64 := by have := of_decide_eq_false h2; omega
  have hres : (bif (((l, e) : List (Nat × Nat) × Int).2 != 0) then (noMo, ([] : List (Nat × Nat)), ((l, e) : List (Nat × Nat) × Int).2) else bif decide ((((l, e) : List (Nat × Nat) × Int).1.length : Int) > 64) then (noMo, [], 8) else (prodM m a ((l, e) : List (Nat × Nat) × Int).1, ((l, e) : List (Nat × Nat) × Int).1, (0 : Int))) = (prodM m a l, l, 0) := by
    rw [show (((l, e) : List (Nat × Nat) × Int).2 != 0) = false from h1, show decide ((((l, e) : List (Nat × Nat) × Int).1.length : Int) > 64) = false from h2]; rfl
  rw [hres]
  clear hres
  try conv=>whnf
  refine ⟨Unit, fun _ => [(2, .ref 0 0), (3, .ref 1 0), (4, .ref 2 0), (7, .ref 3 0), (9, .clo 60 [] [.ref 3 0]), (10, .ref 4 0)], fun _ => 5, fun _ => [(0, .var (cellsM m)), (1, .var (cellsA a)), (2, .var cells0), (3, .var [.pv (.sl (l.map pairPV))]), (4, .var [.pv (i64 (l.map pairPV).length), .pv (rowPV (vsU m a l m.val.length)), .pv .nil])], ?_, ?_⟩
  · try conv=>whnf
    refine ⟨{ i : Nat // i ≤ m.val.length }, fun i => [(2, .ref 0 0), (3, .ref 1 0), (4, .ref 2 0), (7, .ref 3 0), (9, .clo 60 [] [.ref 3 0]), (10, .ref 4 0), (41, .pv (i64 (m.val.map u64).length)), (42, .pv (i64 i.1))], fun _ => 6, fun i => [(0, .var (cellsM m)), (1, .var (cellsA a)), (2, .var cells0), (3, .var [.pv (.sl (l.map pairPV))]), (4, .var [.pv (i64 (l.map pairPV).length), .buf 5 ((vsU m a l i.1).map u64).length, .pv .nil]), (5, .arr 1 ((vsU m a l i.1).map u64))], fun i => m.val.length - i.1, ⟨⟨0, Nat.zero_le _⟩, (by refine Wk.of ?_ ?_ rfl rfl rfl<;>repeat' (first|exact trivial|exact WkD.same _|exact WkO.same _ _ rfl|exact WkD.new' rfl rfl rfl|exact WkO.new _ _ rfl|refine WkO.vars rfl ?_|exact rfl|refine ⟨?_, ?_⟩|fail))⟩, ?_⟩
    rintro ⟨i, hi⟩
    (try conv=>whnf);repeat' (first|(apply And.intro<;>try conv=>whnf)|(intro h;try conv=>whnf)|(apply Or.inl;try conv=>whnf)|fail)
    · rfl
    · exact Int.natCast_nonneg _
    · show ((a.pre.map fpv).length : Int) ≤ 4294967296
      rw [List.length_map]; omega
    · have hi' : i < m.val.length := by simpa using lt_dec h
      have hN : ((a.pre.map fpv).length : Int).toNat = a.pre.length := by rw [List.length_map]; rfl
      have hz1 : List.replicate ((a.pre.map fpv).length : Int).toNat (PV.int .u64 0) = (mixV a.pre.length (fun e => u64 (valuP m a e i)) (fun _ => u64 0) 0) := by rw [hN]; exact mixV_rep _ _ _
      have hmlv := mixV_len a.pre.length (fun e => u64 (valuP m a e i)) (fun _ => u64 0)
      refine ⟨Unit, fun _ => [(2, .ref 0 0), (3, .ref 1 0), (4, .ref 2 0), (7, .ref 3 0), (9, .clo 60 [] [.ref 3 0]), (10, .ref 4 0), (12, .ref 7 0), (41, .pv (i64 (m.val.map u64).length)), (42, .pv (i64 i))], fun _ => 8, fun _ => [(0, .var (cellsM m)), (1, .var (cellsA a)), (2, .var cells0), (3, .var [.pv (.sl (l.map pairPV))]), (4, .var [.pv (i64 (l.map pairPV).length), .buf 5 ((vsU m a l i).map u64).length, .pv .nil]), (5, .arr 1 ((vsU m a l i).map u64)), (7, .var [.pv (.sl (mixV a.pre.length (fun e => u64 (valuP m a e i)) (fun _ => u64 0) a.pre.length))])], ?_, ?_⟩
      · try conv=>whnf
        refine ⟨{ k : Nat // k ≤ a.pre.length }, fun k => [(2, .ref 0 0), (3, .ref 1 0), (4, .ref 2 0), (7, .ref 3 0), (9, .clo 60 [] [.ref 3 0]), (10, .ref 4 0), (11, .pv (i64 i)), (12, .ref 7 0), (41, .pv (i64 (m.val.map u64).length)), (42, .pv (i64 i)), (50, .pv (i64 a.pre.length)), (51, .pv (i64 k.1))], fun _ => 8, fun k => [(0, .var (cellsM m)), (1, .var (cellsA a)), (2, .var cells0), (3, .var [.pv (.sl (l.map pairPV))]), (4, .var [.pv (i64 (l.map pairPV).length), .buf 5 ((vsU m a l i).map u64).length, .pv .nil]), (5, .arr 1 ((vsU m a l i).map u64)), (6, .arr 1 (mixV a.pre.length (fun e => u64 (valuP m a e i)) (fun _ => u64 0) k.1)), (7, .var [.buf 6 (mixV a.pre.length (fun e => u64 (valuP m a e i)) (fun _ => u64 0) k.1).length])], fun k => a.pre.length - k.1, ⟨⟨0, Nat.zero_le _⟩, ?_⟩, ?_⟩
        · (refine Wk.of ?_ ?_ rfl rfl rfl<;>repeat' (first|exact trivial|exact WkD.same _|exact WkO.same _ _ rfl|refine WkD.int ?_|refine WkO.vars rfl ?_|refine ⟨?_, ?_⟩|fail))
          · exact congrArg (fun z : Nat => (z : Int)) ((List.length_replicate ..).trans hN)
          · exact WkO.same _ _ (congrArg (fun z => some (DObj.arr 1 z)) hz1)
          · exact WkD.eq (congrArg (fun z : List PV => DV.buf 6 z.length) hz1)
        rintro ⟨k, hk⟩
        have hmk := hmlv k
        have hmk1 := hmlv (k + 1)
        have hst := mixV_set (n := a.pre.length) (p := fun e => u64 (valuP m a e i)) (q := fun _ => u64 0) (e := k)
        (try conv=>whnf);repeat' (first|(apply And.intro<;>try conv=>whnf)|(intro h;try conv=>whnf)|fail)
        · have hk' : k < a.pre.length := lt_dec h
          have hV := ac_Value a k i hfa hl hp
          have hv0 := valI_ok hma hk' hi'
          obtain ⟨g, hg⟩ : ∃ g, valI a k i = (g, 0) := ⟨(valI a k i).1, Prod.ext rfl hv0⟩
          rw [hg] at hV
          have hH := ck_Holds m g hf
          have hvp : (holdsI m g).1 = valuP m a k i := by rw [valuP, hg]
          obtain ⟨z, hz⟩ : ∃ z, holdsI m g = (valuP m a k i, z) := ⟨(holdsI m g).2, Prod.ext hvp rfl⟩
          rw [hz] at hH
          (try conv=>whnf);repeat' (first|(apply And.intro<;>try conv=>whnf)|(intro h;try conv=>whnf)|(refine PureFn.dcq (f := 61) rfl ?_;try conv=>whnf)|(refine ⟨_, _, hV, ?_, ?_⟩;(focus first|(refine ⟨?_, ?_, ?_, trivial⟩<;>first|exact PLe.refl _|exact PLe.nil)|exact trivial);try conv=>whnf)|fail)
          · cases h
          refine ⟨Plan.lin 0 10, [9], by kernel_rfl, ?_⟩
          (try conv=>whnf);repeat' (first|(apply And.intro<;>try conv=>whnf)|(refine ⟨_, (by (conv=>whnf);exact hH), rfl, ?_⟩;try conv=>whnf)|fail)
          refine ⟨k, rfl, by rw [hmk]; exact hk', ?_⟩
          (try conv=>whnf);repeat' (first|(apply And.intro<;>try conv=>whnf)|fail)
          refine ⟨_, mixV_old hk', Nat.le_refl 1, ?_⟩
          try conv=>whnf
          refine ⟨⟨k + 1, hk'⟩, by show a.pre.length - (k + 1) < a.pre.length - k; omega, ?_⟩
          (refine Wk.of ?_ ?_ rfl rfl rfl<;>repeat' (first|exact trivial|exact WkD.same _|exact WkO.same _ _ rfl|refine WkD.int ?_|refine WkO.vars rfl ?_|refine ⟨?_, ?_⟩|(refine wrapA ?_ ?_ ?_;(focus simp;done);(focus (try dsimp only);omega);(focus (try dsimp only);omega))|fail))
          · exact WkO.same _ _ (congrArg (fun z => some (DObj.arr 1 z)) hst)
          · exact WkD.eq (congrArg (DV.buf 6) (hmk.trans hmk1.symm))
        · have hk' : k = a.pre.length := ge_dec h hk
          subst hk'
          exact ⟨(), (by refine Wk.of ?_ ?_ rfl rfl rfl<;>repeat' (first|exact trivial|exact WkD.same _|exact WkO.same _ _ rfl|exact WkD.fz _ _ _ rfl (Or.inl ⟨_, rfl⟩) rfl|refine WkO.vars rfl ?_|refine ⟨?_, ?_⟩|fail))⟩
      rintro ⟨⟩
      have hvl : (mixV a.pre.length (fun e => u64 (valuP m a e i)) (fun _ => u64 0) a.pre.length) = (vlU m a i).map u64 := by rw [mixV_full, vlU, List.map_map]; rfl
      have hlv : (vlU m a i).length = a.pre.length := by simp [vlU]
      have hv64 : ∀ s, s ∈ vlU m a i → s < 2 ^ 64 := fun s hs => by
        obtain ⟨e, _, rfl⟩ := List.mem_map.1 hs
        exact Nat.lt_of_lt_of_le (holds_lt n hM) (pow64_le hn64)
      have hmk : maskOf (fun k => ((vlU m a i).getD (l.getD k (0, 0)).2 0).testBit (l.getD k (0, 0)).1) l.length = valP m a l i := maskOf_congr fun k hk => by
        rw [vlU_get (hmem _ (List.mem_iff_getElem?.2 ⟨k, getD_mem hk⟩)).2]
      have hvs := vsU_succ m a l i
      have hvsl : ((vsU m a l i).map u64).length ≤ 1000 := by simp [vsU]; omega
      rw [hvl]
      try conv=>whnf
      have er : (vsU m a l i).map u64 ++ [PV.int .u64 ((valP m a l i : Nat) : Int)] = (vsU m a l (i + 1)).map u64 := by rw [hvs, List.map_append]; rfl
      have hlpV : ∀ y, y ∈ l → y.1 < 64 ∧ y.2 < (vlU m a i).length := fun y hy => ⟨by have := (hmem y hy).1; omega, by rw [hlv]; exact (hmem y hy).2⟩
      refine ⟨updPlan, [4, 6, 8], by kernel_rfl, ?_⟩
      (try conv=>whnf);repeat' (first|(apply And.intro<;>try conv=>whnf)|fail)
      all_goals (refine whr_V m a l (vsU m a l i) (vlU m a i) hlpV hv64 hl64 _ _ ?_)
      all_goals (rw [hmk])
      all_goals ((try conv=>whnf);repeat' (first|(apply And.intro<;>try conv=>whnf)|(apply cellsI;rfl)|(apply szI;rfl)|fail))
      · exact app_big (n := 1000) hvsl (by decide)
      · refine ⟨⟨i + 1, hi'⟩, by show m.val.length - (i + 1) < m.val.length - i; omega, ?_⟩
        (refine Wk.of ?_ ?_ rfl rfl rfl<;>repeat' (first|exact trivial|exact WkD.same _|exact WkO.same _ _ rfl|exact WkD.eq (congrArg (fun z : List PV => DV.buf _ z.length) er)|exact WkO.same _ _ (congrArg (fun z => some (DObj.arr _ z)) er)|refine WkD.int ?_|refine WkO.vars rfl ?_|refine ⟨?_, ?_⟩|(refine wrapA ?_ ?_ ?_;(focus simp;done);(focus (try dsimp only);omega);(focus (try dsimp only);omega))|fail))
      · exact app_big (n := 1000) hvsl (by decide)
      · refine ⟨⟨i + 1, hi'⟩, by show m.val.length - (i + 1) < m.val.length - i; omega, ?_⟩
        (refine Wk.of ?_ ?_ rfl rfl rfl<;>repeat' (first|exact trivial|exact WkD.same _|exact WkO.same _ _ rfl|exact WkD.eq (congrArg (fun z : List PV => DV.buf _ z.length) er)|exact WkO.same _ _ (congrArg (fun z => some (DObj.arr _ z)) er)|refine WkD.int ?_|refine WkO.vars rfl ?_|refine ⟨?_, ?_⟩|(refine wrapA ?_ ?_ ?_;(focus simp;done);(focus (try dsimp only);omega);(focus (try dsimp only);omega))|fail))
      · exact app_big (n := 1000) hvsl (by decide)
      · refine ⟨⟨i + 1, hi'⟩, by show m.val.length - (i + 1) < m.val.length - i; omega, ?_⟩
        (refine Wk.of ?_ ?_ rfl rfl rfl<;>repeat' (first|exact trivial|exact WkD.same _|exact WkO.same _ _ rfl|exact WkD.eq (congrArg (fun z : List PV => DV.buf _ z.length) er)|exact WkO.same _ _ (congrArg (fun z => some (DObj.arr _ z)) er)|refine WkD.int ?_|refine WkO.vars rfl ?_|refine ⟨?_, ?_⟩|(refine wrapA ?_ ?_ ?_;(focus simp;done);(focus (try dsimp only);omega);(focus (try dsimp only);omega))|fail))
    · have hi' : i = m.val.length := by have := ge_dec (m := (m.val.map u64).length) h (by simpa using hi); simpa using this
      subst hi'
      exact ⟨(), (by refine Wk.of ?_ ?_ rfl rfl rfl<;>repeat' (first|exact trivial|exact WkD.same _|exact WkO.same _ _ rfl|exact WkD.fz _ _ _ rfl (Or.inl ⟨_, rfl⟩) rfl|refine WkO.vars rfl ?_|refine ⟨?_, ?_⟩|fail))⟩
  rintro ⟨⟩
  generalize hVS : (vsU m a l m.val.length) = vs
  refine ⟨Unit, fun _ => [(4, .ref 2 0), (7, .ref 3 0), (10, .ref 4 0)], fun _ => 5, fun _ => [(2, .var cells0), (3, .var [.pv (.sl (l.map pairPV))]), (4, .var [.pv (i64 (l.map pairPV).length), .pv (rowPV vs), .pv (.sl ((rsU m a l m.rel.length).map rowPV))])], ?_, ?_⟩
  · try conv=>whnf
    refine ⟨{ i : Nat // i ≤ m.rel.length }, fun i => [(2, .ref 0 0), (3, .ref 1 0), (4, .ref 2 0), (7, .ref 3 0), (9, .clo 60 [] [.ref 3 0]), (10, .ref 4 0), (85, .pv (.sl (m.rel.map rowPV))), (86, .pv (i64 (m.rel.map rowPV).length)), (87, .pv (i64 i.1))], fun _ => 6, fun i => [(0, .var (cellsM m)), (1, .var (cellsA a)), (2, .var cells0), (3, .var [.pv (.sl (l.map pairPV))]), (4, .var [.pv (i64 (l.map pairPV).length), .pv (rowPV vs), .buf 5 ((rsU m a l i.1).map rowPV).length]), (5, .arr 1 ((rsU m a l i.1).map rowPV))], fun i => m.rel.length - i.1, ⟨⟨0, Nat.zero_le _⟩, (by refine Wk.of ?_ ?_ rfl rfl rfl<;>repeat' (first|exact trivial|exact WkD.same _|exact WkO.same _ _ rfl|exact WkD.new' rfl rfl rfl|exact WkO.new _ _ rfl|refine WkO.vars rfl ?_|exact rfl|refine ⟨?_, ?_⟩|fail))⟩, ?_⟩
    rintro ⟨i, hi⟩
    (try conv=>whnf);repeat' (first|(apply And.intro<;>try conv=>whnf)|(intro h;try conv=>whnf)|(apply infoT;rfl)|fail)
    · have hi' : i < m.rel.length := by simpa using lt_dec h
      obtain ⟨r, hr, hrw⟩ : ∃ r, m.rel[i]? = some r ∧ m.rel.getD i [] = r := ⟨_, getD_mem hi', rfl⟩
      have hrm : r ∈ m.rel := List.mem_iff_getElem?.2 ⟨i, hr⟩
      have hrl := hM.rows r hrm
      have hrb := hf.2 r hrm
      obtain ⟨ra, hra, hraw⟩ : ∃ r, a.rel[i]? = some r ∧ a.rel.getD i [] = r := ⟨_, getD_mem (by have := hO.ags; omega), rfl⟩
      have hram : ra ∈ a.rel := List.mem_iff_getElem?.2 ⟨i, hra⟩
      have hral := hO.rows ra hram
      have hrab := hfa ra hram
      have hN : ((l.map pairPV).length : Int).toNat = l.length := by rw [List.length_map]; rfl
      have hz1 : List.replicate ((l.map pairPV).length : Int).toNat (PV.int .u64 0) = (mixV l.length (fun k => u64 (rowP r ra l (l.getD k (0, 0)))) (fun _ => u64 0) 0) := by rw [hN]; exact mixV_rep _ _ _
      have hmlv := mixV_len l.length (fun k => u64 (rowP r ra l (l.getD k (0, 0)))) (fun _ => u64 0)
      refine ⟨_, _, rfl, idx_map hr, rfl, ?_⟩
      (try conv=>whnf);repeat' (first|(apply And.intro<;>try conv=>whnf)|(apply Or.inl;try conv=>whnf)|fail)
      · rfl
      · exact Int.natCast_nonneg _
      · show ((l.map pairPV).length : Int) ≤ 4294967296
        rw [List.length_map]; omega
      refine ⟨Unit, fun _ => [(2, .ref 0 0), (3, .ref 1 0), (4, .ref 2 0), (7, .ref 3 0), (9, .clo 60 [] [.ref 3 0]), (10, .ref 4 0), (18, .pv (.sl (mixV l.length (fun k => u64 (rowP r ra l (l.getD k (0, 0)))) (fun _ => u64 0) l.length))), (85, .pv (.sl (m.rel.map rowPV))), (86, .pv (i64 (m.rel.map rowPV).length)), (87, .pv (i64 i))], fun _ => 6, fun _ => [(0, .var (cellsM m)), (1, .var (cellsA a)), (2, .var cells0), (3, .var [.pv (.sl (l.map pairPV))]), (4, .var [.pv (i64 (l.map pairPV).length), .pv (rowPV vs), .buf 5 ((rsU m a l i).map rowPV).length]), (5, .arr 1 ((rsU m a l i).map rowPV))], ?_, ?_⟩
      · try conv=>whnf
        refine ⟨{ k : Nat // k ≤ l.length }, fun k => [(2, .ref 0 0), (3, .ref 1 0), (4, .ref 2 0), (7, .ref 3 0), (9, .clo 60 [] [.ref 3 0]), (10, .ref 4 0), (16, .ref 6 0), (17, .ref 7 0), (18, .buf 8 (mixV l.length (fun k => u64 (rowP r ra l (l.getD k (0, 0)))) (fun _ => u64 0) k.1).length), (85, .pv (.sl (m.rel.map rowPV))), (86, .pv (i64 (m.rel.map rowPV).length)), (87, .pv (i64 i)), (95, .pv (.sl (l.map pairPV))), (96, .pv (i64 (l.map pairPV).length)), (97, .pv (i64 k.1))], fun _ => 9, fun k => [(0, .var (cellsM m)), (1, .var (cellsA a)), (2, .var cells0), (3, .var [.pv (.sl (l.map pairPV))]), (4, .var [.pv (i64 (l.map pairPV).length), .pv (rowPV vs), .buf 5 ((rsU m a l i).map rowPV).length]), (5, .arr 1 ((rsU m a l i).map rowPV)), (6, .var [.pv (i64 i)]), (7, .var [.pv (rowPV r)]), (8, .arr 1 (mixV l.length (fun k => u64 (rowP r ra l (l.getD k (0, 0)))) (fun _ => u64 0) k.1))], fun k => l.length - k.1, ⟨⟨0, Nat.zero_le _⟩, ?_⟩, ?_⟩
        · (refine Wk.of ?_ ?_ rfl rfl rfl<;>repeat' (first|exact trivial|exact WkD.same _|exact WkO.same _ _ rfl|refine ⟨?_, ?_⟩|fail))
          · exact WkD.eq (congrArg (fun z : List PV => DV.buf 8 z.length) hz1)
          · exact WkO.same _ _ (congrArg (fun z => some (DObj.arr 1 z)) hz1)
        rintro ⟨k, hk⟩
        have hmk := hmlv k
        have hmk1 := hmlv (k + 1)
        have hst := mixV_set (n := l.length) (p := fun k => u64 (rowP r ra l (l.getD k (0, 0)))) (q := fun _ => u64 0) (e := k)
        (try conv=>whnf);repeat' (first|(apply And.intro<;>try conv=>whnf)|(intro h;try conv=>whnf)|(apply infoT;rfl)|fail)
        · have hk' : k < l.length := by simpa using lt_dec h
          obtain ⟨x, hx, hxw⟩ : ∃ y, l[k]? = some y ∧ l.getD k (0, 0) = y := ⟨_, getD_mem hk', rfl⟩
          have hxm := hmem x (List.mem_iff_getElem?.2 ⟨k, hx⟩)
          refine ⟨_, _, rfl, idx_map hx, rfl, ?_⟩
          try conv=>whnf
          refine DC.call 10 (HW m a l vs (rsU m a l i) i r (mixV l.length (fun k => u64 (rowP r ra l (l.getD k (0, 0)))) (fun _ => u64 0) k) x) ⟨rfl, rfl, rfl, rfl, rfl, rfl, rfl, rfl, rfl, rfl, trivial⟩ rfl rfl rfl rfl fun M' => ?_
          refine whr_W m a l vs (rsU m a l i) i r (mixV l.length (fun k => u64 (rowP r ra l (l.getD k (0, 0)))) (fun _ => u64 0) k) x ra hra (by omega) (by omega) (fun y hy => by have := hmem y hy; exact ⟨by omega, by omega⟩) hrb hrab hl64 _ _ ?_
          refine ⟨rfl, ?_⟩
          (try conv=>whnf);repeat' (first|(apply And.intro<;>try conv=>whnf)|fail)
          refine ⟨k, rfl, by rw [hmk]; exact hk', ?_⟩
          (try conv=>whnf);repeat' (first|(apply And.intro<;>try conv=>whnf)|fail)
          refine ⟨_, mixV_old hk', Nat.le_refl 1, ?_⟩
          try conv=>whnf
          rw [hxw] at hst
          refine ⟨⟨k + 1, hk'⟩, by show l.length - (k + 1) < l.length - k; omega, ?_⟩
          (refine Wk.of ?_ ?_ rfl rfl rfl<;>repeat' (first|exact trivial|exact WkD.same _|exact WkO.same _ _ rfl|refine WkD.int ?_|refine ⟨?_, ?_⟩|(refine wrapA ?_ ?_ ?_;(focus simp;done);(focus (try dsimp only);omega);(focus (try dsimp only);omega))|fail))
          · exact WkD.eq (congrArg (DV.buf 8) (hmk.trans hmk1.symm))
          · exact WkO.same _ _ (congrArg (fun z => some (DObj.arr 1 z)) hst)
        · have hk' : k = l.length := by have := ge_dec (m := (l.map pairPV).length) h (by simpa using hk); simpa using this
          subst hk'
          exact ⟨(), (by refine Wk.of ?_ ?_ rfl rfl rfl<;>repeat' (first|exact trivial|exact WkD.same _|exact WkO.same _ _ rfl|exact WkD.fz _ _ _ rfl (Or.inl ⟨_, rfl⟩) rfl|refine ⟨?_, ?_⟩|fail))⟩
      rintro ⟨⟩
      have hrs := rsU_succ m a l i
      have hrsl : ((rsU m a l i).map rowPV).length ≤ 1000 := by simp [rsU]; omega
      have er : (rsU m a l i).map rowPV ++ [PV.sl (mixV l.length (fun k => u64 (rowP r ra l (l.getD k (0, 0)))) (fun _ => u64 0) l.length)] = (rsU m a l (i + 1)).map rowPV := by
        rw [hrs, List.map_append, mixV_full, relP, hrw, hraw]
        congr 1
        show [PV.sl _] = [rowPV (l.map (rowP r ra l))]
        rw [rowPV, List.map_map]
        congr 2
        exact map_getD (g := fun x => u64 (rowP r ra l x)) (d := (0, 0)) rfl
      (try conv=>whnf);repeat' (first|(apply And.intro<;>try conv=>whnf)|(apply cellsI;rfl)|(apply szI;rfl)|fail)
      · exact app_big (n := 1000) hrsl (by decide)
      refine ⟨⟨i + 1, hi'⟩, by show m.rel.length - (i + 1) < m.rel.length - i; omega, ?_⟩
      (refine Wk.of ?_ ?_ rfl rfl rfl<;>repeat' (first|exact trivial|exact WkD.same _|exact WkO.same _ _ rfl|exact WkD.eq (congrArg (fun z : List PV => DV.buf _ z.length) er)|exact WkO.same _ _ (congrArg (fun z => some (DObj.arr _ z)) er)|refine WkD.int ?_|refine WkO.vars rfl ?_|refine ⟨?_, ?_⟩|(refine wrapA ?_ ?_ ?_;(focus simp;done);(focus (try dsimp only);omega);(focus (try dsimp only);omega))|fail))
    · have hi' : i = m.rel.length := by have := ge_dec (m := (m.rel.map rowPV).length) h (by simpa using hi); simpa using this
      subst hi'
      exact ⟨(), (by refine Wk.of ?_ ?_ rfl rfl rfl<;>repeat' (first|exact trivial|exact WkD.same _|exact WkO.same _ _ rfl|exact WkD.fz _ _ _ rfl (Or.inl ⟨_, rfl⟩) rfl|refine WkO.vars rfl ?_|refine ⟨?_, ?_⟩|fail))⟩
  rintro ⟨⟩
  try conv=>whnf
  refine ⟨.one 0 (.two 1 (.one 2 (.one 3 (.one 4 .done))) 2 (.one 1 (.one 3 (.one 4 .done)))), [2], by kernel_rfl, ?_⟩
  have hfin : updPV (prodM m a l, l, 0) = .tup [.agg [i64 (l.map pairPV).length, rowPV vs, .sl ((rsU m a l m.rel.length).map rowPV)], .sl (l.map pairPV), .int .i64 0] := by rw [← hVS, List.length_map]; rfl
  (try conv=>whnf);repeat' (first|(apply And.intro<;>try conv=>whnf)|fail)
  all_goals (rw [hfin]; exact .refl _)
end Go.Proofs.YtejbieopeicgkaaGreatDoor
set_option maxRecDepth 100000
set_option maxHeartbeats 4000000
namespace Go.Proofs.YtejbieopeicgkaaGreatDoor
open Go Go.Dv

theorem rm_SameSets (l : List Nat) (hl : l.length ≤ 1000) : PureFn Tryz.prog 82 [rowPV l, rowPV l] (.bool true) := by
  refine PureFn.intro mixed (fn := Tryz.f82) rfl rfl rfl fun M w0 => ?_
  (try conv=>whnf);repeat' (first|(apply And.intro<;>try conv=>whnf)|(intro h;try conv=>whnf)|fail)
  · simp at h
  refine ⟨{ i : Nat // i ≤ l.length }, fun i => [(0, .pv (rowPV l)), (1, .pv (rowPV l)), (5, .pv (i64 i.1))], fun _ => 0, fun _ => [], fun i => l.length - i.1, ⟨⟨0, Nat.zero_le _⟩, (by refine Wk.of ?_ ?_ rfl rfl rfl<;>repeat' (first|exact trivial|exact WkD.same _|refine ⟨?_, ?_⟩|fail))⟩, ?_⟩
  rintro ⟨i, hi⟩
  (try conv=>whnf);repeat' (first|(apply And.intro<;>try conv=>whnf)|(intro h;try conv=>whnf)|(apply infoT;rfl)|(refine lin_plan (by kernel_rfl) ?_;try conv=>whnf)|fail)
  · have hi' : i < l.length := by simpa using lt_dec h
    have hm : l[i]? = some l[i] := List.getElem?_eq_getElem hi'
    refine ⟨_, _, rfl, idx_map hm, rfl, ?_⟩
    (try conv=>whnf);repeat' (first|(apply And.intro<;>try conv=>whnf)|(intro h;try conv=>whnf)|(apply infoT;rfl)|(refine ⟨_, _, rfl, idx_map (by with_reducible assumption), rfl, ?_⟩;try conv=>whnf)|fail)
    · simp at h
    · exact ⟨⟨i + 1, hi'⟩, by show l.length - (i + 1) < l.length - i; omega, (by refine Wk.of ?_ ?_ rfl rfl rfl<;>repeat' (first|exact trivial|exact WkD.same _|refine WkD.int ?_|refine ⟨?_, ?_⟩|(refine wrapA ?_ ?_ ?_;(focus simp;done);(focus (try dsimp only);omega);(focus (try dsimp only);omega))|fail))⟩
  · exact .refl _
theorem rm_Same (m : Mo) (h1 : m.val.length ≤ 1000) (h2 : m.rel.length ≤ 1000) (h3 : ∀ r, r ∈ m.rel → r.length ≤ 1000) : PureFn Tryz.prog 26 [m.pv, m.pv] (.bool true) := by
  refine PureFn.introC [3] mixed (fn := Tryz.f26) rfl rfl rfl fun M w0 => ?_
  have hS := rm_SameSets m.val h1
  try conv=>whnf
  refine ⟨Unit, fun _ => [(2, .ref 0 0), (3, .ref 1 0)], fun _ => 2, fun _ => [(0, .var (cellsM m)), (1, .var (cellsM m))], ?_, ?_⟩
  · (try conv=>whnf);repeat' (first|(apply And.intro<;>try conv=>whnf)|(intro h;try conv=>whnf)|apply True.intro|(apply WhenQ.mk;(try conv=>whnf);rotate_left;(try conv=>whnf);rotate_right)|with_reducible assumption|(apply not_of;with_reducible assumption)|(refine PureFn.dcq (f := 82) rfl ?_;try conv=>whnf)|(refine ⟨_, _, hS, ?_, ?_⟩;(focus first|(refine ⟨?_, ?_, trivial⟩<;>first|exact PLe.refl _|exact PLe.nil)|exact trivial);try conv=>whnf)|fail)
    · simp at h
    · exact ⟨(), (by refine Wk.of ?_ ?_ rfl rfl rfl<;>repeat' (first|exact trivial|exact WkD.same _|exact WkO.same _ _ rfl|refine ⟨?_, ?_⟩|fail))⟩
  rintro ⟨⟩
  try conv=>whnf
  refine ⟨{ i : Nat // i ≤ m.rel.length }, fun i => [(2, .ref 0 0), (3, .ref 1 0), (5, .pv (i64 i.1))], fun _ => 2, fun _ => [(0, .var (cellsM m)), (1, .var (cellsM m))], fun i => m.rel.length - i.1, ⟨⟨0, Nat.zero_le _⟩, (by refine Wk.of ?_ ?_ rfl rfl rfl<;>repeat' (first|exact trivial|exact WkD.same _|exact WkO.same _ _ rfl|refine ⟨?_, ?_⟩|fail))⟩, ?_⟩
  rintro ⟨i, hi⟩
  (try conv=>whnf);repeat' (first|(apply And.intro<;>try conv=>whnf)|(intro h;try conv=>whnf)|(apply infoT;rfl)|(refine lin_plan (by kernel_rfl) ?_;try conv=>whnf)|fail)
  · have hi' : i < m.rel.length := by simpa using lt_dec h
    have hm : m.rel[i]? = some m.rel[i] := List.getElem?_eq_getElem hi'
    have hS2 := rm_SameSets m.rel[i] (h3 _ (List.getElem_mem hi'))
    refine ⟨_, _, rfl, idx_map hm, rfl, ?_⟩
    (try conv=>whnf);repeat' (first|(apply And.intro<;>try conv=>whnf)|(intro h;first|with_reducible exact nt0 h|try conv=>whnf)|(apply infoT;rfl)|(refine ⟨_, _, rfl, idx_map (by with_reducible assumption), rfl, ?_⟩;try conv=>whnf)|(refine ⟨_, (by (conv=>whnf);exact hS2), rfl, ?_⟩;try conv=>whnf)|fail)
    exact ⟨⟨i + 1, hi'⟩, by show m.rel.length - (i + 1) < m.rel.length - i; omega, (by refine Wk.of ?_ ?_ rfl rfl rfl<;>repeat' (first|exact trivial|exact WkD.same _|exact WkO.same _ _ rfl|refine WkD.int ?_|refine ⟨?_, ?_⟩|(refine wrapA ?_ ?_ ?_;(focus simp;done);(focus (try dsimp only);omega);(focus (try dsimp only);omega))|fail))⟩
  · exact .refl _
def fewB (m : Mo) (k : Int) : Bool := bif bif bif decide (m.n > k) then decide (m.n ≤ 64) else false then true else decide ((m.val.length : Int) > 20) then true else decide ((m.rel.length : Int) > 10)
def fewM (m : Mo) (k : Int) : Bool := bif fewB m k then false else !(m.rel.any fun r => decide ((r.length : Int) > 70))
theorem rm_Few (m : Mo) (k : Int) : PureFn Tryz.prog 11 [m.pv, .int .i64 k] (.bool (fewM m k)) := by
  refine PureFn.introC [3] mixed (fn := Tryz.f11) rfl rfl rfl fun M w0 => ?_
  have e1 : ((m.val.map u64).length : Int) = (m.val.length : Int) := by simp
  have e2 : ((m.rel.map rowPV).length : Int) = (m.rel.length : Int) := by simp
  try conv=>whnf
  refine ⟨{ _x : Unit // fewB m k = false }, fun _ => [(2, .ref 0 0)], fun _ => 1, fun _ => HM m, ?_, ?_⟩
  · (try conv=>whnf);repeat' (first|(apply And.intro<;>try conv=>whnf)|(intro h;try conv=>whnf)|apply True.intro|(apply WhenQ.mk;(try conv=>whnf);rotate_left;(try conv=>whnf);rotate_right)|with_reducible assumption|(apply not_of;with_reducible assumption)|fail)
    · have h9 : fewB m k = true := by rw [fewB, ← e1, ← e2]; exact h
      rw [fewM, h9]; exact .refl _
    · have h9 : fewB m k = false := by rw [fewB, ← e1, ← e2]; exact h
      exact ⟨⟨(), h9⟩, (by refine Wk.of ?_ ?_ rfl rfl rfl<;>repeat' (first|exact trivial|exact WkD.same _|exact WkO.same _ _ rfl|refine ⟨?_, ?_⟩|fail))⟩
  rintro ⟨_, h1⟩
  have hrl : m.rel.length ≤ 10 := by
    unfold fewB at h1
    cases q1 : (bif bif decide (m.n > k) then decide (m.n ≤ 64) else false then true else decide ((m.val.length : Int) > 20)) with
    | true => rw [q1] at h1; cases h1
    | false =>
      rw [q1] at h1
      have := of_decide_eq_false (show decide ((m.rel.length : Int) > 10) = false from h1)
      omega
  try conv=>whnf
  refine ⟨{ i : Nat // i ≤ m.rel.length ∧ (m.rel.take i).any (fun r => decide ((r.length : Int) > 70)) = false }, fun i => [(2, .ref 0 0), (5, .pv (i64 i.1))], fun _ => 1, fun _ => HM m, fun i => m.rel.length - i.1, ⟨⟨0, Nat.zero_le _, rfl⟩, (by refine Wk.of ?_ ?_ rfl rfl rfl<;>repeat' (first|exact trivial|exact WkD.same _|exact WkO.same _ _ rfl|refine ⟨?_, ?_⟩|fail))⟩, ?_⟩
  rintro ⟨i, hi, ha⟩
  (try conv=>whnf);repeat' (first|(apply And.intro<;>try conv=>whnf)|(intro h;try conv=>whnf)|(apply infoT;rfl)|fail)
  · have hi' : i < m.rel.length := by simpa using lt_dec h
    have hm : m.rel[i]? = some m.rel[i] := List.getElem?_eq_getElem hi'
    have e3 : (((m.rel[i]).map u64).length : Int) = ((m.rel[i]).length : Int) := by simp
    refine ⟨_, _, rfl, idx_map hm, rfl, ?_⟩
    (try conv=>whnf);repeat' (first|(apply And.intro<;>try conv=>whnf)|(intro h;try conv=>whnf)|fail)
    · have e : (m.rel.any fun r => decide ((r.length : Int) > 70)) = true := any_at hi' (by rw [← e3]; exact h)
      rw [fewM, h1, e]; exact .refl _
    · exact ⟨⟨i + 1, hi', any_take hi' ha (by rw [← e3]; exact h)⟩, by show m.rel.length - (i + 1) < m.rel.length - i; omega, (by refine Wk.of ?_ ?_ rfl rfl rfl<;>repeat' (first|exact trivial|exact WkD.same _|exact WkO.same _ _ rfl|refine WkD.int ?_|refine ⟨?_, ?_⟩|(refine wrapA ?_ ?_ ?_;(focus simp;done);(focus (try dsimp only);omega);(focus (try dsimp only);omega))|fail))⟩
  · have hi' : i = m.rel.length := by have := ge_dec (m := (m.rel.map rowPV).length) h (by simpa using hi); simpa using this
    subst hi'
    rw [List.take_length] at ha
    rw [fewM, h1, ha]; exact .refl _
end Go.Proofs.YtejbieopeicgkaaGreatDoor
set_option maxRecDepth 100000
set_option maxHeartbeats 4000000
namespace Go.Proofs.YtejbieopeicgkaaGreatDoor
open Go Go.Dv

theorem updI_len (m : Mo) (a : Act) : (updI m a).2.1.length ≤ 64 := by
  unfold updI
  cases ((worldsI m a).2 != 0) with
  | true => exact Nat.zero_le _
  | false =>
    cases h : decide (((worldsI m a).1.length : Int) > 64) with
    | true => exact Nat.zero_le _
    | false =>
      have := of_decide_eq_false h
      show (worldsI m a).1.length ≤ 64
      omega
end Go.Proofs.YtejbieopeicgkaaGreatDoor
set_option maxRecDepth 100000
set_option maxHeartbeats 8000000
namespace Go.Proofs.YtejbieopeicgkaaGreatDoor
open Go Go.Dv

def natsPV (l : List Nat) : PV := .sl (l.map i64)
def hisPV (ps : List (List Nat)) : PV := .sl (ps.map natsPV)
def longP (ps : List (List Nat)) (l : List (Nat × Nat)) : List (List Nat) := l.map fun q => ps.getD q.1 [] ++ [q.2]
def startP (k : Nat) : List (List Nat) := (List.range k).map fun w => [w]
def seqF : Mo → List (List Nat) → List Act → Mo × List (List Nat) × Int
  | n, ps, [] => (n, ps, 0)
  | n, ps, a :: r => bif (updI n a).2.2 != 0 then (noMo, [], (updI n a).2.2) else seqF (updI n a).1 (longP ps (updI n a).2.1) r
def seqI (m : Mo) (l : List Act) : Mo × List (List Nat) × Int := bif moI m != 0 then (noMo, [], moI m) else seqF m (startP m.n.toNat) l
def seqPV (x : Mo × List (List Nat) × Int) : PV := .tup [x.1.pv, hisPV x.2.1, .int .i64 x.2.2]
theorem le_seq (e : Int) : PLe (.tup [.agg [.int .i64 0, .nil, .nil], .nil, .int .i64 e]) (seqPV (noMo, [], e)) := PLe.tups ⟨le_noMo, .nil, .refl _, trivial⟩
/-- What is known of a model and the histories of its worlds. -/
structure SeqOk (n : Mo) (ps : List (List Nat)) : Prop where
  fit : FitM n
  len : ∀ k, OkM n k → k ≤ ps.length
  ne : ∀ p, p ∈ ps → p ≠ []
  few : ps.length ≤ 64
  short : ∀ p, p ∈ ps → p.length ≤ 500
theorem upd_parts {n : Mo} {a : Act} (h : (updI n a).2.2 = 0) : ∃ k, OkM n k ∧ OkM (updI n a).1 (updI n a).2.1.length ∧ (updI n a).2.1.length ≤ 64 ∧ ∀ q, q ∈ (updI n a).2.1 → q.1 < k := by
  have hl := updI_len n a
  have hw : (worldsI n a).2 = 0 := by
    cases hb : ((worldsI n a).2 != 0) with
    | true => rw [updI, hb] at h; exact h
    | false => simpa using hb
  obtain ⟨k1, k2, k3⟩ := worldsI_ok hw
  obtain ⟨⟨k, hM⟩, hA⟩ := moaI_ok k1
  have hb : ((worldsI n a).2 != 0) = false := by rw [hw]; rfl
  cases hc : decide (((worldsI n a).1.length : Int) > 64) with
  | true => rw [updI, hb, hc] at h; cases h
  | false =>
    have he : updI n a = (prodM n a (worldsI n a).1, (worldsI n a).1, 0) := by rw [updI, hb, hc]; rfl
    have h64 := of_decide_eq_false hc
    rw [he] at hl ⊢
    rw [k2] at hl ⊢
    refine ⟨k, hM, prod_ok hM k3 hl, hl, fun q hq => ?_⟩
    rw [pairsL, hM.nn] at hq
    exact (pairsW_mem.1 hq).1
theorem SeqOk.next {n : Mo} {ps : List (List Nat)} {a : Act} (h : SeqOk n ps) (h0 : (updI n a).2.2 = 0) (hs : ∀ p, p ∈ ps → p.length ≤ 499) : SeqOk (updI n a).1 (longP ps (updI n a).2.1) := by
  obtain ⟨k, h1, h2, h3, h4⟩ := upd_parts h0
  have hl : (longP ps (updI n a).2.1).length = (updI n a).2.1.length := List.length_map _
  refine ⟨h2.fit, fun j hj => ?_, fun p hp => ?_, by omega, fun p hp => ?_⟩
  · have e1 := hj.nn
    have e2 := h2.nn
    omega
  · obtain ⟨q, _, rfl⟩ := List.mem_map.1 hp
    simp
  · obtain ⟨q, hq, rfl⟩ := List.mem_map.1 hp
    have hlt := h4 q hq
    have := h.len k h1
    have hm : ps.getD q.1 [] ∈ ps := by
      rw [List.getD_eq_getElem?_getD, List.getElem?_eq_getElem (show q.1 < ps.length by omega)]
      exact List.getElem_mem _
    have := hs _ hm
    rw [List.length_append]; simp only [List.length_singleton]; omega
theorem upd_bad {m : Mo} (h : moI m ≠ 0) (a : Act) : updI m a = (noMo, [], moI m) := by
  have hb : (moI m != 0) = true := by simpa using h
  have h1 : moaI m a = moI m := by rw [moaI, hb]; rfl
  have h2 : worldsI m a = ([], moI m) := by rw [worldsI, h1, hb]; rfl
  rw [updI, h2, hb]; rfl
theorem seq_bad {m : Mo} (h : moI m ≠ 0) {ps : List (List Nat)} {a : Act} {l : List Act} : seqF m ps (a :: l) = (noMo, [], moI m) := by
  rw [seqF, upd_bad h]
  show (bif moI m != 0 then _ else _) = _
  rw [show (moI m != 0) = true by simpa using h]; rfl

/-! copies -/
theorem cells_i64 (l : List Nat) : cellsAll 1 (l.map i64) = true := by simp [cellsAll, i64, PV.cells, PV.one]
/-- An empty list, nil or not. -/
theorem pure_raw {P : Program} {f : FuncId} {p : PV} (hcb : callable P f = true) (h : ∀ (M : Nat → Prop) (w0 : W0) (ad : Option Addr) (c : Nat), DC P M w0 f [.raw (.slice ad 0 c)] noHeap fun d L' => frz d L' fun q _ => PLe q p) : PureFn P f [.sl []] p := by
  refine PureFn.mk ⟨hcb, fun M w vs hG hM hrel => ?_⟩
  rcases vs with _ | ⟨v, _ | ⟨v2, vs⟩⟩
  · have := hrel.1; simp at this
  · obtain ⟨ad, c, rfl⟩ : ∃ ad c, v = .slice ad 0 c := by
      have hv := hrel.2 0 _ v rfl rfl
      generalize hlx : PV.sl [] = pl at hv
      cases hv with
      | e0 a c => exact ⟨_, _, rfl⟩
      | sl b off sz cap l val g1 g2 g3 g4 g5 g6 =>
        cases hlx
        exact ⟨_, _, rfl⟩
      | _ => cases hlx
    have hr : HR M ⟨w, fun _ _ => False⟩ (fun _ => ⟨0, 0⟩) noHeap w := ⟨Go.RowKit.Below.refl _ _, hM, fun k o hk => (by cases hk), fun k o hk => (by cases hk), fun k o k' o' hk => (by cases hk), fun k o hk => (by cases hk), Nat.le_refl _, Nat.le_refl _, hG⟩
    refine ((h M ⟨w, fun _ _ => False⟩ ad c).elim.2 _ w _ hr rfl ⟨rfl, fun i d v hd hv => ?_⟩).mono ?_
    · cases i with
      | zero => simp at hd hv; subst hd; subst hv; exact .raw _
      | succ i => simp at hd
    · rintro e w' (⟨v, he, μ', d, L', hK, hr', hv, hu, hs⟩ | ⟨v, _, μ', L', hX, _⟩)
      case inr => exact hX.elim
      refine ⟨v, he, ?_, ⟨hs.os, hs.tape, hs.output, hs.size, fun b hb => hs.same b hb ?_⟩⟩
      · obtain ⟨q, L2, hq, hr2, _, h4⟩ := frz_rel d L' v _ hr' hv hu hK
        exact hq.rel (h4.sub fun b hb => .inl hb)
      · rintro ⟨k, o, _, hk, _⟩
        cases hk
  · have := hrel.1; simp at this
theorem sl_CloneP (l : List Nat) (hl : l.length ≤ 1000) : PureFn Tryz.prog 80 [rowPV l] (rowPV l) := by
  cases l with
  | cons a r =>
    refine PureFn.intro mixed (fn := Tryz.f80) rfl rfl rfl fun M w0 => ?_
    (try conv=>whnf);repeat' (first|(apply And.intro<;>try conv=>whnf)|(intro h;first|with_reducible exact ft0 h|try conv=>whnf)|(apply bleI;rfl)|(apply cellsI;rfl)|(apply szI;rfl)|fail)
    · exact cells_u64 _
    · show (List.map u64 (a :: r)).length ≤ 4294967296
      rw [List.length_map]; omega
    · exact PLe.refl _
  | nil =>
    have key : ∀ (M : Nat → Prop) (w0 : W0) (ad : Option Addr) (c : Nat), DC Tryz.prog M w0 80 [.raw (.slice ad 0 c)] noHeap fun d L' => frz d L' fun q _ => PLe q (rowPV []) := by
      intro M w0 ad c
      cases ad with
      | none =>
        refine DC.intro mixed (fn := Tryz.f80) rfl rfl rfl ?_
        (try conv=>whnf);repeat' (first|(apply And.intro<;>try conv=>whnf)|(intro h;try conv=>whnf)|(apply cellsI;rfl)|(apply szI;rfl)|fail)
        all_goals first | exact PLe.nil | exact PLe.refl _ | exact Nat.zero_le _
      | some ad =>
        refine DC.intro mixed (fn := Tryz.f80) rfl rfl rfl ?_
        (try conv=>whnf);repeat' (first|(apply And.intro<;>try conv=>whnf)|(intro h;try conv=>whnf)|(apply cellsI;rfl)|(apply szI;rfl)|fail)
        all_goals first | exact PLe.nil | exact PLe.refl _ | exact Nat.zero_le _
    exact pure_raw rfl key
theorem sl_CloneI {M : Nat → Prop} {w0 : W0} (l : List Nat) (h1 : l ≠ []) (hl : l.length ≤ 1000) (L : DH) (K : DV → DH → Prop) (hK : K (.buf L.next (l.map i64).length) (L.push (.arr 1 (l.map i64)))) :
    DC Tryz.prog M w0 81 [.pv (natsPV l)] L K := by
  cases l with
  | nil => exact absurd rfl h1
  | cons a r =>
    refine DC.intro mixed (fn := Tryz.f81) rfl rfl rfl ?_
    (try conv=>whnf);repeat' (first|(apply And.intro<;>try conv=>whnf)|(intro h;first|with_reducible exact ft0 h|try conv=>whnf)|(apply cellsI;rfl)|(apply szI;rfl)|fail)
    · exact cells_i64 _
    · show (List.map i64 (a :: r)).length ≤ 4294967296
      rw [List.length_map]; omega
    · exact hK
end Go.Proofs.YtejbieopeicgkaaGreatDoor
set_option maxRecDepth 100000
set_option maxHeartbeats 4000000
namespace Go.Proofs.YtejbieopeicgkaaGreatDoor
open Go Go.Dv

theorem cp_asg0 (a : Act) (e : Nat) (he : e < a.post.length) (hS : SmX a) : PanFn Tryz.prog 71 [a.pv, i64 e, postPV []] (toE postPV (asgE a e [])) := by
  refine PureFn.pan (p := postPV (compA (a.post.getD e []))) ?_
  obtain ⟨q, hq⟩ : ∃ y, a.post[e]? = some y := ⟨_, List.getElem?_eq_getElem he⟩
  have hqd : a.post.getD e [] = q := by rw [List.getD_eq_getElem?_getD, hq]; rfl
  rw [hqd]
  have hC := cp_compact q (hS.post q (List.mem_iff_getElem?.2 ⟨_, hq⟩))
  have hix := idx_map (g := postPV) hq
  refine PureFn.intro mixed (fn := Tryz.f71) rfl rfl rfl fun M w0 => ?_
  (try conv=>whnf);repeat' (first|(apply And.intro<;>try conv=>whnf)|(apply infoT;rfl)|(refine ⟨_, _, rfl, idx_map (by with_reducible assumption), rfl, ?_⟩;try conv=>whnf)|(refine PureFn.dcq (f := 85) rfl ?_;try conv=>whnf)|(refine ⟨_, _, hC, ?_, ?_⟩;(focus first|(refine ⟨?_, trivial⟩<;>first|exact PLe.refl _|exact PLe.nil)|exact trivial);try conv=>whnf)|fail)
  refine ⟨Unit, fun _ => [(7, .pv (postPV (compA q))), (20, .pv (.int .i64 0)), (21, .pv (.int .i64 0))], fun _ => 0, fun _ => [], fun _ => 0, ⟨(), (by refine Wk.of ?_ ?_ rfl rfl rfl<;>repeat' (first|exact trivial|exact WkD.same _|refine ⟨?_, ?_⟩|fail))⟩, ?_⟩
  rintro _
  (try conv=>whnf);repeat' (first|(apply And.intro<;>try conv=>whnf)|(intro h;try conv=>whnf)|fail)
  · simp at h
  · exact .refl _
/-- The first one, with canonical formulas. -/
def firA (a : Act) : Act := ⟨a.pre.map comp, a.post.map compA, a.rel⟩
def foldC : Act → List Act → Act × Int
  | c, [] => (c, 0)
  | c, b :: r => bif (composeI c b).2 != 0 then (noAct, (composeI c b).2) else foldC (composeI c b).1 r
def chainI : List Act → Act × Int
  | [] => (noAct, 1)
  | a :: r => bif aloneI a != 0 then (noAct, aloneI a) else foldC (firA a) r
theorem cp_Chain (a : Act) (l : List Act) (G : Nat → Act → Prop) (hS : SmX a) (h0 : aloneI a = 0 → G 0 (firA a)) (hl : l.length ≤ 400)
    (hC : ∀ j c b, G j c → l[j]? = some b → PureFn Tryz.prog 23 [c.pv, b.pv] (pairA (composeI c b)) ∧ ((composeI c b).2 = 0 → G (j + 1) (composeI c b).1)) :
    PureFn Tryz.prog 30 [.sl ((a :: l).map Act.pv)] (pairA (chainI (a :: l))) := by
  have hCa := cp_check a hS
  have e1 : ((a.pre.map fpv).length : Int) = (a.pre.length : Int) := by simp
  have e3 : ((a.rel.map rowPV).length : Int) = (a.rel.length : Int) := by simp
  obtain ⟨R, hR⟩ : ∃ R, R = chainI (a :: l) := ⟨_, rfl⟩
  rw [← hR]
  rw [chainI] at hR
  refine PureFn.introC [6, 12, 17, 22] mixed (fn := Tryz.f30) rfl rfl rfl fun M w0 => ?_
  (try conv=>whnf);repeat' (first|(apply And.intro<;>try conv=>whnf)|(intro h;try conv=>whnf)|fail)
  · simp at h; omega
  refine ⟨{ _x : Unit // aloneI a = 0 }, fun _ => [(0, .pv (.sl ((a :: l).map Act.pv))), (2, .ref 0 0)], fun _ => 1, fun _ => [(0, .var cellsZ)], ?_, ?_⟩
  · (try conv=>whnf);repeat' (first|(apply And.intro<;>try conv=>whnf)|(intro h;try conv=>whnf)|(apply infoT;rfl)|(refine PureFn.dcq (f := 51) rfl ?_;try conv=>whnf)|(refine ⟨0, _, rfl, rfl, rfl, ?_⟩;try conv=>whnf)|(refine ⟨_, _, hCa, ?_, ?_⟩;(focus first|(refine ⟨?_, trivial⟩<;>first|exact PLe.refl _|exact PLe.nil)|exact trivial);try conv=>whnf)|fail)
    · rw [hR, show (aloneI a != 0) = true from h]; exact le_noAct _
    · exact ⟨⟨(), by simpa using h⟩, (by refine Wk.of ?_ ?_ rfl rfl rfl<;>repeat' (first|exact trivial|exact WkD.same _|exact WkO.same _ _ rfl|refine ⟨?_, ?_⟩|fail))⟩
  rintro ⟨_, ha0⟩
  have g1 : (aloneI a != 0) = false := by simpa using ha0
  have hOa := actI_ok ha0
  have n8 := hOa.n8
  have n1 := hOa.n1
  have hpl := hOa.post
  have hGA := h0 ha0
  rw [g1] at hR
  have hR : R = foldC (firA a) l := hR
  try conv=>whnf
  refine ⟨Unit, fun _ => [(0, .pv (.sl ((a :: l).map Act.pv))), (2, .ref 0 0), (5, .ref 1 0)], fun _ => 2, fun _ => [(0, .var cellsZ), (1, .var [.pv (.sl (((a.pre.take a.pre.length).map comp).map fpv)), .pv (.sl (((a.post.take a.pre.length).map compA).map postPV)), .pv .nil])], ?_, ?_⟩
  · (try conv=>whnf);repeat' (first|(apply And.intro<;>try conv=>whnf)|(apply infoT;rfl)|(refine ⟨0, _, rfl, rfl, rfl, ?_⟩;try conv=>whnf)|fail)
    refine ⟨{ i : Nat // i ≤ a.pre.length }, fun i => [(0, .pv (.sl ((a :: l).map Act.pv))), (2, .ref 0 0), (5, .ref 1 0), (28, .pv (.sl (a.pre.map fpv))), (29, .pv (i64 (a.pre.map fpv).length)), (30, .pv (i64 i.1))], fun _ => 4, fun i => [(0, .var cellsZ), (1, .var [.buf 2 (((a.pre.take i.1).map comp).map fpv).length, .buf 3 (((a.post.take i.1).map compA).map postPV).length, .pv .nil]), (2, .arr 1 (((a.pre.take i.1).map comp).map fpv)), (3, .arr 1 (((a.post.take i.1).map compA).map postPV))], fun i => a.pre.length - i.1, ⟨⟨0, Nat.zero_le _⟩, (by refine Wk.of ?_ ?_ rfl rfl rfl<;>repeat' (first|exact trivial|exact WkD.same _|exact WkO.same _ _ rfl|exact WkD.new' rfl rfl rfl|exact WkO.new _ _ rfl|refine WkO.vars rfl ?_|exact rfl|refine ⟨?_, ?_⟩|fail))⟩, ?_⟩
    rintro ⟨i, hi⟩
    (try conv=>whnf);repeat' (first|(apply And.intro<;>try conv=>whnf)|(intro h;try conv=>whnf)|(apply infoT;rfl)|fail)
    · have hi' : i < a.pre.length := by simpa using lt_dec h
      obtain ⟨p, hp⟩ : ∃ y, a.pre[i]? = some y := ⟨_, List.getElem?_eq_getElem hi'⟩
      obtain ⟨q, hq⟩ : ∃ y, a.post[i]? = some y := ⟨_, List.getElem?_eq_getElem (by rw [hpl]; exact hi')⟩
      have hCq := cp_compact q (hS.post q (List.mem_iff_getElem?.2 ⟨_, hq⟩))
      have hFp := fm_Compact p
      have hs1 : (((a.pre.take i).map comp).map fpv).length ≤ 1000 := by simp; omega
      have hs2 : (((a.post.take i).map compA).map postPV).length ≤ 1000 := by simp; omega
      have e5 : ((a.pre.take i).map comp).map fpv ++ [.sl ((comp p).map Nd.pv)] = ((a.pre.take (i + 1)).map comp).map fpv := by
        rw [List.take_add_one, hp, List.map_append, List.map_append]; rfl
      have e6 : ((a.post.take i).map compA).map postPV ++ [.sl ((compA q).map Asg.pv)] = ((a.post.take (i + 1)).map compA).map postPV := by
        rw [List.take_add_one, hq, List.map_append, List.map_append]; rfl
      have hixq := idx_map (g := postPV) hq
      refine ⟨_, _, rfl, idx_map hp, rfl, ?_⟩
      try conv=>whnf
      refine ⟨Plan.ofL [0, 1, 2, 3, 4, 6, 7, 8, 9, 10, 11, 12, 13, 14, 5, 18, 15, 16, 17, 19, 20, 21], [19, 21, 1005, 1017, 2006, 2007, 2009, 2010, 2011, 2013, 2014, 2018], by kernel_rfl, ?_⟩
      (try conv=>whnf);repeat' (first|(apply And.intro<;>try conv=>whnf)|(intro h;try conv=>whnf)|(apply infoT;rfl)|(apply cellsI;rfl)|(apply szI;rfl)|(refine ⟨_, _, rfl, idx_map (by with_reducible assumption), rfl, ?_⟩;try conv=>whnf)|(refine ⟨_, (by (conv=>whnf);exact hFp), rfl, ?_⟩;try conv=>whnf)|(refine ⟨_, (by (conv=>whnf);exact hCq), rfl, ?_⟩;try conv=>whnf)|(refine ⟨0, _, rfl, rfl, rfl, ?_⟩;try conv=>whnf)|fail)
      · exact app_big (n := 1000) hs1 (by decide)
      · exact ExtV.put (k := 2) (fun cs h => by cases h) _ _ h
      · exact app_big (n := 1000) hs2 (by decide)
      · exact ExtV.put (k := 3) (fun cs h => by cases h) _ _ h
      · refine ⟨⟨i + 1, hi'⟩, by show a.pre.length - (i + 1) < a.pre.length - i; omega, ?_⟩
        (refine Wk.of ?_ ?_ rfl rfl rfl<;>repeat' (first|exact trivial|exact WkD.same _|exact WkO.same _ _ rfl|exact WkD.eq (congrArg (fun z : List PV => DV.buf _ z.length) e5)|exact WkO.same _ _ (congrArg (fun z => some (DObj.arr _ z)) e5)|exact WkD.eq (congrArg (fun z : List PV => DV.buf _ z.length) e6)|exact WkO.same _ _ (congrArg (fun z => some (DObj.arr _ z)) e6)|refine WkD.int ?_|refine WkO.vars rfl ?_|refine ⟨?_, ?_⟩|(refine wrapA ?_ ?_ ?_;(focus simp;done);(focus (try dsimp only);omega);(focus (try dsimp only);omega))|fail))
    · have hi' : i = a.pre.length := by have := ge_dec (m := (a.pre.map fpv).length) h (by simpa using hi); simpa using this
      subst hi'
      exact ⟨(), (by refine Wk.of ?_ ?_ rfl rfl rfl<;>repeat' (first|exact trivial|exact WkD.same _|exact WkO.same _ _ rfl|exact WkD.fz _ _ _ rfl (Or.inl ⟨_, rfl⟩) rfl|refine WkO.vars rfl ?_|refine ⟨?_, ?_⟩|fail))⟩
  rintro _
  have hT1 : a.pre.take a.pre.length = a.pre := List.take_length
  have hT2 : a.post.take a.pre.length = a.post := by rw [← hpl, List.take_length]
  rw [hT1, hT2]
  refine ⟨Unit, fun _ => [(0, .pv (.sl ((a :: l).map Act.pv))), (2, .ref 0 0), (5, .ref 1 0)], fun _ => 2, fun _ => [(0, .var cellsZ), (1, .var [.pv (.sl ((a.pre.map comp).map fpv)), .pv (.sl ((a.post.map compA).map postPV)), .pv (.sl ((a.rel.take a.rel.length).map rowPV))])], ?_, ?_⟩
  · (try conv=>whnf);repeat' (first|(apply And.intro<;>try conv=>whnf)|(apply infoT;rfl)|(refine ⟨0, _, rfl, rfl, rfl, ?_⟩;try conv=>whnf)|fail)
    refine ⟨{ i : Nat // i ≤ a.rel.length }, fun i => [(0, .pv (.sl ((a :: l).map Act.pv))), (2, .ref 0 0), (5, .ref 1 0), (59, .pv (.sl (a.rel.map rowPV))), (60, .pv (i64 (a.rel.map rowPV).length)), (61, .pv (i64 i.1))], fun _ => 3, fun i => [(0, .var cellsZ), (1, .var [.pv (.sl ((a.pre.map comp).map fpv)), .pv (.sl ((a.post.map compA).map postPV)), .buf 2 ((a.rel.take i.1).map rowPV).length]), (2, .arr 1 ((a.rel.take i.1).map rowPV))], fun i => a.rel.length - i.1, ⟨⟨0, Nat.zero_le _⟩, (by refine Wk.of ?_ ?_ rfl rfl rfl<;>repeat' (first|exact trivial|exact WkD.same _|exact WkO.same _ _ rfl|exact WkD.new' rfl rfl rfl|exact WkO.new _ _ rfl|refine WkO.vars rfl ?_|exact rfl|refine ⟨?_, ?_⟩|fail))⟩, ?_⟩
    rintro ⟨i, hi⟩
    (try conv=>whnf);repeat' (first|(apply And.intro<;>try conv=>whnf)|(intro h;try conv=>whnf)|(apply infoT;rfl)|fail)
    · have hi' : i < a.rel.length := by simpa using lt_dec h
      obtain ⟨r, hx⟩ : ∃ y, a.rel[i]? = some y := ⟨_, List.getElem?_eq_getElem hi'⟩
      have hRC := sl_CloneP r (by rw [hOa.rows r (List.mem_iff_getElem?.2 ⟨_, hx⟩)]; omega)
      have hag := hOa.agn
      have hvsl : ((a.rel.take i).map rowPV).length ≤ 1000 := by simp; omega
      have er : (a.rel.take i).map rowPV ++ [rowPV r] = (a.rel.take (i + 1)).map rowPV := (take_map (f := rowPV) hx).symm
      refine ⟨_, _, rfl, idx_map hx, rfl, ?_⟩
      try conv=>whnf
      refine ⟨Plan.lin 0 8, [7], by kernel_rfl, ?_⟩
      (try conv=>whnf);repeat' (first|(apply And.intro<;>try conv=>whnf)|(apply cellsI;rfl)|(apply szI;rfl)|(refine ⟨_, (by (conv=>whnf);exact hRC), rfl, ?_⟩;try conv=>whnf)|fail)
      · exact app_big (n := 1000) hvsl (by decide)
      · refine ⟨⟨i + 1, hi'⟩, by show a.rel.length - (i + 1) < a.rel.length - i; omega, ?_⟩
        (refine Wk.of ?_ ?_ rfl rfl rfl<;>repeat' (first|exact trivial|exact WkD.same _|exact WkO.same _ _ rfl|exact WkD.eq (congrArg (fun z : List PV => DV.buf _ z.length) er)|exact WkO.same _ _ (congrArg (fun z => some (DObj.arr _ z)) er)|refine WkD.int ?_|refine WkO.vars rfl ?_|refine ⟨?_, ?_⟩|(refine wrapA ?_ ?_ ?_;(focus simp;done);(focus (try dsimp only);omega);(focus (try dsimp only);omega))|fail))
    · have hi' : i = a.rel.length := by have := ge_dec (m := (a.rel.map rowPV).length) h (by simpa using hi); simpa using this
      subst hi'
      exact ⟨(), (by refine Wk.of ?_ ?_ rfl rfl rfl<;>repeat' (first|exact trivial|exact WkD.same _|exact WkO.same _ _ rfl|exact WkD.fz _ _ _ rfl (Or.inl ⟨_, rfl⟩) rfl|refine WkO.vars rfl ?_|refine ⟨?_, ?_⟩|fail))⟩
  rintro _
  rw [show a.rel.take a.rel.length = a.rel from List.take_length]
  have e7 : ((l.map Act.pv).length : Int) = (l.length : Int) := by simp
  have hsl : ((List.map Act.pv (a :: l)).drop 1).take ((List.map Act.pv (a :: l)).length - 1) = l.map Act.pv := by
    show (List.map Act.pv l).take ((List.map Act.pv l).length) = _
    rw [List.take_length]
  (try conv=>whnf);repeat' (first|(apply And.intro<;>try conv=>whnf)|(apply infoT;rfl)|fail)
  · simp only [cellsAll, List.all_eq_true]
    intro p hp
    obtain ⟨x, _, rfl⟩ := List.mem_map.1 hp
    rfl
  refine ⟨1, (List.map Act.pv (a :: l)).length, rfl, rfl, by simp, Nat.le_refl _, ?_⟩
  rw [hsl]
  try conv=>whnf
  refine ⟨{ x : Nat × Act // x.1 ≤ l.length ∧ G x.1 x.2 ∧ R = foldC x.2 (l.drop x.1) }, fun x => [(2, .ref 0 0), (5, .ref 1 0), (74, .pv (.sl (l.map Act.pv))), (75, .pv (i64 (l.map Act.pv).length)), (76, .pv (i64 x.1.1))], fun _ => 2, fun x => [(0, .var cellsZ), (1, .var (cellsA x.1.2))], fun x => l.length - x.1.1, ⟨⟨(0, firA a), Nat.zero_le _, hGA, hR⟩, (by refine Wk.of ?_ ?_ rfl rfl rfl<;>repeat' (first|exact trivial|exact WkD.same _|exact WkO.same _ _ rfl|refine ⟨?_, ?_⟩|fail))⟩, ?_⟩
  rintro ⟨⟨j, c⟩, hj, hGc, hfc⟩
  have hfc : R = foldC c (l.drop j) := hfc
  clear hR
  (try conv=>whnf);repeat' (first|(apply And.intro<;>try conv=>whnf)|(intro h;try conv=>whnf)|(apply infoT;rfl)|fail)
  · have hj' : j < l.length := by simpa using lt_dec h
    obtain ⟨b, hb⟩ : ∃ y, l[j]? = some y := ⟨_, List.getElem?_eq_getElem hj'⟩
    obtain ⟨hCo, hGn⟩ := hC j c b hGc hb
    have hdr : foldC c (l.drop j) = bif (composeI c b).2 != 0 then (noAct, (composeI c b).2) else foldC (composeI c b).1 (l.drop (j + 1)) := by
      obtain ⟨q1, q2⟩ := List.getElem?_eq_some_iff.1 hb
      rw [List.drop_eq_getElem_cons q1, q2]; rfl
    rw [hdr] at hfc
    clear hdr
    generalize composeI c b = X at hCo hGn hfc
    obtain ⟨d, e⟩ := X
    refine ⟨_, _, rfl, idx_map hb, rfl, ?_⟩
    try conv=>whnf
    refine ⟨Unit, fun _ => [(2, .ref 0 0), (5, .ref 1 0), (12, .pv (.int .i64 e)), (74, .pv (.sl (l.map Act.pv))), (75, .pv (i64 (l.map Act.pv).length)), (76, .pv (i64 j))], fun _ => 2, fun _ => [(0, .var cellsZ), (1, .var (cellsA d))], ?_, ?_⟩
    · (try conv=>whnf);repeat' (first|(refine PureFn.dcq (f := 23) rfl ?_;try conv=>whnf)|(refine ⟨_, _, hCo, ?_, ?_⟩;(focus first|(refine ⟨?_, ?_, trivial⟩<;>first|exact PLe.refl _|exact PLe.nil)|exact trivial);try conv=>whnf)|fail)
      exact ⟨(), (by refine Wk.of ?_ ?_ rfl rfl rfl<;>repeat' (first|exact trivial|exact WkD.same _|exact WkO.same _ _ rfl|refine ⟨?_, ?_⟩|fail))⟩
    rintro _
    (try conv=>whnf);repeat' (first|(apply And.intro<;>try conv=>whnf)|(intro h;try conv=>whnf)|fail)
    · rw [hfc, show ((d, e).2 != 0) = true from h]; exact le_noAct _
    · have he : e = 0 := by simpa using h
      subst he
      exact ⟨⟨(j + 1, d), hj', hGn rfl, hfc⟩, by show l.length - (j + 1) < l.length - j; omega, (by refine Wk.of ?_ ?_ rfl rfl rfl<;>repeat' (first|exact trivial|exact WkD.same _|exact WkO.same _ _ rfl|refine WkD.int ?_|refine ⟨?_, ?_⟩|(refine wrapA ?_ ?_ ?_;(focus simp;done);(focus (try dsimp only);omega);(focus (try dsimp only);omega))|fail))⟩
  · have hj' : j = l.length := by have := ge_dec (m := (l.map Act.pv).length) h (by simpa using hj); simpa using this
    subst hj'
    have hfc2 : R = (c, 0) := by rw [hfc, List.drop_length]; rfl
    show PLe (.tup [c.pv, .int .i64 0]) (pairA R)
    rw [hfc2]
    exact .refl _
end Go.Proofs.YtejbieopeicgkaaGreatDoor
set_option maxRecDepth 100000
namespace Go.Proofs.YtejbieopeicgkaaGreatDoor
open Go Go.RowKit

theorem tz64_core (x k idx : Nat) (w : World) (hx0 : ((x : Int) == 0) = false)
    (key : IntKind.u64.wrap (bits BinOp.and IntKind.u64 (x : Int) (IntKind.u64.wrap (-(x : Int))) * 285870213051353865) / 288230376151711744 = (idx : Int))
    (hi : idx < 64) (hk : k < 64) (hcell : w.cell? ⟨0, idx, none⟩ = some (.int .u8 k)) :
    Calls Tryz.prog 149 #[.int .u64 x] w fun e w' => e = .returned (.int .i64 k) ∧ w' = w := by
  go_enter Tryz.func149, Tryz.ntmps149
  go_wp2_with (simp only [key])
  go_ret
  exact ⟨rfl, rfl⟩
theorem tz64_zero (w : World) : Calls Tryz.prog 149 #[.int .u64 0] w fun e w' => e = .returned (.int .i64 64) ∧ w' = w := by
  go_enter Tryz.func149, Tryz.ntmps149
  go_wp2
  go_ret
  exact ⟨rfl, rfl⟩
theorem tz64_key (x a : Nat) (hx : x < 18446744073709551616) (hx0 : x ≠ 0) (hlow : x &&& (18446744073709551616 - x) = a) :
    IntKind.u64.wrap (bits BinOp.and IntKind.u64 (x : Int) (IntKind.u64.wrap (-(x : Int))) * 285870213051353865) / 288230376151711744 = ((a * 285870213051353865 % 18446744073709551616 / 288230376151711744 : Nat) : Int) := by
  have e1 : IntKind.u64.wrap (-(x : Int)) = ((18446744073709551616 - x : Nat) : Int) := by rw [IntKind.wrap_u64]; omega
  rw [e1, bits_and_u64_nat x _ hx (by omega), hlow, IntKind.wrap_u64]
  omega
theorem tz64 (x : Nat) (hx : x < 18446744073709551616) (w : World) (hT : ∀ j, j < Lib.deBruijn64tab.length → w.cell? ⟨0, j, none⟩ = some (.int .u8 (Lib.deBruijn64tab.getD j 0))) :
    Calls Tryz.prog 149 #[.int .u64 x] w fun e w' => e = .returned (.int .i64 (Lib.ctz 64 x)) ∧ w' = w := by
  by_cases hx0 : x = 0
  · subst hx0
    exact tz64_zero w
  · obtain ⟨hlow, hk⟩ := Lib.lowest_bit 64 x hx0 hx
    obtain ⟨hi, htab⟩ := Lib.deBruijn64_at _ hk
    have hcell := hT _ hi
    rw [htab] at hcell
    exact tz64_core x _ _ w (by simp; omega) (tz64_key x _ hx hx0 hlow) hi hk hcell
end Go.Proofs.YtejbieopeicgkaaGreatDoor
set_option maxRecDepth 100000
set_option maxHeartbeats 4000000
namespace Go.Proofs.YtejbieopeicgkaaGreatDoor
open Go Go.Dv
open Go.RowKit (Below)

/-! the members of a set -/
def memL (s : Nat) : List Nat := (List.range 64).filter s.testBit
theorem memL_mem {s i : Nat} : i ∈ memL s ↔ i < 64 ∧ s.testBit i = true := by rw [memL, List.mem_filter, List.mem_range]
theorem filter_first {p : Nat → Bool} {k : Nat} (hk : p k = true) (h : ∀ i, i < k → p i = false) : ∀ n, k < n → (List.range n).filter p = k :: (List.range n).filter (fun i => p i && !(i == k))
  | 0, h0 => by omega
  | n + 1, h0 => by
    rw [List.range_succ, List.filter_append, List.filter_append]
    by_cases e : n = k
    · have e1 : (List.range n).filter p = [] := List.filter_eq_nil_iff.2 fun i hi => by rw [h i (by have := List.mem_range.1 hi; omega)]; simp
      have e2 : (List.range n).filter (fun i => p i && !(i == k)) = [] := List.filter_eq_nil_iff.2 fun i hi => by rw [h i (by have := List.mem_range.1 hi; omega)]; simp
      rw [e1, e2, e]
      simp [hk]
    · have e3 : (n == k) = false := by simpa using e
      rw [filter_first hk h n (by omega), List.cons_append]
      congr 2
      simp only [List.filter_cons, List.filter_nil, e3, Bool.not_false, Bool.and_true]
theorem ctz_bits {x : Nat} (h0 : x ≠ 0) (h : x < 2 ^ 64) : Lib.ctz 64 x < 64 ∧ x.testBit (Lib.ctz 64 x) = true ∧ (∀ i, i < Lib.ctz 64 x → x.testBit i = false) ∧ ∀ i, (x &&& (x - 1)).testBit i = (x.testBit i && !(i == Lib.ctz 64 x)) := by
  obtain ⟨q, hq, hk⟩ := Lib.ctzFrom_spec 64 x (by omega) h
  have e : Lib.ctz 64 x = Lib.ctzFrom 64 x := by simp [Lib.ctz, h0]
  rw [e]
  generalize Lib.ctzFrom 64 x = k at hq hk ⊢
  have hb : ∀ i, x.testBit i = (decide (k ≤ i) && (2 * q + 1).testBit (i - k)) := fun i => by
    rw [hq, Nat.testBit_two_pow_mul]
  have hp := Nat.two_pow_pos k
  have hx1 : x - 1 = 2 ^ k * (2 * q) + (2 ^ k - 1) := by rw [hq, Nat.mul_add]; omega
  have hc : ∀ i, (x - 1).testBit i = if i < k then (2 ^ k - 1).testBit i else (2 * q).testBit (i - k) := fun i => by
    rw [hx1, Nat.testBit_two_pow_mul_add _ (by omega)]
  refine ⟨hk, ?_, fun i hi => ?_, fun i => ?_⟩
  · rw [hb, decide_eq_true (Nat.le_refl k), Nat.sub_self]; simp
  · rw [hb, decide_eq_false (by omega)]; rfl
  · rw [Nat.testBit_and, hb, hc]
    by_cases hi : i < k
    · rw [decide_eq_false (by omega)]; rfl
    · rw [if_neg hi, decide_eq_true (by omega), Bool.true_and]
      by_cases e : i = k
      · rw [e, Nat.sub_self]; simp
      · obtain ⟨j, hj⟩ : ∃ j, i - k = j + 1 := ⟨i - k - 1, by omega⟩
        have e3 : (i == k) = false := by simpa using e
        rw [hj, e3, Nat.testBit_succ, Nat.testBit_succ, show (2 * q + 1) / 2 = q by omega, show 2 * q / 2 = q by omega]
        cases q.testBit j <;> rfl
theorem memL_step {x : Nat} (h0 : x ≠ 0) (h : x < 2 ^ 64) : memL x = Lib.ctz 64 x :: memL (x &&& (x - 1)) := by
  obtain ⟨h1, h2, h3, h4⟩ := ctz_bits h0 h
  rw [memL, filter_first h2 h3 64 h1, memL]
  congr 2
  funext i
  rw [h4 i]
theorem memL_zero : memL 0 = [] := by rw [memL]; exact List.filter_eq_nil_iff.2 fun i _ => by rw [Nat.zero_testBit]; simp
theorem memL_len (s : Nat) : (memL s).length ≤ 64 := Nat.le_trans (List.length_filter_le _ _) (by simp)
theorem fn_tz (x : Nat) (hx : x < 2 ^ 64) : PureFn Tryz.prog 149 [u64 x] (.int .i64 (Lib.ctz 64 x : Nat)) := by
  refine PureFn.mk ⟨by kernel_rfl, fun M w vs hG hM hrel => ?_⟩
  obtain ⟨hl, hr⟩ := hrel
  match vs, hl with
  | [v], _ =>
    have h1 := hr 0 _ v rfl rfl
    cases h1
    refine (tz64 x hx w hG.2).mono ?_
    rintro e w' ⟨rfl, rfl⟩
    exact ⟨_, rfl, .int _ _, Below.refl _ _⟩
def intsPV (l : List Nat) : PV := .sl (l.map i64)
theorem md_members (s : Nat) (hs : s < 2 ^ 64) : PureFn Tryz.prog 115 [u64 s] (intsPV (memL s)) := by
  refine PureFn.intro mixed (fn := Tryz.f115) rfl rfl rfl fun M w0 => ?_
  try conv=>whnf
  refine ⟨{ q : Nat × List Nat // q.1 < 2 ^ 64 ∧ q.2 ++ memL q.1 = memL s }, fun q => [(0, .pv (u64 q.1.1)), (3, .buf 0 (q.1.2.map i64).length)], fun _ => 1, fun q => [(0, .arr 1 (q.1.2.map i64))], fun q => (memL q.1.1).length, ⟨⟨(s, []), hs, rfl⟩, (by refine Wk.of ?_ ?_ rfl rfl rfl<;>repeat' (first|exact trivial|exact WkD.same _|exact WkD.new' rfl rfl rfl|exact WkO.new _ _ rfl|exact rfl|refine ⟨?_, ?_⟩|fail))⟩, ?_⟩
  rintro ⟨⟨x, l⟩, hx, hl⟩
  have hx : x < 2 ^ 64 := hx
  have hl : l ++ memL x = memL s := hl
  have hT := fn_tz x hx
  have hlen : (l.map i64).length ≤ 1000 := by
    have h1 := memL_len s
    rw [← hl, List.length_append] at h1
    rw [List.length_map]; omega
  (try conv=>whnf);repeat' (first|(apply And.intro<;>try conv=>whnf)|(intro h;try conv=>whnf)|(apply bleI;rfl)|(apply cellsI;rfl)|(apply szI;rfl)|(refine PureFn.dcq (f := 149) rfl ?_;try conv=>whnf)|(refine ⟨_, _, hT, ?_, ?_⟩;(focus first|(refine ⟨?_, trivial⟩<;>first|exact PLe.refl _|exact PLe.nil)|exact trivial);try conv=>whnf)|fail)
  · exact app_big (n := 1000) hlen (by decide)
  · have hx0 : x ≠ 0 := by
      have h0 : ((x : Int) != 0) = true := h
      intro e; rw [e] at h0; exact absurd h0 (by decide)
    have hst := memL_step hx0 hx
    refine ⟨⟨(x &&& (x - 1), l ++ [Lib.ctz 64 x]), Nat.and_lt_two_pow _ (by omega), ?_⟩, ?_, ?_⟩
    · show l ++ [Lib.ctz 64 x] ++ memL (x &&& (x - 1)) = memL s
      rw [← hl, hst, List.append_assoc]; rfl
    · show (memL (x &&& (x - 1))).length < (memL x).length
      rw [hst, List.length_cons]; omega
    have e1 : andU (x : Nat) (IntKind.wrap .u64 ((x : Int) - 1)) = ((x &&& (x - 1) : Nat) : Int) := by
      rw [wrapU (by omega) (by omega), show ((x : Int) - 1) = ((x - 1 : Nat) : Int) by omega, andU_nat hx (by omega)]
    have e2 : (l.map i64) ++ [PV.int .i64 (Lib.ctz 64 x : Nat)] = (l ++ [Lib.ctz 64 x]).map i64 := by rw [List.map_append]; rfl
    (refine Wk.of ?_ ?_ rfl rfl rfl<;>repeat' (first|exact trivial|exact WkD.eq (congrArg (fun z : List PV => DV.buf _ z.length) e2)|exact WkO.same _ _ (congrArg (fun z => some (DObj.arr _ z)) e2)|refine WkD.int ?_|refine ⟨?_, ?_⟩|fail))
    all_goals exact e1
  · have hx0 : x = 0 := by
      have h0 : ((x : Int) != 0) = false := h
      have : (x : Int) = 0 := by simpa using h0
      omega
    rw [hx0, memL_zero, List.append_nil] at hl
    have e9 : intsPV (memL s) = .sl (l.map i64) := by rw [intsPV, ← hl]
    exact e9.symm ▸ .refl (.sl (l.map i64))

/-! the worlds of a list, taken for a model -/
def pullN (s : Nat) (ws : List Nat) : Nat := maskOf (fun i => s.testBit (ws.getD i 0)) ws.length
theorem pull_step {q : Nat → Bool} {s w i : Nat} (hs : s < 2 ^ 64) (hw : w < 64) (hi : i < 64) (hq : q i = s.testBit w) : orU (maskOf q i : Nat) (shlU (andU (shrU (s : Nat) (w : Nat)) 1) (i : Nat)) = ((maskOf q (i + 1) : Nat) : Int) := by
  rw [bit_and s w hs hw]
  cases h : s.testBit w with
  | true => rw [if_pos rfl]; exact or_shl hi (by rw [hq, h])
  | false =>
    rw [if_neg (by decide), ← mask_no (q := q) (w := i) (by rw [hq, h]), show shlU 0 (i : Nat) = ((0 : Nat) : Int) by show IntKind.wrap .u64 (0 * _) = 0; rw [Int.zero_mul]; rfl, orU_nat (mask_lt64 q (by omega)) (by decide), Nat.or_zero]
theorem md_pull (s : Nat) (ws : List Nat) (hs : s < 2 ^ 64) (hw : ∀ w, w ∈ ws → w < 64) (hl : ws.length ≤ 64) : PureFn Tryz.prog 150 [u64 s, intsPV ws] (u64 (pullN s ws)) := by
  refine PureFn.intro mixed (fn := Tryz.f150) rfl rfl rfl fun M w0 => ?_
  try conv=>whnf
  refine ⟨{ i : Nat // i ≤ ws.length }, fun i => [(0, .pv (u64 s)), (5, .pv (u64 (maskOf (fun i => s.testBit (ws.getD i 0)) i.1))), (8, .pv (intsPV ws)), (9, .pv (i64 (ws.map i64).length)), (10, .pv (i64 i.1))], fun _ => 0, fun _ => [], fun i => ws.length - i.1, ⟨⟨0, Nat.zero_le _⟩, (by refine Wk.of ?_ ?_ rfl rfl rfl<;>repeat' (first|exact trivial|exact WkD.same _|refine ⟨?_, ?_⟩|fail))⟩, ?_⟩
  intro i
  have hi := i.2
  (try conv=>whnf);repeat' (first|(apply And.intro<;>try conv=>whnf)|(intro h;try conv=>whnf)|(apply infoT;rfl)|fail)
  · have hi' : i.1 < ws.length := by simpa using lt_dec h
    obtain ⟨w, hx, hxw⟩ : ∃ y, ws[i.1]? = some y ∧ ws.getD i.1 0 = y := ⟨_, getD_mem hi', rfl⟩
    have hw64 := hw w (List.mem_iff_getElem?.2 ⟨_, hx⟩)
    have hst := pull_step (q := fun i => s.testBit (ws.getD i 0)) hs hw64 (show i.1 < 64 by omega) (by show s.testBit (ws.getD i.1 0) = _; rw [hxw])
    refine ⟨_, _, rfl, idx_map hx, rfl, ?_⟩
    (try conv=>whnf);repeat' (first|(apply And.intro<;>try conv=>whnf)|fail)
    · exact Int.natCast_nonneg _
    · exact Int.natCast_nonneg _
    · refine ⟨⟨i.1 + 1, hi'⟩, by show ws.length - (i.1 + 1) < ws.length - i.1; omega, ?_⟩
      (refine Wk.of ?_ ?_ rfl rfl rfl<;>repeat' (first|exact trivial|exact WkD.same _|refine WkD.int ?_|refine ⟨?_, ?_⟩|(refine wrapA ?_ ?_ ?_;(focus simp;done);(focus (try dsimp only);omega);(focus (try dsimp only);omega))|fail))
      exact hst
  · have hi' : i.1 = ws.length := by have := ge_dec (m := (ws.map i64).length) h (by simpa using hi); simpa using this
    exact le_int (congrArg (fun k => ((maskOf (fun i => s.testBit (ws.getD i 0)) k : Nat) : Int)) hi')
def arrI (m : Mo) (ws : List Nat) : Mo := ⟨(ws.length : Int), m.val.map fun s => pullN s ws, m.rel.map fun r => ws.map fun w => pullN (r.getD w 0) ws⟩
theorem md_arrange (m : Mo) (ws : List Nat) (n : Nat) (hM : OkM m n) (hw : ∀ w, w ∈ ws → w < n) (hl : ws.length ≤ 64) : PureFn Tryz.prog 116 [m.pv, intsPV ws] (arrI m ws).pv := by
  refine PureFn.introC [7, 16, 18] mixed (fn := Tryz.f116) rfl rfl rfl fun M w0 => ?_
  have hf := hM.fit
  have hn64 := hM.n64
  have hag := hM.ag
  have hfa := hM.fa
  have hw64 : ∀ w, w ∈ ws → w < 64 := fun w hh => by have := hw w hh; omega
  obtain ⟨ro, qro⟩ : ∃ ro : List Nat → List Nat, ro = fun r => ws.map fun w => pullN (r.getD w 0) ws := ⟨_, rfl⟩
  have har : (arrI m ws).pv = .agg [i64 (ws.map i64).length, rowPV ((m.val.take m.val.length).map fun s => pullN s ws), .sl (((m.rel.take m.rel.length).map ro).map rowPV)] := by rw [qro, List.length_map, List.take_length, List.take_length]; rfl
  rw [har]
  try conv=>whnf
  refine ⟨Unit, fun _ => [(1, .pv (intsPV ws)), (2, .ref 0 0), (4, .ref 1 0), (5, .ref 2 0)], fun _ => 3, fun _ => [(0, .var (cellsM m)), (1, .var cells0), (2, .var [.pv (i64 (ws.map i64).length), .pv (rowPV ((m.val.take m.val.length).map fun s => pullN s ws)), .pv .nil])], ?_, ?_⟩
  · try conv=>whnf
    refine ⟨{ i : Nat // i ≤ m.val.length }, fun i => [(1, .pv (intsPV ws)), (2, .ref 0 0), (4, .ref 1 0), (5, .ref 2 0), (17, .pv (.sl (m.val.map u64))), (18, .pv (i64 (m.val.map u64).length)), (19, .pv (i64 i.1))], fun _ => 4, fun i => [(0, .var (cellsM m)), (1, .var cells0), (2, .var [.pv (i64 (ws.map i64).length), .buf 3 (((m.val.take i.1).map fun s => pullN s ws).map u64).length, .pv .nil]), (3, .arr 1 (((m.val.take i.1).map fun s => pullN s ws).map u64))], fun i => m.val.length - i.1, ⟨⟨0, Nat.zero_le _⟩, (by refine Wk.of ?_ ?_ rfl rfl rfl<;>repeat' (first|exact trivial|exact WkD.same _|exact WkO.same _ _ rfl|exact WkD.new' rfl rfl rfl|exact WkO.new _ _ rfl|refine WkO.vars rfl ?_|exact rfl|refine ⟨?_, ?_⟩|fail))⟩, ?_⟩
    rintro ⟨i, hi⟩
    (try conv=>whnf);repeat' (first|(apply And.intro<;>try conv=>whnf)|(intro h;try conv=>whnf)|(apply infoT;rfl)|fail)
    · have hi' : i < m.val.length := by simpa using lt_dec h
      obtain ⟨s, hx⟩ : ∃ y, m.val[i]? = some y := ⟨_, List.getElem?_eq_getElem hi'⟩
      have hs64 := hf.1 s (List.mem_iff_getElem?.2 ⟨_, hx⟩)
      have hP := md_pull s ws hs64 hw64 hl
      have ht := take_map (f := fun s => pullN s ws) hx
      have hvsl : (((m.val.take i).map fun s => pullN s ws).map u64).length ≤ 1000 := by simp; omega
      have er : ((m.val.take i).map fun s => pullN s ws).map u64 ++ [PV.int .u64 ((pullN s ws : Nat) : Int)] = ((m.val.take (i + 1)).map fun s => pullN s ws).map u64 := by rw [ht, List.map_append]; rfl
      refine ⟨_, _, rfl, idx_map hx, rfl, ?_⟩
      (try conv=>whnf);repeat' (first|(apply And.intro<;>try conv=>whnf)|(apply cellsI;rfl)|(apply szI;rfl)|(refine lin_plan (by kernel_rfl) ?_;try conv=>whnf)|(refine ⟨_, (by (conv=>whnf);exact hP), rfl, ?_⟩;try conv=>whnf)|fail)
      · exact app_big (n := 1000) hvsl (by decide)
      · refine ⟨⟨i + 1, hi'⟩, by show m.val.length - (i + 1) < m.val.length - i; omega, ?_⟩
        (refine Wk.of ?_ ?_ rfl rfl rfl<;>repeat' (first|exact trivial|exact WkD.same _|exact WkO.same _ _ rfl|exact WkD.eq (congrArg (fun z : List PV => DV.buf _ z.length) er)|exact WkO.same _ _ (congrArg (fun z => some (DObj.arr _ z)) er)|refine WkD.int ?_|refine WkO.vars rfl ?_|refine ⟨?_, ?_⟩|(refine wrapA ?_ ?_ ?_;(focus simp;done);(focus (try dsimp only);omega);(focus (try dsimp only);omega))|fail))
    · have hi' : i = m.val.length := by have := ge_dec (m := (m.val.map u64).length) h (by simpa using hi); simpa using this
      subst hi'
      exact ⟨(), (by refine Wk.of ?_ ?_ rfl rfl rfl<;>repeat' (first|exact trivial|exact WkD.same _|exact WkO.same _ _ rfl|exact WkD.fz _ _ _ rfl (Or.inl ⟨_, rfl⟩) rfl|refine WkO.vars rfl ?_|refine ⟨?_, ?_⟩|fail))⟩
  rintro ⟨⟩
  generalize ((m.val.take m.val.length).map fun s => pullN s ws) = V
  refine ⟨Unit, fun _ => [(4, .ref 1 0), (5, .ref 2 0)], fun _ => 3, fun _ => [(1, .var cells0), (2, .var [.pv (i64 (ws.map i64).length), .pv (rowPV V), .pv (.sl (((m.rel.take m.rel.length).map ro).map rowPV))])], ?_, ?_⟩
  · try conv=>whnf
    refine ⟨{ i : Nat // i ≤ m.rel.length }, fun i => [(1, .pv (intsPV ws)), (2, .ref 0 0), (4, .ref 1 0), (5, .ref 2 0), (33, .pv (.sl (m.rel.map rowPV))), (34, .pv (i64 (m.rel.map rowPV).length)), (35, .pv (i64 i.1))], fun _ => 4, fun i => [(0, .var (cellsM m)), (1, .var cells0), (2, .var [.pv (i64 (ws.map i64).length), .pv (rowPV V), .buf 3 (((m.rel.take i.1).map ro).map rowPV).length]), (3, .arr 1 (((m.rel.take i.1).map ro).map rowPV))], fun i => m.rel.length - i.1, ⟨⟨0, Nat.zero_le _⟩, (by refine Wk.of ?_ ?_ rfl rfl rfl<;>repeat' (first|exact trivial|exact WkD.same _|exact WkO.same _ _ rfl|exact WkD.new' rfl rfl rfl|exact WkO.new _ _ rfl|refine WkO.vars rfl ?_|exact rfl|refine ⟨?_, ?_⟩|fail))⟩, ?_⟩
    rintro ⟨i, hi⟩
    (try conv=>whnf);repeat' (first|(apply And.intro<;>try conv=>whnf)|(intro h;try conv=>whnf)|(apply infoT;rfl)|fail)
    · have hi' : i < m.rel.length := by simpa using lt_dec h
      obtain ⟨r, hx⟩ : ∃ y, m.rel[i]? = some y := ⟨_, List.getElem?_eq_getElem hi'⟩
      have hrm : r ∈ m.rel := List.mem_iff_getElem?.2 ⟨_, hx⟩
      have hrl := hM.rows r hrm
      have hr64 := hf.2 r hrm
      have ht := take_map (f := ro) hx
      have hvsl : (((m.rel.take i).map ro).map rowPV).length ≤ 1000 := by simp; omega
      have er : ((m.rel.take i).map ro).map rowPV ++ [rowPV (ro r)] = ((m.rel.take (i + 1)).map ro).map rowPV := by rw [ht, List.map_append]; rfl
      refine ⟨_, _, rfl, idx_map hx, rfl, ?_⟩
      try conv=>whnf
      refine ⟨Unit, fun _ => [(1, .pv (intsPV ws)), (2, .ref 0 0), (4, .ref 1 0), (5, .ref 2 0), (10, .pv (rowPV ((ws.take ws.length).map fun w => pullN (r.getD w 0) ws))), (33, .pv (.sl (m.rel.map rowPV))), (34, .pv (i64 (m.rel.map rowPV).length)), (35, .pv (i64 i))], fun _ => 4, fun _ => [(0, .var (cellsM m)), (1, .var cells0), (2, .var [.pv (i64 (ws.map i64).length), .pv (rowPV V), .buf 3 (((m.rel.take i).map ro).map rowPV).length]), (3, .arr 1 (((m.rel.take i).map ro).map rowPV))], ?_, ?_⟩
      · try conv=>whnf
        refine ⟨{ j : Nat // j ≤ ws.length }, fun j => [(1, .pv (intsPV ws)), (2, .ref 0 0), (4, .ref 1 0), (5, .ref 2 0), (9, .pv (rowPV r)), (10, .buf 4 (((ws.take j.1).map fun w => pullN (r.getD w 0) ws).map u64).length), (33, .pv (.sl (m.rel.map rowPV))), (34, .pv (i64 (m.rel.map rowPV).length)), (35, .pv (i64 i)), (39, .pv (intsPV ws)), (40, .pv (i64 (ws.map i64).length)), (41, .pv (i64 j.1))], fun _ => 5, fun j => [(0, .var (cellsM m)), (1, .var cells0), (2, .var [.pv (i64 (ws.map i64).length), .pv (rowPV V), .buf 3 (((m.rel.take i).map ro).map rowPV).length]), (3, .arr 1 (((m.rel.take i).map ro).map rowPV)), (4, .arr 1 (((ws.take j.1).map fun w => pullN (r.getD w 0) ws).map u64))], fun j => ws.length - j.1, ⟨⟨0, Nat.zero_le _⟩, (by refine Wk.of ?_ ?_ rfl rfl rfl<;>repeat' (first|exact trivial|exact WkD.same _|exact WkO.same _ _ rfl|exact WkD.new' rfl rfl rfl|exact WkO.new _ _ rfl|exact rfl|refine ⟨?_, ?_⟩|fail))⟩, ?_⟩
        rintro ⟨j, hj⟩
        (try conv=>whnf);repeat' (first|(apply And.intro<;>try conv=>whnf)|(intro h;try conv=>whnf)|(apply infoT;rfl)|fail)
        · have hj' : j < ws.length := by simpa using lt_dec h
          obtain ⟨w, hx2⟩ : ∃ y, ws[j]? = some y := ⟨_, List.getElem?_eq_getElem hj'⟩
          have hwn := hw w (List.mem_iff_getElem?.2 ⟨_, hx2⟩)
          have hx3 : r[w]? = some (r.getD w 0) := getD_mem (by omega)
          have hs64 := hr64 _ (List.mem_iff_getElem?.2 ⟨_, hx3⟩)
          have hP := md_pull (r.getD w 0) ws hs64 hw64 hl
          have ht2 := take_map (f := fun w => pullN (r.getD w 0) ws) hx2
          have hvsl2 : (((ws.take j).map fun w => pullN (r.getD w 0) ws).map u64).length ≤ 1000 := by simp; omega
          have er2 : ((ws.take j).map fun w => pullN (r.getD w 0) ws).map u64 ++ [PV.int .u64 ((pullN (r.getD w 0) ws : Nat) : Int)] = ((ws.take (j + 1)).map fun w => pullN (r.getD w 0) ws).map u64 := by rw [ht2, List.map_append]; rfl
          generalize hgz : r.getD w 0 = z at hx3 hP er2
          refine ⟨_, _, rfl, idx_map hx2, rfl, ?_⟩
          (try conv=>whnf);repeat' (first|(apply And.intro<;>try conv=>whnf)|(apply infoT;rfl)|(apply cellsI;rfl)|(apply szI;rfl)|(refine ⟨_, _, rfl, idx_map (by with_reducible assumption), rfl, ?_⟩;try conv=>whnf)|(refine PureFn.dcq (f := 150) rfl ?_;try conv=>whnf)|(refine ⟨_, _, hP, ?_, ?_⟩;(focus first|(refine ⟨?_, ?_, trivial⟩<;>first|exact PLe.refl _|exact PLe.nil)|exact trivial);try conv=>whnf)|fail)
          · exact app_big (n := 1000) hvsl2 (by decide)
          · refine ⟨⟨j + 1, hj'⟩, by show ws.length - (j + 1) < ws.length - j; omega, ?_⟩
            (refine Wk.of ?_ ?_ rfl rfl rfl<;>repeat' (first|exact trivial|exact WkD.same _|exact WkO.same _ _ rfl|exact WkD.eq (congrArg (fun z : List PV => DV.buf _ z.length) er2)|exact WkO.same _ _ (congrArg (fun z => some (DObj.arr _ z)) er2)|refine WkD.int ?_|refine ⟨?_, ?_⟩|(refine wrapA ?_ ?_ ?_;(focus simp;done);(focus (try dsimp only);omega);(focus (try dsimp only);omega))|fail))
        · have hj' : j = ws.length := by have := ge_dec (m := (ws.map i64).length) h (by simpa using hj); simpa using this
          subst hj'
          exact ⟨(), (by refine Wk.of ?_ ?_ rfl rfl rfl<;>repeat' (first|exact trivial|exact WkD.same _|exact WkO.same _ _ rfl|exact WkD.fz _ _ _ rfl (Or.inl ⟨_, rfl⟩) rfl|refine ⟨?_, ?_⟩|fail))⟩
      rintro ⟨⟩
      have hR : (ws.take ws.length).map (fun w => pullN (r.getD w 0) ws) = ro r := by rw [List.take_length, qro]
      generalize (ws.take ws.length).map (fun w => pullN (r.getD w 0) ws) = R at hR
      rw [← hR] at er
      (try conv=>whnf);repeat' (first|(apply And.intro<;>try conv=>whnf)|(apply cellsI;rfl)|(apply szI;rfl)|fail)
      · exact app_big (n := 1000) hvsl (by decide)
      · refine ⟨⟨i + 1, hi'⟩, by show m.rel.length - (i + 1) < m.rel.length - i; omega, ?_⟩
        (refine Wk.of ?_ ?_ rfl rfl rfl<;>repeat' (first|exact trivial|exact WkD.same _|exact WkO.same _ _ rfl|exact WkD.eq (congrArg (fun z : List PV => DV.buf _ z.length) er)|exact WkO.same _ _ (congrArg (fun z => some (DObj.arr _ z)) er)|refine WkD.int ?_|refine WkO.vars rfl ?_|refine ⟨?_, ?_⟩|(refine wrapA ?_ ?_ ?_;(focus simp;done);(focus (try dsimp only);omega);(focus (try dsimp only);omega))|fail))
    · have hi' : i = m.rel.length := by have := ge_dec (m := (m.rel.map rowPV).length) h (by simpa using hi); simpa using this
      subst hi'
      exact ⟨(), (by refine Wk.of ?_ ?_ rfl rfl rfl<;>repeat' (first|exact trivial|exact WkD.same _|exact WkO.same _ _ rfl|exact WkD.fz _ _ _ rfl (Or.inl ⟨_, rfl⟩) rfl|refine WkO.vars rfl ?_|refine ⟨?_, ?_⟩|fail))⟩
  rintro ⟨⟩
  try conv=>whnf
  exact .refl _
end Go.Proofs.YtejbieopeicgkaaGreatDoor
set_option maxRecDepth 100000
set_option maxHeartbeats 4000000
namespace Go.Proofs.YtejbieopeicgkaaGreatDoor
open Go Go.Dv

theorem u_mod : ∃ fs : Array Field, Tryz.prog.underlying 25 = some (.struct fs) ∧ fs.toList.map (·.type) = [3, 22, 23] := ⟨_, rfl, by kernel_rfl⟩
theorem arg_mod {n : Nat} {p : PV} (h : TyA Tryz.prog (n + 4) 25 p) : ∃ m : Mo, PLe p m.pv ∧ FitM m := by
  obtain ⟨cs, h, rfl⟩ := h
  obtain ⟨fs, hu, hf⟩ := u_mod
  have hm : mkE Tryz.prog 25 cs = .agg cs := by simp only [mkE, kindT, hu]
  obtain ⟨a, b, r1, rfl, h1, hb, m1⟩ := fs_cons hf (tyS (n := n + 3) hu h)
  obtain ⟨c, d, r2, rfl, h2, hd, m2⟩ := fs_cons m1 hb
  obtain ⟨e, g, r3, rfl, h3, hg, m3⟩ := fs_cons m2 hd
  have := fs_nil m3 hg
  subst this
  obtain ⟨w, rfl, _⟩ := int_of (n := n + 2) h1
  obtain ⟨val, q2, rfl, l2, hv⟩ := slice_of (n := n + 2) (g := u64) (Q := fun s => s < 2 ^ 64) u_rowT (u64_el (n := n + 1)) h2
  obtain ⟨rel, q3, rfl, l3, hr⟩ := slice_of (n := n + 2) (g := rowPV) (Q := fun r => ∀ s, s ∈ r → s < 2 ^ 64) u_relT (fun p hp => el_of (n := n + 1) u_rowT (u64_el (n := n)) p hp) h3
  refine ⟨⟨w, val, rel⟩, ?_, hv, hr⟩
  rw [hm]
  exact PLe.aggs ⟨.refl _, l2, l3, trivial⟩
end Go.Proofs.YtejbieopeicgkaaGreatDoor
set_option maxRecDepth 100000
set_option maxHeartbeats 4000000
namespace Go.Proofs.YtejbieopeicgkaaGreatDoor
open Go Go.Dv

theorem getD_map_range {β : Type} {f : Nat → β} {n i : Nat} {d : β} (h : i < n) : ((List.range n).map f).getD i d = f i := by
  rw [List.getD_eq_getElem?_getD, List.getElem?_map, List.getElem?_range h]; rfl
end Go.Proofs.YtejbieopeicgkaaGreatDoor
set_option maxRecDepth 100000
set_option maxHeartbeats 4000000
namespace Go.Proofs.YtejbieopeicgkaaGreatDoor
open Go Go.Dv

def restPV (x : Mo × List Nat × Int) : PV := .tup [x.1.pv, intsPV x.2.1, .int .i64 x.2.2]
theorem le_rest (e : Int) : PLe (.tup [.agg [.int .i64 0, .nil, .nil], .nil, .int .i64 e]) (restPV (noMo, [], e)) := PLe.tups ⟨le_noMo, .nil, .refl _, trivial⟩
theorem nand_all {s n : Nat} (hs : s < 2 ^ n) (hn : n ≤ 64) : andNotU (s : Nat) ((2 ^ n - 1 : Nat) : Int) = 0 := by
  have h64 : s < 2 ^ 64 := Nat.lt_of_lt_of_le hs (pow64_le hn)
  rw [andNotU_eq h64, Nat.and_two_pow_sub_one_eq_mod, Nat.mod_eq_of_lt hs, Nat.xor_self]; rfl
theorem md_Restrict (m : Mo) (n s : Nat) (hM : OkM m n) (hs : s < 2 ^ n) (h0 : s ≠ 0) : PureFn Tryz.prog 84 [m.pv, u64 s] (restPV (arrI m (memL s), memL s, 0)) := by
  refine PureFn.intro mixed (fn := Tryz.f84) rfl rfl rfl fun M w0 => ?_
  have hn64 := hM.n64
  have hs64 : s < 2 ^ 64 := Nat.lt_of_lt_of_le hs (pow64_le hn64)
  have hC := md_Check m hM.fit
  rw [ok_moI hM] at hC
  have hA := md_all n (by omega)
  rw [show i64 n = .int .i64 m.n by rw [hM.nn]; rfl] at hA
  have hB := md_members s hs64
  have hR := md_arrange m (memL s) n hM (fun w hw => bit_lt hs (memL_mem.1 hw).2) (memL_len s)
  have hz := nand_all hs hn64
  have h0' : ¬ (s : Int) = 0 := by omega
  generalize memL s = ws at hB hR
  (try conv=>whnf);repeat' (first|(apply And.intro<;>try conv=>whnf)|(intro h;try conv=>whnf)|(refine PureFn.dcq (f := 40) rfl ?_;try conv=>whnf)|(refine PureFn.dcq (f := 114) rfl ?_;try conv=>whnf)|(refine PureFn.dcq (f := 115) rfl ?_;try conv=>whnf)|(refine PureFn.dcq (f := 116) rfl ?_;try conv=>whnf)|(refine ⟨_, _, hC, ?_, ?_⟩;(focus first|(refine ⟨?_, trivial⟩<;>first|exact PLe.refl _|exact PLe.nil)|exact trivial);try conv=>whnf)|(refine ⟨_, _, hA, ?_, ?_⟩;(focus first|(refine ⟨?_, trivial⟩<;>first|exact PLe.refl _|exact PLe.nil)|exact trivial);try conv=>whnf)|(refine ⟨_, _, hB, ?_, ?_⟩;(focus first|(refine ⟨?_, trivial⟩<;>first|exact PLe.refl _|exact PLe.nil)|exact trivial);try conv=>whnf)|(refine ⟨_, _, hR, ?_, ?_⟩;(focus first|(refine ⟨?_, ?_, trivial⟩<;>first|exact PLe.refl _|exact PLe.nil)|exact trivial);try conv=>whnf)|fail)
  · exact absurd (show ((0 : Int) != 0) = true from h) (by decide)
  · have h1 : (andNotU (s : Nat) ((2 ^ n - 1 : Nat) : Int) != 0) = true := h
    rw [hz] at h1; exact absurd h1 (by decide)
  · have h1 : ((s : Int) == 0) = true := h
    exact absurd (by simpa using h1) h0'
  · exact .refl _
theorem holds_split' {m : Mo} {f : List Nd} (h : (holdsI m f).2 = 0) : reqI m f = 0 := by
  by_cases q : reqI m f = 0
  · exact q
  · rw [holdsI, show (reqI m f != 0) = true by simpa using q] at h
    exact absurd h q
/-- An announcement. -/
def annI (m : Mo) (f : List Nd) : Mo × List Nat × Int := bif (holdsI m f).2 != 0 then (noMo, [], (holdsI m f).2) else bif (holdsI m f).1 == 0 then (noMo, [], 11) else (arrI m (memL (holdsI m f).1), memL (holdsI m f).1, 0)
theorem an_Update (m : Mo) (f : List Nd) (hf : FitM m) : PureFn Tryz.prog 28 [m.pv, fpv f] (restPV (annI m f)) := by
  have hH := ck_Holds m f hf
  by_cases h0 : (holdsI m f).2 = 0
  · obtain ⟨n, hM⟩ := (reqI_ok (holds_split' h0)).1
    have hlt := holds_lt (f := f) n hM
    have hR := fun hs => md_Restrict m n (holdsI m f).1 hM hlt hs
    have hX : annI m f = bif (holdsI m f).1 == 0 then (noMo, [], 11) else (arrI m (memL (holdsI m f).1), memL (holdsI m f).1, 0) := by rw [annI, h0]; rfl
    rw [hX]
    rw [show holdsI m f = ((holdsI m f).1, 0) from Prod.ext rfl h0] at hH
    generalize (holdsI m f).1 = s at hH hR
    by_cases hs : s = 0
    · subst hs
      refine PureFn.intro mixed (fn := Tryz.f28) rfl rfl rfl fun M w0 => ?_
      (try conv=>whnf);repeat' (first|(apply And.intro<;>try conv=>whnf)|(intro h;try conv=>whnf)|(refine PureFn.dcq (f := 41) rfl ?_;try conv=>whnf)|(refine ⟨_, _, hH, ?_, ?_⟩;(focus first|(refine ⟨?_, ?_, trivial⟩<;>first|exact PLe.refl _|exact PLe.nil)|exact trivial);try conv=>whnf)|fail)
      all_goals first
        | exact absurd (show ((0 : Int) != 0) = true from h) (by decide)
        | exact absurd (show ((0 : Int) == 0) = false from h) (by decide)
        | exact le_rest _
    · have hR := hR hs
      have hb : (s == 0) = false := by simpa using hs
      rw [hb]
      refine PureFn.intro mixed (fn := Tryz.f28) rfl rfl rfl fun M w0 => ?_
      (try conv=>whnf);repeat' (first|(apply And.intro<;>try conv=>whnf)|(intro h;try conv=>whnf)|(refine PureFn.dcq (f := 41) rfl ?_;try conv=>whnf)|(refine PureFn.dcq (f := 84) rfl ?_;try conv=>whnf)|(refine ⟨_, _, hH, ?_, ?_⟩;(focus first|(refine ⟨?_, ?_, trivial⟩<;>first|exact PLe.refl _|exact PLe.nil)|exact trivial);try conv=>whnf)|(refine ⟨_, _, hR, ?_, ?_⟩;(focus first|(refine ⟨?_, ?_, trivial⟩<;>first|exact PLe.refl _|exact PLe.nil)|exact trivial);try conv=>whnf)|fail)
      · exact absurd (show ((0 : Int) != 0) = true from h) (by decide)
      · have h1 : ((s : Int) == 0) = true := h
        have : (s : Int) = 0 := by simpa using h1
        omega
      · exact .refl _
  · have hb : ((holdsI m f).2 != 0) = true := by simpa using h0
    rw [annI, hb]
    generalize holdsI m f = X at hH hb
    obtain ⟨s, e⟩ := X
    refine PureFn.introC [4] mixed (fn := Tryz.f28) rfl rfl rfl fun M w0 => ?_
    (try conv=>whnf);repeat' (first|(refine PureFn.dcq (f := 41) rfl ?_;try conv=>whnf)|(refine ⟨_, _, hH, ?_, ?_⟩;(focus first|(refine ⟨?_, ?_, trivial⟩<;>first|exact PLe.refl _|exact PLe.nil)|exact trivial);try conv=>whnf)|fail)
    refine ⟨{ _x : Unit // False }, fun _ => [], fun _ => 0, fun _ => [], ?_, fun ⟨_, h⟩ => h.elim⟩
    (try conv=>whnf);repeat' (first|(apply And.intro<;>try conv=>whnf)|(intro h;first|with_reducible exact tf (by assumption) h|try conv=>whnf)|fail)
    · exact le_rest _

/-! the product with a public announcement -/
def pubA (A : Nat) (f : List Nd) : Act := ⟨[comp f], [[]], onesL A⟩
end Go.Proofs.YtejbieopeicgkaaGreatDoor
set_option maxRecDepth 100000
set_option maxHeartbeats 4000000
namespace Go.Proofs.YtejbieopeicgkaaGreatDoor
open Go Go.Dv

/-! requests -/
theorem orN_in {m : Nd → Nat} : ∀ {c : List Nd} {y : Nd}, y ∈ c → Sub (m y) (orN m c)
  | x :: r, y, h => by
    rw [orN_cons]
    intro i hi
    rw [Nat.testBit_or, Bool.or_eq_true]
    rcases List.mem_cons.1 h with rfl | h
    · exact .inl hi
    · exact .inr (orN_in h i hi)
end Go.Proofs.YtejbieopeicgkaaGreatDoor
set_option maxRecDepth 100000
set_option maxHeartbeats 4000000
namespace Go.Proofs.YtejbieopeicgkaaGreatDoor
open Go Go.Dv

section
variable {n N : Nat} {φ : Nat → Nat}
end
section
variable {m p : Mo} {n N : Nat} {φ : Nat → Nat}
theorem OkM.get {m : Mo} {n : Nat} (h : OkM m n) (a w : Nat) : (m.rel.getD a []).getD w 0 < 2 ^ n := by
  rw [List.getD_eq_getElem?_getD (l := m.rel)]
  cases hr : m.rel[a]? with
  | none => simp; exact Nat.two_pow_pos _
  | some r => exact getD_lt2 (h.bits r (List.mem_iff_getElem?.2 ⟨a, hr⟩)) w
theorem join_or {rel : List (List Nat)} {g : Int} {w j : Nat} : ∀ i, (joinA orF rel g 0 w i).testBit j = true ↔ ∃ a, a < i ∧ (and64 (shr64 g a) 1 == 1) = true ∧ ((rel.getD a []).getD w 0).testBit j = true
  | 0 => by
    rw [joinA, Nat.zero_testBit]
    exact ⟨fun h => (by cases h), fun ⟨a, h, _⟩ => (by omega)⟩
  | i + 1 => by
    have ih := join_or (rel := rel) (g := g) (w := w) (j := j) i
    rw [joinA]
    cases hg : (and64 (shr64 g i) 1 == 1) with
    | false =>
      rw [cond_false, ih]
      constructor
      · rintro ⟨a, h1, h2⟩; exact ⟨a, by omega, h2⟩
      · rintro ⟨a, h1, h2, h3⟩
        by_cases e : a = i
        · rw [e, hg] at h2; cases h2
        · exact ⟨a, by omega, h2, h3⟩
    | true =>
      rw [cond_true, orF, Nat.testBit_or, Bool.or_eq_true, ih]
      constructor
      · rintro (⟨a, h1, h2⟩ | h)
        · exact ⟨a, by omega, h2⟩
        · exact ⟨i, by omega, hg, h⟩
      · rintro ⟨a, h1, h2, h3⟩
        by_cases e : a = i
        · exact .inr (by rw [← e]; exact h3)
        · exact .inl ⟨a, by omega, h2, h3⟩
theorem join_and {rel : List (List Nat)} {g : Int} {n w j : Nat} : ∀ i, (joinA andF rel g (2 ^ n - 1) w i).testBit j = true ↔ j < n ∧ ∀ a, a < i → (and64 (shr64 g a) 1 == 1) = true → ((rel.getD a []).getD w 0).testBit j = true
  | 0 => by
    rw [joinA, Nat.testBit_two_pow_sub_one, decide_eq_true_eq]
    exact ⟨fun h => ⟨h, fun a h => (by omega)⟩, fun h => h.1⟩
  | i + 1 => by
    have ih := join_and (rel := rel) (g := g) (n := n) (w := w) (j := j) i
    rw [joinA]
    cases hg : (and64 (shr64 g i) 1 == 1) with
    | false =>
      rw [cond_false, ih]
      refine and_congr_right fun _ => ⟨fun h a h1 h2 => ?_, fun h a h1 h2 => h a (by omega) h2⟩
      by_cases e : a = i
      · rw [e, hg] at h2; cases h2
      · exact h a (by omega) h2
    | true =>
      rw [cond_true, andF, Nat.testBit_and, Bool.and_eq_true, ih]
      constructor
      · rintro ⟨⟨h0, h1⟩, h2⟩
        refine ⟨h0, fun a h3 h4 => ?_⟩
        by_cases e : a = i
        · rw [e]; exact h2
        · exact h1 a (by omega) h4
      · rintro ⟨h0, h1⟩
        exact ⟨⟨h0, fun a h3 h4 => h1 a (by omega) h4⟩, h1 i (by omega) hg⟩
theorem grpM_get {op : Nat → Nat → Nat} {m : Mo} {g : Int} {first n w : Nat} (hM : OkM m n) (hb : badGM m g = false) (hw : w < n) : (grpM op m g first).getD w 0 = joinA op m.rel g first w m.rel.length := by
  rw [grpM, hb, hM.nn, Int.toNat_natCast]
  exact getD_map_range hw
theorem grpM_lt {op : Nat → Nat → Nat} {m : Mo} {n : Nat} (hM : OkM m n) (hop : ∀ x y, x < 2 ^ n → y < 2 ^ n → op x y < 2 ^ n) {g : Int} {first : Nat} (hfi : first < 2 ^ n) (w : Nat) : (grpM op m g first).getD w 0 < 2 ^ n := by
  cases hb : badGM m g with
  | true => rw [grpM, hb, cond_true, List.getD_nil]; exact Nat.two_pow_pos _
  | false =>
    have hg' := hb
    unfold badGM at hg'
    rw [ok_moI hM] at hg'
    by_cases q1 : g < 1
    · rw [decide_eq_true q1] at hg'; cases hg'
    · rw [decide_eq_false q1] at hg'
      have := of_decide_eq_false (show decide (g ≥ shl64 1 (m.rel.length : Int)) = false from hg')
      exact getD_lt2 (grp_facts hM hop hfi (by omega) (by omega)).2 w
theorem andF_lt (n : Nat) : ∀ x y, x < 2 ^ n → y < 2 ^ n → andF x y < 2 ^ n := fun x _ _ h2 => Nat.and_lt_two_pow x h2
theorem pow_less (n : Nat) : 2 ^ n - 1 < 2 ^ n := by have := Nat.two_pow_pos n; omega
theorem holds_split {m : Mo} {f : List Nd} (h : (holdsI m f).2 = 0) : reqI m f = 0 ∧ holdsI m f = (vlT m m.n.toNat (root f), 0) := by
  by_cases q : reqI m f = 0
  · exact ⟨q, by rw [holdsI, q]; rfl⟩
  · rw [holdsI, show (reqI m f != 0) = true by simpa using q] at h
    exact absurd h q
/-! formulas that are put together -/
end
end Go.Proofs.YtejbieopeicgkaaGreatDoor
set_option maxRecDepth 100000
set_option maxHeartbeats 4000000
namespace Go.Proofs.YtejbieopeicgkaaGreatDoor
open Go Go.Dv

section
variable {acts : List Act} {m : Mo} {n : Nat} {a b g : Tr}
theorem notN_bit {n s w : Nat} : (notN n s).testBit w = (decide (w < n) && !s.testBit w) := by rw [notN, maskOf_bit]
end
end Go.Proofs.YtejbieopeicgkaaGreatDoor
set_option maxRecDepth 100000
set_option maxHeartbeats 4000000
namespace Go.Proofs.YtejbieopeicgkaaGreatDoor
open Go Go.Dv

theorem getD_past {α : Type} {l : List α} {i : Nat} {d : α} (h : l.length ≤ i) : l.getD i d = d := by
  rw [List.getD_eq_getElem?_getD, List.getElem?_eq_none h]; rfl
/-- Static trees whose nodes have their operands. -/
def swT : Tr → Prop
  | .none => True
  | .nd op _ _ _ a b => (1 ≤ op ∧ op ≤ 13) ∧ (usesX op = true → a ≠ .none) ∧ (usesY op = true → b ≠ .none) ∧ swT a ∧ swT b
section
variable {s n : Nat} (hs : s < 2 ^ n)
theorem notN_out {t v : Nat} (hv : v < n) (h : s.testBit v = false) : (notN n (s &&& t)).testBit v = true := by
  rw [notN_bit, Nat.testBit_and, h, decide_eq_true hv]; rfl
end
section
variable {m : Mo} {n s : Nat} (hM : OkM m n) (hs : s < 2 ^ n) (h0 : s ≠ 0)
theorem vl7 (x y : Nat) (i g : Int) : vlN m n 7 i g x y = notN n x ||| y := rfl
theorem vl5 (x y : Nat) (i g : Int) : vlN m n 5 i g x y = x &&& y := rfl
end
end Go.Proofs.YtejbieopeicgkaaGreatDoor
set_option maxRecDepth 100000
set_option maxHeartbeats 4000000
namespace Go.Proofs.YtejbieopeicgkaaGreatDoor
open Go Go.Dv

/-- Facts and groups that fit. -/
def frT (A F : Nat) : Tr → Prop
  | .none => True
  | .nd op i _ g a b => (op = 3 → 0 ≤ i ∧ i.toNat < F) ∧ (isGroup op = true → 1 ≤ g ∧ g < shl64 1 (A : Int)) ∧ op ≠ 13 ∧ frT A F a ∧ frT A F b
theorem join_and' {rel : List (List Nat)} {g : Int} {first w j : Nat} : ∀ i, (joinA (fun x y => x &&& y) rel g first w i).testBit j = true ↔ first.testBit j = true ∧ ∀ a, a < i → (and64 (shr64 g a) 1 == 1) = true → ((rel.getD a []).getD w 0).testBit j = true
  | 0 => by
    rw [joinA]
    exact ⟨fun h => ⟨h, fun a h => (by omega)⟩, fun h => h.1⟩
  | i + 1 => by
    have ih := join_and' (rel := rel) (g := g) (first := first) (w := w) (j := j) i
    rw [joinA]
    cases hg : (and64 (shr64 g i) 1 == 1) with
    | false =>
      rw [cond_false, ih]
      refine and_congr_right fun _ => ⟨fun h a h1 h2 => ?_, fun h a h1 h2 => h a (by omega) h2⟩
      by_cases e : a = i
      · rw [e, hg] at h2; cases h2
      · exact h a (by omega) h2
    | true =>
      rw [cond_true, Nat.testBit_and, Bool.and_eq_true, ih]
      constructor
      · rintro ⟨⟨h0, h1⟩, h2⟩
        refine ⟨h0, fun a h3 h4 => ?_⟩
        by_cases e : a = i
        · rw [e]; exact h2
        · exact h1 a (by omega) h4
      · rintro ⟨h0, h1⟩
        exact ⟨⟨h0, fun a h3 h4 => h1 a (by omega) h4⟩, h1 i (by omega) hg⟩
theorem fold5 {m : Mo} {n w : Nat} : ∀ (r : List Tr) (t : Tr), (vlT m n (r.foldl (fun a g => .nd 5 0 0 0 a g) t)).testBit w = true ↔ (vlT m n t).testBit w = true ∧ ∀ x, x ∈ r → (vlT m n x).testBit w = true
  | [], t => by simp
  | x :: r, t => by
    rw [List.foldl_cons, fold5 r, vlT, vl5, Nat.testBit_and, Bool.and_eq_true]
    simp [and_assoc]
theorem fold6 {m : Mo} {n w : Nat} : ∀ (r : List Tr) (t : Tr), (vlT m n (r.foldl (fun a g => .nd 6 0 0 0 a g) t)).testBit w = true ↔ (vlT m n t).testBit w = true ∨ ∃ x, x ∈ r ∧ (vlT m n x).testBit w = true
  | [], t => by simp
  | x :: r, t => by
    rw [List.foldl_cons, fold6 r, vlT, show vlN m n 6 0 0 (vlT m n t) (vlT m n x) = vlT m n t ||| vlT m n x from rfl, Nat.testBit_or, Bool.or_eq_true]
    simp [or_assoc]
theorem con_bit {m : Mo} {n w : Nat} (hw : w < n) {l : List Tr} : (vlT m n (conjT 5 tT l)).testBit w = true ↔ ∀ x, x ∈ l → (vlT m n x).testBit w = true := by
  cases l with
  | nil =>
    show (2 ^ n - 1).testBit w = true ↔ _
    rw [all_bit hw]; simp
  | cons t r =>
    rw [conjT, fold5]; simp
theorem dis_bit {m : Mo} {n w : Nat} {l : List Tr} : (vlT m n (conjT 6 fT l)).testBit w = true ↔ ∃ x, x ∈ l ∧ (vlT m n x).testBit w = true := by
  cases l with
  | nil =>
    show (0 : Nat).testBit w = true ↔ _
    simp
  | cons t r =>
    rw [conjT, fold6]; simp
theorem valI_fit {m : Mo} {a : Act} (h : moaI m a = 0) {e i : Nat} (he : e < a.pre.length) (hi : i < m.val.length) : statI m.rel.length m.val.length (valI a e i).1 = 0 := by
  obtain ⟨⟨n, hM⟩, hA⟩ := moaI_ok h
  have h1 := (act_alone hM.fa hA).1
  have hF := hM.fa
  have h2 : badEv a (e : Int) = false := by
    unfold badEv
    rw [decide_eq_false (by omega), decide_eq_false (by omega)]; rfl
  have h3 : badF (i : Int) = false := by
    unfold badF
    rw [decide_eq_false (by omega), decide_eq_false (by omega)]; rfl
  rw [valI, h1, h2, h3]
  show statI _ _ (valL (i : Int) (a.post.getD (e : Int).toNat [])) = 0
  rw [Int.toNat_natCast]
  exact valL_fit hi hF (chgs_stat ((evs_all (actI_ok hA).ev).2 e he))
section
variable {m : Mo} {n : Nat} {a : Act} {l : List (Nat × Nat)}
/-- A model, an action model that fits, and the pairs of their product. -/
structure Pr (m : Mo) (n : Nat) (a : Act) (l : List (Nat × Nat)) : Prop where
  okm : OkM m n
  act : actI a m.rel.length m.val.length = 0
  mem : ∀ w e, (w, e) ∈ l ↔ w < n ∧ e < a.pre.length ∧ (possP m a e).testBit w = true
  pos : 1 ≤ l.length
  len : l.length ≤ 64
theorem Pr.moa (h : Pr m n a l) : moaI m a = 0 := by rw [moaI, ok_moI h.okm]; exact h.act
theorem Pr.pre (h : Pr m n a l) {e : Nat} (he : e < a.pre.length) : possP m a e = vlT m n (root (a.pre.getD e [])) := by
  have h1 := (pre_holds h.moa he).1
  have h2 := (holds_split (m := m) (f := a.pre.getD e []) (by rw [h1])).2
  rw [h2, h.okm.nn, Int.toNat_natCast] at h1
  exact (congrArg Prod.fst h1).symm
theorem Pr.okp (h : Pr m n a l) : OkM (prodM m a l) l.length := prod_ok h.okm h.pos h.len
theorem Pr.rl (h : Pr m n a l) : a.rel.length = m.rel.length := (act_alone h.okm.fa h.act).2
def AgE (l : List (Nat × Nat)) (x : Nat) (T : Nat → Nat) : Prop := ∀ k w e, l[k]? = some (w, e) → x.testBit k = (T e).testBit w
/-- True where an event is not possible. -/
def OutE (m : Mo) (n : Nat) (a : Act) (T : Nat → Nat) : Prop := ∀ e, e < a.pre.length → ∀ v, v < n → (possP m a e).testBit v = false → (T e).testBit v = true
theorem pr_at (h : Pr m n a l) {k w e : Nat} (hk : l[k]? = some (w, e)) : k < l.length ∧ w < n ∧ e < a.pre.length ∧ (possP m a e).testBit w = true :=
  ⟨(List.getElem?_eq_some_iff.1 hk).1, (h.mem w e).1 (List.mem_iff_getElem?.2 ⟨k, hk⟩)⟩
/-- The rows of a product's relation. -/
def RowG (l : List (Nat × Nat)) (R r q : List Nat) : Prop := ∀ k w e, l[k]? = some (w, e) → ∀ j, (R.getD k 0).testBit j = true ↔ ∃ v d, l[j]? = some (v, d) ∧ (r.getD w 0).testBit v = true ∧ (q.getD e 0).testBit d = true
theorem pg_box (h : Pr m n a l) {R r q : List Nat} (hr : ∀ w, r.getD w 0 < 2 ^ n) (hR : RowG l R r q) {x : Nat} {T : Nat → Nat} (hx : AgE l x T) (ho : OutE m n a T) {k w e : Nat} (hk : l[k]? = some (w, e)) :
    (boxN l.length R x).testBit k = true ↔ ∀ d, d ∈ evsL (q.getD e 0) a.pre.length → (boxN n r (T d)).testBit w = true := by
  obtain ⟨h1, h2, _, _⟩ := pr_at h hk
  rw [boxN_bit]
  constructor
  · rintro ⟨_, g⟩ d hd
    rw [boxN_bit]
    refine ⟨h2, fun v hv => ?_⟩
    obtain ⟨d1, d2⟩ := List.mem_filter.1 hd
    have d1 := List.mem_range.1 d1
    have hvn := bit_lt (hr w) hv
    cases hb : (possP m a d).testBit v with
    | false => exact ho d d1 v hvn hb
    | true =>
      obtain ⟨j, hj⟩ := List.mem_iff_getElem?.1 ((h.mem v d).2 ⟨hvn, d1, hb⟩)
      rw [← hx j v d hj]
      exact g j ((hR k w e hk j).2 ⟨v, d, hj, hv, d2⟩)
  · intro g
    refine ⟨h1, fun j hj => ?_⟩
    obtain ⟨v, d, g1, g2, g3⟩ := (hR k w e hk j).1 hj
    rw [hx j v d g1]
    have := g d (List.mem_filter.2 ⟨List.mem_range.2 (pr_at h g1).2.2.1, g3⟩)
    exact (boxN_bit.1 this).2 v g2
theorem prod_rel {i : Nat} (hi : i < m.rel.length) : (prodM m a l).rel.getD i [] = l.map (rowP (m.rel.getD i []) (a.rel.getD i []) l) := by
  rw [prodM]
  exact getD_map_range hi
theorem getD_ofX {α : Type} {l : List α} {k : Nat} {d x : α} (h : l[k]? = some x) : l.getD k d = x := by rw [List.getD_eq_getElem?_getD, h]; rfl
theorem pr_row (h : Pr m n a l) (i : Nat) : RowG l ((prodM m a l).rel.getD i []) (m.rel.getD i []) (a.rel.getD i []) := fun k w e hk j => by
  by_cases hi : i < m.rel.length
  · rw [prod_rel hi, prow_bit (pr_at h hk).1, seesP_iff, getD_ofX hk]
    constructor
    · rintro ⟨h1, h2, h3⟩
      exact ⟨(l.getD j (0, 0)).1, (l.getD j (0, 0)).2, getD_mem h1, h2, h3⟩
    · rintro ⟨v, d, h1, h2, h3⟩
      rw [getD_ofX h1]
      exact ⟨(List.getElem?_eq_some_iff.1 h1).1, h2, h3⟩
  · have el : (prodM m a l).rel.length = m.rel.length := by simp [prodM]
    rw [getD_past (l := m.rel) (i := i) (by omega), getD_past (l := (prodM m a l).rel) (i := i) (by omega)]
    simp
theorem pr_bad (h : Pr m n a l) (g : Int) : badGM (prodM m a l) g = badGM m g := by
  rw [badGM, badGM, ok_moI h.okm, ok_moI h.okp, show (prodM m a l).rel.length = m.rel.length by simp [prodM]]
theorem bad_no (h : OkM m n) {g : Int} (hg : 1 ≤ g ∧ g < shl64 1 (m.rel.length : Int)) : badGM m g = false := by
  rw [badGM, ok_moI h, decide_eq_false (by omega), decide_eq_false (by omega)]; rfl
/-- What everybody of a group knows in a product. -/
theorem pr_every (h : Pr m n a l) {g : Int} (hg : badGM m g = false) {x k w e : Nat} (hk : l[k]? = some (w, e)) :
    (boxN l.length (grpM orF (prodM m a l) g 0) x).testBit k = true ↔ ∀ j, j < m.rel.length → (and64 (shr64 g j) 1 == 1) = true → (boxN l.length ((prodM m a l).rel.getD j []) x).testBit k = true := by
  have hk1 := (pr_at h hk).1
  have hrl : (prodM m a l).rel.length = m.rel.length := by simp [prodM]
  rw [boxN_bit, grpM_get h.okp (by rw [pr_bad h, hg]) hk1, hrl]
  constructor
  · rintro ⟨_, g1⟩ j hj hb
    rw [boxN_bit]
    exact ⟨hk1, fun v hv => g1 v ((join_or _).2 ⟨j, hj, hb, hv⟩)⟩
  · intro g1
    refine ⟨hk1, fun v hv => ?_⟩
    obtain ⟨j, hj, hb, hv⟩ := (join_or _).1 hv
    exact (boxN_bit.1 (g1 j hj hb)).2 v hv
theorem meet_get (h : Pr m n a l) {g : Int} (hg : 1 ≤ g ∧ g < shl64 1 (m.rel.length : Int)) {e : Nat} (he : e < a.pre.length) {d : Nat} : ((meetL a g).getD e 0).testBit d = true ↔ d < a.pre.length ∧ ∀ j, j < m.rel.length → (and64 (shr64 g j) 1 == 1) = true → ((a.rel.getD j []).getD e 0).testBit d = true := by
  have hal := act_alone h.okm.fa h.act
  have hE := (actI_ok h.act).n8
  have hb : badGr a g = false := by
    rw [badGr, hal.1, h.rl, decide_eq_false (by omega), decide_eq_false (by omega)]; rfl
  rw [meetL, togL, hb, cond_false, getD_map_range he, join_and', h.rl, allW_is _ (by omega), Nat.testBit_two_pow_sub_one, decide_eq_true_eq]
/-- The common part of the relations of a group in a product. -/
theorem pr_dist (h : Pr m n a l) {g : Int} (hg : 1 ≤ g ∧ g < shl64 1 (m.rel.length : Int)) : RowG l (grpM andF (prodM m a l) g (2 ^ l.length - 1)) (grpM andF m g (2 ^ n - 1)) (meetL a g) := fun k w e hk j => by
  obtain ⟨k1, k2, k3, _⟩ := pr_at h hk
  have hb := bad_no h.okm hg
  have hrl : (prodM m a l).rel.length = m.rel.length := by simp [prodM]
  rw [grpM_get h.okp (by rw [pr_bad h, hb]) k1, join_and, hrl]
  constructor
  · rintro ⟨h1, h2⟩
    have hj := getD_mem h1 (d := (0, 0))
    obtain ⟨_, j2, j3, _⟩ := pr_at h (w := (l.getD j (0, 0)).1) (e := (l.getD j (0, 0)).2) hj
    refine ⟨(l.getD j (0, 0)).1, (l.getD j (0, 0)).2, hj, ?_, ?_⟩
    · rw [grpM_get h.okm hb k2, join_and]
      refine ⟨j2, fun b h3 h4 => ?_⟩
      obtain ⟨v, d, g1, g2, _⟩ := (pr_row h b k w e hk j).1 (h2 b h3 h4)
      rw [hj] at g1
      obtain ⟨rfl, rfl⟩ := Prod.mk.inj (Option.some.inj g1)
      exact g2
    · rw [meet_get h hg k3]
      refine ⟨j3, fun b h3 h4 => ?_⟩
      obtain ⟨v, d, g1, _, g2⟩ := (pr_row h b k w e hk j).1 (h2 b h3 h4)
      rw [hj] at g1
      obtain ⟨rfl, rfl⟩ := Prod.mk.inj (Option.some.inj g1)
      exact g2
  · rintro ⟨v, d, h1, h2, h3⟩
    rw [grpM_get h.okm hb k2, join_and] at h2
    rw [meet_get h hg k3] at h3
    exact ⟨(List.getElem?_eq_some_iff.1 h1).1, fun b g1 g2 => (pr_row h b k w e hk j).2 ⟨v, d, h1, h2.2 b g1 g2, h3.2 b g1 g2⟩⟩
theorem kno_bit {i e w : Nat} (hw : w < n) {X : Nat → Tr} : (vlT m n (knoT a i e X)).testBit w = true ↔ ∀ d, d ∈ sees a i e → (boxN n (m.rel.getD i []) (vlT m n (X d))).testBit w = true := by
  rw [knoT, con_bit hw]
  constructor
  · intro h d hd
    have := h _ (List.mem_map.2 ⟨d, hd, rfl⟩)
    rw [vlT] at this
    rw [show vlN m n 9 (i : Int) 0 (vlT m n (X d)) (vlT m n .none) = boxN n (m.rel.getD (i : Int).toNat []) (vlT m n (X d)) from rfl, Int.toNat_natCast] at this
    exact this
  · intro h x hx
    obtain ⟨d, hd, rfl⟩ := List.mem_map.1 hx
    rw [vlT, show vlN m n 9 (i : Int) 0 (vlT m n (X d)) (vlT m n .none) = boxN n (m.rel.getD (i : Int).toNat []) (vlT m n (X d)) from rfl, Int.toNat_natCast]
    exact h d hd
theorem aft_out (h : Pr m n a l) {t : Tr} (ht : t ≠ .none) : OutE m n a fun e => vlT m n (aftT a t e) := fun e he v hv hb => by
  cases t with
  | none => exact absurd rfl ht
  | nd op i e' g x y =>
    show (vlT m n (.nd 7 0 0 0 (root (a.pre.getD e [])) _)).testBit v = true
    rw [vlT, vl7, Nat.testBit_or, notN_bit, ← h.pre he, hb, decide_eq_true hv]; rfl
theorem vl_dia {i : Int} {P t : Tr} : vlT m n (.nd 10 i 0 0 (.nd 5 0 0 0 P t) .none) = diaN n (m.rel.getD i.toNat []) (vlT m n P &&& vlT m n t) := rfl
/-- In a product a formula is true at the pairs whose worlds have the reduction for their event. -/
theorem aft_ag (h : Pr m n a l) : ∀ t, swT t → frT m.rel.length m.val.length t → AgE l (vlT (prodM m a l) l.length t) fun e => vlT m n (aftT a t e)
  | .none, _, _ => fun k w e _ => by
    show (0 : Nat).testBit k = (0 : Nat).testBit w
    rw [Nat.zero_testBit, Nat.zero_testBit]
  | .nd op i e' g x y, hw, hf => by
    obtain ⟨⟨o1, o2⟩, n1, n2, w1, w2⟩ := hw
    obtain ⟨f3, fg, f13, fx, fy⟩ := hf
    have hx := aft_ag h x w1 fx
    have hy := aft_ag h y w2 fy
    have hout : usesX op = true → OutE m n a fun e => vlT m n (aftT a x e) := fun u => aft_out h (n1 u)
    intro k w e hk
    obtain ⟨k1, k2, k3, k4⟩ := pr_at h hk
    show (vlN (prodM m a l) l.length op i g (vlT (prodM m a l) l.length x) (vlT (prodM m a l) l.length y)).testBit k = (vlT m n (.nd 7 0 0 0 (root (a.pre.getD e [])) _)).testBit w
    rw [vlT, vl7, Nat.testBit_or, notN_bit, ← h.pre k3, k4, Bool.not_true, Bool.and_false, Bool.false_or]
    generalize vlT (prodM m a l) l.length x = p at hx ⊢
    generalize vlT (prodM m a l) l.length y = q at hy ⊢
    have hxe := hx k w e hk
    have hye := hy k w e hk
    have : op = 1 ∨ op = 2 ∨ op = 3 ∨ op = 4 ∨ op = 5 ∨ op = 6 ∨ op = 7 ∨ op = 8 ∨ op = 9 ∨ op = 10 ∨ op = 11 ∨ op = 12 ∨ op = 13 := by omega
    rcases this with rfl | rfl | rfl | rfl | rfl | rfl | rfl | rfl | rfl | rfl | rfl | rfl | rfl
    · show (2 ^ l.length - 1).testBit k = (2 ^ n - 1).testBit w
      rw [all_bit k1, all_bit k2]
    · show (0 : Nat).testBit k = (0 : Nat).testBit w
      rw [Nat.zero_testBit, Nat.zero_testBit]
    · show ((prodM m a l).val.getD i.toNat 0).testBit k = (vlT m n (root (valI a e i).1)).testBit w
      obtain ⟨i0, i1⟩ := f3 rfl
      have hi : ((i.toNat : Nat) : Int) = i := by omega
      have hv : (prodM m a l).val.getD i.toNat 0 = valP m a l i.toNat := by rw [prodM]; exact getD_map_range i1
      rw [hv, valP, maskOf_bit, decide_eq_true k1, Bool.true_and, getD_ofX hk]
      show (valuP m a e i.toNat).testBit w = _
      have hok := valI_fit h.moa k3 i1
      rw [hi] at hok
      have hr : reqI m (valI a e i).1 = 0 := by rw [reqI, ok_moI h.okm]; exact hok
      rw [valuP, hi, holdsI, hr, h.okm.nn, Int.toNat_natCast]; rfl
    · show (notN l.length p).testBit k = (notN n (vlT m n (aftT a x e))).testBit w
      rw [notN_bit, notN_bit, decide_eq_true k1, decide_eq_true k2, hxe]
    · show (p &&& q).testBit k = (vlT m n (aftT a x e) &&& vlT m n (aftT a y e)).testBit w
      rw [Nat.testBit_and, Nat.testBit_and, hxe, hye]
    · show (p ||| q).testBit k = (vlT m n (aftT a x e) ||| vlT m n (aftT a y e)).testBit w
      rw [Nat.testBit_or, Nat.testBit_or, hxe, hye]
    · show (notN l.length p ||| q).testBit k = (notN n (vlT m n (aftT a x e)) ||| vlT m n (aftT a y e)).testBit w
      rw [Nat.testBit_or, Nat.testBit_or, notN_bit, notN_bit, decide_eq_true k1, decide_eq_true k2, hxe, hye]
    · show (notN l.length (p ^^^ q)).testBit k = (notN n (vlT m n (aftT a x e) ^^^ vlT m n (aftT a y e))).testBit w
      rw [notN_bit, notN_bit, decide_eq_true k1, decide_eq_true k2, Nat.testBit_xor, Nat.testBit_xor, hxe, hye]
    · show (boxN l.length ((prodM m a l).rel.getD i.toNat []) p).testBit k = (vlT m n (knoT a i.toNat e (aftT a x))).testBit w
      rw [Bool.eq_iff_iff, kno_bit k2]
      exact pg_box h (h.okm.get _) (pr_row h _) hx (hout rfl) hk
    · show (diaN l.length ((prodM m a l).rel.getD i.toNat []) p).testBit k = (vlT m n (conjT 6 fT ((sees a i.toNat e).map fun d => .nd 10 i 0 0 (.nd 5 0 0 0 (root (a.pre.getD d [])) (aftT a x d)) .none))).testBit w
      rw [Bool.eq_iff_iff, dis_bit, diaN, notN_bit, decide_eq_true k1, Bool.true_and, Bool.not_eq_true']
      have hb := pg_box (x := notN l.length p) (T := fun d => notN n (possP m a d &&& vlT m n (aftT a x d))) h (h.okm.get i.toNat) (pr_row h i.toNat) (fun j v d hj => by
          obtain ⟨j1, j2, _, j4⟩ := pr_at h hj
          show (notN l.length p).testBit j = (notN n (possP m a d &&& vlT m n (aftT a x d))).testBit v
          have hq : p.testBit j = (vlT m n (aftT a x d)).testBit v := hx j v d hj
          rw [notN_bit, notN_bit, decide_eq_true j1, decide_eq_true j2, Nat.testBit_and, j4, Bool.true_and, hq, Bool.true_and, Bool.true_and]) (fun d hd v hv hb => notN_out hv hb) hk
      constructor
      · intro hn
        apply Classical.byContradiction
        intro hno
        have : (boxN l.length ((prodM m a l).rel.getD i.toNat []) (notN l.length p)).testBit k = true := hb.2 fun d hd => by
          cases hbb : (boxN n (m.rel.getD i.toNat []) (notN n (possP m a d &&& vlT m n (aftT a x d)))).testBit w with
          | true => rfl
          | false =>
            exfalso
            refine hno ⟨_, List.mem_map.2 ⟨d, hd, rfl⟩, ?_⟩
            rw [vl_dia, ← h.pre (evs_lt hd), diaN, notN_bit, decide_eq_true k2, hbb]; rfl
        rw [hn] at this; cases this
      · rintro ⟨t, ht, htw⟩
        obtain ⟨d, hd, rfl⟩ := List.mem_map.1 ht
        rw [vl_dia, ← h.pre (evs_lt hd), diaN, notN_bit, Bool.and_eq_true, Bool.not_eq_true'] at htw
        cases hbb : (boxN l.length ((prodM m a l).rel.getD i.toNat []) (notN l.length p)).testBit k with
        | false => rfl
        | true =>
          have := hb.1 hbb d hd
          rw [htw.2] at this; cases this
    · show (boxN l.length (grpM orF (prodM m a l) g 0) p).testBit k = (vlT m n (conjT 5 tT ((grpL a g).map fun j => knoT a j e (aftT a x)))).testBit w
      rw [Bool.eq_iff_iff, pr_every h (bad_no h.okm (fg rfl)) hk, con_bit k2]
      constructor
      · intro g1 t ht
        obtain ⟨j, hj, rfl⟩ := List.mem_map.1 ht
        obtain ⟨j1, j2⟩ := List.mem_filter.1 hj
        rw [kno_bit k2]
        exact (pg_box h (h.okm.get _) (pr_row h _) hx (hout rfl) hk).1 (g1 j (by rw [← h.rl]; exact List.mem_range.1 j1) j2)
      · intro g1 j hj hb
        have := g1 _ (List.mem_map.2 ⟨j, List.mem_filter.2 ⟨List.mem_range.2 (by rw [h.rl]; exact hj), hb⟩, rfl⟩)
        rw [kno_bit k2] at this
        exact (pg_box h (h.okm.get _) (pr_row h _) hx (hout rfl) hk).2 this
    · show (boxN l.length (grpM andF (prodM m a l) g (2 ^ l.length - 1)) p).testBit k = (vlT m n (conjT 5 tT ((evsL ((meetL a g).getD e 0) a.pre.length).map fun d => .nd 12 0 0 g (aftT a x d) .none))).testBit w
      rw [Bool.eq_iff_iff, con_bit k2, pg_box h (grpM_lt h.okm (andF_lt n) (pow_less n)) (pr_dist h (fg rfl)) hx (hout rfl) hk]
      constructor
      · intro g1 t ht
        obtain ⟨d, hd, rfl⟩ := List.mem_map.1 ht
        rw [vlT]
        exact g1 d hd
      · intro g1 d hd
        have := g1 _ (List.mem_map.2 ⟨d, hd, rfl⟩)
        rw [vlT] at this
        exact this
    · exact absurd rfl f13
end
end Go.Proofs.YtejbieopeicgkaaGreatDoor
set_option maxRecDepth 100000
set_option maxHeartbeats 4000000
namespace Go.Proofs.YtejbieopeicgkaaGreatDoor
open Go Go.Dv

theorem stat13 {op : Nat} (h : op < 22) (hf : (frag (op : Int)).toNat < 16) : op ≤ 13 := by
  have key : ∀ op : Nat, op < 22 → (frag (op : Int)).toNat < 16 → op ≤ 13 := by decide
  exact key op h hf
theorem shape_at {A F : Nat} {f : List Nd} (hf : Okl f) (hs : ∀ x, x ∈ f → stM A F x.op x.i x.e x.g = true) : ∀ (n i : Nat), i < n → i < f.length → tree f i ≠ .none ∧ swT (tree f i)
  | 0, i, h, _ => by omega
  | n + 1, i, hn, hi => by
    have hx : f[i]? = some f[i] := List.getElem?_eq_getElem hi
    have hm := hs _ (List.getElem_mem hi)
    generalize f[i] = x at hx hm
    have ok := hf i x hx
    have h13 : x.op ≤ 13 := by
      obtain ⟨⟨h1, _⟩, _⟩ := stM_iff.1 hm
      have ho := ok.op
      have := stat13 (op := x.op.toNat) (by omega) (by rw [show ((x.op.toNat : Nat) : Int) = x.op by omega]; exact h1)
      omega
    rw [tree_nd hf hx]
    refine ⟨(by intro e; cases e), ⟨⟨ok.op.1, h13⟩, fun u => ?_, fun u => ?_, ?_, ?_⟩⟩
    · rw [u]; have := ok.x u; exact (shape_at hf hs n x.x.toNat (by omega) (by omega)).1
    · rw [u]; have := ok.y u; exact (shape_at hf hs n x.y.toNat (by omega) (by omega)).1
    · cases hu : usesX x.op with
      | false => trivial
      | true => have := ok.x hu; exact (shape_at hf hs n x.x.toNat (by omega) (by omega)).2
    · cases hu : usesY x.op with
      | false => trivial
      | true => have := ok.y hu; exact (shape_at hf hs n x.y.toNat (by omega) (by omega)).2
theorem shape_fr {A F : Nat} (hA : A ≤ 4) {f : List Nd} (hf : Okl f) (hs : ∀ x, x ∈ f → stM A F x.op x.i x.e x.g = true) (hc : ∀ x, x ∈ f → x.op ≠ 13) : ∀ (n i : Nat), i < n → i < f.length → frT A F (tree f i)
  | 0, i, h, _ => by omega
  | n + 1, i, hn, hi => by
    have hx : f[i]? = some f[i] := List.getElem?_eq_getElem hi
    have hm := hs _ (List.getElem_mem hi)
    have h13 := hc _ (List.getElem_mem hi)
    generalize f[i] = x at hx hm h13
    have ok := hf i x hx
    obtain ⟨⟨_, h2⟩, h3⟩ := stM_iff.1 hm
    rw [tree_nd hf hx]
    refine ⟨fun u => ?_, fun u => ?_, h13, ?_, ?_⟩
    · refine ⟨(ok.fact u).1, ?_⟩
      have h3 : factN x < 2 ^ F := h3
      rw [factN, show (x.op == 3) = true by simpa using u, cond_true] at h3
      exact (Nat.pow_lt_pow_iff_right (by decide : 1 < 2)).1 h3
    · have hg := ok.group u
      have h2 : agN x < 2 ^ A := h2
      have hna : isAgent x.op = false := by
        have := ok.op
        have key : ∀ n : Nat, n < 22 → isGroup (n : Int) = true → isAgent (n : Int) = false := by decide
        have := key x.op.toNat (by omega)
        rw [show ((x.op.toNat : Nat) : Int) = x.op by omega] at this
        exact this u
      rw [agN, hna, cond_false] at h2
      rw [shl_n hA]
      exact ⟨hg.1, by omega⟩
    · cases hu : usesX x.op with
      | false => trivial
      | true => have := ok.x hu; exact shape_fr hA hf hs hc n x.x.toNat (by omega) (by omega)
    · cases hu : usesY x.op with
      | false => trivial
      | true => have := ok.y hu; exact shape_fr hA hf hs hc n x.y.toNat (by omega) (by omega)
theorem can_nodes {A F : Nat} {z : List Nd} (hz : Can z) (ha : allT (rgQ (stM A F)) (root z) = true) : ∀ x, x ∈ z → stM A F x.op x.i x.e x.g = true := fun x hx => by
  rw [← hz.fix] at hx
  exact (rg_iff.1 (finT_all (Q := rgQ (stM A F)) _ _ ha (by simp) x hx)).1
theorem can_sw {A F : Nat} {z : List Nd} (hz : Can z) (ha : allT (rgQ (stM A F)) (root z) = true) : root z ≠ .none ∧ swT (root z) := by
  have := hz.pos
  exact shape_at hz.ok (can_nodes hz ha) z.length (z.length - 1) (by omega) (by omega)
theorem no_common {z : List Nd} (hz : Can z) (h : (and64 (frags z : Nat) 8 != 0) = false) : ∀ x, x ∈ z → x.op ≠ 13 := fun x hx e => by
  have hfr : frags z < 2 ^ 62 := Nat.lt_of_lt_of_le (frags_lt z) (by decide)
  have h0 : and64 (frags z : Nat) ((8 : Nat) : Int) = 0 := by simpa using h
  rw [and64_nat hfr (by decide)] at h0
  have h0 : frags z &&& 8 = 0 := by omega
  have hin : Sub (fragN x) (frags z) := by
    unfold frags
    rw [can_comp hz]
    exact orN_in hx
  have h8 : fragN x = 8 := by rw [fragN, e]; rfl
  have : (frags z).testBit 3 = true := hin 3 (by rw [h8]; rfl)
  have h3 : (frags z &&& 8).testBit 3 = true := by rw [Nat.testBit_and, this]; rfl
  rw [h0] at h3
  exact absurd h3 (by decide)
theorem can_fr {A F : Nat} (hA : A ≤ 4) {z : List Nd} (hz : Can z) (ha : allT (rgQ (stM A F)) (root z) = true) (h : (and64 (frags z : Nat) 8 != 0) = false) : frT A F (root z) := by
  have := hz.pos
  exact shape_fr hA hz.ok (can_nodes hz ha) (no_common hz h) z.length (z.length - 1) (by omega) (by omega)
end Go.Proofs.YtejbieopeicgkaaGreatDoor
set_option maxRecDepth 100000
set_option maxHeartbeats 4000000
namespace Go.Proofs.YtejbieopeicgkaaGreatDoor
open Go Go.Dv

theorem holds_of {m : Mo} {n : Nat} {x : List Nd} {s : Nat} (hM : OkM m n) (hs : statI m.rel.length m.val.length x = 0) (hv : vlT m n (root x) = s) : holdsI m x = (s, 0) := by
  have hr : reqI m x = 0 := by rw [reqI, ok_moI hM]; exact hs
  rw [holdsI, hr, hM.nn, Int.toNat_natCast, hv]; rfl
end Go.Proofs.YtejbieopeicgkaaGreatDoor
set_option maxRecDepth 100000
set_option maxHeartbeats 4000000
namespace Go.Proofs.YtejbieopeicgkaaGreatDoor
open Go Go.Dv

/-! a public announcement as an action model -/
theorem pubA_smA {A : Nat} {f : List Nd} (hA : A ≤ 4) : Fit (pubA A f) ∧ (pubA A f).rel.length ≤ 1000 ∧ ∀ l, l ∈ (pubA A f).post → l.length ≤ 1000 := by
  refine ⟨fun r hr s hs => ?_, by simp [pubA, onesL]; omega, by simp [pubA]⟩
  rw [List.eq_of_mem_replicate (show r ∈ onesL A from hr)] at hs
  rw [List.mem_singleton.1 hs]; decide
end Go.Proofs.YtejbieopeicgkaaGreatDoor
set_option maxRecDepth 100000
set_option maxHeartbeats 4000000
namespace Go.Proofs.YtejbieopeicgkaaGreatDoor
open Go Go.Dv

/-! pairs in their order -/
def lexP (x y : Nat × Nat) : Prop := x.1 < y.1 ∨ (x.1 = y.1 ∧ x.2 < y.2)
theorem lex_asym (x y : Nat × Nat) (h : lexP x y) : ¬ lexP y x := by
  unfold lexP at *; omega
theorem sorted_eq {α : Type} {R : α → α → Prop} (ha : ∀ x y, R x y → ¬ R y x) : ∀ {a b : List α}, a.Pairwise R → b.Pairwise R → (∀ x, x ∈ a ↔ x ∈ b) → a = b
  | [], [], _, _, _ => rfl
  | [], y :: s, _, _, h => absurd ((h y).2 (by simp)) (by simp)
  | x :: r, [], _, _, h => absurd ((h x).1 (by simp)) (by simp)
  | x :: r, y :: s, h1, h2, h => by
    rw [List.pairwise_cons] at h1 h2
    have hxy : x = y := by
      have a1 := (h x).1 (by simp)
      have a2 := (h y).2 (by simp)
      rcases List.mem_cons.1 a1 with e | e
      · exact e
      · rcases List.mem_cons.1 a2 with e2 | e2
        · exact e2.symm
        · exact absurd (h2.1 x e) (ha _ _ (h1.1 y e2))
    subst hxy
    congr 1
    refine sorted_eq ha h1.2 h2.2 fun z => ⟨fun hz => ?_, fun hz => ?_⟩
    · rcases List.mem_cons.1 ((h z).1 (List.mem_cons_of_mem _ hz)) with e | e
      · subst e; exact absurd (h1.1 z hz) fun q => ha _ _ q q
      · exact e
    · rcases List.mem_cons.1 ((h z).2 (List.mem_cons_of_mem _ hz)) with e | e
      · subst e; exact absurd (h2.1 z hz) fun q => ha _ _ q q
      · exact e
theorem pairsE_asc {p : Nat → Nat} {w : Nat} : ∀ e, (pairsE p w e).Pairwise lexP
  | 0 => .nil
  | e + 1 => by
    rw [pairsE]
    cases (p e).testBit w with
    | false => exact pairsE_asc e
    | true =>
      rw [cond_true, List.pairwise_append]
      refine ⟨pairsE_asc e, List.pairwise_singleton _ _, fun a ha b hb => ?_⟩
      rw [List.mem_singleton.1 hb]
      obtain ⟨h1, h2, _⟩ := pairsE_mem.1 ha
      exact .inr ⟨h1, h2⟩
theorem pairsW_asc {p : Nat → Nat} {k : Nat} : ∀ n, (pairsW p k n).Pairwise lexP
  | 0 => .nil
  | n + 1 => by
    rw [pairsW, List.pairwise_append]
    refine ⟨pairsW_asc n, pairsE_asc k, fun a ha b hb => ?_⟩
    have h1 := (pairsW_mem.1 ha).1
    have h2 := (pairsE_mem.1 hb).1
    exact .inl (by omega)

/-! rows -/
theorem joinN_bit {x y m : Nat} (hy : y < 2 ^ m) {e f : Nat} (hf : f < m) : ∀ g, (joinN x y m g).testBit (e * m + f) = (decide (e < g) && (x.testBit e && y.testBit f))
  | 0 => by rw [joinN, Nat.zero_testBit]; simp
  | g + 1 => by
    have ih := joinN_bit hy hf (e := e) (x := x) g
    have key : (y * 2 ^ (g * m)).testBit (e * m + f) = (decide (e = g) && y.testBit f) := by
      rw [Nat.testBit_mul_two_pow]
      rcases Nat.lt_trichotomy e g with q | q | q
      · have h1 : (e + 1) * m ≤ g * m := Nat.mul_le_mul_right _ q
        rw [Nat.succ_mul] at h1
        rw [decide_eq_false (show ¬ g * m ≤ e * m + f by omega), decide_eq_false (show ¬ e = g by omega), Bool.false_and, Bool.false_and]
      · subst q
        rw [decide_eq_true (show e * m ≤ e * m + f by omega), decide_eq_true rfl, show e * m + f - e * m = f by omega]
      · have h1 : (g + 1) * m ≤ e * m := Nat.mul_le_mul_right _ q
        rw [Nat.succ_mul] at h1
        rw [decide_eq_false (show ¬ e = g by omega), Nat.testBit_lt_two_pow (Nat.lt_of_lt_of_le hy (Nat.pow_le_pow_right (by decide) (by omega)))]
        simp
    have hd : e ≠ g → decide (e < g + 1) = decide (e < g) := fun q => by simp only [decide_eq_decide]; omega
    rw [joinN]
    cases hx : x.testBit g with
    | false =>
      rw [cond_false, ih]
      by_cases q : e = g
      · subst q; rw [hx]; simp
      · rw [hd q]
    | true =>
      rw [cond_true, Nat.testBit_or, ih, key]
      by_cases q : e = g
      · subst q; rw [hx]; simp
      · rw [decide_eq_false q, hd q]; simp
theorem pair_ix {n k e f : Nat} (he : e < n) (hf : f < k) : e * k + f < n * k := by
  have := Nat.mul_le_mul_right k (Nat.succ_le_of_lt he)
  rw [Nat.succ_mul] at this; omega
theorem ix_pair {n k q : Nat} (h : q < n * k) : ∃ e f, e < n ∧ f < k ∧ q = e * k + f := by
  have hk : 0 < k := by
    rcases Nat.eq_zero_or_pos k with rfl | h0
    · simp at h
    · exact h0
  refine ⟨q / k, q % k, ?_, Nat.mod_lt _ hk, ?_⟩
  · rw [Nat.div_lt_iff_lt_mul hk]; exact h
  · rw [Nat.mul_comm]; exact (Nat.div_add_mod q k).symm
theorem rowC_bit {r s : List Nat} {n k e f e' f' : Nat} (he : e < n) (hf : f < k) (he' : e' < n) (hf' : f' < k) (hs : s.getD f 0 < 2 ^ k) :
    ((rowC r s n k).getD (e * k + f) 0).testBit (e' * k + f') = ((r.getD e 0).testBit e' && (s.getD f 0).testBit f') := by
  have h1 : (rowC r s n k).getD (e * k + f) 0 = joinN (r.getD e 0) (s.getD f 0) k n := by
    rw [List.getD_eq_getElem?_getD, rowC, List.getElem?_map, prs_get he hf]; rfl
  rw [h1, joinN_bit hs hf', decide_eq_true he', Bool.true_and]
theorem rowC_lt {r s : List Nat} {n k : Nat} (hs : ∀ x, x ∈ s → x < 2 ^ k) : ∀ x, x ∈ rowC r s n k → x < 2 ^ (n * k) := fun x hx => by
  obtain ⟨q, _, rfl⟩ := List.mem_map.1 hx
  exact joinN_lt (getD_lt2 hs _) n

/-! assignments -/
theorem chgs_cons {A F : Int} {x : Asg} {r : List Asg} {lo : Int} : chgs A F (x :: r) lo = 0 ↔ (0 ≤ x.fact ∧ x.fact < F) ∧ lo < x.fact ∧ statI A F x.to = 0 ∧ chgs A F r x.fact = 0 := by
  rw [chgs]
  by_cases h1 : x.fact < 0
  · rw [decide_eq_true h1]
    refine ⟨fun h => absurd (show (2 : Int) = 0 from h) (by decide), fun h => ?_⟩
    have := h.1.1; omega
  by_cases h2 : x.fact ≥ F
  · rw [decide_eq_false h1, decide_eq_true h2]
    refine ⟨fun h => absurd (show (2 : Int) = 0 from h) (by decide), fun h => ?_⟩
    have := h.1.2; omega
  rw [decide_eq_false h1, decide_eq_false h2]
  by_cases h3 : x.fact ≤ lo
  · rw [decide_eq_true h3]
    refine ⟨fun h => absurd (show (9 : Int) = 0 from h) (by decide), fun h => ?_⟩
    have := h.2.1; omega
  rw [decide_eq_false h3]
  by_cases h4 : statI A F x.to = 0
  · rw [h4]
    exact ⟨fun h => ⟨⟨by omega, by omega⟩, by omega, rfl, h⟩, fun h => h.2.2.2⟩
  · rw [show (statI A F x.to != 0) = true by simpa using h4]
    exact ⟨fun h => absurd h h4, fun h => absurd h.2.2.1 h4⟩
theorem chgs_asc {A F : Int} : ∀ {l : List Asg} {lo : Int}, chgs A F l lo = 0 → l.Pairwise (fun x y => x.fact < y.fact) ∧ ∀ x, x ∈ l → lo < x.fact ∧ 0 ≤ x.fact ∧ x.fact < F ∧ statI A F x.to = 0
  | [], _, _ => ⟨.nil, fun x hx => by cases hx⟩
  | y :: r, lo, h => by
    obtain ⟨⟨h1, h2⟩, h3, h4, h5⟩ := chgs_cons.1 h
    obtain ⟨g1, g2⟩ := chgs_asc h5
    refine ⟨List.pairwise_cons.2 ⟨fun z hz => (g2 z hz).1, g1⟩, fun x hx => ?_⟩
    rcases List.mem_cons.1 hx with rfl | hx
    · exact ⟨h3, h1, h2, h4⟩
    · obtain ⟨q1, q2⟩ := g2 x hx
      exact ⟨by omega, q2⟩
theorem chgs_ins {A F : Int} {x : Asg} (hx : 0 ≤ x.fact ∧ x.fact < F) (hs : statI A F x.to = 0) : ∀ {l : List Asg} {lo : Int}, chgs A F l lo = 0 → lo < x.fact → chgs A F (insA l x) lo = 0
  | [], lo, _, hl => chgs_cons.2 ⟨hx, hl, hs, rfl⟩
  | y :: r, lo, h, hl => by
    obtain ⟨h1, h2, h3, h4⟩ := chgs_cons.1 h
    rw [insA]
    by_cases q1 : y.fact < x.fact
    · rw [decide_eq_true q1, cond_true]
      exact chgs_cons.2 ⟨h1, h2, h3, chgs_ins hx hs h4 q1⟩
    · rw [decide_eq_false q1, cond_false]
      by_cases q2 : y.fact = x.fact
      · rw [decide_eq_true q2, cond_true]
        exact chgs_cons.2 ⟨h1, h2, hs, h4⟩
      · rw [decide_eq_false q2, cond_false]
        exact chgs_cons.2 ⟨hx, hl, hs, chgs_cons.2 ⟨h1, by omega, h3, h4⟩⟩
theorem chgs_comp {A F : Nat} : ∀ {l : List Asg} {lo : Int}, chgs A F l lo = 0 → chgs A F (compA l) lo = 0
  | [], _, _ => rfl
  | y :: r, lo, h => by
    obtain ⟨h1, h2, h3, h4⟩ := chgs_cons.1 h
    exact chgs_cons.2 ⟨h1, h2, stat_comp h3, chgs_comp h4⟩
theorem valL_ins {i : Int} {x : Asg} : ∀ {l : List Asg}, valL i (insA l x) = bif x.fact == i then comp x.to else valL i l
  | [] => rfl
  | y :: r => by
    rw [insA]
    by_cases h1 : y.fact < x.fact
    · rw [decide_eq_true h1, cond_true, valL, valL_ins, valL]
      by_cases e : x.fact = i
      · rw [show (y.fact == i) = false by simp; omega]; rfl
      · rw [show (x.fact == i) = false by simpa using e]; rfl
    · rw [decide_eq_false h1, cond_false]
      by_cases h2 : y.fact = x.fact
      · rw [decide_eq_true h2, cond_true, valL, valL, h2]
        cases (x.fact == i) <;> rfl
      · rw [decide_eq_false h2, cond_false]; rfl
theorem valL_comp {i : Int} : ∀ {l : List Asg}, (∀ x, x ∈ l → check x.to = 0) → valL i (compA l) = valL i l
  | [], _ => rfl
  | y :: r, h => by
    show (bif y.fact == i then comp (comp y.to) else valL i (compA r)) = bif y.fact == i then comp y.to else valL i r
    rw [comp_comp (h y (by simp)), valL_comp fun x hx => h x (List.mem_cons_of_mem _ hx)]
theorem addE_cons {a : Act} {e : Nat} {out : List Asg} {x : Asg} {r : List Asg} : addE a e out (x :: r) = match aftE a e x.to with
    | .error c => .error c
    | .ok to => addE a e (insA out ⟨x.fact, to⟩) r := rfl
theorem addE_not {a : Act} {e : Nat} {i : Int} : ∀ (s out l : List Asg), addE a e out s = .ok l → (∀ x, x ∈ s → x.fact ≠ i) → valL i l = valL i out := by
  intro s
  induction s with
  | nil => intro out l h _; cases h; rfl
  | cons z s ih =>
    intro out l h hn
    rw [addE_cons] at h
    cases hz : aftE a e z.to with
    | error c => rw [hz] at h; cases h
    | ok t2 =>
      rw [hz] at h
      have hzi : ((⟨z.fact, t2⟩ : Asg).fact == i) = false := by
        have := hn z (by simp)
        simpa using this
      rw [ih _ _ h fun x hx => hn x (List.mem_cons_of_mem _ hx), valL_ins, hzi]; rfl
/-- The formula that a fact gets from the assignments of a pair. -/
theorem addE_val {a : Act} {e : Nat} {i : Int} : ∀ (s out l : List Asg), addE a e out s = .ok l → s.Pairwise (fun x y => x.fact < y.fact) →
    (∃ x to, x ∈ s ∧ aftE a e x.to = .ok to ∧ valL i l = comp to ∧ valL i s = comp x.to) ∨ (valL i l = valL i out ∧ valL i s = buildL (nI 3 i) []) := by
  intro s
  induction s with
  | nil =>
    intro out l h _
    cases h
    exact .inr ⟨rfl, rfl⟩
  | cons y r ih =>
    intro out l h hp
    have hp2 := List.pairwise_cons.1 hp
    rw [addE_cons] at h
    cases hy : aftE a e y.to with
    | error c => rw [hy] at h; cases h
    | ok to =>
      rw [hy] at h
      have h : addE a e (insA out ⟨y.fact, to⟩) r = .ok l := h
      by_cases q : y.fact = i
      · have hb : (y.fact == i) = true := by simpa using q
        have hb' : ((⟨y.fact, to⟩ : Asg).fact == i) = true := hb
        refine .inl ⟨y, to, by simp, hy, ?_, by rw [valL, hb]; rfl⟩
        rw [addE_not r _ _ h fun x hx => by have := hp2.1 x hx; omega, valL_ins, hb']; rfl
      · have hb : (y.fact == i) = false := by simpa using q
        have hb' : ((⟨y.fact, to⟩ : Asg).fact == i) = false := hb
        rcases ih _ _ h hp2.2 with ⟨x, t, hx, ha, hv, hs⟩ | ⟨hv, hs⟩
        · exact .inl ⟨x, t, List.mem_cons_of_mem _ hx, ha, hv, by rw [valL, hb, cond_false, hs]⟩
        · exact .inr ⟨by rw [hv, valL_ins, hb']; rfl, by rw [valL, hb, cond_false, hs]⟩

/-! what a formula says before an event -/
theorem aftE_inv {a : Act} {e : Nat} {f g : List Nd} (h : aftE a e f = .ok g) : check f = 0 ∧ e < a.pre.length ∧ (and64 (frags f : Nat) 8 != 0) = false ∧ Can g ∧ root g = aftT a (root f) e := by
  have h0 : aftI a e f = (g, 0) := by
    unfold aftE at h
    generalize aftI a e f = X at h
    obtain ⟨z, c⟩ := X
    by_cases q : c = 0
    · subst q; cases h; rfl
    · have h : (bif c != 0 then Except.error c else Except.ok z) = Except.ok g := h
      rw [show (c != 0) = true by simpa using q] at h; cases h
  have h2 := congrArg Prod.snd h0
  unfold aftI at h0 h2
  have h2 : (bif chkI a != 0 then (([] : List Nd), chkI a) else bif check f != 0 then ([], check f) else bif badEv a e then ([], 6)
    else bif (bif !stB f then true else and64 (frags f : Nat) 8 != 0) then ([], 10) else bif !fits f (min (a.rel.length : Int) 4) 8 then ([], 2) else aftF a (e : Int).toNat (comp f)).2 = 0 := h2
  by_cases q1 : ¬ (chkI a = 0)
  · rw [show (chkI a != 0) = true by simpa using q1] at h2; exact absurd h2 q1
  have q1 := Classical.not_not.1 q1
  rw [q1] at h0 h2
  by_cases q2 : ¬ (check f = 0)
  · rw [show (check f != 0) = true by simpa using q2] at h2; exact absurd h2 q2
  have q2 := Classical.not_not.1 q2
  rw [q2] at h0 h2
  cases q3 : badEv a e with
  | true => rw [q3] at h2; exact absurd (show (6 : Int) = 0 from h2) (by decide)
  | false =>
    rw [q3] at h0 h2
    cases q4 : (bif !stB f then true else and64 (frags f : Nat) 8 != 0) with
    | true => rw [q4] at h2; exact absurd (show (10 : Int) = 0 from h2) (by decide)
    | false =>
      rw [q4] at h0 h2
      cases q5 : fits f (min (a.rel.length : Int) 4) 8 with
      | false => rw [q5] at h2; exact absurd (show (2 : Int) = 0 from h2) (by decide)
      | true =>
        rw [q5] at h0 h2
        have h0 : aftF a (e : Int).toNat (comp f) = (g, 0) := h0
        rw [Int.toNat_natCast] at h0
        obtain ⟨k, hk, he⟩ := badEv_no q3
        obtain rfl : e = k := by omega
        obtain ⟨g1, g2⟩ := aftF_tree he (comp_okl f) (comp_pos q2) (by rw [h0])
        rw [h0] at g1 g2
        rw [root_comp q2] at g2
        exact ⟨q2, he, (or_ff' q4).2, g1, g2⟩
theorem frags_comp {f : List Nd} (h : check f = 0) : frags (comp f) = frags f := by
  rw [frags, comp_comp h]; rfl
theorem aft_stat {a : Act} {A F e : Nat} (hF : F ≤ 8) (hA : actI a A F = 0) {f g : List Nd} (hf : statI A F f = 0) (h : aftE a e f = .ok g) : Can g ∧ root g = aftT a (root f) e ∧ statI A F g = 0 ∧ frT A F (root f) ∧ root f ≠ .none ∧ swT (root f) := by
  obtain ⟨h1, h2, h3, h4, h5⟩ := aftE_inv h
  have hQ := all_stat hf
  have hc := comp_can h1
  have h41 : A ≤ 4 := by
    have h6 := (actI_ok hA).ags
    have := (actI_ok hA).agn
    omega
  have hq : allT (rgQ (stM A F)) (root (comp f)) = true := by rw [root_comp h1]; exact hQ
  have h6 := can_fr h41 hc hq (by rw [frags_comp h1]; exact h3)
  have h7 := can_sw hc hq
  rw [root_comp h1] at h6 h7
  exact ⟨h4, h5, stat_all h4 (by rw [h5]; exact aftT_all (stM_clo A F) (act_Q hF hA) _ hQ e), h6, h7.1, h7.2⟩

/-! compositions -/
structure Cmp (a b c : Act) : Prop where
  a0 : aloneI a = 0
  b0 : aloneI b = 0
  rl : a.rel.length = b.rel.length
  n8 : a.pre.length * b.pre.length ≤ 8
  len : c.pre.length = a.pre.length * b.pre.length
  plen : c.post.length = a.pre.length * b.pre.length
  rel : c.rel = relsC a b
  cell : ∀ e f, e < a.pre.length → f < b.pre.length → ∃ g, aftE a e (b.pre.getD f []) = .ok g ∧ c.pre.getD (e * b.pre.length + f) [] = buildL (n0 5) [a.pre.getD e [], g] ∧ buildL (n0 5) [a.pre.getD e [], g] ≠ [] ∧ asgE a e (b.post.getD f []) = .ok (c.post.getD (e * b.pre.length + f) [])
theorem cell_inv {a b : Act} {e f : Nat} {p : List Nd} {l : List Asg} (h : cellE a b (e, f) = .ok (p, l)) : ∃ g, aftE a e (b.pre.getD f []) = .ok g ∧ p = buildL (n0 5) [a.pre.getD e [], g] ∧ buildL (n0 5) [a.pre.getD e [], g] ≠ [] ∧ asgE a e (b.post.getD f []) = .ok l := by
  rw [cellE_eq rfl rfl rfl] at h
  cases hg : aftE a e (b.pre.getD f []) with
  | error c => rw [hg] at h; cases h
  | ok g =>
    rw [hg] at h
    have h : (bif (buildL (n0 5) [a.pre.getD e [], g]).isEmpty then Except.error 8 else match asgE a e (b.post.getD f []) with
      | .error c => .error c
      | .ok l => .ok (buildL (n0 5) [a.pre.getD e [], g], l)) = Except.ok (p, l) := h
    cases hq : (buildL (n0 5) [a.pre.getD e [], g]).isEmpty with
    | true => rw [hq] at h; cases h
    | false =>
      rw [hq, cond_false] at h
      cases hl : asgE a e (b.post.getD f []) with
      | error c => rw [hl] at h; cases h
      | ok l' =>
        rw [hl] at h
        cases h
        exact ⟨g, rfl, rfl, fun q => (by rw [q] at hq; cases hq), rfl⟩
theorem cmp_of {a b c : Act} (h : composeI a b = (c, 0)) : Cmp a b c := by
  have h2 := congrArg Prod.snd h
  unfold composeI at h h2
  by_cases q1 : ¬ (aloneI a = 0)
  · rw [show (aloneI a != 0) = true by simpa using q1] at h2; exact absurd h2 q1
  have q1 := Classical.not_not.1 q1
  rw [q1] at h h2
  by_cases q2 : ¬ (aloneI b = 0)
  · rw [show (aloneI b != 0) = true by simpa using q2] at h2; exact absurd h2 q2
  have q2 := Classical.not_not.1 q2
  rw [q2] at h h2
  by_cases q3 : ¬ (a.rel.length = b.rel.length)
  · rw [show ((a.rel.length : Int) != (b.rel.length : Int)) = true by simp; omega] at h2
    exact absurd (show (1 : Int) = 0 from h2) (by decide)
  have q3 := Classical.not_not.1 q3
  rw [show ((a.rel.length : Int) != (b.rel.length : Int)) = false by simp; omega] at h h2
  by_cases q4 : (a.pre.length : Int) * (b.pre.length : Int) > 8
  · rw [decide_eq_true q4] at h2
    exact absurd (show (8 : Int) = 0 from h2) (by decide)
  rw [decide_eq_false q4] at h h2
  have q4 : a.pre.length * b.pre.length ≤ 8 := by
    have : ((a.pre.length * b.pre.length : Nat) : Int) = (a.pre.length : Int) * (b.pre.length : Int) := by simp
    omega
  cases hr : runE (cellE a b) (prs a.pre.length b.pre.length) with
  | error d =>
    rw [hr] at h
    have h : (noAct, d) = (c, 0) := h
    cases h
    -- an error is never zero: the cell says so
    exfalso
    have key : ∀ (l : List (Nat × Nat)), runE (cellE a b) l ≠ .error 0 := by
      intro l
      induction l with
      | nil => intro q; cases q
      | cons x r ih =>
        intro q
        rw [runE] at q
        cases hx : cellE a b x with
        | error d =>
          rw [hx] at q
          cases q
          obtain ⟨e, f⟩ := x
          rw [cellE_eq rfl rfl rfl] at hx
          have aft0 : ∀ v, aftE a e v ≠ .error 0 := by
            intro v q
            unfold aftE at q
            generalize aftI a e v = X at q
            obtain ⟨z, d⟩ := X
            by_cases q5 : d = 0
            · subst q5; cases q
            · have q : (bif d != 0 then Except.error d else Except.ok z) = (Except.error 0 : Except Int (List Nd)) := q
              rw [show (d != 0) = true by simpa using q5] at q
              cases q
              exact q5 rfl
          cases hg : aftE a e (b.pre.getD f []) with
          | error d => rw [hg] at hx; cases hx; exact aft0 _ hg
          | ok g =>
            rw [hg] at hx
            have hx : (bif (buildL (n0 5) [a.pre.getD e [], g]).isEmpty then Except.error 8 else match asgE a e (b.post.getD f []) with
              | .error c => .error c
              | .ok l => .ok (buildL (n0 5) [a.pre.getD e [], g], l)) = Except.error 0 := hx
            cases hq : (buildL (n0 5) [a.pre.getD e [], g]).isEmpty with
            | true => rw [hq] at hx; cases hx
            | false =>
              rw [hq, cond_false] at hx
              have add0 : ∀ (s out : List Asg), addE a e out s ≠ .error 0 := by
                intro s
                induction s with
                | nil => intro out q; cases q
                | cons y s ih =>
                  intro out q
                  rw [addE_cons] at q
                  cases hy : aftE a e y.to with
                  | error d => rw [hy] at q; cases q; exact aft0 _ hy
                  | ok to => rw [hy] at q; exact ih _ q
              cases hl : asgE a e (b.post.getD f []) with
              | error d => rw [hl] at hx; cases hx; exact add0 _ _ hl
              | ok l' => rw [hl] at hx; cases hx
        | ok y =>
          rw [hx] at q
          simp only at q
          cases hr2 : runE (cellE a b) r with
          | error d => rw [hr2] at q; cases q; exact ih hr2
          | ok l => rw [hr2] at q; cases q
    exact key _ hr
  | ok l =>
    rw [hr] at h
    have h : ((⟨l.map (·.1), l.map (·.2), relsC a b⟩ : Act), (0 : Int)) = (c, 0) := h
    cases h
    have hl := runE_len hr
    rw [prs_len] at hl
    refine ⟨q1, q2, q3, q4, by simpa using hl, by simpa using hl, rfl, fun e f he hf => ?_⟩
    obtain ⟨⟨p, q⟩, g1, g2⟩ := runE_get hr (prs_get he hf)
    obtain ⟨g, k1, k2, k3, k4⟩ := cell_inv g2
    have e1 : (l.map (·.1)).getD (e * b.pre.length + f) [] = p := by rw [List.getD_eq_getElem?_getD, List.getElem?_map, g1]; rfl
    have e2 : (l.map (·.2)).getD (e * b.pre.length + f) [] = q := by rw [List.getD_eq_getElem?_getD, List.getElem?_map, g1]; rfl
    exact ⟨g, k1, by show (l.map (·.1)).getD _ [] = _; rw [e1, k2], k3, by show asgE a e _ = .ok ((l.map (·.2)).getD _ []); rw [e2]; exact k4⟩
end Go.Proofs.YtejbieopeicgkaaGreatDoor
