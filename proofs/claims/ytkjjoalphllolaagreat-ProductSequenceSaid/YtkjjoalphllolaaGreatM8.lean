/- Parts of the proof, one after the other: Products: Update of the program walked. Models: the reference's All, Check, Same, Few walked. Products: At of the program walked; the examples of the law. Lists taken element by element. Products one after the other: what they are; copies of lists; the program walked. Products one after the other: the program walked. References of models and of the checker: boxes, paths, groups walked. The checker's reference: nodes walked. -/
import Derived.Test.YtkjjoalphllolaaGreatM7
set_option maxRecDepth 100000
set_option maxHeartbeats 4000000
namespace Go.Proofs.YtkjjoalphllolaaGreat
open Go Go.Dv

def vsU (m : Mo) (a : Act) (l : List (Nat × Nat)) (i : Nat) : List Nat := (List.range i).map (valP m a l)
def rsU (m : Mo) (a : Act) (l : List (Nat × Nat)) (i : Nat) : List (List Nat) := (List.range i).map (relP m a l)
theorem vsU_succ (m : Mo) (a : Act) (l : List (Nat × Nat)) (i : Nat) : vsU m a l (i + 1) = vsU m a l i ++ [valP m a l i] := by rw [vsU, List.range_succ, List.map_append]; rfl
theorem rsU_succ (m : Mo) (a : Act) (l : List (Nat × Nat)) (i : Nat) : rsU m a l (i + 1) = rsU m a l i ++ [relP m a l i] := by rw [rsU, List.range_succ, List.map_append]; rfl
def vlU (m : Mo) (a : Act) (i : Nat) : List Nat := (List.range a.pre.length).map fun e => valuP m a e i
theorem vlU_get {m : Mo} {a : Act} {i e : Nat} (h : e < a.pre.length) : (vlU m a i).getD e 0 = valuP m a e i := by
  rw [vlU, List.getD_eq_getElem?_getD, List.getElem?_map, List.getElem?_range h]; rfl
def updPlan : Plan := .one 2 (.one 3 (.two 0 (.two 1 (.one 4 (.one 5 (.one 6 (.one 7 (.one 8 .done))))) 4 (.one 1 (.one 5 (.one 6 (.one 7 (.one 8 .done)))))) 4 (.one 0 (.one 1 (.one 5 (.one 6 (.one 7 (.one 8 .done))))))))
theorem pr_Update (m : Mo) (a : Act) (hf : FitM m) (hfa : Fit a) (hl : a.rel.length ≤ 1000) (hp : ∀ l, l ∈ a.post → l.length ≤ 1000) : PureFn Tryz.prog 12 [m.pv, a.pv] (updPV (updI m a)) := by
  refine PureFn.introC [4, 6, 20, 22, 31, 33] mixed (fn := Tryz.f12) rfl rfl rfl fun M w0 => ?_
  have hW := pr_Worlds m a hf hfa hl hp
  obtain ⟨l, e, hX⟩ : ∃ l e, worldsI m a = (l, e) := ⟨_, _, rfl⟩
  have hwo := worldsI_ok (m := m) (a := a)
  rw [updI]
  rw [hX] at hW hwo ⊢
  clear hX
  have e9 : ((l.map pairPV).length : Int) = (l.length : Int) := by simp
  (try conv=>whnf);repeat' (first|(refine PureFn.dcq (f := 22) rfl ?_;try conv=>whnf)|(refine ⟨_, _, hW, ?_, ?_⟩;(focus first|(refine ⟨?_, ?_, trivial⟩<;>first|exact PLe.refl _|exact PLe.nil)|exact trivial);try conv=>whnf)|fail)
  refine ⟨{ _x : Unit // (e != 0) = false }, fun _ => [(2, .ref 0 0), (3, .ref 1 0), (4, .ref 2 0), (7, .ref 3 0)], fun _ => 4, fun _ => [(0, .var (cellsM m)), (1, .var (cellsA a)), (2, .var cells0), (3, .var [.pv (.sl (l.map pairPV))])], ?_, ?_⟩
  · (try conv=>whnf);repeat' (first|(apply And.intro<;>try conv=>whnf)|(intro h;try conv=>whnf)|fail)
    · rw [show (((l, e) : List (Nat × Nat) × Int).2 != 0) = true from h]; exact le_upd _
    · exact ⟨⟨(), h⟩, (by refine Wk.of ?_ ?_ rfl rfl rfl<;>repeat' (first|exact trivial|exact WkD.same _|exact WkO.same _ _ rfl|refine ⟨?_, ?_⟩|fail))⟩
  rintro ⟨_, h1⟩
  obtain ⟨hma, hpl, hl1⟩ := hwo (show e = 0 by simpa using h1)
  obtain ⟨⟨n, hM⟩, hAc⟩ := moaI_ok hma
  have hO := actI_ok hAc
  have hn8 := hO.n8
  have hn64 := hM.n64
  have hfa8 := hM.fa
  have hag := hM.ag
  have hpl : l = pairsL m a := hpl
  have hmem : ∀ y, y ∈ l → y.1 < n ∧ y.2 < a.pre.length := fun y hy => by
    rw [hpl, pairsL, hM.nn] at hy
    have := pairsW_mem.1 hy
    exact ⟨this.1, this.2.1⟩
  clear hpl hl1
  refine ⟨{ _x : Unit // decide ((l.length : Int) > 64) = false }, fun _ => [(2, .ref 0 0), (3, .ref 1 0), (4, .ref 2 0), (7, .ref 3 0)], fun _ => 4, fun _ => [(0, .var (cellsM m)), (1, .var (cellsA a)), (2, .var cells0), (3, .var [.pv (.sl (l.map pairPV))])], ?_, ?_⟩
  · (try conv=>whnf);repeat' (first|(apply And.intro<;>try conv=>whnf)|(intro h;try conv=>whnf)|fail)
    · have h9 : decide ((l.length : Int) > 64) = true := by rw [← e9]; exact h
      rw [show (((l, e) : List (Nat × Nat) × Int).2 != 0) = false from h1, show decide ((((l, e) : List (Nat × Nat) × Int).1.length : Int) > 64) = true from h9]
      exact le_upd _
    · exact ⟨⟨(), by rw [← e9]; exact h⟩, (by refine Wk.of ?_ ?_ rfl rfl rfl<;>repeat' (first|exact trivial|exact WkD.same _|exact WkO.same _ _ rfl|refine ⟨?_, ?_⟩|fail))⟩
  rintro ⟨_, h2⟩
  have hl64 : l.length ≤ 64 := by have := of_decide_eq_false h2; omega
  have hres : (bif (((l, e) : List (Nat × Nat) × Int).2 != 0) then (noMo, ([] : List (Nat × Nat)), ((l, e) : List (Nat × Nat) × Int).2) else bif decide ((((l, e) : List (Nat × Nat) × Int).1.length : Int) > 64) then (noMo, [], 8) else (prodM m a ((l, e) : List (Nat × Nat) × Int).1, ((l, e) : List (Nat × Nat) × Int).1, (0 : Int))) = (prodM m a l, l, 0) := by
    rw [show (((l, e) : List (Nat × Nat) × Int).2 != 0) = false from h1, show decide ((((l, e) : List (Nat × Nat) × Int).1.length : Int) > 64) = false from h2]; rfl
  rw [hres]
  clear hres
  try conv=>whnf
  refine ⟨Unit, fun _ => [(2, .ref 0 0), (3, .ref 1 0), (4, .ref 2 0), (7, .ref 3 0), (9, .clo 23 [] [.ref 3 0]), (10, .ref 4 0)], fun _ => 5, fun _ => [(0, .var (cellsM m)), (1, .var (cellsA a)), (2, .var cells0), (3, .var [.pv (.sl (l.map pairPV))]), (4, .var [.pv (i64 (l.map pairPV).length), .pv (rowPV (vsU m a l m.val.length)), .pv .nil])], ?_, ?_⟩
  · try conv=>whnf
    refine ⟨{ i : Nat // i ≤ m.val.length }, fun i => [(2, .ref 0 0), (3, .ref 1 0), (4, .ref 2 0), (7, .ref 3 0), (9, .clo 23 [] [.ref 3 0]), (10, .ref 4 0), (41, .pv (i64 (m.val.map u64).length)), (42, .pv (i64 i.1))], fun _ => 6, fun i => [(0, .var (cellsM m)), (1, .var (cellsA a)), (2, .var cells0), (3, .var [.pv (.sl (l.map pairPV))]), (4, .var [.pv (i64 (l.map pairPV).length), .buf 5 ((vsU m a l i.1).map u64).length, .pv .nil]), (5, .arr 1 ((vsU m a l i.1).map u64))], fun i => m.val.length - i.1, ⟨⟨0, Nat.zero_le _⟩, (by refine Wk.of ?_ ?_ rfl rfl rfl<;>repeat' (first|exact trivial|exact WkD.same _|exact WkO.same _ _ rfl|exact WkD.new' rfl rfl rfl|exact WkO.new _ _ rfl|refine WkO.vars rfl ?_|exact rfl|refine ⟨?_, ?_⟩|fail))⟩, ?_⟩
    rintro ⟨i, hi⟩
    (try conv=>whnf);repeat' (first|(apply And.intro<;>try conv=>whnf)|(intro h;try conv=>whnf)|(apply Or.inl;try conv=>whnf)|fail)
    · rfl
    · exact Int.natCast_nonneg _
    · show ((a.pre.map fpv).length : Int) ≤ 4294967296
      rw [List.length_map]; omega
    · have hi' : i < m.val.length := by simpa using lt_dec h
      have hN : ((a.pre.map fpv).length : Int).toNat = a.pre.length := by rw [List.length_map]; rfl
      have hz1 : List.replicate ((a.pre.map fpv).length : Int).toNat (PV.int .u64 0) = (mixV a.pre.length (fun e => u64 (valuP m a e i)) (fun _ => u64 0) 0) := by rw [hN]; exact mixV_rep _ _ _
      have hmlv := mixV_len a.pre.length (fun e => u64 (valuP m a e i)) (fun _ => u64 0)
      refine ⟨Unit, fun _ => [(2, .ref 0 0), (3, .ref 1 0), (4, .ref 2 0), (7, .ref 3 0), (9, .clo 23 [] [.ref 3 0]), (10, .ref 4 0), (12, .ref 7 0), (41, .pv (i64 (m.val.map u64).length)), (42, .pv (i64 i))], fun _ => 8, fun _ => [(0, .var (cellsM m)), (1, .var (cellsA a)), (2, .var cells0), (3, .var [.pv (.sl (l.map pairPV))]), (4, .var [.pv (i64 (l.map pairPV).length), .buf 5 ((vsU m a l i).map u64).length, .pv .nil]), (5, .arr 1 ((vsU m a l i).map u64)), (7, .var [.pv (.sl (mixV a.pre.length (fun e => u64 (valuP m a e i)) (fun _ => u64 0) a.pre.length))])], ?_, ?_⟩
      · try conv=>whnf
        refine ⟨{ k : Nat // k ≤ a.pre.length }, fun k => [(2, .ref 0 0), (3, .ref 1 0), (4, .ref 2 0), (7, .ref 3 0), (9, .clo 23 [] [.ref 3 0]), (10, .ref 4 0), (11, .pv (i64 i)), (12, .ref 7 0), (41, .pv (i64 (m.val.map u64).length)), (42, .pv (i64 i)), (50, .pv (i64 a.pre.length)), (51, .pv (i64 k.1))], fun _ => 8, fun k => [(0, .var (cellsM m)), (1, .var (cellsA a)), (2, .var cells0), (3, .var [.pv (.sl (l.map pairPV))]), (4, .var [.pv (i64 (l.map pairPV).length), .buf 5 ((vsU m a l i).map u64).length, .pv .nil]), (5, .arr 1 ((vsU m a l i).map u64)), (6, .arr 1 (mixV a.pre.length (fun e => u64 (valuP m a e i)) (fun _ => u64 0) k.1)), (7, .var [.buf 6 (mixV a.pre.length (fun e => u64 (valuP m a e i)) (fun _ => u64 0) k.1).length])], fun k => a.pre.length - k.1, ⟨⟨0, Nat.zero_le _⟩, ?_⟩, ?_⟩
        · (refine Wk.of ?_ ?_ rfl rfl rfl<;>repeat' (first|exact trivial|exact WkD.same _|exact WkO.same _ _ rfl|refine WkD.int ?_|refine WkO.vars rfl ?_|refine ⟨?_, ?_⟩|fail))
          · exact congrArg (fun z : Nat => (z : Int)) ((List.length_replicate ..).trans hN)
          · exact WkO.same _ _ (congrArg (fun z => some (DObj.arr 1 z)) hz1)
          · exact WkD.eq (congrArg (fun z : List PV => DV.buf 6 z.length) hz1)
        rintro ⟨k, hk⟩
        have hmk := hmlv k
        have hmk1 := hmlv (k + 1)
        have hst := mixV_set (n := a.pre.length) (p := fun e => u64 (valuP m a e i)) (q := fun _ => u64 0) (e := k)
        (try conv=>whnf);repeat' (first|(apply And.intro<;>try conv=>whnf)|(intro h;try conv=>whnf)|fail)
        · have hk' : k < a.pre.length := lt_dec h
          have hV := ac_Value a k i hfa hl hp
          have hv0 := valI_ok hma hk' hi'
          obtain ⟨g, hg⟩ : ∃ g, valI a k i = (g, 0) := ⟨(valI a k i).1, Prod.ext rfl hv0⟩
          rw [hg] at hV
          have hH := ck_Holds m g hf
          have hvp : (holdsI m g).1 = valuP m a k i := by rw [valuP, hg]
          obtain ⟨z, hz⟩ : ∃ z, holdsI m g = (valuP m a k i, z) := ⟨(holdsI m g).2, Prod.ext hvp rfl⟩
          rw [hz] at hH
          (try conv=>whnf);repeat' (first|(apply And.intro<;>try conv=>whnf)|(intro h;try conv=>whnf)|(refine PureFn.dcq (f := 24) rfl ?_;try conv=>whnf)|(refine ⟨_, _, hV, ?_, ?_⟩;(focus first|(refine ⟨?_, ?_, ?_, trivial⟩<;>first|exact PLe.refl _|exact PLe.nil)|exact trivial);try conv=>whnf)|fail)
          · cases h
          refine ⟨Plan.lin 0 10, [9], by kernel_rfl, ?_⟩
          (try conv=>whnf);repeat' (first|(apply And.intro<;>try conv=>whnf)|(refine ⟨_, (by (conv=>whnf);exact hH), rfl, ?_⟩;try conv=>whnf)|fail)
          refine ⟨k, rfl, by rw [hmk]; exact hk', ?_⟩
          (try conv=>whnf);repeat' (first|(apply And.intro<;>try conv=>whnf)|fail)
          refine ⟨_, mixV_old hk', Nat.le_refl 1, ?_⟩
          try conv=>whnf
          refine ⟨⟨k + 1, hk'⟩, by show a.pre.length - (k + 1) < a.pre.length - k; omega, ?_⟩
          (refine Wk.of ?_ ?_ rfl rfl rfl<;>repeat' (first|exact trivial|exact WkD.same _|exact WkO.same _ _ rfl|refine WkD.int ?_|refine WkO.vars rfl ?_|refine ⟨?_, ?_⟩|(refine wrapA ?_ ?_ ?_;(focus simp;done);(focus (try dsimp only);omega);(focus (try dsimp only);omega))|fail))
          · exact WkO.same _ _ (congrArg (fun z => some (DObj.arr 1 z)) hst)
          · exact WkD.eq (congrArg (DV.buf 6) (hmk.trans hmk1.symm))
        · have hk' : k = a.pre.length := ge_dec h hk
          subst hk'
          exact ⟨(), (by refine Wk.of ?_ ?_ rfl rfl rfl<;>repeat' (first|exact trivial|exact WkD.same _|exact WkO.same _ _ rfl|exact WkD.fz _ _ _ rfl (Or.inl ⟨_, rfl⟩) rfl|refine WkO.vars rfl ?_|refine ⟨?_, ?_⟩|fail))⟩
      rintro ⟨⟩
      have hvl : (mixV a.pre.length (fun e => u64 (valuP m a e i)) (fun _ => u64 0) a.pre.length) = (vlU m a i).map u64 := by rw [mixV_full, vlU, List.map_map]; rfl
      have hlv : (vlU m a i).length = a.pre.length := by simp [vlU]
      have hv64 : ∀ s, s ∈ vlU m a i → s < 2 ^ 64 := fun s hs => by
        obtain ⟨e, _, rfl⟩ := List.mem_map.1 hs
        exact Nat.lt_of_lt_of_le (holds_lt n hM) (pow64_le hn64)
      have hmk : maskOf (fun k => ((vlU m a i).getD (l.getD k (0, 0)).2 0).testBit (l.getD k (0, 0)).1) l.length = valP m a l i := maskOf_congr fun k hk => by
        rw [vlU_get (hmem _ (List.mem_iff_getElem?.2 ⟨k, getD_mem hk⟩)).2]
      have hvs := vsU_succ m a l i
      have hvsl : ((vsU m a l i).map u64).length ≤ 1000 := by simp [vsU]; omega
      rw [hvl]
      try conv=>whnf
      have er : (vsU m a l i).map u64 ++ [PV.int .u64 ((valP m a l i : Nat) : Int)] = (vsU m a l (i + 1)).map u64 := by rw [hvs, List.map_append]; rfl
      have hlpV : ∀ y, y ∈ l → y.1 < 64 ∧ y.2 < (vlU m a i).length := fun y hy => ⟨by have := (hmem y hy).1; omega, by rw [hlv]; exact (hmem y hy).2⟩
      refine ⟨updPlan, [4, 6, 8], by kernel_rfl, ?_⟩
      (try conv=>whnf);repeat' (first|(apply And.intro<;>try conv=>whnf)|fail)
      all_goals (refine whr_V m a l (vsU m a l i) (vlU m a i) hlpV hv64 hl64 _ _ ?_)
      all_goals (rw [hmk])
      all_goals ((try conv=>whnf);repeat' (first|(apply And.intro<;>try conv=>whnf)|(apply cellsI;rfl)|(apply szI;rfl)|fail))
      · exact app_big (n := 1000) hvsl (by decide)
      · refine ⟨⟨i + 1, hi'⟩, by show m.val.length - (i + 1) < m.val.length - i; omega, ?_⟩
        (refine Wk.of ?_ ?_ rfl rfl rfl<;>repeat' (first|exact trivial|exact WkD.same _|exact WkO.same _ _ rfl|exact WkD.eq (congrArg (fun z : List PV => DV.buf _ z.length) er)|exact WkO.same _ _ (congrArg (fun z => some (DObj.arr _ z)) er)|refine WkD.int ?_|refine WkO.vars rfl ?_|refine ⟨?_, ?_⟩|(refine wrapA ?_ ?_ ?_;(focus simp;done);(focus (try dsimp only);omega);(focus (try dsimp only);omega))|fail))
      · exact app_big (n := 1000) hvsl (by decide)
      · refine ⟨⟨i + 1, hi'⟩, by show m.val.length - (i + 1) < m.val.length - i; omega, ?_⟩
        (refine Wk.of ?_ ?_ rfl rfl rfl<;>repeat' (first|exact trivial|exact WkD.same _|exact WkO.same _ _ rfl|exact WkD.eq (congrArg (fun z : List PV => DV.buf _ z.length) er)|exact WkO.same _ _ (congrArg (fun z => some (DObj.arr _ z)) er)|refine WkD.int ?_|refine WkO.vars rfl ?_|refine ⟨?_, ?_⟩|(refine wrapA ?_ ?_ ?_;(focus simp;done);(focus (try dsimp only);omega);(focus (try dsimp only);omega))|fail))
      · exact app_big (n := 1000) hvsl (by decide)
      · refine ⟨⟨i + 1, hi'⟩, by show m.val.length - (i + 1) < m.val.length - i; omega, ?_⟩
        (refine Wk.of ?_ ?_ rfl rfl rfl<;>repeat' (first|exact trivial|exact WkD.same _|exact WkO.same _ _ rfl|exact WkD.eq (congrArg (fun z : List PV => DV.buf _ z.length) er)|exact WkO.same _ _ (congrArg (fun z => some (DObj.arr _ z)) er)|refine WkD.int ?_|refine WkO.vars rfl ?_|refine ⟨?_, ?_⟩|(refine wrapA ?_ ?_ ?_;(focus simp;done);(focus (try dsimp only);omega);(focus (try dsimp only);omega))|fail))
    · have hi' : i = m.val.length := by have := ge_dec (m := (m.val.map u64).length) h (by simpa using hi); simpa using this
      subst hi'
      exact ⟨(), (by refine Wk.of ?_ ?_ rfl rfl rfl<;>repeat' (first|exact trivial|exact WkD.same _|exact WkO.same _ _ rfl|exact WkD.fz _ _ _ rfl (Or.inl ⟨_, rfl⟩) rfl|refine WkO.vars rfl ?_|refine ⟨?_, ?_⟩|fail))⟩
  rintro ⟨⟩
  generalize hVS : (vsU m a l m.val.length) = vs
  refine ⟨Unit, fun _ => [(4, .ref 2 0), (7, .ref 3 0), (10, .ref 4 0)], fun _ => 5, fun _ => [(2, .var cells0), (3, .var [.pv (.sl (l.map pairPV))]), (4, .var [.pv (i64 (l.map pairPV).length), .pv (rowPV vs), .pv (.sl ((rsU m a l m.rel.length).map rowPV))])], ?_, ?_⟩
  · try conv=>whnf
    refine ⟨{ i : Nat // i ≤ m.rel.length }, fun i => [(2, .ref 0 0), (3, .ref 1 0), (4, .ref 2 0), (7, .ref 3 0), (9, .clo 23 [] [.ref 3 0]), (10, .ref 4 0), (85, .pv (.sl (m.rel.map rowPV))), (86, .pv (i64 (m.rel.map rowPV).length)), (87, .pv (i64 i.1))], fun _ => 6, fun i => [(0, .var (cellsM m)), (1, .var (cellsA a)), (2, .var cells0), (3, .var [.pv (.sl (l.map pairPV))]), (4, .var [.pv (i64 (l.map pairPV).length), .pv (rowPV vs), .buf 5 ((rsU m a l i.1).map rowPV).length]), (5, .arr 1 ((rsU m a l i.1).map rowPV))], fun i => m.rel.length - i.1, ⟨⟨0, Nat.zero_le _⟩, (by refine Wk.of ?_ ?_ rfl rfl rfl<;>repeat' (first|exact trivial|exact WkD.same _|exact WkO.same _ _ rfl|exact WkD.new' rfl rfl rfl|exact WkO.new _ _ rfl|refine WkO.vars rfl ?_|exact rfl|refine ⟨?_, ?_⟩|fail))⟩, ?_⟩
    rintro ⟨i, hi⟩
    (try conv=>whnf);repeat' (first|(apply And.intro<;>try conv=>whnf)|(intro h;try conv=>whnf)|(apply infoT;rfl)|fail)
    · have hi' : i < m.rel.length := by simpa using lt_dec h
      obtain ⟨r, hr, hrw⟩ : ∃ r, m.rel[i]? = some r ∧ m.rel.getD i [] = r := ⟨_, getD_mem hi', rfl⟩
      have hrm : r ∈ m.rel := List.mem_iff_getElem?.2 ⟨i, hr⟩
      have hrl := hM.rows r hrm
      have hrb := hf.2 r hrm
      obtain ⟨ra, hra, hraw⟩ : ∃ r, a.rel[i]? = some r ∧ a.rel.getD i [] = r := ⟨_, getD_mem (by have := hO.ags; omega), rfl⟩
      have hram : ra ∈ a.rel := List.mem_iff_getElem?.2 ⟨i, hra⟩
      have hral := hO.rows ra hram
      have hrab := hfa ra hram
      have hN : ((l.map pairPV).length : Int).toNat = l.length := by rw [List.length_map]; rfl
      have hz1 : List.replicate ((l.map pairPV).length : Int).toNat (PV.int .u64 0) = (mixV l.length (fun k => u64 (rowP r ra l (l.getD k (0, 0)))) (fun _ => u64 0) 0) := by rw [hN]; exact mixV_rep _ _ _
      have hmlv := mixV_len l.length (fun k => u64 (rowP r ra l (l.getD k (0, 0)))) (fun _ => u64 0)
      refine ⟨_, _, rfl, idx_map hr, rfl, ?_⟩
      (try conv=>whnf);repeat' (first|(apply And.intro<;>try conv=>whnf)|(apply Or.inl;try conv=>whnf)|fail)
      · rfl
      · exact Int.natCast_nonneg _
      · show ((l.map pairPV).length : Int) ≤ 4294967296
        rw [List.length_map]; omega
      refine ⟨Unit, fun _ => [(2, .ref 0 0), (3, .ref 1 0), (4, .ref 2 0), (7, .ref 3 0), (9, .clo 23 [] [.ref 3 0]), (10, .ref 4 0), (18, .pv (.sl (mixV l.length (fun k => u64 (rowP r ra l (l.getD k (0, 0)))) (fun _ => u64 0) l.length))), (85, .pv (.sl (m.rel.map rowPV))), (86, .pv (i64 (m.rel.map rowPV).length)), (87, .pv (i64 i))], fun _ => 6, fun _ => [(0, .var (cellsM m)), (1, .var (cellsA a)), (2, .var cells0), (3, .var [.pv (.sl (l.map pairPV))]), (4, .var [.pv (i64 (l.map pairPV).length), .pv (rowPV vs), .buf 5 ((rsU m a l i).map rowPV).length]), (5, .arr 1 ((rsU m a l i).map rowPV))], ?_, ?_⟩
      · try conv=>whnf
        refine ⟨{ k : Nat // k ≤ l.length }, fun k => [(2, .ref 0 0), (3, .ref 1 0), (4, .ref 2 0), (7, .ref 3 0), (9, .clo 23 [] [.ref 3 0]), (10, .ref 4 0), (16, .ref 6 0), (17, .ref 7 0), (18, .buf 8 (mixV l.length (fun k => u64 (rowP r ra l (l.getD k (0, 0)))) (fun _ => u64 0) k.1).length), (85, .pv (.sl (m.rel.map rowPV))), (86, .pv (i64 (m.rel.map rowPV).length)), (87, .pv (i64 i)), (95, .pv (.sl (l.map pairPV))), (96, .pv (i64 (l.map pairPV).length)), (97, .pv (i64 k.1))], fun _ => 9, fun k => [(0, .var (cellsM m)), (1, .var (cellsA a)), (2, .var cells0), (3, .var [.pv (.sl (l.map pairPV))]), (4, .var [.pv (i64 (l.map pairPV).length), .pv (rowPV vs), .buf 5 ((rsU m a l i).map rowPV).length]), (5, .arr 1 ((rsU m a l i).map rowPV)), (6, .var [.pv (i64 i)]), (7, .var [.pv (rowPV r)]), (8, .arr 1 (mixV l.length (fun k => u64 (rowP r ra l (l.getD k (0, 0)))) (fun _ => u64 0) k.1))], fun k => l.length - k.1, ⟨⟨0, Nat.zero_le _⟩, ?_⟩, ?_⟩
        · (refine Wk.of ?_ ?_ rfl rfl rfl<;>repeat' (first|exact trivial|exact WkD.same _|exact WkO.same _ _ rfl|refine ⟨?_, ?_⟩|fail))
          · exact WkD.eq (congrArg (fun z : List PV => DV.buf 8 z.length) hz1)
          · exact WkO.same _ _ (congrArg (fun z => some (DObj.arr 1 z)) hz1)
        rintro ⟨k, hk⟩
        have hmk := hmlv k
        have hmk1 := hmlv (k + 1)
        have hst := mixV_set (n := l.length) (p := fun k => u64 (rowP r ra l (l.getD k (0, 0)))) (q := fun _ => u64 0) (e := k)
        (try conv=>whnf);repeat' (first|(apply And.intro<;>try conv=>whnf)|(intro h;try conv=>whnf)|(apply infoT;rfl)|fail)
        · have hk' : k < l.length := by simpa using lt_dec h
          obtain ⟨x, hx, hxw⟩ : ∃ y, l[k]? = some y ∧ l.getD k (0, 0) = y := ⟨_, getD_mem hk', rfl⟩
          have hxm := hmem x (List.mem_iff_getElem?.2 ⟨k, hx⟩)
          refine ⟨_, _, rfl, idx_map hx, rfl, ?_⟩
          try conv=>whnf
          refine DC.call 10 (HW m a l vs (rsU m a l i) i r (mixV l.length (fun k => u64 (rowP r ra l (l.getD k (0, 0)))) (fun _ => u64 0) k) x) ⟨rfl, rfl, rfl, rfl, rfl, rfl, rfl, rfl, rfl, rfl, trivial⟩ rfl rfl rfl rfl fun M' => ?_
          refine whr_W m a l vs (rsU m a l i) i r (mixV l.length (fun k => u64 (rowP r ra l (l.getD k (0, 0)))) (fun _ => u64 0) k) x ra hra (by omega) (by omega) (fun y hy => by have := hmem y hy; exact ⟨by omega, by omega⟩) hrb hrab hl64 _ _ ?_
          refine ⟨rfl, ?_⟩
          (try conv=>whnf);repeat' (first|(apply And.intro<;>try conv=>whnf)|fail)
          refine ⟨k, rfl, by rw [hmk]; exact hk', ?_⟩
          (try conv=>whnf);repeat' (first|(apply And.intro<;>try conv=>whnf)|fail)
          refine ⟨_, mixV_old hk', Nat.le_refl 1, ?_⟩
          try conv=>whnf
          rw [hxw] at hst
          refine ⟨⟨k + 1, hk'⟩, by show l.length - (k + 1) < l.length - k; omega, ?_⟩
          (refine Wk.of ?_ ?_ rfl rfl rfl<;>repeat' (first|exact trivial|exact WkD.same _|exact WkO.same _ _ rfl|refine WkD.int ?_|refine ⟨?_, ?_⟩|(refine wrapA ?_ ?_ ?_;(focus simp;done);(focus (try dsimp only);omega);(focus (try dsimp only);omega))|fail))
          · exact WkD.eq (congrArg (DV.buf 8) (hmk.trans hmk1.symm))
          · exact WkO.same _ _ (congrArg (fun z => some (DObj.arr 1 z)) hst)
        · have hk' : k = l.length := by have := ge_dec (m := (l.map pairPV).length) h (by simpa using hk); simpa using this
          subst hk'
          exact ⟨(), (by refine Wk.of ?_ ?_ rfl rfl rfl<;>repeat' (first|exact trivial|exact WkD.same _|exact WkO.same _ _ rfl|exact WkD.fz _ _ _ rfl (Or.inl ⟨_, rfl⟩) rfl|refine ⟨?_, ?_⟩|fail))⟩
      rintro ⟨⟩
      have hrs := rsU_succ m a l i
      have hrsl : ((rsU m a l i).map rowPV).length ≤ 1000 := by simp [rsU]; omega
      have er : (rsU m a l i).map rowPV ++ [PV.sl (mixV l.length (fun k => u64 (rowP r ra l (l.getD k (0, 0)))) (fun _ => u64 0) l.length)] = (rsU m a l (i + 1)).map rowPV := by
        rw [hrs, List.map_append, mixV_full, relP, hrw, hraw]
        congr 1
        show [PV.sl _] = [rowPV (l.map (rowP r ra l))]
        rw [rowPV, List.map_map]
        congr 2
        exact map_getD (g := fun x => u64 (rowP r ra l x)) (d := (0, 0)) rfl
      (try conv=>whnf);repeat' (first|(apply And.intro<;>try conv=>whnf)|(apply cellsI;rfl)|(apply szI;rfl)|fail)
      · exact app_big (n := 1000) hrsl (by decide)
      refine ⟨⟨i + 1, hi'⟩, by show m.rel.length - (i + 1) < m.rel.length - i; omega, ?_⟩
      (refine Wk.of ?_ ?_ rfl rfl rfl<;>repeat' (first|exact trivial|exact WkD.same _|exact WkO.same _ _ rfl|exact WkD.eq (congrArg (fun z : List PV => DV.buf _ z.length) er)|exact WkO.same _ _ (congrArg (fun z => some (DObj.arr _ z)) er)|refine WkD.int ?_|refine WkO.vars rfl ?_|refine ⟨?_, ?_⟩|(refine wrapA ?_ ?_ ?_;(focus simp;done);(focus (try dsimp only);omega);(focus (try dsimp only);omega))|fail))
    · have hi' : i = m.rel.length := by have := ge_dec (m := (m.rel.map rowPV).length) h (by simpa using hi); simpa using this
      subst hi'
      exact ⟨(), (by refine Wk.of ?_ ?_ rfl rfl rfl<;>repeat' (first|exact trivial|exact WkD.same _|exact WkO.same _ _ rfl|exact WkD.fz _ _ _ rfl (Or.inl ⟨_, rfl⟩) rfl|refine WkO.vars rfl ?_|refine ⟨?_, ?_⟩|fail))⟩
  rintro ⟨⟩
  try conv=>whnf
  refine ⟨.one 0 (.two 1 (.one 2 (.one 3 (.one 4 .done))) 2 (.one 1 (.one 3 (.one 4 .done)))), [2], by kernel_rfl, ?_⟩
  have hfin : updPV (prodM m a l, l, 0) = .tup [.agg [i64 (l.map pairPV).length, rowPV vs, .sl ((rsU m a l m.rel.length).map rowPV)], .sl (l.map pairPV), .int .i64 0] := by rw [← hVS, List.length_map]; rfl
  (try conv=>whnf);repeat' (first|(apply And.intro<;>try conv=>whnf)|fail)
  all_goals (rw [hfin]; exact .refl _)
end Go.Proofs.YtkjjoalphllolaaGreat
set_option maxRecDepth 100000
set_option maxHeartbeats 4000000
namespace Go.Proofs.YtkjjoalphllolaaGreat
open Go Go.Dv

theorem rm_All (n : Nat) (hn : n ≤ 64) : PureFn Tryz.prog 45 [i64 n] (u64 (2 ^ n - 1)) := by
  refine PureFn.intro mixed (fn := Tryz.f45) rfl rfl rfl fun M w0 => ?_
  (try conv=>whnf);repeat' (first|(apply And.intro<;>try conv=>whnf)|(intro h;try conv=>whnf)|fail)
  · have h1 := of_decide_eq_true h
    obtain rfl : n = 64 := by omega
    exact .refl _
  · exact Int.natCast_nonneg _
  · have h1 := of_decide_eq_false h
    exact le_int (all_nat (by omega))
theorem rm_beyond (n : Nat) (l : List Nat) (hn : n ≤ 64) (hl : l.length ≤ 1000) (hs : ∀ s, s ∈ l → s < 2 ^ 64) : PureFn Tryz.prog 32 [.sl (l.map u64), i64 n] (.bool (outB n l)) := by
  refine PureFn.intro mixed (fn := Tryz.f32) rfl rfl rfl fun M w0 => ?_
  have hA := rm_All n hn
  try conv=>whnf
  refine ⟨{ i : Nat // i ≤ l.length ∧ (l.take i).any (fun s => !decide (s < 2 ^ n)) = false }, fun i => [(0, .pv (.sl (l.map u64))), (1, .pv (i64 n)), (5, .pv (i64 i.1))], fun _ => 0, fun _ => [], fun i => l.length - i.1, ⟨⟨0, Nat.zero_le _, rfl⟩, (by refine Wk.of ?_ ?_ rfl rfl rfl<;>repeat' (first|exact trivial|exact WkD.same _|refine ⟨?_, ?_⟩|fail))⟩, ?_⟩
  rintro ⟨i, hi, ha⟩
  (try conv=>whnf);repeat' (first|(apply And.intro<;>try conv=>whnf)|(intro h;try conv=>whnf)|(apply infoT;rfl)|(refine lin_plan (by kernel_rfl) ?_;try conv=>whnf)|fail)
  · have hi' : i < l.length := by simpa using lt_dec h
    have hm : l[i]? = some l[i] := List.getElem?_eq_getElem hi'
    have hsi := hs _ (List.getElem_mem hi')
    have hob := andNotU_out (s := l[i]) hn hsi
    refine ⟨_, _, rfl, idx_map hm, rfl, ?_⟩
    (try conv=>whnf);repeat' (first|(apply And.intro<;>try conv=>whnf)|(intro h;try conv=>whnf)|(refine ⟨_, (by (conv=>whnf);exact hA), rfl, ?_⟩;try conv=>whnf)|fail)
    · have e : outB n l = true := any_at hi' (by rw [← hob]; exact h)
      rw [e]; exact .refl _
    · exact ⟨⟨i + 1, hi', any_take hi' ha (by rw [← hob]; exact h)⟩, by show l.length - (i + 1) < l.length - i; omega, (by refine Wk.of ?_ ?_ rfl rfl rfl<;>repeat' (first|exact trivial|exact WkD.same _|refine WkD.int ?_|refine ⟨?_, ?_⟩|(refine wrapA ?_ ?_ ?_;(focus simp;done);(focus (try dsimp only);omega);(focus (try dsimp only);omega))|fail))⟩
  · have hi' : i = l.length := by have := ge_dec (m := (l.map u64).length) h (by simpa using hi); simpa using this
    subst hi'
    rw [List.take_length] at ha
    rw [show outB n l = false from ha]; exact .refl _
theorem rm_Check (m : Mo) (hf : FitM m) : PureFn Tryz.prog 18 [m.pv] (.int .i64 (moI m)) := by
  refine PureFn.introC [3, 5, 10, 12] mixed (fn := Tryz.f18) rfl rfl rfl fun M w0 => ?_
  have e1 : ((m.val.map u64).length : Int) = (m.val.length : Int) := by simp
  have e2 : ((m.rel.map rowPV).length : Int) = (m.rel.length : Int) := by simp
  try conv=>whnf
  refine ⟨{ _x : Unit // moB1 m = false }, fun _ => [(1, .ref 0 0)], fun _ => 1, fun _ => HM m, ?_, ?_⟩
  · (try conv=>whnf);repeat' (first|(apply And.intro<;>try conv=>whnf)|(intro h;try conv=>whnf)|apply True.intro|(apply WhenQ.mk;(try conv=>whnf);rotate_left;(try conv=>whnf);rotate_right)|with_reducible assumption|(apply not_of;with_reducible assumption)|fail)
    · refine le_int ?_
      rw [moI, show moB1 m = true from h]; rfl
    · exact ⟨⟨(), h⟩, (by refine Wk.of ?_ ?_ rfl rfl rfl<;>repeat' (first|exact trivial|exact WkD.same _|exact WkO.same _ _ rfl|refine ⟨?_, ?_⟩|fail))⟩
  rintro ⟨_, h1⟩
  obtain ⟨n, hmn, n1, n64⟩ := moB1_no h1
  refine ⟨{ _x : Unit // moB2 m = false }, fun _ => [(1, .ref 0 0)], fun _ => 1, fun _ => HM m, ?_, ?_⟩
  · (try conv=>whnf);repeat' (first|(apply And.intro<;>try conv=>whnf)|(intro h;try conv=>whnf)|apply True.intro|(apply WhenQ.mk;(try conv=>whnf);rotate_left;(try conv=>whnf);rotate_right)|with_reducible assumption|(apply not_of;with_reducible assumption)|fail)
    · have h9 : moB2 m = true := by rw [moB2, ← e1, ← e2]; exact h
      refine le_int ?_
      rw [moI, h1, h9]; rfl
    · have h9 : moB2 m = false := by rw [moB2, ← e1, ← e2]; exact h
      exact ⟨⟨(), h9⟩, (by refine Wk.of ?_ ?_ rfl rfl rfl<;>repeat' (first|exact trivial|exact WkD.same _|exact WkO.same _ _ rfl|refine ⟨?_, ?_⟩|fail))⟩
  rintro ⟨_, h2⟩
  obtain ⟨ag, fa⟩ := moB2_no h2
  refine ⟨{ _x : Unit // moB3 m = false }, fun _ => [(1, .ref 0 0)], fun _ => 1, fun _ => HM m, ?_, ?_⟩
  · try conv=>whnf
    refine ⟨{ i : Nat // i ≤ m.rel.length ∧ (m.rel.take i).any (fun r => (r.length : Int) != m.n) = false }, fun i => [(1, .ref 0 0), (3, .pv (i64 i.1))], fun _ => 1, fun _ => HM m, fun i => m.rel.length - i.1, ⟨⟨0, Nat.zero_le _, rfl⟩, (by refine Wk.of ?_ ?_ rfl rfl rfl<;>repeat' (first|exact trivial|exact WkD.same _|exact WkO.same _ _ rfl|refine ⟨?_, ?_⟩|fail))⟩, ?_⟩
    rintro ⟨i, hi, ha⟩
    (try conv=>whnf);repeat' (first|(apply And.intro<;>try conv=>whnf)|(intro h;try conv=>whnf)|(apply infoT;rfl)|(refine lin_plan (by kernel_rfl) ?_;try conv=>whnf)|fail)
    · have hi' : i < m.rel.length := by simpa using lt_dec h
      have hm : m.rel[i]? = some m.rel[i] := List.getElem?_eq_getElem hi'
      have e3 : (((m.rel[i]).map u64).length : Int) = ((m.rel[i]).length : Int) := by simp
      refine ⟨_, _, rfl, idx_map hm, rfl, ?_⟩
      (try conv=>whnf);repeat' (first|(apply And.intro<;>try conv=>whnf)|(intro h;try conv=>whnf)|fail)
      · have e : moB3 m = true := any_at hi' (by rw [← e3]; exact h)
        refine le_int ?_
        rw [moI, h1, h2, e]; rfl
      · exact ⟨⟨i + 1, hi', any_take hi' ha (by rw [← e3]; exact h)⟩, by show m.rel.length - (i + 1) < m.rel.length - i; omega, (by refine Wk.of ?_ ?_ rfl rfl rfl<;>repeat' (first|exact trivial|exact WkD.same _|exact WkO.same _ _ rfl|refine WkD.int ?_|refine ⟨?_, ?_⟩|(refine wrapA ?_ ?_ ?_;(focus simp;done);(focus (try dsimp only);omega);(focus (try dsimp only);omega))|fail))⟩
    · have hi' : i = m.rel.length := by have := ge_dec (m := (m.rel.map rowPV).length) h (by simpa using hi); simpa using this
      subst hi'
      rw [List.take_length] at ha
      exact ⟨⟨(), ha⟩, (by refine Wk.of ?_ ?_ rfl rfl rfl<;>repeat' (first|exact trivial|exact WkD.same _|exact WkO.same _ _ rfl|refine ⟨?_, ?_⟩|fail))⟩
  rintro ⟨_, h3⟩
  have hrl : ∀ r, r ∈ m.rel → r.length ≤ 1000 := fun r hr => by
    have := List.any_eq_false.1 h3 r hr
    have h6 : ((r.length : Int) != m.n) = false := by simpa using this
    have h7 : (r.length : Int) = m.n := by simpa using h6
    omega
  have hO := rm_beyond n m.val n64 (by omega) hf.1
  rw [show i64 n = .int .i64 m.n by rw [hmn]; rfl] at hO
  have e4 : moB4 m = bif outB n m.val then true else m.rel.any fun r => outB n r := by rw [moB4, hmn, Int.toNat_natCast]
  refine ⟨{ _x : Unit // outB n m.val = false }, fun _ => [(1, .ref 0 0)], fun _ => 1, fun _ => HM m, ?_, ?_⟩
  · (try conv=>whnf);repeat' (first|(apply And.intro<;>try conv=>whnf)|(intro h;try conv=>whnf)|(refine PureFn.dcq (f := 32) rfl ?_;try conv=>whnf)|(refine ⟨_, _, hO, ?_, ?_⟩;(focus first|(refine ⟨?_, ?_, trivial⟩<;>first|exact PLe.refl _|exact PLe.nil)|exact trivial);try conv=>whnf)|fail)
    · refine le_int ?_
      rw [moI, h1, h2, h3, e4, h]; rfl
    · exact ⟨⟨(), h⟩, (by refine Wk.of ?_ ?_ rfl rfl rfl<;>repeat' (first|exact trivial|exact WkD.same _|exact WkO.same _ _ rfl|refine ⟨?_, ?_⟩|fail))⟩
  rintro ⟨_, h4⟩
  try conv=>whnf
  refine ⟨{ i : Nat // i ≤ m.rel.length ∧ (m.rel.take i).any (fun r => outB n r) = false }, fun i => [(1, .ref 0 0), (4, .pv (i64 i.1))], fun _ => 1, fun _ => HM m, fun i => m.rel.length - i.1, ⟨⟨0, Nat.zero_le _, rfl⟩, (by refine Wk.of ?_ ?_ rfl rfl rfl<;>repeat' (first|exact trivial|exact WkD.same _|exact WkO.same _ _ rfl|refine ⟨?_, ?_⟩|fail))⟩, ?_⟩
  rintro ⟨i, hi, ha⟩
  (try conv=>whnf);repeat' (first|(apply And.intro<;>try conv=>whnf)|(intro h;try conv=>whnf)|(apply infoT;rfl)|(refine lin_plan (by kernel_rfl) ?_;try conv=>whnf)|fail)
  · have hi' : i < m.rel.length := by simpa using lt_dec h
    have hm : m.rel[i]? = some m.rel[i] := List.getElem?_eq_getElem hi'
    have hrm := List.getElem_mem hi'
    have hO2 := rm_beyond n m.rel[i] n64 (hrl _ hrm) (hf.2 _ hrm)
    rw [show i64 n = .int .i64 m.n by rw [hmn]; rfl] at hO2
    refine ⟨_, _, rfl, idx_map hm, rfl, ?_⟩
    (try conv=>whnf);repeat' (first|(apply And.intro<;>try conv=>whnf)|(intro h;try conv=>whnf)|(refine ⟨_, (by (conv=>whnf);exact hO2), rfl, ?_⟩;try conv=>whnf)|fail)
    · have e : (m.rel.any fun r => outB n r) = true := any_at hi' h
      refine le_int ?_
      rw [moI, h1, h2, h3, e4, h4, e]; rfl
    · exact ⟨⟨i + 1, hi', any_take hi' ha h⟩, by show m.rel.length - (i + 1) < m.rel.length - i; omega, (by refine Wk.of ?_ ?_ rfl rfl rfl<;>repeat' (first|exact trivial|exact WkD.same _|exact WkO.same _ _ rfl|refine WkD.int ?_|refine ⟨?_, ?_⟩|(refine wrapA ?_ ?_ ?_;(focus simp;done);(focus (try dsimp only);omega);(focus (try dsimp only);omega))|fail))⟩
  · have hi' : i = m.rel.length := by have := ge_dec (m := (m.rel.map rowPV).length) h (by simpa using hi); simpa using this
    subst hi'
    rw [List.take_length] at ha
    refine le_int ?_
    rw [moI, h1, h2, h3, e4, h4, ha]; rfl
theorem rm_SameSets (l : List Nat) (hl : l.length ≤ 1000) : PureFn Tryz.prog 21 [rowPV l, rowPV l] (.bool true) := by
  refine PureFn.intro mixed (fn := Tryz.f21) rfl rfl rfl fun M w0 => ?_
  (try conv=>whnf);repeat' (first|(apply And.intro<;>try conv=>whnf)|(intro h;try conv=>whnf)|fail)
  · simp at h
  refine ⟨{ i : Nat // i ≤ l.length }, fun i => [(0, .pv (rowPV l)), (1, .pv (rowPV l)), (5, .pv (i64 i.1))], fun _ => 0, fun _ => [], fun i => l.length - i.1, ⟨⟨0, Nat.zero_le _⟩, (by refine Wk.of ?_ ?_ rfl rfl rfl<;>repeat' (first|exact trivial|exact WkD.same _|refine ⟨?_, ?_⟩|fail))⟩, ?_⟩
  rintro ⟨i, hi⟩
  (try conv=>whnf);repeat' (first|(apply And.intro<;>try conv=>whnf)|(intro h;try conv=>whnf)|(apply infoT;rfl)|(refine lin_plan (by kernel_rfl) ?_;try conv=>whnf)|fail)
  · have hi' : i < l.length := by simpa using lt_dec h
    have hm : l[i]? = some l[i] := List.getElem?_eq_getElem hi'
    refine ⟨_, _, rfl, idx_map hm, rfl, ?_⟩
    (try conv=>whnf);repeat' (first|(apply And.intro<;>try conv=>whnf)|(intro h;try conv=>whnf)|(apply infoT;rfl)|(refine ⟨_, _, rfl, idx_map (by with_reducible assumption), rfl, ?_⟩;try conv=>whnf)|fail)
    · simp at h
    · exact ⟨⟨i + 1, hi'⟩, by show l.length - (i + 1) < l.length - i; omega, (by refine Wk.of ?_ ?_ rfl rfl rfl<;>repeat' (first|exact trivial|exact WkD.same _|refine WkD.int ?_|refine ⟨?_, ?_⟩|(refine wrapA ?_ ?_ ?_;(focus simp;done);(focus (try dsimp only);omega);(focus (try dsimp only);omega))|fail))⟩
  · exact .refl _
theorem rm_Same (m : Mo) (h1 : m.val.length ≤ 1000) (h2 : m.rel.length ≤ 1000) (h3 : ∀ r, r ∈ m.rel → r.length ≤ 1000) : PureFn Tryz.prog 9 [m.pv, m.pv] (.bool true) := by
  refine PureFn.introC [3] mixed (fn := Tryz.f9) rfl rfl rfl fun M w0 => ?_
  have hS := rm_SameSets m.val h1
  try conv=>whnf
  refine ⟨Unit, fun _ => [(2, .ref 0 0), (3, .ref 1 0)], fun _ => 2, fun _ => [(0, .var (cellsM m)), (1, .var (cellsM m))], ?_, ?_⟩
  · (try conv=>whnf);repeat' (first|(apply And.intro<;>try conv=>whnf)|(intro h;try conv=>whnf)|apply True.intro|(apply WhenQ.mk;(try conv=>whnf);rotate_left;(try conv=>whnf);rotate_right)|with_reducible assumption|(apply not_of;with_reducible assumption)|(refine PureFn.dcq (f := 21) rfl ?_;try conv=>whnf)|(refine ⟨_, _, hS, ?_, ?_⟩;(focus first|(refine ⟨?_, ?_, trivial⟩<;>first|exact PLe.refl _|exact PLe.nil)|exact trivial);try conv=>whnf)|fail)
    · simp at h
    · exact ⟨(), (by refine Wk.of ?_ ?_ rfl rfl rfl<;>repeat' (first|exact trivial|exact WkD.same _|exact WkO.same _ _ rfl|refine ⟨?_, ?_⟩|fail))⟩
  rintro ⟨⟩
  try conv=>whnf
  refine ⟨{ i : Nat // i ≤ m.rel.length }, fun i => [(2, .ref 0 0), (3, .ref 1 0), (5, .pv (i64 i.1))], fun _ => 2, fun _ => [(0, .var (cellsM m)), (1, .var (cellsM m))], fun i => m.rel.length - i.1, ⟨⟨0, Nat.zero_le _⟩, (by refine Wk.of ?_ ?_ rfl rfl rfl<;>repeat' (first|exact trivial|exact WkD.same _|exact WkO.same _ _ rfl|refine ⟨?_, ?_⟩|fail))⟩, ?_⟩
  rintro ⟨i, hi⟩
  (try conv=>whnf);repeat' (first|(apply And.intro<;>try conv=>whnf)|(intro h;try conv=>whnf)|(apply infoT;rfl)|(refine lin_plan (by kernel_rfl) ?_;try conv=>whnf)|fail)
  · have hi' : i < m.rel.length := by simpa using lt_dec h
    have hm : m.rel[i]? = some m.rel[i] := List.getElem?_eq_getElem hi'
    have hS2 := rm_SameSets m.rel[i] (h3 _ (List.getElem_mem hi'))
    refine ⟨_, _, rfl, idx_map hm, rfl, ?_⟩
    (try conv=>whnf);repeat' (first|(apply And.intro<;>try conv=>whnf)|(intro h;first|with_reducible exact nt0 h|try conv=>whnf)|(apply infoT;rfl)|(refine ⟨_, _, rfl, idx_map (by with_reducible assumption), rfl, ?_⟩;try conv=>whnf)|(refine ⟨_, (by (conv=>whnf);exact hS2), rfl, ?_⟩;try conv=>whnf)|fail)
    exact ⟨⟨i + 1, hi'⟩, by show m.rel.length - (i + 1) < m.rel.length - i; omega, (by refine Wk.of ?_ ?_ rfl rfl rfl<;>repeat' (first|exact trivial|exact WkD.same _|exact WkO.same _ _ rfl|refine WkD.int ?_|refine ⟨?_, ?_⟩|(refine wrapA ?_ ?_ ?_;(focus simp;done);(focus (try dsimp only);omega);(focus (try dsimp only);omega))|fail))⟩
  · exact .refl _
def fewB (m : Mo) (k : Int) : Bool := bif bif bif decide (m.n > k) then decide (m.n ≤ 64) else false then true else decide ((m.val.length : Int) > 20) then true else decide ((m.rel.length : Int) > 10)
def fewM (m : Mo) (k : Int) : Bool := bif fewB m k then false else !(m.rel.any fun r => decide ((r.length : Int) > 70))
theorem rm_Few (m : Mo) (k : Int) : PureFn Tryz.prog 4 [m.pv, .int .i64 k] (.bool (fewM m k)) := by
  refine PureFn.introC [3] mixed (fn := Tryz.f4) rfl rfl rfl fun M w0 => ?_
  have e1 : ((m.val.map u64).length : Int) = (m.val.length : Int) := by simp
  have e2 : ((m.rel.map rowPV).length : Int) = (m.rel.length : Int) := by simp
  try conv=>whnf
  refine ⟨{ _x : Unit // fewB m k = false }, fun _ => [(2, .ref 0 0)], fun _ => 1, fun _ => HM m, ?_, ?_⟩
  · (try conv=>whnf);repeat' (first|(apply And.intro<;>try conv=>whnf)|(intro h;try conv=>whnf)|apply True.intro|(apply WhenQ.mk;(try conv=>whnf);rotate_left;(try conv=>whnf);rotate_right)|with_reducible assumption|(apply not_of;with_reducible assumption)|fail)
    · have h9 : fewB m k = true := by rw [fewB, ← e1, ← e2]; exact h
      rw [fewM, h9]; exact .refl _
    · have h9 : fewB m k = false := by rw [fewB, ← e1, ← e2]; exact h
      exact ⟨⟨(), h9⟩, (by refine Wk.of ?_ ?_ rfl rfl rfl<;>repeat' (first|exact trivial|exact WkD.same _|exact WkO.same _ _ rfl|refine ⟨?_, ?_⟩|fail))⟩
  rintro ⟨_, h1⟩
  have hrl : m.rel.length ≤ 10 := by
    unfold fewB at h1
    cases q1 : (bif bif decide (m.n > k) then decide (m.n ≤ 64) else false then true else decide ((m.val.length : Int) > 20)) with
    | true => rw [q1] at h1; cases h1
    | false =>
      rw [q1] at h1
      have := of_decide_eq_false (show decide ((m.rel.length : Int) > 10) = false from h1)
      omega
  try conv=>whnf
  refine ⟨{ i : Nat // i ≤ m.rel.length ∧ (m.rel.take i).any (fun r => decide ((r.length : Int) > 70)) = false }, fun i => [(2, .ref 0 0), (5, .pv (i64 i.1))], fun _ => 1, fun _ => HM m, fun i => m.rel.length - i.1, ⟨⟨0, Nat.zero_le _, rfl⟩, (by refine Wk.of ?_ ?_ rfl rfl rfl<;>repeat' (first|exact trivial|exact WkD.same _|exact WkO.same _ _ rfl|refine ⟨?_, ?_⟩|fail))⟩, ?_⟩
  rintro ⟨i, hi, ha⟩
  (try conv=>whnf);repeat' (first|(apply And.intro<;>try conv=>whnf)|(intro h;try conv=>whnf)|(apply infoT;rfl)|fail)
  · have hi' : i < m.rel.length := by simpa using lt_dec h
    have hm : m.rel[i]? = some m.rel[i] := List.getElem?_eq_getElem hi'
    have e3 : (((m.rel[i]).map u64).length : Int) = ((m.rel[i]).length : Int) := by simp
    refine ⟨_, _, rfl, idx_map hm, rfl, ?_⟩
    (try conv=>whnf);repeat' (first|(apply And.intro<;>try conv=>whnf)|(intro h;try conv=>whnf)|fail)
    · have e : (m.rel.any fun r => decide ((r.length : Int) > 70)) = true := any_at hi' (by rw [← e3]; exact h)
      rw [fewM, h1, e]; exact .refl _
    · exact ⟨⟨i + 1, hi', any_take hi' ha (by rw [← e3]; exact h)⟩, by show m.rel.length - (i + 1) < m.rel.length - i; omega, (by refine Wk.of ?_ ?_ rfl rfl rfl<;>repeat' (first|exact trivial|exact WkD.same _|exact WkO.same _ _ rfl|refine WkD.int ?_|refine ⟨?_, ?_⟩|(refine wrapA ?_ ?_ ?_;(focus simp;done);(focus (try dsimp only);omega);(focus (try dsimp only);omega))|fail))⟩
  · have hi' : i = m.rel.length := by have := ge_dec (m := (m.rel.map rowPV).length) h (by simpa using hi); simpa using this
    subst hi'
    rw [List.take_length] at ha
    rw [fewM, h1, ha]; exact .refl _
end Go.Proofs.YtkjjoalphllolaaGreat
set_option maxRecDepth 100000
set_option maxHeartbeats 4000000
namespace Go.Proofs.YtkjjoalphllolaaGreat
open Go Go.Dv

def isP (w e : Int) (q : Nat × Nat) : Bool := bif (q.1 : Int) == w then (q.2 : Int) == e else false
def ixP (l : List (Nat × Nat)) (w e : Int) : Int := match l.findIdx? (isP w e) with | none => -1 | some i => (i : Int)
theorem find_at {α : Type} {p : α → Bool} : ∀ {l : List α} {i : Nat} {x : α}, l[i]? = some x → p x = true → (l.take i).any p = false → l.findIdx? p = some i
  | [], i, x, h, _, _ => by simp at h
  | a :: r, 0, x, h, hx, _ => by
    have : a = x := by simpa using h
    subst this
    simp [List.findIdx?_cons, hx]
  | a :: r, i + 1, x, h, hx, hn => by
    have h1 : r[i]? = some x := by simpa using h
    have hn2 : (p a || (r.take i).any p) = false := by simpa using hn
    rw [Bool.or_eq_false_iff] at hn2
    rw [List.findIdx?_cons, hn2.1, find_at h1 hx hn2.2]; rfl
theorem find_none {α : Type} {p : α → Bool} {l : List α} (h : l.any p = false) : l.findIdx? p = none := by
  rw [List.findIdx?_eq_none_iff]
  exact fun x hx => by simpa using List.any_eq_false.1 h x hx
theorem fit_pair (x y : Int) : fitT Tryz.prog 48 (.agg [.int .i64 x, .int .i64 y]) = true := by kernel_rfl
theorem eq_pair (w e : Int) (q : Nat × Nat) : eqPVs [.int .i64 w, .int .i64 e] [i64 q.1, i64 q.2] = isP w e q := by
  show ((w == (q.1 : Int)) && ((e == (q.2 : Int)) && true)) = bif (q.1 : Int) == w then (q.2 : Int) == e else false
  rw [Bool.and_true, show (w == (q.1 : Int)) = ((q.1 : Int) == w) by rw [Bool.eq_iff_iff, beq_iff_eq, beq_iff_eq]; exact ⟨Eq.symm, Eq.symm⟩, show (e == (q.2 : Int)) = ((q.2 : Int) == e) by rw [Bool.eq_iff_iff, beq_iff_eq, beq_iff_eq]; exact ⟨Eq.symm, Eq.symm⟩]
  cases ((q.1 : Int) == w) <;> rfl
theorem sl_IndexP (l : List (Nat × Nat)) (w e : Int) (hl : l.length ≤ 1000) : PureFn Tryz.prog 28 [.sl (l.map pairPV), .agg [.int .i64 w, .int .i64 e]] (.int .i64 (ixP l w e)) := by
  refine PureFn.intro mixed (fn := Tryz.f28) rfl rfl rfl fun M w0 => ?_
  try conv=>whnf
  refine ⟨{ i : Nat // i ≤ l.length ∧ (l.take i).any (isP w e) = false }, fun i => [(0, .pv (.sl (l.map pairPV))), (3, .ref 0 0), (7, .pv (i64 (l.map pairPV).length)), (8, .pv (i64 i.1))], fun _ => 1, fun _ => [(0, .var [.pv (.int .i64 w), .pv (.int .i64 e)])], fun i => l.length - i.1, ⟨⟨0, Nat.zero_le _, rfl⟩, (by refine Wk.of ?_ ?_ rfl rfl rfl<;>repeat' (first|exact trivial|exact WkD.same _|exact WkO.same _ _ rfl|refine ⟨?_, ?_⟩|fail))⟩, ?_⟩
  rintro ⟨i, hi, hn⟩
  (try conv=>whnf);repeat' (first|(apply And.intro<;>try conv=>whnf)|(intro h;try conv=>whnf)|(apply infoT;rfl)|(refine lin_plan (by kernel_rfl) ?_;try conv=>whnf)|fail)
  · have hi' : i < l.length := by simpa using lt_dec h
    obtain ⟨y, hy, hyw⟩ : ∃ y, l[i]? = some y ∧ l[i] = y := ⟨_, List.getElem?_eq_getElem hi', rfl⟩
    refine ⟨_, _, rfl, idx_map hy, rfl, ?_⟩
    (try conv=>whnf);repeat' (first|(apply And.intro<;>try conv=>whnf)|(intro h;try conv=>whnf)|(apply guardI;kernel_rfl)|fail)
    · exact fit_pair _ _
    · exact fit_pair _ _
    · have hq : isP w e y = true := by rw [← eq_pair]; exact h
      rw [ixP, find_at hy hq hn]
      exact .refl _
    · have hq : isP w e y = false := by rw [← eq_pair]; exact h
      exact ⟨⟨i + 1, hi', any_take hi' hn (by rw [hyw]; exact hq)⟩, by show l.length - (i + 1) < l.length - i; omega, (by refine Wk.of ?_ ?_ rfl rfl rfl<;>repeat' (first|exact trivial|exact WkD.same _|exact WkO.same _ _ rfl|refine WkD.int ?_|refine ⟨?_, ?_⟩|(refine wrapA ?_ ?_ ?_;(focus simp;done);(focus (try dsimp only);omega);(focus (try dsimp only);omega))|fail))⟩
  · have hi' : i = l.length := by have := ge_dec (m := (l.map pairPV).length) h (by simpa using hi); simpa using this
    subst hi'
    rw [List.take_length] at hn
    rw [ixP, find_none hn]
    exact .refl _
theorem sl_EqP (l : List (Nat × Nat)) (hl : l.length ≤ 1000) : PureFn Tryz.prog 13 [.sl (l.map pairPV), .sl (l.map pairPV)] (.bool true) := by
  refine PureFn.intro mixed (fn := Tryz.f13) rfl rfl rfl fun M w0 => ?_
  (try conv=>whnf);repeat' (first|(apply And.intro<;>try conv=>whnf)|(intro h;try conv=>whnf)|fail)
  · simp at h
  refine ⟨{ i : Nat // i ≤ l.length }, fun i => [(0, .pv (.sl (l.map pairPV))), (1, .pv (.sl (l.map pairPV))), (12, .pv (i64 (l.map pairPV).length)), (13, .pv (i64 i.1))], fun _ => 0, fun _ => [], fun i => l.length - i.1, ⟨⟨0, Nat.zero_le _⟩, (by refine Wk.of ?_ ?_ rfl rfl rfl<;>repeat' (first|exact trivial|exact WkD.same _|refine ⟨?_, ?_⟩|fail))⟩, ?_⟩
  rintro ⟨i, hi⟩
  (try conv=>whnf);repeat' (first|(apply And.intro<;>try conv=>whnf)|(intro h;try conv=>whnf)|(apply infoT;rfl)|(refine lin_plan (by kernel_rfl) ?_;try conv=>whnf)|fail)
  · have hi' : i < l.length := by simpa using lt_dec h
    obtain ⟨y, hy, hyw⟩ : ∃ y, l[i]? = some y ∧ l[i] = y := ⟨_, List.getElem?_eq_getElem hi', rfl⟩
    have hs : isP y.1 y.2 y = true := by simp [isP]
    refine ⟨_, _, rfl, idx_map hy, rfl, ?_⟩
    (try conv=>whnf);repeat' (first|(apply And.intro<;>try conv=>whnf)|(intro h;try conv=>whnf)|(apply infoT;rfl)|(apply guardI;kernel_rfl)|(refine ⟨_, _, rfl, idx_map (by with_reducible assumption), rfl, ?_⟩;try conv=>whnf)|fail)
    · exact fit_pair _ _
    · exact fit_pair _ _
    · have h9 : (!eqPVs [.int .i64 (y.1 : Int), .int .i64 (y.2 : Int)] [i64 y.1, i64 y.2]) = true := h
      rw [eq_pair, hs] at h9; cases h9
    · exact ⟨⟨i + 1, hi'⟩, by show l.length - (i + 1) < l.length - i; omega, (by refine Wk.of ?_ ?_ rfl rfl rfl<;>repeat' (first|exact trivial|exact WkD.same _|refine WkD.int ?_|refine ⟨?_, ?_⟩|(refine wrapA ?_ ?_ ?_;(focus simp;done);(focus (try dsimp only);omega);(focus (try dsimp only);omega))|fail))⟩
  · exact .refl _
theorem updI_len (m : Mo) (a : Act) : (updI m a).2.1.length ≤ 64 := by
  unfold updI
  cases ((worldsI m a).2 != 0) with
  | true => exact Nat.zero_le _
  | false =>
    cases h : decide (((worldsI m a).1.length : Int) > 64) with
    | true => exact Nat.zero_le _
    | false =>
      have := of_decide_eq_false h
      show (worldsI m a).1.length ≤ 64
      omega
theorem pr_At (m : Mo) (w : Int) (a : Act) (e : Int) (hf : FitM m) (hfa : Fit a) (hl : a.rel.length ≤ 1000) (hp : ∀ l, l ∈ a.post → l.length ≤ 1000) : PureFn Tryz.prog 14 [m.pv, .int .i64 w, a.pv, .int .i64 e] (atPV (atI m w a e)) := by
  refine PureFn.introC [2, 8, 9] mixed (fn := Tryz.f14) rfl rfl rfl fun M w0 => ?_
  have hU := pr_Update m a hf hfa hl hp
  have hlen := updI_len m a
  obtain ⟨R, hR⟩ : ∃ R, R = atI m w a e := ⟨_, rfl⟩
  rw [← hR]
  rw [atI] at hR
  generalize updI m a = X at hU hlen hR
  obtain ⟨p, l, c⟩ := X
  have hlen : l.length ≤ 64 := hlen
  have hg : ((p, l, c) : Mo × List (Nat × Nat) × Int).2.2 = c := rfl
  rw [hg] at hR
  have e1 : ((a.pre.map fpv).length : Int) = (a.pre.length : Int) := by simp
  have hI := sl_IndexP l w e (by omega)
  try conv=>whnf
  refine ⟨Unit, fun _ => [(1, .pv (.int .i64 w)), (3, .pv (.int .i64 e)), (4, .ref 0 0), (6, .ref 1 0), (8, .ref 2 0), (11, .ref 3 0), (12, .pv (.sl (l.map pairPV))), (13, .pv (.int .i64 c))], fun _ => 4, fun _ => [(0, .var (cellsM m)), (1, .var (cellsA a)), (2, .var cells0), (3, .var (cellsM p))], ?_, ?_⟩
  · (try conv=>whnf);repeat' (first|(refine PureFn.dcq (f := 12) rfl ?_;try conv=>whnf)|(refine ⟨_, _, hU, ?_, ?_⟩;(focus first|(refine ⟨?_, ?_, trivial⟩<;>first|exact PLe.refl _|exact PLe.nil)|exact trivial);try conv=>whnf)|fail)
    exact ⟨(), (by refine Wk.of ?_ ?_ rfl rfl rfl<;>repeat' (first|exact trivial|exact WkD.same _|exact WkO.same _ _ rfl|refine ⟨?_, ?_⟩|fail))⟩
  rintro ⟨⟩
  refine ⟨{ _x : Unit // (c != 0) = false ∧ badW m w = false ∧ badEv a e = false }, fun _ => [(1, .pv (.int .i64 w)), (3, .pv (.int .i64 e)), (8, .ref 2 0), (11, .ref 3 0), (12, .pv (.sl (l.map pairPV)))], fun _ => 4, fun _ => [(2, .var cells0), (3, .var (cellsM p))], ?_, ?_⟩
  · (try conv=>whnf);repeat' (first|(apply And.intro<;>try conv=>whnf)|(intro h;try conv=>whnf)|apply True.intro|(apply WhenQ.mk;(try conv=>whnf);rotate_left;(try conv=>whnf);rotate_right)|with_reducible assumption|(apply not_of;with_reducible assumption)|fail)
    · have h0 : (c != 0) = true := h
      rw [hR, h0]; exact PLe.tups ⟨le_noMo, .refl _, .refl _, trivial⟩
    · rename_i h0
      rw [hR, show (c != 0) = false from h0, show badW m w = true from h]; exact PLe.tups ⟨le_noMo, .refl _, .refl _, trivial⟩
    · rename_i h0 h1
      have h9 : badEv a e = true := by rw [badEv, ← e1]; exact h
      rw [hR, show (c != 0) = false from h0, show badW m w = false from h1, h9]; exact PLe.tups ⟨le_noMo, .refl _, .refl _, trivial⟩
    · rename_i h0 h1
      have h9 : badEv a e = false := by rw [badEv, ← e1]; exact h
      exact ⟨⟨(), h0, h1, h9⟩, (by refine Wk.of ?_ ?_ rfl rfl rfl<;>repeat' (first|exact trivial|exact WkD.same _|exact WkO.same _ _ rfl|refine ⟨?_, ?_⟩|fail))⟩
  rintro ⟨_, h0, h1, h2⟩
  rw [h0, h1, h2] at hR
  have hR : R = match l.findIdx? (isP w e) with | none => (noMo, 0, 11) | some i => (p, (i : Int), 0) := hR
  rw [ixP] at hI
  cases hx : l.findIdx? (isP w e) with
  | none =>
    rw [hx] at hI hR
    have hI : PureFn Tryz.prog 28 [.sl (l.map pairPV), .agg [.int .i64 w, .int .i64 e]] (.int .i64 (-1)) := hI
    rw [hR]
    refine ⟨Unit, fun _ => [(8, .ref 2 0), (11, .ref 3 0), (14, .pv (.int .i64 (-1)))], fun _ => 4, fun _ => [(2, .var cells0), (3, .var (cellsM p))], ?_, ?_⟩
    · (try conv=>whnf);repeat' (first|(refine PureFn.dcq (f := 28) rfl ?_;try conv=>whnf)|(refine ⟨_, _, hI, ?_, ?_⟩;(focus first|(refine ⟨?_, ?_, trivial⟩<;>first|exact PLe.refl _|exact PLe.nil)|exact trivial);try conv=>whnf)|fail)
      exact ⟨(), (by refine Wk.of ?_ ?_ rfl rfl rfl<;>repeat' (first|exact trivial|exact WkD.same _|exact WkO.same _ _ rfl|refine ⟨?_, ?_⟩|fail))⟩
    rintro ⟨⟩
    (try conv=>whnf);repeat' (first|(apply And.intro<;>try conv=>whnf)|(intro h;try conv=>whnf)|fail)
    · exact PLe.tups ⟨le_noMo, .refl _, .refl _, trivial⟩
    · simp at h
  | some i =>
    rw [hx] at hI hR
    have hI : PureFn Tryz.prog 28 [.sl (l.map pairPV), .agg [.int .i64 w, .int .i64 e]] (.int .i64 (i : Nat)) := hI
    rw [hR]
    refine ⟨Unit, fun _ => [(8, .ref 2 0), (11, .ref 3 0), (14, .pv (i64 i))], fun _ => 4, fun _ => [(2, .var cells0), (3, .var (cellsM p))], ?_, ?_⟩
    · (try conv=>whnf);repeat' (first|(refine PureFn.dcq (f := 28) rfl ?_;try conv=>whnf)|(refine ⟨_, _, hI, ?_, ?_⟩;(focus first|(refine ⟨?_, ?_, trivial⟩<;>first|exact PLe.refl _|exact PLe.nil)|exact trivial);try conv=>whnf)|fail)
      exact ⟨(), (by refine Wk.of ?_ ?_ rfl rfl rfl<;>repeat' (first|exact trivial|exact WkD.same _|exact WkO.same _ _ rfl|refine ⟨?_, ?_⟩|fail))⟩
    rintro ⟨⟩
    (try conv=>whnf);repeat' (first|(apply And.intro<;>try conv=>whnf)|(intro h;try conv=>whnf)|fail)
    · have := of_decide_eq_true h
      omega
    · exact .refl _
end Go.Proofs.YtkjjoalphllolaaGreat
namespace Go.Proofs.YtkjjoalphllolaaGreat
theorem take_map {α β : Type} {f : α → β} {l : List α} {i : Nat} {x : α} (h : l[i]? = some x) : (l.take (i + 1)).map f = (l.take i).map f ++ [f x] := by
  obtain ⟨h1, h2⟩ := List.getElem?_eq_some_iff.1 h
  rw [List.take_succ_eq_append_getElem h1, List.map_append, h2]; rfl
end Go.Proofs.YtkjjoalphllolaaGreat
set_option maxRecDepth 100000
set_option maxHeartbeats 8000000
namespace Go.Proofs.YtkjjoalphllolaaGreat
open Go Go.Dv

def natsPV (l : List Nat) : PV := .sl (l.map i64)
def hisPV (ps : List (List Nat)) : PV := .sl (ps.map natsPV)
def longP (ps : List (List Nat)) (l : List (Nat × Nat)) : List (List Nat) := l.map fun q => ps.getD q.1 [] ++ [q.2]
def startP (k : Nat) : List (List Nat) := (List.range k).map fun w => [w]
def seqF : Mo → List (List Nat) → List Act → Mo × List (List Nat) × Int
  | n, ps, [] => (n, ps, 0)
  | n, ps, a :: r => bif (updI n a).2.2 != 0 then (noMo, [], (updI n a).2.2) else seqF (updI n a).1 (longP ps (updI n a).2.1) r
def seqI (m : Mo) (l : List Act) : Mo × List (List Nat) × Int := bif moI m != 0 then (noMo, [], moI m) else seqF m (startP m.n.toNat) l
def seqPV (x : Mo × List (List Nat) × Int) : PV := .tup [x.1.pv, hisPV x.2.1, .int .i64 x.2.2]
theorem le_seq (e : Int) : PLe (.tup [.agg [.int .i64 0, .nil, .nil], .nil, .int .i64 e]) (seqPV (noMo, [], e)) := PLe.tups ⟨le_noMo, .nil, .refl _, trivial⟩
/-- What is known of a model and the histories of its worlds. -/
structure SeqOk (n : Mo) (ps : List (List Nat)) : Prop where
  fit : FitM n
  len : ∀ k, OkM n k → k ≤ ps.length
  ne : ∀ p, p ∈ ps → p ≠ []
  few : ps.length ≤ 64
  short : ∀ p, p ∈ ps → p.length ≤ 500
theorem upd_parts {n : Mo} {a : Act} (h : (updI n a).2.2 = 0) : ∃ k, OkM n k ∧ OkM (updI n a).1 (updI n a).2.1.length ∧ (updI n a).2.1.length ≤ 64 ∧ ∀ q, q ∈ (updI n a).2.1 → q.1 < k := by
  have hl := updI_len n a
  have hw : (worldsI n a).2 = 0 := by
    cases hb : ((worldsI n a).2 != 0) with
    | true => rw [updI, hb] at h; exact h
    | false => simpa using hb
  obtain ⟨k1, k2, k3⟩ := worldsI_ok hw
  obtain ⟨⟨k, hM⟩, hA⟩ := moaI_ok k1
  have hb : ((worldsI n a).2 != 0) = false := by rw [hw]; rfl
  cases hc : decide (((worldsI n a).1.length : Int) > 64) with
  | true => rw [updI, hb, hc] at h; cases h
  | false =>
    have he : updI n a = (prodM n a (worldsI n a).1, (worldsI n a).1, 0) := by rw [updI, hb, hc]; rfl
    have h64 := of_decide_eq_false hc
    rw [he] at hl ⊢
    rw [k2] at hl ⊢
    refine ⟨k, hM, prod_ok hM k3 hl, hl, fun q hq => ?_⟩
    rw [pairsL, hM.nn] at hq
    exact (pairsW_mem.1 hq).1
theorem SeqOk.next {n : Mo} {ps : List (List Nat)} {a : Act} (h : SeqOk n ps) (h0 : (updI n a).2.2 = 0) (hs : ∀ p, p ∈ ps → p.length ≤ 499) : SeqOk (updI n a).1 (longP ps (updI n a).2.1) := by
  obtain ⟨k, h1, h2, h3, h4⟩ := upd_parts h0
  have hl : (longP ps (updI n a).2.1).length = (updI n a).2.1.length := List.length_map _
  refine ⟨h2.fit, fun j hj => ?_, fun p hp => ?_, by omega, fun p hp => ?_⟩
  · have e1 := hj.nn
    have e2 := h2.nn
    omega
  · obtain ⟨q, _, rfl⟩ := List.mem_map.1 hp
    simp
  · obtain ⟨q, hq, rfl⟩ := List.mem_map.1 hp
    have hlt := h4 q hq
    have := h.len k h1
    have hm : ps.getD q.1 [] ∈ ps := by
      rw [List.getD_eq_getElem?_getD, List.getElem?_eq_getElem (show q.1 < ps.length by omega)]
      exact List.getElem_mem _
    have := hs _ hm
    rw [List.length_append]; simp only [List.length_singleton]; omega
theorem upd_bad {m : Mo} (h : moI m ≠ 0) (a : Act) : updI m a = (noMo, [], moI m) := by
  have hb : (moI m != 0) = true := by simpa using h
  have h1 : moaI m a = moI m := by rw [moaI, hb]; rfl
  have h2 : worldsI m a = ([], moI m) := by rw [worldsI, h1, hb]; rfl
  rw [updI, h2, hb]; rfl
theorem seq_bad {m : Mo} (h : moI m ≠ 0) {ps : List (List Nat)} {a : Act} {l : List Act} : seqF m ps (a :: l) = (noMo, [], moI m) := by
  rw [seqF, upd_bad h]
  show (bif moI m != 0 then _ else _) = _
  rw [show (moI m != 0) = true by simpa using h]; rfl

/-! copies -/
theorem cells_i64 (l : List Nat) : cellsAll 1 (l.map i64) = true := by simp [cellsAll, i64, PV.cells, PV.one]
/-- An empty list, nil or not. -/
theorem pure_raw {P : Program} {f : FuncId} {p : PV} (hcb : callable P f = true) (h : ∀ (M : Nat → Prop) (w0 : W0) (ad : Option Addr) (c : Nat), DC P M w0 f [.raw (.slice ad 0 c)] noHeap fun d L' => frz d L' fun q _ => PLe q p) : PureFn P f [.sl []] p := by
  refine PureFn.mk ⟨hcb, fun M w vs hG hM hrel => ?_⟩
  rcases vs with _ | ⟨v, _ | ⟨v2, vs⟩⟩
  · have := hrel.1; simp at this
  · obtain ⟨ad, c, rfl⟩ : ∃ ad c, v = .slice ad 0 c := by
      have hv := hrel.2 0 _ v rfl rfl
      generalize hlx : PV.sl [] = pl at hv
      cases hv with
      | e0 a c => exact ⟨_, _, rfl⟩
      | sl b off sz cap l val g1 g2 g3 g4 g5 g6 =>
        cases hlx
        exact ⟨_, _, rfl⟩
      | _ => cases hlx
    have hr : HR M ⟨w, fun _ _ => False⟩ (fun _ => ⟨0, 0⟩) noHeap w := ⟨Go.RowKit.Below.refl _ _, hM, fun k o hk => (by cases hk), fun k o hk => (by cases hk), fun k o k' o' hk => (by cases hk), fun k o hk => (by cases hk), Nat.le_refl _, Nat.le_refl _, hG⟩
    refine ((h M ⟨w, fun _ _ => False⟩ ad c).elim.2 _ w _ hr rfl ⟨rfl, fun i d v hd hv => ?_⟩).mono ?_
    · cases i with
      | zero => simp at hd hv; subst hd; subst hv; exact .raw _
      | succ i => simp at hd
    · rintro e w' (⟨v, he, μ', d, L', hK, hr', hv, hu, hs⟩ | ⟨v, _, μ', L', hX, _⟩)
      case inr => exact hX.elim
      refine ⟨v, he, ?_, ⟨hs.os, hs.tape, hs.output, hs.size, fun b hb => hs.same b hb ?_⟩⟩
      · obtain ⟨q, L2, hq, hr2, _, h4⟩ := frz_rel d L' v _ hr' hv hu hK
        exact hq.rel (h4.sub fun b hb => .inl hb)
      · rintro ⟨k, o, _, hk, _⟩
        cases hk
  · have := hrel.1; simp at this
theorem sl_CloneP (l : List Nat) (hl : l.length ≤ 1000) : PureFn Tryz.prog 16 [rowPV l] (rowPV l) := by
  cases l with
  | cons a r =>
    refine PureFn.intro mixed (fn := Tryz.f16) rfl rfl rfl fun M w0 => ?_
    (try conv=>whnf);repeat' (first|(apply And.intro<;>try conv=>whnf)|(intro h;first|with_reducible exact ft0 h|try conv=>whnf)|(apply bleI;rfl)|(apply cellsI;rfl)|(apply szI;rfl)|fail)
    · exact cells_u64 _
    · show (List.map u64 (a :: r)).length ≤ 4294967296
      rw [List.length_map]; omega
    · exact PLe.refl _
  | nil =>
    have key : ∀ (M : Nat → Prop) (w0 : W0) (ad : Option Addr) (c : Nat), DC Tryz.prog M w0 16 [.raw (.slice ad 0 c)] noHeap fun d L' => frz d L' fun q _ => PLe q (rowPV []) := by
      intro M w0 ad c
      cases ad with
      | none =>
        refine DC.intro mixed (fn := Tryz.f16) rfl rfl rfl ?_
        (try conv=>whnf);repeat' (first|(apply And.intro<;>try conv=>whnf)|(intro h;try conv=>whnf)|(apply cellsI;rfl)|(apply szI;rfl)|fail)
        all_goals first | exact PLe.nil | exact PLe.refl _ | exact Nat.zero_le _
      | some ad =>
        refine DC.intro mixed (fn := Tryz.f16) rfl rfl rfl ?_
        (try conv=>whnf);repeat' (first|(apply And.intro<;>try conv=>whnf)|(intro h;try conv=>whnf)|(apply cellsI;rfl)|(apply szI;rfl)|fail)
        all_goals first | exact PLe.nil | exact PLe.refl _ | exact Nat.zero_le _
    exact pure_raw rfl key
theorem sl_CloneI {M : Nat → Prop} {w0 : W0} (l : List Nat) (h1 : l ≠ []) (hl : l.length ≤ 1000) (L : DH) (K : DV → DH → Prop) (hK : K (.buf L.next (l.map i64).length) (L.push (.arr 1 (l.map i64)))) :
    DC Tryz.prog M w0 17 [.pv (natsPV l)] L K := by
  cases l with
  | nil => exact absurd rfl h1
  | cons a r =>
    refine DC.intro mixed (fn := Tryz.f17) rfl rfl rfl ?_
    (try conv=>whnf);repeat' (first|(apply And.intro<;>try conv=>whnf)|(intro h;first|with_reducible exact ft0 h|try conv=>whnf)|(apply cellsI;rfl)|(apply szI;rfl)|fail)
    · exact cells_i64 _
    · show (List.map i64 (a :: r)).length ≤ 4294967296
      rw [List.length_map]; omega
    · exact hK
end Go.Proofs.YtkjjoalphllolaaGreat
set_option maxRecDepth 100000
set_option maxHeartbeats 8000000
namespace Go.Proofs.YtkjjoalphllolaaGreat
open Go Go.Dv

def seqEnd : Plan := .one 10 (.one 11 (.one 12 (.one 13 .done)))
def seqPlan : Plan := .one 0 (.one 1 (.one 2 (.one 3 (.one 4 (.one 5 (.two 6 (.one 7 (.one 8 (.one 9 seqEnd))) 7 (.two 6 (.one 8 (.one 9 seqEnd)) 8 (.one 9 (.one 6 seqEnd)))))))))
theorem startP_succ (w : Nat) : (startP w).map natsPV ++ [.sl [i64 w]] = (startP (w + 1)).map natsPV := by
  rw [startP, startP, List.range_succ, List.map_append, List.map_append]; rfl
theorem long_succ {ps : List (List Nat)} {l : List (Nat × Nat)} {j : Nat} {q : Nat × Nat} (h : l[j]? = some q) : (longP ps (l.take j)).map natsPV ++ [.sl ((ps.getD q.1 []).map i64 ++ [i64 q.2])] = (longP ps (l.take (j + 1))).map natsPV := by
  rw [longP, longP, List.take_add_one, h, List.map_append, List.map_append]
  congr 1
  show [PV.sl _] = [natsPV (ps.getD q.1 [] ++ [q.2])]
  rw [natsPV, List.map_append]; rfl
/-- What holds ahead of each action model. -/
structure SeqInv (m : Mo) (l : List Act) (j : Nat) (n : Mo) (ps : List (List Nat)) : Prop where
  fit : FitM n
  res : seqI m l = seqF n ps (l.drop j)
  le : j ≤ l.length
  good : moI m = 0 → SeqOk n ps ∧ ∀ p, p ∈ ps → p.length ≤ j + 1
  bad : moI m ≠ 0 → n = m ∧ j = 0
theorem SeqInv.start {m : Mo} {l : List Act} (hf : FitM m) (hnil : l = [] → moI m = 0) {K : Nat} (hK : ∀ k, OkM m k → k = K) (h64 : K ≤ 64) : SeqInv m l 0 m (startP K) := by
  refine ⟨hf, ?_, Nat.zero_le _, fun h0 => ?_, fun _ => ⟨rfl, rfl⟩⟩
  · rw [List.drop_zero]
    by_cases h0 : moI m = 0
    · obtain ⟨k, hM⟩ := moI_ok h0
      have := hK k hM
      rw [seqI, h0, hM.nn, this]; rfl
    · cases l with
      | nil => exact absurd (hnil rfl) h0
      | cons a r => rw [seq_bad h0, seqI, show (moI m != 0) = true by simpa using h0]; rfl
  · have hl : (startP K).length = K := by simp [startP]
    have h1 : ∀ p, p ∈ startP K → p.length = 1 := fun p hp => by
      obtain ⟨w, _, rfl⟩ := List.mem_map.1 hp; rfl
    refine ⟨⟨hf, fun k hk => by rw [hl, hK k hk]; exact Nat.le_refl _, fun p hp e => ?_, by omega, fun p hp => by rw [h1 p hp]; omega⟩, fun p hp => by rw [h1 p hp]; omega⟩
    have := h1 p hp
    rw [e] at this; cases this
theorem drop_at {α : Type} {l : List α} {j : Nat} {a : α} (h : l[j]? = some a) : l.drop j = a :: l.drop (j + 1) := by
  obtain ⟨hj, e⟩ := List.getElem?_eq_some_iff.1 h
  rw [List.drop_eq_getElem_cons hj, e]
theorem SeqInv.stop {m : Mo} {l : List Act} {j : Nat} {n : Mo} {ps : List (List Nat)} (h : SeqInv m l j n ps) {a : Act} (ha : l[j]? = some a) (he : ((updI n a).2.2 != 0) = true) : seqI m l = (noMo, [], (updI n a).2.2) := by
  rw [h.res, drop_at ha, seqF, he]; rfl
theorem SeqInv.step {m : Mo} {l : List Act} {j : Nat} {n : Mo} {ps : List (List Nat)} (h : SeqInv m l j n ps) {a : Act} (ha : l[j]? = some a) (he : ((updI n a).2.2 != 0) = false) (h4 : l.length ≤ 400) : moI m = 0 ∧ SeqInv m l (j + 1) (updI n a).1 (longP ps (updI n a).2.1) := by
  have h0 : (updI n a).2.2 = 0 := by simpa using he
  have hj := (List.getElem?_eq_some_iff.1 ha).1
  have hm : moI m = 0 := by
    refine Decidable.byContradiction fun hb => ?_
    obtain ⟨rfl, _⟩ := h.bad hb
    rw [upd_bad hb] at h0
    exact hb h0
  obtain ⟨hS, hp⟩ := h.good hm
  have hN := hS.next h0 fun p hq => by have := hp p hq; omega
  refine ⟨hm, hN.fit, ?_, by omega, fun _ => ⟨hN, fun p hq => ?_⟩, fun hb => absurd hm hb⟩
  · rw [h.res, drop_at ha, seqF, he]; rfl
  · obtain ⟨q, hq', rfl⟩ := List.mem_map.1 hq
    obtain ⟨k, h1, _, _, h5⟩ := upd_parts h0
    have hlt := h5 q hq'
    have := hS.len k h1
    have hmm : ps.getD q.1 [] ∈ ps := by
      rw [List.getD_eq_getElem?_getD, List.getElem?_eq_getElem (show q.1 < ps.length by omega)]
      exact List.getElem_mem _
    have := hp _ hmm
    rw [List.length_append]; simp only [List.length_singleton]; omega
theorem SeqInv.fin {m : Mo} {l : List Act} {j : Nat} {n : Mo} {ps : List (List Nat)} (h : SeqInv m l j n ps) (hj : j = l.length) : seqI m l = (n, ps, 0) := by
  rw [h.res, hj, List.drop_length]; rfl
theorem pr_Sequence (m : Mo) (l : List Act) (hf : FitM m) (hv : m.val.length ≤ 20) (hr : m.rel.length ≤ 10) (hrr : ∀ r, r ∈ m.rel → r.length ≤ 1000) (hl : l.length ≤ 400) (hfa : ∀ a, a ∈ l → Fit a) (hla : ∀ a, a ∈ l → a.rel.length ≤ 1000) (hpa : ∀ a, a ∈ l → ∀ x, x ∈ a.post → x.length ≤ 1000) :
    PureFn Tryz.prog 7 [m.pv, .sl (l.map Act.pv)] (seqPV (seqI m l)) := by
  have hC := md_Check m hf
  have e1 : ((l.map Act.pv).length : Int) = (l.length : Int) := by simp
  have hVC := sl_CloneP m.val (by omega)
  obtain ⟨K, qK⟩ : ∃ K : Nat, max (0 : Int) (min m.n 64) = (K : Int) := ⟨(max (0 : Int) (min m.n 64)).toNat, by omega⟩
  have hK64 : K ≤ 64 := by omega
  have hKn : ∀ k, OkM m k → k = K := fun k hk => by
    have := hk.nn
    have := hk.n64
    have := hk.n1
    omega
  refine PureFn.introC [5, 11, 17, 21, 28, 29] mixed (fn := Tryz.f7) rfl rfl rfl fun M w0 => ?_
  try conv=>whnf
  refine ⟨{ _x : Unit // l = [] → moI m = 0 }, fun _ => [(1, .pv (.sl (l.map Act.pv))), (2, .ref 0 0), (4, .ref 1 0)], fun _ => 2, fun _ => [(0, .var (cellsM m)), (1, .var cells0)], ?_, ?_⟩
  · (try conv=>whnf);repeat' (first|(apply And.intro<;>try conv=>whnf)|(intro h;try conv=>whnf)|(refine PureFn.dcq (f := 15) rfl ?_;try conv=>whnf)|(refine ⟨_, _, hC, ?_, ?_⟩;(focus first|(refine ⟨?_, trivial⟩<;>first|exact PLe.refl _|exact PLe.nil)|exact trivial);try conv=>whnf)|fail)
    · rw [seqI, h]; exact le_seq _
    · exact ⟨⟨(), fun _ => by simpa using h⟩, (by refine Wk.of ?_ ?_ rfl rfl rfl<;>repeat' (first|exact trivial|exact WkD.same _|exact WkO.same _ _ rfl|refine ⟨?_, ?_⟩|fail))⟩
    · exact ⟨⟨(), fun e => by subst e; simp at h⟩, (by refine Wk.of ?_ ?_ rfl rfl rfl<;>repeat' (first|exact trivial|exact WkD.same _|exact WkO.same _ _ rfl|refine ⟨?_, ?_⟩|fail))⟩
  rintro ⟨_, hnil⟩
  try conv=>whnf
  refine ⟨Plan.lin 0 8, [7], by kernel_rfl, ?_⟩
  (try conv=>whnf);repeat' (first|(refine ⟨_, (by (conv=>whnf);exact hVC), rfl, ?_⟩;try conv=>whnf)|fail)
  refine ⟨Unit, fun _ => [(1, .pv (.sl (l.map Act.pv))), (2, .ref 0 0), (4, .ref 1 0), (8, .ref 2 0)], fun _ => 3, fun _ => [(0, .var (cellsM m)), (1, .var cells0), (2, .var [.pv (.int .i64 m.n), .pv (rowPV m.val), .pv (.sl ((m.rel.take m.rel.length).map rowPV))])], ?_, ?_⟩
  · refine ⟨{ i : Nat // i ≤ m.rel.length }, fun i => [(1, .pv (.sl (l.map Act.pv))), (2, .ref 0 0), (4, .ref 1 0), (8, .ref 2 0), (37, .pv (.sl (m.rel.map rowPV))), (38, .pv (i64 (m.rel.map rowPV).length)), (39, .pv (i64 i.1))], fun _ => 4, fun i => [(0, .var (cellsM m)), (1, .var cells0), (2, .var [.pv (.int .i64 m.n), .pv (rowPV m.val), .buf 3 ((m.rel.take i.1).map rowPV).length]), (3, .arr 1 ((m.rel.take i.1).map rowPV))], fun i => m.rel.length - i.1, ⟨⟨0, Nat.zero_le _⟩, (by refine Wk.of ?_ ?_ rfl rfl rfl<;>repeat' (first|exact trivial|exact WkD.same _|exact WkO.same _ _ rfl|exact WkD.new' rfl rfl rfl|exact WkO.new _ _ rfl|refine WkO.vars rfl ?_|exact rfl|refine ⟨?_, ?_⟩|fail))⟩, ?_⟩
    rintro ⟨i, hi⟩
    have hlR : ((m.rel.map rowPV).length : Int) = (m.rel.length : Int) := by simp
    (try conv=>whnf);repeat' (first|(apply And.intro<;>try conv=>whnf)|(intro h;try conv=>whnf)|(apply infoT;rfl)|fail)
    · have hi' : i < m.rel.length := by simpa using lt_dec h
      obtain ⟨r, hx⟩ : ∃ y, m.rel[i]? = some y := ⟨_, List.getElem?_eq_getElem hi'⟩
      have hRC := sl_CloneP r (hrr r (List.mem_iff_getElem?.2 ⟨_, hx⟩))
      have hvsl : ((m.rel.take i).map rowPV).length ≤ 1000 := by simp; omega
      have er : (m.rel.take i).map rowPV ++ [rowPV r] = (m.rel.take (i + 1)).map rowPV := (take_map (f := rowPV) hx).symm
      refine ⟨_, _, rfl, idx_map hx, rfl, ?_⟩
      try conv=>whnf
      refine ⟨Plan.lin 0 8, [5, 7], by kernel_rfl, ?_⟩
      (try conv=>whnf);repeat' (first|(apply And.intro<;>try conv=>whnf)|(apply cellsI;rfl)|(apply szI;rfl)|(refine ⟨_, (by (conv=>whnf);exact hRC), rfl, ?_⟩;try conv=>whnf)|fail)
      · exact app_big (n := 1000) hvsl (by decide)
      · refine ⟨⟨i + 1, hi'⟩, by show m.rel.length - (i + 1) < m.rel.length - i; omega, ?_⟩
        (refine Wk.of ?_ ?_ rfl rfl rfl<;>repeat' (first|exact trivial|exact WkD.same _|exact WkO.same _ _ rfl|exact WkD.eq (congrArg (fun z : List PV => DV.buf _ z.length) er)|exact WkO.same _ _ (congrArg (fun z => some (DObj.arr _ z)) er)|refine WkD.int ?_|refine WkO.vars rfl ?_|refine ⟨?_, ?_⟩|(refine wrapA ?_ ?_ ?_;(focus simp;done);(focus (try dsimp only);omega);(focus (try dsimp only);omega))|fail))
    · have hi' : i = m.rel.length := by have := ge_dec (m := (m.rel.map rowPV).length) h (by simpa using hi); simpa using this
      subst hi'
      exact ⟨(), (by refine Wk.of ?_ ?_ rfl rfl rfl<;>repeat' (first|exact trivial|exact WkD.same _|exact WkO.same _ _ rfl|exact WkD.fz _ _ _ rfl (Or.inl ⟨_, rfl⟩) rfl|refine WkO.vars rfl ?_|refine ⟨?_, ?_⟩|fail))⟩
  rintro _
  generalize hR : m.rel.take m.rel.length = R
  obtain rfl : R = m.rel := by rw [← hR, List.take_length]
  clear hR
  refine ⟨Unit, fun _ => [(1, .pv (.sl (l.map Act.pv))), (4, .ref 1 0), (8, .ref 2 0), (11, .pv (hisPV (startP K)))], fun _ => 3, fun _ => [(1, .var cells0), (2, .var (cellsM m))], ?_, ?_⟩
  · try conv=>whnf
    refine ⟨{ i : Nat // i ≤ K }, fun i => [(1, .pv (.sl (l.map Act.pv))), (4, .ref 1 0), (8, .ref 2 0), (11, .buf 3 ((startP i.1).map natsPV).length), (54, .pv (i64 K)), (55, .pv (i64 i.1))], fun _ => 4, fun i => [(1, .var cells0), (2, .var (cellsM m)), (3, .arr 1 ((startP i.1).map natsPV))], fun i => K - i.1, ⟨⟨0, Nat.zero_le _⟩, ?_⟩, ?_⟩
    · (refine Wk.of ?_ ?_ rfl rfl rfl<;>repeat' (first|exact trivial|exact WkD.same _|exact WkO.same _ _ rfl|refine WkD.int ?_|exact WkD.new' rfl rfl rfl|exact WkO.new _ _ rfl|exact rfl|refine ⟨?_, ?_⟩|fail))
      exact qK
    rintro ⟨i, hi⟩
    (try conv=>whnf);repeat' (first|(apply And.intro<;>try conv=>whnf)|(intro h;try conv=>whnf)|(apply cellsI;rfl)|(apply szI;rfl)|fail)
    · have hi' : i < K := by simpa using lt_dec h
      have hvsl : ((startP i).map natsPV).length ≤ 1000 := by simp [startP]; omega
      exact app_big (n := 1000) hvsl (by decide)
    · have hi' : i < K := by simpa using lt_dec h
      have er := startP_succ i
      · refine ⟨⟨i + 1, hi'⟩, by show K - (i + 1) < K - i; omega, ?_⟩
        (refine Wk.of ?_ ?_ rfl rfl rfl<;>repeat' (first|exact trivial|exact WkD.same _|exact WkO.same _ _ rfl|exact WkD.eq (congrArg (fun z : List PV => DV.buf _ z.length) er)|exact WkO.same _ _ (congrArg (fun z => some (DObj.arr _ z)) er)|refine WkD.int ?_|refine ⟨?_, ?_⟩|(refine wrapA ?_ ?_ ?_;(focus simp;done);(focus (try dsimp only);omega);(focus (try dsimp only);omega))|fail))
    · have hi' : i = K := ge_dec h hi
      subst hi'
      exact ⟨(), (by refine Wk.of ?_ ?_ rfl rfl rfl<;>repeat' (first|exact trivial|exact WkD.same _|exact WkO.same _ _ rfl|exact WkD.fz _ _ _ rfl (Or.inl ⟨_, rfl⟩) rfl|refine ⟨?_, ?_⟩|fail))⟩
  rintro _
  have hst := SeqInv.start hf hnil hKn hK64
  try conv=>whnf
  refine ⟨{ x : Nat × Mo × List (List Nat) // SeqInv m l x.1 x.2.1 x.2.2 }, fun x => [(4, .ref 1 0), (8, .ref 2 0), (11, .pv (hisPV x.1.2.2)), (64, .pv (.sl (l.map Act.pv))), (65, .pv (i64 (l.map Act.pv).length)), (66, .pv (i64 x.1.1))], fun _ => 3, fun x => [(1, .var cells0), (2, .var (cellsM x.1.2.1))], fun x => l.length - x.1.1, ⟨⟨(0, m, startP K), hst⟩, (by refine Wk.of ?_ ?_ rfl rfl rfl<;>repeat' (first|exact trivial|exact WkD.same _|exact WkO.same _ _ rfl|refine ⟨?_, ?_⟩|fail))⟩, ?_⟩
  rintro ⟨⟨j, n, ps⟩, hI⟩
  (try conv=>whnf);repeat' (first|(apply And.intro<;>try conv=>whnf)|(intro h;try conv=>whnf)|(apply infoT;rfl)|fail)
  · have hj : j < l.length := by simpa using lt_dec h
    obtain ⟨a, ha⟩ : ∃ a, l[j]? = some a := ⟨_, List.getElem?_eq_getElem hj⟩
    have haM := List.mem_iff_getElem?.2 ⟨_, ha⟩
    have hU := pr_Update n a hI.fit (hfa a haM) (hla a haM) (hpa a haM)
    have hst := hI.step ha
    have hso := hI.stop ha
    have hpt := upd_parts (n := n) (a := a)
    have hlen := updI_len n a
    have hgd := hI.good
    obtain ⟨n', prs, e, hX⟩ : ∃ n' prs e, updI n a = (n', prs, e) := ⟨_, _, _, rfl⟩
    rw [hX] at hU hst hso hpt hlen
    refine ⟨_, _, rfl, idx_map ha, rfl, ?_⟩
    try conv=>whnf
    refine ⟨Unit, fun _ => [(4, .ref 1 0), (8, .ref 2 0), (11, .pv (hisPV ps)), (64, .pv (.sl (l.map Act.pv))), (65, .pv (i64 (l.map Act.pv).length)), (66, .pv (i64 j)), (15, .ref 4 0), (16, .pv (.sl (prs.map pairPV))), (17, .pv (.int .i64 e))], fun _ => 5, fun _ => [(1, .var cells0), (2, .var (cellsM n)), (4, .var (cellsM n'))], ?_, ?_⟩
    · (try conv=>whnf);repeat' (first|(refine PureFn.dcq (f := 12) rfl ?_;try conv=>whnf)|(refine ⟨_, _, hU, ?_, ?_⟩;(focus first|(refine ⟨?_, ?_, trivial⟩<;>first|exact PLe.refl _|exact PLe.nil)|exact trivial);try conv=>whnf)|fail)
      exact ⟨(), (by refine Wk.of ?_ ?_ rfl rfl rfl<;>repeat' (first|exact trivial|exact WkD.same _|exact WkO.same _ _ rfl|refine ⟨?_, ?_⟩|fail))⟩
    rintro _
    (try conv=>whnf);repeat' (first|(apply And.intro<;>try conv=>whnf)|(intro h;try conv=>whnf)|fail)
    · rw [hso h]; exact le_seq e
    obtain ⟨hm0, hnx⟩ := hst h hl
    obtain ⟨k, hk1, hk2, hk3, hk4⟩ := hpt (by simpa using h)
    obtain ⟨hS, hsh⟩ := hgd hm0
    have hkl := hS.len k hk1
    have hlen : prs.length ≤ 64 := hlen
    refine ⟨Unit, fun _ => [(4, .ref 1 0), (8, .ref 2 0), (11, .pv (hisPV ps)), (64, .pv (.sl (l.map Act.pv))), (65, .pv (i64 (l.map Act.pv).length)), (66, .pv (i64 j)), (15, .ref 4 0), (18, .pv (hisPV (longP ps (prs.take prs.length))))], fun _ => 5, fun _ => [(1, .var cells0), (2, .var (cellsM n)), (4, .var (cellsM n'))], ?_, ?_⟩
    · refine ⟨{ i : Nat // i ≤ prs.length }, fun i => [(4, .ref 1 0), (8, .ref 2 0), (11, .pv (hisPV ps)), (64, .pv (.sl (l.map Act.pv))), (65, .pv (i64 (l.map Act.pv).length)), (66, .pv (i64 j)), (15, .ref 4 0), (18, .buf 5 ((longP ps (prs.take i.1)).map natsPV).length), (81, .pv (.sl (prs.map pairPV))), (82, .pv (i64 (prs.map pairPV).length)), (83, .pv (i64 i.1))], fun _ => 6, fun i => [(1, .var cells0), (2, .var (cellsM n)), (4, .var (cellsM n')), (5, .arr 1 ((longP ps (prs.take i.1)).map natsPV))], fun i => prs.length - i.1, ⟨⟨0, Nat.zero_le _⟩, (by refine Wk.of ?_ ?_ rfl rfl rfl<;>repeat' (first|exact trivial|exact WkD.same _|exact WkO.same _ _ rfl|exact WkD.new' rfl rfl rfl|exact WkO.new _ _ rfl|exact rfl|refine ⟨?_, ?_⟩|fail))⟩, ?_⟩
      rintro ⟨i, hi⟩
      (try conv=>whnf);repeat' (first|(apply And.intro<;>try conv=>whnf)|(intro h;try conv=>whnf)|fail)
      · have hi' : i < prs.length := by simpa using lt_dec h
        obtain ⟨q, hq⟩ : ∃ q, prs[i]? = some q := ⟨_, List.getElem?_eq_getElem hi'⟩
        have hq1 : q.1 < ps.length := Nat.lt_of_lt_of_le (hk4 q (List.mem_iff_getElem?.2 ⟨_, hq⟩)) hkl
        have hm : ps.getD q.1 [] ∈ ps := by
          rw [List.getD_eq_getElem?_getD, List.getElem?_eq_getElem hq1]
          exact List.getElem_mem _
        have hgq : ps[q.1]? = some (ps.getD q.1 []) := by rw [List.getD_eq_getElem?_getD, List.getElem?_eq_getElem hq1]; rfl
        have hne := hS.ne _ hm
        have hsm : (ps.getD q.1 []).length ≤ j + 1 := hsh _ hm
        have el := long_succ (ps := ps) hq
        have hvsl : ((longP ps (prs.take i)).map natsPV).length ≤ 1000 := by simp [longP]; omega
        have hvs2 : ((ps.getD q.1 []).map i64).length ≤ 1000 := by rw [List.length_map]; omega
        have hix := idx_map (g := natsPV) hgq
        have hixp := idx_map (g := pairPV) hq
        generalize ps.getD q.1 [] = pq at *
        refine ⟨Unit, fun _ => [(4, .ref 1 0), (8, .ref 2 0), (11, .pv (hisPV ps)), (64, .pv (.sl (l.map Act.pv))), (65, .pv (i64 (l.map Act.pv).length)), (66, .pv (i64 j)), (15, .ref 4 0), (18, .buf 5 ((longP ps (prs.take (i + 1))).map natsPV).length), (81, .pv (.sl (prs.map pairPV))), (82, .pv (i64 (prs.map pairPV).length)), (83, .pv (i64 i))], fun _ => 6, fun _ => [(1, .var cells0), (2, .var (cellsM n)), (4, .var (cellsM n')), (5, .arr 1 ((longP ps (prs.take (i + 1))).map natsPV))], ?_, ?_⟩
        · (try conv=>whnf);repeat' (first|(apply And.intro<;>try conv=>whnf)|(apply infoT;rfl)|(refine ⟨_, _, rfl, idx_map (by with_reducible assumption), rfl, ?_⟩;try conv=>whnf)|fail)
          refine ⟨seqPlan, [6, 10, 11, 12], by kernel_rfl, ?_⟩
          (try conv=>whnf);repeat' (first|(apply And.intro<;>try conv=>whnf)|(apply infoT;rfl)|(apply cellsI;rfl)|(refine ⟨_, _, rfl, idx_map (by with_reducible assumption), rfl, ?_⟩;try conv=>whnf)|fail)
          all_goals (refine sl_CloneI pq hne (by omega) _ _ ?_; (try conv=>whnf);repeat' (first|(apply And.intro<;>try conv=>whnf)|(apply bleI;rfl)|(apply cellsI;rfl)|(apply szI;rfl)|fail))
          all_goals first | exact app_big (n := 1000) hvs2 (by decide) | exact app_big (n := 1000) hvsl (by decide) | (refine ⟨(), ?_⟩; (refine Wk.of ?_ ?_ rfl rfl rfl<;>repeat' (first|exact trivial|exact WkD.same _|exact WkO.same _ _ rfl|exact WkD.eq (congrArg (fun z : List PV => DV.buf _ z.length) el)|exact WkO.same _ _ (congrArg (fun z => some (DObj.arr _ z)) el)|refine ⟨?_, ?_⟩|fail)))
        rintro _
        try conv=>whnf
        exact ⟨⟨i + 1, hi'⟩, by show prs.length - (i + 1) < prs.length - i; omega, (by refine Wk.of ?_ ?_ rfl rfl rfl<;>repeat' (first|exact trivial|exact WkD.same _|exact WkO.same _ _ rfl|refine WkD.int ?_|refine ⟨?_, ?_⟩|(refine wrapA ?_ ?_ ?_;(focus simp;done);(focus (try dsimp only);omega);(focus (try dsimp only);omega))|fail))⟩
      · have hi' : i = prs.length := by have := ge_dec (m := (prs.map pairPV).length) h (by simpa using hi); simpa using this
        subst hi'
        exact ⟨(), (by refine Wk.of ?_ ?_ rfl rfl rfl<;>repeat' (first|exact trivial|exact WkD.same _|exact WkO.same _ _ rfl|exact WkD.fz _ _ _ rfl (Or.inl ⟨_, rfl⟩) rfl|refine ⟨?_, ?_⟩|fail))⟩
    rintro _
    generalize hR : prs.take prs.length = R
    obtain rfl : R = prs := by rw [← hR, List.take_length]
    clear hR
    try conv=>whnf
    exact ⟨⟨(j + 1, n', longP ps R), hnx⟩, by show l.length - (j + 1) < l.length - j; omega, (by refine Wk.of ?_ ?_ rfl rfl rfl<;>repeat' (first|exact trivial|exact WkD.same _|exact WkO.same _ _ rfl|refine WkD.int ?_|refine ⟨?_, ?_⟩|(refine wrapA ?_ ?_ ?_;(focus simp;done);(focus (try dsimp only);omega);(focus (try dsimp only);omega))|fail))⟩
  · have hj : j = l.length := by have := ge_dec (m := (l.map Act.pv).length) h (by simpa using hI.le); simpa using this
    rw [hI.fin hj]
    exact .refl _
end Go.Proofs.YtkjjoalphllolaaGreat
set_option maxRecDepth 100000
set_option maxHeartbeats 4000000
namespace Go.Proofs.YtkjjoalphllolaaGreat
open Go Go.Dv

theorem rm_Has (s w : Nat) (hw : w < 64) : PureFn Tryz.prog 35 [u64 s, .int .i64 (w : Nat)] (.bool (s.testBit w)) := by
  refine PureFn.intro mixed (fn := Tryz.f35) rfl rfl rfl fun M w0 => ?_
  have h1 : decide ((w : Int) ≥ 0) = true := decide_eq_true (by omega)
  have h2 : decide ((w : Int) < 64) = true := decide_eq_true (by omega)
  (try conv=>whnf);repeat' (first|(apply And.intro<;>try conv=>whnf)|(intro h;first|exact litz h rfl|try conv=>whnf)|apply True.intro|(apply WhenQ.mk;(try conv=>whnf);rotate_left;(try conv=>whnf);rotate_right)|with_reducible assumption|fail)
  · exact Int.natCast_nonneg _
  · refine le_bool ?_
    rw [h1, h2]
    exact bit_rem (by omega)
theorem rc_Box (n : Nat) (r : List Nat) (s : Nat) (hn : n ≤ 64) (hl : r.length = n) (hb : ∀ s, s ∈ r → s < 2 ^ 64) : PureFn Tryz.prog 100 [rowPV r, i64 n, u64 s] (u64 (boxN n r s)) := by
  refine PureFn.intro mixed (fn := Tryz.f100) rfl rfl rfl fun M w0 => ?_
  try conv=>whnf
  refine ⟨{ i : Nat // i ≤ n }, fun i => [(0, .pv (rowPV r)), (1, .pv (i64 n)), (2, .pv (u64 s)), (7, .pv (u64 (maskOf (fun w => subM (r.getD w 0) s) i.1))), (8, .pv (i64 i.1))], fun _ => 0, fun _ => [], fun i => n - i.1, ⟨⟨0, Nat.zero_le _⟩, (by refine Wk.of ?_ ?_ rfl rfl rfl<;>repeat' (first|exact trivial|exact WkD.same _|refine ⟨?_, ?_⟩|fail))⟩, ?_⟩
  rintro ⟨i, hi⟩
  (try conv=>whnf);repeat' (first|(apply And.intro<;>try conv=>whnf)|(intro h;try conv=>whnf)|(apply infoT;rfl)|fail)
  · have hi' : i < n := lt_dec h
    obtain ⟨x, hm, hx⟩ : ∃ x, r[i]? = some x ∧ r.getD i 0 = x := ⟨_, getD_mem (by omega), rfl⟩
    have hxb : x < 2 ^ 64 := hb x (List.mem_iff_getElem?.2 ⟨i, hm⟩)
    have hsb : (andNotU (x : Nat) (s : Nat) == 0) = subM x s := andNotU_sub hxb
    refine ⟨_, _, rfl, idx_map hm, rfl, ?_⟩
    (try conv=>whnf);repeat' (first|(apply And.intro<;>try conv=>whnf)|(intro h;try conv=>whnf)|fail)
    · exact Int.natCast_nonneg _
    · have hq : subM (r.getD i 0) s = true := by rw [hx, ← hsb]; exact h
      refine ⟨⟨i + 1, hi'⟩, by show n - (i + 1) < n - i; omega, ?_⟩
      (refine Wk.of ?_ ?_ rfl rfl rfl<;>repeat' (first|exact trivial|exact WkD.same _|refine WkD.int ?_|refine ⟨?_, ?_⟩|(refine wrapA ?_ ?_ ?_;(focus simp;done);(focus (try dsimp only);omega);(focus (try dsimp only);omega))|fail))
      exact or_shl (q := fun w => subM (r.getD w 0) s) (w := i) (by omega) hq
    · have hq : subM (r.getD i 0) s = false := by rw [hx, ← hsb]; exact h
      refine ⟨⟨i + 1, hi'⟩, by show n - (i + 1) < n - i; omega, ?_⟩
      (refine Wk.of ?_ ?_ rfl rfl rfl<;>repeat' (first|exact trivial|exact WkD.same _|refine WkD.int ?_|refine ⟨?_, ?_⟩|(refine wrapA ?_ ?_ ?_;(focus simp;done);(focus (try dsimp only);omega);(focus (try dsimp only);omega))|fail))
      exact congrArg (fun z : Nat => (z : Int)) (mask_no (q := fun w => subM (r.getD w 0) s) hq)
  · have hi' : i = n := ge_dec h hi
    subst hi'
    exact .refl _
theorem rnd_one {r : List Nat} {c s e : Nat} : rndR [r.map fun a => a &&& c] s (e + 1) = bif (rndR [r.map fun a => a &&& c] s e).testBit e then rndR [r.map fun a => a &&& c] s e ||| (r.getD e 0 &&& c) else rndR [r.map fun a => a &&& c] s e := by
  rw [rndR, inP]
  have : orA [r.map fun a => a &&& c] e ([r.map fun a => a &&& c] : List (List Nat)).length = r.getD e 0 &&& c := by
    rw [show ([r.map fun a => a &&& c] : List (List Nat)).length = 1 from rfl, orA_one]
  rw [this]
theorem rc_Paths (n : Nat) (r : List Nat) (c w : Nat) (hn : n ≤ 64) (hl : r.length = n) (hb : ∀ s, s ∈ r → s < 2 ^ n) (hc : c < 2 ^ 64) (hw : w < n) : PureFn Tryz.prog 112 [rowPV r, i64 n, i64 w, u64 c] (u64 (pathN n r c w)) := by
  refine PureFn.intro mixed (fn := Tryz.f112) rfl rfl rfl fun M w0 => ?_
  obtain ⟨x, hm, hx⟩ : ∃ x, r[w]? = some x ∧ r.getD w 0 = x := ⟨_, getD_mem (by omega), rfl⟩
  have hb64 : ∀ s, s ∈ r → s < 2 ^ 64 := fun s hs => Nat.lt_of_lt_of_le (hb s hs) (pow64_le hn)
  have hxb : x < 2 ^ 64 := hb64 x (List.mem_iff_getElem?.2 ⟨w, hm⟩)
  have hxn : x &&& c < 2 ^ n := Nat.lt_of_le_of_lt Nat.and_le_left (hb x (List.mem_iff_getElem?.2 ⟨w, hm⟩))
  have hR := rel1_Rel (c := c) hl hb
  have h0 : andU (x : Nat) (c : Nat) = ((x &&& c : Nat) : Int) := andU_nat hxb hc
  rw [pathN, hx]
  generalize hp : x &&& c = p at hxn h0
  (try conv=>whnf);repeat' (first|(apply And.intro<;>try conv=>whnf)|(apply infoT;rfl)|(refine ⟨_, _, rfl, idx_map (by with_reducible assumption), rfl, ?_⟩;try conv=>whnf)|fail)
  refine ⟨{ i : Nat // i ≤ n }, fun i => [(0, .pv (rowPV r)), (1, .pv (i64 n)), (3, .pv (u64 c)), (9, .pv (u64 (seqR [r.map fun a => a &&& c] n p i.1))), (10, .pv (i64 i.1))], fun _ => 0, fun _ => [], fun i => n - i.1, ⟨⟨0, Nat.zero_le _⟩, ?_⟩, ?_⟩
  · (refine Wk.of ?_ ?_ rfl rfl rfl<;>repeat' (first|exact trivial|exact WkD.same _|refine WkD.int ?_|refine ⟨?_, ?_⟩|fail))
    exact h0
  rintro ⟨i, hi⟩
  (try conv=>whnf);repeat' (first|(apply And.intro<;>try conv=>whnf)|(intro h;try conv=>whnf)|fail)
  · have hi' : i < n := lt_dec h
    have hsl := seqR_lt hR hxn i
    have hsn : seqR [r.map fun a => a &&& c] n p (i + 1) = rndR [r.map fun a => a &&& c] (seqR [r.map fun a => a &&& c] n p i) n := rfl
    refine ⟨{ j : Nat // j ≤ n }, fun j => [(0, .pv (rowPV r)), (1, .pv (i64 n)), (3, .pv (u64 c)), (9, .pv (u64 (rndR [r.map fun a => a &&& c] (seqR [r.map fun a => a &&& c] n p i) j.1))), (10, .pv (i64 i)), (11, .pv (i64 j.1))], fun _ => 0, fun _ => [], fun j => n - j.1, ⟨⟨0, Nat.zero_le _⟩, (by refine Wk.of ?_ ?_ rfl rfl rfl<;>repeat' (first|exact trivial|exact WkD.same _|refine ⟨?_, ?_⟩|fail))⟩, ?_⟩
    intro j
    have hj := j.2
    (try conv=>whnf);repeat' (first|(apply And.intro<;>try conv=>whnf)|(intro h;try conv=>whnf)|fail)
    · have hj' : j.1 < n := lt_dec h
      obtain ⟨y, hy, hyw⟩ : ∃ y, r[j.1]? = some y ∧ r.getD j.1 0 = y := ⟨_, getD_mem (by omega), rfl⟩
      have hyb : y < 2 ^ 64 := hb64 y (List.mem_iff_getElem?.2 ⟨j.1, hy⟩)
      have hr1 := rnd_one (r := r) (c := c) (s := seqR [r.map fun a => a &&& c] n p i) (e := j.1)
      have hrl : rndR [r.map fun a => a &&& c] (seqR [r.map fun a => a &&& c] n p i) j.1 < 2 ^ 64 := Nat.lt_of_lt_of_le (rndR_lt hR hsl j.1) (pow64_le hn)
      have hH := rm_Has (rndR [r.map fun a => a &&& c] (seqR [r.map fun a => a &&& c] n p i) j.1) j.1 (by omega)
      have hyc : y &&& c < 2 ^ 64 := Nat.lt_of_le_of_lt Nat.and_le_left hyb
      (try conv=>whnf);repeat' (first|(apply And.intro<;>try conv=>whnf)|(intro h;try conv=>whnf)|(apply infoT;rfl)|(refine ⟨_, _, rfl, idx_map (by with_reducible assumption), rfl, ?_⟩;try conv=>whnf)|(refine PureFn.dcq (f := 35) rfl ?_;try conv=>whnf)|(refine ⟨_, _, hH, ?_, ?_⟩;(focus first|(refine ⟨?_, ?_, trivial⟩<;>first|exact PLe.refl _|exact PLe.nil)|exact trivial);try conv=>whnf)|fail)
      · refine ⟨⟨j.1 + 1, hj'⟩, by show n - (j.1 + 1) < n - j.1; omega, ?_⟩
        (refine Wk.of ?_ ?_ rfl rfl rfl<;>repeat' (first|exact trivial|exact WkD.same _|refine WkD.int ?_|refine ⟨?_, ?_⟩|(refine wrapA ?_ ?_ ?_;(focus simp;done);(focus (try dsimp only);omega);(focus (try dsimp only);omega))|fail))
        rw [hr1, show (rndR [r.map fun a => a &&& c] (seqR [r.map fun a => a &&& c] n p i) j.1).testBit j.1 = true from h, cond_true, hyw]
        show orU _ (andU (y : Nat) (c : Nat)) = _
        rw [andU_nat hyb hc]
        exact orU_nat hrl hyc
      · refine ⟨⟨j.1 + 1, hj'⟩, by show n - (j.1 + 1) < n - j.1; omega, ?_⟩
        (refine Wk.of ?_ ?_ rfl rfl rfl<;>repeat' (first|exact trivial|exact WkD.same _|refine WkD.int ?_|refine ⟨?_, ?_⟩|(refine wrapA ?_ ?_ ?_;(focus simp;done);(focus (try dsimp only);omega);(focus (try dsimp only);omega))|fail))
        rw [hr1, show (rndR [r.map fun a => a &&& c] (seqR [r.map fun a => a &&& c] n p i) j.1).testBit j.1 = false from h]; rfl
    · have hj' : j.1 = n := ge_dec h hj
      refine ⟨⟨i + 1, hi'⟩, by show n - (i + 1) < n - i; omega, ?_⟩
      (refine Wk.of ?_ ?_ rfl rfl rfl<;>repeat' (first|exact trivial|exact WkD.same _|refine WkD.int ?_|refine ⟨?_, ?_⟩|(refine wrapA ?_ ?_ ?_;(focus simp;done);(focus (try dsimp only);omega);(focus (try dsimp only);omega))|fail))
      show ((rndR [r.map fun a => a &&& c] (seqR [r.map fun a => a &&& c] n p i) j.1 : Nat) : Int) = _
      rw [hj', hsn]
  · have hi' : i = n := ge_dec h hi
    subst hi'
    exact .refl _
theorem pathN_lt {n : Nat} {r : List Nat} {c w : Nat} (hl : r.length = n) (hb : ∀ s, s ∈ r → s < 2 ^ n) : pathN n r c w < 2 ^ n := by
  refine seqR_lt (rel1_Rel hl hb) ?_ n
  exact Nat.lt_of_le_of_lt Nat.and_le_left (getD_lt (Nat.two_pow_pos n) hb)
theorem rc_common (n : Nat) (r : List Nat) (c s : Nat) (hn : n ≤ 64) (hl : r.length = n) (hb : ∀ s, s ∈ r → s < 2 ^ n) (hc : c < 2 ^ 64) : PureFn Tryz.prog 103 [rowPV r, i64 n, u64 c, u64 s] (u64 (comN n r c s)) := by
  refine PureFn.intro mixed (fn := Tryz.f103) rfl rfl rfl fun M w0 => ?_
  try conv=>whnf
  refine ⟨{ i : Nat // i ≤ n }, fun i => [(0, .pv (rowPV r)), (1, .pv (i64 n)), (2, .pv (u64 c)), (3, .pv (u64 s)), (9, .pv (u64 (maskOf (fun w => subM (pathN n r c w) s) i.1))), (10, .pv (i64 i.1))], fun _ => 0, fun _ => [], fun i => n - i.1, ⟨⟨0, Nat.zero_le _⟩, (by refine Wk.of ?_ ?_ rfl rfl rfl<;>repeat' (first|exact trivial|exact WkD.same _|refine ⟨?_, ?_⟩|fail))⟩, ?_⟩
  rintro ⟨i, hi⟩
  (try conv=>whnf);repeat' (first|(apply And.intro<;>try conv=>whnf)|(intro h;try conv=>whnf)|fail)
  · have hi' : i < n := lt_dec h
    have hP := rc_Paths n r c i hn hl hb hc hi'
    have hxb : pathN n r c i < 2 ^ 64 := Nat.lt_of_lt_of_le (pathN_lt hl hb) (pow64_le hn)
    have hsb : (andNotU (pathN n r c i : Nat) (s : Nat) == 0) = subM (pathN n r c i) s := andNotU_sub hxb
    apply PureFn.dcb hP rfl
    · exact ⟨PLe.refl _, PLe.refl _, PLe.refl _, PLe.refl _, trivial⟩
    (try conv=>whnf);repeat' (first|(apply And.intro<;>try conv=>whnf)|(intro h;try conv=>whnf)|fail)
    · exact Int.natCast_nonneg _
    · have hq : subM (pathN n r c i) s = true := by rw [← hsb]; exact h
      refine ⟨⟨i + 1, hi'⟩, by show n - (i + 1) < n - i; omega, ?_⟩
      (refine Wk.of ?_ ?_ rfl rfl rfl<;>repeat' (first|exact trivial|exact WkD.same _|refine WkD.int ?_|refine ⟨?_, ?_⟩|(refine wrapA ?_ ?_ ?_;(focus simp;done);(focus (try dsimp only);omega);(focus (try dsimp only);omega))|fail))
      exact or_shl (q := fun w => subM (pathN n r c w) s) (w := i) (by omega) hq
    · have hq : subM (pathN n r c i) s = false := by rw [← hsb]; exact h
      refine ⟨⟨i + 1, hi'⟩, by show n - (i + 1) < n - i; omega, ?_⟩
      (refine Wk.of ?_ ?_ rfl rfl rfl<;>repeat' (first|exact trivial|exact WkD.same _|refine WkD.int ?_|refine ⟨?_, ?_⟩|(refine wrapA ?_ ?_ ?_;(focus simp;done);(focus (try dsimp only);omega);(focus (try dsimp only);omega))|fail))
      exact congrArg (fun z : Nat => (z : Int)) (mask_no (q := fun w => subM (pathN n r c w) s) hq)
  · have hi' : i = n := ge_dec h hi
    subst hi'
    exact .refl _
theorem bif_ff (c : Bool) : (bif c then false else false) = false := by cases c <;> rfl
theorem allN_lt {n : Nat} (hn : n ≤ 64) : 2 ^ n - 1 < 2 ^ 64 := by
  have := pow64_le hn
  have := Nat.two_pow_pos n
  omega
theorem rm_groupOr (m : Mo) (n : Nat) (hM : OkM m n) (g : Int) : PureFn Tryz.prog 111 [m.pv, .int .i64 g, .bool false] (rowPV (grpM orF m g 0)) := by
  refine PureFn.introC [3, 10, 13, 15] mixed (fn := Tryz.f111) rfl rfl rfl fun M w0 => ?_
  have hC := rm_Check m hM.fit
  rw [ok_moI hM] at hC
  have e3 : ((m.rel.map rowPV).length : Int) = (m.rel.length : Int) := by simp
  have hag := hM.ag
  have hn64 := hM.n64
  have hnn := hM.nn
  have hbad : badGM m g = (bif decide (g < 1) then true else decide (g ≥ shl64 1 (m.rel.length : Int))) := by rw [badGM, ok_moI hM]; cases decide (g < 1) <;> rfl
  try conv=>whnf
  refine ⟨{ _x : Unit // badGM m g = false }, fun _ => [(1, .pv (.int .i64 g)), (2, .pv (.bool false)), (3, .ref 0 0)], fun _ => 1, fun _ => HM m, ?_, ?_⟩
  · (try conv=>whnf);repeat' (first|(apply And.intro<;>try conv=>whnf)|(intro h;try conv=>whnf)|apply True.intro|(apply WhenQ.mk;(try conv=>whnf);rotate_left;(try conv=>whnf);rotate_right)|with_reducible assumption|(apply not_of;with_reducible assumption)|(refine PureFn.dcq (f := 18) rfl ?_;try conv=>whnf)|(refine ⟨_, _, hC, ?_, ?_⟩;(focus first|(refine ⟨?_, trivial⟩<;>first|exact PLe.refl _|exact PLe.nil)|exact trivial);try conv=>whnf)|fail)
    · exact Int.natCast_nonneg _
    · have hb : badGM m g = true := by rw [hbad, ← e3]; exact h
      rw [grpM, hb]; exact .nil
    · have hb : badGM m g = false := by rw [hbad, ← e3]; exact h
      exact ⟨⟨(), hb⟩, (by refine Wk.of ?_ ?_ rfl rfl rfl<;>repeat' (first|exact trivial|exact WkD.same _|exact WkO.same _ _ rfl|refine ⟨?_, ?_⟩|fail))⟩
  rintro ⟨_, hb⟩
  have hg : ∃ k : Nat, g = (k : Int) ∧ k < 2 ^ 62 := by
    rw [hbad] at hb
    cases h1 : decide (g < 1) with
    | true => rw [h1] at hb; cases hb
    | false =>
      rw [h1] at hb
      have h3 := of_decide_eq_false h1
      have h4 := of_decide_eq_false (show decide (g ≥ shl64 1 (m.rel.length : Int)) = false from hb)
      rw [shl_n hag] at h4
      have h5 : 2 ^ m.rel.length ≤ 2 ^ 4 := Nat.pow_le_pow_right (by decide) hag
      exact ⟨g.toNat, by omega, by omega⟩
  obtain ⟨k, rfl, hk⟩ := hg
  obtain ⟨first, hfi⟩ : ∃ first : Nat, first = 0 := ⟨_, rfl⟩
  have hfl : first < 2 ^ 64 := by rw [hfi]; exact Nat.two_pow_pos 64
  have hR : rowPV (grpM orF m (k : Int) 0) = .sl ((List.range n).map fun e => u64 (joinA orF m.rel (k : Int) first e m.rel.length)) := by
    rw [grpM, hb, rowPV, hnn, ← hfi]
    show PV.sl (List.map u64 (List.map _ _)) = _
    rw [List.map_map]; rfl
  rw [hR]
  have hAll := rm_All n hn64
  try conv=>whnf
  refine ⟨{ e : Nat // e ≤ n }, fun e => [(1, .pv (i64 k)), (2, .pv (.bool false)), (3, .ref 0 0), (7, .buf 1 ((List.range e.1).map fun e => u64 (joinA orF m.rel (k : Int) first e m.rel.length)).length), (8, .pv (i64 e.1))], fun _ => 2, fun e => [(0, .var (cellsM m)), (1, .arr 1 ((List.range e.1).map fun e => u64 (joinA orF m.rel (k : Int) first e m.rel.length)))], fun e => n - e.1, ⟨⟨0, Nat.zero_le _⟩, (by refine Wk.of ?_ ?_ rfl rfl rfl<;>repeat' (first|exact trivial|exact WkD.same _|exact WkO.same _ _ rfl|exact WkD.new' rfl rfl rfl|exact WkO.new _ _ rfl|exact rfl|refine ⟨?_, ?_⟩|fail))⟩, ?_⟩
  rintro ⟨e, he⟩
  have hel : ((List.range e).map fun e => u64 (joinA orF m.rel (k : Int) first e m.rel.length)).length ≤ 64 := by simp; omega
  have hes : ((List.range e).map fun e => u64 (joinA orF m.rel (k : Int) first e m.rel.length)) ++ [u64 (joinA orF m.rel (k : Int) first e m.rel.length)] = (List.range (e + 1)).map fun e => u64 (joinA orF m.rel (k : Int) first e m.rel.length) := by rw [List.range_succ, List.map_append]; rfl
  (try conv=>whnf);repeat' (first|(apply And.intro<;>try conv=>whnf)|(intro h;try conv=>whnf)|(apply bleI;rfl)|fail)
  · have hi' : e < n := by rw [hnn] at h; exact lt_dec h
    refine ⟨Unit, fun _ => [(1, .pv (i64 k)), (2, .pv (.bool false)), (3, .ref 0 0), (7, .buf 1 ((List.range e).map fun e => u64 (joinA orF m.rel (k : Int) first e m.rel.length)).length), (8, .pv (i64 e)), (9, .pv (u64 first))], fun _ => 2, fun _ => [(0, .var (cellsM m)), (1, .arr 1 ((List.range e).map fun e => u64 (joinA orF m.rel (k : Int) first e m.rel.length)))], ?_, ?_⟩
    · have hAll2 : PureFn Tryz.prog 45 [.int .i64 m.n] (u64 (2 ^ n - 1)) := by rw [hnn]; exact hAll
      (try conv=>whnf);repeat' (first|(apply And.intro<;>try conv=>whnf)|(intro h;first|with_reducible exact ft0 h|try conv=>whnf)|fail)
      all_goals subst hfi
      all_goals exact ⟨(), (by refine Wk.of ?_ ?_ rfl rfl rfl<;>repeat' (first|exact trivial|exact WkD.same _|exact WkO.same _ _ rfl|refine ⟨?_, ?_⟩|fail))⟩
    rintro ⟨⟩
    try conv=>whnf
    refine ⟨{ i : Nat // i ≤ m.rel.length }, fun i => [(1, .pv (i64 k)), (2, .pv (.bool false)), (3, .ref 0 0), (7, .buf 1 ((List.range e).map fun e => u64 (joinA orF m.rel (k : Int) first e m.rel.length)).length), (8, .pv (i64 e)), (9, .pv (u64 (joinA orF m.rel (k : Int) first e i.1))), (10, .pv (i64 i.1))], fun _ => 2, fun _ => [(0, .var (cellsM m)), (1, .arr 1 ((List.range e).map fun e => u64 (joinA orF m.rel (k : Int) first e m.rel.length)))], fun i => m.rel.length - i.1, ⟨⟨0, Nat.zero_le _⟩, (by refine Wk.of ?_ ?_ rfl rfl rfl<;>repeat' (first|exact trivial|exact WkD.same _|exact WkO.same _ _ rfl|refine ⟨?_, ?_⟩|fail))⟩, ?_⟩
    rintro ⟨i, hi⟩
    refine ⟨{ _x : Unit // i < m.rel.length }, fun _ => [(1, .pv (i64 k)), (2, .pv (.bool false)), (3, .ref 0 0), (7, .buf 1 ((List.range e).map fun e => u64 (joinA orF m.rel (k : Int) first e m.rel.length)).length), (8, .pv (i64 e)), (9, .pv (u64 (joinA orF m.rel (k : Int) first e i))), (10, .pv (i64 i))], fun _ => 2, fun _ => [(0, .var (cellsM m)), (1, .arr 1 ((List.range e).map fun e => u64 (joinA orF m.rel (k : Int) first e m.rel.length)))], ?_, ?_⟩
    · (try conv=>whnf);repeat' (first|(apply And.intro<;>try conv=>whnf)|(intro h;try conv=>whnf)|(apply cellsI;rfl)|(apply szI;rfl)|fail)
      · exact ⟨⟨(), by simpa using lt_dec h⟩, (by refine Wk.of ?_ ?_ rfl rfl rfl<;>repeat' (first|exact trivial|exact WkD.same _|exact WkO.same _ _ rfl|refine ⟨?_, ?_⟩|fail))⟩
      · exact app_big (n := 64) hel (by decide)
      · have hi2 : i = m.rel.length := by
          have := ge_dec (m := (m.rel.map rowPV).length) h (by simpa using hi); simpa using this
        subst hi2
        refine ⟨⟨e + 1, hi'⟩, by show n - (e + 1) < n - e; omega, ?_⟩
        (refine Wk.of ?_ ?_ rfl rfl rfl<;>repeat' (first|exact trivial|exact WkD.same _|exact WkO.same _ _ rfl|exact WkD.eq (congrArg (fun z : List PV => DV.buf _ z.length) hes)|exact WkO.same _ _ (congrArg (fun z => some (DObj.arr _ z)) hes)|refine WkD.int ?_|refine ⟨?_, ?_⟩|(refine wrapA ?_ ?_ ?_;(focus simp;done);(focus (try dsimp only);omega);(focus (try dsimp only);omega))|fail))
    rintro ⟨_, hi2⟩
    obtain ⟨r, hn, hr⟩ : ∃ r, m.rel[i]? = some r ∧ m.rel.getD i [] = r := ⟨_, getD_mem hi2, rfl⟩
    have hrm : r ∈ m.rel := List.mem_iff_getElem?.2 ⟨i, hn⟩
    obtain ⟨x, hm, hx⟩ : ∃ x, r[e]? = some x ∧ r.getD e 0 = x := ⟨_, getD_mem (by rw [hM.rows r hrm]; exact hi'), rfl⟩
    have hxf : x < 2 ^ 64 := hM.fit.2 r hrm x (List.mem_iff_getElem?.2 ⟨e, hm⟩)
    have hjl : joinA orF m.rel (k : Int) first e i < 2 ^ 64 := joinA_lt (fun x y hx hy => Nat.or_lt_two_pow hx hy) hM.fit.2 hfl i
    have hjs : joinA orF m.rel (k : Int) first e (i + 1) = bif k.testBit i then orF (joinA orF m.rel (k : Int) first e i) x else joinA orF m.rel (k : Int) first e i := by
      rw [joinA, hr, hx, bit64_one hk (by omega)]
    have hbz : (Int.tmod (shr64 (k : Int) i) 2 == 1) = k.testBit i := by rw [bit64_rem (by omega)]; cases k.testBit i <;> rfl
    refine ⟨Unit, fun _ => [(1, .pv (i64 k)), (2, .pv (.bool false)), (3, .ref 0 0), (7, .buf 1 ((List.range e).map fun e => u64 (joinA orF m.rel (k : Int) first e m.rel.length)).length), (8, .pv (i64 e)), (9, .pv (u64 (joinA orF m.rel (k : Int) first e i))), (10, .pv (i64 i))], fun _ => 2, fun _ => [(0, .var (cellsM m)), (1, .arr 1 ((List.range e).map fun e => u64 (joinA orF m.rel (k : Int) first e m.rel.length)))], ?_, ?_⟩
    · (try conv=>whnf);repeat' (first|(apply And.intro<;>try conv=>whnf)|(intro h;first|exact litz h rfl|try conv=>whnf)|apply True.intro|(apply infoT;rfl)|(apply WhenQ.mk;(try conv=>whnf);rotate_left;(try conv=>whnf);rotate_right)|with_reducible assumption|(refine ⟨_, _, rfl, idx_map (by with_reducible assumption), rfl, ?_⟩;try conv=>whnf)|fail)
      · exact Int.natCast_nonneg _
      · exact absurd ((bif_ff _).symm.trans h) (by decide)
      · exact ⟨(), (by refine Wk.of ?_ ?_ rfl rfl rfl<;>repeat' (first|exact trivial|exact WkD.same _|exact WkO.same _ _ rfl|refine ⟨?_, ?_⟩|fail))⟩
    rintro ⟨⟩
    (try conv=>whnf);repeat' (first|(apply And.intro<;>try conv=>whnf)|(intro h;first|exact litz h rfl|try conv=>whnf)|apply True.intro|(apply infoT;rfl)|(apply WhenQ.mk;(try conv=>whnf);rotate_left;(try conv=>whnf);rotate_right)|with_reducible assumption|(refine ⟨_, _, rfl, idx_map (by with_reducible assumption), rfl, ?_⟩;try conv=>whnf)|fail)
    · exact Int.natCast_nonneg _
    · have h9 : (bif (Int.tmod (shr64 (k : Int) i) 2 == 1) then !false else false) = true := h
      rw [hbz] at h9
      have ht : k.testBit i = true := by cases q : k.testBit i <;> rw [q] at h9 <;> first | rfl | cases h9
      refine ⟨⟨i + 1, hi2⟩, by show m.rel.length - (i + 1) < m.rel.length - i; omega, ?_⟩
      (refine Wk.of ?_ ?_ rfl rfl rfl<;>repeat' (first|exact trivial|exact WkD.same _|exact WkO.same _ _ rfl|refine WkD.int ?_|refine ⟨?_, ?_⟩|(refine wrapA ?_ ?_ ?_;(focus simp;done);(focus (try dsimp only);omega);(focus (try dsimp only);omega))|fail))
      rw [hjs, ht, cond_true]
      exact orU_nat hjl hxf
    · have h9 : (bif (Int.tmod (shr64 (k : Int) i) 2 == 1) then !false else false) = false := h
      rw [hbz] at h9
      have ht : k.testBit i = false := by cases q : k.testBit i <;> rw [q] at h9 <;> first | rfl | cases h9
      refine ⟨⟨i + 1, hi2⟩, by show m.rel.length - (i + 1) < m.rel.length - i; omega, ?_⟩
      (refine Wk.of ?_ ?_ rfl rfl rfl<;>repeat' (first|exact trivial|exact WkD.same _|exact WkO.same _ _ rfl|refine WkD.int ?_|refine ⟨?_, ?_⟩|(refine wrapA ?_ ?_ ?_;(focus simp;done);(focus (try dsimp only);omega);(focus (try dsimp only);omega))|fail))
      rw [hjs, ht, cond_false]
  · have hi' : e = n := by rw [hnn] at h; exact ge_dec h he
    subst hi'
    exact .refl _
theorem rm_groupAnd (m : Mo) (n : Nat) (hM : OkM m n) (g : Int) : PureFn Tryz.prog 111 [m.pv, .int .i64 g, .bool true] (rowPV (grpM andF m g (2 ^ n - 1))) := by
  refine PureFn.introC [3, 10, 13, 15] mixed (fn := Tryz.f111) rfl rfl rfl fun M w0 => ?_
  have hC := rm_Check m hM.fit
  rw [ok_moI hM] at hC
  have e3 : ((m.rel.map rowPV).length : Int) = (m.rel.length : Int) := by simp
  have hag := hM.ag
  have hn64 := hM.n64
  have hnn := hM.nn
  have hbad : badGM m g = (bif decide (g < 1) then true else decide (g ≥ shl64 1 (m.rel.length : Int))) := by rw [badGM, ok_moI hM]; cases decide (g < 1) <;> rfl
  try conv=>whnf
  refine ⟨{ _x : Unit // badGM m g = false }, fun _ => [(1, .pv (.int .i64 g)), (2, .pv (.bool true)), (3, .ref 0 0)], fun _ => 1, fun _ => HM m, ?_, ?_⟩
  · (try conv=>whnf);repeat' (first|(apply And.intro<;>try conv=>whnf)|(intro h;try conv=>whnf)|apply True.intro|(apply WhenQ.mk;(try conv=>whnf);rotate_left;(try conv=>whnf);rotate_right)|with_reducible assumption|(apply not_of;with_reducible assumption)|(refine PureFn.dcq (f := 18) rfl ?_;try conv=>whnf)|(refine ⟨_, _, hC, ?_, ?_⟩;(focus first|(refine ⟨?_, trivial⟩<;>first|exact PLe.refl _|exact PLe.nil)|exact trivial);try conv=>whnf)|fail)
    · exact Int.natCast_nonneg _
    · have hb : badGM m g = true := by rw [hbad, ← e3]; exact h
      rw [grpM, hb]; exact .nil
    · have hb : badGM m g = false := by rw [hbad, ← e3]; exact h
      exact ⟨⟨(), hb⟩, (by refine Wk.of ?_ ?_ rfl rfl rfl<;>repeat' (first|exact trivial|exact WkD.same _|exact WkO.same _ _ rfl|refine ⟨?_, ?_⟩|fail))⟩
  rintro ⟨_, hb⟩
  have hg : ∃ k : Nat, g = (k : Int) ∧ k < 2 ^ 62 := by
    rw [hbad] at hb
    cases h1 : decide (g < 1) with
    | true => rw [h1] at hb; cases hb
    | false =>
      rw [h1] at hb
      have h3 := of_decide_eq_false h1
      have h4 := of_decide_eq_false (show decide (g ≥ shl64 1 (m.rel.length : Int)) = false from hb)
      rw [shl_n hag] at h4
      have h5 : 2 ^ m.rel.length ≤ 2 ^ 4 := Nat.pow_le_pow_right (by decide) hag
      exact ⟨g.toNat, by omega, by omega⟩
  obtain ⟨k, rfl, hk⟩ := hg
  obtain ⟨first, hfi⟩ : ∃ first : Nat, first = (2 ^ n - 1) := ⟨_, rfl⟩
  have hfl : first < 2 ^ 64 := by rw [hfi]; exact allN_lt hM.n64
  have hR : rowPV (grpM andF m (k : Int) (2 ^ n - 1)) = .sl ((List.range n).map fun e => u64 (joinA andF m.rel (k : Int) first e m.rel.length)) := by
    rw [grpM, hb, rowPV, hnn, ← hfi]
    show PV.sl (List.map u64 (List.map _ _)) = _
    rw [List.map_map]; rfl
  rw [hR]
  have hAll := rm_All n hn64
  try conv=>whnf
  refine ⟨{ e : Nat // e ≤ n }, fun e => [(1, .pv (i64 k)), (2, .pv (.bool true)), (3, .ref 0 0), (7, .buf 1 ((List.range e.1).map fun e => u64 (joinA andF m.rel (k : Int) first e m.rel.length)).length), (8, .pv (i64 e.1))], fun _ => 2, fun e => [(0, .var (cellsM m)), (1, .arr 1 ((List.range e.1).map fun e => u64 (joinA andF m.rel (k : Int) first e m.rel.length)))], fun e => n - e.1, ⟨⟨0, Nat.zero_le _⟩, (by refine Wk.of ?_ ?_ rfl rfl rfl<;>repeat' (first|exact trivial|exact WkD.same _|exact WkO.same _ _ rfl|exact WkD.new' rfl rfl rfl|exact WkO.new _ _ rfl|exact rfl|refine ⟨?_, ?_⟩|fail))⟩, ?_⟩
  rintro ⟨e, he⟩
  have hel : ((List.range e).map fun e => u64 (joinA andF m.rel (k : Int) first e m.rel.length)).length ≤ 64 := by simp; omega
  have hes : ((List.range e).map fun e => u64 (joinA andF m.rel (k : Int) first e m.rel.length)) ++ [u64 (joinA andF m.rel (k : Int) first e m.rel.length)] = (List.range (e + 1)).map fun e => u64 (joinA andF m.rel (k : Int) first e m.rel.length) := by rw [List.range_succ, List.map_append]; rfl
  (try conv=>whnf);repeat' (first|(apply And.intro<;>try conv=>whnf)|(intro h;try conv=>whnf)|(apply bleI;rfl)|fail)
  · have hi' : e < n := by rw [hnn] at h; exact lt_dec h
    refine ⟨Unit, fun _ => [(1, .pv (i64 k)), (2, .pv (.bool true)), (3, .ref 0 0), (7, .buf 1 ((List.range e).map fun e => u64 (joinA andF m.rel (k : Int) first e m.rel.length)).length), (8, .pv (i64 e)), (9, .pv (u64 first))], fun _ => 2, fun _ => [(0, .var (cellsM m)), (1, .arr 1 ((List.range e).map fun e => u64 (joinA andF m.rel (k : Int) first e m.rel.length)))], ?_, ?_⟩
    · have hAll2 : PureFn Tryz.prog 45 [.int .i64 m.n] (u64 (2 ^ n - 1)) := by rw [hnn]; exact hAll
      (try conv=>whnf);repeat' (first|(apply And.intro<;>try conv=>whnf)|(intro h;first|with_reducible exact tf0 h|try conv=>whnf)|(refine PureFn.dcq (f := 45) rfl ?_;try conv=>whnf)|(refine ⟨_, _, hAll2, ?_, ?_⟩;(focus first|(refine ⟨?_, trivial⟩<;>first|exact PLe.refl _|exact PLe.nil)|exact trivial);try conv=>whnf)|fail)
      all_goals subst hfi
      all_goals exact ⟨(), (by refine Wk.of ?_ ?_ rfl rfl rfl<;>repeat' (first|exact trivial|exact WkD.same _|exact WkO.same _ _ rfl|refine ⟨?_, ?_⟩|fail))⟩
    rintro ⟨⟩
    try conv=>whnf
    refine ⟨{ i : Nat // i ≤ m.rel.length }, fun i => [(1, .pv (i64 k)), (2, .pv (.bool true)), (3, .ref 0 0), (7, .buf 1 ((List.range e).map fun e => u64 (joinA andF m.rel (k : Int) first e m.rel.length)).length), (8, .pv (i64 e)), (9, .pv (u64 (joinA andF m.rel (k : Int) first e i.1))), (10, .pv (i64 i.1))], fun _ => 2, fun _ => [(0, .var (cellsM m)), (1, .arr 1 ((List.range e).map fun e => u64 (joinA andF m.rel (k : Int) first e m.rel.length)))], fun i => m.rel.length - i.1, ⟨⟨0, Nat.zero_le _⟩, (by refine Wk.of ?_ ?_ rfl rfl rfl<;>repeat' (first|exact trivial|exact WkD.same _|exact WkO.same _ _ rfl|refine ⟨?_, ?_⟩|fail))⟩, ?_⟩
    rintro ⟨i, hi⟩
    refine ⟨{ _x : Unit // i < m.rel.length }, fun _ => [(1, .pv (i64 k)), (2, .pv (.bool true)), (3, .ref 0 0), (7, .buf 1 ((List.range e).map fun e => u64 (joinA andF m.rel (k : Int) first e m.rel.length)).length), (8, .pv (i64 e)), (9, .pv (u64 (joinA andF m.rel (k : Int) first e i))), (10, .pv (i64 i))], fun _ => 2, fun _ => [(0, .var (cellsM m)), (1, .arr 1 ((List.range e).map fun e => u64 (joinA andF m.rel (k : Int) first e m.rel.length)))], ?_, ?_⟩
    · (try conv=>whnf);repeat' (first|(apply And.intro<;>try conv=>whnf)|(intro h;try conv=>whnf)|(apply cellsI;rfl)|(apply szI;rfl)|fail)
      · exact ⟨⟨(), by simpa using lt_dec h⟩, (by refine Wk.of ?_ ?_ rfl rfl rfl<;>repeat' (first|exact trivial|exact WkD.same _|exact WkO.same _ _ rfl|refine ⟨?_, ?_⟩|fail))⟩
      · exact app_big (n := 64) hel (by decide)
      · have hi2 : i = m.rel.length := by
          have := ge_dec (m := (m.rel.map rowPV).length) h (by simpa using hi); simpa using this
        subst hi2
        refine ⟨⟨e + 1, hi'⟩, by show n - (e + 1) < n - e; omega, ?_⟩
        (refine Wk.of ?_ ?_ rfl rfl rfl<;>repeat' (first|exact trivial|exact WkD.same _|exact WkO.same _ _ rfl|exact WkD.eq (congrArg (fun z : List PV => DV.buf _ z.length) hes)|exact WkO.same _ _ (congrArg (fun z => some (DObj.arr _ z)) hes)|refine WkD.int ?_|refine ⟨?_, ?_⟩|(refine wrapA ?_ ?_ ?_;(focus simp;done);(focus (try dsimp only);omega);(focus (try dsimp only);omega))|fail))
    rintro ⟨_, hi2⟩
    obtain ⟨r, hn, hr⟩ : ∃ r, m.rel[i]? = some r ∧ m.rel.getD i [] = r := ⟨_, getD_mem hi2, rfl⟩
    have hrm : r ∈ m.rel := List.mem_iff_getElem?.2 ⟨i, hn⟩
    obtain ⟨x, hm, hx⟩ : ∃ x, r[e]? = some x ∧ r.getD e 0 = x := ⟨_, getD_mem (by rw [hM.rows r hrm]; exact hi'), rfl⟩
    have hxf : x < 2 ^ 64 := hM.fit.2 r hrm x (List.mem_iff_getElem?.2 ⟨e, hm⟩)
    have hjl : joinA andF m.rel (k : Int) first e i < 2 ^ 64 := joinA_lt (fun x y hx _ => Nat.lt_of_le_of_lt Nat.and_le_left hx) hM.fit.2 hfl i
    have hjs : joinA andF m.rel (k : Int) first e (i + 1) = bif k.testBit i then andF (joinA andF m.rel (k : Int) first e i) x else joinA andF m.rel (k : Int) first e i := by
      rw [joinA, hr, hx, bit64_one hk (by omega)]
    have hbz : (Int.tmod (shr64 (k : Int) i) 2 == 1) = k.testBit i := by rw [bit64_rem (by omega)]; cases k.testBit i <;> rfl
    refine ⟨Unit, fun _ => [(1, .pv (i64 k)), (2, .pv (.bool true)), (3, .ref 0 0), (7, .buf 1 ((List.range e).map fun e => u64 (joinA andF m.rel (k : Int) first e m.rel.length)).length), (8, .pv (i64 e)), (9, .pv (u64 (joinA andF m.rel (k : Int) first e (i + 1)))), (10, .pv (i64 i))], fun _ => 2, fun _ => [(0, .var (cellsM m)), (1, .arr 1 ((List.range e).map fun e => u64 (joinA andF m.rel (k : Int) first e m.rel.length)))], ?_, ?_⟩
    · (try conv=>whnf);repeat' (first|(apply And.intro<;>try conv=>whnf)|(intro h;first|exact litz h rfl|try conv=>whnf)|apply True.intro|(apply infoT;rfl)|(apply WhenQ.mk;(try conv=>whnf);rotate_left;(try conv=>whnf);rotate_right)|with_reducible assumption|(refine ⟨_, _, rfl, idx_map (by with_reducible assumption), rfl, ?_⟩;try conv=>whnf)|fail)
      · exact Int.natCast_nonneg _
      · have h9 : (bif (Int.tmod (shr64 (k : Int) i) 2 == 1) then true else false) = true := h
        rw [hbz] at h9
        have ht : k.testBit i = true := by cases q : k.testBit i <;> rw [q] at h9 <;> first | rfl | cases h9
        refine ⟨(), ?_⟩
        (refine Wk.of ?_ ?_ rfl rfl rfl<;>repeat' (first|exact trivial|exact WkD.same _|exact WkO.same _ _ rfl|refine WkD.int ?_|refine ⟨?_, ?_⟩|fail))
        rw [hjs, ht, cond_true]
        exact andU_nat hjl hxf
      · have h9 : (bif (Int.tmod (shr64 (k : Int) i) 2 == 1) then true else false) = false := h
        rw [hbz] at h9
        have ht : k.testBit i = false := by cases q : k.testBit i <;> rw [q] at h9 <;> first | rfl | cases h9
        refine ⟨(), ?_⟩
        (refine Wk.of ?_ ?_ rfl rfl rfl<;>repeat' (first|exact trivial|exact WkD.same _|exact WkO.same _ _ rfl|refine WkD.int ?_|refine ⟨?_, ?_⟩|fail))
        rw [hjs, ht, cond_false]
    rintro ⟨⟩
    (try conv=>whnf);repeat' (first|(apply And.intro<;>try conv=>whnf)|(intro h;first|exact litz h rfl|try conv=>whnf)|apply True.intro|(apply infoT;rfl)|(apply WhenQ.mk;(try conv=>whnf);rotate_left;(try conv=>whnf);rotate_right)|with_reducible assumption|(refine ⟨_, _, rfl, idx_map (by with_reducible assumption), rfl, ?_⟩;try conv=>whnf)|fail)
    · exact Int.natCast_nonneg _
    · exact absurd ((bif_ff _).symm.trans h) (by decide)
    · exact ⟨⟨i + 1, hi2⟩, by show m.rel.length - (i + 1) < m.rel.length - i; omega, (by refine Wk.of ?_ ?_ rfl rfl rfl<;>repeat' (first|exact trivial|exact WkD.same _|exact WkO.same _ _ rfl|refine WkD.int ?_|refine ⟨?_, ?_⟩|(refine wrapA ?_ ?_ ?_;(focus simp;done);(focus (try dsimp only);omega);(focus (try dsimp only);omega))|fail))⟩
  · have hi' : e = n := by rw [hnn] at h; exact ge_dec h he
    subst hi'
    exact .refl _
theorem rm_Group (m : Mo) (n : Nat) (hM : OkM m n) (g : Int) : PureFn Tryz.prog 101 [m.pv, .int .i64 g] (rowPV (grpM orF m g 0)) := by
  refine PureFn.intro mixed (fn := Tryz.f101) rfl rfl rfl fun M w0 => ?_
  have hG := rm_groupOr m n hM g
  generalize grpM orF m g 0 = G at hG
  (try conv=>whnf);repeat' (first|(refine PureFn.dcq (f := 111) rfl ?_;try conv=>whnf)|(refine ⟨_, _, hG, ?_, ?_⟩;(focus first|(refine ⟨?_, ?_, ?_, trivial⟩<;>first|exact PLe.refl _|exact PLe.nil)|exact trivial);try conv=>whnf)|fail)
  exact .refl _
theorem rm_Meet (m : Mo) (n : Nat) (hM : OkM m n) (g : Int) : PureFn Tryz.prog 102 [m.pv, .int .i64 g] (rowPV (grpM andF m g (2 ^ n - 1))) := by
  refine PureFn.intro mixed (fn := Tryz.f102) rfl rfl rfl fun M w0 => ?_
  have hG := rm_groupAnd m n hM g
  generalize grpM andF m g (2 ^ n - 1) = G at hG
  (try conv=>whnf);repeat' (first|(refine PureFn.dcq (f := 111) rfl ?_;try conv=>whnf)|(refine ⟨_, _, hG, ?_, ?_⟩;(focus first|(refine ⟨?_, ?_, ?_, trivial⟩<;>first|exact PLe.refl _|exact PLe.nil)|exact trivial);try conv=>whnf)|fail)
  exact .refl _
end Go.Proofs.YtkjjoalphllolaaGreat
set_option maxRecDepth 100000
set_option maxHeartbeats 4000000
namespace Go.Proofs.YtkjjoalphllolaaGreat
open Go Go.Dv

theorem le_u64 {v : Int} {q : Nat} (h : v = (q : Int)) : PLe (.int .u64 v) (u64 q) := by subst h; exact .refl _
def booN (n : Nat) (op : Int) (x y : Nat) : Nat :=
  bif op == 1 then 2 ^ n - 1 else bif op == 4 then notN n x else bif op == 5 then x &&& y else bif op == 6 then x ||| y else bif op == 7 then notN n x ||| y else bif op == 8 then notN n (x ^^^ y) else 0
theorem rc_Boolean (n : Nat) (op : Int) (a b : Nat) (hn : n ≤ 64) (ha : a < 2 ^ n) (hb : b < 2 ^ n) : PureFn Tryz.prog 99 [.int .i64 op, u64 a, u64 b, u64 (2 ^ n - 1)] (u64 (booN n op a b)) := by
  refine PureFn.intro mixed (fn := Tryz.f99) rfl rfl rfl fun M w0 => ?_
  have h64 := pow64_le hn
  have ha64 : a < 2 ^ 64 := by omega
  have hb64 : b < 2 ^ 64 := by omega
  unfold booN
  cases f1 : (op == 1) with
  | true =>
    (try conv=>whnf);repeat' (first|(apply And.intro<;>try conv=>whnf)|(intro h;first|with_reducible exact tf (by assumption) h|try conv=>whnf)|fail)
    exact .refl _
  | false =>
  cases f4 : (op == 4) with
  | true =>
    (try conv=>whnf);repeat' (first|(apply And.intro<;>try conv=>whnf)|(intro h;first|with_reducible exact tf h (by assumption)|with_reducible exact tf (by assumption) h|try conv=>whnf)|fail)
    exact le_u64 (andNotU_all hn)
  | false =>
  cases f5 : (op == 5) with
  | true =>
    (try conv=>whnf);repeat' (first|(apply And.intro<;>try conv=>whnf)|(intro h;first|with_reducible exact tf h (by assumption)|with_reducible exact tf (by assumption) h|try conv=>whnf)|fail)
    exact le_u64 (andU_nat ha64 hb64)
  | false =>
  cases f6 : (op == 6) with
  | true =>
    (try conv=>whnf);repeat' (first|(apply And.intro<;>try conv=>whnf)|(intro h;first|with_reducible exact tf h (by assumption)|with_reducible exact tf (by assumption) h|try conv=>whnf)|fail)
    exact le_u64 (orU_nat ha64 hb64)
  | false =>
  cases f7 : (op == 7) with
  | true =>
    (try conv=>whnf);repeat' (first|(apply And.intro<;>try conv=>whnf)|(intro h;first|with_reducible exact tf h (by assumption)|with_reducible exact tf (by assumption) h|try conv=>whnf)|fail)
    refine le_u64 ?_
    show orU (andNotU ((2 ^ n - 1 : Nat) : Int) (a : Nat)) (b : Nat) = _
    rw [andNotU_all hn]
    exact orU_nat (Nat.lt_of_lt_of_le (notN_lt n a) h64) hb64
  | false =>
  cases f8 : (op == 8) with
  | true =>
    (try conv=>whnf);repeat' (first|(apply And.intro<;>try conv=>whnf)|(intro h;first|with_reducible exact tf h (by assumption)|with_reducible exact tf (by assumption) h|try conv=>whnf)|fail)
    refine le_u64 ?_
    show andNotU ((2 ^ n - 1 : Nat) : Int) (xorU (a : Nat) (b : Nat)) = _
    rw [xorU_nat ha64 hb64]
    exact andNotU_all hn
  | false =>
    (try conv=>whnf);repeat' (first|(apply And.intro<;>try conv=>whnf)|(intro h;first|with_reducible exact tf h (by assumption)|try conv=>whnf)|fail)
    exact .refl _
def cellsNd (op i e g x y : Int) : List DV := [.pv (.int .i64 op), .pv (.int .i64 i), .pv (.int .i64 e), .pv (.int .i64 g), .pv (.int .i64 x), .pv (.int .i64 y)]
theorem rc_One (m : Mo) (n : Nat) (hM : OkM m n) (x : Nd) (k : Int) (hk : OkNd x k) (hq : fitQ m x.op x.i x.e x.g = true) (a b : Nat) (ha : a < 2 ^ n) (hb : b < 2 ^ n) : PureFn Tryz.prog 80 [m.pv, x.pv, u64 a, u64 b] (u64 (vlN m n x.op x.i x.g a b)) := by
  obtain ⟨op, i, e, g, xx, yy⟩ := x
  refine PureFn.introC [2] mixed (fn := Tryz.f80) rfl rfl rfl fun M w0 => ?_
  have hn1 := hM.n1
  have hn := hM.n64
  have h64 := pow64_le hn
  have hag := hM.ag
  have ha64 : a < 2 ^ 64 := by omega
  have hb64 : b < 2 ^ 64 := by omega
  have hmn := hM.nn
  have hAll := rm_All n hn
  rw [show i64 n = .int .i64 m.n by rw [hmn]; rfl] at hAll
  have hBo := rc_Boolean n op a b hn ha hb
  try conv=>whnf
  refine ⟨Unit, fun _ => [(2, .pv (u64 a)), (3, .pv (u64 b)), (4, .ref 0 0), (5, .ref 1 0), (9, .pv (u64 (2 ^ n - 1)))], fun _ => 2, fun _ => [(0, .var (cellsM m)), (1, .var (cellsNd op i e g xx yy))], ?_, ?_⟩
  · (try conv=>whnf);repeat' (first|(refine PureFn.dcq (f := 45) rfl ?_;try conv=>whnf)|(refine ⟨_, _, hAll, ?_, ?_⟩;(focus first|(refine ⟨?_, trivial⟩<;>first|exact PLe.refl _|exact PLe.nil)|exact trivial);try conv=>whnf)|fail)
    exact ⟨(), (by refine Wk.of ?_ ?_ rfl rfl rfl<;>repeat' (first|exact trivial|exact WkD.same _|exact WkO.same _ _ rfl|refine ⟨?_, ?_⟩|fail))⟩
  rintro ⟨⟩
  have hop : op = 1 ∨ op = 2 ∨ op = 3 ∨ op = 4 ∨ op = 5 ∨ op = 6 ∨ op = 7 ∨ op = 8 ∨ op = 9 ∨ op = 10 ∨ op = 11 ∨ op = 12 ∨ op = 13 := by have := hk.op.1; have := fitQ_13 hq; simp only at *; omega
  rcases hop with rfl | rfl | rfl | rfl | rfl | rfl | rfl | rfl | rfl | rfl | rfl | rfl | rfl
  · skip
    have f1 : ((1 : Int) == 1) = true := rfl
    have f2 : ((1 : Int) == 2) = false := rfl
    have f3 : ((1 : Int) == 3) = false := rfl
    have f4 : ((1 : Int) == 4) = false := rfl
    have f5 : ((1 : Int) == 5) = false := rfl
    have f6 : ((1 : Int) == 6) = false := rfl
    have f7 : ((1 : Int) == 7) = false := rfl
    have f8 : ((1 : Int) == 8) = false := rfl
    have f9 : ((1 : Int) == 9) = false := rfl
    have f10 : ((1 : Int) == 10) = false := rfl
    have f11 : ((1 : Int) == 11) = false := rfl
    have f12 : ((1 : Int) == 12) = false := rfl
    have f13 : ((1 : Int) == 13) = false := rfl
    have fle : decide ((1 : Int) ≤ 8) = true := rfl
    (try conv=>whnf);repeat' (first|(apply And.intro<;>try conv=>whnf)|(intro h;first|with_reducible exact tf h (by assumption)|with_reducible exact tf (by assumption) h|try conv=>whnf)|(refine PureFn.dcq (f := 99) rfl ?_;try conv=>whnf)|(refine ⟨_, _, hBo, ?_, ?_⟩;(focus first|(refine ⟨?_, ?_, ?_, ?_, trivial⟩<;>first|exact PLe.refl _|exact PLe.nil)|exact trivial);try conv=>whnf)|fail)
    exact .refl _
  · skip
    have f1 : ((2 : Int) == 1) = false := rfl
    have f2 : ((2 : Int) == 2) = true := rfl
    have f3 : ((2 : Int) == 3) = false := rfl
    have f4 : ((2 : Int) == 4) = false := rfl
    have f5 : ((2 : Int) == 5) = false := rfl
    have f6 : ((2 : Int) == 6) = false := rfl
    have f7 : ((2 : Int) == 7) = false := rfl
    have f8 : ((2 : Int) == 8) = false := rfl
    have f9 : ((2 : Int) == 9) = false := rfl
    have f10 : ((2 : Int) == 10) = false := rfl
    have f11 : ((2 : Int) == 11) = false := rfl
    have f12 : ((2 : Int) == 12) = false := rfl
    have f13 : ((2 : Int) == 13) = false := rfl
    have fle : decide ((2 : Int) ≤ 8) = true := rfl
    (try conv=>whnf);repeat' (first|(apply And.intro<;>try conv=>whnf)|(intro h;first|with_reducible exact tf h (by assumption)|with_reducible exact tf (by assumption) h|try conv=>whnf)|(refine PureFn.dcq (f := 99) rfl ?_;try conv=>whnf)|(refine ⟨_, _, hBo, ?_, ?_⟩;(focus first|(refine ⟨?_, ?_, ?_, ?_, trivial⟩<;>first|exact PLe.refl _|exact PLe.nil)|exact trivial);try conv=>whnf)|fail)
    exact .refl _
  · skip
    have f1 : ((3 : Int) == 1) = false := rfl
    have f2 : ((3 : Int) == 2) = false := rfl
    have f3 : ((3 : Int) == 3) = true := rfl
    have f4 : ((3 : Int) == 4) = false := rfl
    have f5 : ((3 : Int) == 5) = false := rfl
    have f6 : ((3 : Int) == 6) = false := rfl
    have f7 : ((3 : Int) == 7) = false := rfl
    have f8 : ((3 : Int) == 8) = false := rfl
    have f9 : ((3 : Int) == 9) = false := rfl
    have f10 : ((3 : Int) == 10) = false := rfl
    have f11 : ((3 : Int) == 11) = false := rfl
    have f12 : ((3 : Int) == 12) = false := rfl
    have f13 : ((3 : Int) == 13) = false := rfl
    have fle : decide ((3 : Int) ≤ 8) = true := rfl
    have hi := (hk.fact rfl).1
    simp only at hi
    obtain ⟨j, rfl⟩ : ∃ j : Nat, i = j := ⟨i.toNat, by omega⟩
    have h9 : decide ((j : Int) ≥ (m.val.length : Int)) = false := by
      have h : (!decide ((j : Int) ≥ (m.val.length : Int))) = true := hq
      simpa using h
    have h8 := of_decide_eq_false h9
    have hm : m.val[j]? = some (m.val.getD j 0) := getD_mem (by omega)
    (try conv=>whnf);repeat' (first|(apply And.intro<;>try conv=>whnf)|(intro h;first|with_reducible exact tf (by assumption) h|try conv=>whnf)|(apply infoT;rfl)|(refine ⟨_, _, rfl, idx_map (by with_reducible assumption), rfl, ?_⟩;try conv=>whnf)|fail)
    exact .refl _
  · skip
    have f1 : ((4 : Int) == 1) = false := rfl
    have f2 : ((4 : Int) == 2) = false := rfl
    have f3 : ((4 : Int) == 3) = false := rfl
    have f4 : ((4 : Int) == 4) = true := rfl
    have f5 : ((4 : Int) == 5) = false := rfl
    have f6 : ((4 : Int) == 6) = false := rfl
    have f7 : ((4 : Int) == 7) = false := rfl
    have f8 : ((4 : Int) == 8) = false := rfl
    have f9 : ((4 : Int) == 9) = false := rfl
    have f10 : ((4 : Int) == 10) = false := rfl
    have f11 : ((4 : Int) == 11) = false := rfl
    have f12 : ((4 : Int) == 12) = false := rfl
    have f13 : ((4 : Int) == 13) = false := rfl
    have fle : decide ((4 : Int) ≤ 8) = true := rfl
    (try conv=>whnf);repeat' (first|(apply And.intro<;>try conv=>whnf)|(intro h;first|with_reducible exact tf h (by assumption)|with_reducible exact tf (by assumption) h|try conv=>whnf)|(refine PureFn.dcq (f := 99) rfl ?_;try conv=>whnf)|(refine ⟨_, _, hBo, ?_, ?_⟩;(focus first|(refine ⟨?_, ?_, ?_, ?_, trivial⟩<;>first|exact PLe.refl _|exact PLe.nil)|exact trivial);try conv=>whnf)|fail)
    exact .refl _
  · skip
    have f1 : ((5 : Int) == 1) = false := rfl
    have f2 : ((5 : Int) == 2) = false := rfl
    have f3 : ((5 : Int) == 3) = false := rfl
    have f4 : ((5 : Int) == 4) = false := rfl
    have f5 : ((5 : Int) == 5) = true := rfl
    have f6 : ((5 : Int) == 6) = false := rfl
    have f7 : ((5 : Int) == 7) = false := rfl
    have f8 : ((5 : Int) == 8) = false := rfl
    have f9 : ((5 : Int) == 9) = false := rfl
    have f10 : ((5 : Int) == 10) = false := rfl
    have f11 : ((5 : Int) == 11) = false := rfl
    have f12 : ((5 : Int) == 12) = false := rfl
    have f13 : ((5 : Int) == 13) = false := rfl
    have fle : decide ((5 : Int) ≤ 8) = true := rfl
    (try conv=>whnf);repeat' (first|(apply And.intro<;>try conv=>whnf)|(intro h;first|with_reducible exact tf h (by assumption)|with_reducible exact tf (by assumption) h|try conv=>whnf)|(refine PureFn.dcq (f := 99) rfl ?_;try conv=>whnf)|(refine ⟨_, _, hBo, ?_, ?_⟩;(focus first|(refine ⟨?_, ?_, ?_, ?_, trivial⟩<;>first|exact PLe.refl _|exact PLe.nil)|exact trivial);try conv=>whnf)|fail)
    exact .refl _
  · skip
    have f1 : ((6 : Int) == 1) = false := rfl
    have f2 : ((6 : Int) == 2) = false := rfl
    have f3 : ((6 : Int) == 3) = false := rfl
    have f4 : ((6 : Int) == 4) = false := rfl
    have f5 : ((6 : Int) == 5) = false := rfl
    have f6 : ((6 : Int) == 6) = true := rfl
    have f7 : ((6 : Int) == 7) = false := rfl
    have f8 : ((6 : Int) == 8) = false := rfl
    have f9 : ((6 : Int) == 9) = false := rfl
    have f10 : ((6 : Int) == 10) = false := rfl
    have f11 : ((6 : Int) == 11) = false := rfl
    have f12 : ((6 : Int) == 12) = false := rfl
    have f13 : ((6 : Int) == 13) = false := rfl
    have fle : decide ((6 : Int) ≤ 8) = true := rfl
    (try conv=>whnf);repeat' (first|(apply And.intro<;>try conv=>whnf)|(intro h;first|with_reducible exact tf h (by assumption)|with_reducible exact tf (by assumption) h|try conv=>whnf)|(refine PureFn.dcq (f := 99) rfl ?_;try conv=>whnf)|(refine ⟨_, _, hBo, ?_, ?_⟩;(focus first|(refine ⟨?_, ?_, ?_, ?_, trivial⟩<;>first|exact PLe.refl _|exact PLe.nil)|exact trivial);try conv=>whnf)|fail)
    exact .refl _
  · skip
    have f1 : ((7 : Int) == 1) = false := rfl
    have f2 : ((7 : Int) == 2) = false := rfl
    have f3 : ((7 : Int) == 3) = false := rfl
    have f4 : ((7 : Int) == 4) = false := rfl
    have f5 : ((7 : Int) == 5) = false := rfl
    have f6 : ((7 : Int) == 6) = false := rfl
    have f7 : ((7 : Int) == 7) = true := rfl
    have f8 : ((7 : Int) == 8) = false := rfl
    have f9 : ((7 : Int) == 9) = false := rfl
    have f10 : ((7 : Int) == 10) = false := rfl
    have f11 : ((7 : Int) == 11) = false := rfl
    have f12 : ((7 : Int) == 12) = false := rfl
    have f13 : ((7 : Int) == 13) = false := rfl
    have fle : decide ((7 : Int) ≤ 8) = true := rfl
    (try conv=>whnf);repeat' (first|(apply And.intro<;>try conv=>whnf)|(intro h;first|with_reducible exact tf h (by assumption)|with_reducible exact tf (by assumption) h|try conv=>whnf)|(refine PureFn.dcq (f := 99) rfl ?_;try conv=>whnf)|(refine ⟨_, _, hBo, ?_, ?_⟩;(focus first|(refine ⟨?_, ?_, ?_, ?_, trivial⟩<;>first|exact PLe.refl _|exact PLe.nil)|exact trivial);try conv=>whnf)|fail)
    exact .refl _
  · skip
    have f1 : ((8 : Int) == 1) = false := rfl
    have f2 : ((8 : Int) == 2) = false := rfl
    have f3 : ((8 : Int) == 3) = false := rfl
    have f4 : ((8 : Int) == 4) = false := rfl
    have f5 : ((8 : Int) == 5) = false := rfl
    have f6 : ((8 : Int) == 6) = false := rfl
    have f7 : ((8 : Int) == 7) = false := rfl
    have f8 : ((8 : Int) == 8) = true := rfl
    have f9 : ((8 : Int) == 9) = false := rfl
    have f10 : ((8 : Int) == 10) = false := rfl
    have f11 : ((8 : Int) == 11) = false := rfl
    have f12 : ((8 : Int) == 12) = false := rfl
    have f13 : ((8 : Int) == 13) = false := rfl
    have fle : decide ((8 : Int) ≤ 8) = true := rfl
    (try conv=>whnf);repeat' (first|(apply And.intro<;>try conv=>whnf)|(intro h;first|with_reducible exact tf h (by assumption)|with_reducible exact tf (by assumption) h|try conv=>whnf)|(refine PureFn.dcq (f := 99) rfl ?_;try conv=>whnf)|(refine ⟨_, _, hBo, ?_, ?_⟩;(focus first|(refine ⟨?_, ?_, ?_, ?_, trivial⟩<;>first|exact PLe.refl _|exact PLe.nil)|exact trivial);try conv=>whnf)|fail)
    exact .refl _
  · skip
    have f1 : ((9 : Int) == 1) = false := rfl
    have f2 : ((9 : Int) == 2) = false := rfl
    have f3 : ((9 : Int) == 3) = false := rfl
    have f4 : ((9 : Int) == 4) = false := rfl
    have f5 : ((9 : Int) == 5) = false := rfl
    have f6 : ((9 : Int) == 6) = false := rfl
    have f7 : ((9 : Int) == 7) = false := rfl
    have f8 : ((9 : Int) == 8) = false := rfl
    have f9 : ((9 : Int) == 9) = true := rfl
    have f10 : ((9 : Int) == 10) = false := rfl
    have f11 : ((9 : Int) == 11) = false := rfl
    have f12 : ((9 : Int) == 12) = false := rfl
    have f13 : ((9 : Int) == 13) = false := rfl
    have fle : decide ((9 : Int) ≤ 8) = false := rfl
    have hi := (hk.agent rfl).1
    simp only at hi
    obtain ⟨j, rfl⟩ : ∃ j : Nat, i = j := ⟨i.toNat, by omega⟩
    have h9 : decide ((j : Int) ≥ (m.rel.length : Int)) = false := by
      have h : (!decide ((j : Int) ≥ (m.rel.length : Int))) = true := hq
      simpa using h
    have h8 := of_decide_eq_false h9
    have hm : m.rel[j]? = some (m.rel.getD j []) := getD_mem (by omega)
    have hrm := List.mem_iff_getElem?.2 ⟨j, hm⟩
    have hB := rc_Box n (m.rel.getD j []) a hn (hM.rows _ hrm) (hM.fit.2 _ hrm)
    rw [show i64 n = .int .i64 m.n by rw [hmn]; rfl] at hB
    (try conv=>whnf);repeat' (first|(apply And.intro<;>try conv=>whnf)|(intro h;first|with_reducible exact tf h (by assumption)|with_reducible exact tf (by assumption) h|try conv=>whnf)|(apply infoT;rfl)|(refine lin_plan (by kernel_rfl) ?_;try conv=>whnf)|(refine ⟨_, _, rfl, idx_map (by with_reducible assumption), rfl, ?_⟩;try conv=>whnf)|(refine ⟨_, (by (conv=>whnf);exact hB), rfl, ?_⟩;try conv=>whnf)|fail)
    exact .refl _
  · skip
    have f1 : ((10 : Int) == 1) = false := rfl
    have f2 : ((10 : Int) == 2) = false := rfl
    have f3 : ((10 : Int) == 3) = false := rfl
    have f4 : ((10 : Int) == 4) = false := rfl
    have f5 : ((10 : Int) == 5) = false := rfl
    have f6 : ((10 : Int) == 6) = false := rfl
    have f7 : ((10 : Int) == 7) = false := rfl
    have f8 : ((10 : Int) == 8) = false := rfl
    have f9 : ((10 : Int) == 9) = false := rfl
    have f10 : ((10 : Int) == 10) = true := rfl
    have f11 : ((10 : Int) == 11) = false := rfl
    have f12 : ((10 : Int) == 12) = false := rfl
    have f13 : ((10 : Int) == 13) = false := rfl
    have fle : decide ((10 : Int) ≤ 8) = false := rfl
    have hi := (hk.agent rfl).1
    simp only at hi
    obtain ⟨j, rfl⟩ : ∃ j : Nat, i = j := ⟨i.toNat, by omega⟩
    have h9 : decide ((j : Int) ≥ (m.rel.length : Int)) = false := by
      have h : (!decide ((j : Int) ≥ (m.rel.length : Int))) = true := hq
      simpa using h
    have h8 := of_decide_eq_false h9
    have hm : m.rel[j]? = some (m.rel.getD j []) := getD_mem (by omega)
    have hrm := List.mem_iff_getElem?.2 ⟨j, hm⟩
    have hB := rc_Box n (m.rel.getD j []) (notN n a) hn (hM.rows _ hrm) (hM.fit.2 _ hrm)
    rw [show i64 n = .int .i64 m.n by rw [hmn]; rfl, show u64 (notN n a) = .int .u64 (andNotU ((2 ^ n - 1 : Nat) : Int) (a : Nat)) by rw [andNotU_all hn]; rfl] at hB
    (try conv=>whnf);repeat' (first|(apply And.intro<;>try conv=>whnf)|(intro h;first|with_reducible exact tf h (by assumption)|with_reducible exact tf (by assumption) h|try conv=>whnf)|(apply infoT;rfl)|(refine lin_plan (by kernel_rfl) ?_;try conv=>whnf)|(refine ⟨_, _, rfl, idx_map (by with_reducible assumption), rfl, ?_⟩;try conv=>whnf)|(refine ⟨_, (by (conv=>whnf);exact hB), rfl, ?_⟩;try conv=>whnf)|fail)
    exact le_u64 (andNotU_all hn)
  · skip
    have f1 : ((11 : Int) == 1) = false := rfl
    have f2 : ((11 : Int) == 2) = false := rfl
    have f3 : ((11 : Int) == 3) = false := rfl
    have f4 : ((11 : Int) == 4) = false := rfl
    have f5 : ((11 : Int) == 5) = false := rfl
    have f6 : ((11 : Int) == 6) = false := rfl
    have f7 : ((11 : Int) == 7) = false := rfl
    have f8 : ((11 : Int) == 8) = false := rfl
    have f9 : ((11 : Int) == 9) = false := rfl
    have f10 : ((11 : Int) == 10) = false := rfl
    have f11 : ((11 : Int) == 11) = true := rfl
    have f12 : ((11 : Int) == 12) = false := rfl
    have f13 : ((11 : Int) == 13) = false := rfl
    have fle : decide ((11 : Int) ≤ 8) = false := rfl
    have hg1 := (hk.group rfl).1
    simp only at hg1
    have h9 : decide (g ≥ shl64 1 (m.rel.length : Int)) = false := by
      have h : (!decide (g ≥ shl64 1 (m.rel.length : Int))) = true := hq
      simpa using h
    have h8 := of_decide_eq_false h9
    have hG := rm_Group m n hM g
    obtain ⟨hgl, hgb⟩ := grp_facts (op := orF) (first := 0) hM (fun _ _ hx hy => Nat.or_lt_two_pow hx hy) (Nat.two_pow_pos n) hg1 (by omega)
    have hv : vlN m n 11 i g a b = boxN n (grpM orF m g 0) a := rfl
    rw [hv]
    clear hv
    generalize grpM orF m g 0 = G at hG hgl hgb ⊢
    have hB := rc_Box n G a hn hgl (fun s hs => Nat.lt_of_lt_of_le (hgb s hs) h64)
    rw [show i64 n = .int .i64 m.n by rw [hmn]; rfl] at hB
    (try conv=>whnf);repeat' (first|(apply And.intro<;>try conv=>whnf)|(intro h;first|with_reducible exact tf h (by assumption)|with_reducible exact tf (by assumption) h|try conv=>whnf)|(refine lin_plan (by kernel_rfl) ?_;try conv=>whnf)|(refine ⟨_, (by (conv=>whnf);exact hG), rfl, ?_⟩;try conv=>whnf)|(refine ⟨_, (by (conv=>whnf);exact hB), rfl, ?_⟩;try conv=>whnf)|fail)
    exact .refl _
  · skip
    have f1 : ((12 : Int) == 1) = false := rfl
    have f2 : ((12 : Int) == 2) = false := rfl
    have f3 : ((12 : Int) == 3) = false := rfl
    have f4 : ((12 : Int) == 4) = false := rfl
    have f5 : ((12 : Int) == 5) = false := rfl
    have f6 : ((12 : Int) == 6) = false := rfl
    have f7 : ((12 : Int) == 7) = false := rfl
    have f8 : ((12 : Int) == 8) = false := rfl
    have f9 : ((12 : Int) == 9) = false := rfl
    have f10 : ((12 : Int) == 10) = false := rfl
    have f11 : ((12 : Int) == 11) = false := rfl
    have f12 : ((12 : Int) == 12) = true := rfl
    have f13 : ((12 : Int) == 13) = false := rfl
    have fle : decide ((12 : Int) ≤ 8) = false := rfl
    have hg1 := (hk.group rfl).1
    simp only at hg1
    have h9 : decide (g ≥ shl64 1 (m.rel.length : Int)) = false := by
      have h : (!decide (g ≥ shl64 1 (m.rel.length : Int))) = true := hq
      simpa using h
    have h8 := of_decide_eq_false h9
    have hG := rm_Meet m n hM g
    obtain ⟨hgl, hgb⟩ := grp_facts (op := andF) (first := (2 ^ n - 1)) hM (fun _ _ hx _ => Nat.lt_of_le_of_lt Nat.and_le_left hx) (by have := Nat.two_pow_pos n; omega) hg1 (by omega)
    have hv : vlN m n 12 i g a b = boxN n (grpM andF m g (2 ^ n - 1)) a := rfl
    rw [hv]
    clear hv
    generalize grpM andF m g (2 ^ n - 1) = G at hG hgl hgb ⊢
    have hB := rc_Box n G a hn hgl (fun s hs => Nat.lt_of_lt_of_le (hgb s hs) h64)
    rw [show i64 n = .int .i64 m.n by rw [hmn]; rfl] at hB
    (try conv=>whnf);repeat' (first|(apply And.intro<;>try conv=>whnf)|(intro h;first|with_reducible exact tf h (by assumption)|with_reducible exact tf (by assumption) h|try conv=>whnf)|(refine lin_plan (by kernel_rfl) ?_;try conv=>whnf)|(refine ⟨_, (by (conv=>whnf);exact hG), rfl, ?_⟩;try conv=>whnf)|(refine ⟨_, (by (conv=>whnf);exact hB), rfl, ?_⟩;try conv=>whnf)|fail)
    exact .refl _
  · skip
    have f1 : ((13 : Int) == 1) = false := rfl
    have f2 : ((13 : Int) == 2) = false := rfl
    have f3 : ((13 : Int) == 3) = false := rfl
    have f4 : ((13 : Int) == 4) = false := rfl
    have f5 : ((13 : Int) == 5) = false := rfl
    have f6 : ((13 : Int) == 6) = false := rfl
    have f7 : ((13 : Int) == 7) = false := rfl
    have f8 : ((13 : Int) == 8) = false := rfl
    have f9 : ((13 : Int) == 9) = false := rfl
    have f10 : ((13 : Int) == 10) = false := rfl
    have f11 : ((13 : Int) == 11) = false := rfl
    have f12 : ((13 : Int) == 12) = false := rfl
    have f13 : ((13 : Int) == 13) = true := rfl
    have fle : decide ((13 : Int) ≤ 8) = false := rfl
    have hg1 := (hk.group rfl).1
    simp only at hg1
    have h9 : decide (g ≥ shl64 1 (m.rel.length : Int)) = false := by
      have h : (!decide (g ≥ shl64 1 (m.rel.length : Int))) = true := hq
      simpa using h
    have h8 := of_decide_eq_false h9
    have hG := rm_Group m n hM g
    obtain ⟨hgl, hgb⟩ := grp_facts (op := orF) (first := 0) hM (fun _ _ hx hy => Nat.or_lt_two_pow hx hy) (Nat.two_pow_pos n) hg1 (by omega)
    have hv : vlN m n 13 i g a b = comN n (grpM orF m g 0) a b := rfl
    rw [hv]
    clear hv
    generalize grpM orF m g 0 = G at hG hgl hgb ⊢
    have hB := rc_common n G a b hn hgl hgb ha64
    rw [show i64 n = .int .i64 m.n by rw [hmn]; rfl] at hB
    (try conv=>whnf);repeat' (first|(apply And.intro<;>try conv=>whnf)|(intro h;first|with_reducible exact tf h (by assumption)|try conv=>whnf)|(refine lin_plan (by kernel_rfl) ?_;try conv=>whnf)|(refine ⟨_, (by (conv=>whnf);exact hG), rfl, ?_⟩;try conv=>whnf)|(refine ⟨_, (by (conv=>whnf);exact hB), rfl, ?_⟩;try conv=>whnf)|fail)
    exact .refl _
end Go.Proofs.YtkjjoalphllolaaGreat
