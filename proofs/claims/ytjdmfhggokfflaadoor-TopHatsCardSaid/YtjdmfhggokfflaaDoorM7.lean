/- Parts of the proof, one after the other: Products: Update of the program walked. Products: Update of the program walked. Products: At of the program walked; the examples of the law. The layer Dv, part 23: a call sees a part of the heap, under other numbers. The layer Dv, part 24: objects whose numbers are not literals; own arrays lent to calls. Products: what the law ProductKeeps asks (plain). Models: closed parts of models; formulas that are put together (plain). The law TopHats: what each agent knows before anything is said (plain). The number of trailing zeros: the library's function walked, over its table. Models: the members of a set, and Restrict of the program walked. Models: Restrict, and announcements, of the program walked. -/
import Derived.Test.YtjdmfhggokfflaaDoorChecked
import Derived.WalkKit
import Derived.Laws.Bits64b
import Derived.Lib.TrailingZeros
import Derived.Test.YtjdmfhggokfflaaDoorM6
set_option maxRecDepth 100000
set_option maxHeartbeats 4000000
namespace Go.Proofs.YtjdmfhggokfflaaDoor
open Go Go.Dv

def cells0 : List DV := [.pv (.int .i64 0), .pv .nil, .pv .nil]
def pairD (q : Nat × Nat) : List DV := [.pv (i64 q.1), .pv (i64 q.2)]
/-- The heap while the values of a fact are reckoned. -/
def HV (m : Mo) (a : Act) (l : List (Nat × Nat)) (vs vl : List Nat) : List (Nat × DObj) :=
  [(0, .var (cellsM m)), (1, .var (cellsA a)), (2, .var cells0), (3, .var [.pv (.sl (l.map pairPV))]), (4, .var [.pv (i64 (l.map pairPV).length), .buf 5 (vs.map u64).length, .pv .nil]), (5, .arr 1 (vs.map u64)), (7, .var [.pv (rowPV vl)])]
theorem upd2 {M : Nat → Prop} {w0 : World} (m : Mo) (a : Act) (l : List (Nat × Nat)) (vs vl : List Nat) (q : Nat × Nat) (h1 : q.1 < 64) (h2 : q.2 < vl.length) (hv : ∀ s, s ∈ vl → s < 2 ^ 64) (base : Nat) (K : DV → DH → Prop) (hK : K (.pv (.bool ((vl.getD q.2 0).testBit q.1))) ⟨8, 0, base, objsOf (HV m a l vs vl)⟩) :
    DC Tryd.prog M w0 95 [.agg (pairD q), .ref 7 0] ⟨8, 0, base, objsOf (HV m a l vs vl)⟩ K := by
  refine DC.weaken (DC.intro mixed (fn := Tryd.f95) rfl rfl rfl ?_)
  obtain ⟨x, hx, hw⟩ : ∃ x, vl[q.2]? = some x ∧ vl.getD q.2 0 = x := ⟨_, getD_mem h2, rfl⟩
  have hx64 := hv x (List.mem_iff_getElem?.2 ⟨_, hx⟩)
  rw [hw, ← bit_one hx64 h1] at hK
  (try conv=>whnf);repeat' (first|(apply And.intro<;>try conv=>whnf)|(apply infoT;rfl)|(refine lin_plan (by kernel_rfl) ?_;try conv=>whnf)|(refine ⟨_, _, rfl, idx_map (by with_reducible assumption), rfl, ?_⟩;try conv=>whnf)|fail)
  · exact Int.natCast_nonneg _
  · exact ⟨_, 8, HV m a l vs vl, (by refine Wk.of ?_ ?_ rfl rfl rfl<;>repeat' (first|exact trivial|exact WkD.same _|exact WkO.same _ _ rfl|refine ⟨?_, ?_⟩|fail)), hK⟩
/-- The heap while the relation of an agent is reckoned, of a pair. -/
def HW (m : Mo) (a : Act) (l : List (Nat × Nat)) (vs : List Nat) (rs : List (List Nat)) (i : Nat) (r : List Nat) (mx : List PV) (x : Nat × Nat) : List (Nat × DObj) :=
  [(0, .var (cellsM m)), (1, .var (cellsA a)), (2, .var cells0), (3, .var [.pv (.sl (l.map pairPV))]), (4, .var [.pv (i64 (l.map pairPV).length), .pv (rowPV vs), .buf 5 (rs.map rowPV).length]), (5, .arr 1 (rs.map rowPV)), (6, .var [.pv (i64 i)]), (7, .var [.pv (rowPV r)]), (8, .arr 1 mx), (9, .var (pairD x))]
theorem upd3 {M : Nat → Prop} {w0 : World} (m : Mo) (a : Act) (l : List (Nat × Nat)) (vs : List Nat) (rs : List (List Nat)) (i : Nat) (r : List Nat) (mx : List PV) (x q : Nat × Nat) (ra : List Nat) (hra : a.rel[i]? = some ra)
    (hx1 : x.1 < r.length) (hx2 : x.2 < ra.length) (hq1 : q.1 < 64) (hq2 : q.2 < 64) (hr : ∀ s, s ∈ r → s < 2 ^ 64) (hr2 : ∀ s, s ∈ ra → s < 2 ^ 64) (base : Nat) (K : DV → DH → Prop) (hK : K (.pv (.bool (seesP r ra x q))) ⟨10, 0, base, objsOf (HW m a l vs rs i r mx x)⟩) :
    DC Tryd.prog M w0 96 [.agg (pairD q), .ref 7 0, .ref 9 0, .ref 1 0, .ref 6 0] ⟨10, 0, base, objsOf (HW m a l vs rs i r mx x)⟩ K := by
  refine DC.weaken (DC.intro mixed (fn := Tryd.f96) rfl rfl rfl ?_)
  obtain ⟨u, hu, hw⟩ : ∃ u, r[x.1]? = some u ∧ r.getD x.1 0 = u := ⟨_, getD_mem hx1, rfl⟩
  obtain ⟨v, hv, hw2⟩ : ∃ v, ra[x.2]? = some v ∧ ra.getD x.2 0 = v := ⟨_, getD_mem hx2, rfl⟩
  have hu64 := hr u (List.mem_iff_getElem?.2 ⟨_, hu⟩)
  have hv64 := hr2 v (List.mem_iff_getElem?.2 ⟨_, hv⟩)
  rw [seesP, hw, hw2, ← bit_one hu64 hq1, ← bit_one hv64 hq2] at hK
  (try conv=>whnf);repeat' (first|(apply And.intro<;>try conv=>whnf)|(intro h;try conv=>whnf)|apply True.intro|(apply infoT;rfl)|(apply WhenQ.mk;(try conv=>whnf);rotate_left;(try conv=>whnf);rotate_right)|with_reducible assumption|(refine lin_plan (by kernel_rfl) ?_;try conv=>whnf)|(refine ⟨_, _, rfl, idx_map (by with_reducible assumption), rfl, ?_⟩;try conv=>whnf)|fail)
  · exact Int.natCast_nonneg _
  · exact Int.natCast_nonneg _
  · exact ⟨_, 10, HW m a l vs rs i r mx x, (by refine Wk.of ?_ ?_ rfl rfl rfl<;>repeat' (first|exact trivial|exact WkD.same _|exact WkO.same _ _ rfl|refine ⟨?_, ?_⟩|fail)), hK⟩
theorem whr_V {M : Nat → Prop} {w0 : World} (m : Mo) (a : Act) (l : List (Nat × Nat)) (vs vl : List Nat) (hlp : ∀ y, y ∈ l → y.1 < 64 ∧ y.2 < vl.length) (hv : ∀ s, s ∈ vl → s < 2 ^ 64) (hl : l.length ≤ 64) (base : Nat) (K : DV → DH → Prop) (hK : K (.pv (u64 (maskOf (fun k => (fun q : Nat × Nat => (vl.getD q.2 0).testBit q.1) (l.getD k (0, 0))) l.length))) ⟨8, 0, base, objsOf (HV m a l vs vl)⟩) :
    DC Tryd.prog M w0 93 [.clo 95 [] [.ref 7 0], .ref 3 0] ⟨8, 0, base, objsOf (HV m a l vs vl)⟩ K := by
  refine DC.weaken (DC.intro mixed (fn := Tryd.f93) rfl rfl rfl ?_)
  try conv=>whnf
  refine ⟨{ i : Nat // i ≤ l.length }, fun i => [(0, .clo 95 [] [.ref 7 0]), (4, .pv (u64 (maskOf (fun k => (fun q : Nat × Nat => (vl.getD q.2 0).testBit q.1) (l.getD k (0, 0))) i.1))), (7, .pv (.sl (l.map pairPV))), (8, .pv (i64 (l.map pairPV).length)), (9, .pv (i64 i.1))], fun _ => 8, fun _ => HV m a l vs vl, fun i => l.length - i.1, ⟨⟨0, Nat.zero_le _⟩, (by refine Wk.of ?_ ?_ rfl rfl rfl<;>repeat' (first|exact trivial|exact WkD.same _|exact WkO.same _ _ rfl|refine ⟨?_, ?_⟩|fail))⟩, ?_⟩
  rintro ⟨j, hj⟩
  (try conv=>whnf);repeat' (first|(apply And.intro<;>try conv=>whnf)|(intro h;try conv=>whnf)|(apply infoT;rfl)|fail)
  · have hj' : j < l.length := by simpa using lt_dec h
    obtain ⟨y, hy, hyw⟩ : ∃ y, l[j]? = some y ∧ l.getD j (0, 0) = y := ⟨_, getD_mem hj', rfl⟩
    have hym : y ∈ l := List.mem_iff_getElem?.2 ⟨j, hy⟩
    refine ⟨_, _, rfl, idx_map hy, rfl, ?_⟩
    try conv=>whnf
    refine DC.call 8 (HV m a l vs vl) ⟨rfl, rfl, rfl, rfl, rfl, rfl, rfl, rfl, trivial⟩ rfl rfl rfl rfl fun M' => ?_
    refine upd2 m a l vs vl y (hlp y hym).1 (hlp y hym).2 hv _ _ ?_
    refine ⟨rfl, ?_⟩
    (try conv=>whnf);repeat' (first|(apply And.intro<;>try conv=>whnf)|(intro h;try conv=>whnf)|fail)
    · exact Int.natCast_nonneg _
    · have hq : (fun q : Nat × Nat => (vl.getD q.2 0).testBit q.1) (l.getD j (0, 0)) = true := by rw [hyw]; exact h
      refine ⟨⟨j + 1, hj'⟩, by show l.length - (j + 1) < l.length - j; omega, ?_⟩
      (refine Wk.of ?_ ?_ rfl rfl rfl<;>repeat' (first|exact trivial|exact WkD.same _|exact WkO.same _ _ rfl|refine WkD.int ?_|refine ⟨?_, ?_⟩|(refine wrapA ?_ ?_ ?_;(focus simp;done);(focus (try dsimp only);omega);(focus (try dsimp only);omega))|fail))
      exact or_shl (q := fun k => (fun q : Nat × Nat => (vl.getD q.2 0).testBit q.1) (l.getD k (0, 0))) (w := j) (by omega) hq
    · have hq : (fun q : Nat × Nat => (vl.getD q.2 0).testBit q.1) (l.getD j (0, 0)) = false := by rw [hyw]; exact h
      refine ⟨⟨j + 1, hj'⟩, by show l.length - (j + 1) < l.length - j; omega, ?_⟩
      (refine Wk.of ?_ ?_ rfl rfl rfl<;>repeat' (first|exact trivial|exact WkD.same _|exact WkO.same _ _ rfl|refine WkD.int ?_|refine ⟨?_, ?_⟩|(refine wrapA ?_ ?_ ?_;(focus simp;done);(focus (try dsimp only);omega);(focus (try dsimp only);omega))|fail))
      exact congrArg (fun z : Nat => (z : Int)) (mask_no (q := fun k => (fun q : Nat × Nat => (vl.getD q.2 0).testBit q.1) (l.getD k (0, 0))) hq)
  · have hj' : j = l.length := by have := ge_dec (m := (l.map pairPV).length) h (by simpa using hj); simpa using this
    subst hj'
    exact ⟨_, 8, HV m a l vs vl, (by refine Wk.of ?_ ?_ rfl rfl rfl<;>repeat' (first|exact trivial|exact WkD.same _|exact WkO.same _ _ rfl|refine ⟨?_, ?_⟩|fail)), hK⟩
theorem whr_W {M : Nat → Prop} {w0 : World} (m : Mo) (a : Act) (l : List (Nat × Nat)) (vs : List Nat) (rs : List (List Nat)) (i : Nat) (r : List Nat) (mx : List PV) (x : Nat × Nat) (ra : List Nat) (hra : a.rel[i]? = some ra) (hx1 : x.1 < r.length) (hx2 : x.2 < ra.length) (hlp : ∀ y, y ∈ l → y.1 < 64 ∧ y.2 < 64) (hr : ∀ s, s ∈ r → s < 2 ^ 64) (hr2 : ∀ s, s ∈ ra → s < 2 ^ 64) (hl : l.length ≤ 64) (base : Nat) (K : DV → DH → Prop) (hK : K (.pv (u64 (maskOf (fun k => (fun q : Nat × Nat => seesP r ra x q) (l.getD k (0, 0))) l.length))) ⟨10, 0, base, objsOf (HW m a l vs rs i r mx x)⟩) :
    DC Tryd.prog M w0 93 [.clo 96 [] [.ref 7 0, .ref 9 0, .ref 1 0, .ref 6 0], .ref 3 0] ⟨10, 0, base, objsOf (HW m a l vs rs i r mx x)⟩ K := by
  refine DC.weaken (DC.intro mixed (fn := Tryd.f93) rfl rfl rfl ?_)
  try conv=>whnf
  refine ⟨{ i : Nat // i ≤ l.length }, fun i => [(0, .clo 96 [] [.ref 7 0, .ref 9 0, .ref 1 0, .ref 6 0]), (4, .pv (u64 (maskOf (fun k => (fun q : Nat × Nat => seesP r ra x q) (l.getD k (0, 0))) i.1))), (7, .pv (.sl (l.map pairPV))), (8, .pv (i64 (l.map pairPV).length)), (9, .pv (i64 i.1))], fun _ => 10, fun _ => HW m a l vs rs i r mx x, fun i => l.length - i.1, ⟨⟨0, Nat.zero_le _⟩, (by refine Wk.of ?_ ?_ rfl rfl rfl<;>repeat' (first|exact trivial|exact WkD.same _|exact WkO.same _ _ rfl|refine ⟨?_, ?_⟩|fail))⟩, ?_⟩
  rintro ⟨j, hj⟩
  (try conv=>whnf);repeat' (first|(apply And.intro<;>try conv=>whnf)|(intro h;try conv=>whnf)|(apply infoT;rfl)|fail)
  · have hj' : j < l.length := by simpa using lt_dec h
    obtain ⟨y, hy, hyw⟩ : ∃ y, l[j]? = some y ∧ l.getD j (0, 0) = y := ⟨_, getD_mem hj', rfl⟩
    have hym : y ∈ l := List.mem_iff_getElem?.2 ⟨j, hy⟩
    refine ⟨_, _, rfl, idx_map hy, rfl, ?_⟩
    try conv=>whnf
    refine DC.call 10 (HW m a l vs rs i r mx x) ⟨rfl, rfl, rfl, rfl, rfl, rfl, rfl, rfl, rfl, rfl, trivial⟩ rfl rfl rfl rfl fun M' => ?_
    refine upd3 m a l vs rs i r mx x y ra hra hx1 hx2 (hlp y hym).1 (hlp y hym).2 hr hr2 _ _ ?_
    refine ⟨rfl, ?_⟩
    (try conv=>whnf);repeat' (first|(apply And.intro<;>try conv=>whnf)|(intro h;try conv=>whnf)|fail)
    · exact Int.natCast_nonneg _
    · have hq : (fun q : Nat × Nat => seesP r ra x q) (l.getD j (0, 0)) = true := by rw [hyw]; exact h
      refine ⟨⟨j + 1, hj'⟩, by show l.length - (j + 1) < l.length - j; omega, ?_⟩
      (refine Wk.of ?_ ?_ rfl rfl rfl<;>repeat' (first|exact trivial|exact WkD.same _|exact WkO.same _ _ rfl|refine WkD.int ?_|refine ⟨?_, ?_⟩|(refine wrapA ?_ ?_ ?_;(focus simp;done);(focus (try dsimp only);omega);(focus (try dsimp only);omega))|fail))
      exact or_shl (q := fun k => (fun q : Nat × Nat => seesP r ra x q) (l.getD k (0, 0))) (w := j) (by omega) hq
    · have hq : (fun q : Nat × Nat => seesP r ra x q) (l.getD j (0, 0)) = false := by rw [hyw]; exact h
      refine ⟨⟨j + 1, hj'⟩, by show l.length - (j + 1) < l.length - j; omega, ?_⟩
      (refine Wk.of ?_ ?_ rfl rfl rfl<;>repeat' (first|exact trivial|exact WkD.same _|exact WkO.same _ _ rfl|refine WkD.int ?_|refine ⟨?_, ?_⟩|(refine wrapA ?_ ?_ ?_;(focus simp;done);(focus (try dsimp only);omega);(focus (try dsimp only);omega))|fail))
      exact congrArg (fun z : Nat => (z : Int)) (mask_no (q := fun k => (fun q : Nat × Nat => seesP r ra x q) (l.getD k (0, 0))) hq)
  · have hj' : j = l.length := by have := ge_dec (m := (l.map pairPV).length) h (by simpa using hj); simpa using this
    subst hj'
    exact ⟨_, 10, HW m a l vs rs i r mx x, (by refine Wk.of ?_ ?_ rfl rfl rfl<;>repeat' (first|exact trivial|exact WkD.same _|exact WkO.same _ _ rfl|refine ⟨?_, ?_⟩|fail)), hK⟩
end Go.Proofs.YtjdmfhggokfflaaDoor
set_option maxRecDepth 100000
set_option maxHeartbeats 4000000
namespace Go.Proofs.YtjdmfhggokfflaaDoor
open Go Go.Dv

def vsU (m : Mo) (a : Act) (l : List (Nat × Nat)) (i : Nat) : List Nat := (List.range i).map (valP m a l)
def rsU (m : Mo) (a : Act) (l : List (Nat × Nat)) (i : Nat) : List (List Nat) := (List.range i).map (relP m a l)
theorem vsU_succ (m : Mo) (a : Act) (l : List (Nat × Nat)) (i : Nat) : vsU m a l (i + 1) = vsU m a l i ++ [valP m a l i] := by rw [vsU, List.range_succ, List.map_append]; rfl
theorem rsU_succ (m : Mo) (a : Act) (l : List (Nat × Nat)) (i : Nat) : rsU m a l (i + 1) = rsU m a l i ++ [relP m a l i] := by rw [rsU, List.range_succ, List.map_append]; rfl
def vlU (m : Mo) (a : Act) (i : Nat) : List Nat := (List.range a.pre.length).map fun e => valuP m a e i
theorem vlU_get {m : Mo} {a : Act} {i e : Nat} (h : e < a.pre.length) : (vlU m a i).getD e 0 = valuP m a e i := by
  rw [vlU, List.getD_eq_getElem?_getD, List.getElem?_map, List.getElem?_range h]; rfl
def updPlan : Plan := .one 2 (.one 3 (.two 0 (.two 1 (.one 4 (.one 5 (.one 6 (.one 7 (.one 8 .done))))) 4 (.one 1 (.one 5 (.one 6 (.one 7 (.one 8 .done)))))) 4 (.one 0 (.one 1 (.one 5 (.one 6 (.one 7 (.one 8 .done))))))))
theorem pr_Update (m : Mo) (a : Act) (hf : FitM m) (hfa : Fit a) (hl : a.rel.length ≤ 1000) (hp : ∀ l, l ∈ a.post → l.length ≤ 1000) : PureFn Tryd.prog 89 [m.pv, a.pv] (updPV (updI m a)) := by
  refine PureFn.introC [4, 6, 20, 22, 31, 33] mixed (fn := Tryd.f89) rfl rfl rfl fun M w0 => ?_
  have hW := pr_Worlds m a hf hfa hl hp
  obtain ⟨l, e, hX⟩ : ∃ l e, worldsI m a = (l, e) := ⟨_, _, rfl⟩
  have hwo := worldsI_ok (m := m) (a := a)
  rw [updI]
  rw [hX] at hW hwo ⊢
  clear hX
  have e9 : ((l.map pairPV).length : Int) = (l.length : Int) := by simp
  (try conv=>whnf);repeat' (first|(refine PureFn.dcq (f := 92) rfl ?_;try conv=>whnf)|(refine ⟨_, _, hW, ?_, ?_⟩;(focus first|(refine ⟨?_, ?_, trivial⟩<;>first|exact PLe.refl _|exact PLe.nil)|exact trivial);try conv=>whnf)|fail)
  refine ⟨{ _x : Unit // (e != 0) = false }, fun _ => [(2, .ref 0 0), (3, .ref 1 0), (4, .ref 2 0), (7, .ref 3 0)], fun _ => 4, fun _ => [(0, .var (cellsM m)), (1, .var (cellsA a)), (2, .var cells0), (3, .var [.pv (.sl (l.map pairPV))])], ?_, ?_⟩
  · (try conv=>whnf);repeat' (first|(apply And.intro<;>try conv=>whnf)|(intro h;try conv=>whnf)|fail)
    · rw [show (((l, e) : List (Nat × Nat) × Int).2 != 0) = true from h]; exact le_upd _
    · exact ⟨⟨(), h⟩, (by refine Wk.of ?_ ?_ rfl rfl rfl<;>repeat' (first|exact trivial|exact WkD.same _|exact WkO.same _ _ rfl|refine ⟨?_, ?_⟩|fail))⟩
  rintro ⟨_, h1⟩
  obtain ⟨hma, hpl, hl1⟩ := hwo (show e = 0 by simpa using h1)
  obtain ⟨⟨n, hM⟩, hAc⟩ := moaI_ok hma
  have hO := actI_ok hAc
  have hn8 := hO.n8
  have hn64 := hM.n64
  have hfa8 := hM.fa
  have hag := hM.ag
  have hpl : l = pairsL m a := hpl
  have hmem : ∀ y, y ∈ l → y.1 < n ∧ y.2 < a.pre.length := fun y hy => by
    rw [hpl, pairsL, hM.nn] at hy
    have := pairsW_mem.1 hy
    exact ⟨this.1, this.2.1⟩
  clear hpl hl1
  refine ⟨{ _x : Unit // decide ((l.length : Int) > 64) = false }, fun _ => [(2, .ref 0 0), (3, .ref 1 0), (4, .ref 2 0), (7, .ref 3 0)], fun _ => 4, fun _ => [(0, .var (cellsM m)), (1, .var (cellsA a)), (2, .var cells0), (3, .var [.pv (.sl (l.map pairPV))])], ?_, ?_⟩
  · (try conv=>whnf);repeat' (first|(apply And.intro<;>try conv=>whnf)|(intro h;try conv=>whnf)|fail)
    · have h9 : decide ((l.length : Int) > 64) = true := by rw [← e9]; exact h
      rw [show (((l, e) : List (Nat × Nat) × Int).2 != 0) = false from h1, show decide ((((l, e) : List (Nat × Nat) × Int).1.length : Int) > 64) = true from h9]
      exact le_upd _
    · exact ⟨⟨(), by rw [← e9]; exact h⟩, (by refine Wk.of ?_ ?_ rfl rfl rfl<;>repeat' (first|exact trivial|exact WkD.same _|exact WkO.same _ _ rfl|refine ⟨?_, ?_⟩|fail))⟩
  rintro ⟨_, h2⟩
  have hl64 : l.length ≤ 64 := by have := of_decide_eq_false h2; omega
  have hres : (bif (((l, e) : List (Nat × Nat) × Int).2 != 0) then (noMo, ([] : List (Nat × Nat)), ((l, e) : List (Nat × Nat) × Int).2) else bif decide ((((l, e) : List (Nat × Nat) × Int).1.length : Int) > 64) then (noMo, [], 8) else (prodM m a ((l, e) : List (Nat × Nat) × Int).1, ((l, e) : List (Nat × Nat) × Int).1, (0 : Int))) = (prodM m a l, l, 0) := by
    rw [show (((l, e) : List (Nat × Nat) × Int).2 != 0) = false from h1, show decide ((((l, e) : List (Nat × Nat) × Int).1.length : Int) > 64) = false from h2]; rfl
  rw [hres]
  clear hres
  try conv=>whnf
  refine ⟨Unit, fun _ => [(2, .ref 0 0), (3, .ref 1 0), (4, .ref 2 0), (7, .ref 3 0), (9, .clo 93 [] [.ref 3 0]), (10, .ref 4 0)], fun _ => 5, fun _ => [(0, .var (cellsM m)), (1, .var (cellsA a)), (2, .var cells0), (3, .var [.pv (.sl (l.map pairPV))]), (4, .var [.pv (i64 (l.map pairPV).length), .pv (rowPV (vsU m a l m.val.length)), .pv .nil])], ?_, ?_⟩
  · try conv=>whnf
    refine ⟨{ i : Nat // i ≤ m.val.length }, fun i => [(2, .ref 0 0), (3, .ref 1 0), (4, .ref 2 0), (7, .ref 3 0), (9, .clo 93 [] [.ref 3 0]), (10, .ref 4 0), (41, .pv (i64 (m.val.map u64).length)), (42, .pv (i64 i.1))], fun _ => 6, fun i => [(0, .var (cellsM m)), (1, .var (cellsA a)), (2, .var cells0), (3, .var [.pv (.sl (l.map pairPV))]), (4, .var [.pv (i64 (l.map pairPV).length), .buf 5 ((vsU m a l i.1).map u64).length, .pv .nil]), (5, .arr 1 ((vsU m a l i.1).map u64))], fun i => m.val.length - i.1, ⟨⟨0, Nat.zero_le _⟩, (by refine Wk.of ?_ ?_ rfl rfl rfl<;>repeat' (first|exact trivial|exact WkD.same _|exact WkO.same _ _ rfl|exact WkD.new' rfl rfl rfl|exact WkO.new _ _ rfl|refine WkO.vars rfl ?_|exact rfl|refine ⟨?_, ?_⟩|fail))⟩, ?_⟩
    rintro ⟨i, hi⟩
    (try conv=>whnf);repeat' (first|(apply And.intro<;>try conv=>whnf)|(intro h;try conv=>whnf)|(apply Or.inl;try conv=>whnf)|fail)
    · rfl
    · exact Int.natCast_nonneg _
    · show ((a.pre.map fpv).length : Int) ≤ 4294967296
      rw [List.length_map]; omega
    · have hi' : i < m.val.length := by simpa using lt_dec h
      have hN : ((a.pre.map fpv).length : Int).toNat = a.pre.length := by rw [List.length_map]; rfl
      have hz1 : List.replicate ((a.pre.map fpv).length : Int).toNat (PV.int .u64 0) = (mixV a.pre.length (fun e => u64 (valuP m a e i)) (fun _ => u64 0) 0) := by rw [hN]; exact mixV_rep _ _ _
      have hmlv := mixV_len a.pre.length (fun e => u64 (valuP m a e i)) (fun _ => u64 0)
      refine ⟨Unit, fun _ => [(2, .ref 0 0), (3, .ref 1 0), (4, .ref 2 0), (7, .ref 3 0), (9, .clo 93 [] [.ref 3 0]), (10, .ref 4 0), (12, .ref 7 0), (41, .pv (i64 (m.val.map u64).length)), (42, .pv (i64 i))], fun _ => 8, fun _ => [(0, .var (cellsM m)), (1, .var (cellsA a)), (2, .var cells0), (3, .var [.pv (.sl (l.map pairPV))]), (4, .var [.pv (i64 (l.map pairPV).length), .buf 5 ((vsU m a l i).map u64).length, .pv .nil]), (5, .arr 1 ((vsU m a l i).map u64)), (7, .var [.pv (.sl (mixV a.pre.length (fun e => u64 (valuP m a e i)) (fun _ => u64 0) a.pre.length))])], ?_, ?_⟩
      · try conv=>whnf
        refine ⟨{ k : Nat // k ≤ a.pre.length }, fun k => [(2, .ref 0 0), (3, .ref 1 0), (4, .ref 2 0), (7, .ref 3 0), (9, .clo 93 [] [.ref 3 0]), (10, .ref 4 0), (11, .pv (i64 i)), (12, .ref 7 0), (41, .pv (i64 (m.val.map u64).length)), (42, .pv (i64 i)), (50, .pv (i64 a.pre.length)), (51, .pv (i64 k.1))], fun _ => 8, fun k => [(0, .var (cellsM m)), (1, .var (cellsA a)), (2, .var cells0), (3, .var [.pv (.sl (l.map pairPV))]), (4, .var [.pv (i64 (l.map pairPV).length), .buf 5 ((vsU m a l i).map u64).length, .pv .nil]), (5, .arr 1 ((vsU m a l i).map u64)), (6, .arr 1 (mixV a.pre.length (fun e => u64 (valuP m a e i)) (fun _ => u64 0) k.1)), (7, .var [.buf 6 (mixV a.pre.length (fun e => u64 (valuP m a e i)) (fun _ => u64 0) k.1).length])], fun k => a.pre.length - k.1, ⟨⟨0, Nat.zero_le _⟩, ?_⟩, ?_⟩
        · (refine Wk.of ?_ ?_ rfl rfl rfl<;>repeat' (first|exact trivial|exact WkD.same _|exact WkO.same _ _ rfl|refine WkD.int ?_|refine WkO.vars rfl ?_|refine ⟨?_, ?_⟩|fail))
          · exact congrArg (fun z : Nat => (z : Int)) ((List.length_replicate ..).trans hN)
          · exact WkO.same _ _ (congrArg (fun z => some (DObj.arr 1 z)) hz1)
          · exact WkD.eq (congrArg (fun z : List PV => DV.buf 6 z.length) hz1)
        rintro ⟨k, hk⟩
        have hmk := hmlv k
        have hmk1 := hmlv (k + 1)
        have hst := mixV_set (n := a.pre.length) (p := fun e => u64 (valuP m a e i)) (q := fun _ => u64 0) (e := k)
        (try conv=>whnf);repeat' (first|(apply And.intro<;>try conv=>whnf)|(intro h;try conv=>whnf)|fail)
        · have hk' : k < a.pre.length := lt_dec h
          have hV := ac_Value a k i hfa hl hp
          have hv0 := valI_ok hma hk' hi'
          obtain ⟨g, hg⟩ : ∃ g, valI a k i = (g, 0) := ⟨(valI a k i).1, Prod.ext rfl hv0⟩
          rw [hg] at hV
          have hH := ck_Holds m g hf
          have hvp : (holdsI m g).1 = valuP m a k i := by rw [valuP, hg]
          obtain ⟨z, hz⟩ : ∃ z, holdsI m g = (valuP m a k i, z) := ⟨(holdsI m g).2, Prod.ext hvp rfl⟩
          rw [hz] at hH
          (try conv=>whnf);repeat' (first|(apply And.intro<;>try conv=>whnf)|(intro h;try conv=>whnf)|(refine PureFn.dcq (f := 94) rfl ?_;try conv=>whnf)|(refine ⟨_, _, hV, ?_, ?_⟩;(focus first|(refine ⟨?_, ?_, ?_, trivial⟩<;>first|exact PLe.refl _|exact PLe.nil)|exact trivial);try conv=>whnf)|fail)
          · cases h
          refine ⟨Plan.lin 0 10, [9], by kernel_rfl, ?_⟩
          (try conv=>whnf);repeat' (first|(apply And.intro<;>try conv=>whnf)|(refine ⟨_, (by (conv=>whnf);exact hH), rfl, ?_⟩;try conv=>whnf)|fail)
          refine ⟨k, rfl, by rw [hmk]; exact hk', ?_⟩
          (try conv=>whnf);repeat' (first|(apply And.intro<;>try conv=>whnf)|fail)
          refine ⟨_, mixV_old hk', Nat.le_refl 1, ?_⟩
          try conv=>whnf
          refine ⟨⟨k + 1, hk'⟩, by show a.pre.length - (k + 1) < a.pre.length - k; omega, ?_⟩
          (refine Wk.of ?_ ?_ rfl rfl rfl<;>repeat' (first|exact trivial|exact WkD.same _|exact WkO.same _ _ rfl|refine WkD.int ?_|refine WkO.vars rfl ?_|refine ⟨?_, ?_⟩|(refine wrapA ?_ ?_ ?_;(focus simp;done);(focus (try dsimp only);omega);(focus (try dsimp only);omega))|fail))
          · exact WkO.same _ _ (congrArg (fun z => some (DObj.arr 1 z)) hst)
          · exact WkD.eq (congrArg (DV.buf 6) (hmk.trans hmk1.symm))
        · have hk' : k = a.pre.length := ge_dec h hk
          subst hk'
          exact ⟨(), (by refine Wk.of ?_ ?_ rfl rfl rfl<;>repeat' (first|exact trivial|exact WkD.same _|exact WkO.same _ _ rfl|exact WkD.fz _ _ _ rfl (Or.inl ⟨_, rfl⟩) rfl|refine WkO.vars rfl ?_|refine ⟨?_, ?_⟩|fail))⟩
      rintro ⟨⟩
      have hvl : (mixV a.pre.length (fun e => u64 (valuP m a e i)) (fun _ => u64 0) a.pre.length) = (vlU m a i).map u64 := by rw [mixV_full, vlU, List.map_map]; rfl
      have hlv : (vlU m a i).length = a.pre.length := by simp [vlU]
      have hv64 : ∀ s, s ∈ vlU m a i → s < 2 ^ 64 := fun s hs => by
        obtain ⟨e, _, rfl⟩ := List.mem_map.1 hs
        exact Nat.lt_of_lt_of_le (holds_lt n hM) (pow64_le hn64)
      have hmk : maskOf (fun k => ((vlU m a i).getD (l.getD k (0, 0)).2 0).testBit (l.getD k (0, 0)).1) l.length = valP m a l i := maskOf_congr fun k hk => by
        rw [vlU_get (hmem _ (List.mem_iff_getElem?.2 ⟨k, getD_mem hk⟩)).2]
      have hvs := vsU_succ m a l i
      have hvsl : ((vsU m a l i).map u64).length ≤ 1000 := by simp [vsU]; omega
      rw [hvl]
      try conv=>whnf
      have er : (vsU m a l i).map u64 ++ [PV.int .u64 ((valP m a l i : Nat) : Int)] = (vsU m a l (i + 1)).map u64 := by rw [hvs, List.map_append]; rfl
      have hlpV : ∀ y, y ∈ l → y.1 < 64 ∧ y.2 < (vlU m a i).length := fun y hy => ⟨by have := (hmem y hy).1; omega, by rw [hlv]; exact (hmem y hy).2⟩
      refine ⟨updPlan, [4, 6, 8], by kernel_rfl, ?_⟩
      (try conv=>whnf);repeat' (first|(apply And.intro<;>try conv=>whnf)|fail)
      all_goals (refine whr_V m a l (vsU m a l i) (vlU m a i) hlpV hv64 hl64 _ _ ?_)
      all_goals (rw [hmk])
      all_goals ((try conv=>whnf);repeat' (first|(apply And.intro<;>try conv=>whnf)|(apply cellsI;rfl)|(apply szI;rfl)|fail))
      · exact app_big (n := 1000) hvsl (by decide)
      · refine ⟨⟨i + 1, hi'⟩, by show m.val.length - (i + 1) < m.val.length - i; omega, ?_⟩
        (refine Wk.of ?_ ?_ rfl rfl rfl<;>repeat' (first|exact trivial|exact WkD.same _|exact WkO.same _ _ rfl|exact WkD.eq (congrArg (fun z : List PV => DV.buf _ z.length) er)|exact WkO.same _ _ (congrArg (fun z => some (DObj.arr _ z)) er)|refine WkD.int ?_|refine WkO.vars rfl ?_|refine ⟨?_, ?_⟩|(refine wrapA ?_ ?_ ?_;(focus simp;done);(focus (try dsimp only);omega);(focus (try dsimp only);omega))|fail))
      · exact app_big (n := 1000) hvsl (by decide)
      · refine ⟨⟨i + 1, hi'⟩, by show m.val.length - (i + 1) < m.val.length - i; omega, ?_⟩
        (refine Wk.of ?_ ?_ rfl rfl rfl<;>repeat' (first|exact trivial|exact WkD.same _|exact WkO.same _ _ rfl|exact WkD.eq (congrArg (fun z : List PV => DV.buf _ z.length) er)|exact WkO.same _ _ (congrArg (fun z => some (DObj.arr _ z)) er)|refine WkD.int ?_|refine WkO.vars rfl ?_|refine ⟨?_, ?_⟩|(refine wrapA ?_ ?_ ?_;(focus simp;done);(focus (try dsimp only);omega);(focus (try dsimp only);omega))|fail))
      · exact app_big (n := 1000) hvsl (by decide)
      · refine ⟨⟨i + 1, hi'⟩, by show m.val.length - (i + 1) < m.val.length - i; omega, ?_⟩
        (refine Wk.of ?_ ?_ rfl rfl rfl<;>repeat' (first|exact trivial|exact WkD.same _|exact WkO.same _ _ rfl|exact WkD.eq (congrArg (fun z : List PV => DV.buf _ z.length) er)|exact WkO.same _ _ (congrArg (fun z => some (DObj.arr _ z)) er)|refine WkD.int ?_|refine WkO.vars rfl ?_|refine ⟨?_, ?_⟩|(refine wrapA ?_ ?_ ?_;(focus simp;done);(focus (try dsimp only);omega);(focus (try dsimp only);omega))|fail))
    · have hi' : i = m.val.length := by have := ge_dec (m := (m.val.map u64).length) h (by simpa using hi); simpa using this
      subst hi'
      exact ⟨(), (by refine Wk.of ?_ ?_ rfl rfl rfl<;>repeat' (first|exact trivial|exact WkD.same _|exact WkO.same _ _ rfl|exact WkD.fz _ _ _ rfl (Or.inl ⟨_, rfl⟩) rfl|refine WkO.vars rfl ?_|refine ⟨?_, ?_⟩|fail))⟩
  rintro ⟨⟩
  generalize hVS : (vsU m a l m.val.length) = vs
  refine ⟨Unit, fun _ => [(4, .ref 2 0), (7, .ref 3 0), (10, .ref 4 0)], fun _ => 5, fun _ => [(2, .var cells0), (3, .var [.pv (.sl (l.map pairPV))]), (4, .var [.pv (i64 (l.map pairPV).length), .pv (rowPV vs), .pv (.sl ((rsU m a l m.rel.length).map rowPV))])], ?_, ?_⟩
  · try conv=>whnf
    refine ⟨{ i : Nat // i ≤ m.rel.length }, fun i => [(2, .ref 0 0), (3, .ref 1 0), (4, .ref 2 0), (7, .ref 3 0), (9, .clo 93 [] [.ref 3 0]), (10, .ref 4 0), (85, .pv (.sl (m.rel.map rowPV))), (86, .pv (i64 (m.rel.map rowPV).length)), (87, .pv (i64 i.1))], fun _ => 6, fun i => [(0, .var (cellsM m)), (1, .var (cellsA a)), (2, .var cells0), (3, .var [.pv (.sl (l.map pairPV))]), (4, .var [.pv (i64 (l.map pairPV).length), .pv (rowPV vs), .buf 5 ((rsU m a l i.1).map rowPV).length]), (5, .arr 1 ((rsU m a l i.1).map rowPV))], fun i => m.rel.length - i.1, ⟨⟨0, Nat.zero_le _⟩, (by refine Wk.of ?_ ?_ rfl rfl rfl<;>repeat' (first|exact trivial|exact WkD.same _|exact WkO.same _ _ rfl|exact WkD.new' rfl rfl rfl|exact WkO.new _ _ rfl|refine WkO.vars rfl ?_|exact rfl|refine ⟨?_, ?_⟩|fail))⟩, ?_⟩
    rintro ⟨i, hi⟩
    (try conv=>whnf);repeat' (first|(apply And.intro<;>try conv=>whnf)|(intro h;try conv=>whnf)|(apply infoT;rfl)|fail)
    · have hi' : i < m.rel.length := by simpa using lt_dec h
      obtain ⟨r, hr, hrw⟩ : ∃ r, m.rel[i]? = some r ∧ m.rel.getD i [] = r := ⟨_, getD_mem hi', rfl⟩
      have hrm : r ∈ m.rel := List.mem_iff_getElem?.2 ⟨i, hr⟩
      have hrl := hM.rows r hrm
      have hrb := hf.2 r hrm
      obtain ⟨ra, hra, hraw⟩ : ∃ r, a.rel[i]? = some r ∧ a.rel.getD i [] = r := ⟨_, getD_mem (by have := hO.ags; omega), rfl⟩
      have hram : ra ∈ a.rel := List.mem_iff_getElem?.2 ⟨i, hra⟩
      have hral := hO.rows ra hram
      have hrab := hfa ra hram
      have hN : ((l.map pairPV).length : Int).toNat = l.length := by rw [List.length_map]; rfl
      have hz1 : List.replicate ((l.map pairPV).length : Int).toNat (PV.int .u64 0) = (mixV l.length (fun k => u64 (rowP r ra l (l.getD k (0, 0)))) (fun _ => u64 0) 0) := by rw [hN]; exact mixV_rep _ _ _
      have hmlv := mixV_len l.length (fun k => u64 (rowP r ra l (l.getD k (0, 0)))) (fun _ => u64 0)
      refine ⟨_, _, rfl, idx_map hr, rfl, ?_⟩
      (try conv=>whnf);repeat' (first|(apply And.intro<;>try conv=>whnf)|(apply Or.inl;try conv=>whnf)|fail)
      · rfl
      · exact Int.natCast_nonneg _
      · show ((l.map pairPV).length : Int) ≤ 4294967296
        rw [List.length_map]; omega
      refine ⟨Unit, fun _ => [(2, .ref 0 0), (3, .ref 1 0), (4, .ref 2 0), (7, .ref 3 0), (9, .clo 93 [] [.ref 3 0]), (10, .ref 4 0), (18, .pv (.sl (mixV l.length (fun k => u64 (rowP r ra l (l.getD k (0, 0)))) (fun _ => u64 0) l.length))), (85, .pv (.sl (m.rel.map rowPV))), (86, .pv (i64 (m.rel.map rowPV).length)), (87, .pv (i64 i))], fun _ => 6, fun _ => [(0, .var (cellsM m)), (1, .var (cellsA a)), (2, .var cells0), (3, .var [.pv (.sl (l.map pairPV))]), (4, .var [.pv (i64 (l.map pairPV).length), .pv (rowPV vs), .buf 5 ((rsU m a l i).map rowPV).length]), (5, .arr 1 ((rsU m a l i).map rowPV))], ?_, ?_⟩
      · try conv=>whnf
        refine ⟨{ k : Nat // k ≤ l.length }, fun k => [(2, .ref 0 0), (3, .ref 1 0), (4, .ref 2 0), (7, .ref 3 0), (9, .clo 93 [] [.ref 3 0]), (10, .ref 4 0), (16, .ref 6 0), (17, .ref 7 0), (18, .buf 8 (mixV l.length (fun k => u64 (rowP r ra l (l.getD k (0, 0)))) (fun _ => u64 0) k.1).length), (85, .pv (.sl (m.rel.map rowPV))), (86, .pv (i64 (m.rel.map rowPV).length)), (87, .pv (i64 i)), (95, .pv (.sl (l.map pairPV))), (96, .pv (i64 (l.map pairPV).length)), (97, .pv (i64 k.1))], fun _ => 9, fun k => [(0, .var (cellsM m)), (1, .var (cellsA a)), (2, .var cells0), (3, .var [.pv (.sl (l.map pairPV))]), (4, .var [.pv (i64 (l.map pairPV).length), .pv (rowPV vs), .buf 5 ((rsU m a l i).map rowPV).length]), (5, .arr 1 ((rsU m a l i).map rowPV)), (6, .var [.pv (i64 i)]), (7, .var [.pv (rowPV r)]), (8, .arr 1 (mixV l.length (fun k => u64 (rowP r ra l (l.getD k (0, 0)))) (fun _ => u64 0) k.1))], fun k => l.length - k.1, ⟨⟨0, Nat.zero_le _⟩, ?_⟩, ?_⟩
        · (refine Wk.of ?_ ?_ rfl rfl rfl<;>repeat' (first|exact trivial|exact WkD.same _|exact WkO.same _ _ rfl|refine ⟨?_, ?_⟩|fail))
          · exact WkD.eq (congrArg (fun z : List PV => DV.buf 8 z.length) hz1)
          · exact WkO.same _ _ (congrArg (fun z => some (DObj.arr 1 z)) hz1)
        rintro ⟨k, hk⟩
        have hmk := hmlv k
        have hmk1 := hmlv (k + 1)
        have hst := mixV_set (n := l.length) (p := fun k => u64 (rowP r ra l (l.getD k (0, 0)))) (q := fun _ => u64 0) (e := k)
        (try conv=>whnf);repeat' (first|(apply And.intro<;>try conv=>whnf)|(intro h;try conv=>whnf)|(apply infoT;rfl)|fail)
        · have hk' : k < l.length := by simpa using lt_dec h
          obtain ⟨x, hx, hxw⟩ : ∃ y, l[k]? = some y ∧ l.getD k (0, 0) = y := ⟨_, getD_mem hk', rfl⟩
          have hxm := hmem x (List.mem_iff_getElem?.2 ⟨k, hx⟩)
          refine ⟨_, _, rfl, idx_map hx, rfl, ?_⟩
          try conv=>whnf
          refine DC.call 10 (HW m a l vs (rsU m a l i) i r (mixV l.length (fun k => u64 (rowP r ra l (l.getD k (0, 0)))) (fun _ => u64 0) k) x) ⟨rfl, rfl, rfl, rfl, rfl, rfl, rfl, rfl, rfl, rfl, trivial⟩ rfl rfl rfl rfl fun M' => ?_
          refine whr_W m a l vs (rsU m a l i) i r (mixV l.length (fun k => u64 (rowP r ra l (l.getD k (0, 0)))) (fun _ => u64 0) k) x ra hra (by omega) (by omega) (fun y hy => by have := hmem y hy; exact ⟨by omega, by omega⟩) hrb hrab hl64 _ _ ?_
          refine ⟨rfl, ?_⟩
          (try conv=>whnf);repeat' (first|(apply And.intro<;>try conv=>whnf)|fail)
          refine ⟨k, rfl, by rw [hmk]; exact hk', ?_⟩
          (try conv=>whnf);repeat' (first|(apply And.intro<;>try conv=>whnf)|fail)
          refine ⟨_, mixV_old hk', Nat.le_refl 1, ?_⟩
          try conv=>whnf
          rw [hxw] at hst
          refine ⟨⟨k + 1, hk'⟩, by show l.length - (k + 1) < l.length - k; omega, ?_⟩
          (refine Wk.of ?_ ?_ rfl rfl rfl<;>repeat' (first|exact trivial|exact WkD.same _|exact WkO.same _ _ rfl|refine WkD.int ?_|refine ⟨?_, ?_⟩|(refine wrapA ?_ ?_ ?_;(focus simp;done);(focus (try dsimp only);omega);(focus (try dsimp only);omega))|fail))
          · exact WkD.eq (congrArg (DV.buf 8) (hmk.trans hmk1.symm))
          · exact WkO.same _ _ (congrArg (fun z => some (DObj.arr 1 z)) hst)
        · have hk' : k = l.length := by have := ge_dec (m := (l.map pairPV).length) h (by simpa using hk); simpa using this
          subst hk'
          exact ⟨(), (by refine Wk.of ?_ ?_ rfl rfl rfl<;>repeat' (first|exact trivial|exact WkD.same _|exact WkO.same _ _ rfl|exact WkD.fz _ _ _ rfl (Or.inl ⟨_, rfl⟩) rfl|refine ⟨?_, ?_⟩|fail))⟩
      rintro ⟨⟩
      have hrs := rsU_succ m a l i
      have hrsl : ((rsU m a l i).map rowPV).length ≤ 1000 := by simp [rsU]; omega
      have er : (rsU m a l i).map rowPV ++ [PV.sl (mixV l.length (fun k => u64 (rowP r ra l (l.getD k (0, 0)))) (fun _ => u64 0) l.length)] = (rsU m a l (i + 1)).map rowPV := by
        rw [hrs, List.map_append, mixV_full, relP, hrw, hraw]
        congr 1
        show [PV.sl _] = [rowPV (l.map (rowP r ra l))]
        rw [rowPV, List.map_map]
        congr 2
        exact map_getD (g := fun x => u64 (rowP r ra l x)) (d := (0, 0)) rfl
      (try conv=>whnf);repeat' (first|(apply And.intro<;>try conv=>whnf)|(apply cellsI;rfl)|(apply szI;rfl)|fail)
      · exact app_big (n := 1000) hrsl (by decide)
      refine ⟨⟨i + 1, hi'⟩, by show m.rel.length - (i + 1) < m.rel.length - i; omega, ?_⟩
      (refine Wk.of ?_ ?_ rfl rfl rfl<;>repeat' (first|exact trivial|exact WkD.same _|exact WkO.same _ _ rfl|exact WkD.eq (congrArg (fun z : List PV => DV.buf _ z.length) er)|exact WkO.same _ _ (congrArg (fun z => some (DObj.arr _ z)) er)|refine WkD.int ?_|refine WkO.vars rfl ?_|refine ⟨?_, ?_⟩|(refine wrapA ?_ ?_ ?_;(focus simp;done);(focus (try dsimp only);omega);(focus (try dsimp only);omega))|fail))
    · have hi' : i = m.rel.length := by have := ge_dec (m := (m.rel.map rowPV).length) h (by simpa using hi); simpa using this
      subst hi'
      exact ⟨(), (by refine Wk.of ?_ ?_ rfl rfl rfl<;>repeat' (first|exact trivial|exact WkD.same _|exact WkO.same _ _ rfl|exact WkD.fz _ _ _ rfl (Or.inl ⟨_, rfl⟩) rfl|refine WkO.vars rfl ?_|refine ⟨?_, ?_⟩|fail))⟩
  rintro ⟨⟩
  try conv=>whnf
  refine ⟨.one 0 (.two 1 (.one 2 (.one 3 (.one 4 .done))) 2 (.one 1 (.one 3 (.one 4 .done)))), [2], by kernel_rfl, ?_⟩
  have hfin : updPV (prodM m a l, l, 0) = .tup [.agg [i64 (l.map pairPV).length, rowPV vs, .sl ((rsU m a l m.rel.length).map rowPV)], .sl (l.map pairPV), .int .i64 0] := by rw [← hVS, List.length_map]; rfl
  (try conv=>whnf);repeat' (first|(apply And.intro<;>try conv=>whnf)|fail)
  all_goals (rw [hfin]; exact .refl _)
end Go.Proofs.YtjdmfhggokfflaaDoor
set_option maxRecDepth 100000
set_option maxHeartbeats 4000000
namespace Go.Proofs.YtjdmfhggokfflaaDoor
open Go Go.Dv

theorem find_at {α : Type} {p : α → Bool} : ∀ {l : List α} {i : Nat} {x : α}, l[i]? = some x → p x = true → (l.take i).any p = false → l.findIdx? p = some i
  | [], i, x, h, _, _ => by simp at h
  | a :: r, 0, x, h, hx, _ => by
    have : a = x := by simpa using h
    subst this
    simp [List.findIdx?_cons, hx]
  | a :: r, i + 1, x, h, hx, hn => by
    have h1 : r[i]? = some x := by simpa using h
    have hn2 : (p a || (r.take i).any p) = false := by simpa using hn
    rw [Bool.or_eq_false_iff] at hn2
    rw [List.findIdx?_cons, hn2.1, find_at h1 hx hn2.2]; rfl
theorem find_none {α : Type} {p : α → Bool} {l : List α} (h : l.any p = false) : l.findIdx? p = none := by
  rw [List.findIdx?_eq_none_iff]
  exact fun x hx => by simpa using List.any_eq_false.1 h x hx
end Go.Proofs.YtjdmfhggokfflaaDoor
namespace Go.Dv
open Go.RowKit (Below)
mutual
/-- A value whose objects bear other numbers. -/
def DV.ren (ρ : Nat → Nat) : DV → DV
  | .agg l => .agg (DV.rens ρ l)
  | .tup l => .tup (DV.rens ρ l)
  | .ref k c => .ref (ρ k) c
  | .aref k n i c => .aref (ρ k) n i c
  | .buf k n => .buf (ρ k) n
  | .mp k => .mp (ρ k)
  | .vbuf k n => .vbuf (ρ k) n
  | .clo f a b => .clo f (DV.rens ρ a) (DV.rens ρ b)
  | .when c d => .when c (d.ren ρ)
  | .pv p => .pv p
  | .e0 => .e0
  | .eptr p c => .eptr p c
  | .fnv v => .fnv v
  | .raw v => .raw v
  | .any => .any
def DV.rens (ρ : Nat → Nat) : List DV → List DV
  | [] => []
  | d :: r => d.ren ρ :: DV.rens ρ r
end
def DObj.ren (ρ : Nat → Nat) : DObj → DObj
  | .var cs => .var (DV.rens ρ cs)
  | .arr sz es => .arr sz es
  | .fz l => .fz l
  | .mp es => .mp es
  | .gone => .gone
mutual
/-- All objects of a value are of a kind. -/
def DV.keys (p : Nat → Bool) : DV → Bool
  | .agg l => DV.keyss p l
  | .tup l => DV.keyss p l
  | .ref k _ => p k
  | .aref k _ _ _ => p k
  | .buf k _ => p k
  | .mp k => p k
  | .vbuf k _ => p k
  | .clo _ a b => DV.keyss p a && DV.keyss p b
  | .when c d => !c || d.keys p
  | _ => true
def DV.keyss (p : Nat → Bool) : List DV → Bool
  | [] => true
  | d :: r => d.keys p && DV.keyss p r
end
def DObj.keys (p : Nat → Bool) : DObj → Bool
  | .var cs => DV.keyss p cs
  | _ => true
theorem keyss_iff {p : Nat → Bool} : ∀ {l : List DV}, DV.keyss p l = true → ∀ (i : Nat) (d : DV), l[i]? = some d → d.keys p = true
  | [], _, i, d, h => by simp at h
  | x :: r, hk, i, d, h => by
    simp only [DV.keyss, Bool.and_eq_true] at hk
    cases i with
    | zero => simp at h; subst h; exact hk.1
    | succ i => exact keyss_iff hk.2 i d (by simpa using h)
theorem rens_len {ρ : Nat → Nat} : ∀ (l : List DV), (DV.rens ρ l).length = l.length
  | [] => rfl
  | _ :: r => by rw [DV.rens, List.length_cons, List.length_cons, rens_len r]
theorem rens_get {ρ : Nat → Nat} : ∀ {l : List DV} {i : Nat} {d : DV}, (DV.rens ρ l)[i]? = some d → ∃ d0, l[i]? = some d0 ∧ d = d0.ren ρ
  | [], i, d, h => by simp [DV.rens] at h
  | x :: r, i, d, h => by
    rw [DV.rens] at h
    cases i with
    | zero => simp at h; exact ⟨x, by simp, h.symm⟩
    | succ i =>
      obtain ⟨d0, h1, h2⟩ := rens_get (l := r) (i := i) (by simpa using h)
      exact ⟨d0, by simpa using h1, h2⟩
theorem ren_var {ρ : Nat → Nat} {o : Option DObj} {cs : List DV} (h : o.map (DObj.ren ρ) = some (.var cs)) : ∃ c0, o = some (.var c0) ∧ cs = DV.rens ρ c0 := by
  cases o with
  | none => cases h
  | some o =>
    cases o with
    | var c0 => exact ⟨c0, rfl, by simpa [DObj.ren] using h.symm⟩
    | arr => simp [DObj.ren] at h
    | fz => simp [DObj.ren] at h
    | mp => simp [DObj.ren] at h
    | gone => simp [DObj.ren] at h
theorem ren_arr {ρ : Nat → Nat} {o : Option DObj} {sz : Nat} {es : List PV} (h : o.map (DObj.ren ρ) = some (.arr sz es)) : o = some (.arr sz es) := by
  cases o with
  | none => cases h
  | some o => cases o <;> simp [DObj.ren] at h; obtain ⟨rfl, rfl⟩ := h; rfl
theorem ren_fz {ρ : Nat → Nat} {o : Option DObj} {es : List PV} (h : o.map (DObj.ren ρ) = some (.fz es)) : o = some (.fz es) := by
  cases o with
  | none => cases h
  | some o => cases o <;> simp [DObj.ren] at h; subst h; rfl
theorem ren_mp {ρ : Nat → Nat} {o : Option DObj} {es : List (PV × PV)} (h : o.map (DObj.ren ρ) = some (.mp es)) : o = some (.mp es) := by
  cases o with
  | none => cases h
  | some o => cases o <;> simp [DObj.ren] at h; subst h; rfl
theorem ren_some {ρ : Nat → Nat} {o : Option DObj} {x : DObj} (h : o.map (DObj.ren ρ) = some x) : ∃ y, o = some y ∧ x = y.ren ρ := by
  cases o with
  | none => cases h
  | some y => exact ⟨y, rfl, by simpa using h.symm⟩
theorem live_ren {ρ : Nat → Nat} {m : Loc} {o : DObj} : liveAt m (o.ren ρ) ↔ liveAt m o := by cases o <;> exact Iff.rfl
section
variable {P : Program} {M : Nat → Prop} {w0 : World}
theorem RelV.ren {T T' : Nat → Prop} {w : World} {μ μ' : Nat → Loc} {L L' : DH} {ρ : Nat → Nat} {p : Nat → Bool} {d : DV} {v : Value} (h : RelV T w μ L d v) (hu : d.keys p = true) (hT : ∀ b, T' b → T b)
    (hL : ∀ k, p k = true → L'.get (ρ k) = (L.get k).map (DObj.ren ρ) ∧ μ' (ρ k) = μ k) : RelV T' w μ' L' (d.ren ρ) v := by
  induction h with
  | pv q v h => exact .pv q v (h.sub hT)
  | e0 a => exact .e0 a
  | agg l vs h1 _ ih =>
    simp only [DV.keys] at hu
    refine .agg _ vs (by rw [rens_len]; exact h1) fun i d v hi hv => ?_
    obtain ⟨d0, g1, rfl⟩ := rens_get hi
    exact ih i d0 v g1 hv (keyss_iff hu i d0 g1)
  | tup l vs h1 _ ih =>
    simp only [DV.keys] at hu
    refine .tup _ vs (by rw [rens_len]; exact h1) fun i d v hi hv => ?_
    obtain ⟨d0, g1, rfl⟩ := rens_get hi
    exact ih i d0 v g1 hv (keyss_iff hu i d0 g1)
  | ref k c v h1 h2 =>
    obtain ⟨e1, e2⟩ := hL k hu
    refine .ref (ρ k) c v h1 fun cs hc => ?_
    rw [e1] at hc
    obtain ⟨c0, hc0, _⟩ := ren_var hc
    rw [e2]; exact h2 c0 hc0
  | aref k m i c v h1 h2 h3 =>
    obtain ⟨e1, e2⟩ := hL k hu
    exact .aref (ρ k) m i c v h1 (fun sz es hc => by rw [e1] at hc; rw [e2]; exact h2 sz es (ren_arr hc)) (fun es hc => by rw [e1] at hc; rw [e2]; exact h3 es (ren_fz hc))
  | eptr q c b off val h1 h2 h3 h4 => exact .eptr q c b off val (fun hb => h1 (hT b hb)) h2 h3 fun j q hj => (h4 j q hj).sub hT
  | buf k m v h1 h2 h3 =>
    obtain ⟨e1, e2⟩ := hL k hu
    exact .buf (ρ k) m v h1 (fun sz es hc => by rw [e1] at hc; rw [e2]; exact h2 sz es (ren_arr hc)) (fun es hc => by rw [e1] at hc; rw [e2]; exact h3 es (ren_fz hc))
  | vbuf k n v h1 h2 =>
    obtain ⟨e1, e2⟩ := hL k hu
    refine .vbuf (ρ k) n v h1 fun cs hc => ?_
    rw [e1] at hc
    obtain ⟨c0, hc0, _⟩ := ren_var hc
    rw [e2]; exact h2 c0 hc0
  | mp k v h1 h2 =>
    obtain ⟨e1, e2⟩ := hL k hu
    exact .mp (ρ k) v h1 fun es hc => by rw [e1] at hc; rw [e2]; exact h2 es (ren_mp hc)
  | clo f first caps fs cs h1 h2 _ _ ih1 ih2 =>
    simp only [DV.keys, Bool.and_eq_true] at hu
    refine .clo f _ _ fs cs (by rw [rens_len]; exact h1) (by rw [rens_len]; exact h2) (fun i d v hi hv => ?_) (fun i d v hi hv => ?_)
    · obtain ⟨d0, g1, rfl⟩ := rens_get hi
      exact ih1 i d0 v g1 hv (keyss_iff hu.1 i d0 g1)
    · obtain ⟨d0, g1, rfl⟩ := rens_get hi
      exact ih2 i d0 v g1 hv (keyss_iff hu.2 i d0 g1)
  | fnv v => exact .fnv v
  | when c d v _ h2 ih => exact .when c _ v (fun hc => ih hc (by simpa [DV.keys, hc] using hu)) h2
  | raw v => exact .raw v
  | any v => exact .any v
theorem ObjRel.ren {T T' : Nat → Prop} {w : World} {μ μ' : Nat → Loc} {L L' : DH} {ρ : Nat → Nat} {p : Nat → Bool} {k k' : Nat} {o : DObj} (h : ObjRel T w μ L k o) (hu : o.keys p = true) (hk : μ' k' = μ k) (hT : ∀ b, T' b → T b)
    (hL : ∀ k, p k = true → L'.get (ρ k) = (L.get k).map (DObj.ren ρ) ∧ μ' (ρ k) = μ k) : ObjRel T' w μ' L' k' (o.ren ρ) := by
  cases o with
  | var cs =>
    obtain ⟨vs, ty, h1, h2, h3⟩ := h
    refine ⟨vs, ty, by rw [hk]; exact h1, by rw [rens_len]; exact h2, fun i d v hi hv => ?_⟩
    obtain ⟨d0, g1, rfl⟩ := rens_get hi
    exact (h3 i d0 v g1 hv).ren (keyss_iff hu i d0 g1) hT hL
  | arr sz es =>
    rcases h with ⟨h1, h2⟩ | ⟨vs, ty, h1, h2, h3, h4, h5, h6⟩
    · exact .inl ⟨by rw [hk]; exact h1, h2⟩
    · refine .inr ⟨vs, ty, by rw [hk]; exact h1, by rw [hk]; exact h2, by rw [hk]; exact h3, by rw [hk]; exact h4, h5, fun i p j q hp hq => ?_⟩
      obtain ⟨v, g1, g2⟩ := h6 i p j q hp hq
      exact ⟨v, g1, g2.sub hT⟩
  | fz l =>
    rcases h with ⟨h1, h2⟩ | ⟨h1, h2, h3⟩
    · exact .inl ⟨by rw [hk]; exact h1, h2⟩
    · exact .inr ⟨by rw [hk]; exact h1, by rw [hk]; exact h2, by rw [hk]; exact h3.sub hT⟩
  | gone => trivial
  | mp es =>
    obtain ⟨ents, clock, h1, h2, h3⟩ := h
    exact ⟨ents, clock, by rw [hk]; exact h1, h2, fun i kv e hi he => ⟨(h3 i kv e hi he).1.sub hT, (h3 i kv e hi he).2.sub hT⟩⟩
mutual
theorem keys_under (n : Nat) : ∀ d : DV, d.keys (fun k => Nat.blt k n) = d.under n
  | .agg l => by simp only [DV.keys, DV.under]; exact keyss_unders n l
  | .tup l => by simp only [DV.keys, DV.under]; exact keyss_unders n l
  | .ref _ _ => rfl
  | .aref _ _ _ _ => rfl
  | .buf _ _ => rfl
  | .mp _ => rfl
  | .vbuf _ _ => rfl
  | .clo _ a b => by simp only [DV.keys, DV.under, keyss_unders n a, keyss_unders n b]
  | .when c d => by simp only [DV.keys, DV.under, keys_under n d]
  | .pv _ => rfl
  | .e0 => rfl
  | .eptr _ _ => rfl
  | .fnv _ => rfl
  | .raw _ => rfl
  | .any => rfl
theorem keyss_unders (n : Nat) : ∀ l : List DV, DV.keyss (fun k => Nat.blt k n) l = DV.unders n l
  | [] => rfl
  | d :: r => by simp only [DV.keyss, DV.unders, keys_under n d, keyss_unders n r]
end
mutual
theorem ren_under {n m : Nat} {ρ : Nat → Nat} (hρ : ∀ k, k < n → ρ k < m) : ∀ d : DV, d.under n = true → (d.ren ρ).under m = true
  | .agg l, h => by simp only [DV.under, DV.ren] at h ⊢; exact rens_under hρ l h
  | .tup l, h => by simp only [DV.under, DV.ren] at h ⊢; exact rens_under hρ l h
  | .ref k _, h => by simp only [DV.under, DV.ren, Nat.blt_eq] at h ⊢; exact hρ k h
  | .aref k _ _ _, h => by simp only [DV.under, DV.ren, Nat.blt_eq] at h ⊢; exact hρ k h
  | .buf k _, h => by simp only [DV.under, DV.ren, Nat.blt_eq] at h ⊢; exact hρ k h
  | .mp k, h => by simp only [DV.under, DV.ren, Nat.blt_eq] at h ⊢; exact hρ k h
  | .vbuf k _, h => by simp only [DV.under, DV.ren, Nat.blt_eq] at h ⊢; exact hρ k h
  | .clo _ a b, h => by
    simp only [DV.under, DV.ren, Bool.and_eq_true] at h ⊢
    exact ⟨rens_under hρ a h.1, rens_under hρ b h.2⟩
  | .when c d, h => by
    simp only [DV.under, DV.ren] at h ⊢
    cases c with
    | false => rfl
    | true => simpa using ren_under hρ d (by simpa using h)
  | .pv _, _ => rfl
  | .e0, _ => rfl
  | .eptr _ _, _ => rfl
  | .fnv _, _ => rfl
  | .raw _, _ => rfl
  | .any, _ => rfl
theorem rens_under {n m : Nat} {ρ : Nat → Nat} (hρ : ∀ k, k < n → ρ k < m) : ∀ l : List DV, DV.unders n l = true → DV.unders m (DV.rens ρ l) = true
  | [], _ => rfl
  | d :: r, h => by
    simp only [DV.unders, DV.rens, Bool.and_eq_true] at h ⊢
    exact ⟨ren_under hρ d h.1, rens_under hρ r h.2⟩
end
theorem obj_keys {n : Nat} : ∀ {o : DObj}, o.under n = true → o.keys (fun k => Nat.blt k n) = true
  | .var cs, h => by simp only [DObj.under] at h; simp only [DObj.keys]; rw [keyss_unders]; exact h
  | .arr _ _, _ => rfl
  | .fz _, _ => rfl
  | .mp _, _ => rfl
  | .gone, _ => rfl
theorem obj_ren_under {n m : Nat} {ρ : Nat → Nat} (hρ : ∀ k, k < n → ρ k < m) : ∀ {o : DObj}, o.under n = true → (o.ren ρ).under m = true
  | .var cs, h => rens_under hρ cs h
  | .arr _ _, _ => rfl
  | .fz _, _ => rfl
  | .mp _, _ => rfl
  | .gone, _ => rfl
/-- The heap behind a call that sees some objects under other numbers. -/
def DH.mergeR (L : DH) (ρ σ : Nat → Nat) (p : Nat → Bool) (L' : DH) : DH := { L with get := fun k => bif p k then (L'.get (σ k)).map (DObj.ren ρ) else L.get k }
theorem mergeR_in {L L' : DH} {ρ σ : Nat → Nat} {p : Nat → Bool} {k : Nat} (h : p k = true) : (L.mergeR ρ σ p L').get k = (L'.get (σ k)).map (DObj.ren ρ) := by
  simp only [DH.mergeR, h, cond_true]
theorem mergeR_out {L L' : DH} {ρ σ : Nat → Nat} {p : Nat → Bool} {k : Nat} (h : p k = false) : (L.mergeR ρ σ p L').get k = L.get k := by
  simp only [DH.mergeR, h, cond_false]
theorem DC.ren {f : FuncId} {args : List DV} {L H : DH} {K : DV → DH → Prop} (ρ σ : Nat → Nat) (p : Nat → Bool) (h1 : ∀ k, k < H.next → p (ρ k) = true ∧ σ (ρ k) = k ∧ ρ k < L.next) (h2 : ∀ k, p k = true → σ k < H.next ∧ ρ (σ k) = k)
    (hag : ∀ k, k < H.next → H.get k = (L.get (ρ k)).map (DObj.ren σ)) (hkp : ∀ k o, k < H.next → L.get (ρ k) = some o → o.keys p = true) (hnone : ∀ k, H.next ≤ k → H.get k = none) (hlo : H.lo = 0) (hlo' : L.lo = 0)
    (hbase : H.base ≤ H.next) (hkeys : ∀ k o, H.get k = some o → o.under H.next = true) (hargs : DV.keyss p args = true) (hargsU : DV.unders H.next (DV.rens σ args) = true)
    (h : ∀ M, DC P M w0 f (DV.rens σ args) H fun d L' => L'.next = H.next ∧ K (d.ren ρ) (L.mergeR ρ σ p L')) : DC P M w0 f args L K := by
  refine DC.mk ⟨(h M).elim.1, fun μ w vs hr hu hrel => ?_⟩
  have hlt : ∀ k o, H.get k = some o → k < H.next := fun k o hk => by
    rcases Nat.lt_or_ge k H.next with h' | h'
    · exact h'
    · rw [hnone k h'] at hk; cases hk
  have hsub : ∀ k o, H.get k = some o → ∃ o', L.get (ρ k) = some o' ∧ o = o'.ren σ := fun k o hk => by
    rw [hag k (hlt k o hk)] at hk
    exact ren_some hk
  let M' : Nat → Prop := fun b => M b ∨ ∃ k o, p k = false ∧ L.get k = some o ∧ liveAt (μ k) o ∧ (μ k).blk = b
  let μH : Nat → Loc := fun k => μ (ρ k)
  have hin : ∀ k o, p k = true → L.get k = some o → H.get (σ k) = some (o.ren σ) := fun k o hk ho => by
    obtain ⟨g1, g2⟩ := h2 k hk
    rw [hag _ g1, g2, ho]; rfl
  have hT : ∀ b, Tot M' μH H b ↔ Tot M μ L b := fun b => by
    constructor
    · rintro ((hb | ⟨k, o, _, h2, h3, h4⟩) | ⟨k, o, q1, q2, q3⟩)
      · exact .inl hb
      · exact .inr ⟨k, o, h2, h3, h4⟩
      · obtain ⟨o', g1, rfl⟩ := hsub k o q1
        exact .inr ⟨ρ k, o', g1, live_ren.1 q2, q3⟩
    · rintro (hb | ⟨k, o, q1, q2, q3⟩)
      · exact .inl (.inl hb)
      · cases hp : p k with
        | true =>
          obtain ⟨g1, g2⟩ := h2 k hp
          refine .inr ⟨σ k, o.ren σ, hin k o hp q1, ?_, ?_⟩
          · show liveAt (μ (ρ (σ k))) _
            rw [g2]; exact live_ren.2 q2
          · show (μ (ρ (σ k))).blk = b
            rw [g2]; exact q3
        | false => exact .inl (.inr ⟨k, o, hp, q1, q2, q3⟩)
  have hLH : ∀ k, p k = true → H.get (σ k) = (L.get k).map (DObj.ren σ) ∧ μH (σ k) = μ k := fun k hk => by
    obtain ⟨g1, g2⟩ := h2 k hk
    exact ⟨by rw [hag _ g1, g2], by show μ (ρ (σ k)) = μ k; rw [g2]⟩
  have hrH : HR M' w0 μH H w := by
    refine ⟨hr.ext, ?_, fun k o hk => ⟨hlt k o hk, hkeys k o hk⟩, ?_, ?_, ?_, hbase, by rw [hlo]; exact Nat.zero_le _, hr.glb⟩
    · rintro b (hb | ⟨k, o, _, q2, q3, rfl⟩)
      · exact hr.mlt b hb
      · exact (hr.live k o q2 q3).1
    · intro k o hk hl
      obtain ⟨o', g0, rfl⟩ := hsub k o hk
      obtain ⟨g1, g2, g3⟩ := hr.live (ρ k) o' g0 (live_ren.1 hl)
      refine ⟨g1, ?_, fun _ => g3 (by rw [hlo']; exact Nat.zero_le _)⟩
      rintro (hb | ⟨k', o2, hk', q2, q3, q4⟩)
      · exact g2 hb
      · have := hr.inj k' o2 (ρ k) o' q2 q3 g0 (live_ren.1 hl) q4
        rw [this, (h1 k (hlt k _ hk)).1] at hk'
        cases hk'
    · intro k o k' o' q1 q2 q3 q4 q5
      obtain ⟨a, a1, rfl⟩ := hsub k o q1
      obtain ⟨b, b1, rfl⟩ := hsub k' o' q3
      have e := hr.inj (ρ k) a (ρ k') b a1 (live_ren.1 q2) b1 (live_ren.1 q4) q5
      rw [← (h1 k (hlt k _ q1)).2.1, ← (h1 k' (hlt k' _ q3)).2.1, e]
    · intro k o hk
      obtain ⟨o', g0, rfl⟩ := hsub k o hk
      exact (hr.obj (ρ k) o' g0).ren (hkp k o' (hlt k _ hk) g0) rfl (fun b hb => (hT b).1 hb) hLH
  have hrelH : RelVs (Tot M' μH H) w μH H (DV.rens σ args) vs := ⟨by rw [rens_len]; exact hrel.1, fun i d v hd hv => by
    obtain ⟨d0, g1, rfl⟩ := rens_get hd
    exact (hrel.2 i d0 v g1 hv).ren (keyss_iff hargs i d0 g1) (fun b hb => (hT b).1 hb) hLH⟩
  refine ((h M').elim.2 μH w vs hrH hargsU hrelH).mono ?_
  rintro e w' ⟨v, he, μ', d, L', ⟨hn', hK⟩, hr', hv, hdu, hs⟩
  let μL : Nat → Loc := fun k => bif p k then μ' (σ k) else μ k
  have hμin : ∀ k, p k = true → μL k = μ' (σ k) := fun k hk => by show (bif p k then _ else _) = _; rw [hk]; rfl
  have hμout : ∀ k, p k = false → μL k = μ k := fun k hk => by show (bif p k then _ else _) = _; rw [hk]; rfl
  refine ⟨v, he, μL, d.ren ρ, L.mergeR ρ σ p L', hK, ?_⟩
  have hk' : ∀ k o, L'.get k = some o → k < H.next := fun k o hk => by have := (hr'.keys k o hk).1; omega
  have hframe : ∀ k o, p k = false → L.get k = some o → liveAt (μ k) o → w'.heap[(μ k).blk]? = w.heap[(μ k).blk]? := by
    intro k o hk hg hl
    refine hs.same _ (hr.live k o hg hl).1 ?_
    rintro ⟨j, o', q1, q2, q3, q4⟩
    obtain ⟨a, a1, rfl⟩ := hsub j o' q2
    have := hr.inj (ρ j) a k o a1 (live_ren.1 q3) hg hl q4
    rw [← this, (h1 j (hlt j _ q2)).1] at hk
    cases hk
  have hW : ∀ b, Wbl μH H b → Wbl μ L b := by
    rintro b ⟨k, o, q1, q2, q3, q4⟩
    obtain ⟨a, a1, rfl⟩ := hsub k o q2
    exact ⟨ρ k, a, by rw [hlo']; exact Nat.zero_le _, a1, live_ren.1 q3, q4⟩
  have hback : ∀ k o, p k = true → (L.mergeR ρ σ p L').get k = some o → ∃ o', L'.get (σ k) = some o' ∧ o = o'.ren ρ := fun k o hk ho => by
    rw [mergeR_in hk] at ho
    exact ren_some ho
  have hstp : Stp L μ w (L.mergeR ρ σ p L') μL w' := by
    refine ⟨⟨?_, ?_, ?_, ?_⟩, hs.os, hs.tape, hs.output, hs.size, fun b hb hn => hs.same b hb fun hw => hn (hW b hw), ?_, Nat.le_refl _, rfl, rfl⟩
    · intro k cs' hkl hc
      cases hp : p k with
      | true =>
        rw [mergeR_in hp] at hc
        rw [hμin k hp]
        obtain ⟨c0, g1, _⟩ := ren_var hc
        obtain ⟨cs, g2, g3⟩ := hs.evo.var (σ k) c0 (h2 k hp).1 g1
        obtain ⟨a, a1, a2⟩ := hsub (σ k) _ g2
        rw [(h2 k hp).2] at a1
        cases a with
        | var ca => exact ⟨ca, a1, by rw [g3]; show μ (ρ (σ k)) = μ k; rw [(h2 k hp).2]⟩
        | arr => simp [DObj.ren] at a2
        | fz => simp [DObj.ren] at a2
        | mp => simp [DObj.ren] at a2
        | gone => simp [DObj.ren] at a2
      | false =>
        rw [mergeR_out hp] at hc
        rw [hμout k hp]
        exact ⟨cs', hc, rfl⟩
    · intro k cs' hkl hc
      cases hp : p k with
      | true =>
        rw [mergeR_in hp] at hc
        rw [hμin k hp]
        obtain ⟨cs, g2, g3⟩ := hs.evo.mp (σ k) cs' (h2 k hp).1 (ren_mp hc)
        obtain ⟨a, a1, a2⟩ := hsub (σ k) _ g2
        rw [(h2 k hp).2] at a1
        have a3 := ren_mp (ρ := σ) (o := some a) (es := cs) (by rw [a2]; rfl)
        exact ⟨cs, by rw [a1]; exact a3, by rw [g3]; show μ (ρ (σ k)) = μ k; rw [(h2 k hp).2]⟩
      | false =>
        rw [mergeR_out hp] at hc
        rw [hμout k hp]
        exact ⟨cs', hc, rfl⟩
    · intro k sz es' hkl hc
      cases hp : p k with
      | true =>
        rw [mergeR_in hp] at hc
        rw [hμin k hp]
        obtain ⟨es, g2, g3⟩ := hs.evo.arr (σ k) sz es' (h2 k hp).1 (ren_arr hc)
        obtain ⟨a, a1, a2⟩ := hsub (σ k) _ g2
        rw [(h2 k hp).2] at a1
        have a3 := ren_arr (ρ := σ) (o := some a) (sz := sz) (es := es) (by rw [a2]; rfl)
        refine ⟨es, by rw [a1]; exact a3, ?_⟩
        rcases g3 with g3 | ⟨g3, g4⟩
        · exact .inl g3
        · exact .inr ⟨g3, by rw [g4]; show μ (ρ (σ k)) = μ k; rw [(h2 k hp).2]⟩
      | false =>
        rw [mergeR_out hp] at hc
        rw [hμout k hp]
        exact ⟨es', hc, .inr ⟨rfl, rfl⟩⟩
    · intro k es' hkl hc
      cases hp : p k with
      | true =>
        rw [mergeR_in hp] at hc
        rw [hμin k hp]
        have em : μH (σ k) = μ k := by show μ (ρ (σ k)) = μ k; rw [(h2 k hp).2]
        rcases hs.evo.fz (σ k) es' (h2 k hp).1 (ren_fz hc) with ⟨g2, g3⟩ | ⟨sz, es, g2, g3, g4⟩
        · obtain ⟨a, a1, a2⟩ := hsub (σ k) _ g2
          rw [(h2 k hp).2] at a1
          have a3 := ren_fz (ρ := σ) (o := some a) (es := es') (by rw [a2]; rfl)
          exact .inl ⟨by rw [a1]; exact a3, by rw [g3]; exact em⟩
        · obtain ⟨a, a1, a2⟩ := hsub (σ k) _ g2
          rw [(h2 k hp).2] at a1
          have a3 := ren_arr (ρ := σ) (o := some a) (sz := sz) (es := es) (by rw [a2]; rfl)
          refine .inr ⟨sz, es, by rw [a1]; exact a3, g3, ?_⟩
          rcases g4 with g4 | ⟨g4, g5⟩
          · exact .inl g4
          · exact .inr ⟨g4, by rw [g5]; exact em⟩
      | false =>
        rw [mergeR_out hp] at hc
        rw [hμout k hp]
        exact .inl ⟨hc, rfl⟩
    · intro k o hc hl
      cases hp : p k with
      | true =>
        obtain ⟨o', g1, rfl⟩ := hback k o hp hc
        rw [hμin k hp] at hl ⊢
        rcases hs.blk (σ k) o' g1 (live_ren.1 hl) with ⟨q1, ⟨o0, q2, q3⟩, q4⟩ | q1
        · obtain ⟨a, a1, rfl⟩ := hsub (σ k) _ q2
          rw [(h2 k hp).2] at a1
          have em : μH (σ k) = μ k := by show μ (ρ (σ k)) = μ k; rw [(h2 k hp).2]
          rw [em] at q3 q4
          exact .inl ⟨(hr.keys k a a1).1, ⟨a, a1, live_ren.1 q3⟩, q4⟩
        · exact .inr q1
      | false =>
        rw [mergeR_out hp] at hc
        rw [hμout k hp] at hl ⊢
        exact .inl ⟨(hr.keys k o hc).1, ⟨o, hc, hl⟩, rfl⟩
  have hT' : ∀ b, Tot M μL (L.mergeR ρ σ p L') b → Tot M' μ' L' b := by
    rintro b (hb | ⟨k, o, q1, q2, q3⟩)
    · exact .inl (.inl hb)
    · cases hp : p k with
      | true =>
        obtain ⟨o', g1, rfl⟩ := hback k o hp q1
        rw [hμin k hp] at q2 q3
        exact .inr ⟨σ k, o', g1, live_ren.1 q2, q3⟩
      | false =>
        rw [mergeR_out hp] at q1
        rw [hμout k hp] at q2 q3
        exact .inl (.inr ⟨k, o, hp, q1, q2, q3⟩)
  have hL' : ∀ k, Nat.blt k H.next = true → (L.mergeR ρ σ p L').get (ρ k) = (L'.get k).map (DObj.ren ρ) ∧ μL (ρ k) = μ' k := fun k hk => by
    have hk : k < H.next := by simpa using hk
    obtain ⟨g1, g2, _⟩ := h1 k hk
    exact ⟨by rw [mergeR_in g1, g2], by rw [hμin _ g1, g2]⟩
  have hnew : ∀ k o, L'.get k = some o → liveAt (μ' k) o → ∀ j oj, p j = false → L.get j = some oj → liveAt (μ j) oj → (μ' k).blk ≠ (μ j).blk := by
    intro k o hk hl j oj hj q2 q3 he
    exact (hr'.live k o hk hl).2.1 (.inr ⟨j, oj, hj, q2, q3, he.symm⟩)
  have hdk : d.keys (fun k => Nat.blt k H.next) = true := by rw [keys_under, ← hn']; exact hdu
  have hρu : ∀ k, k < H.next → ρ k < L.next := fun k hk => (h1 k hk).2.2
  refine ⟨⟨hr'.ext, fun b hb => hr'.mlt b (.inl hb), ?_, ?_, ?_, ?_, hr.base, hr.lob, hr.glb⟩, hv.ren hdk hT' hL', ren_under hρu d (by rw [← hn']; exact hdu), hstp⟩
  · intro k o hk
    cases hp : p k with
    | true =>
      obtain ⟨o', g1, rfl⟩ := hback k o hp hk
      have g2 := (hr'.keys (σ k) o' g1).2
      rw [hn'] at g2
      have := hρu (σ k) (h2 k hp).1
      rw [(h2 k hp).2] at this
      exact ⟨this, obj_ren_under hρu g2⟩
    | false => rw [mergeR_out hp] at hk; exact hr.keys k o hk
  · intro k o hk hl
    cases hp : p k with
    | true =>
      obtain ⟨o', g1, rfl⟩ := hback k o hp hk
      rw [hμin k hp] at hl ⊢
      obtain ⟨q1, q2, q3⟩ := hr'.live (σ k) o' g1 (live_ren.1 hl)
      refine ⟨q1, fun hM => q2 (.inl hM), fun _ => q3 (by rw [hs.lo, hlo]; exact Nat.zero_le _)⟩
    | false =>
      rw [mergeR_out hp] at hk
      rw [hμout k hp] at hl ⊢
      obtain ⟨q1, q2, q3⟩ := hr.live k o hk hl
      exact ⟨Nat.lt_of_lt_of_le q1 hs.size, q2, q3⟩
  · intro k o k' o' q1 q2 q3 q4 q5
    cases hp : p k with
    | true =>
      cases hp' : p k' with
      | true =>
        obtain ⟨a, a1, rfl⟩ := hback k o hp q1
        obtain ⟨b, b1, rfl⟩ := hback k' o' hp' q3
        rw [hμin k hp] at q2 q5
        rw [hμin k' hp'] at q4 q5
        have e := hr'.inj (σ k) a (σ k') b a1 (live_ren.1 q2) b1 (live_ren.1 q4) q5
        rw [← (h2 k hp).2, ← (h2 k' hp').2, e]
      | false =>
        obtain ⟨a, a1, rfl⟩ := hback k o hp q1
        rw [mergeR_out hp'] at q3
        rw [hμin k hp] at q2 q5
        rw [hμout k' hp'] at q4 q5
        exact absurd q5 (hnew (σ k) a a1 (live_ren.1 q2) k' o' hp' q3 q4)
    | false =>
      cases hp' : p k' with
      | true =>
        obtain ⟨b, b1, rfl⟩ := hback k' o' hp' q3
        rw [mergeR_out hp] at q1
        rw [hμout k hp] at q2 q5
        rw [hμin k' hp'] at q4 q5
        exact absurd q5.symm (hnew (σ k') b b1 (live_ren.1 q4) k o hp q1 q2)
      | false =>
        rw [mergeR_out hp] at q1
        rw [mergeR_out hp'] at q3
        rw [hμout k hp] at q2 q5
        rw [hμout k' hp'] at q4 q5
        exact hr.inj k o k' o' q1 q2 q3 q4 q5
  · intro k o hk
    cases hp : p k with
    | true =>
      obtain ⟨a, a1, rfl⟩ := hback k o hp hk
      have g2 := (hr'.keys (σ k) a a1).2
      rw [hn'] at g2
      exact (hr'.obj (σ k) a a1).ren (obj_keys g2) (hμin k hp) hT' hL'
    | false =>
      rw [mergeR_out hp] at hk
      exact (hr.obj k o hk).stp hstp (hμout k hp) (hframe k o hp hk) (hr.keys k o hk).2

/-! the renaming told by a list: key k of the callee's heap is the k-th of the list -/
def rhoR (rs : List Nat) (k : Nat) : Nat := rs.getD k 0
def memR : List Nat → Nat → Bool
  | [], _ => false
  | x :: r, k => bif Nat.beq k x then true else memR r k
def sigR : List Nat → Nat → Nat
  | [], _ => 0
  | x :: r, k => bif Nat.beq k x then 0 else sigR r k + 1
def nodR : List Nat → Bool
  | [] => true
  | x :: r => bif memR r x then false else nodR r
theorem sigR_in : ∀ {rs : List Nat} {k : Nat}, memR rs k = true → sigR rs k < rs.length ∧ rhoR rs (sigR rs k) = k
  | [], _, h => by cases h
  | x :: r, k, h => by
    cases hk : Nat.beq k x with
    | true =>
      have e : k = x := Nat.eq_of_beq_eq_true hk
      simp only [sigR, hk, cond_true]
      exact ⟨by simp, e.symm⟩
    | false =>
      simp only [memR, hk, cond_false] at h
      obtain ⟨h1, h2⟩ := sigR_in h
      simp only [sigR, hk, cond_false]
      exact ⟨by simpa using h1, by simpa [rhoR] using h2⟩
theorem memR_get : ∀ {rs : List Nat} {i : Nat}, i < rs.length → memR rs (rhoR rs i) = true
  | [], _, h => by simp at h
  | x :: r, 0, _ => by simp [rhoR, memR, Nat.beq_refl]
  | x :: r, i + 1, h => by
    have := memR_get (rs := r) (i := i) (by simpa using h)
    have e : rhoR (x :: r) (i + 1) = rhoR r i := by simp [rhoR]
    rw [e, memR]
    cases Nat.beq (rhoR r i) x with
    | true => rfl
    | false => exact this
theorem sigR_get : ∀ {rs : List Nat} {i : Nat}, nodR rs = true → i < rs.length → sigR rs (rhoR rs i) = i
  | [], _, _, h => by simp at h
  | x :: r, 0, _, _ => by simp [rhoR, sigR, Nat.beq_refl]
  | x :: r, i + 1, hn, h => by
    have e : rhoR (x :: r) (i + 1) = rhoR r i := by simp [rhoR]
    have hi : i < r.length := by simpa using h
    rw [nodR] at hn
    cases hm : memR r x with
    | true => rw [hm] at hn; cases hn
    | false =>
      rw [hm, cond_false] at hn
      have h1 := sigR_get hn hi
      have h2 := memR_get hi
      rw [e, sigR]
      cases hb : Nat.beq (rhoR r i) x with
      | true => rw [Nat.eq_of_beq_eq_true hb, hm] at h2; cases h2
      | false => rw [cond_false, h1]
def agrR (g g' : Nat → Option DObj) (rs : List Nat) : Nat → Prop
  | 0 => True
  | n + 1 => (g n = (g' (rhoR rs n)).map (DObj.ren (sigR rs)) ∧ (g' (rhoR rs n)).elim true (DObj.keys (memR rs)) = true) ∧ agrR g g' rs n
theorem agrR_lt {g g' : Nat → Option DObj} {rs : List Nat} : ∀ {n : Nat}, agrR g g' rs n → ∀ k, k < n → g k = (g' (rhoR rs k)).map (DObj.ren (sigR rs)) ∧ (g' (rhoR rs k)).elim true (DObj.keys (memR rs)) = true
  | 0, _, k, h => by omega
  | n + 1, ha, k, h => by
    by_cases e : k = n
    · subst e; exact ha.1
    · exact agrR_lt ha.2 k (by omega)
theorem DC.callR {f : FuncId} {args : List DV} {L : DH} {K : DV → DH → Prop} (rs : List Nat) (Hl : List (Nat × DObj)) (hn : nodR rs = true) (hlt : (rs.all fun k => Nat.blt k L.next) = true) (hlo : L.lo = 0) (hag : agrR (objsOf Hl) L.get rs rs.length)
    (hu : wkU rs.length [] Hl = true) (hargs : DV.keyss (memR rs) args = true) (hargsU : DV.unders rs.length (DV.rens (sigR rs) args) = true)
    (h : ∀ M, DC P M w0 f (DV.rens (sigR rs) args) ⟨rs.length, 0, rs.length, objsOf Hl⟩ fun d L' => L'.next = rs.length ∧ K (d.ren (rhoR rs)) (L.mergeR (rhoR rs) (sigR rs) (memR rs) L')) : DC P M w0 f args L K := by
  simp only [wkU, List.all_nil, Bool.true_and, List.all_eq_true, Bool.and_eq_true] at hu
  refine DC.ren (H := ⟨rs.length, 0, rs.length, objsOf Hl⟩) (rhoR rs) (sigR rs) (memR rs) (fun k hk => ⟨memR_get hk, sigR_get hn hk, ?_⟩) (fun k hk => sigR_in hk) (fun k hk => (agrR_lt hag k hk).1) (fun k o hk ho => ?_) (fun k hk => ?_) rfl hlo (Nat.le_refl _)
    (fun k o hk => (hu _ (objsOf_mem hk)).2) hargs hargsU h
  · rw [List.all_eq_true] at hlt
    have hk : k < rs.length := hk
    have := hlt (rhoR rs k) (by rw [rhoR, List.getD_eq_getElem?_getD, List.getElem?_eq_getElem hk]; exact List.getElem_mem hk)
    simpa using this
  · have := (agrR_lt hag k hk).2
    rw [ho] at this
    exact this
  · cases hg : objsOf Hl k with
    | none => exact hg
    | some o =>
      have := (hu _ (objsOf_mem hg)).1
      have h1 : k < rs.length := by simpa using this
      have h2 : rs.length ≤ k := hk
      omega
end
end Go.Dv
namespace Go.Dv
section
variable {P : Program} {M : Nat → Prop} {w0 : World}

theorem whenOff {c : Bool} {A B : DV → Prop} (hc : c = false) (h2 : B (.pv (.bool false))) : WhenQ (fun d => c = true → A d) B :=
  WhenQ.mk (d := .pv (.bool false)) (fun h => by rw [hc] at h; cases h) h2
/-! operations at objects that are told by a hypothesis -/
/-! own arrays lent to a call -/
/-! a poorer state whose last objects are told by a property -/
end
end Go.Dv
set_option maxRecDepth 100000
set_option maxHeartbeats 4000000
namespace Go.Proofs.YtjdmfhggokfflaaDoor
open Go Go.Dv

theorem updI_ok {m : Mo} {a : Act} (h : (updI m a).2.2 = 0) : moaI m a = 0 ∧ (updI m a).2.1 = pairsL m a ∧ (updI m a).1 = prodM m a (pairsL m a) ∧ 1 ≤ (pairsL m a).length ∧ (pairsL m a).length ≤ 64 := by
  unfold updI at h ⊢
  cases h1 : ((worldsI m a).2 != 0) with
  | true => rw [h1] at h; simp only [cond_true] at h; rw [h] at h1; cases h1
  | false =>
    rw [h1] at h
    obtain ⟨k1, k2, k3⟩ := worldsI_ok (m := m) (a := a) (by simpa using h1)
    cases h2 : decide (((worldsI m a).1.length : Int) > 64) with
    | true => rw [h2] at h; cases h
    | false =>
      have := of_decide_eq_false h2
      rw [k2] at this
      refine ⟨k1, ?_, ?_, k3, by omega⟩
      · rw [k2]; rfl
      · rw [k2]; rfl
theorem getD_map_range {β : Type} {f : Nat → β} {n i : Nat} {d : β} (h : i < n) : ((List.range n).map f).getD i d = f i := by
  rw [List.getD_eq_getElem?_getD, List.getElem?_map, List.getElem?_range h]; rfl
end Go.Proofs.YtjdmfhggokfflaaDoor
set_option maxRecDepth 100000
set_option maxHeartbeats 4000000
namespace Go.Proofs.YtjdmfhggokfflaaDoor
open Go Go.Dv

section
variable {n N : Nat} {φ : Nat → Nat}
end
section
variable {m p : Mo} {n N : Nat} {φ : Nat → Nat}
theorem join_or {rel : List (List Nat)} {g : Int} {w j : Nat} : ∀ i, (joinA orF rel g 0 w i).testBit j = true ↔ ∃ a, a < i ∧ (and64 (shr64 g a) 1 == 1) = true ∧ ((rel.getD a []).getD w 0).testBit j = true
  | 0 => by
    rw [joinA, Nat.zero_testBit]
    exact ⟨fun h => (by cases h), fun ⟨a, h, _⟩ => (by omega)⟩
  | i + 1 => by
    have ih := join_or (rel := rel) (g := g) (w := w) (j := j) i
    rw [joinA]
    cases hg : (and64 (shr64 g i) 1 == 1) with
    | false =>
      rw [cond_false, ih]
      constructor
      · rintro ⟨a, h1, h2⟩; exact ⟨a, by omega, h2⟩
      · rintro ⟨a, h1, h2, h3⟩
        by_cases e : a = i
        · rw [e, hg] at h2; cases h2
        · exact ⟨a, by omega, h2, h3⟩
    | true =>
      rw [cond_true, orF, Nat.testBit_or, Bool.or_eq_true, ih]
      constructor
      · rintro (⟨a, h1, h2⟩ | h)
        · exact ⟨a, by omega, h2⟩
        · exact ⟨i, by omega, hg, h⟩
      · rintro ⟨a, h1, h2, h3⟩
        by_cases e : a = i
        · exact .inr (by rw [← e]; exact h3)
        · exact .inl ⟨a, by omega, h2, h3⟩
theorem grpM_get {op : Nat → Nat → Nat} {m : Mo} {g : Int} {first n w : Nat} (hM : OkM m n) (hb : badGM m g = false) (hw : w < n) : (grpM op m g first).getD w 0 = joinA op m.rel g first w m.rel.length := by
  rw [grpM, hb, hM.nn, Int.toNat_natCast]
  exact getD_map_range hw
theorem orF_lt (n : Nat) : ∀ x y, x < 2 ^ n → y < 2 ^ n → orF x y < 2 ^ n := fun _ _ h1 h2 => Nat.or_lt_two_pow h1 h2
theorem andF_lt (n : Nat) : ∀ x y, x < 2 ^ n → y < 2 ^ n → andF x y < 2 ^ n := fun x _ _ h2 => Nat.and_lt_two_pow x h2
theorem holds_split {m : Mo} {f : List Nd} (h : (holdsI m f).2 = 0) : reqI m f = 0 ∧ holdsI m f = (vlT m m.n.toNat (root f), 0) := by
  by_cases q : reqI m f = 0
  · exact ⟨q, by rw [holdsI, q]; rfl⟩
  · rw [holdsI, show (reqI m f != 0) = true by simpa using q] at h
    exact absurd h q
/-! formulas that are put together -/
theorem bin_canX {x : Nd} {f g : List Nd} (hf : Can f) (hg : Can g) (hx : usesX x.op = true) (hy : usesY x.op = true) (hok : OkNd (binN x f g) (f ++ g.map (shN f.length)).length) (hs : f.length + g.length + 1 ≤ 200) :
    Can (buildL x [f, g]) ∧ root (buildL x [f, g]) = .nd x.op x.i x.e x.g (root f) (root g) ∧ (buildL x [f, g]).length ≤ f.length + g.length + 1 := by
  have hp := hf.pos
  have hq := hg.pos
  have hA := okl_append hf.ok hg.ok
  have hF := okl_snoc hA hok
  obtain ⟨u1, u2⟩ := bin_last hf.ok hg.ok hp hq
  have hl : 1 ≤ (f ++ g.map (shN f.length)).length := by rw [List.length_append]; omega
  have hT : tree (f ++ g.map (shN f.length) ++ [binN x f g]) (f ++ g.map (shN f.length)).length = .nd x.op x.i x.e x.g (root f) (root g) := by
    rw [tree_nd hF (x := binN x f g) (by simp)]
    simp only [show (binN x f g).op = x.op from rfl, hx, hy, cond_true]
    have n1 : (binN x f g).x.toNat = f.length - 1 := by show ((f.length : Int) - 1).toNat = _; omega
    have n2 : (binN x f g).y.toNat = (f ++ g.map (shN f.length)).length - 1 := by show (((f ++ g.map (shN f.length)).length : Int) - 1).toNat = _; omega
    rw [n1, n2, tree_append hA (by rw [List.length_append]; omega), tree_append hA (by omega), u1, u2]; rfl
  have hk : (f ++ g.map (shN f.length)).length < (f ++ g.map (shN f.length) ++ [binN x f g]).length := by simp
  have h1 := canon_can hF (by simp only [List.length_append, List.length_map, List.length_singleton]; omega) hk
  have h2 := (canon_root hF hk).2
  have e : buildL x [f, g] = canon (f ++ g.map (shN f.length) ++ [binN x f g]) (f ++ g.map (shN f.length)).length := by
    rw [build_bin x f g hx hy]
    refine bin_tree (t := canon (f ++ g.map (shN f.length) ++ [binN x f g]) (f ++ g.map (shN f.length)).length) hf hg hx hy hok ?_ h1.len
    rw [canon_tree hF hk, hT]
  rw [e]
  refine ⟨h1, h2.trans hT, ?_⟩
  have := canon_len (f := f ++ g.map (shN f.length) ++ [binN x f g]) hF.wf hk
  simp only [List.length_append, List.length_map] at this ⊢
  exact this
theorem buildL_comp2 {x : Nd} {f g : List Nd} (h : check f = 0) (h' : check g = 0) : buildL x [f, g] = buildL x [comp f, comp g] := by
  simp [buildL, bfold, h, comp_check h, h', comp_check h', bstep, comp_comp h, comp_comp h']
theorem check_stat {A F : Nat} {f : List Nd} (h : statI A F f = 0) : check f = 0 := (statM_iff.1 h).1
theorem stat_can {A F : Nat} {f : List Nd} (h : Can f) (ha : allT (stM A F) (root f) = true) : statI A F f = 0 := by
  refine statM_iff.2 ⟨h.check, fun x hx => ?_⟩
  rw [comp_root h.check] at hx
  exact finT_all (Q := stM A F) _ _ ha (by simp) x hx
theorem can_stat {A F : Nat} {f : List Nd} (h : statI A F f = 0) : Can (comp f) ∧ (comp f).length ≤ f.length ∧ root (comp f) = root f ∧ allT (stM A F) (root f) = true := by
  obtain ⟨h1, h2⟩ := statM_iff.1 h
  refine ⟨comp_can h1, comp_le h1, root_comp h1, ?_⟩
  rw [← root_comp h1]
  exact trn_all h2 _ _
/-- Common knowledge of a group, put together. -/
theorem common_stat {A F g : Nat} {f : List Nd} (hA : A ≤ 4) (h1 : 1 ≤ g) (hg : g < 2 ^ A) (hs : statI A F f = 0) (hl : f.length ≤ 150) : statI A F (buildL (nG 13 g) [buildL (n0 1) [], f]) = 0 ∧ root (buildL (nG 13 g) [buildL (n0 1) [], f]) = .nd 13 0 0 g (.nd 1 0 0 0 .none .none) (root f) := by
  obtain ⟨hc, hle, hr, ha⟩ := can_stat hs
  have hp := hc.pos
  have ht : check (buildL (n0 1) []) = 0 := by decide +kernel
  have ht2 : Can (buildL (n0 1) []) := by have := comp_can ht; rw [comp_true] at this; exact this
  have hl1 : (buildL (n0 1) []).length = 1 := by decide +kernel
  rw [buildL_comp2 ht (check_stat hs), comp_true]
  have h16 : g < 16 := Nat.lt_of_lt_of_le hg (Nat.pow_le_pow_right (by decide) (show A ≤ 4 from hA))
  have hok : OkNd (binN (nG 13 g) (buildL (n0 1) []) (comp f)) (buildL (n0 1) [] ++ (comp f).map (shN (buildL (n0 1) []).length)).length := by
    constructor <;> simp [nG, binN, usesX, usesY, isAgent, isGroup, hl1] <;> omega
  obtain ⟨g1, g2, _⟩ := bin_canX (x := nG 13 g) ht2 hc rfl rfl hok (by omega)
  rw [hr, true_root] at g2
  refine ⟨stat_can g1 ?_, g2⟩
  rw [g2]
  have h0 : stM A F 13 0 0 g = true := by
    simp only [stM, Bool.and_eq_true, decide_eq_true_eq]
    exact ⟨⟨show 8 < 16 by decide, show ((g : Int)).toNat < 2 ^ A by rw [Int.toNat_natCast]; exact hg⟩, Nat.two_pow_pos F⟩
  have h01 : stM A F 1 0 0 0 = true := by
    simp only [stM, Bool.and_eq_true, decide_eq_true_eq]
    exact ⟨⟨show 0 < 16 by decide, Nat.two_pow_pos A⟩, Nat.two_pow_pos F⟩
  show (stM A F 13 0 0 g && (stM A F 1 0 0 0 && true && true) && allT (stM A F) (root f)) = true
  rw [h0, h01, ha]; rfl
theorem common_holds {m : Mo} {n g : Nat} {f : List Nd} (hM : OkM m n) (h1 : 1 ≤ g) (hg : g < 2 ^ m.rel.length) (hf : (holdsI m f).2 = 0) (hl : f.length ≤ 150) :
    holdsI m (buildL (nG 13 g) [buildL (n0 1) [], f]) = (comN n (grpM orF m g 0) (2 ^ n - 1) (holdsI m f).1, 0) := by
  obtain ⟨h2, h3⟩ := holds_split hf
  obtain ⟨_, h4⟩ := reqI_ok h2
  obtain ⟨k1, k2⟩ := common_stat hM.ag h1 hg h4 hl
  have h5 : reqI m (buildL (nG 13 g) [buildL (n0 1) [], f]) = 0 := by rw [reqI, ok_moI hM]; exact k1
  rw [h3, holdsI, h5, k2, hM.nn, Int.toNat_natCast]; rfl
end
end Go.Proofs.YtjdmfhggokfflaaDoor
set_option maxRecDepth 100000
set_option maxHeartbeats 4000000
namespace Go.Proofs.YtjdmfhggokfflaaDoor
open Go Go.Dv

/-- Where each fact is true. -/
def hatV (c : Nat) : List Nat := (List.range c).map fun p => maskOf (fun v => v.testBit p) (2 ^ c)
/-- The worlds that an agent that sees some facts cannot tell apart. -/
def hatC (s n w : Nat) : Nat := maskOf (fun v => (w &&& s) == (v &&& s)) n
def hatR (s n : Nat) : List Nat := (List.range n).map fun w => hatC s n w
def hatM (c : Nat) (l : List Nat) : Mo := ⟨((2 ^ c : Nat) : Int), hatV c, l.map fun s => hatR s (2 ^ c)⟩
def facF (i : Nat) : List Nd := buildL (nI 3 i) []
def whyG (a i : Nat) : List Nd := buildL (n0 6) [buildL (nI 9 a) [facF i], buildL (nI 9 a) [buildL (n0 4) [facF i]]]
theorem whyG_root : ∀ a : Nat, a < 4 → ∀ i : Nat, i < 4 → root (whyG a i) = .nd 6 0 0 0 (.nd 9 a 0 0 (.nd 3 i 0 0 .none .none) .none) (.nd 9 a 0 0 (.nd 4 0 0 0 (.nd 3 i 0 0 .none .none) .none) .none) := by decide +kernel
theorem whyG_stat : ∀ c : Nat, c < 5 → ∀ a : Nat, a < c → ∀ i : Nat, i < c → statI c c (whyG a i) = 0 := by decide +kernel
theorem whyG_len : ∀ a : Nat, a < 4 → ∀ i : Nat, i < 4 → (whyG a i).length ≤ 150 ∧ (((whyG a i).length : Int) == 0) = false := by decide +kernel
structure HatOk (c : Nat) (l : List Nat) : Prop where
  c1 : 1 ≤ c
  c4 : c ≤ 4
  len : l.length = c
  lt : ∀ s, s ∈ l → s < 2 ^ c
variable {c : Nat} {l : List Nat}
theorem hat_pow (h : HatOk c l) : 2 ≤ 2 ^ c ∧ 2 ^ c ≤ 16 := ⟨Nat.pow_le_pow_right (n := 2) (i := 1) (by decide) h.c1, Nat.pow_le_pow_right (n := 2) (j := 4) (by decide) h.c4⟩
theorem hat_okm (h : HatOk c l) : OkM (hatM c l) (2 ^ c) := by
  obtain ⟨h1, h2⟩ := hat_pow h
  have h3 := h.c4
  have h4 := h.len
  refine ⟨rfl, by omega, by omega, by simp [hatM]; omega, by simp [hatM, hatV]; omega, fun r hr => ?_, fun s hs => ?_, fun r hr s hs => ?_⟩
  · obtain ⟨s, _, rfl⟩ := List.mem_map.1 hr
    simp [hatR]
  · obtain ⟨p, _, rfl⟩ := List.mem_map.1 hs
    exact maskOf_lt _ _
  · obtain ⟨s0, _, rfl⟩ := List.mem_map.1 hr
    obtain ⟨w, _, rfl⟩ := List.mem_map.1 hs
    exact maskOf_lt _ _
theorem hat_row (h : HatOk c l) {a : Nat} (ha : a < c) : (hatM c l).rel.getD a [] = hatR (l.getD a 0) (2 ^ c) := by
  have : a < l.length := by rw [h.len]; exact ha
  show (l.map fun s => hatR s (2 ^ c)).getD a [] = _
  rw [List.getD_eq_getElem?_getD, List.getElem?_map, getD_mem this (d := 0)]; rfl
theorem hat_val (c : Nat) {i : Nat} (hi : i < c) : (hatM c l).val.getD i 0 = maskOf (fun v => v.testBit i) (2 ^ c) := getD_map_range hi
theorem hatR_bit {s n w v : Nat} (hw : w < n) : ((hatR s n).getD w 0).testBit v = true ↔ v < n ∧ w &&& s = v &&& s := by
  rw [hatR, getD_map_range hw, hatC, maskOf_bit, Bool.and_eq_true, decide_eq_true_eq, beq_iff_eq]
/-- Where an agent that sees some facts knows whether one is true. -/
def hatW (s n i : Nat) : Nat := boxN n (hatR s n) (maskOf (fun v => v.testBit i) n) ||| boxN n (hatR s n) (notN n (maskOf (fun v => v.testBit i) n))
theorem hatW_bit {s c i w : Nat} (hi : i < c) (hw : w < 2 ^ c) : (hatW s (2 ^ c) i).testBit w = s.testBit i := by
  rw [hatW, Nat.testBit_or]
  cases hs : s.testBit i with
  | true =>
    have key : ∀ v, w &&& s = v &&& s → w.testBit i = v.testBit i := fun v h => by
      have := congrArg (fun z => Nat.testBit z i) h
      simpa [Nat.testBit_and, hs] using this
    cases hb : w.testBit i with
    | true =>
      have : (boxN (2 ^ c) (hatR s (2 ^ c)) (maskOf (fun v => v.testBit i) (2 ^ c))).testBit w = true := boxN_bit.2 ⟨hw, fun v hv => by
        obtain ⟨h1, h2⟩ := (hatR_bit hw).1 hv
        rw [maskOf_bit, decide_eq_true h1, ← key v h2, hb]; rfl⟩
      rw [this]; rfl
    | false =>
      have : (boxN (2 ^ c) (hatR s (2 ^ c)) (notN (2 ^ c) (maskOf (fun v => v.testBit i) (2 ^ c)))).testBit w = true := boxN_bit.2 ⟨hw, fun v hv => by
        obtain ⟨h1, h2⟩ := (hatR_bit hw).1 hv
        rw [notN, maskOf_bit, maskOf_bit, decide_eq_true h1, ← key v h2, hb]; rfl⟩
      rw [this, Bool.or_true]
  | false =>
    have hx : w ^^^ 2 ^ i < 2 ^ c := Nat.xor_lt_two_pow hw (Nat.pow_lt_pow_right (by decide) hi)
    have hin : ((hatR s (2 ^ c)).getD w 0).testBit (w ^^^ 2 ^ i) = true := (hatR_bit hw).2 ⟨hx, by
      apply Nat.eq_of_testBit_eq
      intro j
      rw [Nat.testBit_and, Nat.testBit_and, Nat.testBit_xor, Nat.testBit_two_pow]
      by_cases hj : i = j
      · subst hj; rw [hs]; simp
      · rw [decide_eq_false hj]; simp⟩
    have hself : ((hatR s (2 ^ c)).getD w 0).testBit w = true := (hatR_bit hw).2 ⟨hw, rfl⟩
    have hfl : (w ^^^ 2 ^ i).testBit i = !w.testBit i := by rw [Nat.testBit_xor, Nat.testBit_two_pow]; simp
    have b1 : (boxN (2 ^ c) (hatR s (2 ^ c)) (maskOf (fun v => v.testBit i) (2 ^ c))).testBit w = false := by
      rw [← Bool.not_eq_true, boxN_bit]
      rintro ⟨_, hsub⟩
      have h1 := hsub _ hself
      have h2 := hsub _ hin
      rw [maskOf_bit, decide_eq_true hw] at h1
      rw [maskOf_bit, decide_eq_true hx, hfl] at h2
      rw [show w.testBit i = true from h1] at h2
      cases h2
    have b2 : (boxN (2 ^ c) (hatR s (2 ^ c)) (notN (2 ^ c) (maskOf (fun v => v.testBit i) (2 ^ c)))).testBit w = false := by
      rw [← Bool.not_eq_true, boxN_bit]
      rintro ⟨_, hsub⟩
      have h1 := hsub _ hself
      have h2 := hsub _ hin
      rw [notN, maskOf_bit, maskOf_bit, decide_eq_true hw] at h1
      rw [notN, maskOf_bit, maskOf_bit, decide_eq_true hx, hfl] at h2
      have h1 : w.testBit i = false := by simpa using h1
      rw [h1] at h2
      cases h2
    rw [b1, b2]; rfl
theorem hatW_lt (s n i : Nat) : hatW s n i < 2 ^ n := Nat.or_lt_two_pow (boxN_lt _ _ _) (boxN_lt _ _ _)
theorem hatW_eq {s c i : Nat} (hi : i < c) : hatW s (2 ^ c) i = bif s.testBit i then 2 ^ (2 ^ c) - 1 else 0 := by
  apply Nat.eq_of_testBit_eq
  intro w
  by_cases hw : w < 2 ^ c
  · rw [hatW_bit hi hw]
    cases s.testBit i with
    | true => rw [cond_true, Nat.testBit_two_pow_sub_one, decide_eq_true hw]
    | false => rw [cond_false, Nat.zero_testBit]
  · have h1 : (hatW s (2 ^ c) i).testBit w = false := by
      rw [← Bool.not_eq_true]
      exact fun h => hw (bit_lt (hatW_lt s (2 ^ c) i) h)
    rw [h1]
    cases s.testBit i with
    | true => rw [cond_true, Nat.testBit_two_pow_sub_one, decide_eq_false hw]
    | false => rw [cond_false, Nat.zero_testBit]
theorem hat_holds (h : HatOk c l) {a i : Nat} (ha : a < c) (hi : i < c) : holdsI (hatM c l) (whyG a i) = (bif (l.getD a 0).testBit i then 2 ^ (2 ^ c) - 1 else 0, 0) := by
  have hM := hat_okm h
  have hc := h.c4
  have hr : reqI (hatM c l) (whyG a i) = 0 := by
    rw [reqI, ok_moI hM, show ((hatM c l).rel.length : Int) = (c : Int) by simp [hatM, h.len], show ((hatM c l).val.length : Int) = (c : Int) by simp [hatM, hatV]]
    exact whyG_stat c (by omega) a ha i hi
  rw [holdsI, hr, whyG_root a (by omega) i (by omega), hM.nn, Int.toNat_natCast, ← hatW_eq hi, hatW, ← hat_val (l := l) c hi, ← hat_row h ha]; rfl
def comK (all : Nat) (f : List Nd) : List Nd := buildL (nG 13 all) [buildL (n0 1) [], f]
theorem hat_common (h : HatOk c l) {a i : Nat} (ha : a < c) (hi : i < c) : holdsI (hatM c l) (comK (2 ^ c - 1) (whyG a i)) = (bif (l.getD a 0).testBit i then 2 ^ (2 ^ c) - 1 else 0, 0) := by
  have hM := hat_okm h
  have hc := h.c4
  obtain ⟨p1, p2⟩ := hat_pow h
  have hl : (hatM c l).rel.length = c := by simp [hatM, h.len]
  have hh := hat_holds h ha hi
  have hg1 : (1 : Int) ≤ ((2 ^ c - 1 : Nat) : Int) := by omega
  have hg2 : ((2 ^ c - 1 : Nat) : Int) < shl64 1 ((hatM c l).rel.length : Int) := by rw [hl, shl_n h.c4]; omega
  rw [comK, common_holds (g := 2 ^ c - 1) hM (by omega) (by rw [hl]; omega) (by rw [hh]) (whyG_len a (by omega) i (by omega)).1, hh]
  have f1 := grp_facts hM (orF_lt _) (Nat.two_pow_pos _) hg1 hg2
  have hbad : badGM (hatM c l) ((2 ^ c - 1 : Nat) : Int) = false := by
    rw [badGM, ok_moI hM, decide_eq_false (by omega), decide_eq_false (by omega)]; rfl
  cases hs : (l.getD a 0).testBit i with
  | true =>
    rw [cond_true]
    congr 1
    apply Nat.eq_of_testBit_eq
    intro w
    rw [comN, maskOf_bit, Nat.testBit_two_pow_sub_one]
    by_cases hw : w < 2 ^ c
    · rw [decide_eq_true hw, Bool.true_and, subM_iff]
      intro v hv
      have hb : pathN (2 ^ c) (grpM orF (hatM c l) ((2 ^ c - 1 : Nat) : Int) 0) (2 ^ 2 ^ c - 1) w < 2 ^ (2 ^ c) :=
        seqR_lt (rel1_Rel f1.1 f1.2) (Nat.lt_of_le_of_lt Nat.and_le_left (getD_lt2 f1.2 w)) _
      rw [Nat.testBit_two_pow_sub_one]
      exact decide_eq_true (bit_lt hb hv)
    · rw [decide_eq_false hw, Bool.false_and]
  | false =>
    rw [cond_false]
    congr 1
    apply Nat.eq_of_testBit_eq
    intro w
    rw [comN, maskOf_bit, Nat.zero_testBit]
    by_cases hw : w < 2 ^ c
    · rw [decide_eq_true hw, Bool.true_and, ← Bool.not_eq_true, subM_iff]
      intro hsub
      have hin : ((grpM orF (hatM c l) ((2 ^ c - 1 : Nat) : Int) 0).getD w 0 &&& (2 ^ 2 ^ c - 1)).testBit w = true := by
        rw [Nat.testBit_and, Nat.testBit_two_pow_sub_one, decide_eq_true hw, Bool.and_true, grpM_get hM hbad hw, join_or, hl]
        refine ⟨a, ha, ?_, ?_⟩
        · rw [bit64_one (Nat.lt_of_le_of_lt (Nat.sub_le _ _) (show 2 ^ c < 2 ^ 62 by omega)) (by omega), Nat.testBit_two_pow_sub_one]
          exact decide_eq_true ha
        · rw [hat_row h ha]
          exact (hatR_bit hw).2 ⟨hw, rfl⟩
      have := hsub w (pathN_up w hin)
      rw [Nat.zero_testBit] at this
      cases this
    · rw [decide_eq_false hw, Bool.false_and]
end Go.Proofs.YtjdmfhggokfflaaDoor
set_option maxRecDepth 100000
namespace Go.Proofs.YtjdmfhggokfflaaDoor
open Go Go.RowKit

theorem tz64_core (x k idx : Nat) (w : World) (hx0 : ((x : Int) == 0) = false)
    (key : IntKind.u64.wrap (bits BinOp.and IntKind.u64 (x : Int) (IntKind.u64.wrap (-(x : Int))) * 285870213051353865) / 288230376151711744 = (idx : Int))
    (hi : idx < 64) (hk : k < 64) (hcell : w.cell? ⟨0, idx, none⟩ = some (.int .u8 k)) :
    Calls Tryd.prog 84 #[.int .u64 x] w fun e w' => e = .returned (.int .i64 k) ∧ w' = w := by
  go_enter Tryd.func84, Tryd.ntmps84
  go_wp2_with (simp only [key])
  go_ret
  exact ⟨rfl, rfl⟩
theorem tz64_zero (w : World) : Calls Tryd.prog 84 #[.int .u64 0] w fun e w' => e = .returned (.int .i64 64) ∧ w' = w := by
  go_enter Tryd.func84, Tryd.ntmps84
  go_wp2
  go_ret
  exact ⟨rfl, rfl⟩
theorem tz64_key (x a : Nat) (hx : x < 18446744073709551616) (hx0 : x ≠ 0) (hlow : x &&& (18446744073709551616 - x) = a) :
    IntKind.u64.wrap (bits BinOp.and IntKind.u64 (x : Int) (IntKind.u64.wrap (-(x : Int))) * 285870213051353865) / 288230376151711744 = ((a * 285870213051353865 % 18446744073709551616 / 288230376151711744 : Nat) : Int) := by
  have e1 : IntKind.u64.wrap (-(x : Int)) = ((18446744073709551616 - x : Nat) : Int) := by rw [IntKind.wrap_u64]; omega
  rw [e1, bits_and_u64_nat x _ hx (by omega), hlow, IntKind.wrap_u64]
  omega
theorem tz64 (x : Nat) (hx : x < 18446744073709551616) (w : World) (hT : ∀ j, j < Lib.deBruijn64tab.length → w.cell? ⟨0, j, none⟩ = some (.int .u8 (Lib.deBruijn64tab.getD j 0))) :
    Calls Tryd.prog 84 #[.int .u64 x] w fun e w' => e = .returned (.int .i64 (Lib.ctz 64 x)) ∧ w' = w := by
  by_cases hx0 : x = 0
  · subst hx0
    exact tz64_zero w
  · obtain ⟨hlow, hk⟩ := Lib.lowest_bit 64 x hx0 hx
    obtain ⟨hi, htab⟩ := Lib.deBruijn64_at _ hk
    have hcell := hT _ hi
    rw [htab] at hcell
    exact tz64_core x _ _ w (by simp; omega) (tz64_key x _ hx hx0 hlow) hi hk hcell
end Go.Proofs.YtjdmfhggokfflaaDoor
set_option maxRecDepth 100000
set_option maxHeartbeats 4000000
namespace Go.Proofs.YtjdmfhggokfflaaDoor
open Go Go.Dv
open Go.RowKit (Below)

/-! the members of a set -/
def memL (s : Nat) : List Nat := (List.range 64).filter s.testBit
theorem memL_mem {s i : Nat} : i ∈ memL s ↔ i < 64 ∧ s.testBit i = true := by rw [memL, List.mem_filter, List.mem_range]
theorem filter_first {p : Nat → Bool} {k : Nat} (hk : p k = true) (h : ∀ i, i < k → p i = false) : ∀ n, k < n → (List.range n).filter p = k :: (List.range n).filter (fun i => p i && !(i == k))
  | 0, h0 => by omega
  | n + 1, h0 => by
    rw [List.range_succ, List.filter_append, List.filter_append]
    by_cases e : n = k
    · have e1 : (List.range n).filter p = [] := List.filter_eq_nil_iff.2 fun i hi => by rw [h i (by have := List.mem_range.1 hi; omega)]; simp
      have e2 : (List.range n).filter (fun i => p i && !(i == k)) = [] := List.filter_eq_nil_iff.2 fun i hi => by rw [h i (by have := List.mem_range.1 hi; omega)]; simp
      rw [e1, e2, e]
      simp [hk]
    · have e3 : (n == k) = false := by simpa using e
      rw [filter_first hk h n (by omega), List.cons_append]
      congr 2
      simp only [List.filter_cons, List.filter_nil, e3, Bool.not_false, Bool.and_true]
theorem ctz_bits {x : Nat} (h0 : x ≠ 0) (h : x < 2 ^ 64) : Lib.ctz 64 x < 64 ∧ x.testBit (Lib.ctz 64 x) = true ∧ (∀ i, i < Lib.ctz 64 x → x.testBit i = false) ∧ ∀ i, (x &&& (x - 1)).testBit i = (x.testBit i && !(i == Lib.ctz 64 x)) := by
  obtain ⟨q, hq, hk⟩ := Lib.ctzFrom_spec 64 x (by omega) h
  have e : Lib.ctz 64 x = Lib.ctzFrom 64 x := by simp [Lib.ctz, h0]
  rw [e]
  generalize Lib.ctzFrom 64 x = k at hq hk ⊢
  have hb : ∀ i, x.testBit i = (decide (k ≤ i) && (2 * q + 1).testBit (i - k)) := fun i => by
    rw [hq, Nat.testBit_two_pow_mul]
  have hp := Nat.two_pow_pos k
  have hx1 : x - 1 = 2 ^ k * (2 * q) + (2 ^ k - 1) := by rw [hq, Nat.mul_add]; omega
  have hc : ∀ i, (x - 1).testBit i = if i < k then (2 ^ k - 1).testBit i else (2 * q).testBit (i - k) := fun i => by
    rw [hx1, Nat.testBit_two_pow_mul_add _ (by omega)]
  refine ⟨hk, ?_, fun i hi => ?_, fun i => ?_⟩
  · rw [hb, decide_eq_true (Nat.le_refl k), Nat.sub_self]; simp
  · rw [hb, decide_eq_false (by omega)]; rfl
  · rw [Nat.testBit_and, hb, hc]
    by_cases hi : i < k
    · rw [decide_eq_false (by omega)]; rfl
    · rw [if_neg hi, decide_eq_true (by omega), Bool.true_and]
      by_cases e : i = k
      · rw [e, Nat.sub_self]; simp
      · obtain ⟨j, hj⟩ : ∃ j, i - k = j + 1 := ⟨i - k - 1, by omega⟩
        have e3 : (i == k) = false := by simpa using e
        rw [hj, e3, Nat.testBit_succ, Nat.testBit_succ, show (2 * q + 1) / 2 = q by omega, show 2 * q / 2 = q by omega]
        cases q.testBit j <;> rfl
theorem memL_step {x : Nat} (h0 : x ≠ 0) (h : x < 2 ^ 64) : memL x = Lib.ctz 64 x :: memL (x &&& (x - 1)) := by
  obtain ⟨h1, h2, h3, h4⟩ := ctz_bits h0 h
  rw [memL, filter_first h2 h3 64 h1, memL]
  congr 2
  funext i
  rw [h4 i]
theorem memL_zero : memL 0 = [] := by rw [memL]; exact List.filter_eq_nil_iff.2 fun i _ => by rw [Nat.zero_testBit]; simp
theorem memL_len (s : Nat) : (memL s).length ≤ 64 := Nat.le_trans (List.length_filter_le _ _) (by simp)
theorem memL_pos {s : Nat} (h0 : s ≠ 0) (h : s < 2 ^ 64) : 1 ≤ (memL s).length := by rw [memL_step h0 h]; simp
theorem fn_tz (x : Nat) (hx : x < 2 ^ 64) : PureFn Tryd.prog 84 [u64 x] (.int .i64 (Lib.ctz 64 x : Nat)) := by
  refine PureFn.mk ⟨by kernel_rfl, fun M w vs hG hM hrel => ?_⟩
  obtain ⟨hl, hr⟩ := hrel
  match vs, hl with
  | [v], _ =>
    have h1 := hr 0 _ v rfl rfl
    cases h1
    refine (tz64 x hx w hG.2).mono ?_
    rintro e w' ⟨rfl, rfl⟩
    exact ⟨_, rfl, .int _ _, Below.refl _ _⟩
def intsPV (l : List Nat) : PV := .sl (l.map i64)
theorem md_members (s : Nat) (hs : s < 2 ^ 64) : PureFn Tryd.prog 72 [u64 s] (intsPV (memL s)) := by
  refine PureFn.intro mixed (fn := Tryd.f72) rfl rfl rfl fun M w0 => ?_
  try conv=>whnf
  refine ⟨{ q : Nat × List Nat // q.1 < 2 ^ 64 ∧ q.2 ++ memL q.1 = memL s }, fun q => [(0, .pv (u64 q.1.1)), (3, .buf 0 (q.1.2.map i64).length)], fun _ => 1, fun q => [(0, .arr 1 (q.1.2.map i64))], fun q => (memL q.1.1).length, ⟨⟨(s, []), hs, rfl⟩, (by refine Wk.of ?_ ?_ rfl rfl rfl<;>repeat' (first|exact trivial|exact WkD.same _|exact WkD.new' rfl rfl rfl|exact WkO.new _ _ rfl|exact rfl|refine ⟨?_, ?_⟩|fail))⟩, ?_⟩
  rintro ⟨⟨x, l⟩, hx, hl⟩
  have hx : x < 2 ^ 64 := hx
  have hl : l ++ memL x = memL s := hl
  have hT := fn_tz x hx
  have hlen : (l.map i64).length ≤ 1000 := by
    have h1 := memL_len s
    rw [← hl, List.length_append] at h1
    rw [List.length_map]; omega
  (try conv=>whnf);repeat' (first|(apply And.intro<;>try conv=>whnf)|(intro h;try conv=>whnf)|(apply bleI;rfl)|(apply cellsI;rfl)|(apply szI;rfl)|(refine PureFn.dcq (f := 84) rfl ?_;try conv=>whnf)|(refine ⟨_, _, hT, ?_, ?_⟩;(focus first|(refine ⟨?_, trivial⟩<;>first|exact PLe.refl _|exact PLe.nil)|exact trivial);try conv=>whnf)|fail)
  · exact app_big (n := 1000) hlen (by decide)
  · have hx0 : x ≠ 0 := by
      have h0 : ((x : Int) != 0) = true := h
      intro e; rw [e] at h0; exact absurd h0 (by decide)
    have hst := memL_step hx0 hx
    refine ⟨⟨(x &&& (x - 1), l ++ [Lib.ctz 64 x]), Nat.and_lt_two_pow _ (by omega), ?_⟩, ?_, ?_⟩
    · show l ++ [Lib.ctz 64 x] ++ memL (x &&& (x - 1)) = memL s
      rw [← hl, hst, List.append_assoc]; rfl
    · show (memL (x &&& (x - 1))).length < (memL x).length
      rw [hst, List.length_cons]; omega
    have e1 : andU (x : Nat) (IntKind.wrap .u64 ((x : Int) - 1)) = ((x &&& (x - 1) : Nat) : Int) := by
      rw [wrapU (by omega) (by omega), show ((x : Int) - 1) = ((x - 1 : Nat) : Int) by omega, andU_nat hx (by omega)]
    have e2 : (l.map i64) ++ [PV.int .i64 (Lib.ctz 64 x : Nat)] = (l ++ [Lib.ctz 64 x]).map i64 := by rw [List.map_append]; rfl
    (refine Wk.of ?_ ?_ rfl rfl rfl<;>repeat' (first|exact trivial|exact WkD.eq (congrArg (fun z : List PV => DV.buf _ z.length) e2)|exact WkO.same _ _ (congrArg (fun z => some (DObj.arr _ z)) e2)|refine WkD.int ?_|refine ⟨?_, ?_⟩|fail))
    all_goals exact e1
  · have hx0 : x = 0 := by
      have h0 : ((x : Int) != 0) = false := h
      have : (x : Int) = 0 := by simpa using h0
      omega
    rw [hx0, memL_zero, List.append_nil] at hl
    have e9 : intsPV (memL s) = .sl (l.map i64) := by rw [intsPV, ← hl]
    exact e9.symm ▸ .refl (.sl (l.map i64))

/-! the worlds of a list, taken for a model -/
def pullN (s : Nat) (ws : List Nat) : Nat := maskOf (fun i => s.testBit (ws.getD i 0)) ws.length
theorem pull_step {q : Nat → Bool} {s w i : Nat} (hs : s < 2 ^ 64) (hw : w < 64) (hi : i < 64) (hq : q i = s.testBit w) : orU (maskOf q i : Nat) (shlU (andU (shrU (s : Nat) (w : Nat)) 1) (i : Nat)) = ((maskOf q (i + 1) : Nat) : Int) := by
  rw [bit_and s w hs hw]
  cases h : s.testBit w with
  | true => rw [if_pos rfl]; exact or_shl hi (by rw [hq, h])
  | false =>
    rw [if_neg (by decide), ← mask_no (q := q) (w := i) (by rw [hq, h]), show shlU 0 (i : Nat) = ((0 : Nat) : Int) by show IntKind.wrap .u64 (0 * _) = 0; rw [Int.zero_mul]; rfl, orU_nat (mask_lt64 q (by omega)) (by decide), Nat.or_zero]
theorem md_pull (s : Nat) (ws : List Nat) (hs : s < 2 ^ 64) (hw : ∀ w, w ∈ ws → w < 64) (hl : ws.length ≤ 64) : PureFn Tryd.prog 85 [u64 s, intsPV ws] (u64 (pullN s ws)) := by
  refine PureFn.intro mixed (fn := Tryd.f85) rfl rfl rfl fun M w0 => ?_
  try conv=>whnf
  refine ⟨{ i : Nat // i ≤ ws.length }, fun i => [(0, .pv (u64 s)), (5, .pv (u64 (maskOf (fun i => s.testBit (ws.getD i 0)) i.1))), (8, .pv (intsPV ws)), (9, .pv (i64 (ws.map i64).length)), (10, .pv (i64 i.1))], fun _ => 0, fun _ => [], fun i => ws.length - i.1, ⟨⟨0, Nat.zero_le _⟩, (by refine Wk.of ?_ ?_ rfl rfl rfl<;>repeat' (first|exact trivial|exact WkD.same _|refine ⟨?_, ?_⟩|fail))⟩, ?_⟩
  intro i
  have hi := i.2
  (try conv=>whnf);repeat' (first|(apply And.intro<;>try conv=>whnf)|(intro h;try conv=>whnf)|(apply infoT;rfl)|fail)
  · have hi' : i.1 < ws.length := by simpa using lt_dec h
    obtain ⟨w, hx, hxw⟩ : ∃ y, ws[i.1]? = some y ∧ ws.getD i.1 0 = y := ⟨_, getD_mem hi', rfl⟩
    have hw64 := hw w (List.mem_iff_getElem?.2 ⟨_, hx⟩)
    have hst := pull_step (q := fun i => s.testBit (ws.getD i 0)) hs hw64 (show i.1 < 64 by omega) (by show s.testBit (ws.getD i.1 0) = _; rw [hxw])
    refine ⟨_, _, rfl, idx_map hx, rfl, ?_⟩
    (try conv=>whnf);repeat' (first|(apply And.intro<;>try conv=>whnf)|fail)
    · exact Int.natCast_nonneg _
    · exact Int.natCast_nonneg _
    · refine ⟨⟨i.1 + 1, hi'⟩, by show ws.length - (i.1 + 1) < ws.length - i.1; omega, ?_⟩
      (refine Wk.of ?_ ?_ rfl rfl rfl<;>repeat' (first|exact trivial|exact WkD.same _|refine WkD.int ?_|refine ⟨?_, ?_⟩|(refine wrapA ?_ ?_ ?_;(focus simp;done);(focus (try dsimp only);omega);(focus (try dsimp only);omega))|fail))
      exact hst
  · have hi' : i.1 = ws.length := by have := ge_dec (m := (ws.map i64).length) h (by simpa using hi); simpa using this
    exact le_int (congrArg (fun k => ((maskOf (fun i => s.testBit (ws.getD i 0)) k : Nat) : Int)) hi')
def arrI (m : Mo) (ws : List Nat) : Mo := ⟨(ws.length : Int), m.val.map fun s => pullN s ws, m.rel.map fun r => ws.map fun w => pullN (r.getD w 0) ws⟩
theorem take_map {α β : Type} {f : α → β} {l : List α} {i : Nat} {x : α} (h : l[i]? = some x) : (l.take (i + 1)).map f = (l.take i).map f ++ [f x] := by
  obtain ⟨h1, h2⟩ := List.getElem?_eq_some_iff.1 h
  rw [List.take_succ_eq_append_getElem h1, List.map_append, h2]; rfl
theorem md_arrange (m : Mo) (ws : List Nat) (n : Nat) (hM : OkM m n) (hw : ∀ w, w ∈ ws → w < n) (hl : ws.length ≤ 64) : PureFn Tryd.prog 73 [m.pv, intsPV ws] (arrI m ws).pv := by
  refine PureFn.introC [7, 16, 18] mixed (fn := Tryd.f73) rfl rfl rfl fun M w0 => ?_
  have hf := hM.fit
  have hn64 := hM.n64
  have hag := hM.ag
  have hfa := hM.fa
  have hw64 : ∀ w, w ∈ ws → w < 64 := fun w hh => by have := hw w hh; omega
  obtain ⟨ro, qro⟩ : ∃ ro : List Nat → List Nat, ro = fun r => ws.map fun w => pullN (r.getD w 0) ws := ⟨_, rfl⟩
  have har : (arrI m ws).pv = .agg [i64 (ws.map i64).length, rowPV ((m.val.take m.val.length).map fun s => pullN s ws), .sl (((m.rel.take m.rel.length).map ro).map rowPV)] := by rw [qro, List.length_map, List.take_length, List.take_length]; rfl
  rw [har]
  try conv=>whnf
  refine ⟨Unit, fun _ => [(1, .pv (intsPV ws)), (2, .ref 0 0), (4, .ref 1 0), (5, .ref 2 0)], fun _ => 3, fun _ => [(0, .var (cellsM m)), (1, .var cells0), (2, .var [.pv (i64 (ws.map i64).length), .pv (rowPV ((m.val.take m.val.length).map fun s => pullN s ws)), .pv .nil])], ?_, ?_⟩
  · try conv=>whnf
    refine ⟨{ i : Nat // i ≤ m.val.length }, fun i => [(1, .pv (intsPV ws)), (2, .ref 0 0), (4, .ref 1 0), (5, .ref 2 0), (17, .pv (.sl (m.val.map u64))), (18, .pv (i64 (m.val.map u64).length)), (19, .pv (i64 i.1))], fun _ => 4, fun i => [(0, .var (cellsM m)), (1, .var cells0), (2, .var [.pv (i64 (ws.map i64).length), .buf 3 (((m.val.take i.1).map fun s => pullN s ws).map u64).length, .pv .nil]), (3, .arr 1 (((m.val.take i.1).map fun s => pullN s ws).map u64))], fun i => m.val.length - i.1, ⟨⟨0, Nat.zero_le _⟩, (by refine Wk.of ?_ ?_ rfl rfl rfl<;>repeat' (first|exact trivial|exact WkD.same _|exact WkO.same _ _ rfl|exact WkD.new' rfl rfl rfl|exact WkO.new _ _ rfl|refine WkO.vars rfl ?_|exact rfl|refine ⟨?_, ?_⟩|fail))⟩, ?_⟩
    rintro ⟨i, hi⟩
    (try conv=>whnf);repeat' (first|(apply And.intro<;>try conv=>whnf)|(intro h;try conv=>whnf)|(apply infoT;rfl)|fail)
    · have hi' : i < m.val.length := by simpa using lt_dec h
      obtain ⟨s, hx⟩ : ∃ y, m.val[i]? = some y := ⟨_, List.getElem?_eq_getElem hi'⟩
      have hs64 := hf.1 s (List.mem_iff_getElem?.2 ⟨_, hx⟩)
      have hP := md_pull s ws hs64 hw64 hl
      have ht := take_map (f := fun s => pullN s ws) hx
      have hvsl : (((m.val.take i).map fun s => pullN s ws).map u64).length ≤ 1000 := by simp; omega
      have er : ((m.val.take i).map fun s => pullN s ws).map u64 ++ [PV.int .u64 ((pullN s ws : Nat) : Int)] = ((m.val.take (i + 1)).map fun s => pullN s ws).map u64 := by rw [ht, List.map_append]; rfl
      refine ⟨_, _, rfl, idx_map hx, rfl, ?_⟩
      (try conv=>whnf);repeat' (first|(apply And.intro<;>try conv=>whnf)|(apply cellsI;rfl)|(apply szI;rfl)|(refine lin_plan (by kernel_rfl) ?_;try conv=>whnf)|(refine ⟨_, (by (conv=>whnf);exact hP), rfl, ?_⟩;try conv=>whnf)|fail)
      · exact app_big (n := 1000) hvsl (by decide)
      · refine ⟨⟨i + 1, hi'⟩, by show m.val.length - (i + 1) < m.val.length - i; omega, ?_⟩
        (refine Wk.of ?_ ?_ rfl rfl rfl<;>repeat' (first|exact trivial|exact WkD.same _|exact WkO.same _ _ rfl|exact WkD.eq (congrArg (fun z : List PV => DV.buf _ z.length) er)|exact WkO.same _ _ (congrArg (fun z => some (DObj.arr _ z)) er)|refine WkD.int ?_|refine WkO.vars rfl ?_|refine ⟨?_, ?_⟩|(refine wrapA ?_ ?_ ?_;(focus simp;done);(focus (try dsimp only);omega);(focus (try dsimp only);omega))|fail))
    · have hi' : i = m.val.length := by have := ge_dec (m := (m.val.map u64).length) h (by simpa using hi); simpa using this
      subst hi'
      exact ⟨(), (by refine Wk.of ?_ ?_ rfl rfl rfl<;>repeat' (first|exact trivial|exact WkD.same _|exact WkO.same _ _ rfl|exact WkD.fz _ _ _ rfl (Or.inl ⟨_, rfl⟩) rfl|refine WkO.vars rfl ?_|refine ⟨?_, ?_⟩|fail))⟩
  rintro ⟨⟩
  generalize ((m.val.take m.val.length).map fun s => pullN s ws) = V
  refine ⟨Unit, fun _ => [(4, .ref 1 0), (5, .ref 2 0)], fun _ => 3, fun _ => [(1, .var cells0), (2, .var [.pv (i64 (ws.map i64).length), .pv (rowPV V), .pv (.sl (((m.rel.take m.rel.length).map ro).map rowPV))])], ?_, ?_⟩
  · try conv=>whnf
    refine ⟨{ i : Nat // i ≤ m.rel.length }, fun i => [(1, .pv (intsPV ws)), (2, .ref 0 0), (4, .ref 1 0), (5, .ref 2 0), (33, .pv (.sl (m.rel.map rowPV))), (34, .pv (i64 (m.rel.map rowPV).length)), (35, .pv (i64 i.1))], fun _ => 4, fun i => [(0, .var (cellsM m)), (1, .var cells0), (2, .var [.pv (i64 (ws.map i64).length), .pv (rowPV V), .buf 3 (((m.rel.take i.1).map ro).map rowPV).length]), (3, .arr 1 (((m.rel.take i.1).map ro).map rowPV))], fun i => m.rel.length - i.1, ⟨⟨0, Nat.zero_le _⟩, (by refine Wk.of ?_ ?_ rfl rfl rfl<;>repeat' (first|exact trivial|exact WkD.same _|exact WkO.same _ _ rfl|exact WkD.new' rfl rfl rfl|exact WkO.new _ _ rfl|refine WkO.vars rfl ?_|exact rfl|refine ⟨?_, ?_⟩|fail))⟩, ?_⟩
    rintro ⟨i, hi⟩
    (try conv=>whnf);repeat' (first|(apply And.intro<;>try conv=>whnf)|(intro h;try conv=>whnf)|(apply infoT;rfl)|fail)
    · have hi' : i < m.rel.length := by simpa using lt_dec h
      obtain ⟨r, hx⟩ : ∃ y, m.rel[i]? = some y := ⟨_, List.getElem?_eq_getElem hi'⟩
      have hrm : r ∈ m.rel := List.mem_iff_getElem?.2 ⟨_, hx⟩
      have hrl := hM.rows r hrm
      have hr64 := hf.2 r hrm
      have ht := take_map (f := ro) hx
      have hvsl : (((m.rel.take i).map ro).map rowPV).length ≤ 1000 := by simp; omega
      have er : ((m.rel.take i).map ro).map rowPV ++ [rowPV (ro r)] = ((m.rel.take (i + 1)).map ro).map rowPV := by rw [ht, List.map_append]; rfl
      refine ⟨_, _, rfl, idx_map hx, rfl, ?_⟩
      try conv=>whnf
      refine ⟨Unit, fun _ => [(1, .pv (intsPV ws)), (2, .ref 0 0), (4, .ref 1 0), (5, .ref 2 0), (10, .pv (rowPV ((ws.take ws.length).map fun w => pullN (r.getD w 0) ws))), (33, .pv (.sl (m.rel.map rowPV))), (34, .pv (i64 (m.rel.map rowPV).length)), (35, .pv (i64 i))], fun _ => 4, fun _ => [(0, .var (cellsM m)), (1, .var cells0), (2, .var [.pv (i64 (ws.map i64).length), .pv (rowPV V), .buf 3 (((m.rel.take i).map ro).map rowPV).length]), (3, .arr 1 (((m.rel.take i).map ro).map rowPV))], ?_, ?_⟩
      · try conv=>whnf
        refine ⟨{ j : Nat // j ≤ ws.length }, fun j => [(1, .pv (intsPV ws)), (2, .ref 0 0), (4, .ref 1 0), (5, .ref 2 0), (9, .pv (rowPV r)), (10, .buf 4 (((ws.take j.1).map fun w => pullN (r.getD w 0) ws).map u64).length), (33, .pv (.sl (m.rel.map rowPV))), (34, .pv (i64 (m.rel.map rowPV).length)), (35, .pv (i64 i)), (39, .pv (intsPV ws)), (40, .pv (i64 (ws.map i64).length)), (41, .pv (i64 j.1))], fun _ => 5, fun j => [(0, .var (cellsM m)), (1, .var cells0), (2, .var [.pv (i64 (ws.map i64).length), .pv (rowPV V), .buf 3 (((m.rel.take i).map ro).map rowPV).length]), (3, .arr 1 (((m.rel.take i).map ro).map rowPV)), (4, .arr 1 (((ws.take j.1).map fun w => pullN (r.getD w 0) ws).map u64))], fun j => ws.length - j.1, ⟨⟨0, Nat.zero_le _⟩, (by refine Wk.of ?_ ?_ rfl rfl rfl<;>repeat' (first|exact trivial|exact WkD.same _|exact WkO.same _ _ rfl|exact WkD.new' rfl rfl rfl|exact WkO.new _ _ rfl|exact rfl|refine ⟨?_, ?_⟩|fail))⟩, ?_⟩
        rintro ⟨j, hj⟩
        (try conv=>whnf);repeat' (first|(apply And.intro<;>try conv=>whnf)|(intro h;try conv=>whnf)|(apply infoT;rfl)|fail)
        · have hj' : j < ws.length := by simpa using lt_dec h
          obtain ⟨w, hx2⟩ : ∃ y, ws[j]? = some y := ⟨_, List.getElem?_eq_getElem hj'⟩
          have hwn := hw w (List.mem_iff_getElem?.2 ⟨_, hx2⟩)
          have hx3 : r[w]? = some (r.getD w 0) := getD_mem (by omega)
          have hs64 := hr64 _ (List.mem_iff_getElem?.2 ⟨_, hx3⟩)
          have hP := md_pull (r.getD w 0) ws hs64 hw64 hl
          have ht2 := take_map (f := fun w => pullN (r.getD w 0) ws) hx2
          have hvsl2 : (((ws.take j).map fun w => pullN (r.getD w 0) ws).map u64).length ≤ 1000 := by simp; omega
          have er2 : ((ws.take j).map fun w => pullN (r.getD w 0) ws).map u64 ++ [PV.int .u64 ((pullN (r.getD w 0) ws : Nat) : Int)] = ((ws.take (j + 1)).map fun w => pullN (r.getD w 0) ws).map u64 := by rw [ht2, List.map_append]; rfl
          generalize hgz : r.getD w 0 = z at hx3 hP er2
          refine ⟨_, _, rfl, idx_map hx2, rfl, ?_⟩
          (try conv=>whnf);repeat' (first|(apply And.intro<;>try conv=>whnf)|(apply infoT;rfl)|(apply cellsI;rfl)|(apply szI;rfl)|(refine ⟨_, _, rfl, idx_map (by with_reducible assumption), rfl, ?_⟩;try conv=>whnf)|(refine PureFn.dcq (f := 85) rfl ?_;try conv=>whnf)|(refine ⟨_, _, hP, ?_, ?_⟩;(focus first|(refine ⟨?_, ?_, trivial⟩<;>first|exact PLe.refl _|exact PLe.nil)|exact trivial);try conv=>whnf)|fail)
          · exact app_big (n := 1000) hvsl2 (by decide)
          · refine ⟨⟨j + 1, hj'⟩, by show ws.length - (j + 1) < ws.length - j; omega, ?_⟩
            (refine Wk.of ?_ ?_ rfl rfl rfl<;>repeat' (first|exact trivial|exact WkD.same _|exact WkO.same _ _ rfl|exact WkD.eq (congrArg (fun z : List PV => DV.buf _ z.length) er2)|exact WkO.same _ _ (congrArg (fun z => some (DObj.arr _ z)) er2)|refine WkD.int ?_|refine ⟨?_, ?_⟩|(refine wrapA ?_ ?_ ?_;(focus simp;done);(focus (try dsimp only);omega);(focus (try dsimp only);omega))|fail))
        · have hj' : j = ws.length := by have := ge_dec (m := (ws.map i64).length) h (by simpa using hj); simpa using this
          subst hj'
          exact ⟨(), (by refine Wk.of ?_ ?_ rfl rfl rfl<;>repeat' (first|exact trivial|exact WkD.same _|exact WkO.same _ _ rfl|exact WkD.fz _ _ _ rfl (Or.inl ⟨_, rfl⟩) rfl|refine ⟨?_, ?_⟩|fail))⟩
      rintro ⟨⟩
      have hR : (ws.take ws.length).map (fun w => pullN (r.getD w 0) ws) = ro r := by rw [List.take_length, qro]
      generalize (ws.take ws.length).map (fun w => pullN (r.getD w 0) ws) = R at hR
      rw [← hR] at er
      (try conv=>whnf);repeat' (first|(apply And.intro<;>try conv=>whnf)|(apply cellsI;rfl)|(apply szI;rfl)|fail)
      · exact app_big (n := 1000) hvsl (by decide)
      · refine ⟨⟨i + 1, hi'⟩, by show m.rel.length - (i + 1) < m.rel.length - i; omega, ?_⟩
        (refine Wk.of ?_ ?_ rfl rfl rfl<;>repeat' (first|exact trivial|exact WkD.same _|exact WkO.same _ _ rfl|exact WkD.eq (congrArg (fun z : List PV => DV.buf _ z.length) er)|exact WkO.same _ _ (congrArg (fun z => some (DObj.arr _ z)) er)|refine WkD.int ?_|refine WkO.vars rfl ?_|refine ⟨?_, ?_⟩|(refine wrapA ?_ ?_ ?_;(focus simp;done);(focus (try dsimp only);omega);(focus (try dsimp only);omega))|fail))
    · have hi' : i = m.rel.length := by have := ge_dec (m := (m.rel.map rowPV).length) h (by simpa using hi); simpa using this
      subst hi'
      exact ⟨(), (by refine Wk.of ?_ ?_ rfl rfl rfl<;>repeat' (first|exact trivial|exact WkD.same _|exact WkO.same _ _ rfl|exact WkD.fz _ _ _ rfl (Or.inl ⟨_, rfl⟩) rfl|refine WkO.vars rfl ?_|refine ⟨?_, ?_⟩|fail))⟩
  rintro ⟨⟩
  try conv=>whnf
  exact .refl _
end Go.Proofs.YtjdmfhggokfflaaDoor
set_option maxRecDepth 100000
set_option maxHeartbeats 4000000
namespace Go.Proofs.YtjdmfhggokfflaaDoor
open Go Go.Dv

def restPV (x : Mo × List Nat × Int) : PV := .tup [x.1.pv, intsPV x.2.1, .int .i64 x.2.2]
theorem le_rest (e : Int) : PLe (.tup [.agg [.int .i64 0, .nil, .nil], .nil, .int .i64 e]) (restPV (noMo, [], e)) := PLe.tups ⟨le_noMo, .nil, .refl _, trivial⟩
theorem nand_all {s n : Nat} (hs : s < 2 ^ n) (hn : n ≤ 64) : andNotU (s : Nat) ((2 ^ n - 1 : Nat) : Int) = 0 := by
  have h64 : s < 2 ^ 64 := Nat.lt_of_lt_of_le hs (pow64_le hn)
  rw [andNotU_eq h64, Nat.and_two_pow_sub_one_eq_mod, Nat.mod_eq_of_lt hs, Nat.xor_self]; rfl
theorem md_Restrict (m : Mo) (n s : Nat) (hM : OkM m n) (hs : s < 2 ^ n) (h0 : s ≠ 0) : PureFn Tryd.prog 53 [m.pv, u64 s] (restPV (arrI m (memL s), memL s, 0)) := by
  refine PureFn.intro mixed (fn := Tryd.f53) rfl rfl rfl fun M w0 => ?_
  have hn64 := hM.n64
  have hs64 : s < 2 ^ 64 := Nat.lt_of_lt_of_le hs (pow64_le hn64)
  have hC := md_Check m hM.fit
  rw [ok_moI hM] at hC
  have hA := md_all n (by omega)
  rw [show i64 n = .int .i64 m.n by rw [hM.nn]; rfl] at hA
  have hB := md_members s hs64
  have hR := md_arrange m (memL s) n hM (fun w hw => bit_lt hs (memL_mem.1 hw).2) (memL_len s)
  have hz := nand_all hs hn64
  have h0' : ¬ (s : Int) = 0 := by omega
  generalize memL s = ws at hB hR
  (try conv=>whnf);repeat' (first|(apply And.intro<;>try conv=>whnf)|(intro h;try conv=>whnf)|(refine PureFn.dcq (f := 32) rfl ?_;try conv=>whnf)|(refine PureFn.dcq (f := 70) rfl ?_;try conv=>whnf)|(refine PureFn.dcq (f := 72) rfl ?_;try conv=>whnf)|(refine PureFn.dcq (f := 73) rfl ?_;try conv=>whnf)|(refine ⟨_, _, hC, ?_, ?_⟩;(focus first|(refine ⟨?_, trivial⟩<;>first|exact PLe.refl _|exact PLe.nil)|exact trivial);try conv=>whnf)|(refine ⟨_, _, hA, ?_, ?_⟩;(focus first|(refine ⟨?_, trivial⟩<;>first|exact PLe.refl _|exact PLe.nil)|exact trivial);try conv=>whnf)|(refine ⟨_, _, hB, ?_, ?_⟩;(focus first|(refine ⟨?_, trivial⟩<;>first|exact PLe.refl _|exact PLe.nil)|exact trivial);try conv=>whnf)|(refine ⟨_, _, hR, ?_, ?_⟩;(focus first|(refine ⟨?_, ?_, trivial⟩<;>first|exact PLe.refl _|exact PLe.nil)|exact trivial);try conv=>whnf)|fail)
  · exact absurd (show ((0 : Int) != 0) = true from h) (by decide)
  · have h1 : (andNotU (s : Nat) ((2 ^ n - 1 : Nat) : Int) != 0) = true := h
    rw [hz] at h1; exact absurd h1 (by decide)
  · have h1 : ((s : Int) == 0) = true := h
    exact absurd (by simpa using h1) h0'
  · exact .refl _
theorem holds_split' {m : Mo} {f : List Nd} (h : (holdsI m f).2 = 0) : reqI m f = 0 := by
  by_cases q : reqI m f = 0
  · exact q
  · rw [holdsI, show (reqI m f != 0) = true by simpa using q] at h
    exact absurd h q
/-- An announcement. -/
def annI (m : Mo) (f : List Nd) : Mo × List Nat × Int := bif (holdsI m f).2 != 0 then (noMo, [], (holdsI m f).2) else bif (holdsI m f).1 == 0 then (noMo, [], 11) else (arrI m (memL (holdsI m f).1), memL (holdsI m f).1, 0)
theorem an_Update (m : Mo) (f : List Nd) (hf : FitM m) : PureFn Tryd.prog 34 [m.pv, fpv f] (restPV (annI m f)) := by
  have hH := ck_Holds m f hf
  by_cases h0 : (holdsI m f).2 = 0
  · obtain ⟨n, hM⟩ := (reqI_ok (holds_split' h0)).1
    have hlt := holds_lt (f := f) n hM
    have hR := fun hs => md_Restrict m n (holdsI m f).1 hM hlt hs
    have hX : annI m f = bif (holdsI m f).1 == 0 then (noMo, [], 11) else (arrI m (memL (holdsI m f).1), memL (holdsI m f).1, 0) := by rw [annI, h0]; rfl
    rw [hX]
    rw [show holdsI m f = ((holdsI m f).1, 0) from Prod.ext rfl h0] at hH
    generalize (holdsI m f).1 = s at hH hR
    by_cases hs : s = 0
    · subst hs
      refine PureFn.intro mixed (fn := Tryd.f34) rfl rfl rfl fun M w0 => ?_
      (try conv=>whnf);repeat' (first|(apply And.intro<;>try conv=>whnf)|(intro h;try conv=>whnf)|(refine PureFn.dcq (f := 8) rfl ?_;try conv=>whnf)|(refine ⟨_, _, hH, ?_, ?_⟩;(focus first|(refine ⟨?_, ?_, trivial⟩<;>first|exact PLe.refl _|exact PLe.nil)|exact trivial);try conv=>whnf)|fail)
      all_goals first
        | exact absurd (show ((0 : Int) != 0) = true from h) (by decide)
        | exact absurd (show ((0 : Int) == 0) = false from h) (by decide)
        | exact le_rest _
    · have hR := hR hs
      have hb : (s == 0) = false := by simpa using hs
      rw [hb]
      refine PureFn.intro mixed (fn := Tryd.f34) rfl rfl rfl fun M w0 => ?_
      (try conv=>whnf);repeat' (first|(apply And.intro<;>try conv=>whnf)|(intro h;try conv=>whnf)|(refine PureFn.dcq (f := 8) rfl ?_;try conv=>whnf)|(refine PureFn.dcq (f := 53) rfl ?_;try conv=>whnf)|(refine ⟨_, _, hH, ?_, ?_⟩;(focus first|(refine ⟨?_, ?_, trivial⟩<;>first|exact PLe.refl _|exact PLe.nil)|exact trivial);try conv=>whnf)|(refine ⟨_, _, hR, ?_, ?_⟩;(focus first|(refine ⟨?_, ?_, trivial⟩<;>first|exact PLe.refl _|exact PLe.nil)|exact trivial);try conv=>whnf)|fail)
      · exact absurd (show ((0 : Int) != 0) = true from h) (by decide)
      · have h1 : ((s : Int) == 0) = true := h
        have : (s : Int) = 0 := by simpa using h1
        omega
      · exact .refl _
  · have hb : ((holdsI m f).2 != 0) = true := by simpa using h0
    rw [annI, hb]
    generalize holdsI m f = X at hH hb
    obtain ⟨s, e⟩ := X
    refine PureFn.introC [4] mixed (fn := Tryd.f34) rfl rfl rfl fun M w0 => ?_
    (try conv=>whnf);repeat' (first|(refine PureFn.dcq (f := 8) rfl ?_;try conv=>whnf)|(refine ⟨_, _, hH, ?_, ?_⟩;(focus first|(refine ⟨?_, ?_, trivial⟩<;>first|exact PLe.refl _|exact PLe.nil)|exact trivial);try conv=>whnf)|fail)
    refine ⟨{ _x : Unit // False }, fun _ => [], fun _ => 0, fun _ => [], ?_, fun ⟨_, h⟩ => h.elim⟩
    (try conv=>whnf);repeat' (first|(apply And.intro<;>try conv=>whnf)|(intro h;first|with_reducible exact tf (by assumption) h|try conv=>whnf)|fail)
    · exact le_rest _

/-! the product with a public announcement -/
end Go.Proofs.YtjdmfhggokfflaaDoor
