/- Parts of the proof, one after the other: Models: the members of a set, and Restrict of the program walked. Products: the examples of the law; models as arguments. The layer Dv, part 23: a call sees a part of the heap, under other numbers. The layer Dv, part 24: objects whose numbers are not literals; own arrays lent to calls. Products: what the law ProductKeeps asks (plain). Models: Restrict, and announcements, of the program walked. The dynamic language: where its formulas hold (plain). The dynamic language: sets, static formulas, requests (plain). Models: closed parts of models; formulas that are put together (plain). The dynamic language: formulas that are put together; models taken twice (plain). The dynamic language: announcing twice; the axioms (plain). The dynamic language: the axioms; public events; events as steps (plain). The dynamic language: formulas whose operands are formulas; what the law DynamicMerges asks (plain). Reductions of announcements: where they hold (plain). Reductions: what the nodes of a reduction are (plain). -/
import Derived.Test.YtibbphifegibkaaGreatDoorM7
set_option maxRecDepth 100000
set_option maxHeartbeats 4000000
namespace Go.Proofs.YtibbphifegibkaaGreatDoor
open Go Go.Dv
open Go.RowKit (Below)

/-! the members of a set -/
def memL (s : Nat) : List Nat := (List.range 64).filter s.testBit
theorem memL_mem {s i : Nat} : i ∈ memL s ↔ i < 64 ∧ s.testBit i = true := by rw [memL, List.mem_filter, List.mem_range]
theorem filter_first {p : Nat → Bool} {k : Nat} (hk : p k = true) (h : ∀ i, i < k → p i = false) : ∀ n, k < n → (List.range n).filter p = k :: (List.range n).filter (fun i => p i && !(i == k))
  | 0, h0 => by omega
  | n + 1, h0 => by
    rw [List.range_succ, List.filter_append, List.filter_append]
    by_cases e : n = k
    · have e1 : (List.range n).filter p = [] := List.filter_eq_nil_iff.2 fun i hi => by rw [h i (by have := List.mem_range.1 hi; omega)]; simp
      have e2 : (List.range n).filter (fun i => p i && !(i == k)) = [] := List.filter_eq_nil_iff.2 fun i hi => by rw [h i (by have := List.mem_range.1 hi; omega)]; simp
      rw [e1, e2, e]
      simp [hk]
    · have e3 : (n == k) = false := by simpa using e
      rw [filter_first hk h n (by omega), List.cons_append]
      congr 2
      simp only [List.filter_cons, List.filter_nil, e3, Bool.not_false, Bool.and_true]
theorem ctz_bits {x : Nat} (h0 : x ≠ 0) (h : x < 2 ^ 64) : Lib.ctz 64 x < 64 ∧ x.testBit (Lib.ctz 64 x) = true ∧ (∀ i, i < Lib.ctz 64 x → x.testBit i = false) ∧ ∀ i, (x &&& (x - 1)).testBit i = (x.testBit i && !(i == Lib.ctz 64 x)) := by
  obtain ⟨q, hq, hk⟩ := Lib.ctzFrom_spec 64 x (by omega) h
  have e : Lib.ctz 64 x = Lib.ctzFrom 64 x := by simp [Lib.ctz, h0]
  rw [e]
  generalize Lib.ctzFrom 64 x = k at hq hk ⊢
  have hb : ∀ i, x.testBit i = (decide (k ≤ i) && (2 * q + 1).testBit (i - k)) := fun i => by
    rw [hq, Nat.testBit_two_pow_mul]
  have hp := Nat.two_pow_pos k
  have hx1 : x - 1 = 2 ^ k * (2 * q) + (2 ^ k - 1) := by rw [hq, Nat.mul_add]; omega
  have hc : ∀ i, (x - 1).testBit i = if i < k then (2 ^ k - 1).testBit i else (2 * q).testBit (i - k) := fun i => by
    rw [hx1, Nat.testBit_two_pow_mul_add _ (by omega)]
  refine ⟨hk, ?_, fun i hi => ?_, fun i => ?_⟩
  · rw [hb, decide_eq_true (Nat.le_refl k), Nat.sub_self]; simp
  · rw [hb, decide_eq_false (by omega)]; rfl
  · rw [Nat.testBit_and, hb, hc]
    by_cases hi : i < k
    · rw [decide_eq_false (by omega)]; rfl
    · rw [if_neg hi, decide_eq_true (by omega), Bool.true_and]
      by_cases e : i = k
      · rw [e, Nat.sub_self]; simp
      · obtain ⟨j, hj⟩ : ∃ j, i - k = j + 1 := ⟨i - k - 1, by omega⟩
        have e3 : (i == k) = false := by simpa using e
        rw [hj, e3, Nat.testBit_succ, Nat.testBit_succ, show (2 * q + 1) / 2 = q by omega, show 2 * q / 2 = q by omega]
        cases q.testBit j <;> rfl
theorem memL_step {x : Nat} (h0 : x ≠ 0) (h : x < 2 ^ 64) : memL x = Lib.ctz 64 x :: memL (x &&& (x - 1)) := by
  obtain ⟨h1, h2, h3, h4⟩ := ctz_bits h0 h
  rw [memL, filter_first h2 h3 64 h1, memL]
  congr 2
  funext i
  rw [h4 i]
theorem memL_zero : memL 0 = [] := by rw [memL]; exact List.filter_eq_nil_iff.2 fun i _ => by rw [Nat.zero_testBit]; simp
theorem memL_len (s : Nat) : (memL s).length ≤ 64 := Nat.le_trans (List.length_filter_le _ _) (by simp)
theorem memL_pos {s : Nat} (h0 : s ≠ 0) (h : s < 2 ^ 64) : 1 ≤ (memL s).length := by rw [memL_step h0 h]; simp
theorem fn_tz (x : Nat) (hx : x < 2 ^ 64) : PureFn Tryz.prog 125 [u64 x] (.int .i64 (Lib.ctz 64 x : Nat)) := by
  refine PureFn.mk ⟨by kernel_rfl, fun M w vs hG hM hrel => ?_⟩
  obtain ⟨hl, hr⟩ := hrel
  match vs, hl with
  | [v], _ =>
    have h1 := hr 0 _ v rfl rfl
    cases h1
    refine (tz64 x hx w hG.2).mono ?_
    rintro e w' ⟨rfl, rfl⟩
    exact ⟨_, rfl, .int _ _, Below.refl _ _⟩
def intsPV (l : List Nat) : PV := .sl (l.map i64)
theorem md_members (s : Nat) (hs : s < 2 ^ 64) : PureFn Tryz.prog 118 [u64 s] (intsPV (memL s)) := by
  refine PureFn.intro mixed (fn := Tryz.f118) rfl rfl rfl fun M w0 => ?_
  try conv=>whnf
  refine ⟨{ q : Nat × List Nat // q.1 < 2 ^ 64 ∧ q.2 ++ memL q.1 = memL s }, fun q => [(0, .pv (u64 q.1.1)), (3, .buf 0 (q.1.2.map i64).length)], fun _ => 1, fun q => [(0, .arr 1 (q.1.2.map i64))], fun q => (memL q.1.1).length, ⟨⟨(s, []), hs, rfl⟩, (by refine Wk.of ?_ ?_ rfl rfl rfl<;>repeat' (first|exact trivial|exact WkD.same _|exact WkD.new' rfl rfl rfl|exact WkO.new _ _ rfl|exact rfl|refine ⟨?_, ?_⟩|fail))⟩, ?_⟩
  rintro ⟨⟨x, l⟩, hx, hl⟩
  have hx : x < 2 ^ 64 := hx
  have hl : l ++ memL x = memL s := hl
  have hT := fn_tz x hx
  have hlen : (l.map i64).length ≤ 1000 := by
    have h1 := memL_len s
    rw [← hl, List.length_append] at h1
    rw [List.length_map]; omega
  (try conv=>whnf);repeat' (first|(apply And.intro<;>try conv=>whnf)|(intro h;try conv=>whnf)|(apply bleI;rfl)|(apply cellsI;rfl)|(apply szI;rfl)|(refine PureFn.dcq (f := 125) rfl ?_;try conv=>whnf)|(refine ⟨_, _, hT, ?_, ?_⟩;(focus first|(refine ⟨?_, trivial⟩<;>first|exact PLe.refl _|exact PLe.nil)|exact trivial);try conv=>whnf)|fail)
  · exact app_big (n := 1000) hlen (by decide)
  · have hx0 : x ≠ 0 := by
      have h0 : ((x : Int) != 0) = true := h
      intro e; rw [e] at h0; exact absurd h0 (by decide)
    have hst := memL_step hx0 hx
    refine ⟨⟨(x &&& (x - 1), l ++ [Lib.ctz 64 x]), Nat.and_lt_two_pow _ (by omega), ?_⟩, ?_, ?_⟩
    · show l ++ [Lib.ctz 64 x] ++ memL (x &&& (x - 1)) = memL s
      rw [← hl, hst, List.append_assoc]; rfl
    · show (memL (x &&& (x - 1))).length < (memL x).length
      rw [hst, List.length_cons]; omega
    have e1 : andU (x : Nat) (IntKind.wrap .u64 ((x : Int) - 1)) = ((x &&& (x - 1) : Nat) : Int) := by
      rw [wrapU (by omega) (by omega), show ((x : Int) - 1) = ((x - 1 : Nat) : Int) by omega, andU_nat hx (by omega)]
    have e2 : (l.map i64) ++ [PV.int .i64 (Lib.ctz 64 x : Nat)] = (l ++ [Lib.ctz 64 x]).map i64 := by rw [List.map_append]; rfl
    (refine Wk.of ?_ ?_ rfl rfl rfl<;>repeat' (first|exact trivial|exact WkD.eq (congrArg (fun z : List PV => DV.buf _ z.length) e2)|exact WkO.same _ _ (congrArg (fun z => some (DObj.arr _ z)) e2)|refine WkD.int ?_|refine ⟨?_, ?_⟩|fail))
    all_goals exact e1
  · have hx0 : x = 0 := by
      have h0 : ((x : Int) != 0) = false := h
      have : (x : Int) = 0 := by simpa using h0
      omega
    rw [hx0, memL_zero, List.append_nil] at hl
    have e9 : intsPV (memL s) = .sl (l.map i64) := by rw [intsPV, ← hl]
    exact e9.symm ▸ .refl (.sl (l.map i64))

/-! the worlds of a list, taken for a model -/
def pullN (s : Nat) (ws : List Nat) : Nat := maskOf (fun i => s.testBit (ws.getD i 0)) ws.length
theorem pull_step {q : Nat → Bool} {s w i : Nat} (hs : s < 2 ^ 64) (hw : w < 64) (hi : i < 64) (hq : q i = s.testBit w) : orU (maskOf q i : Nat) (shlU (andU (shrU (s : Nat) (w : Nat)) 1) (i : Nat)) = ((maskOf q (i + 1) : Nat) : Int) := by
  rw [bit_and s w hs hw]
  cases h : s.testBit w with
  | true => rw [if_pos rfl]; exact or_shl hi (by rw [hq, h])
  | false =>
    rw [if_neg (by decide), ← mask_no (q := q) (w := i) (by rw [hq, h]), show shlU 0 (i : Nat) = ((0 : Nat) : Int) by show IntKind.wrap .u64 (0 * _) = 0; rw [Int.zero_mul]; rfl, orU_nat (mask_lt64 q (by omega)) (by decide), Nat.or_zero]
theorem md_pull (s : Nat) (ws : List Nat) (hs : s < 2 ^ 64) (hw : ∀ w, w ∈ ws → w < 64) (hl : ws.length ≤ 64) : PureFn Tryz.prog 126 [u64 s, intsPV ws] (u64 (pullN s ws)) := by
  refine PureFn.intro mixed (fn := Tryz.f126) rfl rfl rfl fun M w0 => ?_
  try conv=>whnf
  refine ⟨{ i : Nat // i ≤ ws.length }, fun i => [(0, .pv (u64 s)), (5, .pv (u64 (maskOf (fun i => s.testBit (ws.getD i 0)) i.1))), (8, .pv (intsPV ws)), (9, .pv (i64 (ws.map i64).length)), (10, .pv (i64 i.1))], fun _ => 0, fun _ => [], fun i => ws.length - i.1, ⟨⟨0, Nat.zero_le _⟩, (by refine Wk.of ?_ ?_ rfl rfl rfl<;>repeat' (first|exact trivial|exact WkD.same _|refine ⟨?_, ?_⟩|fail))⟩, ?_⟩
  intro i
  have hi := i.2
  (try conv=>whnf);repeat' (first|(apply And.intro<;>try conv=>whnf)|(intro h;try conv=>whnf)|(apply infoT;rfl)|fail)
  · have hi' : i.1 < ws.length := by simpa using lt_dec h
    obtain ⟨w, hx, hxw⟩ : ∃ y, ws[i.1]? = some y ∧ ws.getD i.1 0 = y := ⟨_, getD_mem hi', rfl⟩
    have hw64 := hw w (List.mem_iff_getElem?.2 ⟨_, hx⟩)
    have hst := pull_step (q := fun i => s.testBit (ws.getD i 0)) hs hw64 (show i.1 < 64 by omega) (by show s.testBit (ws.getD i.1 0) = _; rw [hxw])
    refine ⟨_, _, rfl, idx_map hx, rfl, ?_⟩
    (try conv=>whnf);repeat' (first|(apply And.intro<;>try conv=>whnf)|fail)
    · exact Int.natCast_nonneg _
    · exact Int.natCast_nonneg _
    · refine ⟨⟨i.1 + 1, hi'⟩, by show ws.length - (i.1 + 1) < ws.length - i.1; omega, ?_⟩
      (refine Wk.of ?_ ?_ rfl rfl rfl<;>repeat' (first|exact trivial|exact WkD.same _|refine WkD.int ?_|refine ⟨?_, ?_⟩|(refine wrapA ?_ ?_ ?_;(focus simp;done);(focus (try dsimp only);omega);(focus (try dsimp only);omega))|fail))
      exact hst
  · have hi' : i.1 = ws.length := by have := ge_dec (m := (ws.map i64).length) h (by simpa using hi); simpa using this
    exact le_int (congrArg (fun k => ((maskOf (fun i => s.testBit (ws.getD i 0)) k : Nat) : Int)) hi')
def arrI (m : Mo) (ws : List Nat) : Mo := ⟨(ws.length : Int), m.val.map fun s => pullN s ws, m.rel.map fun r => ws.map fun w => pullN (r.getD w 0) ws⟩
theorem take_map {α β : Type} {f : α → β} {l : List α} {i : Nat} {x : α} (h : l[i]? = some x) : (l.take (i + 1)).map f = (l.take i).map f ++ [f x] := by
  obtain ⟨h1, h2⟩ := List.getElem?_eq_some_iff.1 h
  rw [List.take_succ_eq_append_getElem h1, List.map_append, h2]; rfl
theorem md_arrange (m : Mo) (ws : List Nat) (n : Nat) (hM : OkM m n) (hw : ∀ w, w ∈ ws → w < n) (hl : ws.length ≤ 64) : PureFn Tryz.prog 119 [m.pv, intsPV ws] (arrI m ws).pv := by
  refine PureFn.introC [7, 16, 18] mixed (fn := Tryz.f119) rfl rfl rfl fun M w0 => ?_
  have hf := hM.fit
  have hn64 := hM.n64
  have hag := hM.ag
  have hfa := hM.fa
  have hw64 : ∀ w, w ∈ ws → w < 64 := fun w hh => by have := hw w hh; omega
  obtain ⟨ro, qro⟩ : ∃ ro : List Nat → List Nat, ro = fun r => ws.map fun w => pullN (r.getD w 0) ws := ⟨_, rfl⟩
  have har : (arrI m ws).pv = .agg [i64 (ws.map i64).length, rowPV ((m.val.take m.val.length).map fun s => pullN s ws), .sl (((m.rel.take m.rel.length).map ro).map rowPV)] := by rw [qro, List.length_map, List.take_length, List.take_length]; rfl
  rw [har]
  try conv=>whnf
  refine ⟨Unit, fun _ => [(1, .pv (intsPV ws)), (2, .ref 0 0), (4, .ref 1 0), (5, .ref 2 0)], fun _ => 3, fun _ => [(0, .var (cellsM m)), (1, .var cells0), (2, .var [.pv (i64 (ws.map i64).length), .pv (rowPV ((m.val.take m.val.length).map fun s => pullN s ws)), .pv .nil])], ?_, ?_⟩
  · try conv=>whnf
    refine ⟨{ i : Nat // i ≤ m.val.length }, fun i => [(1, .pv (intsPV ws)), (2, .ref 0 0), (4, .ref 1 0), (5, .ref 2 0), (17, .pv (.sl (m.val.map u64))), (18, .pv (i64 (m.val.map u64).length)), (19, .pv (i64 i.1))], fun _ => 4, fun i => [(0, .var (cellsM m)), (1, .var cells0), (2, .var [.pv (i64 (ws.map i64).length), .buf 3 (((m.val.take i.1).map fun s => pullN s ws).map u64).length, .pv .nil]), (3, .arr 1 (((m.val.take i.1).map fun s => pullN s ws).map u64))], fun i => m.val.length - i.1, ⟨⟨0, Nat.zero_le _⟩, (by refine Wk.of ?_ ?_ rfl rfl rfl<;>repeat' (first|exact trivial|exact WkD.same _|exact WkO.same _ _ rfl|exact WkD.new' rfl rfl rfl|exact WkO.new _ _ rfl|refine WkO.vars rfl ?_|exact rfl|refine ⟨?_, ?_⟩|fail))⟩, ?_⟩
    rintro ⟨i, hi⟩
    (try conv=>whnf);repeat' (first|(apply And.intro<;>try conv=>whnf)|(intro h;try conv=>whnf)|(apply infoT;rfl)|fail)
    · have hi' : i < m.val.length := by simpa using lt_dec h
      obtain ⟨s, hx⟩ : ∃ y, m.val[i]? = some y := ⟨_, List.getElem?_eq_getElem hi'⟩
      have hs64 := hf.1 s (List.mem_iff_getElem?.2 ⟨_, hx⟩)
      have hP := md_pull s ws hs64 hw64 hl
      have ht := take_map (f := fun s => pullN s ws) hx
      have hvsl : (((m.val.take i).map fun s => pullN s ws).map u64).length ≤ 1000 := by simp; omega
      have er : ((m.val.take i).map fun s => pullN s ws).map u64 ++ [PV.int .u64 ((pullN s ws : Nat) : Int)] = ((m.val.take (i + 1)).map fun s => pullN s ws).map u64 := by rw [ht, List.map_append]; rfl
      refine ⟨_, _, rfl, idx_map hx, rfl, ?_⟩
      (try conv=>whnf);repeat' (first|(apply And.intro<;>try conv=>whnf)|(apply cellsI;rfl)|(apply szI;rfl)|(refine lin_plan (by kernel_rfl) ?_;try conv=>whnf)|(refine ⟨_, (by (conv=>whnf);exact hP), rfl, ?_⟩;try conv=>whnf)|fail)
      · exact app_big (n := 1000) hvsl (by decide)
      · refine ⟨⟨i + 1, hi'⟩, by show m.val.length - (i + 1) < m.val.length - i; omega, ?_⟩
        (refine Wk.of ?_ ?_ rfl rfl rfl<;>repeat' (first|exact trivial|exact WkD.same _|exact WkO.same _ _ rfl|exact WkD.eq (congrArg (fun z : List PV => DV.buf _ z.length) er)|exact WkO.same _ _ (congrArg (fun z => some (DObj.arr _ z)) er)|refine WkD.int ?_|refine WkO.vars rfl ?_|refine ⟨?_, ?_⟩|(refine wrapA ?_ ?_ ?_;(focus simp;done);(focus (try dsimp only);omega);(focus (try dsimp only);omega))|fail))
    · have hi' : i = m.val.length := by have := ge_dec (m := (m.val.map u64).length) h (by simpa using hi); simpa using this
      subst hi'
      exact ⟨(), (by refine Wk.of ?_ ?_ rfl rfl rfl<;>repeat' (first|exact trivial|exact WkD.same _|exact WkO.same _ _ rfl|exact WkD.fz _ _ _ rfl (Or.inl ⟨_, rfl⟩) rfl|refine WkO.vars rfl ?_|refine ⟨?_, ?_⟩|fail))⟩
  rintro ⟨⟩
  generalize ((m.val.take m.val.length).map fun s => pullN s ws) = V
  refine ⟨Unit, fun _ => [(4, .ref 1 0), (5, .ref 2 0)], fun _ => 3, fun _ => [(1, .var cells0), (2, .var [.pv (i64 (ws.map i64).length), .pv (rowPV V), .pv (.sl (((m.rel.take m.rel.length).map ro).map rowPV))])], ?_, ?_⟩
  · try conv=>whnf
    refine ⟨{ i : Nat // i ≤ m.rel.length }, fun i => [(1, .pv (intsPV ws)), (2, .ref 0 0), (4, .ref 1 0), (5, .ref 2 0), (33, .pv (.sl (m.rel.map rowPV))), (34, .pv (i64 (m.rel.map rowPV).length)), (35, .pv (i64 i.1))], fun _ => 4, fun i => [(0, .var (cellsM m)), (1, .var cells0), (2, .var [.pv (i64 (ws.map i64).length), .pv (rowPV V), .buf 3 (((m.rel.take i.1).map ro).map rowPV).length]), (3, .arr 1 (((m.rel.take i.1).map ro).map rowPV))], fun i => m.rel.length - i.1, ⟨⟨0, Nat.zero_le _⟩, (by refine Wk.of ?_ ?_ rfl rfl rfl<;>repeat' (first|exact trivial|exact WkD.same _|exact WkO.same _ _ rfl|exact WkD.new' rfl rfl rfl|exact WkO.new _ _ rfl|refine WkO.vars rfl ?_|exact rfl|refine ⟨?_, ?_⟩|fail))⟩, ?_⟩
    rintro ⟨i, hi⟩
    (try conv=>whnf);repeat' (first|(apply And.intro<;>try conv=>whnf)|(intro h;try conv=>whnf)|(apply infoT;rfl)|fail)
    · have hi' : i < m.rel.length := by simpa using lt_dec h
      obtain ⟨r, hx⟩ : ∃ y, m.rel[i]? = some y := ⟨_, List.getElem?_eq_getElem hi'⟩
      have hrm : r ∈ m.rel := List.mem_iff_getElem?.2 ⟨_, hx⟩
      have hrl := hM.rows r hrm
      have hr64 := hf.2 r hrm
      have ht := take_map (f := ro) hx
      have hvsl : (((m.rel.take i).map ro).map rowPV).length ≤ 1000 := by simp; omega
      have er : ((m.rel.take i).map ro).map rowPV ++ [rowPV (ro r)] = ((m.rel.take (i + 1)).map ro).map rowPV := by rw [ht, List.map_append]; rfl
      refine ⟨_, _, rfl, idx_map hx, rfl, ?_⟩
      try conv=>whnf
      refine ⟨Unit, fun _ => [(1, .pv (intsPV ws)), (2, .ref 0 0), (4, .ref 1 0), (5, .ref 2 0), (10, .pv (rowPV ((ws.take ws.length).map fun w => pullN (r.getD w 0) ws))), (33, .pv (.sl (m.rel.map rowPV))), (34, .pv (i64 (m.rel.map rowPV).length)), (35, .pv (i64 i))], fun _ => 4, fun _ => [(0, .var (cellsM m)), (1, .var cells0), (2, .var [.pv (i64 (ws.map i64).length), .pv (rowPV V), .buf 3 (((m.rel.take i).map ro).map rowPV).length]), (3, .arr 1 (((m.rel.take i).map ro).map rowPV))], ?_, ?_⟩
      · try conv=>whnf
        refine ⟨{ j : Nat // j ≤ ws.length }, fun j => [(1, .pv (intsPV ws)), (2, .ref 0 0), (4, .ref 1 0), (5, .ref 2 0), (9, .pv (rowPV r)), (10, .buf 4 (((ws.take j.1).map fun w => pullN (r.getD w 0) ws).map u64).length), (33, .pv (.sl (m.rel.map rowPV))), (34, .pv (i64 (m.rel.map rowPV).length)), (35, .pv (i64 i)), (39, .pv (intsPV ws)), (40, .pv (i64 (ws.map i64).length)), (41, .pv (i64 j.1))], fun _ => 5, fun j => [(0, .var (cellsM m)), (1, .var cells0), (2, .var [.pv (i64 (ws.map i64).length), .pv (rowPV V), .buf 3 (((m.rel.take i).map ro).map rowPV).length]), (3, .arr 1 (((m.rel.take i).map ro).map rowPV)), (4, .arr 1 (((ws.take j.1).map fun w => pullN (r.getD w 0) ws).map u64))], fun j => ws.length - j.1, ⟨⟨0, Nat.zero_le _⟩, (by refine Wk.of ?_ ?_ rfl rfl rfl<;>repeat' (first|exact trivial|exact WkD.same _|exact WkO.same _ _ rfl|exact WkD.new' rfl rfl rfl|exact WkO.new _ _ rfl|exact rfl|refine ⟨?_, ?_⟩|fail))⟩, ?_⟩
        rintro ⟨j, hj⟩
        (try conv=>whnf);repeat' (first|(apply And.intro<;>try conv=>whnf)|(intro h;try conv=>whnf)|(apply infoT;rfl)|fail)
        · have hj' : j < ws.length := by simpa using lt_dec h
          obtain ⟨w, hx2⟩ : ∃ y, ws[j]? = some y := ⟨_, List.getElem?_eq_getElem hj'⟩
          have hwn := hw w (List.mem_iff_getElem?.2 ⟨_, hx2⟩)
          have hx3 : r[w]? = some (r.getD w 0) := getD_mem (by omega)
          have hs64 := hr64 _ (List.mem_iff_getElem?.2 ⟨_, hx3⟩)
          have hP := md_pull (r.getD w 0) ws hs64 hw64 hl
          have ht2 := take_map (f := fun w => pullN (r.getD w 0) ws) hx2
          have hvsl2 : (((ws.take j).map fun w => pullN (r.getD w 0) ws).map u64).length ≤ 1000 := by simp; omega
          have er2 : ((ws.take j).map fun w => pullN (r.getD w 0) ws).map u64 ++ [PV.int .u64 ((pullN (r.getD w 0) ws : Nat) : Int)] = ((ws.take (j + 1)).map fun w => pullN (r.getD w 0) ws).map u64 := by rw [ht2, List.map_append]; rfl
          generalize hgz : r.getD w 0 = z at hx3 hP er2
          refine ⟨_, _, rfl, idx_map hx2, rfl, ?_⟩
          (try conv=>whnf);repeat' (first|(apply And.intro<;>try conv=>whnf)|(apply infoT;rfl)|(apply cellsI;rfl)|(apply szI;rfl)|(refine ⟨_, _, rfl, idx_map (by with_reducible assumption), rfl, ?_⟩;try conv=>whnf)|(refine PureFn.dcq (f := 126) rfl ?_;try conv=>whnf)|(refine ⟨_, _, hP, ?_, ?_⟩;(focus first|(refine ⟨?_, ?_, trivial⟩<;>first|exact PLe.refl _|exact PLe.nil)|exact trivial);try conv=>whnf)|fail)
          · exact app_big (n := 1000) hvsl2 (by decide)
          · refine ⟨⟨j + 1, hj'⟩, by show ws.length - (j + 1) < ws.length - j; omega, ?_⟩
            (refine Wk.of ?_ ?_ rfl rfl rfl<;>repeat' (first|exact trivial|exact WkD.same _|exact WkO.same _ _ rfl|exact WkD.eq (congrArg (fun z : List PV => DV.buf _ z.length) er2)|exact WkO.same _ _ (congrArg (fun z => some (DObj.arr _ z)) er2)|refine WkD.int ?_|refine ⟨?_, ?_⟩|(refine wrapA ?_ ?_ ?_;(focus simp;done);(focus (try dsimp only);omega);(focus (try dsimp only);omega))|fail))
        · have hj' : j = ws.length := by have := ge_dec (m := (ws.map i64).length) h (by simpa using hj); simpa using this
          subst hj'
          exact ⟨(), (by refine Wk.of ?_ ?_ rfl rfl rfl<;>repeat' (first|exact trivial|exact WkD.same _|exact WkO.same _ _ rfl|exact WkD.fz _ _ _ rfl (Or.inl ⟨_, rfl⟩) rfl|refine ⟨?_, ?_⟩|fail))⟩
      rintro ⟨⟩
      have hR : (ws.take ws.length).map (fun w => pullN (r.getD w 0) ws) = ro r := by rw [List.take_length, qro]
      generalize (ws.take ws.length).map (fun w => pullN (r.getD w 0) ws) = R at hR
      rw [← hR] at er
      (try conv=>whnf);repeat' (first|(apply And.intro<;>try conv=>whnf)|(apply cellsI;rfl)|(apply szI;rfl)|fail)
      · exact app_big (n := 1000) hvsl (by decide)
      · refine ⟨⟨i + 1, hi'⟩, by show m.rel.length - (i + 1) < m.rel.length - i; omega, ?_⟩
        (refine Wk.of ?_ ?_ rfl rfl rfl<;>repeat' (first|exact trivial|exact WkD.same _|exact WkO.same _ _ rfl|exact WkD.eq (congrArg (fun z : List PV => DV.buf _ z.length) er)|exact WkO.same _ _ (congrArg (fun z => some (DObj.arr _ z)) er)|refine WkD.int ?_|refine WkO.vars rfl ?_|refine ⟨?_, ?_⟩|(refine wrapA ?_ ?_ ?_;(focus simp;done);(focus (try dsimp only);omega);(focus (try dsimp only);omega))|fail))
    · have hi' : i = m.rel.length := by have := ge_dec (m := (m.rel.map rowPV).length) h (by simpa using hi); simpa using this
      subst hi'
      exact ⟨(), (by refine Wk.of ?_ ?_ rfl rfl rfl<;>repeat' (first|exact trivial|exact WkD.same _|exact WkO.same _ _ rfl|exact WkD.fz _ _ _ rfl (Or.inl ⟨_, rfl⟩) rfl|refine WkO.vars rfl ?_|refine ⟨?_, ?_⟩|fail))⟩
  rintro ⟨⟩
  try conv=>whnf
  exact .refl _
end Go.Proofs.YtibbphifegibkaaGreatDoor
set_option maxRecDepth 100000
set_option maxHeartbeats 4000000
namespace Go.Proofs.YtibbphifegibkaaGreatDoor
open Go Go.Dv

theorem u_mod : ∃ fs : Array Field, Tryz.prog.underlying 25 = some (.struct fs) ∧ fs.toList.map (·.type) = [3, 22, 23] := ⟨_, rfl, by kernel_rfl⟩
theorem arg_mod {n : Nat} {p : PV} (h : TyA Tryz.prog (n + 4) 25 p) : ∃ m : Mo, PLe p m.pv ∧ FitM m := by
  obtain ⟨cs, h, rfl⟩ := h
  obtain ⟨fs, hu, hf⟩ := u_mod
  have hm : mkE Tryz.prog 25 cs = .agg cs := by simp only [mkE, kindT, hu]
  obtain ⟨a, b, r1, rfl, h1, hb, m1⟩ := fs_cons hf (tyS (n := n + 3) hu h)
  obtain ⟨c, d, r2, rfl, h2, hd, m2⟩ := fs_cons m1 hb
  obtain ⟨e, g, r3, rfl, h3, hg, m3⟩ := fs_cons m2 hd
  have := fs_nil m3 hg
  subst this
  obtain ⟨w, rfl, _⟩ := int_of (n := n + 2) h1
  obtain ⟨val, q2, rfl, l2, hv⟩ := slice_of (n := n + 2) (g := u64) (Q := fun s => s < 2 ^ 64) u_rowT (u64_el (n := n + 1)) h2
  obtain ⟨rel, q3, rfl, l3, hr⟩ := slice_of (n := n + 2) (g := rowPV) (Q := fun r => ∀ s, s ∈ r → s < 2 ^ 64) u_relT (fun p hp => el_of (n := n + 1) u_rowT (u64_el (n := n)) p hp) h3
  refine ⟨⟨w, val, rel⟩, ?_, hv, hr⟩
  rw [hm]
  exact PLe.aggs ⟨.refl _, l2, l3, trivial⟩
end Go.Proofs.YtibbphifegibkaaGreatDoor
namespace Go.Dv
open Go.RowKit (Below)
mutual
/-- A value whose objects bear other numbers. -/
def DV.ren (ρ : Nat → Nat) : DV → DV
  | .agg l => .agg (DV.rens ρ l)
  | .tup l => .tup (DV.rens ρ l)
  | .ref k c => .ref (ρ k) c
  | .aref k n i c => .aref (ρ k) n i c
  | .buf k n => .buf (ρ k) n
  | .mp k => .mp (ρ k)
  | .vbuf k n => .vbuf (ρ k) n
  | .clo f a b => .clo f (DV.rens ρ a) (DV.rens ρ b)
  | .when c d => .when c (d.ren ρ)
  | .pv p => .pv p
  | .e0 => .e0
  | .eptr p c => .eptr p c
  | .fnv v => .fnv v
  | .raw v => .raw v
  | .any => .any
def DV.rens (ρ : Nat → Nat) : List DV → List DV
  | [] => []
  | d :: r => d.ren ρ :: DV.rens ρ r
end
def DObj.ren (ρ : Nat → Nat) : DObj → DObj
  | .var cs => .var (DV.rens ρ cs)
  | .arr sz es => .arr sz es
  | .fz l => .fz l
  | .mp es => .mp es
  | .gone => .gone
mutual
/-- All objects of a value are of a kind. -/
def DV.keys (p : Nat → Bool) : DV → Bool
  | .agg l => DV.keyss p l
  | .tup l => DV.keyss p l
  | .ref k _ => p k
  | .aref k _ _ _ => p k
  | .buf k _ => p k
  | .mp k => p k
  | .vbuf k _ => p k
  | .clo _ a b => DV.keyss p a && DV.keyss p b
  | .when c d => !c || d.keys p
  | _ => true
def DV.keyss (p : Nat → Bool) : List DV → Bool
  | [] => true
  | d :: r => d.keys p && DV.keyss p r
end
def DObj.keys (p : Nat → Bool) : DObj → Bool
  | .var cs => DV.keyss p cs
  | _ => true
theorem keyss_iff {p : Nat → Bool} : ∀ {l : List DV}, DV.keyss p l = true → ∀ (i : Nat) (d : DV), l[i]? = some d → d.keys p = true
  | [], _, i, d, h => by simp at h
  | x :: r, hk, i, d, h => by
    simp only [DV.keyss, Bool.and_eq_true] at hk
    cases i with
    | zero => simp at h; subst h; exact hk.1
    | succ i => exact keyss_iff hk.2 i d (by simpa using h)
theorem rens_len {ρ : Nat → Nat} : ∀ (l : List DV), (DV.rens ρ l).length = l.length
  | [] => rfl
  | _ :: r => by rw [DV.rens, List.length_cons, List.length_cons, rens_len r]
theorem rens_get {ρ : Nat → Nat} : ∀ {l : List DV} {i : Nat} {d : DV}, (DV.rens ρ l)[i]? = some d → ∃ d0, l[i]? = some d0 ∧ d = d0.ren ρ
  | [], i, d, h => by simp [DV.rens] at h
  | x :: r, i, d, h => by
    rw [DV.rens] at h
    cases i with
    | zero => simp at h; exact ⟨x, by simp, h.symm⟩
    | succ i =>
      obtain ⟨d0, h1, h2⟩ := rens_get (l := r) (i := i) (by simpa using h)
      exact ⟨d0, by simpa using h1, h2⟩
theorem ren_var {ρ : Nat → Nat} {o : Option DObj} {cs : List DV} (h : o.map (DObj.ren ρ) = some (.var cs)) : ∃ c0, o = some (.var c0) ∧ cs = DV.rens ρ c0 := by
  cases o with
  | none => cases h
  | some o =>
    cases o with
    | var c0 => exact ⟨c0, rfl, by simpa [DObj.ren] using h.symm⟩
    | arr => simp [DObj.ren] at h
    | fz => simp [DObj.ren] at h
    | mp => simp [DObj.ren] at h
    | gone => simp [DObj.ren] at h
theorem ren_arr {ρ : Nat → Nat} {o : Option DObj} {sz : Nat} {es : List PV} (h : o.map (DObj.ren ρ) = some (.arr sz es)) : o = some (.arr sz es) := by
  cases o with
  | none => cases h
  | some o => cases o <;> simp [DObj.ren] at h; obtain ⟨rfl, rfl⟩ := h; rfl
theorem ren_fz {ρ : Nat → Nat} {o : Option DObj} {es : List PV} (h : o.map (DObj.ren ρ) = some (.fz es)) : o = some (.fz es) := by
  cases o with
  | none => cases h
  | some o => cases o <;> simp [DObj.ren] at h; subst h; rfl
theorem ren_mp {ρ : Nat → Nat} {o : Option DObj} {es : List (PV × PV)} (h : o.map (DObj.ren ρ) = some (.mp es)) : o = some (.mp es) := by
  cases o with
  | none => cases h
  | some o => cases o <;> simp [DObj.ren] at h; subst h; rfl
theorem ren_some {ρ : Nat → Nat} {o : Option DObj} {x : DObj} (h : o.map (DObj.ren ρ) = some x) : ∃ y, o = some y ∧ x = y.ren ρ := by
  cases o with
  | none => cases h
  | some y => exact ⟨y, rfl, by simpa using h.symm⟩
theorem live_ren {ρ : Nat → Nat} {m : Loc} {o : DObj} : liveAt m (o.ren ρ) ↔ liveAt m o := by cases o <;> exact Iff.rfl
section
variable {P : Program} {M : Nat → Prop} {w0 : World}
theorem RelV.ren {T T' : Nat → Prop} {w : World} {μ μ' : Nat → Loc} {L L' : DH} {ρ : Nat → Nat} {p : Nat → Bool} {d : DV} {v : Value} (h : RelV T w μ L d v) (hu : d.keys p = true) (hT : ∀ b, T' b → T b)
    (hL : ∀ k, p k = true → L'.get (ρ k) = (L.get k).map (DObj.ren ρ) ∧ μ' (ρ k) = μ k) : RelV T' w μ' L' (d.ren ρ) v := by
  induction h with
  | pv q v h => exact .pv q v (h.sub hT)
  | e0 a => exact .e0 a
  | agg l vs h1 _ ih =>
    simp only [DV.keys] at hu
    refine .agg _ vs (by rw [rens_len]; exact h1) fun i d v hi hv => ?_
    obtain ⟨d0, g1, rfl⟩ := rens_get hi
    exact ih i d0 v g1 hv (keyss_iff hu i d0 g1)
  | tup l vs h1 _ ih =>
    simp only [DV.keys] at hu
    refine .tup _ vs (by rw [rens_len]; exact h1) fun i d v hi hv => ?_
    obtain ⟨d0, g1, rfl⟩ := rens_get hi
    exact ih i d0 v g1 hv (keyss_iff hu i d0 g1)
  | ref k c v h1 h2 =>
    obtain ⟨e1, e2⟩ := hL k hu
    refine .ref (ρ k) c v h1 fun cs hc => ?_
    rw [e1] at hc
    obtain ⟨c0, hc0, _⟩ := ren_var hc
    rw [e2]; exact h2 c0 hc0
  | aref k m i c v h1 h2 h3 =>
    obtain ⟨e1, e2⟩ := hL k hu
    exact .aref (ρ k) m i c v h1 (fun sz es hc => by rw [e1] at hc; rw [e2]; exact h2 sz es (ren_arr hc)) (fun es hc => by rw [e1] at hc; rw [e2]; exact h3 es (ren_fz hc))
  | eptr q c b off val h1 h2 h3 h4 => exact .eptr q c b off val (fun hb => h1 (hT b hb)) h2 h3 fun j q hj => (h4 j q hj).sub hT
  | buf k m v h1 h2 h3 =>
    obtain ⟨e1, e2⟩ := hL k hu
    exact .buf (ρ k) m v h1 (fun sz es hc => by rw [e1] at hc; rw [e2]; exact h2 sz es (ren_arr hc)) (fun es hc => by rw [e1] at hc; rw [e2]; exact h3 es (ren_fz hc))
  | vbuf k n v h1 h2 =>
    obtain ⟨e1, e2⟩ := hL k hu
    refine .vbuf (ρ k) n v h1 fun cs hc => ?_
    rw [e1] at hc
    obtain ⟨c0, hc0, _⟩ := ren_var hc
    rw [e2]; exact h2 c0 hc0
  | mp k v h1 h2 =>
    obtain ⟨e1, e2⟩ := hL k hu
    exact .mp (ρ k) v h1 fun es hc => by rw [e1] at hc; rw [e2]; exact h2 es (ren_mp hc)
  | clo f first caps fs cs h1 h2 _ _ ih1 ih2 =>
    simp only [DV.keys, Bool.and_eq_true] at hu
    refine .clo f _ _ fs cs (by rw [rens_len]; exact h1) (by rw [rens_len]; exact h2) (fun i d v hi hv => ?_) (fun i d v hi hv => ?_)
    · obtain ⟨d0, g1, rfl⟩ := rens_get hi
      exact ih1 i d0 v g1 hv (keyss_iff hu.1 i d0 g1)
    · obtain ⟨d0, g1, rfl⟩ := rens_get hi
      exact ih2 i d0 v g1 hv (keyss_iff hu.2 i d0 g1)
  | fnv v => exact .fnv v
  | when c d v _ h2 ih => exact .when c _ v (fun hc => ih hc (by simpa [DV.keys, hc] using hu)) h2
  | raw v => exact .raw v
  | any v => exact .any v
theorem ObjRel.ren {T T' : Nat → Prop} {w : World} {μ μ' : Nat → Loc} {L L' : DH} {ρ : Nat → Nat} {p : Nat → Bool} {k k' : Nat} {o : DObj} (h : ObjRel T w μ L k o) (hu : o.keys p = true) (hk : μ' k' = μ k) (hT : ∀ b, T' b → T b)
    (hL : ∀ k, p k = true → L'.get (ρ k) = (L.get k).map (DObj.ren ρ) ∧ μ' (ρ k) = μ k) : ObjRel T' w μ' L' k' (o.ren ρ) := by
  cases o with
  | var cs =>
    obtain ⟨vs, ty, h1, h2, h3⟩ := h
    refine ⟨vs, ty, by rw [hk]; exact h1, by rw [rens_len]; exact h2, fun i d v hi hv => ?_⟩
    obtain ⟨d0, g1, rfl⟩ := rens_get hi
    exact (h3 i d0 v g1 hv).ren (keyss_iff hu i d0 g1) hT hL
  | arr sz es =>
    rcases h with ⟨h1, h2⟩ | ⟨vs, ty, h1, h2, h3, h4, h5, h6⟩
    · exact .inl ⟨by rw [hk]; exact h1, h2⟩
    · refine .inr ⟨vs, ty, by rw [hk]; exact h1, by rw [hk]; exact h2, by rw [hk]; exact h3, by rw [hk]; exact h4, h5, fun i p j q hp hq => ?_⟩
      obtain ⟨v, g1, g2⟩ := h6 i p j q hp hq
      exact ⟨v, g1, g2.sub hT⟩
  | fz l =>
    rcases h with ⟨h1, h2⟩ | ⟨h1, h2, h3⟩
    · exact .inl ⟨by rw [hk]; exact h1, h2⟩
    · exact .inr ⟨by rw [hk]; exact h1, by rw [hk]; exact h2, by rw [hk]; exact h3.sub hT⟩
  | gone => trivial
  | mp es =>
    obtain ⟨ents, clock, h1, h2, h3⟩ := h
    exact ⟨ents, clock, by rw [hk]; exact h1, h2, fun i kv e hi he => ⟨(h3 i kv e hi he).1.sub hT, (h3 i kv e hi he).2.sub hT⟩⟩
mutual
theorem keys_under (n : Nat) : ∀ d : DV, d.keys (fun k => Nat.blt k n) = d.under n
  | .agg l => by simp only [DV.keys, DV.under]; exact keyss_unders n l
  | .tup l => by simp only [DV.keys, DV.under]; exact keyss_unders n l
  | .ref _ _ => rfl
  | .aref _ _ _ _ => rfl
  | .buf _ _ => rfl
  | .mp _ => rfl
  | .vbuf _ _ => rfl
  | .clo _ a b => by simp only [DV.keys, DV.under, keyss_unders n a, keyss_unders n b]
  | .when c d => by simp only [DV.keys, DV.under, keys_under n d]
  | .pv _ => rfl
  | .e0 => rfl
  | .eptr _ _ => rfl
  | .fnv _ => rfl
  | .raw _ => rfl
  | .any => rfl
theorem keyss_unders (n : Nat) : ∀ l : List DV, DV.keyss (fun k => Nat.blt k n) l = DV.unders n l
  | [] => rfl
  | d :: r => by simp only [DV.keyss, DV.unders, keys_under n d, keyss_unders n r]
end
mutual
theorem ren_under {n m : Nat} {ρ : Nat → Nat} (hρ : ∀ k, k < n → ρ k < m) : ∀ d : DV, d.under n = true → (d.ren ρ).under m = true
  | .agg l, h => by simp only [DV.under, DV.ren] at h ⊢; exact rens_under hρ l h
  | .tup l, h => by simp only [DV.under, DV.ren] at h ⊢; exact rens_under hρ l h
  | .ref k _, h => by simp only [DV.under, DV.ren, Nat.blt_eq] at h ⊢; exact hρ k h
  | .aref k _ _ _, h => by simp only [DV.under, DV.ren, Nat.blt_eq] at h ⊢; exact hρ k h
  | .buf k _, h => by simp only [DV.under, DV.ren, Nat.blt_eq] at h ⊢; exact hρ k h
  | .mp k, h => by simp only [DV.under, DV.ren, Nat.blt_eq] at h ⊢; exact hρ k h
  | .vbuf k _, h => by simp only [DV.under, DV.ren, Nat.blt_eq] at h ⊢; exact hρ k h
  | .clo _ a b, h => by
    simp only [DV.under, DV.ren, Bool.and_eq_true] at h ⊢
    exact ⟨rens_under hρ a h.1, rens_under hρ b h.2⟩
  | .when c d, h => by
    simp only [DV.under, DV.ren] at h ⊢
    cases c with
    | false => rfl
    | true => simpa using ren_under hρ d (by simpa using h)
  | .pv _, _ => rfl
  | .e0, _ => rfl
  | .eptr _ _, _ => rfl
  | .fnv _, _ => rfl
  | .raw _, _ => rfl
  | .any, _ => rfl
theorem rens_under {n m : Nat} {ρ : Nat → Nat} (hρ : ∀ k, k < n → ρ k < m) : ∀ l : List DV, DV.unders n l = true → DV.unders m (DV.rens ρ l) = true
  | [], _ => rfl
  | d :: r, h => by
    simp only [DV.unders, DV.rens, Bool.and_eq_true] at h ⊢
    exact ⟨ren_under hρ d h.1, rens_under hρ r h.2⟩
end
theorem obj_keys {n : Nat} : ∀ {o : DObj}, o.under n = true → o.keys (fun k => Nat.blt k n) = true
  | .var cs, h => by simp only [DObj.under] at h; simp only [DObj.keys]; rw [keyss_unders]; exact h
  | .arr _ _, _ => rfl
  | .fz _, _ => rfl
  | .mp _, _ => rfl
  | .gone, _ => rfl
theorem obj_ren_under {n m : Nat} {ρ : Nat → Nat} (hρ : ∀ k, k < n → ρ k < m) : ∀ {o : DObj}, o.under n = true → (o.ren ρ).under m = true
  | .var cs, h => rens_under hρ cs h
  | .arr _ _, _ => rfl
  | .fz _, _ => rfl
  | .mp _, _ => rfl
  | .gone, _ => rfl
/-- The heap behind a call that sees some objects under other numbers. -/
def DH.mergeR (L : DH) (ρ σ : Nat → Nat) (p : Nat → Bool) (L' : DH) : DH := { L with get := fun k => bif p k then (L'.get (σ k)).map (DObj.ren ρ) else L.get k }
theorem mergeR_in {L L' : DH} {ρ σ : Nat → Nat} {p : Nat → Bool} {k : Nat} (h : p k = true) : (L.mergeR ρ σ p L').get k = (L'.get (σ k)).map (DObj.ren ρ) := by
  simp only [DH.mergeR, h, cond_true]
theorem mergeR_out {L L' : DH} {ρ σ : Nat → Nat} {p : Nat → Bool} {k : Nat} (h : p k = false) : (L.mergeR ρ σ p L').get k = L.get k := by
  simp only [DH.mergeR, h, cond_false]
theorem DC.ren {f : FuncId} {args : List DV} {L H : DH} {K : DV → DH → Prop} (ρ σ : Nat → Nat) (p : Nat → Bool) (h1 : ∀ k, k < H.next → p (ρ k) = true ∧ σ (ρ k) = k ∧ ρ k < L.next) (h2 : ∀ k, p k = true → σ k < H.next ∧ ρ (σ k) = k)
    (hag : ∀ k, k < H.next → H.get k = (L.get (ρ k)).map (DObj.ren σ)) (hkp : ∀ k o, k < H.next → L.get (ρ k) = some o → o.keys p = true) (hnone : ∀ k, H.next ≤ k → H.get k = none) (hlo : H.lo = 0) (hlo' : L.lo = 0)
    (hbase : H.base ≤ H.next) (hkeys : ∀ k o, H.get k = some o → o.under H.next = true) (hargs : DV.keyss p args = true) (hargsU : DV.unders H.next (DV.rens σ args) = true)
    (h : ∀ M, DC P M w0 f (DV.rens σ args) H fun d L' => L'.next = H.next ∧ K (d.ren ρ) (L.mergeR ρ σ p L')) : DC P M w0 f args L K := by
  refine DC.mk ⟨(h M).elim.1, fun μ w vs hr hu hrel => ?_⟩
  have hlt : ∀ k o, H.get k = some o → k < H.next := fun k o hk => by
    rcases Nat.lt_or_ge k H.next with h' | h'
    · exact h'
    · rw [hnone k h'] at hk; cases hk
  have hsub : ∀ k o, H.get k = some o → ∃ o', L.get (ρ k) = some o' ∧ o = o'.ren σ := fun k o hk => by
    rw [hag k (hlt k o hk)] at hk
    exact ren_some hk
  let M' : Nat → Prop := fun b => M b ∨ ∃ k o, p k = false ∧ L.get k = some o ∧ liveAt (μ k) o ∧ (μ k).blk = b
  let μH : Nat → Loc := fun k => μ (ρ k)
  have hin : ∀ k o, p k = true → L.get k = some o → H.get (σ k) = some (o.ren σ) := fun k o hk ho => by
    obtain ⟨g1, g2⟩ := h2 k hk
    rw [hag _ g1, g2, ho]; rfl
  have hT : ∀ b, Tot M' μH H b ↔ Tot M μ L b := fun b => by
    constructor
    · rintro ((hb | ⟨k, o, _, h2, h3, h4⟩) | ⟨k, o, q1, q2, q3⟩)
      · exact .inl hb
      · exact .inr ⟨k, o, h2, h3, h4⟩
      · obtain ⟨o', g1, rfl⟩ := hsub k o q1
        exact .inr ⟨ρ k, o', g1, live_ren.1 q2, q3⟩
    · rintro (hb | ⟨k, o, q1, q2, q3⟩)
      · exact .inl (.inl hb)
      · cases hp : p k with
        | true =>
          obtain ⟨g1, g2⟩ := h2 k hp
          refine .inr ⟨σ k, o.ren σ, hin k o hp q1, ?_, ?_⟩
          · show liveAt (μ (ρ (σ k))) _
            rw [g2]; exact live_ren.2 q2
          · show (μ (ρ (σ k))).blk = b
            rw [g2]; exact q3
        | false => exact .inl (.inr ⟨k, o, hp, q1, q2, q3⟩)
  have hLH : ∀ k, p k = true → H.get (σ k) = (L.get k).map (DObj.ren σ) ∧ μH (σ k) = μ k := fun k hk => by
    obtain ⟨g1, g2⟩ := h2 k hk
    exact ⟨by rw [hag _ g1, g2], by show μ (ρ (σ k)) = μ k; rw [g2]⟩
  have hrH : HR M' w0 μH H w := by
    refine ⟨hr.ext, ?_, fun k o hk => ⟨hlt k o hk, hkeys k o hk⟩, ?_, ?_, ?_, hbase, by rw [hlo]; exact Nat.zero_le _, hr.glb⟩
    · rintro b (hb | ⟨k, o, _, q2, q3, rfl⟩)
      · exact hr.mlt b hb
      · exact (hr.live k o q2 q3).1
    · intro k o hk hl
      obtain ⟨o', g0, rfl⟩ := hsub k o hk
      obtain ⟨g1, g2, g3⟩ := hr.live (ρ k) o' g0 (live_ren.1 hl)
      refine ⟨g1, ?_, fun _ => g3 (by rw [hlo']; exact Nat.zero_le _)⟩
      rintro (hb | ⟨k', o2, hk', q2, q3, q4⟩)
      · exact g2 hb
      · have := hr.inj k' o2 (ρ k) o' q2 q3 g0 (live_ren.1 hl) q4
        rw [this, (h1 k (hlt k _ hk)).1] at hk'
        cases hk'
    · intro k o k' o' q1 q2 q3 q4 q5
      obtain ⟨a, a1, rfl⟩ := hsub k o q1
      obtain ⟨b, b1, rfl⟩ := hsub k' o' q3
      have e := hr.inj (ρ k) a (ρ k') b a1 (live_ren.1 q2) b1 (live_ren.1 q4) q5
      rw [← (h1 k (hlt k _ q1)).2.1, ← (h1 k' (hlt k' _ q3)).2.1, e]
    · intro k o hk
      obtain ⟨o', g0, rfl⟩ := hsub k o hk
      exact (hr.obj (ρ k) o' g0).ren (hkp k o' (hlt k _ hk) g0) rfl (fun b hb => (hT b).1 hb) hLH
  have hrelH : RelVs (Tot M' μH H) w μH H (DV.rens σ args) vs := ⟨by rw [rens_len]; exact hrel.1, fun i d v hd hv => by
    obtain ⟨d0, g1, rfl⟩ := rens_get hd
    exact (hrel.2 i d0 v g1 hv).ren (keyss_iff hargs i d0 g1) (fun b hb => (hT b).1 hb) hLH⟩
  refine ((h M').elim.2 μH w vs hrH hargsU hrelH).mono ?_
  rintro e w' ⟨v, he, μ', d, L', ⟨hn', hK⟩, hr', hv, hdu, hs⟩
  let μL : Nat → Loc := fun k => bif p k then μ' (σ k) else μ k
  have hμin : ∀ k, p k = true → μL k = μ' (σ k) := fun k hk => by show (bif p k then _ else _) = _; rw [hk]; rfl
  have hμout : ∀ k, p k = false → μL k = μ k := fun k hk => by show (bif p k then _ else _) = _; rw [hk]; rfl
  refine ⟨v, he, μL, d.ren ρ, L.mergeR ρ σ p L', hK, ?_⟩
  have hk' : ∀ k o, L'.get k = some o → k < H.next := fun k o hk => by have := (hr'.keys k o hk).1; omega
  have hframe : ∀ k o, p k = false → L.get k = some o → liveAt (μ k) o → w'.heap[(μ k).blk]? = w.heap[(μ k).blk]? := by
    intro k o hk hg hl
    refine hs.same _ (hr.live k o hg hl).1 ?_
    rintro ⟨j, o', q1, q2, q3, q4⟩
    obtain ⟨a, a1, rfl⟩ := hsub j o' q2
    have := hr.inj (ρ j) a k o a1 (live_ren.1 q3) hg hl q4
    rw [← this, (h1 j (hlt j _ q2)).1] at hk
    cases hk
  have hW : ∀ b, Wbl μH H b → Wbl μ L b := by
    rintro b ⟨k, o, q1, q2, q3, q4⟩
    obtain ⟨a, a1, rfl⟩ := hsub k o q2
    exact ⟨ρ k, a, by rw [hlo']; exact Nat.zero_le _, a1, live_ren.1 q3, q4⟩
  have hback : ∀ k o, p k = true → (L.mergeR ρ σ p L').get k = some o → ∃ o', L'.get (σ k) = some o' ∧ o = o'.ren ρ := fun k o hk ho => by
    rw [mergeR_in hk] at ho
    exact ren_some ho
  have hstp : Stp L μ w (L.mergeR ρ σ p L') μL w' := by
    refine ⟨⟨?_, ?_, ?_, ?_⟩, hs.os, hs.tape, hs.output, hs.size, fun b hb hn => hs.same b hb fun hw => hn (hW b hw), ?_, Nat.le_refl _, rfl, rfl⟩
    · intro k cs' hkl hc
      cases hp : p k with
      | true =>
        rw [mergeR_in hp] at hc
        rw [hμin k hp]
        obtain ⟨c0, g1, _⟩ := ren_var hc
        obtain ⟨cs, g2, g3⟩ := hs.evo.var (σ k) c0 (h2 k hp).1 g1
        obtain ⟨a, a1, a2⟩ := hsub (σ k) _ g2
        rw [(h2 k hp).2] at a1
        cases a with
        | var ca => exact ⟨ca, a1, by rw [g3]; show μ (ρ (σ k)) = μ k; rw [(h2 k hp).2]⟩
        | arr => simp [DObj.ren] at a2
        | fz => simp [DObj.ren] at a2
        | mp => simp [DObj.ren] at a2
        | gone => simp [DObj.ren] at a2
      | false =>
        rw [mergeR_out hp] at hc
        rw [hμout k hp]
        exact ⟨cs', hc, rfl⟩
    · intro k cs' hkl hc
      cases hp : p k with
      | true =>
        rw [mergeR_in hp] at hc
        rw [hμin k hp]
        obtain ⟨cs, g2, g3⟩ := hs.evo.mp (σ k) cs' (h2 k hp).1 (ren_mp hc)
        obtain ⟨a, a1, a2⟩ := hsub (σ k) _ g2
        rw [(h2 k hp).2] at a1
        have a3 := ren_mp (ρ := σ) (o := some a) (es := cs) (by rw [a2]; rfl)
        exact ⟨cs, by rw [a1]; exact a3, by rw [g3]; show μ (ρ (σ k)) = μ k; rw [(h2 k hp).2]⟩
      | false =>
        rw [mergeR_out hp] at hc
        rw [hμout k hp]
        exact ⟨cs', hc, rfl⟩
    · intro k sz es' hkl hc
      cases hp : p k with
      | true =>
        rw [mergeR_in hp] at hc
        rw [hμin k hp]
        obtain ⟨es, g2, g3⟩ := hs.evo.arr (σ k) sz es' (h2 k hp).1 (ren_arr hc)
        obtain ⟨a, a1, a2⟩ := hsub (σ k) _ g2
        rw [(h2 k hp).2] at a1
        have a3 := ren_arr (ρ := σ) (o := some a) (sz := sz) (es := es) (by rw [a2]; rfl)
        refine ⟨es, by rw [a1]; exact a3, ?_⟩
        rcases g3 with g3 | ⟨g3, g4⟩
        · exact .inl g3
        · exact .inr ⟨g3, by rw [g4]; show μ (ρ (σ k)) = μ k; rw [(h2 k hp).2]⟩
      | false =>
        rw [mergeR_out hp] at hc
        rw [hμout k hp]
        exact ⟨es', hc, .inr ⟨rfl, rfl⟩⟩
    · intro k es' hkl hc
      cases hp : p k with
      | true =>
        rw [mergeR_in hp] at hc
        rw [hμin k hp]
        have em : μH (σ k) = μ k := by show μ (ρ (σ k)) = μ k; rw [(h2 k hp).2]
        rcases hs.evo.fz (σ k) es' (h2 k hp).1 (ren_fz hc) with ⟨g2, g3⟩ | ⟨sz, es, g2, g3, g4⟩
        · obtain ⟨a, a1, a2⟩ := hsub (σ k) _ g2
          rw [(h2 k hp).2] at a1
          have a3 := ren_fz (ρ := σ) (o := some a) (es := es') (by rw [a2]; rfl)
          exact .inl ⟨by rw [a1]; exact a3, by rw [g3]; exact em⟩
        · obtain ⟨a, a1, a2⟩ := hsub (σ k) _ g2
          rw [(h2 k hp).2] at a1
          have a3 := ren_arr (ρ := σ) (o := some a) (sz := sz) (es := es) (by rw [a2]; rfl)
          refine .inr ⟨sz, es, by rw [a1]; exact a3, g3, ?_⟩
          rcases g4 with g4 | ⟨g4, g5⟩
          · exact .inl g4
          · exact .inr ⟨g4, by rw [g5]; exact em⟩
      | false =>
        rw [mergeR_out hp] at hc
        rw [hμout k hp]
        exact .inl ⟨hc, rfl⟩
    · intro k o hc hl
      cases hp : p k with
      | true =>
        obtain ⟨o', g1, rfl⟩ := hback k o hp hc
        rw [hμin k hp] at hl ⊢
        rcases hs.blk (σ k) o' g1 (live_ren.1 hl) with ⟨q1, ⟨o0, q2, q3⟩, q4⟩ | q1
        · obtain ⟨a, a1, rfl⟩ := hsub (σ k) _ q2
          rw [(h2 k hp).2] at a1
          have em : μH (σ k) = μ k := by show μ (ρ (σ k)) = μ k; rw [(h2 k hp).2]
          rw [em] at q3 q4
          exact .inl ⟨(hr.keys k a a1).1, ⟨a, a1, live_ren.1 q3⟩, q4⟩
        · exact .inr q1
      | false =>
        rw [mergeR_out hp] at hc
        rw [hμout k hp] at hl ⊢
        exact .inl ⟨(hr.keys k o hc).1, ⟨o, hc, hl⟩, rfl⟩
  have hT' : ∀ b, Tot M μL (L.mergeR ρ σ p L') b → Tot M' μ' L' b := by
    rintro b (hb | ⟨k, o, q1, q2, q3⟩)
    · exact .inl (.inl hb)
    · cases hp : p k with
      | true =>
        obtain ⟨o', g1, rfl⟩ := hback k o hp q1
        rw [hμin k hp] at q2 q3
        exact .inr ⟨σ k, o', g1, live_ren.1 q2, q3⟩
      | false =>
        rw [mergeR_out hp] at q1
        rw [hμout k hp] at q2 q3
        exact .inl (.inr ⟨k, o, hp, q1, q2, q3⟩)
  have hL' : ∀ k, Nat.blt k H.next = true → (L.mergeR ρ σ p L').get (ρ k) = (L'.get k).map (DObj.ren ρ) ∧ μL (ρ k) = μ' k := fun k hk => by
    have hk : k < H.next := by simpa using hk
    obtain ⟨g1, g2, _⟩ := h1 k hk
    exact ⟨by rw [mergeR_in g1, g2], by rw [hμin _ g1, g2]⟩
  have hnew : ∀ k o, L'.get k = some o → liveAt (μ' k) o → ∀ j oj, p j = false → L.get j = some oj → liveAt (μ j) oj → (μ' k).blk ≠ (μ j).blk := by
    intro k o hk hl j oj hj q2 q3 he
    exact (hr'.live k o hk hl).2.1 (.inr ⟨j, oj, hj, q2, q3, he.symm⟩)
  have hdk : d.keys (fun k => Nat.blt k H.next) = true := by rw [keys_under, ← hn']; exact hdu
  have hρu : ∀ k, k < H.next → ρ k < L.next := fun k hk => (h1 k hk).2.2
  refine ⟨⟨hr'.ext, fun b hb => hr'.mlt b (.inl hb), ?_, ?_, ?_, ?_, hr.base, hr.lob, hr.glb⟩, hv.ren hdk hT' hL', ren_under hρu d (by rw [← hn']; exact hdu), hstp⟩
  · intro k o hk
    cases hp : p k with
    | true =>
      obtain ⟨o', g1, rfl⟩ := hback k o hp hk
      have g2 := (hr'.keys (σ k) o' g1).2
      rw [hn'] at g2
      have := hρu (σ k) (h2 k hp).1
      rw [(h2 k hp).2] at this
      exact ⟨this, obj_ren_under hρu g2⟩
    | false => rw [mergeR_out hp] at hk; exact hr.keys k o hk
  · intro k o hk hl
    cases hp : p k with
    | true =>
      obtain ⟨o', g1, rfl⟩ := hback k o hp hk
      rw [hμin k hp] at hl ⊢
      obtain ⟨q1, q2, q3⟩ := hr'.live (σ k) o' g1 (live_ren.1 hl)
      refine ⟨q1, fun hM => q2 (.inl hM), fun _ => q3 (by rw [hs.lo, hlo]; exact Nat.zero_le _)⟩
    | false =>
      rw [mergeR_out hp] at hk
      rw [hμout k hp] at hl ⊢
      obtain ⟨q1, q2, q3⟩ := hr.live k o hk hl
      exact ⟨Nat.lt_of_lt_of_le q1 hs.size, q2, q3⟩
  · intro k o k' o' q1 q2 q3 q4 q5
    cases hp : p k with
    | true =>
      cases hp' : p k' with
      | true =>
        obtain ⟨a, a1, rfl⟩ := hback k o hp q1
        obtain ⟨b, b1, rfl⟩ := hback k' o' hp' q3
        rw [hμin k hp] at q2 q5
        rw [hμin k' hp'] at q4 q5
        have e := hr'.inj (σ k) a (σ k') b a1 (live_ren.1 q2) b1 (live_ren.1 q4) q5
        rw [← (h2 k hp).2, ← (h2 k' hp').2, e]
      | false =>
        obtain ⟨a, a1, rfl⟩ := hback k o hp q1
        rw [mergeR_out hp'] at q3
        rw [hμin k hp] at q2 q5
        rw [hμout k' hp'] at q4 q5
        exact absurd q5 (hnew (σ k) a a1 (live_ren.1 q2) k' o' hp' q3 q4)
    | false =>
      cases hp' : p k' with
      | true =>
        obtain ⟨b, b1, rfl⟩ := hback k' o' hp' q3
        rw [mergeR_out hp] at q1
        rw [hμout k hp] at q2 q5
        rw [hμin k' hp'] at q4 q5
        exact absurd q5.symm (hnew (σ k') b b1 (live_ren.1 q4) k o hp q1 q2)
      | false =>
        rw [mergeR_out hp] at q1
        rw [mergeR_out hp'] at q3
        rw [hμout k hp] at q2 q5
        rw [hμout k' hp'] at q4 q5
        exact hr.inj k o k' o' q1 q2 q3 q4 q5
  · intro k o hk
    cases hp : p k with
    | true =>
      obtain ⟨a, a1, rfl⟩ := hback k o hp hk
      have g2 := (hr'.keys (σ k) a a1).2
      rw [hn'] at g2
      exact (hr'.obj (σ k) a a1).ren (obj_keys g2) (hμin k hp) hT' hL'
    | false =>
      rw [mergeR_out hp] at hk
      exact (hr.obj k o hk).stp hstp (hμout k hp) (hframe k o hp hk) (hr.keys k o hk).2

/-! the renaming told by a list: key k of the callee's heap is the k-th of the list -/
def rhoR (rs : List Nat) (k : Nat) : Nat := rs.getD k 0
def memR : List Nat → Nat → Bool
  | [], _ => false
  | x :: r, k => bif Nat.beq k x then true else memR r k
def sigR : List Nat → Nat → Nat
  | [], _ => 0
  | x :: r, k => bif Nat.beq k x then 0 else sigR r k + 1
def nodR : List Nat → Bool
  | [] => true
  | x :: r => bif memR r x then false else nodR r
theorem sigR_in : ∀ {rs : List Nat} {k : Nat}, memR rs k = true → sigR rs k < rs.length ∧ rhoR rs (sigR rs k) = k
  | [], _, h => by cases h
  | x :: r, k, h => by
    cases hk : Nat.beq k x with
    | true =>
      have e : k = x := Nat.eq_of_beq_eq_true hk
      simp only [sigR, hk, cond_true]
      exact ⟨by simp, e.symm⟩
    | false =>
      simp only [memR, hk, cond_false] at h
      obtain ⟨h1, h2⟩ := sigR_in h
      simp only [sigR, hk, cond_false]
      exact ⟨by simpa using h1, by simpa [rhoR] using h2⟩
theorem memR_get : ∀ {rs : List Nat} {i : Nat}, i < rs.length → memR rs (rhoR rs i) = true
  | [], _, h => by simp at h
  | x :: r, 0, _ => by simp [rhoR, memR, Nat.beq_refl]
  | x :: r, i + 1, h => by
    have := memR_get (rs := r) (i := i) (by simpa using h)
    have e : rhoR (x :: r) (i + 1) = rhoR r i := by simp [rhoR]
    rw [e, memR]
    cases Nat.beq (rhoR r i) x with
    | true => rfl
    | false => exact this
theorem sigR_get : ∀ {rs : List Nat} {i : Nat}, nodR rs = true → i < rs.length → sigR rs (rhoR rs i) = i
  | [], _, _, h => by simp at h
  | x :: r, 0, _, _ => by simp [rhoR, sigR, Nat.beq_refl]
  | x :: r, i + 1, hn, h => by
    have e : rhoR (x :: r) (i + 1) = rhoR r i := by simp [rhoR]
    have hi : i < r.length := by simpa using h
    rw [nodR] at hn
    cases hm : memR r x with
    | true => rw [hm] at hn; cases hn
    | false =>
      rw [hm, cond_false] at hn
      have h1 := sigR_get hn hi
      have h2 := memR_get hi
      rw [e, sigR]
      cases hb : Nat.beq (rhoR r i) x with
      | true => rw [Nat.eq_of_beq_eq_true hb, hm] at h2; cases h2
      | false => rw [cond_false, h1]
def agrR (g g' : Nat → Option DObj) (rs : List Nat) : Nat → Prop
  | 0 => True
  | n + 1 => (g n = (g' (rhoR rs n)).map (DObj.ren (sigR rs)) ∧ (g' (rhoR rs n)).elim true (DObj.keys (memR rs)) = true) ∧ agrR g g' rs n
theorem agrR_lt {g g' : Nat → Option DObj} {rs : List Nat} : ∀ {n : Nat}, agrR g g' rs n → ∀ k, k < n → g k = (g' (rhoR rs k)).map (DObj.ren (sigR rs)) ∧ (g' (rhoR rs k)).elim true (DObj.keys (memR rs)) = true
  | 0, _, k, h => by omega
  | n + 1, ha, k, h => by
    by_cases e : k = n
    · subst e; exact ha.1
    · exact agrR_lt ha.2 k (by omega)
theorem DC.callR {f : FuncId} {args : List DV} {L : DH} {K : DV → DH → Prop} (rs : List Nat) (Hl : List (Nat × DObj)) (hn : nodR rs = true) (hlt : (rs.all fun k => Nat.blt k L.next) = true) (hlo : L.lo = 0) (hag : agrR (objsOf Hl) L.get rs rs.length)
    (hu : wkU rs.length [] Hl = true) (hargs : DV.keyss (memR rs) args = true) (hargsU : DV.unders rs.length (DV.rens (sigR rs) args) = true)
    (h : ∀ M, DC P M w0 f (DV.rens (sigR rs) args) ⟨rs.length, 0, rs.length, objsOf Hl⟩ fun d L' => L'.next = rs.length ∧ K (d.ren (rhoR rs)) (L.mergeR (rhoR rs) (sigR rs) (memR rs) L')) : DC P M w0 f args L K := by
  simp only [wkU, List.all_nil, Bool.true_and, List.all_eq_true, Bool.and_eq_true] at hu
  refine DC.ren (H := ⟨rs.length, 0, rs.length, objsOf Hl⟩) (rhoR rs) (sigR rs) (memR rs) (fun k hk => ⟨memR_get hk, sigR_get hn hk, ?_⟩) (fun k hk => sigR_in hk) (fun k hk => (agrR_lt hag k hk).1) (fun k o hk ho => ?_) (fun k hk => ?_) rfl hlo (Nat.le_refl _)
    (fun k o hk => (hu _ (objsOf_mem hk)).2) hargs hargsU h
  · rw [List.all_eq_true] at hlt
    have hk : k < rs.length := hk
    have := hlt (rhoR rs k) (by rw [rhoR, List.getD_eq_getElem?_getD, List.getElem?_eq_getElem hk]; exact List.getElem_mem hk)
    simpa using this
  · have := (agrR_lt hag k hk).2
    rw [ho] at this
    exact this
  · cases hg : objsOf Hl k with
    | none => exact hg
    | some o =>
      have := (hu _ (objsOf_mem hg)).1
      have h1 : k < rs.length := by simpa using this
      have h2 : rs.length ≤ k := hk
      omega
end
end Go.Dv
namespace Go.Dv
section
variable {P : Program} {M : Nat → Prop} {w0 : World}

theorem whenOff {c : Bool} {A B : DV → Prop} (hc : c = false) (h2 : B (.pv (.bool false))) : WhenQ (fun d => c = true → A d) B :=
  WhenQ.mk (d := .pv (.bool false)) (fun h => by rw [hc] at h; cases h) h2
/-! operations at objects that are told by a hypothesis -/
theorem get_eq {L : DH} {k : Nat} {o : Option DObj} (h : L.get k = o) : L.get k = o := h

/-! own arrays lent to a call -/
theorem merge_same {L : DH} {ρ σ : Nat → Nat} {p : Nat → Bool} {L' : DH} (h : ∀ k, p k = true → (L'.get (σ k)).map (DObj.ren ρ) = L.get k) : L.mergeR ρ σ p L' = L := by
  unfold DH.mergeR
  cases L with
  | mk next lo base get =>
    simp only [DH.mk.injEq, true_and]
    funext k
    cases hk : p k with
    | true => exact h k hk
    | false => rfl
/-- A call that is lent one own array and other arguments without objects. -/
theorem DC.lend {f : FuncId} {rest : List DV} {L : DH} {K : DV → DH → Prop} {k n sz : Nat} {es : List PV} {q : DV} (hg : L.get k = some (.arr sz es)) (h0 : L.lo = 0) (hk : k < L.next) (hr : ∀ σ, DV.rens σ rest = rest) (hrk : ∀ p, DV.keyss p rest = true) (hru : DV.unders 1 rest = true) (hq : ∀ ρ, q.ren ρ = q)
    (h : ∀ M (K' : DV → DH → Prop), K' q ⟨1, 0, 1, objsOf [(0, .arr sz es)]⟩ → DC P M w0 f (.buf 0 n :: rest) ⟨1, 0, 1, objsOf [(0, .arr sz es)]⟩ K') (hK : K q L) : DC P M w0 f (.buf k n :: rest) L K := by
  have hkk : Nat.beq k k = true := Nat.beq_refl k
  refine DC.ren (H := ⟨1, 0, 1, objsOf [(0, .arr sz es)]⟩) (fun _ => k) (fun _ => 0) (fun j => Nat.beq j k) (fun j hj => ⟨hkk, ?_, hk⟩) (fun j hj => ⟨Nat.zero_lt_one, (Nat.eq_of_beq_eq_true hj).symm⟩) (fun j hj => ?_) (fun j o hj ho => ?_) (fun j hj => ?_) rfl h0 (Nat.le_refl 1) (fun j o ho => ?_) ?_ ?_ fun M' => ?_
  · have : j < 1 := hj
    show 0 = j
    omega
  · have : j < 1 := hj
    have : j = 0 := by omega
    subst this
    show some (DObj.arr sz es) = (L.get k).map _
    rw [hg]; rfl
  · rw [hg] at ho
    obtain rfl := Option.some.inj ho
    rfl
  · have : 1 ≤ j := hj
    show (bif Nat.beq j 0 then _ else none) = none
    have : Nat.beq j 0 = false := by
      cases hb : Nat.beq j 0 with
      | false => rfl
      | true => have := Nat.eq_of_beq_eq_true hb; omega
    rw [this]; rfl
  · have : j = 0 ∧ o = .arr sz es := by
      have ho : (bif Nat.beq j 0 then some (DObj.arr sz es) else none) = some o := ho
      cases hb : Nat.beq j 0 with
      | false => rw [hb] at ho; cases ho
      | true => rw [hb] at ho; exact ⟨Nat.eq_of_beq_eq_true hb, (Option.some.inj ho).symm⟩
    obtain ⟨rfl, rfl⟩ := this
    rfl
  · show (Nat.beq k k && DV.keyss _ rest) = true
    rw [hkk, hrk]; rfl
  · show (Nat.blt 0 1 && DV.unders 1 (DV.rens _ rest)) = true
    rw [hr, hru]; rfl
  · show DC P M' w0 f (.buf 0 n :: DV.rens _ rest) _ _
    rw [hr]
    refine h M' _ ⟨rfl, ?_⟩
    rw [hq, merge_same]
    · exact hK
    · intro j hj
      have := Nat.eq_of_beq_eq_true hj
      subst this
      show (some (DObj.arr sz es)).map _ = L.get j
      rw [hg]; rfl

/-! a poorer state whose last objects are told by a property -/
theorem Wk.ofN (f : Nat) {e : Env} {L : DH} {E : List (Nat × DV)} {nx : Nat} {H : List (Nat × DObj)} (h1 : wkE e L H E) (h2 : wkH L H (H.take f)) (h3 : wkU nx E (H.take f) = true) (h4 : Nat.ble L.lo nx = true) (h5 : Nat.ble L.base nx = true)
    (ht : ∀ q, q ∈ H.drop f → (L.get q.1 = some q.2 ∨ (L.get q.1 = none ∧ L.next ≤ q.1 ∧ ∃ sz, q.2 = .arr sz [])) ∧ q.1 < nx ∧ q.2.under nx = true) : Wk e L E nx H := by
  have hs : ∀ q, q ∈ H → q ∈ H.take f ∨ q ∈ H.drop f := fun q hq => by
    rw [← List.take_append_drop f H] at hq
    exact List.mem_append.1 hq
  have hU : ∀ q, q ∈ E → q.2.under nx = true := by
    simp only [wkU, Bool.and_eq_true, List.all_eq_true] at h3
    exact fun q hq => h3.1 q hq
  have hV : ∀ q, q ∈ H.take f → Nat.blt q.1 nx = true ∧ q.2.under nx = true := by
    simp only [wkU, Bool.and_eq_true, List.all_eq_true] at h3
    exact fun q hq => h3.2 q hq
  have g1 : ∀ (l : List (Nat × DV)), wkE e L H l → ∀ q, q ∈ l → WkD L H (e q.1) q.2 := by
    intro l
    induction l with
    | nil => intro _ q hq; simp at hq
    | cons x r ih =>
      intro h q hq
      rcases List.mem_cons.1 hq with rfl | hq
      · exact h.1
      · exact ih h.2 q hq
  have g2 : ∀ (l : List (Nat × DObj)), wkH L H l → ∀ q, q ∈ l → WkO L H q.1 q.2 ∧ (L.get q.1 = none → L.next ≤ q.1) := by
    intro l
    induction l with
    | nil => intro _ q hq; simp at hq
    | cons x r ih =>
      intro h q hq
      rcases List.mem_cons.1 hq with rfl | hq
      · refine ⟨h.1, fun hn => ?_⟩
        have := h.2.1
        rw [hn] at this
        simpa using this
      · exact ih h.2.2 q hq
  refine ⟨fun q hq => g1 E h1 q hq, fun q hq => ?_, hU, fun q hq => ?_, by simpa using h4, by simpa using h5, fun q hq hn => ?_⟩
  · rcases hs q hq with h | h
    · exact (g2 _ h2 q h).1
    · rcases (ht q h).1 with h | ⟨hn, _, sz, e⟩
      · exact .same _ _ h
      · rw [e]; exact .new _ sz hn
  · rcases hs q hq with h | h
    · exact hV q h
    · exact ⟨by rw [Nat.blt_eq]; exact (ht q h).2.1, (ht q h).2.2⟩
  · rcases hs q hq with h | h
    · exact (g2 _ h2 q h).2 hn
    · rcases (ht q h).1 with h | ⟨_, h, _⟩
      · rw [h] at hn; cases hn
      · exact h
/-- A poorer state whose objects are told by a property. -/
theorem Wk.ofP {e : Env} {L : DH} {E : List (Nat × DV)} {nx : Nat} {H : List (Nat × DObj)} (h1 : wkE e L H E) (h3 : wkU nx E [] = true) (h4 : Nat.ble L.lo nx = true) (h5 : Nat.ble L.base nx = true)
    (ht : ∀ q, q ∈ H → WkO L H q.1 q.2 ∧ (L.get q.1 = none → L.next ≤ q.1) ∧ q.1 < nx ∧ q.2.under nx = true) : Wk e L E nx H := by
  have hU : ∀ q, q ∈ E → q.2.under nx = true := by
    simp only [wkU, Bool.and_eq_true, List.all_eq_true] at h3
    exact fun q hq => h3.1 q hq
  have g1 : ∀ (l : List (Nat × DV)), wkE e L H l → ∀ q, q ∈ l → WkD L H (e q.1) q.2 := by
    intro l
    induction l with
    | nil => intro _ q hq; simp at hq
    | cons x r ih =>
      intro h q hq
      rcases List.mem_cons.1 hq with rfl | hq
      · exact h.1
      · exact ih h.2 q hq
  exact ⟨fun q hq => g1 E h1 q hq, fun q hq => (ht q hq).1, hU, fun q hq => ⟨by rw [Nat.blt_eq]; exact (ht q hq).2.2.1, (ht q hq).2.2.2⟩, by simpa using h4, by simpa using h5, fun q hq => (ht q hq).2.1⟩
/-- A call that leaves the heap as it was. -/
theorem DC.callS {f : FuncId} {args : List DV} {L : DH} {K : DV → DH → Prop} {q : DV} (n : Nat) (Hl : List (Nat × DObj)) (hag : ∀ k, k < n → objsOf Hl k = L.get k) (hu : ∀ q, q ∈ Hl → q.1 < n ∧ q.2.under n = true) (hnx : Nat.ble n L.next = true) (hlo : Nat.ble L.lo n = true) (hargs : DV.unders n args = true)
    (h : ∀ M (K' : DV → DH → Prop), K' q ⟨n, L.lo, n, objsOf Hl⟩ → DC P M w0 f args ⟨n, L.lo, n, objsOf Hl⟩ K') (hK : K q L) : DC P M w0 f args L K := by
  refine DC.frame (H := ⟨n, L.lo, n, objsOf Hl⟩) hag (fun k hk => ?_) (by simpa using hnx) rfl (by simpa using hlo) (Nat.le_refl n) (fun k o hk => (hu _ (objsOf_mem hk)).2) hargs fun M' => h M' _ ⟨rfl, ?_⟩
  · cases hg : objsOf Hl k with
    | none => exact hg
    | some o =>
      have := (hu _ (objsOf_mem hg)).1
      simp only at hk this
      omega
  · have e : L.merge ⟨n, L.lo, n, objsOf Hl⟩ n = L := by
      cases L with
      | mk next lo base get =>
        simp only [DH.merge, DH.mk.injEq, true_and]
        funext k
        cases hk : Nat.blt k n with
        | true => exact hag k (by simpa using hk)
        | false => rfl
    exact e.symm ▸ hK
/-- A call that is lent one variable, behind an argument without objects. -/
theorem DC.lendV {f : FuncId} {p : PV} {L : DH} {K : DV → DH → Prop} {k : Nat} {cs : List DV} {q : DV} (hg : L.get k = some (.var cs)) (h0 : L.lo = 0) (hk : k < L.next) (hr : ∀ σ, DV.rens σ cs = cs) (hrk : ∀ p, DV.keyss p cs = true) (hru : DV.unders 1 cs = true) (hq : ∀ ρ, q.ren ρ = q)
    (h : ∀ M (K' : DV → DH → Prop), K' q ⟨1, 0, 1, objsOf [(0, .var cs)]⟩ → DC P M w0 f [.pv p, .ref 0 0] ⟨1, 0, 1, objsOf [(0, .var cs)]⟩ K') (hK : K q L) : DC P M w0 f [.pv p, .ref k 0] L K := by
  have hkk : Nat.beq k k = true := Nat.beq_refl k
  refine DC.ren (H := ⟨1, 0, 1, objsOf [(0, .var cs)]⟩) (fun _ => k) (fun _ => 0) (fun j => Nat.beq j k) (fun j hj => ⟨hkk, ?_, hk⟩) (fun j hj => ⟨Nat.zero_lt_one, (Nat.eq_of_beq_eq_true hj).symm⟩) (fun j hj => ?_) (fun j o hj ho => ?_) (fun j hj => ?_) rfl h0 (Nat.le_refl 1) (fun j o ho => ?_) ?_ rfl fun M' => ?_
  · have : j < 1 := hj
    show 0 = j
    omega
  · have : j < 1 := hj
    have : j = 0 := by omega
    subst this
    show some (DObj.var cs) = (L.get k).map _
    rw [hg]
    show _ = some (DObj.var (DV.rens _ cs))
    rw [hr]
  · rw [hg] at ho
    obtain rfl := Option.some.inj ho
    exact hrk _
  · have : 1 ≤ j := hj
    show (bif Nat.beq j 0 then _ else none) = none
    have : Nat.beq j 0 = false := by
      cases hb : Nat.beq j 0 with
      | false => rfl
      | true => have := Nat.eq_of_beq_eq_true hb; omega
    rw [this]; rfl
  · have : j = 0 ∧ o = .var cs := by
      have ho : (bif Nat.beq j 0 then some (DObj.var cs) else none) = some o := ho
      cases hb : Nat.beq j 0 with
      | false => rw [hb] at ho; cases ho
      | true => rw [hb] at ho; exact ⟨Nat.eq_of_beq_eq_true hb, (Option.some.inj ho).symm⟩
    obtain ⟨rfl, rfl⟩ := this
    exact hru
  · show (true && (Nat.beq k k && true)) = true
    rw [hkk]; rfl
  · refine h M' _ ⟨rfl, ?_⟩
    rw [hq, merge_same]
    · exact hK
    · intro j hj
      have := Nat.eq_of_beq_eq_true hj
      subst this
      show (some (DObj.var cs)).map _ = L.get j
      rw [hg]
      show some (DObj.var (DV.rens _ cs)) = _
      rw [hr]
/-- What a function yields may be taken for more. -/
theorem PureFn.res {f : FuncId} {ps : List PV} {p q : PV} (h : PureFn P f ps p) (hle : PLe p q) : PureFn P f ps q :=
  PureFn.mk ⟨h.elim.1, fun M w vs hG hM hrel => (h.elim.2 M w vs hG hM hrel).mono fun _ _ ⟨v, he, hv, hb⟩ => ⟨v, he, hle.rel hv, hb⟩⟩
end
end Go.Dv
set_option maxRecDepth 100000
set_option maxHeartbeats 4000000
namespace Go.Proofs.YtibbphifegibkaaGreatDoor
open Go Go.Dv

theorem updI_ok {m : Mo} {a : Act} (h : (updI m a).2.2 = 0) : moaI m a = 0 ∧ (updI m a).2.1 = pairsL m a ∧ (updI m a).1 = prodM m a (pairsL m a) ∧ 1 ≤ (pairsL m a).length ∧ (pairsL m a).length ≤ 64 := by
  unfold updI at h ⊢
  cases h1 : ((worldsI m a).2 != 0) with
  | true => rw [h1] at h; simp only [cond_true] at h; rw [h] at h1; cases h1
  | false =>
    rw [h1] at h
    obtain ⟨k1, k2, k3⟩ := worldsI_ok (m := m) (a := a) (by simpa using h1)
    cases h2 : decide (((worldsI m a).1.length : Int) > 64) with
    | true => rw [h2] at h; cases h
    | false =>
      have := of_decide_eq_false h2
      rw [k2] at this
      refine ⟨k1, ?_, ?_, k3, by omega⟩
      · rw [k2]; rfl
      · rw [k2]; rfl
theorem getD_map_range {β : Type} {f : Nat → β} {n i : Nat} {d : β} (h : i < n) : ((List.range n).map f).getD i d = f i := by
  rw [List.getD_eq_getElem?_getD, List.getElem?_map, List.getElem?_range h]; rfl
end Go.Proofs.YtibbphifegibkaaGreatDoor
set_option maxRecDepth 100000
set_option maxHeartbeats 4000000
namespace Go.Proofs.YtibbphifegibkaaGreatDoor
open Go Go.Dv

def restPV (x : Mo × List Nat × Int) : PV := .tup [x.1.pv, intsPV x.2.1, .int .i64 x.2.2]
theorem nand_all {s n : Nat} (hs : s < 2 ^ n) (hn : n ≤ 64) : andNotU (s : Nat) ((2 ^ n - 1 : Nat) : Int) = 0 := by
  have h64 : s < 2 ^ 64 := Nat.lt_of_lt_of_le hs (pow64_le hn)
  rw [andNotU_eq h64, Nat.and_two_pow_sub_one_eq_mod, Nat.mod_eq_of_lt hs, Nat.xor_self]; rfl
theorem md_Restrict (m : Mo) (n s : Nat) (hM : OkM m n) (hs : s < 2 ^ n) (h0 : s ≠ 0) : PureFn Tryz.prog 106 [m.pv, u64 s] (restPV (arrI m (memL s), memL s, 0)) := by
  refine PureFn.intro mixed (fn := Tryz.f106) rfl rfl rfl fun M w0 => ?_
  have hn64 := hM.n64
  have hs64 : s < 2 ^ 64 := Nat.lt_of_lt_of_le hs (pow64_le hn64)
  have hC := md_Check m hM.fit
  rw [ok_moI hM] at hC
  have hA := md_all n (by omega)
  rw [show i64 n = .int .i64 m.n by rw [hM.nn]; rfl] at hA
  have hB := md_members s hs64
  have hR := md_arrange m (memL s) n hM (fun w hw => bit_lt hs (memL_mem.1 hw).2) (memL_len s)
  have hz := nand_all hs hn64
  have h0' : ¬ (s : Int) = 0 := by omega
  generalize memL s = ws at hB hR
  (try conv=>whnf);repeat' (first|(apply And.intro<;>try conv=>whnf)|(intro h;try conv=>whnf)|(refine PureFn.dcq (f := 64) rfl ?_;try conv=>whnf)|(refine PureFn.dcq (f := 116) rfl ?_;try conv=>whnf)|(refine PureFn.dcq (f := 118) rfl ?_;try conv=>whnf)|(refine PureFn.dcq (f := 119) rfl ?_;try conv=>whnf)|(refine ⟨_, _, hC, ?_, ?_⟩;(focus first|(refine ⟨?_, trivial⟩<;>first|exact PLe.refl _|exact PLe.nil)|exact trivial);try conv=>whnf)|(refine ⟨_, _, hA, ?_, ?_⟩;(focus first|(refine ⟨?_, trivial⟩<;>first|exact PLe.refl _|exact PLe.nil)|exact trivial);try conv=>whnf)|(refine ⟨_, _, hB, ?_, ?_⟩;(focus first|(refine ⟨?_, trivial⟩<;>first|exact PLe.refl _|exact PLe.nil)|exact trivial);try conv=>whnf)|(refine ⟨_, _, hR, ?_, ?_⟩;(focus first|(refine ⟨?_, ?_, trivial⟩<;>first|exact PLe.refl _|exact PLe.nil)|exact trivial);try conv=>whnf)|fail)
  · exact absurd (show ((0 : Int) != 0) = true from h) (by decide)
  · have h1 : (andNotU (s : Nat) ((2 ^ n - 1 : Nat) : Int) != 0) = true := h
    rw [hz] at h1; exact absurd h1 (by decide)
  · have h1 : ((s : Int) == 0) = true := h
    exact absurd (by simpa using h1) h0'
  · exact .refl _
/-! the product with a public announcement -/
end Go.Proofs.YtibbphifegibkaaGreatDoor
set_option maxRecDepth 100000
set_option maxHeartbeats 4000000
namespace Go.Proofs.YtibbphifegibkaaGreatDoor
open Go Go.Dv

/-- A set whose members are told by their places in a list, added to a set. -/
def sprG (t : Nat) : List Nat → Nat → Nat → Nat
  | [], _, acc => acc
  | w :: r, i, acc => sprG t r (i + 1) (acc ||| (bif t.testBit i then 2 ^ w else 0))
theorem sprG_lt {t n : Nat} : ∀ {ws : List Nat} {i acc : Nat}, (∀ w, w ∈ ws → w < n) → acc < 2 ^ n → sprG t ws i acc < 2 ^ n
  | [], _, _, _, h => h
  | w :: r, i, acc, hw, h => by
    rw [sprG]
    refine sprG_lt (fun x hx => hw x (List.mem_cons_of_mem _ hx)) (Nat.or_lt_two_pow h ?_)
    cases t.testBit i with
    | true => exact Nat.pow_lt_pow_right (by decide) (hw w (by simp))
    | false => exact Nat.two_pow_pos n
theorem sprG_drop {t : Nat} {ws : List Nat} {i acc w : Nat} (h : ws[i]? = some w) : sprG t (ws.drop i) i acc = sprG t (ws.drop (i + 1)) (i + 1) (acc ||| (bif t.testBit i then 2 ^ w else 0)) := by
  obtain ⟨h1, h2⟩ := List.getElem?_eq_some_iff.1 h
  rw [List.drop_eq_getElem_cons h1, h2]; rfl
theorem sprG_bit {t : Nat} : ∀ {ws : List Nat} {i acc v : Nat}, (sprG t ws i acc).testBit v = true ↔ acc.testBit v = true ∨ ∃ k : Nat, ws[k]? = some v ∧ t.testBit (i + k) = true
  | [], i, acc, v => by simp [sprG]
  | w :: r, i, acc, v => by
    rw [sprG, sprG_bit, Nat.testBit_or, Bool.or_eq_true]
    constructor
    · rintro ((h | h) | ⟨k, h1, h2⟩)
      · exact .inl h
      · cases hb : t.testBit i with
        | true =>
          rw [hb, cond_true, Nat.testBit_two_pow, decide_eq_true_eq] at h
          exact .inr ⟨0, by rw [h]; rfl, hb⟩
        | false => rw [hb, cond_false, Nat.zero_testBit] at h; cases h
      · exact .inr ⟨k + 1, by simpa using h1, by rw [← h2]; congr 1; omega⟩
    · rintro (h | ⟨k, h1, h2⟩)
      · exact .inl (.inl h)
      · cases k with
        | zero =>
          refine .inl (.inr ?_)
          have : w = v := by simpa using h1
          rw [show t.testBit i = true from h2, cond_true, this, Nat.testBit_two_pow]; simp
        | succ k => exact .inr ⟨k, by simpa using h1, by rw [← h2]; congr 1; omega⟩
/-- A set without the worlds of the pairs of an event whose places are not in a set. -/
def clrN (acc w : Nat) : Nat := acc ^^^ (acc &&& 2 ^ w)
theorem clrN_bit {acc w v : Nat} : (clrN acc w).testBit v = (acc.testBit v && !(w == v)) := by
  rw [clrN, Nat.testBit_xor, Nat.testBit_and, Nat.testBit_two_pow]
  by_cases h : w = v
  · rw [decide_eq_true h, show (w == v) = true by simpa using h]; cases acc.testBit v <;> rfl
  · rw [decide_eq_false h, show (w == v) = false by simpa using h]; cases acc.testBit v <;> rfl
def evG (e : Int) (t : Nat) : List (Nat × Nat) → Nat → Nat → Nat
  | [], _, acc => acc
  | q :: r, i, acc => evG e t r (i + 1) (bif (bif (q.2 : Int) == e then !t.testBit i else false) then clrN acc q.1 else acc)
theorem evG_drop {e : Int} {t : Nat} {l : List (Nat × Nat)} {i acc : Nat} {q : Nat × Nat} (h : l[i]? = some q) : evG e t (l.drop i) i acc = evG e t (l.drop (i + 1)) (i + 1) (bif (bif (q.2 : Int) == e then !t.testBit i else false) then clrN acc q.1 else acc) := by
  obtain ⟨h1, h2⟩ := List.getElem?_eq_some_iff.1 h
  rw [List.drop_eq_getElem_cons h1, h2]; rfl
theorem evG_bit {e t : Nat} : ∀ {l : List (Nat × Nat)} {i acc v : Nat}, (evG e t l i acc).testBit v = true ↔ acc.testBit v = true ∧ ∀ k : Nat, l[k]? = some (v, e) → t.testBit (i + k) = true
  | [], i, acc, v => by simp [evG]
  | q :: r, i, acc, v => by
    rw [evG, evG_bit]
    have key : ∀ (A : Prop) (c : Bool), ((bif c then clrN acc q.1 else acc).testBit v = true ∧ A) ↔ (acc.testBit v = true ∧ (c = true → q.1 ≠ v) ∧ A) := fun A c => by
      cases c with
      | false => simp
      | true =>
        rw [cond_true, clrN_bit, Bool.and_eq_true]
        simp only [Bool.not_eq_true', beq_eq_false_iff_ne, ne_eq, true_implies]
        exact and_assoc
    rw [key]
    refine and_congr_right fun _ => ?_
    constructor
    · rintro ⟨h1, h2⟩ k hk
      cases k with
      | zero =>
        have hq : q = (v, e) := by simpa using hk
        cases hb : t.testBit i with
        | true => rfl
        | false =>
          exfalso
          refine h1 ?_ (by rw [hq])
          rw [hq, hb]; simp
      | succ k =>
        have := h2 k (by simpa using hk)
        rw [← this]; congr 1; omega
    · intro h
      refine ⟨fun hc hv => ?_, fun k hk => ?_⟩
      · cases he : ((q.2 : Int) == (e : Int)) with
        | false => rw [he] at hc; cases hc
        | true =>
          rw [he, cond_true] at hc
          have h2 : q = (v, e) := by
            obtain ⟨x, y⟩ := q
            have e1 : x = v := hv
            have e2 : (y : Int) = e := by simpa using he
            rw [Prod.mk.injEq]; exact ⟨e1, by omega⟩
          have := h 0 (by rw [h2]; rfl)
          rw [Nat.add_zero] at this
          rw [this] at hc; cases hc
      · have := h (k + 1) (by simpa using hk)
        rw [← this]; congr 1; omega
theorem clrN_lt {acc w n : Nat} (h : acc < 2 ^ n) : clrN acc w < 2 ^ n := Nat.xor_lt_two_pow h (Nat.lt_of_le_of_lt Nat.and_le_left h)
theorem evG_lt {e : Int} {t n : Nat} : ∀ {l : List (Nat × Nat)} {i acc : Nat}, acc < 2 ^ n → evG e t l i acc < 2 ^ n
  | [], _, _, h => h
  | q :: r, i, acc, h => by
    rw [evG]
    refine evG_lt ?_
    cases (bif (q.2 : Int) == e then !t.testBit i else false) with
    | true => exact clrN_lt h
    | false => exact h

/-! where a formula of the dynamic language holds; nothing, if a product is too large -/
def dvT (acts : List Act) : Tr → Mo → Option Nat
  | .none, _ => some 0
  | .nd op i e g a b, m =>
    bif op == 16 then
      match dvT acts a m with
      | none => none
      | some s => bif s == 0 then some (2 ^ m.n.toNat - 1) else match dvT acts b (arrI m (memL s)) with
        | none => none
        | some t => some (sprG t (memL s) 0 (notN m.n.toNat s))
    else bif op == 17 then
      bif (holdsI m ((acts.getD i.toNat noAct).pre.getD e.toNat [])).1 == 0 then some (2 ^ m.n.toNat - 1)
      else bif (updI m (acts.getD i.toNat noAct)).2.2 != 0 then none
      else match dvT acts a (updI m (acts.getD i.toNat noAct)).1 with
        | none => none
        | some t => some (evG e t (updI m (acts.getD i.toNat noAct)).2.1 0 (2 ^ m.n.toNat - 1))
    else match dvT acts a m, dvT acts b m with
      | some x, some y => some (vlN m m.n.toNat op i g x y)
      | _, _ => none
/-- A model and an environment that fit. -/
structure OkD (acts : List Act) (m : Mo) (n : Nat) : Prop where
  okm : OkM m n
  act : ∀ a, a ∈ acts → actI a m.rel.length m.val.length = 0
theorem arr_ok {m : Mo} {n : Nat} (hM : OkM m n) {ws : List Nat} (h1 : 1 ≤ ws.length) (h64 : ws.length ≤ 64) : OkM (arrI m ws) ws.length := by
  refine ⟨rfl, h1, h64, by simp [arrI]; exact hM.ag, by simp [arrI]; exact hM.fa, fun r hr => ?_, fun s hs => ?_, fun r hr s hs => ?_⟩
  · obtain ⟨r0, _, rfl⟩ := List.mem_map.1 hr
    simp
  · obtain ⟨s0, _, rfl⟩ := List.mem_map.1 hs
    exact maskOf_lt _ _
  · obtain ⟨r0, _, rfl⟩ := List.mem_map.1 hr
    obtain ⟨w, _, rfl⟩ := List.mem_map.1 hs
    exact maskOf_lt _ _
theorem OkD.arr {acts : List Act} {m : Mo} {n s : Nat} (h : OkD acts m n) (hs : s < 2 ^ n) (h0 : s ≠ 0) : OkD acts (arrI m (memL s)) (memL s).length := by
  refine ⟨arr_ok h.okm (memL_pos h0 (Nat.lt_of_lt_of_le hs (pow64_le h.okm.n64))) (memL_len s), fun a ha => ?_⟩
  have e1 : (arrI m (memL s)).rel.length = m.rel.length := by simp [arrI]
  have e2 : (arrI m (memL s)).val.length = m.val.length := by simp [arrI]
  rw [e1, e2]
  exact h.act a ha
theorem OkD.upd {acts : List Act} {m : Mo} {n : Nat} {a : Act} (h : OkD acts m n) (h0 : (updI m a).2.2 = 0) : OkD acts (updI m a).1 (updI m a).2.1.length ∧ ∀ q, q ∈ (updI m a).2.1 → q.1 < n := by
  obtain ⟨k1, k2, k3, k4, k5⟩ := updI_ok h0
  rw [k2, k3]
  refine ⟨⟨prod_ok h.okm k4 k5, fun b hb => ?_⟩, fun q hq => ?_⟩
  · have e1 : (prodM m a (pairsL m a)).rel.length = m.rel.length := by simp [prodM]
    have e2 : (prodM m a (pairsL m a)).val.length = m.val.length := by simp [prodM]
    rw [e1, e2]
    exact h.act b hb
  · rw [pairsL, h.okm.nn] at hq
    exact (pairsW_mem.1 hq).1
end Go.Proofs.YtibbphifegibkaaGreatDoor
set_option maxRecDepth 100000
set_option maxHeartbeats 4000000
namespace Go.Proofs.YtibbphifegibkaaGreatDoor
open Go Go.Dv

theorem dvT_lt {acts : List Act} : ∀ (t : Tr) {m : Mo} {n s : Nat}, OkM m n → dvT acts t m = some s → s < 2 ^ n
  | .none, m, n, s, hM, h => by
    rw [dvT] at h
    cases h
    exact Nat.two_pow_pos n
  | .nd op i e g a b, m, n, s, hM, h => by
    have hnn : m.n.toNat = n := by rw [hM.nn, Int.toNat_natCast]
    have hall : 2 ^ n - 1 < 2 ^ n := by have := Nat.two_pow_pos n; omega
    rw [dvT] at h
    cases h16 : (op == 16) with
    | true =>
      rw [h16, cond_true] at h
      cases hx : dvT acts a m with
      | none => rw [hx] at h; cases h
      | some x =>
        rw [hx] at h
        have hxl := dvT_lt a hM hx
        simp only at h
        cases hz : (x == 0) with
        | true => rw [hz, cond_true, hnn] at h; cases h; exact hall
        | false =>
          rw [hz, cond_false] at h
          cases hy : dvT acts b (arrI m (memL x)) with
          | none => rw [hy] at h; cases h
          | some y =>
            rw [hy] at h
            have h := Option.some.inj h
            rw [← h, hnn]
            exact sprG_lt (fun w hw => bit_lt hxl (memL_mem.1 hw).2) (notN_lt _ _)
    | false =>
      rw [h16, cond_false] at h
      cases h17 : (op == 17) with
      | true =>
        rw [h17, cond_true] at h
        cases hp : ((holdsI m ((acts.getD i.toNat noAct).pre.getD e.toNat [])).1 == 0) with
        | true => rw [hp, cond_true, hnn] at h; cases h; exact hall
        | false =>
          rw [hp, cond_false] at h
          cases hc : ((updI m (acts.getD i.toNat noAct)).2.2 != 0) with
          | true => rw [hc, cond_true] at h; cases h
          | false =>
            rw [hc, cond_false] at h
            cases hy : dvT acts a (updI m (acts.getD i.toNat noAct)).1 with
            | none => rw [hy] at h; cases h
            | some y =>
              rw [hy] at h
              have h := Option.some.inj h
              rw [← h, hnn]
              exact evG_lt hall
      | false =>
        rw [h17, cond_false] at h
        cases hx : dvT acts a m with
        | none => rw [hx] at h; cases h
        | some x =>
          cases hy : dvT acts b m with
          | none => rw [hx, hy] at h; cases h
          | some y =>
            rw [hx, hy] at h
            have h := Option.some.inj h
            rw [← h, hnn]
            exact vlN_lt hM.vbits (dvT_lt a hM hx) (dvT_lt b hM hy)
/-- Nodes of the static language. -/
def stOp (op _i _e _g : Int) : Bool := decide (op ≤ 13)
theorem dvT_static {acts : List Act} {m : Mo} : ∀ (t : Tr), allT stOp t = true → dvT acts t m = some (vlT m m.n.toNat t)
  | .none, _ => rfl
  | .nd op i e g a b, h => by
    rw [allT, Bool.and_eq_true, Bool.and_eq_true] at h
    obtain ⟨⟨h0, h1⟩, h2⟩ := h
    have h13 : op ≤ 13 := of_decide_eq_true h0
    rw [dvT, show (op == 16) = false by simp; omega, show (op == 17) = false by simp; omega, cond_false, cond_false, dvT_static a h1, dvT_static b h2, vlT]
/-! requests -/
def actsI (A F : Int) : List Act → Int
  | [] => 0
  | a :: r => bif actI a A F != 0 then actI a A F else actsI A F r
def chkD (m : Mo) (acts : List Act) : Int := bif moI m != 0 then moI m else bif decide ((acts.length : Int) > 8) then 8 else actsI (m.rel.length : Int) (m.val.length : Int) acts
def badA (acts : List Act) (x : Nd) : Bool := bif x.op == 17 then (bif decide (x.i ≥ (acts.length : Int)) then true else decide (x.e ≥ ((acts.getD x.i.toNat noAct).pre.length : Int))) else false
def reqD (m : Mo) (acts : List Act) (f : List Nd) : Int :=
  bif chkD m acts != 0 then chkD m acts else bif check f != 0 then check f else bif nand64' (frags f : Nat) 207 != 0 then 10 else bif !fits f (m.rel.length : Int) (m.val.length : Int) then 2 else bif (comp f).any (badA acts) then 6 else 0
def dynI (m : Mo) (acts : List Act) (f : List Nd) : Nat × Int := bif reqD m acts f != 0 then (0, reqD m acts f) else match dvT acts (root f) m with
  | none => (0, 8)
  | some s => (s, 0)
theorem actsI_ok {A F : Int} : ∀ {l : List Act}, actsI A F l = 0 → ∀ a, a ∈ l → actI a A F = 0
  | [], _, a, ha => by cases ha
  | b :: r, h, a, ha => by
    rw [actsI] at h
    cases hb : (actI b A F != 0) with
    | true => rw [hb] at h; simp only [cond_true] at h; rw [h] at hb; cases hb
    | false =>
      rw [hb] at h
      rcases List.mem_cons.1 ha with rfl | ha
      · simpa using hb
      · exact actsI_ok (show actsI A F r = 0 from h) a ha
theorem chkD_ok {m : Mo} {acts : List Act} (h : chkD m acts = 0) : ∃ n, OkD acts m n ∧ acts.length ≤ 8 := by
  unfold chkD at h
  cases h1 : (moI m != 0) with
  | true => rw [h1] at h; simp only [cond_true] at h; rw [h] at h1; cases h1
  | false =>
    rw [h1, cond_false] at h
    cases h2 : decide ((acts.length : Int) > 8) with
    | true => rw [h2] at h; cases h
    | false =>
      rw [h2, cond_false] at h
      obtain ⟨n, hM⟩ := moI_ok (m := m) (by simpa using h1)
      have := of_decide_eq_false h2
      exact ⟨n, ⟨hM, actsI_ok h⟩, by omega⟩
/-- May a node of a formula be asked for? -/
def ndQ (A F : Nat) (acts : List Act) (op i e g : Int) : Bool :=
  decide (fragN ⟨op, i, e, g, 0, 0⟩ &&& 207 = fragN ⟨op, i, e, g, 0, 0⟩) && decide (agN ⟨op, i, e, g, 0, 0⟩ < 2 ^ A) && decide (factN ⟨op, i, e, g, 0, 0⟩ < 2 ^ F) && !badA acts ⟨op, i, e, g, 0, 0⟩
theorem nand_sub {a b : Nat} (ha : a < 2 ^ 62) : nand64' (a : Int) (b : Int) = 0 ↔ subM a b = true := by rw [← nand_zero ha, beq_iff_eq]
theorem orN_in {m : Nd → Nat} : ∀ {c : List Nd} {y : Nd}, y ∈ c → Sub (m y) (orN m c)
  | x :: r, y, h => by
    rw [orN_cons]
    intro i hi
    rw [Nat.testBit_or, Bool.or_eq_true]
    rcases List.mem_cons.1 h with rfl | h
    · exact .inl hi
    · exact .inr (orN_in h i hi)
theorem orN_all {m : Nd → Nat} {b : Nat} : ∀ {c : List Nd}, (∀ x, x ∈ c → Sub (m x) b) → Sub (orN m c) b
  | [], _ => fun i hi => by simp [orN] at hi
  | x :: r, h => by
    rw [orN_cons]
    exact or_sub (h x (by simp)) (orN_all fun y hy => h y (List.mem_cons_of_mem _ hy))
theorem and_self_sub {a b : Nat} : a &&& b = a ↔ Sub a b := by
  constructor
  · intro h i hi
    rw [← h, Nat.testBit_and, Bool.and_eq_true] at hi
    exact hi.2
  · intro h
    apply Nat.eq_of_testBit_eq
    intro i
    rw [Nat.testBit_and]
    cases hb : a.testBit i with
    | false => rfl
    | true => rw [h i hb]; rfl
theorem reqD_iff {m : Mo} {acts : List Act} {f : List Nd} : reqD m acts f = 0 ↔ chkD m acts = 0 ∧ check f = 0 ∧ ∀ x, x ∈ comp f → ndQ m.rel.length m.val.length acts x.op x.i x.e x.g = true := by
  have hfr : frags f < 2 ^ 62 := Nat.lt_of_lt_of_le (frags_lt f) (by decide)
  have hag := agents_lt f
  have hfa := facts_lt f
  have e1 : ∀ x : Nd, fragN ⟨x.op, x.i, x.e, x.g, 0, 0⟩ = fragN x := fun x => rfl
  have e2 : ∀ x : Nd, agN ⟨x.op, x.i, x.e, x.g, 0, 0⟩ = agN x := fun x => rfl
  have e3 : ∀ x : Nd, factN ⟨x.op, x.i, x.e, x.g, 0, 0⟩ = factN x := fun x => rfl
  have e4 : ∀ x : Nd, badA acts ⟨x.op, x.i, x.e, x.g, 0, 0⟩ = badA acts x := fun x => rfl
  constructor
  · intro h
    unfold reqD at h
    cases h1 : (chkD m acts != 0) with
    | true => rw [h1] at h; simp only [cond_true] at h; rw [h] at h1; cases h1
    | false =>
      rw [h1, cond_false] at h
      cases h2 : (check f != 0) with
      | true => rw [h2] at h; simp only [cond_true] at h; rw [h] at h2; cases h2
      | false =>
        rw [h2, cond_false] at h
        cases h3 : (nand64' (frags f : Nat) 207 != 0) with
        | true => rw [h3] at h; cases h
        | false =>
          rw [h3, cond_false] at h
          cases h4 : (!fits f (m.rel.length : Int) (m.val.length : Int)) with
          | true => rw [h4] at h; cases h
          | false =>
            rw [h4, cond_false] at h
            cases h5 : (comp f).any (badA acts) with
            | true => rw [h5] at h; cases h
            | false =>
              have hc : check f = 0 := by simpa using h2
              have hfit : fits f (m.rel.length : Int) (m.val.length : Int) = true := by simpa using h4
              have h6 : belowB (agents f) (m.rel.length : Int) = true ∧ belowB (facts f) (m.val.length : Int) = true := by
                unfold fits at hfit
                rw [hc] at hfit
                cases hb : belowB (agents f) (m.rel.length : Int) with
                | true => rw [hb] at hfit; exact ⟨rfl, hfit⟩
                | false => rw [hb] at hfit; cases hfit
              rw [below_lt hag (by decide), below_lt hfa (by decide)] at h6
              have h7 : subM (frags f) 207 = true := (nand_sub hfr).1 (by simpa using h3)
              rw [subM_iff] at h7
              refine ⟨by simpa using h1, hc, fun x hx => ?_⟩
              simp only [ndQ, e1, e2, e3, e4, Bool.and_eq_true, decide_eq_true_eq]
              refine ⟨⟨⟨and_self_sub.2 ((orN_in hx).trans h7), Nat.lt_of_le_of_lt (orN_le hx) h6.1⟩, Nat.lt_of_le_of_lt (orN_le hx) h6.2⟩, ?_⟩
              have := List.any_eq_false.1 h5 x hx
              simpa using this
  · rintro ⟨h1, h2, h3⟩
    have h4 : ∀ x, x ∈ comp f → fragN x &&& 207 = fragN x ∧ agN x < 2 ^ m.rel.length ∧ factN x < 2 ^ m.val.length ∧ badA acts x = false := fun x hx => by
      have := h3 x hx
      simp only [ndQ, e1, e2, e3, e4, Bool.and_eq_true, decide_eq_true_eq] at this
      exact ⟨this.1.1.1, this.1.1.2, this.1.2, by simpa using this.2⟩
    have h5 : nand64' (frags f : Nat) 207 = 0 := (nand_sub (b := 207) hfr).2 (subM_iff.2 (orN_all fun x hx => and_self_sub.1 (h4 x hx).1))
    have h6 : agents f < 2 ^ m.rel.length := orN_lt fun x hx => (h4 x hx).2.1
    have h7 : facts f < 2 ^ m.val.length := orN_lt fun x hx => (h4 x hx).2.2.1
    have h8 : fits f (m.rel.length : Int) (m.val.length : Int) = true := by
      unfold fits
      rw [h2, (below_lt hag (by decide)).2 h6, show belowB (facts f) (m.val.length : Int) = true from (below_lt hfa (by decide)).2 h7]; rfl
    have h9 : (comp f).any (badA acts) = false := List.any_eq_false.2 fun x hx => by rw [(h4 x hx).2.2.2]; simp
    rw [reqD, h1, h2, h5, h8, h9]; rfl
theorem can_reqD {m : Mo} {acts : List Act} {f : List Nd} (h : reqD m acts f = 0) : Can (comp f) ∧ (comp f).length ≤ f.length ∧ root (comp f) = root f ∧ allT (ndQ m.rel.length m.val.length acts) (root f) = true := by
  obtain ⟨_, h1, h2⟩ := reqD_iff.1 h
  refine ⟨comp_can h1, comp_le h1, root_comp h1, ?_⟩
  rw [← root_comp h1]
  exact trn_all h2 _ _
end Go.Proofs.YtibbphifegibkaaGreatDoor
set_option maxRecDepth 100000
set_option maxHeartbeats 4000000
namespace Go.Proofs.YtibbphifegibkaaGreatDoor
open Go Go.Dv

theorem comN_nil (n c s : Nat) : comN n [] c s = 2 ^ n - 1 := by
  have hz : ∀ w, pathN n [] c w = 0 := fun w => by
    have hall : ∀ m, rndR [([] : List Nat).map fun a => a &&& c] 0 m = 0 := fun m => by
      induction m with
      | zero => rfl
      | succ m ih => rw [rndR, ih, inP, Nat.zero_testBit]; rfl
    have hs : ∀ k, seqR [([] : List Nat).map fun a => a &&& c] n 0 k = 0 := fun k => by
      induction k with
      | zero => rfl
      | succ k ih => rw [seqR, ih, hall]
    rw [pathN, List.getD_nil, Nat.zero_and, hs]
  apply Nat.eq_of_testBit_eq
  intro i
  rw [comN, maskOf_bit, Nat.testBit_two_pow_sub_one, hz]
  rw [show subM 0 s = true from subM_iff.2 fun j hj => (by rw [Nat.zero_testBit] at hj; cases hj), Bool.and_true]
theorem comN_eq {n : Nat} {r : List Nat} {c s : Nat} (hn : n ≤ 64) (hl : r.length = n) (hb : ∀ s, s ∈ r → s < 2 ^ n) : comN n r c s = comP n r c s 64 := by
  rcases comP_stop (c := c) (s := s) (getD_lt2 hb) 64 with h | h
  · exact (comP_comN hl hb h).symm
  · omega
section
variable {n N : Nat} {φ : Nat → Nat}
end
section
variable {m p : Mo} {n N : Nat} {φ : Nat → Nat}
theorem OkM.get {m : Mo} {n : Nat} (h : OkM m n) (a w : Nat) : (m.rel.getD a []).getD w 0 < 2 ^ n := by
  rw [List.getD_eq_getElem?_getD (l := m.rel)]
  cases hr : m.rel[a]? with
  | none => simp; exact Nat.two_pow_pos _
  | some r => exact getD_lt2 (h.bits r (List.mem_iff_getElem?.2 ⟨a, hr⟩)) w
theorem join_or {rel : List (List Nat)} {g : Int} {w j : Nat} : ∀ i, (joinA orF rel g 0 w i).testBit j = true ↔ ∃ a, a < i ∧ (and64 (shr64 g a) 1 == 1) = true ∧ ((rel.getD a []).getD w 0).testBit j = true
  | 0 => by
    rw [joinA, Nat.zero_testBit]
    exact ⟨fun h => (by cases h), fun ⟨a, h, _⟩ => (by omega)⟩
  | i + 1 => by
    have ih := join_or (rel := rel) (g := g) (w := w) (j := j) i
    rw [joinA]
    cases hg : (and64 (shr64 g i) 1 == 1) with
    | false =>
      rw [cond_false, ih]
      constructor
      · rintro ⟨a, h1, h2⟩; exact ⟨a, by omega, h2⟩
      · rintro ⟨a, h1, h2, h3⟩
        by_cases e : a = i
        · rw [e, hg] at h2; cases h2
        · exact ⟨a, by omega, h2, h3⟩
    | true =>
      rw [cond_true, orF, Nat.testBit_or, Bool.or_eq_true, ih]
      constructor
      · rintro (⟨a, h1, h2⟩ | h)
        · exact ⟨a, by omega, h2⟩
        · exact ⟨i, by omega, hg, h⟩
      · rintro ⟨a, h1, h2, h3⟩
        by_cases e : a = i
        · exact .inr (by rw [← e]; exact h3)
        · exact .inl ⟨a, by omega, h2, h3⟩
theorem join_and {rel : List (List Nat)} {g : Int} {n w j : Nat} : ∀ i, (joinA andF rel g (2 ^ n - 1) w i).testBit j = true ↔ j < n ∧ ∀ a, a < i → (and64 (shr64 g a) 1 == 1) = true → ((rel.getD a []).getD w 0).testBit j = true
  | 0 => by
    rw [joinA, Nat.testBit_two_pow_sub_one, decide_eq_true_eq]
    exact ⟨fun h => ⟨h, fun a h => (by omega)⟩, fun h => h.1⟩
  | i + 1 => by
    have ih := join_and (rel := rel) (g := g) (n := n) (w := w) (j := j) i
    rw [joinA]
    cases hg : (and64 (shr64 g i) 1 == 1) with
    | false =>
      rw [cond_false, ih]
      refine and_congr_right fun _ => ⟨fun h a h1 h2 => ?_, fun h a h1 h2 => h a (by omega) h2⟩
      by_cases e : a = i
      · rw [e, hg] at h2; cases h2
      · exact h a (by omega) h2
    | true =>
      rw [cond_true, andF, Nat.testBit_and, Bool.and_eq_true, ih]
      constructor
      · rintro ⟨⟨h0, h1⟩, h2⟩
        refine ⟨h0, fun a h3 h4 => ?_⟩
        by_cases e : a = i
        · rw [e]; exact h2
        · exact h1 a (by omega) h4
      · rintro ⟨h0, h1⟩
        exact ⟨⟨h0, fun a h3 h4 => h1 a (by omega) h4⟩, h1 i (by omega) hg⟩
theorem grpM_get {op : Nat → Nat → Nat} {m : Mo} {g : Int} {first n w : Nat} (hM : OkM m n) (hb : badGM m g = false) (hw : w < n) : (grpM op m g first).getD w 0 = joinA op m.rel g first w m.rel.length := by
  rw [grpM, hb, hM.nn, Int.toNat_natCast]
  exact getD_map_range hw
theorem grpM_lt {op : Nat → Nat → Nat} {m : Mo} {n : Nat} (hM : OkM m n) (hop : ∀ x y, x < 2 ^ n → y < 2 ^ n → op x y < 2 ^ n) {g : Int} {first : Nat} (hfi : first < 2 ^ n) (w : Nat) : (grpM op m g first).getD w 0 < 2 ^ n := by
  cases hb : badGM m g with
  | true => rw [grpM, hb, cond_true, List.getD_nil]; exact Nat.two_pow_pos _
  | false =>
    have hg' := hb
    unfold badGM at hg'
    rw [ok_moI hM] at hg'
    by_cases q1 : g < 1
    · rw [decide_eq_true q1] at hg'; cases hg'
    · rw [decide_eq_false q1] at hg'
      have := of_decide_eq_false (show decide (g ≥ shl64 1 (m.rel.length : Int)) = false from hg')
      exact getD_lt2 (grp_facts hM hop hfi (by omega) (by omega)).2 w
theorem orF_lt (n : Nat) : ∀ x y, x < 2 ^ n → y < 2 ^ n → orF x y < 2 ^ n := fun _ _ h1 h2 => Nat.or_lt_two_pow h1 h2
theorem andF_lt (n : Nat) : ∀ x y, x < 2 ^ n → y < 2 ^ n → andF x y < 2 ^ n := fun x _ _ h2 => Nat.and_lt_two_pow x h2
theorem pow_less (n : Nat) : 2 ^ n - 1 < 2 ^ n := by have := Nat.two_pow_pos n; omega
theorem holds_split {m : Mo} {f : List Nd} (h : (holdsI m f).2 = 0) : reqI m f = 0 ∧ holdsI m f = (vlT m m.n.toNat (root f), 0) := by
  by_cases q : reqI m f = 0
  · exact ⟨q, by rw [holdsI, q]; rfl⟩
  · rw [holdsI, show (reqI m f != 0) = true by simpa using q] at h
    exact absurd h q
/-! formulas that are put together -/
theorem bin_canX {x : Nd} {f g : List Nd} (hf : Can f) (hg : Can g) (hx : usesX x.op = true) (hy : usesY x.op = true) (hok : OkNd (binN x f g) (f ++ g.map (shN f.length)).length) (hs : f.length + g.length + 1 ≤ 200) :
    Can (buildL x [f, g]) ∧ root (buildL x [f, g]) = .nd x.op x.i x.e x.g (root f) (root g) ∧ (buildL x [f, g]).length ≤ f.length + g.length + 1 := by
  have hp := hf.pos
  have hq := hg.pos
  have hA := okl_append hf.ok hg.ok
  have hF := okl_snoc hA hok
  obtain ⟨u1, u2⟩ := bin_last hf.ok hg.ok hp hq
  have hl : 1 ≤ (f ++ g.map (shN f.length)).length := by rw [List.length_append]; omega
  have hT : tree (f ++ g.map (shN f.length) ++ [binN x f g]) (f ++ g.map (shN f.length)).length = .nd x.op x.i x.e x.g (root f) (root g) := by
    rw [tree_nd hF (x := binN x f g) (by simp)]
    simp only [show (binN x f g).op = x.op from rfl, hx, hy, cond_true]
    have n1 : (binN x f g).x.toNat = f.length - 1 := by show ((f.length : Int) - 1).toNat = _; omega
    have n2 : (binN x f g).y.toNat = (f ++ g.map (shN f.length)).length - 1 := by show (((f ++ g.map (shN f.length)).length : Int) - 1).toNat = _; omega
    rw [n1, n2, tree_append hA (by rw [List.length_append]; omega), tree_append hA (by omega), u1, u2]; rfl
  have hk : (f ++ g.map (shN f.length)).length < (f ++ g.map (shN f.length) ++ [binN x f g]).length := by simp
  have h1 := canon_can hF (by simp only [List.length_append, List.length_map, List.length_singleton]; omega) hk
  have h2 := (canon_root hF hk).2
  have e : buildL x [f, g] = canon (f ++ g.map (shN f.length) ++ [binN x f g]) (f ++ g.map (shN f.length)).length := by
    rw [build_bin x f g hx hy]
    refine bin_tree (t := canon (f ++ g.map (shN f.length) ++ [binN x f g]) (f ++ g.map (shN f.length)).length) hf hg hx hy hok ?_ h1.len
    rw [canon_tree hF hk, hT]
  rw [e]
  refine ⟨h1, h2.trans hT, ?_⟩
  have := canon_len (f := f ++ g.map (shN f.length) ++ [binN x f g]) hF.wf hk
  simp only [List.length_append, List.length_map] at this ⊢
  exact this
theorem buildL_comp2 {x : Nd} {f g : List Nd} (h : check f = 0) (h' : check g = 0) : buildL x [f, g] = buildL x [comp f, comp g] := by
  simp [buildL, bfold, h, comp_check h, h', comp_check h', bstep, comp_comp h, comp_comp h']
end
end Go.Proofs.YtibbphifegibkaaGreatDoor
set_option maxRecDepth 100000
set_option maxHeartbeats 4000000
namespace Go.Proofs.YtibbphifegibkaaGreatDoor
open Go Go.Dv

theorem bin_any {op : Int} {f g : List Nd} (hop : op = 5 ∨ op = 6 ∨ op = 7 ∨ op = 8 ∨ op = 16) (hf : check f = 0) (hg : check g = 0) (hs : f.length + g.length + 1 ≤ 200) :
    Can (buildL (n0 op) [f, g]) ∧ root (buildL (n0 op) [f, g]) = .nd op 0 0 0 (root f) (root g) ∧ (buildL (n0 op) [f, g]).length ≤ f.length + g.length + 1 := by
  have cf := comp_can hf
  have cg := comp_can hg
  have lf := comp_le hf
  have lg := comp_le hg
  have pf := cf.pos
  have pg := cg.pos
  rw [buildL_comp2 hf hg]
  have hok : OkNd (binN (n0 op) (comp f) (comp g)) (comp f ++ (comp g).map (shN (comp f).length)).length := by
    rcases hop with rfl | rfl | rfl | rfl | rfl <;> constructor <;> simp [n0, binN, usesX, usesY, isAgent, isGroup] <;> omega
  obtain ⟨g1, g2, g3⟩ := bin_canX (x := n0 op) cf cg (by rcases hop with rfl | rfl | rfl | rfl | rfl <;> rfl) (by rcases hop with rfl | rfl | rfl | rfl | rfl <;> rfl) hok (by omega)
  rw [root_comp hf, root_comp hg] at g2
  exact ⟨g1, g2, by omega⟩
/-! ascending lists -/
end Go.Proofs.YtibbphifegibkaaGreatDoor
set_option maxRecDepth 100000
set_option maxHeartbeats 4000000
namespace Go.Proofs.YtibbphifegibkaaGreatDoor
open Go Go.Dv

section
variable {acts : List Act} {m : Mo} {n : Nat} {a b g : Tr}
theorem dv_ann0 {i e k : Int} (h : dvT acts a m = some 0) : dvT acts (.nd 16 i e k a b) m = some (2 ^ m.n.toNat - 1) := by rw [dvT, h]; rfl
theorem dv_ann1 {i e k : Int} {s : Nat} (h : dvT acts a m = some s) (h0 : s ≠ 0) : dvT acts (.nd 16 i e k a b) m = match dvT acts b (arrI m (memL s)) with
    | none => none
    | some t => some (sprG t (memL s) 0 (notN m.n.toNat s)) := by
  have hb : (s == 0) = false := by simpa using h0
  rw [dvT, h]
  show (bif s == 0 then _ else _) = _
  rw [hb, cond_false]
  all_goals (cases dvT acts b (arrI m (memL s)) <;> rfl)
theorem dv_annN {i e k : Int} (h : dvT acts a m = none) : dvT acts (.nd 16 i e k a b) m = none := by rw [dvT, h]; rfl
theorem dv_st {op i e k : Int} (h16 : (op == 16) = false) (h17 : (op == 17) = false) : dvT acts (.nd op i e k a b) m = match dvT acts a m, dvT acts b m with
    | some x, some y => some (vlN m m.n.toNat op i k x y)
    | _, _ => none := by
  rw [dvT, h16, h17, cond_false, cond_false]
  all_goals (cases dvT acts a m <;> cases dvT acts b m <;> rfl)
theorem notN_bit {n s w : Nat} : (notN n s).testBit w = (decide (w < n) && !s.testBit w) := by rw [notN, maskOf_bit]
end
end Go.Proofs.YtibbphifegibkaaGreatDoor
set_option maxRecDepth 100000
set_option maxHeartbeats 4000000
namespace Go.Proofs.YtibbphifegibkaaGreatDoor
open Go Go.Dv

section
variable {acts : List Act} {m : Mo} {n : Nat} {a b : Tr}
theorem memL_at {s w : Nat} (hs : s < 2 ^ 64) (hw : s.testBit w = true) : ∃ j : Nat, (memL s)[j]? = some w := List.mem_iff_getElem?.1 (memL_mem.2 ⟨bit_lt hs hw, hw⟩)
end
end Go.Proofs.YtibbphifegibkaaGreatDoor
set_option maxRecDepth 100000
set_option maxHeartbeats 4000000
namespace Go.Proofs.YtibbphifegibkaaGreatDoor
open Go Go.Dv

/-- A formula that the checker takes. -/
theorem dyn_ok {m : Mo} {acts : List Act} {f : List Nd} (h : (dynI m acts f).2 = 0) : reqD m acts f = 0 ∧ ∃ s, dvT acts (root f) m = some s ∧ dynI m acts f = (s, 0) := by
  unfold dynI at h ⊢
  cases h0 : (reqD m acts f != 0) with
  | true => rw [h0] at h; simp only [cond_true] at h; rw [h] at h0; cases h0
  | false =>
    rw [h0] at h
    simp only [cond_false] at h ⊢
    refine ⟨by simpa using h0, ?_⟩
    cases hd : dvT acts (root f) m with
    | none => rw [hd] at h; cases h
    | some s => exact ⟨s, rfl, rfl⟩
end Go.Proofs.YtibbphifegibkaaGreatDoor
set_option maxRecDepth 100000
set_option maxHeartbeats 4000000
namespace Go.Proofs.YtibbphifegibkaaGreatDoor
open Go Go.Dv

theorem getD_past {α : Type} {l : List α} {i : Nat} {d : α} (h : l.length ≤ i) : l.getD i d = d := by
  rw [List.getD_eq_getElem?_getD, List.getElem?_eq_none h]; rfl
/-- Static trees whose nodes have their operands. -/
def swT : Tr → Prop
  | .none => True
  | .nd op _ _ _ a b => (1 ≤ op ∧ op ≤ 13) ∧ (usesX op = true → a ≠ .none) ∧ (usesY op = true → b ≠ .none) ∧ swT a ∧ swT b
/-- A set of the worlds of a part of a model, and a set of the model: alike in the part. -/
def Ag (s x t : Nat) : Prop := ∀ k w, (memL s)[k]? = some w → x.testBit k = t.testBit w
section
variable {s n : Nat} (hs : s < 2 ^ n)
theorem ag_at {k w : Nat} (h : (memL s)[k]? = some w) : k < (memL s).length ∧ s.testBit w = true :=
  ⟨(List.getElem?_eq_some_iff.1 h).1, (memL_mem.1 (List.mem_iff_getElem?.2 ⟨k, h⟩)).2⟩
theorem ag_zero : Ag s 0 0 := fun k w _ => by rw [Nat.zero_testBit, Nat.zero_testBit]
include hs in
theorem ag_all : Ag s (2 ^ (memL s).length - 1) (2 ^ n - 1) := fun k w h => by
  obtain ⟨h1, h2⟩ := ag_at h
  rw [all_bit h1, all_bit (bit_lt hs h2)]
include hs in
theorem ag_not {x t : Nat} (h : Ag s x t) : Ag s (notN (memL s).length x) (notN n t) := fun k w hk => by
  obtain ⟨h1, h2⟩ := ag_at hk
  rw [notN_bit, notN_bit, decide_eq_true h1, decide_eq_true (bit_lt hs h2), h k w hk]
theorem ag_and {x t x' t' : Nat} (h : Ag s x t) (h' : Ag s x' t') : Ag s (x &&& x') (t &&& t') := fun k w hk => by rw [Nat.testBit_and, Nat.testBit_and, h k w hk, h' k w hk]
theorem ag_or {x t x' t' : Nat} (h : Ag s x t) (h' : Ag s x' t') : Ag s (x ||| x') (t ||| t') := fun k w hk => by rw [Nat.testBit_or, Nat.testBit_or, h k w hk, h' k w hk]
theorem ag_xor {x t x' t' : Nat} (h : Ag s x t) (h' : Ag s x' t') : Ag s (x ^^^ x') (t ^^^ t') := fun k w hk => by rw [Nat.testBit_xor, Nat.testBit_xor, h k w hk, h' k w hk]
theorem ag_in {x t : Nat} (h : Ag s x t) : Ag s x (s &&& t) := fun k w hk => by rw [Nat.testBit_and, (ag_at hk).2, Bool.true_and, h k w hk]
/-- Rows of a part. -/
def AgR (s : Nat) (r1 r : List Nat) : Prop := ∀ k w, (memL s)[k]? = some w → ∀ j, (r1.getD k 0).testBit j = true ↔ ∃ v, (memL s)[j]? = some v ∧ (r.getD w 0).testBit v = true
include hs in
theorem ag_box {r1 r : List Nat} {x t : Nat} (h64 : n ≤ 64) (hr : ∀ w, r.getD w 0 < 2 ^ n) (hR : AgR s r1 r) (h : Ag s x t) (ho : ∀ v, v < n → s.testBit v = false → t.testBit v = true) : Ag s (boxN (memL s).length r1 x) (boxN n r t) := fun k w hk => by
  obtain ⟨h1, h2⟩ := ag_at hk
  rw [Bool.eq_iff_iff, boxN_bit, boxN_bit]
  constructor
  · rintro ⟨_, g⟩
    refine ⟨bit_lt hs h2, fun v hv => ?_⟩
    have hvn := bit_lt (hr w) hv
    cases hb : s.testBit v with
    | false => exact ho v hvn hb
    | true =>
      obtain ⟨j, hj⟩ := memL_at (Nat.lt_of_lt_of_le hs (pow64_le h64)) hb
      rw [← h j v hj]
      exact g j ((hR k w hk j).2 ⟨v, hj, hv⟩)
  · rintro ⟨_, g⟩
    refine ⟨h1, fun j hj => ?_⟩
    obtain ⟨v, h3, h4⟩ := (hR k w hk j).1 hj
    rw [h j v h3]
    exact g v h4
theorem notN_out {t v : Nat} (hv : v < n) (h : s.testBit v = false) : (notN n (s &&& t)).testBit v = true := by
  rw [notN_bit, Nat.testBit_and, h, decide_eq_true hv]; rfl
include hs in
theorem ag_comP {r1 r : List Nat} {c1 c x t : Nat} (h64 : n ≤ 64) (hr : ∀ w, r.getD w 0 < 2 ^ n) (hR : AgR s r1 r) (hc : Ag s c1 c) (h : Ag s x t) : ∀ k, Ag s (comP (memL s).length r1 c1 x k) (comP n r (s &&& c) t k)
  | 0 => ag_all hs
  | k + 1 => by
    refine ag_box hs h64 hr hR (ag_or (ag_not hs (ag_in hc)) (ag_and h (ag_comP h64 hr hR hc h k))) fun v hv hb => ?_
    rw [Nat.testBit_or, notN_out hv hb]; rfl
end
section
variable {m : Mo} {n s : Nat} (hM : OkM m n) (hs : s < 2 ^ n) (h0 : s ≠ 0)
include hM hs h0 in
theorem arr_okM : OkM (arrI m (memL s)) (memL s).length := arr_ok hM (memL_pos h0 (Nat.lt_of_lt_of_le hs (pow64_le hM.n64))) (memL_len s)
theorem arr_row (i : Nat) : AgR s ((arrI m (memL s)).rel.getD i []) (m.rel.getD i []) := fun k w hk j => by
  by_cases hi : i < m.rel.length
  · have e : ((arrI m (memL s)).rel.getD i []).getD k 0 = pullN ((m.rel.getD i []).getD w 0) (memL s) := by
      rw [arrI, List.getD_eq_getElem?_getD (l := m.rel.map _), List.getElem?_map, getD_mem hi (d := [])]
      show ((memL s).map fun w => pullN ((m.rel.getD i []).getD w 0) (memL s)).getD k 0 = _
      rw [List.getD_eq_getElem?_getD, List.getElem?_map, hk]; rfl
    rw [e, pullN, maskOf_bit, Bool.and_eq_true, decide_eq_true_eq]
    constructor
    · rintro ⟨h1, h2⟩
      exact ⟨_, getD_mem h1, h2⟩
    · rintro ⟨v, h1, h2⟩
      refine ⟨(List.getElem?_eq_some_iff.1 h1).1, ?_⟩
      rw [show (memL s).getD j 0 = v by rw [List.getD_eq_getElem?_getD, h1]; rfl]
      exact h2
  · have el : (arrI m (memL s)).rel.length = m.rel.length := by simp [arrI]
    rw [getD_past (l := m.rel) (i := i) (by omega), getD_past (l := (arrI m (memL s)).rel) (i := i) (by omega)]
    simp
theorem agR_nil : AgR s [] [] := fun k w _ j => by simp
include hM hs h0 in
theorem arr_bad (g : Int) : badGM (arrI m (memL s)) g = badGM m g := by
  rw [badGM, badGM, ok_moI hM, ok_moI (arr_okM hM hs h0), show (arrI m (memL s)).rel.length = m.rel.length by simp [arrI]]
include hM hs h0 in
theorem arr_or (g : Int) : AgR s (grpM orF (arrI m (memL s)) g 0) (grpM orF m g 0) := by
  cases hg : badGM m g with
  | true => rw [grpM, grpM, arr_bad hM hs h0, hg]; exact agR_nil
  | false =>
    intro k w hk j
    obtain ⟨h1, h2⟩ := ag_at hk
    rw [grpM_get hM hg (bit_lt hs h2), grpM_get (arr_okM hM hs h0) (by rw [arr_bad hM hs h0, hg]) h1, join_or, show (arrI m (memL s)).rel.length = m.rel.length by simp [arrI]]
    constructor
    · rintro ⟨a, g1, g2, g3⟩
      obtain ⟨v, g4, g5⟩ := (arr_row (m := m) a k w hk j).1 g3
      exact ⟨v, g4, (join_or _).2 ⟨a, g1, g2, g5⟩⟩
    · rintro ⟨v, g4, g5⟩
      obtain ⟨a, g1, g2, g3⟩ := (join_or _).1 g5
      exact ⟨a, g1, g2, (arr_row (m := m) a k w hk j).2 ⟨v, g4, g3⟩⟩
include hM hs h0 in
theorem arr_and (g : Int) : AgR s (grpM andF (arrI m (memL s)) g (2 ^ (memL s).length - 1)) (grpM andF m g (2 ^ n - 1)) := by
  cases hg : badGM m g with
  | true => rw [grpM, grpM, arr_bad hM hs h0, hg]; exact agR_nil
  | false =>
    intro k w hk j
    obtain ⟨h1, h2⟩ := ag_at hk
    rw [grpM_get hM hg (bit_lt hs h2), grpM_get (arr_okM hM hs h0) (by rw [arr_bad hM hs h0, hg]) h1, join_and, show (arrI m (memL s)).rel.length = m.rel.length by simp [arrI]]
    constructor
    · rintro ⟨hj, g1⟩
      have hv := getD_mem hj (d := 0)
      refine ⟨_, hv, (join_and _).2 ⟨bit_lt hs (ag_at hv).2, fun a g2 g3 => ?_⟩⟩
      obtain ⟨v, g4, g5⟩ := (arr_row (m := m) a k w hk j).1 (g1 a g2 g3)
      rw [hv] at g4
      rw [Option.some.inj g4]
      exact g5
    · rintro ⟨v, g4, g5⟩
      obtain ⟨_, g6⟩ := (join_and _).1 g5
      exact ⟨(ag_at g4).1, fun a g2 g3 => (arr_row (m := m) a k w hk j).2 ⟨v, g4, g6 a g2 g3⟩⟩
theorem vl7 (x y : Nat) (i g : Int) : vlN m n 7 i g x y = notN n x ||| y := rfl
theorem vl5 (x y : Nat) (i g : Int) : vlN m n 5 i g x y = x &&& y := rfl
theorem ann_vl {P : Tr} {op i e g : Int} {a b : Tr} : vlT m n (annT P (.nd op i e g a b)) = notN n (vlT m n P) ||| vlN m n op i g (bif isPC op then vlT m n P &&& vlT m n (annT P a) else vlT m n (annT P a)) (vlT m n (annT P b)) := by
  rw [annT, vlT, vl7, vlT]
  congr 2
  cases isPC op with
  | true => simp only [cond_true]; rw [vlT, vl5]
  | false => rfl
theorem ann_out {P t : Tr} (ht : t ≠ .none) {v : Nat} (hv : v < n) (h : (vlT m n P).testBit v = false) : (vlT m n (annT P t)).testBit v = true := by
  cases t with
  | none => exact absurd rfl ht
  | nd op i e g a b => rw [ann_vl, Nat.testBit_or, notN_bit, h, decide_eq_true hv]; rfl
include hM hs h0 in
/-- What is announced is true where the rest is looked at. -/
theorem ann_ag {P : Tr} (hP : vlT m n P = s) : ∀ t, swT t → Ag s (vlT (arrI m (memL s)) (memL s).length t) (vlT m n (annT P t))
  | .none, _ => ag_zero
  | .nd op i e g a b, hw => by
    obtain ⟨⟨o1, o2⟩, n1, n2, w1, w2⟩ := hw
    have hx := ann_ag hP a w1
    have hy := ann_ag hP b w2
    have h64 := hM.n64
    have hox : usesX op = true → ∀ v, v < n → s.testBit v = false → (vlT m n (annT P a)).testBit v = true := fun u v hv hb => ann_out (n1 u) hv (by rw [hP]; exact hb)
    rw [ann_vl, vlT, hP]
    generalize vlT m n (annT P a) = t at hx hox ⊢
    generalize vlT (arrI m (memL s)) (memL s).length a = x at hx ⊢
    generalize vlT m n (annT P b) = u at hy ⊢
    generalize vlT (arrI m (memL s)) (memL s).length b = y at hy ⊢
    have key : Ag s (vlN (arrI m (memL s)) (memL s).length op i g x y) (vlN m n op i g (bif isPC op then s &&& t else t) u) := by
      have : op = 1 ∨ op = 2 ∨ op = 3 ∨ op = 4 ∨ op = 5 ∨ op = 6 ∨ op = 7 ∨ op = 8 ∨ op = 9 ∨ op = 10 ∨ op = 11 ∨ op = 12 ∨ op = 13 := by omega
      rcases this with rfl | rfl | rfl | rfl | rfl | rfl | rfl | rfl | rfl | rfl | rfl | rfl | rfl
      · exact ag_all hs
      · exact ag_zero
      · intro k w hk
        show ((arrI m (memL s)).val.getD i.toNat 0).testBit k = (m.val.getD i.toNat 0).testBit w
        obtain ⟨h1, h2⟩ := ag_at hk
        by_cases hi : i.toNat < m.val.length
        · rw [arrI, List.getD_eq_getElem?_getD (l := m.val.map _), List.getElem?_map, getD_mem hi (d := 0)]
          show (pullN (m.val.getD i.toNat 0) (memL s)).testBit k = _
          rw [pullN, maskOf_bit, decide_eq_true h1, Bool.true_and, show (memL s).getD k 0 = w by rw [List.getD_eq_getElem?_getD, hk]; rfl]
        · have el : (arrI m (memL s)).val.length = m.val.length := by simp [arrI]
          rw [getD_past (l := m.val) (i := i.toNat) (by omega), getD_past (l := (arrI m (memL s)).val) (i := i.toNat) (by omega), Nat.zero_testBit, Nat.zero_testBit]
      · exact ag_not hs hx
      · exact ag_and hx hy
      · exact ag_or hx hy
      · exact ag_or (ag_not hs hx) hy
      · exact ag_not hs (ag_xor hx hy)
      · exact ag_box hs h64 (hM.get _) (arr_row _) hx (hox rfl)
      · show Ag s (diaN _ _ x) (diaN n _ (s &&& t))
        exact ag_not hs (ag_box hs h64 (hM.get _) (arr_row _) (ag_not hs (ag_in hx)) fun v hv hb => notN_out hv hb)
      · exact ag_box hs h64 (grpM_lt hM (orF_lt n) (Nat.two_pow_pos n)) (arr_or hM hs h0 g) hx (hox rfl)
      · exact ag_box hs h64 (grpM_lt hM (andF_lt n) (pow_less n)) (arr_and hM hs h0 g) hx (hox rfl)
      · show Ag s (comN _ _ x y) (comN n _ (s &&& t) u)
        cases hg : badGM m g with
        | true =>
          rw [grpM, grpM, arr_bad hM hs h0, hg, cond_true, cond_true, comN_nil, comN_nil]
          exact ag_all hs
        | false =>
          have hg' := hg
          unfold badGM at hg'
          rw [ok_moI hM] at hg'
          have hg1 : 1 ≤ g ∧ g < shl64 1 (m.rel.length : Int) := by
            by_cases q1 : g < 1
            · rw [decide_eq_true q1] at hg'; cases hg'
            · rw [decide_eq_false q1] at hg'
              have := of_decide_eq_false (show decide (g ≥ shl64 1 (m.rel.length : Int)) = false from hg')
              exact ⟨by omega, by omega⟩
          have hM1 := arr_okM hM hs h0
          have f1 := grp_facts hM (orF_lt n) (Nat.two_pow_pos n) hg1.1 hg1.2
          have f2 := grp_facts hM1 (orF_lt _) (Nat.two_pow_pos (memL s).length) hg1.1 (by rw [show (arrI m (memL s)).rel.length = m.rel.length by simp [arrI]]; exact hg1.2)
          rw [comN_eq hM1.n64 f2.1 f2.2, comN_eq h64 f1.1 f1.2]
          exact ag_comP hs h64 (getD_lt2 f1.2) (arr_or hM hs h0 g) hx hy 64
    intro k w hk
    rw [Nat.testBit_or, notN_bit, (ag_at hk).2, Bool.not_true, Bool.and_false, Bool.false_or]
    exact key k w hk
theorem all_lt' {t : Nat} (h : t < 2 ^ n) (hall : ∀ w, w < n → t.testBit w = true) : t = 2 ^ n - 1 := by
  apply Nat.eq_of_testBit_eq
  intro w
  rw [Nat.testBit_two_pow_sub_one]
  by_cases hw : w < n
  · rw [hall w hw, decide_eq_true hw]
  · rw [decide_eq_false hw]
    cases hb : t.testBit w with
    | false => rfl
    | true => exact absurd (bit_lt h hb) hw
include hM in
/-- The reduction of an announcement holds where the announcement makes the formula true. -/
theorem ann_sem {P t : Tr} (hP : vlT m n P = s) (ht : swT t) (hn : t ≠ .none) :
    vlT m n (annT P t) = bif s == 0 then 2 ^ n - 1 else sprG (vlT (arrI m (memL s)) (memL s).length t) (memL s) 0 (notN n s) := by
  have hs : s < 2 ^ n := hP ▸ vlT_lt hM.vbits P
  by_cases h0 : s = 0
  · subst h0
    exact all_lt' (vlT_lt hM.vbits _) fun w hw => ann_out hn hw (by rw [hP, Nat.zero_testBit])
  · have hag := ann_ag hM hs h0 hP t ht
    rw [show (s == 0) = false by simpa using h0, cond_false]
    apply Nat.eq_of_testBit_eq
    intro w
    rw [Bool.eq_iff_iff, sprG_bit, notN_bit]
    constructor
    · intro h
      have hw := bit_lt (vlT_lt hM.vbits _) h
      cases hb : s.testBit w with
      | false => left; rw [decide_eq_true hw]; rfl
      | true =>
        right
        obtain ⟨k, hk⟩ := memL_at (Nat.lt_of_lt_of_le hs (pow64_le hM.n64)) hb
        exact ⟨k, hk, by rw [Nat.zero_add, hag k w hk]; exact h⟩
    · rintro (h | ⟨k, hk, h⟩)
      · rw [Bool.and_eq_true, decide_eq_true_eq] at h
        exact ann_out hn h.1 (by rw [hP]; simpa using h.2)
      · rw [Nat.zero_add, hag k w hk] at h
        exact h
end
end Go.Proofs.YtibbphifegibkaaGreatDoor
set_option maxRecDepth 100000
set_option maxHeartbeats 4000000
namespace Go.Proofs.YtibbphifegibkaaGreatDoor
open Go Go.Dv

/-- What a property of nodes must be that a reduction hands on. -/
structure Clo (Q : Int → Int → Int → Int → Bool) : Prop where
  tt : Q 1 0 0 0 = true
  ff : Q 2 0 0 0 = true
  an : Q 5 0 0 0 = true
  oo : Q 6 0 0 0 = true
  im : Q 7 0 0 0 = true
  kn : ∀ i e g, Q 9 i e g = true → Q 9 ((i.toNat : Nat) : Int) 0 0 = true
  po : ∀ i e g, Q 10 i e g = true → Q 10 i 0 0 = true
  di : ∀ i e g, Q 12 i e g = true → Q 12 0 0 g = true
  ev : ∀ i e g (j : Nat), Q 11 i e g = true → (and64 (shr64 g j) 1 == 1) = true → j < 4 → Q 9 (j : Int) 0 0 = true
theorem fold_all {Q : Int → Int → Int → Int → Bool} {op : Int} (h : Q op 0 0 0 = true) : ∀ (r : List Tr) (t : Tr), allT Q t = true → (∀ x, x ∈ r → allT Q x = true) → allT Q (r.foldl (fun a g => .nd op 0 0 0 a g) t) = true
  | [], _, ht, _ => ht
  | x :: r, t, ht, hr => by
    rw [List.foldl_cons]
    refine fold_all h r _ ?_ fun y hy => hr y (List.mem_cons_of_mem _ hy)
    rw [allT, h, ht, hr x (by simp)]; rfl
theorem conj_all {Q : Int → Int → Int → Int → Bool} {op : Int} (h : Q op 0 0 0 = true) {em : Tr} (he : allT Q em = true) {l : List Tr} (hl : ∀ x, x ∈ l → allT Q x = true) : allT Q (conjT op em l) = true := by
  cases l with
  | nil => exact he
  | cons t r => exact fold_all h r t (hl t (by simp)) fun y hy => hl y (List.mem_cons_of_mem _ hy)
section
variable {Q : Int → Int → Int → Int → Bool} (hQ : Clo Q)
include hQ in
theorem annT_all {P : Tr} (hP : allT Q P = true) : ∀ t, allT Q t = true → allT Q (annT P t) = true
  | .none, _ => rfl
  | .nd op i e g a b, h => by
    rw [allT, Bool.and_eq_true, Bool.and_eq_true] at h
    obtain ⟨⟨h1, h2⟩, h3⟩ := h
    have ha := annT_all hP a h2
    have hb := annT_all hP b h3
    rw [annT, allT, allT, hQ.im, hP, h1, hb]
    cases isPC op with
    | true => simp only [cond_true]; rw [allT, hQ.an, hP, ha]; rfl
    | false => simp only [cond_false]; rw [ha]; rfl
/-- The formulas of an action model have the property. -/
structure ActQ (Q : Int → Int → Int → Int → Bool) (a : Act) : Prop where
  pre : ∀ e, allT Q (root (a.pre.getD e [])) = true
  val : ∀ e i : Int, ∀ e' g, Q 3 i e' g = true → allT Q (root (valI a e i).1) = true
  ag : a.rel.length ≤ 4
include hQ in
theorem kno_all {a : Act} {i : Nat} {e : Nat} {X : Nat → Tr} (h : Q 9 (i : Int) 0 0 = true) (hX : ∀ d, allT Q (X d) = true) : allT Q (knoT a i e X) = true := by
  refine conj_all hQ.an (by show (Q 1 0 0 0 && true && true) = true; rw [hQ.tt]; rfl) fun x hx => ?_
  obtain ⟨d, _, rfl⟩ := List.mem_map.1 hx
  rw [allT, h, hX]; rfl
include hQ in
theorem aftT_all {a : Act} (hA : ActQ Q a) : ∀ t, allT Q t = true → ∀ e, allT Q (aftT a t e) = true
  | .none, _, e => rfl
  | .nd op i e' g x y, h, e => by
    rw [allT, Bool.and_eq_true, Bool.and_eq_true] at h
    obtain ⟨⟨h1, h2⟩, h3⟩ := h
    have hx := aftT_all hA x h2
    have hy := aftT_all hA y h3
    show allT Q (.nd 7 0 0 0 (root (a.pre.getD e [])) _) = true
    have hT : allT Q tT = true := by show (Q 1 0 0 0 && true && true) = true; rw [hQ.tt]; rfl
    have hF : allT Q fT = true := by show (Q 2 0 0 0 && true && true) = true; rw [hQ.ff]; rfl
    rw [allT, hQ.im, hA.pre, Bool.true_and, Bool.true_and]
    cases c3 : (op == 3) with
    | true =>
      have : op = 3 := by simpa using c3
      subst this
      exact hA.val _ _ _ _ h1
    | false =>
      simp only [cond_false]
      cases c9 : (op == 9) with
      | true =>
        have : op = 9 := by simpa using c9
        subst this
        exact kno_all hQ (hQ.kn _ _ _ h1) hx
      | false =>
        simp only [cond_false]
        cases c10 : (op == 10) with
        | true =>
          have : op = 10 := by simpa using c10
          subst this
          refine conj_all hQ.oo hF fun z hz => ?_
          obtain ⟨d, _, rfl⟩ := List.mem_map.1 hz
          show (Q 10 i 0 0 && (Q 5 0 0 0 && allT Q (root (a.pre.getD d [])) && allT Q (aftT a x d)) && true) = true
          rw [hQ.po _ _ _ h1, hQ.an, hA.pre, hx]; rfl
        | false =>
          simp only [cond_false]
          cases c11 : (op == 11) with
          | true =>
            have : op = 11 := by simpa using c11
            subst this
            refine conj_all hQ.an hT fun z hz => ?_
            obtain ⟨j, hj, rfl⟩ := List.mem_map.1 hz
            obtain ⟨j1, j2⟩ := List.mem_filter.1 hj
            have := List.mem_range.1 j1
            have := hA.ag
            exact kno_all hQ (hQ.ev _ _ _ j h1 j2 (by omega)) hx
          | false =>
            simp only [cond_false]
            cases c12 : (op == 12) with
            | true =>
              have : op = 12 := by simpa using c12
              subst this
              refine conj_all hQ.an hT fun z hz => ?_
              obtain ⟨d, _, rfl⟩ := List.mem_map.1 hz
              rw [allT, hQ.di _ _ _ h1, hx]; rfl
            | false =>
              simp only [cond_false]
              rw [allT, h1, hx, hy]; rfl
/-- Nodes of the dynamic language with a property. -/
def dyQ (Q : Int → Int → Int → Int → Bool) (op i e g : Int) : Bool := op == 16 || op == 17 || Q op i e g
theorem noAct_Q : ActQ Q noAct := ⟨fun e => rfl, fun e i e' g _ => (by
  show allT Q (root (valI noAct e i).1) = true
  have : (valI noAct e i).1 = [] := by rw [valI, show (aloneI noAct != 0) = true from rfl]; rfl
  rw [this]; rfl), by decide⟩
include hQ in
theorem redT_all {acts : List Act} (hA : ∀ a, a ∈ acts → ActQ Q a) : ∀ t, allT (dyQ Q) t = true → allT Q (redT acts t) = true
  | .none, _ => rfl
  | .nd op i e g a b, h => by
    rw [allT, Bool.and_eq_true, Bool.and_eq_true] at h
    obtain ⟨⟨h1, h2⟩, h3⟩ := h
    have ha := redT_all hA a h2
    have hb := redT_all hA b h3
    rw [redT]
    cases c16 : (op == 16) with
    | true => exact annT_all hQ ha _ hb
    | false =>
      simp only [cond_false]
      cases c17 : (op == 17) with
      | true =>
        refine aftT_all hQ ?_ _ ha _
        rw [List.getD_eq_getElem?_getD]
        cases hi : acts[i.toNat]? with
        | none => exact noAct_Q
        | some x => exact hA x (List.mem_of_getElem? hi)
      | false =>
        have : Q op i e g = true := by
          rw [dyQ, c16, c17] at h1; exact h1
        rw [cond_false, allT, this, ha, hb]; rfl
end
/-- A property, and groups in range. -/
def rgQ (Q : Int → Int → Int → Int → Bool) (op i e g : Int) : Bool := Q op i e g && (bif isGroup op then decide (1 ≤ g) && decide (g < 16) else true)
theorem rg_iff {Q : Int → Int → Int → Int → Bool} {op i e g : Int} : rgQ Q op i e g = true ↔ Q op i e g = true ∧ (isGroup op = true → 1 ≤ g ∧ g < 16) := by
  rw [rgQ, Bool.and_eq_true]
  cases isGroup op <;> simp
theorem rg_no {Q : Int → Int → Int → Int → Bool} {op i e g : Int} (h : Q op i e g = true) (hg : isGroup op = false) : rgQ Q op i e g = true := rg_iff.2 ⟨h, fun u => by rw [hg] at u; cases u⟩
theorem grp_bit {g : Int} {A j : Nat} (h1 : 1 ≤ g) (h16 : g < 16) (h : g.toNat < 2 ^ A) (hj : (and64 (shr64 g j) 1 == 1) = true) (h4 : j < 4) : j < A := by
  obtain ⟨k, rfl⟩ : ∃ k : Nat, g = k := ⟨g.toNat, by omega⟩
  rw [bit64_one (show k < 2 ^ 62 by have : (16 : Nat) < 2 ^ 62 := by decide
                                    omega) (by omega)] at hj
  rw [Int.toNat_natCast] at h
  exact bit_lt h hj
theorem stM_iff {A F : Nat} {op i e g : Int} : stM A F op i e g = true ↔ (fragN ⟨op, i, e, g, 0, 0⟩ < 16 ∧ agN ⟨op, i, e, g, 0, 0⟩ < 2 ^ A) ∧ factN ⟨op, i, e, g, 0, 0⟩ < 2 ^ F := by
  simp only [stM, Bool.and_eq_true, decide_eq_true_eq]
/-- Being static and fitting is handed on. -/
theorem stM_clo (A F : Nat) : Clo (rgQ (stM A F)) := by
  have hA := Nat.two_pow_pos A
  have hF := Nat.two_pow_pos F
  refine ⟨?_, ?_, ?_, ?_, ?_, fun i e g h => ?_, fun i e g h => ?_, fun i e g h => ?_, fun i e g j h hj h4 => ?_⟩
  · exact rg_no (stM_iff.2 ⟨⟨show 0 < 16 by decide, hA⟩, hF⟩) rfl
  · exact rg_no (stM_iff.2 ⟨⟨show 0 < 16 by decide, hA⟩, hF⟩) rfl
  · exact rg_no (stM_iff.2 ⟨⟨show 0 < 16 by decide, hA⟩, hF⟩) rfl
  · exact rg_no (stM_iff.2 ⟨⟨show 0 < 16 by decide, hA⟩, hF⟩) rfl
  · exact rg_no (stM_iff.2 ⟨⟨show 0 < 16 by decide, hA⟩, hF⟩) rfl
  · obtain ⟨⟨_, h2⟩, _⟩ := stM_iff.1 (rg_iff.1 h).1
    refine rg_no (stM_iff.2 ⟨⟨show 1 < 16 by decide, ?_⟩, hF⟩) rfl
    show 2 ^ ((i.toNat : Nat) : Int).toNat < 2 ^ A
    rw [Int.toNat_natCast]; exact h2
  · obtain ⟨⟨_, h2⟩, _⟩ := stM_iff.1 (rg_iff.1 h).1
    exact rg_no (stM_iff.2 ⟨⟨show 1 < 16 by decide, h2⟩, hF⟩) rfl
  · obtain ⟨h1, hg⟩ := rg_iff.1 h
    obtain ⟨⟨_, h2⟩, _⟩ := stM_iff.1 h1
    exact rg_iff.2 ⟨stM_iff.2 ⟨⟨show 4 < 16 by decide, h2⟩, hF⟩, hg⟩
  · obtain ⟨h1, hg⟩ := rg_iff.1 h
    obtain ⟨⟨_, h2⟩, _⟩ := stM_iff.1 h1
    obtain ⟨g1, g2⟩ := hg rfl
    refine rg_no (stM_iff.2 ⟨⟨show 1 < 16 by decide, ?_⟩, hF⟩) rfl
    have h2 : g.toNat < 2 ^ A := h2
    show 2 ^ ((j : Nat) : Int).toNat < 2 ^ A
    rw [Int.toNat_natCast]
    exact Nat.pow_lt_pow_right (by decide) (grp_bit g1 g2 h2 hj h4)
theorem chgs_stat {A F : Int} : ∀ {l : List Asg} {last : Int}, chgs A F l last = 0 → ∀ x, x ∈ l → statI A F x.to = 0
  | [], _, _, x, hx => by cases hx
  | y :: r, last, h, x, hx => by
    rw [chgs] at h
    cases h1 : (bif decide (y.fact < 0) then true else decide (y.fact ≥ F)) with
    | true => rw [h1] at h; cases h
    | false =>
      rw [h1] at h
      simp only [cond_false] at h
      cases h2 : decide (y.fact ≤ last) with
      | true => rw [h2] at h; cases h
      | false =>
        rw [h2] at h
        simp only [cond_false] at h
        cases h3 : (statI A F y.to != 0) with
        | true => rw [h3] at h; have h : statI A F y.to = 0 := h; rw [h] at h3; cases h3
        | false =>
          rw [h3] at h
          rcases List.mem_cons.1 hx with rfl | hx
          · simpa using h3
          · exact chgs_stat (show chgs A F r y.fact = 0 from h) x hx
theorem stat_comp {A F : Nat} {f : List Nd} (h : statI A F f = 0) : statI A F (comp f) = 0 := by
  obtain ⟨h1, h2⟩ := statM_iff.1 h
  exact statM_iff.2 ⟨comp_check h1, by rw [comp_comp h1]; exact h2⟩
theorem stat_fact {A F i : Nat} (hi : i < F) (hF : F ≤ 8) : statI A F (buildL (nI 3 i) []) = 0 := by
  obtain ⟨h1, h2⟩ := one3 (i := i) (by omega)
  rw [h1]
  refine statM_iff.2 ⟨h2, fun x hx => ?_⟩
  have hc : Can [nI 3 (i : Int)] := by
    have hne : oneL (nI 3 (i : Int)) ≠ [] := by rw [← build_one, h1]; simp
    have := (one_inv hne).2.1
    rwa [← build_one, h1] at this
  rw [can_comp hc] at hx
  have hx : x = nI 3 (i : Int) := by simpa using hx
  subst hx
  simp only [stM, Bool.and_eq_true, decide_eq_true_eq]
  refine ⟨⟨show 0 < 16 by decide, Nat.two_pow_pos A⟩, ?_⟩
  show 2 ^ (i : Int).toNat < 2 ^ F
  rw [Int.toNat_natCast]
  exact Nat.pow_lt_pow_right (by decide) hi
theorem valL_fit {A F i : Nat} (hi : i < F) (hF : F ≤ 8) : ∀ {l : List Asg}, (∀ x, x ∈ l → statI A F x.to = 0) → statI A F (valL (i : Int) l) = 0
  | [], _ => stat_fact hi hF
  | x :: r, h => by
    rw [valL]
    cases (x.fact == (i : Int)) with
    | true => exact stat_comp (h x (by simp))
    | false => exact valL_fit hi hF fun y hy => h y (List.mem_cons_of_mem _ hy)
theorem all_stat {A F : Nat} {f : List Nd} (h : statI A F f = 0) : allT (rgQ (stM A F)) (root f) = true := by
  obtain ⟨h1, h2⟩ := statM_iff.1 h
  rw [← root_comp h1]
  exact trn_all (fun x hx => by
    obtain ⟨k, hk⟩ := okl_mem (comp_okl f) hx
    exact rg_iff.2 ⟨h2 x hx, hk.group⟩) _ _
theorem stat_all {A F : Nat} {f : List Nd} (hc : Can f) (h : allT (rgQ (stM A F)) (root f) = true) : statI A F f = 0 := by
  refine statM_iff.2 ⟨hc.check, fun x hx => ?_⟩
  rw [comp_root hc.check] at hx
  exact (rg_iff.1 (finT_all (Q := rgQ (stM A F)) _ _ h (by simp) x hx)).1
theorem act_Q {a : Act} {A F : Nat} (hF : F ≤ 8) (h : actI a A F = 0) : ActQ (rgQ (stM A F)) a := by
  have hO := actI_ok h
  obtain ⟨h1, h2⟩ := evs_all hO.ev
  refine ⟨fun e => ?_, fun e i e' g hq => ?_, hO.agn⟩
  · rw [List.getD_eq_getElem?_getD]
    cases he : a.pre[e]? with
    | none => rfl
    | some f => exact all_stat (h1 f (List.mem_of_getElem? he))
  · unfold valI
    cases (aloneI a != 0) with
    | true => rfl
    | false =>
      simp only [cond_false]
      cases hb : badEv a e with
      | true => rfl
      | false =>
        simp only [cond_false]
        cases hf : badF i with
        | true => rfl
        | false =>
          simp only [cond_false]
          obtain ⟨k, rfl, hk⟩ := badEv_no hb
          have hi : 0 ≤ i := by
            unfold badF at hf
            by_cases q : i < 0
            · rw [decide_eq_true q] at hf; cases hf
            · omega
          have hiF : i.toNat < F := by
            obtain ⟨_, h3⟩ := stM_iff.1 (rg_iff.1 hq).1
            exact (Nat.pow_lt_pow_iff_right (by decide : 1 < 2)).1 (show 2 ^ i.toNat < 2 ^ F from h3)
          have := valL_fit (A := A) hiF hF (chgs_stat (h2 k hk))
          rw [show ((i.toNat : Nat) : Int) = i by omega] at this
          rw [Int.toNat_natCast]
          exact all_stat this
end Go.Proofs.YtibbphifegibkaaGreatDoor
