/- Parts of the proof, one after the other: Groups of a model: of the program, walked. The checker of the program walked: common knowledge, requests, nodes. The checker of the program walked: a node. The checker of the program walked: Sets, Holds, At, Valid. The checker of the program walked: Holds, At, Valid. Products: Worlds of the program walked. Products: Update of the program walked. The reference of models walked: Copy, of which the rows may be written. Products: Update of the program walked. -/
import Derived.Test.YtkjjoalphllolaaM7
set_option maxRecDepth 100000
set_option maxHeartbeats 4000000
namespace Go.Proofs.Ytkjjoalphllolaa
open Go Go.Dv

theorem md_or (x y : Nat) (hx : x < 2 ^ 64) (hy : y < 2 ^ 64) : PureFn Try.prog 94 [u64 x, u64 y] (u64 (x ||| y)) := by
  refine PureFn.intro mixed (fn := Try.f94) rfl rfl rfl fun M w0 => ?_
  try conv=>whnf
  exact le_int (orU_nat hx hy)
theorem md_and (x y : Nat) (hx : x < 2 ^ 64) (hy : y < 2 ^ 64) : PureFn Try.prog 93 [u64 x, u64 y] (u64 (x &&& y)) := by
  refine PureFn.intro mixed (fn := Try.f93) rfl rfl rfl fun M w0 => ?_
  try conv=>whnf
  exact le_int (andU_nat hx hy)
theorem gat_none {op : Nat → Nat → Nat} {rel : List (List Nat)} {g : Int} : ∀ {i : Nat}, gatP op rel g i = none → ∀ j, j < i → (and64 (shr64 g j) 1 == 0) = true
  | 0, _, j, hj => by omega
  | i + 1, h, j, hj => by
    rw [gatP] at h
    cases hz : (and64 (shr64 g i) 1 == 0) with
    | false =>
      rw [hz] at h
      simp only [cond_false] at h
      cases hg : gatP op rel g i <;> rw [hg] at h <;> cases h
    | true =>
      rw [hz] at h
      by_cases q : j = i
      · rw [q]; exact hz
      · exact gat_none h j (by omega)
theorem gat_some {op : Nat → Nat → Nat} {m : Mo} {n : Nat} {g : Int} (hM : OkM m n) (hb : badGM m g = false) : gatP op m.rel g m.rel.length ≠ none := by
  intro h
  unfold badGM at hb
  rw [ok_moI hM] at hb
  cases h1 : decide (g < 1) with
  | true => rw [h1] at hb; cases hb
  | false =>
    rw [h1] at hb
    have h2 := of_decide_eq_false (show decide (g ≥ shl64 1 (m.rel.length : Int)) = false from hb)
    have h3 := of_decide_eq_false h1
    have hag := hM.ag
    rw [shl_n hag] at h2
    obtain ⟨k, rfl⟩ : ∃ k : Nat, g = k := ⟨g.toNat, by omega⟩
    have h16 : 2 ^ m.rel.length ≤ 2 ^ 4 := Nat.pow_le_pow_right (by decide) hag
    have hk : k = 0 := by
      apply Nat.eq_of_testBit_eq
      intro j
      rw [Nat.zero_testBit]
      by_cases hj : j < m.rel.length
      · have := gat_none h j hj
        rw [bit64_and (by omega) (by omega)] at this
        cases hb2 : k.testBit j with
        | false => rfl
        | true => rw [hb2] at this; cases this
      · exact Nat.testBit_lt_two_pow (Nat.lt_of_lt_of_le (show k < 2 ^ m.rel.length by omega) (Nat.pow_le_pow_right (by decide) (by omega)))
    omega
theorem gat_rows {op : Nat → Nat → Nat} {rel : List (List Nat)} {n k : Nat} (hop : ∀ x y, x < k → y < k → op x y < k) (hr : ∀ r, r ∈ rel → r.length = n) (hb : ∀ r, r ∈ rel → ∀ s, s ∈ r → s < k) {g : Int} : ∀ {i : Nat} {l : List Nat}, i ≤ rel.length → gatP op rel g i = some l → l.length = n ∧ ∀ s, s ∈ l → s < k
  | 0, l, _, h => by cases h
  | i + 1, l, hi, h => by
    have hn : rel[i]? = some (rel.getD i []) := getD_mem (by omega)
    have hm : rel.getD i [] ∈ rel := List.mem_iff_getElem?.2 ⟨i, hn⟩
    rw [gatP] at h
    cases hz : (and64 (shr64 g i) 1 == 0) with
    | true => rw [hz] at h; exact gat_rows hop hr hb (by omega) h
    | false =>
      rw [hz] at h
      simp only [cond_false] at h
      cases hg : gatP op rel g i with
      | none =>
        rw [hg] at h
        obtain rfl := Option.some.inj h
        exact ⟨hr _ hm, hb _ hm⟩
      | some l0 =>
        rw [hg] at h
        obtain rfl := Option.some.inj h
        obtain ⟨g1, g2⟩ := gat_rows hop hr hb (i := i) (by omega) hg
        refine ⟨by simp [g1], fun s hs => ?_⟩
        obtain ⟨w, hw, rfl⟩ := List.mem_map.1 hs
        have hw' := List.mem_range.1 hw
        refine hop _ _ (g2 _ (getD_in hw')) (hb _ hm _ (getD_in ?_))
        rw [hr _ hm, ← g1]; exact hw'
theorem md_gat {op : Nat → Nat → Nat} {fid : FuncId} (hop : ∀ x y, x < 2 ^ 64 → y < 2 ^ 64 → op x y < 2 ^ 64) (hPo : ∀ x y, x < 2 ^ 64 → y < 2 ^ 64 → PureFn Try.prog fid [u64 x, u64 y] (u64 (op x y))) (m : Mo) (g : Int) (hf : FitM m) (first : Nat) (hfi : ∀ n, OkM m n → ∀ r, r ∈ m.rel → ∀ s, s ∈ r → op first s = s) (M : Nat → Prop) (w0 : W0) :
    DC Try.prog M w0 92 [.agg (cellsM m), .pv (.int .i64 g), .clo fid [] []] noHeap fun d L' => frz d L' fun q _ => PLe q (rowPV (grpM op m g first)) := by
  refine DC.introC [3] mixed (fn := Try.f92) rfl rfl rfl ?_
  have hC := md_Check m hf
  have e3 : ((m.rel.map rowPV).length : Int) = (m.rel.length : Int) := by simp
  try conv=>whnf
  refine ⟨{ _x : Unit // badGM m g = false }, fun _ => [(1, .pv (.int .i64 g)), (2, .clo fid [] []), (3, .ref 0 0)], fun _ => 1, fun _ => HM m, ?_, ?_⟩
  · (try conv=>whnf);repeat' (first|(apply And.intro<;>try conv=>whnf)|(intro h;try conv=>whnf)|apply True.intro|(apply WhenQ.mk;(try conv=>whnf);rotate_left;(try conv=>whnf);rotate_right)|with_reducible assumption|(apply not_of;with_reducible assumption)|(refine PureFn.dy hC rfl ?_;try conv=>whnf)|fail)
    · exact Int.natCast_nonneg _
    · have hb : badGM m g = true := by rw [badGM, ← e3]; exact h
      rw [grpM, hb]; exact .nil
    · have hb : badGM m g = false := by rw [badGM, ← e3]; exact h
      exact ⟨⟨(), hb⟩, (by refine Wk.of ?_ ?_ rfl rfl rfl<;>repeat' (first|exact trivial|exact WkD.same _|exact WkO.same _ _ rfl|refine ⟨?_, ?_⟩|fail))⟩
  rintro ⟨_, hb⟩
  have h0 : moI m = 0 := by
    by_cases h : moI m = 0
    · exact h
    · have : (moI m != 0) = true := by simpa using h
      rw [badGM, this] at hb; cases hb
  obtain ⟨n, hM⟩ := moI_ok h0
  have hag := hM.ag
  have hn64 := hM.n64
  have hn1 := hM.n1
  have hge := gatP_eq (g := g) (op := op) (first := first) hM.rows (hfi n hM) m.rel.length (Nat.le_refl _)
  have hgs := gat_some (op := op) hM hb
  have hR : rowPV (grpM op m g first) = rowPV ((List.range n).map fun w => joinA op m.rel g first w m.rel.length) := by
    rw [grpM, hb, hM.nn]; rfl
  rw [hR]
  clear hR
  try conv=>whnf
  refine ⟨{ q : Nat × Option (List Nat) // q.1 ≤ m.rel.length ∧ gatP op m.rel g q.1 = q.2 }, fun q => match q.1.2 with | none => [(1, .pv (.int .i64 g)), (2, .clo fid [] []), (3, .ref 0 0), (7, .pv .nil), (27, .pv (.sl (m.rel.map rowPV))), (28, .pv (i64 (m.rel.map rowPV).length)), (29, .pv (i64 q.1.1))] | some l => [(1, .pv (.int .i64 g)), (2, .clo fid [] []), (3, .ref 0 0), (7, .buf 1 (l.map u64).length), (27, .pv (.sl (m.rel.map rowPV))), (28, .pv (i64 (m.rel.map rowPV).length)), (29, .pv (i64 q.1.1))], fun q => match q.1.2 with | none => 1 | some _ => 2, fun q => match q.1.2 with | none => HM m | some l => [(0, .var (cellsM m)), (1, .arr 1 (l.map u64))], fun q => m.rel.length - q.1.1, ⟨⟨(0, none), Nat.zero_le _, rfl⟩, (by refine Wk.of ?_ ?_ rfl rfl rfl<;>repeat' (first|exact trivial|exact WkD.same _|exact WkO.same _ _ rfl|refine ⟨?_, ?_⟩|fail))⟩, ?_⟩
  rintro ⟨⟨i, _ | l⟩, hi, hg⟩
  · (try conv=>whnf);repeat' (first|(apply And.intro<;>try conv=>whnf)|(intro h;try conv=>whnf)|(apply infoT;rfl)|fail)
    · have hi' : i < m.rel.length := by simpa using lt_dec h
      obtain ⟨r, hr, hrw⟩ : ∃ r, m.rel[i]? = some r ∧ m.rel.getD i [] = r := ⟨_, getD_mem hi', rfl⟩
      have hrm : r ∈ m.rel := List.mem_iff_getElem?.2 ⟨i, hr⟩
      have hrl := hM.rows r hrm
      refine ⟨_, _, rfl, idx_map hr, rfl, ?_⟩
      (try conv=>whnf);repeat' (first|(apply And.intro<;>try conv=>whnf)|(intro h;first|with_reducible exact tf0 h|try conv=>whnf)|fail)
      · exact Int.natCast_nonneg _
      · have hz : (and64 (shr64 g i) 1 == 0) = true := h
        refine ⟨⟨(i + 1, none), hi', by rw [gatP, hz]; exact hg⟩, by show m.rel.length - (i + 1) < m.rel.length - i; omega, ?_⟩
        (refine Wk.of ?_ ?_ rfl rfl rfl<;>repeat' (first|exact trivial|exact WkD.same _|exact WkO.same _ _ rfl|refine WkD.int ?_|refine ⟨?_, ?_⟩|(refine wrapA ?_ ?_ ?_;(focus simp;done);(focus (try dsimp only);omega);(focus (try dsimp only);omega))|fail))
      · rename_i hz0
        have hz : (and64 (shr64 g i) 1 == 0) = false := hz0
        have hg2 : gatP op m.rel g i = none := hg
        refine sl_Clone r (by omega) (by omega) _ _ ?_
        try conv=>whnf
        refine ⟨⟨(i + 1, some r), hi', by rw [gatP, hz, hg2, hrw]; rfl⟩, by show m.rel.length - (i + 1) < m.rel.length - i; omega, ?_⟩
        (refine Wk.of ?_ ?_ rfl rfl rfl<;>repeat' (first|exact trivial|exact WkD.same _|exact WkO.same _ _ rfl|refine WkD.int ?_|refine ⟨?_, ?_⟩|(refine wrapA ?_ ?_ ?_;(focus simp;done);(focus (try dsimp only);omega);(focus (try dsimp only);omega))|fail))
    · have hi' : i = m.rel.length := by have := ge_dec (m := (m.rel.map rowPV).length) h (by simpa using hi); simpa using this
      subst hi'
      exact absurd hg hgs
  · obtain ⟨hll, hlb⟩ := gat_rows (op := op) (n := n) (k := 2 ^ 64) hop hM.rows hM.fit.2 hi hg
    (try conv=>whnf);repeat' (first|(apply And.intro<;>try conv=>whnf)|(intro h;try conv=>whnf)|(apply infoT;rfl)|(apply bleI;rfl)|fail)
    · have hi' : i < m.rel.length := by simpa using lt_dec h
      obtain ⟨r, hr, hrw⟩ : ∃ r, m.rel[i]? = some r ∧ m.rel.getD i [] = r := ⟨_, getD_mem hi', rfl⟩
      have hrm : r ∈ m.rel := List.mem_iff_getElem?.2 ⟨i, hr⟩
      have hrl := hM.rows r hrm
      have hrb := hM.fit.2 r hrm
      refine ⟨_, _, rfl, idx_map hr, rfl, ?_⟩
      (try conv=>whnf);repeat' (first|(apply And.intro<;>try conv=>whnf)|(intro h;first|with_reducible exact ft0 h|try conv=>whnf)|fail)
      · exact Int.natCast_nonneg _
      · have hz : (and64 (shr64 g i) 1 == 0) = true := h
        refine ⟨⟨(i + 1, some l), hi', by rw [gatP, hz]; exact hg⟩, by show m.rel.length - (i + 1) < m.rel.length - i; omega, ?_⟩
        (refine Wk.of ?_ ?_ rfl rfl rfl<;>repeat' (first|exact trivial|exact WkD.same _|exact WkO.same _ _ rfl|refine WkD.int ?_|refine ⟨?_, ?_⟩|(refine wrapA ?_ ?_ ?_;(focus simp;done);(focus (try dsimp only);omega);(focus (try dsimp only);omega))|fail))
      · show 0 < (l.map u64).length
        rw [List.length_map]; omega
      · rename_i hz0
        have hz : (and64 (shr64 g i) 1 == 0) = false := hz0
        have hg2 : gatP op m.rel g i = some l := hg
        have hin : l.map u64 = mixV l.length (fun w => u64 (op (l.getD w 0) (r.getD w 0))) (fun w => u64 (l.getD w 0)) 0 := by rw [mixV_zero]; exact (range_map (g := u64) (d := 0) l).symm
        have hout : mixV l.length (fun w => u64 (op (l.getD w 0) (r.getD w 0))) (fun w => u64 (l.getD w 0)) l.length = ((List.range l.length).map fun w => op (l.getD w 0) (r.getD w 0)).map u64 := by rw [mixV_full, List.map_map]; rfl
        have hml := mixV_len l.length (fun w => u64 (op (l.getD w 0) (r.getD w 0))) (fun w => u64 (l.getD w 0))
        refine ⟨{ w : Nat // w ≤ l.length }, fun w => [(1, .pv (.int .i64 g)), (2, .clo fid [] []), (3, .ref 0 0), (7, .buf 1 (mixV l.length (fun w => u64 (op (l.getD w 0) (r.getD w 0))) (fun w => u64 (l.getD w 0)) w.1).length), (9, .pv (rowPV r)), (27, .pv (.sl (m.rel.map rowPV))), (28, .pv (i64 (m.rel.map rowPV).length)), (29, .pv (i64 i)), (44, .pv (i64 l.length)), (45, .pv (i64 w.1))], fun _ => 2, fun w => [(0, .var (cellsM m)), (1, .arr 1 (mixV l.length (fun w => u64 (op (l.getD w 0) (r.getD w 0))) (fun w => u64 (l.getD w 0)) w.1))], fun w => l.length - w.1, ⟨⟨0, Nat.zero_le _⟩, ?_⟩, ?_⟩
        · (refine Wk.of ?_ ?_ rfl rfl rfl<;>repeat' (first|exact trivial|exact WkD.same _|exact WkO.same _ _ rfl|refine WkD.int ?_|refine ⟨?_, ?_⟩|fail))
          · exact WkD.eq (congrArg (fun z : List PV => DV.buf 1 z.length) hin)
          · exact congrArg (fun z : Nat => (z : Int)) (List.length_map _)
          · exact WkO.same _ _ (congrArg (fun z => some (DObj.arr 1 z)) hin)
        rintro ⟨w, hw⟩
        have hmw := hml w
        (try conv=>whnf);repeat' (first|(apply And.intro<;>try conv=>whnf)|(intro h;try conv=>whnf)|fail)
        · have hw' : w < l.length := lt_dec h
          have hlw := hlb _ (getD_in hw')
          have hrw2 : w < r.length := by omega
          have hrn : r[w]? = some (r.getD w 0) := getD_mem hrw2
          have hPF := hPo _ _ hlw (hrb _ (getD_in hrw2))
          refine ⟨Plan.lin 0 14, [13], by kernel_rfl, ?_⟩
          have hst := mixV_set (n := l.length) (p := fun w => u64 (op (l.getD w 0) (r.getD w 0))) (q := fun w => u64 (l.getD w 0)) (e := w)
          (try conv=>whnf);repeat' (first|(apply And.intro<;>try conv=>whnf)|fail)
          refine ⟨w, rfl, by rw [hmw]; exact hw', ?_⟩
          (try conv=>whnf);repeat' (first|(apply And.intro<;>try conv=>whnf)|fail)
          refine ⟨_, mixV_old hw', ?_⟩
          (try conv=>whnf);repeat' (first|(apply And.intro<;>try conv=>whnf)|(apply infoT;rfl)|(refine ⟨_, _, rfl, idx_map (by with_reducible assumption), rfl, ?_⟩;try conv=>whnf)|(refine ⟨_, (by (conv=>whnf);exact hPF), rfl, ?_⟩;try conv=>whnf)|fail)
          refine ⟨w, rfl, by rw [hmw]; exact hw', ?_⟩
          (try conv=>whnf);repeat' (first|(apply And.intro<;>try conv=>whnf)|fail)
          refine ⟨_, mixV_old hw', Nat.le_refl 1, ?_⟩
          try conv=>whnf
          refine ⟨⟨w + 1, hw'⟩, by show l.length - (w + 1) < l.length - w; omega, ?_⟩
          (refine Wk.of ?_ ?_ rfl rfl rfl<;>repeat' (first|exact trivial|exact WkD.same _|exact WkO.same _ _ rfl|refine WkD.int ?_|refine ⟨?_, ?_⟩|(refine wrapA ?_ ?_ ?_;(focus simp;done);(focus (try dsimp only);omega);(focus (try dsimp only);omega))|fail))
          · exact WkD.eq (congrArg (DV.buf 1) (hmw.trans (hml (w + 1)).symm))
          · exact WkO.same _ _ (congrArg (fun z => some (DObj.arr 1 z)) hst)
        · have hw' : w = l.length := ge_dec h hw
          subst hw'
          refine ⟨⟨(i + 1, some ((List.range l.length).map fun w => op (l.getD w 0) (r.getD w 0))), hi', by rw [gatP, hz, hg2, hrw]; rfl⟩, by show m.rel.length - (i + 1) < m.rel.length - i; omega, ?_⟩
          (refine Wk.of ?_ ?_ rfl rfl rfl<;>repeat' (first|exact trivial|exact WkD.same _|exact WkO.same _ _ rfl|refine WkD.int ?_|refine ⟨?_, ?_⟩|(refine wrapA ?_ ?_ ?_;(focus simp;done);(focus (try dsimp only);omega);(focus (try dsimp only);omega))|fail))
          · exact WkD.eq (congrArg (fun z : List PV => DV.buf 1 z.length) hout)
          · exact WkO.same _ _ (congrArg (fun z => some (DObj.arr 1 z)) hout)
    · have hi' : i = m.rel.length := by have := ge_dec (m := (m.rel.map rowPV).length) h (by simpa using hi); simpa using this
      subst hi'
      rw [← hge.2 l hg]
      exact .refl _
theorem md_gatOr (m : Mo) (g : Int) (hf : FitM m) (first : Nat) (hfi : ∀ n, OkM m n → ∀ r, r ∈ m.rel → ∀ s, s ∈ r → orF first s = s) (M : Nat → Prop) (w0 : W0) :
    DC Try.prog M w0 92 [.agg (cellsM m), .pv (.int .i64 g), .clo 94 [] []] noHeap fun d L' => frz d L' fun q _ => PLe q (rowPV (grpM orF m g first)) :=
  md_gat (fun _ _ hx hy => Nat.or_lt_two_pow hx hy) (fun x y hx hy => md_or x y hx hy) m g hf first hfi M w0
theorem md_gatAnd (m : Mo) (g : Int) (hf : FitM m) (first : Nat) (hfi : ∀ n, OkM m n → ∀ r, r ∈ m.rel → ∀ s, s ∈ r → andF first s = s) (M : Nat → Prop) (w0 : W0) :
    DC Try.prog M w0 92 [.agg (cellsM m), .pv (.int .i64 g), .clo 93 [] []] noHeap fun d L' => frz d L' fun q _ => PLe q (rowPV (grpM andF m g first)) :=
  md_gat (fun _ _ hx _ => Nat.lt_of_le_of_lt Nat.and_le_left hx) (fun x y hx hy => md_and x y hx hy) m g hf first hfi M w0
theorem md_Group (m : Mo) (n : Nat) (hM : OkM m n) (g : Int) : PureFn Try.prog 84 [m.pv, .int .i64 g] (rowPV (grpM orF m g 0)) := by
  refine PureFn.intro mixed (fn := Try.f84) rfl rfl rfl fun M w0 => ?_
  try conv=>whnf
  refine DC.alone (p := rowPV (grpM orF m g 0)) rfl (fun M w0 => md_gatOr m g hM.fit 0 (fun _ _ _ _ s _ => Nat.zero_or s) M w0) ?_
  try conv=>whnf
  exact .refl _
theorem md_Meet (m : Mo) (n : Nat) (hM : OkM m n) (g : Int) : PureFn Try.prog 83 [m.pv, .int .i64 g] (rowPV (grpM andF m g (2 ^ n - 1))) := by
  refine PureFn.intro mixed (fn := Try.f83) rfl rfl rfl fun M w0 => ?_
  try conv=>whnf
  refine DC.alone (p := rowPV (grpM andF m g (2 ^ n - 1))) rfl (fun M w0 => md_gatAnd m g hM.fit (2 ^ n - 1) (fun k hk r hr s hs => ?_) M w0) ?_
  · have e : k = n := by have := hM.nn; have := hk.nn; omega
    subst e
    have hb := hk.bits r hr s hs
    show (2 ^ k - 1) &&& s = s
    rw [Nat.and_comm, Nat.and_two_pow_sub_one_of_lt_two_pow hb]
  try conv=>whnf
  exact .refl _
end Go.Proofs.Ytkjjoalphllolaa
set_option maxRecDepth 100000
set_option maxHeartbeats 4000000
namespace Go.Proofs.Ytkjjoalphllolaa
open Go Go.Dv

theorem ck_common (n : Nat) (r : List Nat) (c s : Nat) (hn : n ≤ 64) (hl : r.length = n) (hb : ∀ s, s ∈ r → s < 2 ^ n) (hs : s < 2 ^ n) : PureFn Try.prog 85 [rowPV r, u64 (2 ^ n - 1), u64 c, u64 s] (u64 (comN n r c s)) := by
  refine PureFn.intro mixed (fn := Try.f85) rfl rfl rfl fun M w0 => ?_
  have hlt := comP_lt n r c s
  have h64 := pow64_le hn
  have hgd := getD_lt2 hb
  try conv=>whnf
  refine ⟨{ k : Nat // k ≤ n }, fun k => [(0, .pv (rowPV r)), (1, .pv (u64 (2 ^ n - 1))), (2, .pv (u64 c)), (3, .pv (u64 s)), (9, .pv (u64 (comP n r c s k.1)))], fun _ => 0, fun _ => [], fun k => n - k.1, ⟨⟨0, Nat.zero_le _⟩, (by refine Wk.of ?_ ?_ rfl rfl rfl<;>repeat' (first|exact trivial|exact WkD.same _|refine ⟨?_, ?_⟩|fail))⟩, ?_⟩
  rintro ⟨k, hk⟩
  have hk1 := hlt k
  have hst := comP_stop (c := c) (s := s) hgd k
  have hcn := comP_comN (c := c) (s := s) (k := k) hl hb
  have hnx : comP n r c s (k + 1) = boxN n r (notN n c ||| (s &&& comP n r c s k)) := rfl
  have hB := rl_Box n r (notN n c ||| (s &&& comP n r c s k)) hn hl hb (Nat.or_lt_two_pow (Nat.lt_of_lt_of_le (notN_lt n c) h64) (Nat.and_lt_two_pow _ (by omega)))
  rw [← hnx] at hB
  have hlt2 := hlt (k + 1)
  have earg : u64 (notN n c ||| (s &&& comP n r c s k)) = .int .u64 (orU (andNotU ((2 ^ n - 1 : Nat) : Int) (c : Nat)) (andU (s : Nat) (comP n r c s k : Nat))) := by
    rw [andNotU_all hn, andU_nat (by omega) (by omega), orU_nat (Nat.lt_of_lt_of_le (notN_lt n c) h64) (Nat.and_lt_two_pow _ (by omega))]; rfl
  rw [earg] at hB
  (try conv=>whnf);repeat' (first|(apply And.intro<;>try conv=>whnf)|(intro h;try conv=>whnf)|(refine PureFn.dy hB rfl ?_;try conv=>whnf)|fail)
  · have he : comP n r c s (k + 1) = comP n r c s k := by
      have : ((comP n r c s (k + 1) : Nat) : Int) = (comP n r c s k : Nat) := by simpa using h
      omega
    rw [← hcn he]
    exact .refl _
  · have he : ¬ comP n r c s (k + 1) = comP n r c s k := fun e => by
      have : ¬ ((comP n r c s (k + 1) : Nat) : Int) = (comP n r c s k : Nat) := by simpa using h
      omega
    have hk2 : k + 1 ≤ n := by
      rcases hst with g | g
      · exact absurd g he
      · omega
    exact ⟨⟨k + 1, hk2⟩, by show n - (k + 1) < n - k; omega, (by refine Wk.of ?_ ?_ rfl rfl rfl<;>repeat' (first|exact trivial|exact WkD.same _|refine ⟨?_, ?_⟩|fail))⟩
theorem ck_request (m : Mo) (f : List Nd) (hf : FitM m) : PureFn Try.prog 69 [m.pv, fpv f] (.int .i64 (reqI m f)) := by
  refine PureFn.introC [4, 7, 9] mixed (fn := Try.f69) rfl rfl rfl fun M w0 => ?_
  have hC := md_Check m hf
  have hK := fm_Check f
  have hR := fm_Frags f
  have hT := fm_Fits f (m.rel.length : Nat) (m.val.length : Nat)
  rw [show PV.int .i64 ((m.rel.length : Nat) : Int) = .int .i64 ((m.rel.map rowPV).length : Nat) by rw [List.length_map], show PV.int .i64 ((m.val.length : Nat) : Int) = .int .i64 ((m.val.map u64).length : Nat) by rw [List.length_map]] at hT
  try conv=>whnf
  refine ⟨{ _x : Unit // (moI m != 0) = false }, fun _ => [(1, .pv (fpv f)), (2, .ref 0 0)], fun _ => 1, fun _ => HM m, ?_, ?_⟩
  · (try conv=>whnf);repeat' (first|(apply And.intro<;>try conv=>whnf)|(intro h;try conv=>whnf)|(refine PureFn.dy hC rfl ?_;try conv=>whnf)|fail)
    · refine le_int ?_
      rw [reqI, h]; rfl
    · exact ⟨⟨(), h⟩, (by refine Wk.of ?_ ?_ rfl rfl rfl<;>repeat' (first|exact trivial|exact WkD.same _|exact WkO.same _ _ rfl|refine ⟨?_, ?_⟩|fail))⟩
  rintro ⟨_, h1⟩
  refine ⟨{ _x : Unit // (check f != 0) = false }, fun _ => [(1, .pv (fpv f)), (2, .ref 0 0)], fun _ => 1, fun _ => HM m, ?_, ?_⟩
  · (try conv=>whnf);repeat' (first|(apply And.intro<;>try conv=>whnf)|(intro h;try conv=>whnf)|(refine PureFn.dy hK rfl ?_;try conv=>whnf)|fail)
    · refine le_int ?_
      rw [reqI, h1, statI, h]; rfl
    · exact ⟨⟨(), h⟩, (by refine Wk.of ?_ ?_ rfl rfl rfl<;>repeat' (first|exact trivial|exact WkD.same _|exact WkO.same _ _ rfl|refine ⟨?_, ?_⟩|fail))⟩
  rintro ⟨_, h2⟩
  refine ⟨{ _x : Unit // (nand64' (frags f : Nat) 15 != 0) = false }, fun _ => [(1, .pv (fpv f)), (2, .ref 0 0)], fun _ => 1, fun _ => HM m, ?_, ?_⟩
  · (try conv=>whnf);repeat' (first|(apply And.intro<;>try conv=>whnf)|(intro h;try conv=>whnf)|(refine PureFn.dy hR rfl ?_;try conv=>whnf)|fail)
    · refine le_int ?_
      rw [reqI, h1, statI, h2, show (nand64' (frags f : Nat) 15 != 0) = true from h]; rfl
    · exact ⟨⟨(), h⟩, (by refine Wk.of ?_ ?_ rfl rfl rfl<;>repeat' (first|exact trivial|exact WkD.same _|exact WkO.same _ _ rfl|refine ⟨?_, ?_⟩|fail))⟩
  rintro ⟨_, h3⟩
  (try conv=>whnf);repeat' (first|(apply And.intro<;>try conv=>whnf)|(intro h;try conv=>whnf)|(refine PureFn.dy hT rfl ?_;try conv=>whnf)|fail)
  · refine le_int ?_
    rw [reqI, h1, statI, h2, h3, show fits f (m.rel.length : Nat) (m.val.length : Nat) = false by simpa using h]; rfl
  · refine le_int ?_
    rw [reqI, h1, statI, h2, h3, show fits f (m.rel.length : Nat) (m.val.length : Nat) = true by simpa using h]; rfl
theorem grp_facts {op : Nat → Nat → Nat} {m : Mo} {n : Nat} (hM : OkM m n) (hop : ∀ x y, x < 2 ^ n → y < 2 ^ n → op x y < 2 ^ n) {g : Int} {first : Nat} (hfi : first < 2 ^ n) (h1 : 1 ≤ g) (h2 : g < shl64 1 (m.rel.length : Int)) :
    (grpM op m g first).length = n ∧ ∀ s, s ∈ grpM op m g first → s < 2 ^ n := by
  have hb : badGM m g = false := by
    rw [badGM, ok_moI hM, decide_eq_false (by omega), decide_eq_false (by omega)]; rfl
  rw [grpM, hb, hM.nn, Int.toNat_natCast]
  refine ⟨by simp, fun s hs => ?_⟩
  obtain ⟨w, _, rfl⟩ := List.mem_map.1 (show s ∈ (List.range n).map fun w => joinA op m.rel g first w m.rel.length from hs)
  have key : ∀ i, joinA op m.rel g first w i < 2 ^ n := fun i => by
    induction i with
    | zero => exact hfi
    | succ i ih =>
      rw [joinA]
      cases and64 (shr64 g i) 1 == 1 with
      | false => exact ih
      | true =>
        refine hop _ _ ih ?_
        rw [List.getD_eq_getElem?_getD (l := m.rel)]
        cases hr : m.rel[i]? with
        | none => simp; exact Nat.two_pow_pos _
        | some r => exact getD_lt2 (hM.bits r (List.mem_iff_getElem?.2 ⟨i, hr⟩)) w
  exact key _
def valPV (x : Nat × Bool) : PV := .tup [u64 x.1, .bool x.2]
end Go.Proofs.Ytkjjoalphllolaa
set_option maxRecDepth 100000
set_option maxHeartbeats 4000000
namespace Go.Proofs.Ytkjjoalphllolaa
open Go Go.Dv

def cellsN (op i e g x y : Int) : List DV := [.pv (.int .i64 op), .pv (.int .i64 i), .pv (.int .i64 e), .pv (.int .i64 g), .pv (.int .i64 x), .pv (.int .i64 y)]
theorem le_val {v : Int} {b : Bool} {q : Nat × Bool} (h1 : v = (q.1 : Int)) (h2 : b = q.2) : PLe (.tup [.int .u64 v, .bool b]) (valPV q) := by subst h1; subst h2; exact .refl _
theorem ck_value (m : Mo) (n : Nat) (hM : OkM m n) (x : Nd) (k : Int) (hk : OkNd x k) (a b : Nat) (ha : a < 2 ^ n) (hb : b < 2 ^ n) : PureFn Try.prog 70 [m.pv, x.pv, u64 a, u64 b] (valPV (valV m n x a b)) := by
  obtain ⟨op, i, e, g, xx, yy⟩ := x
  refine PureFn.introC [2] mixed (fn := Try.f70) rfl rfl rfl fun M w0 => ?_
  have hn1 := hM.n1
  have hn := hM.n64
  have h64 := pow64_le hn
  have hag := hM.ag
  have ha64 : a < 2 ^ 64 := by omega
  have hb64 : b < 2 ^ 64 := by omega
  have hmn := hM.nn
  have hw : IntKind.wrap .i64 (64 - m.n) = (64 : Int) - n := by rw [hmn, Go.Dv.wrap_small (by omega) (by omega)]
  have e1 : ((m.val.map u64).length : Int) = (m.val.length : Int) := by simp
  have e2 : ((m.rel.map rowPV).length : Int) = (m.rel.length : Int) := by simp
  try conv=>whnf
  refine ⟨Unit, fun _ => [(2, .pv (u64 a)), (3, .pv (u64 b)), (4, .ref 0 0), (5, .ref 1 0), (10, .pv (u64 (2 ^ n - 1)))], fun _ => 2, fun _ => [(0, .var (cellsM m)), (1, .var (cellsN op i e g xx yy))], ?_, ?_⟩
  · (try conv=>whnf);repeat' (first|(apply And.intro<;>try conv=>whnf)|fail)
    · show (0 : Int) ≤ IntKind.wrap .i64 (64 - m.n)
      rw [hw]; omega
    · refine ⟨(), ?_⟩
      (refine Wk.of ?_ ?_ rfl rfl rfl<;>repeat' (first|exact trivial|exact WkD.same _|exact WkO.same _ _ rfl|refine WkD.int ?_|refine ⟨?_, ?_⟩|fail))
      show shrU 18446744073709551615 (IntKind.wrap .i64 (64 - m.n)) = _
      rw [hw]; exact shr_all hn1 hn
  rintro ⟨⟩
  have hop : op = 1 ∨ op = 2 ∨ op = 3 ∨ op = 4 ∨ op = 5 ∨ op = 6 ∨ op = 7 ∨ op = 8 ∨ op = 9 ∨ op = 10 ∨ op = 11 ∨ op = 12 ∨ op = 13 ∨ 14 ≤ op := by have := hk.op.1; simp only at this; omega
  rcases hop with rfl | rfl | rfl | rfl | rfl | rfl | rfl | rfl | rfl | rfl | rfl | rfl | rfl | hop
  · skip
    have f1 : ((1 : Int) == 1) = true := rfl
    have f2 : ((1 : Int) == 2) = false := rfl
    have f3 : ((1 : Int) == 3) = false := rfl
    have f4 : ((1 : Int) == 4) = false := rfl
    have f5 : ((1 : Int) == 5) = false := rfl
    have f6 : ((1 : Int) == 6) = false := rfl
    have f7 : ((1 : Int) == 7) = false := rfl
    have f8 : ((1 : Int) == 8) = false := rfl
    have f9 : ((1 : Int) == 9) = false := rfl
    have f10 : ((1 : Int) == 10) = false := rfl
    have f11 : ((1 : Int) == 11) = false := rfl
    have f12 : ((1 : Int) == 12) = false := rfl
    have f13 : ((1 : Int) == 13) = false := rfl
    (try conv=>whnf);repeat' (first|(apply And.intro<;>try conv=>whnf)|(intro h;first|with_reducible exact tf (by assumption) h|try conv=>whnf)|fail)
    exact le_val rfl rfl
  · skip
    have f1 : ((2 : Int) == 1) = false := rfl
    have f2 : ((2 : Int) == 2) = true := rfl
    have f3 : ((2 : Int) == 3) = false := rfl
    have f4 : ((2 : Int) == 4) = false := rfl
    have f5 : ((2 : Int) == 5) = false := rfl
    have f6 : ((2 : Int) == 6) = false := rfl
    have f7 : ((2 : Int) == 7) = false := rfl
    have f8 : ((2 : Int) == 8) = false := rfl
    have f9 : ((2 : Int) == 9) = false := rfl
    have f10 : ((2 : Int) == 10) = false := rfl
    have f11 : ((2 : Int) == 11) = false := rfl
    have f12 : ((2 : Int) == 12) = false := rfl
    have f13 : ((2 : Int) == 13) = false := rfl
    (try conv=>whnf);repeat' (first|(apply And.intro<;>try conv=>whnf)|(intro h;first|with_reducible exact tf h (by assumption)|with_reducible exact tf (by assumption) h|try conv=>whnf)|fail)
    exact le_val rfl rfl
  · skip
    have f1 : ((3 : Int) == 1) = false := rfl
    have f2 : ((3 : Int) == 2) = false := rfl
    have f3 : ((3 : Int) == 3) = true := rfl
    have f4 : ((3 : Int) == 4) = false := rfl
    have f5 : ((3 : Int) == 5) = false := rfl
    have f6 : ((3 : Int) == 6) = false := rfl
    have f7 : ((3 : Int) == 7) = false := rfl
    have f8 : ((3 : Int) == 8) = false := rfl
    have f9 : ((3 : Int) == 9) = false := rfl
    have f10 : ((3 : Int) == 10) = false := rfl
    have f11 : ((3 : Int) == 11) = false := rfl
    have f12 : ((3 : Int) == 12) = false := rfl
    have f13 : ((3 : Int) == 13) = false := rfl
    have hi := (hk.fact rfl).1
    simp only at hi
    obtain ⟨j, rfl⟩ : ∃ j : Nat, i = j := ⟨i.toNat, by omega⟩
    have hv : valV m n ⟨3, j, e, g, xx, yy⟩ a b = bif !decide ((j : Int) ≥ (m.val.length : Int)) then (m.val.getD j 0, true) else (0, false) := rfl
    (try conv=>whnf);repeat' (first|(apply And.intro<;>try conv=>whnf)|(intro h;first|with_reducible exact tf h (by assumption)|with_reducible exact tf (by assumption) h|try conv=>whnf)|(apply infoT;rfl)|fail)
    · rw [hv, show decide ((j : Int) ≥ (m.val.length : Int)) = true by rw [← e1]; exact h]
      exact le_val rfl rfl
    · have h9 : decide ((j : Int) ≥ (m.val.length : Int)) = false := by rw [← e1]; exact h
      have h8 := of_decide_eq_false h9
      refine ⟨j, _, rfl, idx_map (getD_mem (show j < m.val.length by omega) (d := 0)), rfl, ?_⟩
      try conv=>whnf
      rw [hv, h9]
      exact le_val rfl rfl
  · skip
    have f1 : ((4 : Int) == 1) = false := rfl
    have f2 : ((4 : Int) == 2) = false := rfl
    have f3 : ((4 : Int) == 3) = false := rfl
    have f4 : ((4 : Int) == 4) = true := rfl
    have f5 : ((4 : Int) == 5) = false := rfl
    have f6 : ((4 : Int) == 6) = false := rfl
    have f7 : ((4 : Int) == 7) = false := rfl
    have f8 : ((4 : Int) == 8) = false := rfl
    have f9 : ((4 : Int) == 9) = false := rfl
    have f10 : ((4 : Int) == 10) = false := rfl
    have f11 : ((4 : Int) == 11) = false := rfl
    have f12 : ((4 : Int) == 12) = false := rfl
    have f13 : ((4 : Int) == 13) = false := rfl
    (try conv=>whnf);repeat' (first|(apply And.intro<;>try conv=>whnf)|(intro h;first|with_reducible exact tf h (by assumption)|with_reducible exact tf (by assumption) h|try conv=>whnf)|fail)
    exact le_val (andNotU_all hn) rfl
  · skip
    have f1 : ((5 : Int) == 1) = false := rfl
    have f2 : ((5 : Int) == 2) = false := rfl
    have f3 : ((5 : Int) == 3) = false := rfl
    have f4 : ((5 : Int) == 4) = false := rfl
    have f5 : ((5 : Int) == 5) = true := rfl
    have f6 : ((5 : Int) == 6) = false := rfl
    have f7 : ((5 : Int) == 7) = false := rfl
    have f8 : ((5 : Int) == 8) = false := rfl
    have f9 : ((5 : Int) == 9) = false := rfl
    have f10 : ((5 : Int) == 10) = false := rfl
    have f11 : ((5 : Int) == 11) = false := rfl
    have f12 : ((5 : Int) == 12) = false := rfl
    have f13 : ((5 : Int) == 13) = false := rfl
    (try conv=>whnf);repeat' (first|(apply And.intro<;>try conv=>whnf)|(intro h;first|with_reducible exact tf h (by assumption)|with_reducible exact tf (by assumption) h|try conv=>whnf)|fail)
    exact le_val (andU_nat ha64 hb64) rfl
  · skip
    have f1 : ((6 : Int) == 1) = false := rfl
    have f2 : ((6 : Int) == 2) = false := rfl
    have f3 : ((6 : Int) == 3) = false := rfl
    have f4 : ((6 : Int) == 4) = false := rfl
    have f5 : ((6 : Int) == 5) = false := rfl
    have f6 : ((6 : Int) == 6) = true := rfl
    have f7 : ((6 : Int) == 7) = false := rfl
    have f8 : ((6 : Int) == 8) = false := rfl
    have f9 : ((6 : Int) == 9) = false := rfl
    have f10 : ((6 : Int) == 10) = false := rfl
    have f11 : ((6 : Int) == 11) = false := rfl
    have f12 : ((6 : Int) == 12) = false := rfl
    have f13 : ((6 : Int) == 13) = false := rfl
    (try conv=>whnf);repeat' (first|(apply And.intro<;>try conv=>whnf)|(intro h;first|with_reducible exact tf h (by assumption)|with_reducible exact tf (by assumption) h|try conv=>whnf)|fail)
    exact le_val (orU_nat ha64 hb64) rfl
  · skip
    have f1 : ((7 : Int) == 1) = false := rfl
    have f2 : ((7 : Int) == 2) = false := rfl
    have f3 : ((7 : Int) == 3) = false := rfl
    have f4 : ((7 : Int) == 4) = false := rfl
    have f5 : ((7 : Int) == 5) = false := rfl
    have f6 : ((7 : Int) == 6) = false := rfl
    have f7 : ((7 : Int) == 7) = true := rfl
    have f8 : ((7 : Int) == 8) = false := rfl
    have f9 : ((7 : Int) == 9) = false := rfl
    have f10 : ((7 : Int) == 10) = false := rfl
    have f11 : ((7 : Int) == 11) = false := rfl
    have f12 : ((7 : Int) == 12) = false := rfl
    have f13 : ((7 : Int) == 13) = false := rfl
    (try conv=>whnf);repeat' (first|(apply And.intro<;>try conv=>whnf)|(intro h;first|with_reducible exact tf h (by assumption)|with_reducible exact tf (by assumption) h|try conv=>whnf)|fail)
    refine le_val ?_ rfl
    show orU (andNotU ((2 ^ n - 1 : Nat) : Int) (a : Nat)) (b : Nat) = _
    rw [andNotU_all hn]
    exact orU_nat (Nat.lt_of_lt_of_le (notN_lt n a) h64) hb64
  · skip
    have f1 : ((8 : Int) == 1) = false := rfl
    have f2 : ((8 : Int) == 2) = false := rfl
    have f3 : ((8 : Int) == 3) = false := rfl
    have f4 : ((8 : Int) == 4) = false := rfl
    have f5 : ((8 : Int) == 5) = false := rfl
    have f6 : ((8 : Int) == 6) = false := rfl
    have f7 : ((8 : Int) == 7) = false := rfl
    have f8 : ((8 : Int) == 8) = true := rfl
    have f9 : ((8 : Int) == 9) = false := rfl
    have f10 : ((8 : Int) == 10) = false := rfl
    have f11 : ((8 : Int) == 11) = false := rfl
    have f12 : ((8 : Int) == 12) = false := rfl
    have f13 : ((8 : Int) == 13) = false := rfl
    (try conv=>whnf);repeat' (first|(apply And.intro<;>try conv=>whnf)|(intro h;first|with_reducible exact tf h (by assumption)|with_reducible exact tf (by assumption) h|try conv=>whnf)|fail)
    refine le_val ?_ rfl
    show andNotU ((2 ^ n - 1 : Nat) : Int) (xorU (a : Nat) (b : Nat)) = _
    rw [xorU_nat ha64 hb64]
    exact andNotU_all hn
  · skip
    have f1 : ((9 : Int) == 1) = false := rfl
    have f2 : ((9 : Int) == 2) = false := rfl
    have f3 : ((9 : Int) == 3) = false := rfl
    have f4 : ((9 : Int) == 4) = false := rfl
    have f5 : ((9 : Int) == 5) = false := rfl
    have f6 : ((9 : Int) == 6) = false := rfl
    have f7 : ((9 : Int) == 7) = false := rfl
    have f8 : ((9 : Int) == 8) = false := rfl
    have f9 : ((9 : Int) == 9) = true := rfl
    have f10 : ((9 : Int) == 10) = false := rfl
    have f11 : ((9 : Int) == 11) = false := rfl
    have f12 : ((9 : Int) == 12) = false := rfl
    have f13 : ((9 : Int) == 13) = false := rfl
    have hi := (hk.agent rfl).1
    simp only at hi
    obtain ⟨j, rfl⟩ : ∃ j : Nat, i = j := ⟨i.toNat, by omega⟩
    have hv : valV m n ⟨9, j, e, g, xx, yy⟩ a b = bif !decide ((j : Int) ≥ (m.rel.length : Int)) then (boxN n (m.rel.getD j []) a, true) else (0, false) := rfl
    (try conv=>whnf);repeat' (first|(apply And.intro<;>try conv=>whnf)|(intro h;first|with_reducible exact tf h (by assumption)|with_reducible exact tf (by assumption) h|try conv=>whnf)|(apply infoT;rfl)|fail)
    · rw [hv, show decide ((j : Int) ≥ (m.rel.length : Int)) = true by rw [← e2]; exact h]
      exact le_val rfl rfl
    · rename_i hc
      have h9 : decide ((j : Int) ≥ (m.rel.length : Int)) = false := by rw [← e2]; exact hc
      have h8 := of_decide_eq_false h9
      obtain ⟨r, hr, hrw⟩ : ∃ r, m.rel[j]? = some r ∧ m.rel.getD j [] = r := ⟨_, getD_mem (by omega), rfl⟩
      have hrm : r ∈ m.rel := List.mem_iff_getElem?.2 ⟨j, hr⟩
      have hB := rl_Box n r a hn (hM.rows r hrm) (hM.bits r hrm) ha64
      rw [hv, h9, hrw]
      refine ⟨_, _, rfl, idx_map hr, rfl, ?_⟩
      (try conv=>whnf);repeat' (first|(refine PureFn.dy hB rfl ?_;try conv=>whnf)|fail)
      exact le_val rfl rfl
  · skip
    have f1 : ((10 : Int) == 1) = false := rfl
    have f2 : ((10 : Int) == 2) = false := rfl
    have f3 : ((10 : Int) == 3) = false := rfl
    have f4 : ((10 : Int) == 4) = false := rfl
    have f5 : ((10 : Int) == 5) = false := rfl
    have f6 : ((10 : Int) == 6) = false := rfl
    have f7 : ((10 : Int) == 7) = false := rfl
    have f8 : ((10 : Int) == 8) = false := rfl
    have f9 : ((10 : Int) == 9) = false := rfl
    have f10 : ((10 : Int) == 10) = true := rfl
    have f11 : ((10 : Int) == 11) = false := rfl
    have f12 : ((10 : Int) == 12) = false := rfl
    have f13 : ((10 : Int) == 13) = false := rfl
    have hi := (hk.agent rfl).1
    simp only at hi
    obtain ⟨j, rfl⟩ : ∃ j : Nat, i = j := ⟨i.toNat, by omega⟩
    have hv : valV m n ⟨10, j, e, g, xx, yy⟩ a b = bif !decide ((j : Int) ≥ (m.rel.length : Int)) then (diaN n (m.rel.getD j []) a, true) else (0, false) := rfl
    (try conv=>whnf);repeat' (first|(apply And.intro<;>try conv=>whnf)|(intro h;first|with_reducible exact tf h (by assumption)|with_reducible exact tf (by assumption) h|try conv=>whnf)|(apply infoT;rfl)|fail)
    · rw [hv, show decide ((j : Int) ≥ (m.rel.length : Int)) = true by rw [← e2]; exact h]
      exact le_val rfl rfl
    · rename_i hc
      have h9 : decide ((j : Int) ≥ (m.rel.length : Int)) = false := by rw [← e2]; exact hc
      have h8 := of_decide_eq_false h9
      obtain ⟨r, hr, hrw⟩ : ∃ r, m.rel[j]? = some r ∧ m.rel.getD j [] = r := ⟨_, getD_mem (by omega), rfl⟩
      have hrm : r ∈ m.rel := List.mem_iff_getElem?.2 ⟨j, hr⟩
      have hB := rl_Diamond n r a hn (hM.rows r hrm) (hM.bits r hrm) ha64
      rw [hv, h9, hrw]
      refine ⟨_, _, rfl, idx_map hr, rfl, ?_⟩
      (try conv=>whnf);repeat' (first|(refine PureFn.dy hB rfl ?_;try conv=>whnf)|fail)
      exact le_val rfl rfl
  · skip
    have f1 : ((11 : Int) == 1) = false := rfl
    have f2 : ((11 : Int) == 2) = false := rfl
    have f3 : ((11 : Int) == 3) = false := rfl
    have f4 : ((11 : Int) == 4) = false := rfl
    have f5 : ((11 : Int) == 5) = false := rfl
    have f6 : ((11 : Int) == 6) = false := rfl
    have f7 : ((11 : Int) == 7) = false := rfl
    have f8 : ((11 : Int) == 8) = false := rfl
    have f9 : ((11 : Int) == 9) = false := rfl
    have f10 : ((11 : Int) == 10) = false := rfl
    have f11 : ((11 : Int) == 11) = true := rfl
    have f12 : ((11 : Int) == 12) = false := rfl
    have f13 : ((11 : Int) == 13) = false := rfl
    have hg1 := (hk.group rfl).1
    simp only at hg1
    have hv : valV m n ⟨11, i, e, g, xx, yy⟩ a b = bif !decide (g ≥ shl64 1 (m.rel.length : Int)) then (boxN n (grpM orF m g 0) a, true) else (0, false) := rfl
    have hG := md_Group m n hM g
    have hgf := fun (h : g < shl64 1 (m.rel.length : Int)) => grp_facts (op := orF) (first := 0) hM (fun _ _ hx hy => Nat.or_lt_two_pow hx hy) (Nat.two_pow_pos n) hg1 h
    rw [hv]
    clear hv
    generalize grpM orF m g 0 = G at hG hgf ⊢
    (try conv=>whnf);repeat' (first|(apply And.intro<;>try conv=>whnf)|(intro h;first|with_reducible exact tf h (by assumption)|with_reducible exact tf (by assumption) h|try conv=>whnf)|(refine lin_plan (by kernel_rfl) ?_;try conv=>whnf)|fail)
    · exact Int.natCast_nonneg _
    · have h9 : decide (g ≥ shl64 1 (m.rel.length : Int)) = true := by rw [← e2]; exact h
      rw [h9]
      exact le_val rfl rfl
    · rename_i hc
      have h9 : decide (g ≥ shl64 1 (m.rel.length : Int)) = false := by rw [← e2]; exact hc
      have h8 := of_decide_eq_false h9
      obtain ⟨hgl, hgb⟩ := hgf (by omega)
      have hB := rl_Box n _ a hn hgl hgb ha64
      rw [h9]
      (try conv=>whnf);repeat' (first|(apply And.intro<;>try conv=>whnf)|(intro h;first|with_reducible exact tf (by assumption) h|try conv=>whnf)|(refine PureFn.dy hG rfl ?_;try conv=>whnf)|(refine PureFn.dy hB rfl ?_;try conv=>whnf)|fail)
      exact le_val rfl rfl
  · skip
    have f1 : ((12 : Int) == 1) = false := rfl
    have f2 : ((12 : Int) == 2) = false := rfl
    have f3 : ((12 : Int) == 3) = false := rfl
    have f4 : ((12 : Int) == 4) = false := rfl
    have f5 : ((12 : Int) == 5) = false := rfl
    have f6 : ((12 : Int) == 6) = false := rfl
    have f7 : ((12 : Int) == 7) = false := rfl
    have f8 : ((12 : Int) == 8) = false := rfl
    have f9 : ((12 : Int) == 9) = false := rfl
    have f10 : ((12 : Int) == 10) = false := rfl
    have f11 : ((12 : Int) == 11) = false := rfl
    have f12 : ((12 : Int) == 12) = true := rfl
    have f13 : ((12 : Int) == 13) = false := rfl
    have hg1 := (hk.group rfl).1
    simp only at hg1
    have hv : valV m n ⟨12, i, e, g, xx, yy⟩ a b = bif !decide (g ≥ shl64 1 (m.rel.length : Int)) then (boxN n (grpM andF m g (2 ^ n - 1)) a, true) else (0, false) := rfl
    have hG := md_Meet m n hM g
    have hgf := fun (h : g < shl64 1 (m.rel.length : Int)) => grp_facts (op := andF) (first := (2 ^ n - 1)) hM (fun _ _ hx _ => Nat.lt_of_le_of_lt Nat.and_le_left hx) (by have := Nat.two_pow_pos n; omega) hg1 h
    rw [hv]
    clear hv
    generalize grpM andF m g (2 ^ n - 1) = G at hG hgf ⊢
    (try conv=>whnf);repeat' (first|(apply And.intro<;>try conv=>whnf)|(intro h;first|with_reducible exact tf h (by assumption)|with_reducible exact tf (by assumption) h|try conv=>whnf)|(refine lin_plan (by kernel_rfl) ?_;try conv=>whnf)|fail)
    · exact Int.natCast_nonneg _
    · have h9 : decide (g ≥ shl64 1 (m.rel.length : Int)) = true := by rw [← e2]; exact h
      rw [h9]
      exact le_val rfl rfl
    · rename_i hc
      have h9 : decide (g ≥ shl64 1 (m.rel.length : Int)) = false := by rw [← e2]; exact hc
      have h8 := of_decide_eq_false h9
      obtain ⟨hgl, hgb⟩ := hgf (by omega)
      have hB := rl_Box n _ a hn hgl hgb ha64
      rw [h9]
      (try conv=>whnf);repeat' (first|(refine PureFn.dy hG rfl ?_;try conv=>whnf)|(refine PureFn.dy hB rfl ?_;try conv=>whnf)|fail)
      exact le_val rfl rfl
  · skip
    have f1 : ((13 : Int) == 1) = false := rfl
    have f2 : ((13 : Int) == 2) = false := rfl
    have f3 : ((13 : Int) == 3) = false := rfl
    have f4 : ((13 : Int) == 4) = false := rfl
    have f5 : ((13 : Int) == 5) = false := rfl
    have f6 : ((13 : Int) == 6) = false := rfl
    have f7 : ((13 : Int) == 7) = false := rfl
    have f8 : ((13 : Int) == 8) = false := rfl
    have f9 : ((13 : Int) == 9) = false := rfl
    have f10 : ((13 : Int) == 10) = false := rfl
    have f11 : ((13 : Int) == 11) = false := rfl
    have f12 : ((13 : Int) == 12) = false := rfl
    have f13 : ((13 : Int) == 13) = true := rfl
    have hg1 := (hk.group rfl).1
    simp only at hg1
    have hv : valV m n ⟨13, i, e, g, xx, yy⟩ a b = bif !decide (g ≥ shl64 1 (m.rel.length : Int)) then (comN n (grpM orF m g 0) a b, true) else (0, false) := rfl
    have hG := md_Group m n hM g
    have hgf := fun (h : g < shl64 1 (m.rel.length : Int)) => grp_facts (op := orF) (first := 0) hM (fun _ _ hx hy => Nat.or_lt_two_pow hx hy) (Nat.two_pow_pos n) hg1 h
    rw [hv]
    clear hv
    generalize grpM orF m g 0 = G at hG hgf ⊢
    (try conv=>whnf);repeat' (first|(apply And.intro<;>try conv=>whnf)|(intro h;first|with_reducible exact tf h (by assumption)|with_reducible exact tf (by assumption) h|try conv=>whnf)|(refine lin_plan (by kernel_rfl) ?_;try conv=>whnf)|fail)
    · exact Int.natCast_nonneg _
    · have h9 : decide (g ≥ shl64 1 (m.rel.length : Int)) = true := by rw [← e2]; exact h
      rw [h9]
      exact le_val rfl rfl
    · rename_i hc
      have h9 : decide (g ≥ shl64 1 (m.rel.length : Int)) = false := by rw [← e2]; exact hc
      have h8 := of_decide_eq_false h9
      obtain ⟨hgl, hgb⟩ := hgf (by omega)
      have hB := ck_common n _ a b hn hgl hgb hb
      rw [h9]
      (try conv=>whnf);repeat' (first|(apply And.intro<;>try conv=>whnf)|(intro h;first|with_reducible exact tf h (by assumption)|try conv=>whnf)|(refine PureFn.dy hG rfl ?_;try conv=>whnf)|(refine PureFn.dy hB rfl ?_;try conv=>whnf)|fail)
      exact le_val rfl rfl
  · skip
    have f1 : (op == 1) = false := by simp; omega
    have f2 : (op == 2) = false := by simp; omega
    have f3 : (op == 3) = false := by simp; omega
    have f4 : (op == 4) = false := by simp; omega
    have f5 : (op == 5) = false := by simp; omega
    have f6 : (op == 6) = false := by simp; omega
    have f7 : (op == 7) = false := by simp; omega
    have f8 : (op == 8) = false := by simp; omega
    have f9 : (op == 9) = false := by simp; omega
    have f10 : (op == 10) = false := by simp; omega
    have f11 : (op == 11) = false := by simp; omega
    have f12 : (op == 12) = false := by simp; omega
    have f13 : (op == 13) = false := by simp; omega
    have hv : valV m n ⟨op, i, e, g, xx, yy⟩ a b = (0, false) := by
      have hq : fitQ m op i e g = false := by
        cases q : fitQ m op i e g with
        | false => rfl
        | true => have := fitQ_13 q; omega
      rw [valV, hq]; rfl
    rw [hv]
    (try conv=>whnf);repeat' (first|(apply And.intro<;>try conv=>whnf)|(intro h;first|with_reducible exact tf h (by assumption)|try conv=>whnf)|fail)
    exact .refl _
end Go.Proofs.Ytkjjoalphllolaa
set_option maxRecDepth 100000
set_option maxHeartbeats 4000000
namespace Go.Proofs.Ytkjjoalphllolaa
open Go Go.Dv

/-- The places of a list of N, of what there is already. -/
def arrG (N : Nat) (g : Nat × Bool → PV) (acc : List (Nat × Bool)) : List PV := (List.range N).map fun j => g (acc.getD j (0, false))
theorem arrG_len (N : Nat) (g : Nat × Bool → PV) (acc : List (Nat × Bool)) : (arrG N g acc).length = N := by simp [arrG]
theorem arrG_get {N : Nat} {g : Nat × Bool → PV} {acc : List (Nat × Bool)} {j : Nat} (h : j < N) : (arrG N g acc)[j]? = some (g (acc.getD j (0, false))) := by
  simp [arrG, List.getElem?_map, List.getElem?_range h]
theorem getD_snoc {acc : List (Nat × Bool)} {v : Nat × Bool} {j : Nat} : (acc ++ [v]).getD j (0, false) = if j = acc.length then v else acc.getD j (0, false) := by
  rw [List.getD_eq_getElem?_getD, List.getD_eq_getElem?_getD]
  by_cases h : j = acc.length
  · subst h; simp
  · rw [if_neg h]
    by_cases q : j < acc.length
    · rw [List.getElem?_append_left q]
    · rw [List.getElem?_eq_none (by simp; omega), List.getElem?_eq_none (by omega)]
theorem arrG_set {N : Nat} {g : Nat × Bool → PV} {acc : List (Nat × Bool)} {v : Nat × Bool} {i : Nat} (hi : i < N) (hl : acc.length = i) : (arrG N g acc).set i (g v) = arrG N g (acc ++ [v]) := by
  apply List.ext_getElem?
  intro j
  rw [List.getElem?_set, arrG_len]
  by_cases hj : j < N
  · rw [arrG_get hj, arrG_get hj, getD_snoc, hl]
    by_cases e : i = j
    · subst e; simp [hi]
    · rw [if_neg e, if_neg (fun h => e h.symm)]
  · rw [List.getElem?_eq_none (by rw [arrG_len]; omega), List.getElem?_eq_none (by rw [arrG_len]; omega)]
    rw [if_neg (show ¬ i = j by omega)]
theorem arrG_skip {N : Nat} {g : Nat × Bool → PV} {acc : List (Nat × Bool)} : arrG N g (acc ++ [(0, false)]) = arrG N g acc := by
  apply List.map_congr_left
  intro j _
  rw [getD_snoc]
  split
  · rename_i h
    rw [List.getD_eq_getElem?_getD, List.getElem?_eq_none (by omega)]; rfl
  · rfl
theorem arrG_nil (N : Nat) (g : Nat × Bool → PV) : arrG N g [] = List.replicate N (g (0, false)) := by
  apply List.ext_getElem (by simp [arrG])
  intro i h1 h2
  simp [arrG]
theorem arrG_full {N : Nat} {g : Nat × Bool → PV} {acc : List (Nat × Bool)} (h : acc.length = N) : arrG N g acc = acc.map g := by subst h; exact map_getD rfl
def gS (v : Nat × Bool) : PV := u64 v.1
def gF (v : Nat × Bool) : PV := .bool v.2
def setsI (m : Mo) (f : List Nd) : List Nat × Int := bif reqI m f != 0 then ([], reqI m f) else ((setsV m m.n.toNat f).map (·.1), 0)
def setsPV (x : List Nat × Int) : PV := .tup [rowPV x.1, .int .i64 x.2]
theorem setsV_lt {m : Mo} {n : Nat} (hM : OkM m n) (f : List Nd) : ∀ v, v ∈ setsV m n f → v.1 < 2 ^ n := by
  have key : ∀ (l : List Nd) (acc : List (Nat × Bool)), (∀ v, v ∈ acc → v.1 < 2 ^ n) → ∀ v, v ∈ l.foldl (fun acc x => acc ++ [nodeV m n acc x]) acc → v.1 < 2 ^ n := by
    intro l
    induction l with
    | nil => intro acc h; exact h
    | cons x r ih =>
      intro acc h
      refine ih _ fun v hv => ?_
      rcases List.mem_append.1 hv with hv | hv
      · exact h v hv
      · rw [List.mem_singleton.1 hv]
        have hg : ∀ j, (acc.getD j (0, false)).1 < 2 ^ n := fun j => by
          rw [List.getD_eq_getElem?_getD]
          cases hq : acc[j]? with
          | none => exact Nat.two_pow_pos n
          | some w => exact h w (List.mem_iff_getElem?.2 ⟨j, hq⟩)
        unfold nodeV
        cases okV acc x with
        | false => exact Nat.two_pow_pos n
        | true =>
          show (valV m n x _ _).1 < 2 ^ n
          unfold valV
          cases fitQ m x.op x.i x.e x.g with
          | false => exact Nat.two_pow_pos n
          | true => exact vlN_lt hM.vbits (hg _) (hg _)
  exact key f [] (by simp)
theorem ck_Sets (m : Mo) (f : List Nd) (hf : FitM m) : PureFn Try.prog 50 [m.pv, fpv f] (setsPV (setsI m f)) := by
  refine PureFn.introC [4, 6, 12, 14, 16] mixed (fn := Try.f50) rfl rfl rfl fun M w0 => ?_
  have hR := ck_request m f hf
  try conv=>whnf
  refine ⟨{ _x : Unit // (reqI m f != 0) = false }, fun _ => [(1, .pv (fpv f)), (2, .ref 0 0)], fun _ => 1, fun _ => HM m, ?_, ?_⟩
  · (try conv=>whnf);repeat' (first|(apply And.intro<;>try conv=>whnf)|(intro h;try conv=>whnf)|(refine PureFn.dy hR rfl ?_;try conv=>whnf)|fail)
    · rw [setsI, h]; exact PLe.tups ⟨.nil, .refl _, trivial⟩
    · exact ⟨⟨(), h⟩, (by refine Wk.of ?_ ?_ rfl rfl rfl<;>repeat' (first|exact trivial|exact WkD.same _|exact WkO.same _ _ rfl|refine ⟨?_, ?_⟩|fail))⟩
  rintro ⟨_, h0⟩
  obtain ⟨⟨n, hM⟩, hst⟩ := reqI_ok (show reqI m f = 0 by simpa using h0)
  have hch := (statM_iff.1 hst).1
  have hok := check_okl hch
  have hfl : f.length ≤ 200 := (check_ok hch).2.1
  have hres : setsI m f = ((setsV m n f).map (·.1), 0) := by rw [setsI, h0, hM.nn, Int.toNat_natCast]; rfl
  rw [hres]
  clear hres
  have hN : ((f.map Nd.pv).length : Int).toNat = f.length := by rw [List.length_map]; rfl
  have hz1 : List.replicate ((f.map Nd.pv).length : Int).toNat (PV.int .u64 0) = arrG f.length gS [] := by rw [arrG_nil, hN]; rfl
  have hz2 : List.replicate ((f.map Nd.pv).length : Int).toNat (PV.bool false) = arrG f.length gF [] := by rw [arrG_nil, hN]; rfl
  have hbig : ((f.map Nd.pv).length : Int) ≤ (big : Int) := by
    show ((f.map Nd.pv).length : Int) ≤ 4294967296
    rw [List.length_map]; omega
  (try conv=>whnf);repeat' (first|(apply And.intro<;>try conv=>whnf)|(apply Or.inl;try conv=>whnf)|fail)
  · rfl
  · exact Int.natCast_nonneg _
  · exact hbig
  refine ⟨Unit, fun _ => [(1, .pv (fpv f)), (2, .ref 0 0), (7, .buf 1 (arrG f.length gS []).length), (8, .buf 2 (arrG f.length gF []).length)], fun _ => 3, fun _ => [(0, .var (cellsM m)), (1, .arr 1 (arrG f.length gS [])), (2, .arr 1 (arrG f.length gF []))], ?_, ?_⟩
  · (try conv=>whnf);repeat' (first|(apply And.intro<;>try conv=>whnf)|(apply Or.inl;try conv=>whnf)|fail)
    · rfl
    · exact Int.natCast_nonneg _
    · exact hbig
    refine ⟨(), ?_⟩
    (refine Wk.of ?_ ?_ rfl rfl rfl<;>repeat' (first|exact trivial|exact WkD.same _|exact WkO.same _ _ rfl|refine ⟨?_, ?_⟩|fail))
    · exact WkD.eq (congrArg (fun z : List PV => DV.buf 1 z.length) hz1)
    · exact WkD.eq (congrArg (fun z : List PV => DV.buf 2 z.length) hz2)
    · exact WkO.same _ _ (congrArg (fun z => some (DObj.arr 1 z)) hz1)
    · exact WkO.same _ _ (congrArg (fun z => some (DObj.arr 1 z)) hz2)
  rintro ⟨⟩
  try conv=>whnf
  have hvl := setsV_lt hM
  refine ⟨{ i : Nat // i ≤ f.length }, fun i => [(2, .ref 0 0), (7, .buf 1 (arrG f.length gS (setsV m n (f.take i.1))).length), (8, .buf 2 (arrG f.length gF (setsV m n (f.take i.1))).length), (24, .pv (fpv f)), (25, .pv (i64 (f.map Nd.pv).length)), (26, .pv (i64 i.1))], fun _ => 3, fun i => [(0, .var (cellsM m)), (1, .arr 1 (arrG f.length gS (setsV m n (f.take i.1)))), (2, .arr 1 (arrG f.length gF (setsV m n (f.take i.1))))], fun i => f.length - i.1, ⟨⟨0, Nat.zero_le _⟩, (by refine Wk.of ?_ ?_ rfl rfl rfl<;>repeat' (first|exact trivial|exact WkD.same _|exact WkO.same _ _ rfl|refine ⟨?_, ?_⟩|fail))⟩, ?_⟩
  rintro ⟨i, hi⟩
  have hA2 := fun (h : i < f.length) => setsV_take (m := m) (n := n) h
  have hAl := setsV_len (m := m) (n := n) (f := f) i hi
  have hAb : ∀ j, ((setsV m n (f.take i)).getD j (0, false)).1 < 2 ^ n := fun j => by
    rw [List.getD_eq_getElem?_getD]
    cases hq : (setsV m n (f.take i))[j]? with
    | none => exact Nat.two_pow_pos n
    | some w => exact setsV_lt hM _ w (List.mem_iff_getElem?.2 ⟨j, hq⟩)
  have hfin : setsV m n f = setsV m n (f.take f.length) := by rw [List.take_length]
  (try conv=>whnf);repeat' (first|(apply And.intro<;>try conv=>whnf)|(intro h;try conv=>whnf)|(apply bleI;rfl)|fail)
  · have hi' : i < f.length := by simpa using lt_dec h
    have hx : f[i]? = some f[i] := List.getElem?_eq_getElem hi'
    have hk := hok i _ hx
    have hA3 := hA2 hi'
    clear hA2
    refine ⟨Unit, fun _ => [(2, .ref 0 0), (7, .buf 1 (arrG f.length gS (setsV m n (f.take (i + 1)))).length), (8, .buf 2 (arrG f.length gF (setsV m n (f.take (i + 1)))).length), (24, .pv (fpv f)), (25, .pv (i64 (f.map Nd.pv).length)), (26, .pv (i64 i))], fun _ => 3, fun _ => [(0, .var (cellsM m)), (1, .arr 1 (arrG f.length gS (setsV m n (f.take (i + 1))))), (2, .arr 1 (arrG f.length gF (setsV m n (f.take (i + 1)))))], ?_, ?_⟩
    · rw [hA3]
      clear hA3
      generalize f[i] = x at hx hk ⊢
      obtain ⟨op, io, eo, g, xx, yy⟩ := x
      obtain ⟨X, rfl, hXi⟩ : ∃ X : Nat, xx = X ∧ X < f.length := by
        cases hu : usesX op with
        | true => have := hk.x hu; simp only at this; exact ⟨xx.toNat, by omega, by omega⟩
        | false => have := hk.nox hu; simp only at this; exact ⟨0, this, by omega⟩
      obtain ⟨Y, rfl, hYi⟩ : ∃ Y : Nat, yy = Y ∧ Y < f.length := by
        cases hu : usesY op with
        | true => have := hk.y hu; simp only at this; exact ⟨yy.toNat, by omega, by omega⟩
        | false => have := hk.noy hu; simp only at this; exact ⟨0, this, by omega⟩
      (try conv=>whnf);repeat' (first|(apply And.intro<;>try conv=>whnf)|(apply infoT;rfl)|(refine ⟨_, _, rfl, idx_map (by with_reducible assumption), rfl, ?_⟩;try conv=>whnf)|fail)
      refine ⟨Unit, fun _ => [(2, .ref 0 0), (7, .buf 1 (arrG f.length gS (setsV m n (f.take i))).length), (8, .buf 2 (arrG f.length gF (setsV m n (f.take i))).length), (9, .pv (i64 i)), (10, .ref 3 0), (11, .pv (.bool (bif decide (op ≥ 4) then ((setsV m n (f.take i)).getD X (0, false)).2 else true))), (24, .pv (fpv f)), (25, .pv (i64 (f.map Nd.pv).length)), (26, .pv (i64 i))], fun _ => 4, fun _ => [(0, .var (cellsM m)), (1, .arr 1 (arrG f.length gS (setsV m n (f.take i)))), (2, .arr 1 (arrG f.length gF (setsV m n (f.take i)))), (3, .var (cellsN op io eo g X Y))], ?_, ?_⟩
      · (try conv=>whnf);repeat' (first|(apply And.intro<;>try conv=>whnf)|(intro h;try conv=>whnf)|fail)
        · rw [show decide (op ≥ 4) = true from h]
          refine ⟨X, rfl, by rw [arrG_len]; exact hXi, ?_⟩
          (try conv=>whnf);repeat' (first|(apply And.intro<;>try conv=>whnf)|fail)
          refine ⟨_, arrG_get hXi, ?_⟩
          try conv=>whnf
          exact ⟨(), (by refine Wk.of ?_ ?_ rfl rfl rfl<;>repeat' (first|exact trivial|exact WkD.same _|exact WkO.same _ _ rfl|refine ⟨?_, ?_⟩|fail))⟩
        · rw [show decide (op ≥ 4) = false from h]
          exact ⟨(), (by refine Wk.of ?_ ?_ rfl rfl rfl<;>repeat' (first|exact trivial|exact WkD.same _|exact WkO.same _ _ rfl|refine ⟨?_, ?_⟩|fail))⟩
      rintro ⟨⟩
      refine ⟨Unit, fun _ => [(2, .ref 0 0), (7, .buf 1 (arrG f.length gS (setsV m n (f.take i))).length), (8, .buf 2 (arrG f.length gF (setsV m n (f.take i))).length), (9, .pv (i64 i)), (10, .ref 3 0), (11, .pv (.bool (okV (setsV m n (f.take i)) ⟨op, io, eo, g, X, Y⟩))), (24, .pv (fpv f)), (25, .pv (i64 (f.map Nd.pv).length)), (26, .pv (i64 i))], fun _ => 4, fun _ => [(0, .var (cellsM m)), (1, .arr 1 (arrG f.length gS (setsV m n (f.take i)))), (2, .arr 1 (arrG f.length gF (setsV m n (f.take i)))), (3, .var (cellsN op io eo g X Y))], ?_, ?_⟩
      · have hokv : okV (setsV m n (f.take i)) ⟨op, io, eo, g, X, Y⟩ = bif usY op then (bif (bif decide (op ≥ 4) then ((setsV m n (f.take i)).getD X (0, false)).2 else true) then ((setsV m n (f.take i)).getD Y (0, false)).2 else false) else (bif decide (op ≥ 4) then ((setsV m n (f.take i)).getD X (0, false)).2 else true) := rfl
        rw [hokv]
        generalize (bif decide (op ≥ 4) then ((setsV m n (f.take i)).getD X (0, false)).2 else true) = c1
        (try conv=>whnf);repeat' (first|(apply And.intro<;>try conv=>whnf)|(intro h;try conv=>whnf)|apply True.intro|(apply WhenQ.mk;(try conv=>whnf);rotate_left;(try conv=>whnf);rotate_right)|with_reducible assumption|(apply not_of;with_reducible assumption)|fail)
        · refine ⟨Y, rfl, by rw [arrG_len]; exact hYi, ?_⟩
          (try conv=>whnf);repeat' (first|(apply And.intro<;>try conv=>whnf)|fail)
        · (try conv=>whnf);repeat' (first|(apply And.intro<;>try conv=>whnf)|fail)
          refine ⟨_, arrG_get hYi, ?_⟩
          (try conv=>whnf);repeat' (first|(apply And.intro<;>try conv=>whnf)|fail)
        · (try conv=>whnf);repeat' (first|(apply And.intro<;>try conv=>whnf)|(intro h;try conv=>whnf)|with_reducible assumption|fail)
          rw [show usY op = true from h]
          exact ⟨(), (by refine Wk.of ?_ ?_ rfl rfl rfl<;>repeat' (first|exact trivial|exact WkD.same _|exact WkO.same _ _ rfl|refine ⟨?_, ?_⟩|fail))⟩
        · rw [show usY op = false from h]
          exact ⟨(), (by refine Wk.of ?_ ?_ rfl rfl rfl<;>repeat' (first|exact trivial|exact WkD.same _|exact WkO.same _ _ rfl|refine ⟨?_, ?_⟩|fail))⟩
      rintro ⟨⟩
      have hnv : nodeV m n (setsV m n (f.take i)) ⟨op, io, eo, g, X, Y⟩ = bif okV (setsV m n (f.take i)) ⟨op, io, eo, g, X, Y⟩ then valV m n ⟨op, io, eo, g, X, Y⟩ ((setsV m n (f.take i)).getD X (0, false)).1 ((setsV m n (f.take i)).getD Y (0, false)).1 else (0, false) := rfl
      have hV := ck_value m n hM ⟨op, io, eo, g, X, Y⟩ i hk _ _ (hAb X) (hAb Y)
      rw [hnv]
      generalize okV (setsV m n (f.take i)) ⟨op, io, eo, g, X, Y⟩ = c2
      (try conv=>whnf);repeat' (first|(apply And.intro<;>try conv=>whnf)|(intro h;try conv=>whnf)|fail)
      · rw [show c2 = true from h, cond_true]
        have hs1 := arrG_set (g := gS) (v := valV m n ⟨op, io, eo, g, X, Y⟩ ((setsV m n (f.take i)).getD X (0, false)).1 ((setsV m n (f.take i)).getD Y (0, false)).1) hi' hAl
        have hs2 := arrG_set (g := gF) (v := valV m n ⟨op, io, eo, g, X, Y⟩ ((setsV m n (f.take i)).getD X (0, false)).1 ((setsV m n (f.take i)).getD Y (0, false)).1) hi' hAl
        have hll := fun (g : Nat × Bool → PV) (B : List (Nat × Bool)) => (arrG_len f.length g (setsV m n (f.take i))).trans (arrG_len f.length g B).symm
        refine ⟨Plan.lin 0 24, [21, 23], by kernel_rfl, ?_⟩
        (try conv=>whnf);repeat' (first|(apply And.intro<;>try conv=>whnf)|fail)
        refine ⟨X, rfl, by rw [arrG_len]; exact hXi, ?_⟩
        (try conv=>whnf);repeat' (first|(apply And.intro<;>try conv=>whnf)|fail)
        refine ⟨_, arrG_get hXi, ?_⟩
        (try conv=>whnf);repeat' (first|(apply And.intro<;>try conv=>whnf)|fail)
        refine ⟨Y, rfl, by rw [arrG_len]; exact hYi, ?_⟩
        (try conv=>whnf);repeat' (first|(apply And.intro<;>try conv=>whnf)|fail)
        refine ⟨_, arrG_get hYi, ?_⟩
        (try conv=>whnf);repeat' (first|(apply And.intro<;>try conv=>whnf)|(refine ⟨_, (by (conv=>whnf);exact hV), rfl, ?_⟩;try conv=>whnf)|fail)
        refine ⟨i, rfl, by rw [arrG_len]; exact hi', ?_⟩
        (try conv=>whnf);repeat' (first|(apply And.intro<;>try conv=>whnf)|fail)
        refine ⟨_, arrG_get hi', Nat.le_refl 1, ?_⟩
        (try conv=>whnf);repeat' (first|(apply And.intro<;>try conv=>whnf)|fail)
        refine ⟨i, rfl, by rw [arrG_len]; exact hi', ?_⟩
        (try conv=>whnf);repeat' (first|(apply And.intro<;>try conv=>whnf)|fail)
        refine ⟨_, arrG_get hi', Nat.le_refl 1, ?_⟩
        try conv=>whnf
        refine ⟨(), ?_⟩
        (refine Wk.of ?_ ?_ rfl rfl rfl<;>repeat' (first|exact trivial|exact WkD.same _|exact WkO.same _ _ rfl|refine ⟨?_, ?_⟩|fail))
        · exact WkD.eq (congrArg (DV.buf 1) (hll gS _))
        · exact WkD.eq (congrArg (DV.buf 2) (hll gF _))
        · exact WkO.same _ _ (congrArg (fun z => some (DObj.arr 1 z)) hs1)
        · exact WkO.same _ _ (congrArg (fun z => some (DObj.arr 1 z)) hs2)
      · rw [show c2 = false from h, cond_false, arrG_skip, arrG_skip]
        exact ⟨(), (by refine Wk.of ?_ ?_ rfl rfl rfl<;>repeat' (first|exact trivial|exact WkD.same _|exact WkO.same _ _ rfl|refine ⟨?_, ?_⟩|fail))⟩
    rintro ⟨⟩
    try conv=>whnf
    exact ⟨⟨i + 1, hi'⟩, by show f.length - (i + 1) < f.length - i; omega, (by refine Wk.of ?_ ?_ rfl rfl rfl<;>repeat' (first|exact trivial|exact WkD.same _|exact WkO.same _ _ rfl|refine WkD.int ?_|refine ⟨?_, ?_⟩|(refine wrapA ?_ ?_ ?_;(focus simp;done);(focus (try dsimp only);omega);(focus (try dsimp only);omega))|fail))⟩
  · have hi' : i = f.length := by have := ge_dec (m := (f.map Nd.pv).length) h (by simpa using hi); simpa using this
    subst hi'
    rw [hfin]
    refine PLe.tups ⟨?_, .refl _, trivial⟩
    show PLe (.sl (arrG f.length gS (setsV m n (f.take f.length)))) (rowPV ((setsV m n (f.take f.length)).map (·.1)))
    rw [arrG_full hAl, rowPV, List.map_map]
    exact .refl _
end Go.Proofs.Ytkjjoalphllolaa
set_option maxRecDepth 100000
set_option maxHeartbeats 4000000
namespace Go.Proofs.Ytkjjoalphllolaa
open Go Go.Dv

def holdsPV (x : Nat × Int) : PV := .tup [u64 x.1, .int .i64 x.2]
theorem ck_Holds (m : Mo) (f : List Nd) (hf : FitM m) : PureFn Try.prog 20 [m.pv, fpv f] (holdsPV (holdsI m f)) := by
  have hS := ck_Sets m f hf
  cases h0 : (reqI m f != 0) with
  | true =>
    rw [setsI, h0] at hS
    have hS : PureFn Try.prog 50 [m.pv, fpv f] (.tup [rowPV [], .int .i64 (reqI m f)]) := hS
    rw [holdsI, h0]
    refine PureFn.intro mixed (fn := Try.f20) rfl rfl rfl fun M w0 => ?_
    (try conv=>whnf);repeat' (first|(apply And.intro<;>try conv=>whnf)|(intro h;first|with_reducible exact tf (by assumption) h|try conv=>whnf)|(refine PureFn.dy hS rfl ?_;try conv=>whnf)|fail)
    exact .refl _
  | false =>
    obtain ⟨⟨n, hM⟩, hst⟩ := reqI_ok (show reqI m f = 0 by simpa using h0)
    have hch := (statM_iff.1 hst).1
    have hfl : f.length ≤ 200 := (check_ok hch).2.1
    have hp : 1 ≤ f.length := (check_ok hch).1
    have hlen : (setsV m n f).length = f.length := by have := setsV_len (m := m) (n := n) (f := f) f.length (Nat.le_refl _); rwa [List.take_length] at this
    obtain ⟨v, hv, hv1⟩ := last_V (n := n) hM.ag hst
    rw [setsI, h0, hM.nn, Int.toNat_natCast] at hS
    rw [holdsI, h0, hM.nn, Int.toNat_natCast, ← hv1]
    have hl2 : (((setsV m n f).map (·.1)).length : Int) = (f.length : Int) := by rw [List.length_map, hlen]
    have hidx : ((setsV m n f).map (·.1))[f.length - 1]? = some v.1 := idx_map hv
    have hS : PureFn Try.prog 50 [m.pv, fpv f] (.tup [rowPV ((setsV m n f).map (·.1)), .int .i64 0]) := hS
    generalize (setsV m n f).map (·.1) = L at hS hl2 hidx
    have hl3 : ((L.map u64).length : Int) = (f.length : Int) := by rw [List.length_map]; exact hl2
    refine PureFn.intro mixed (fn := Try.f20) rfl rfl rfl fun M w0 => ?_
    (try conv=>whnf);repeat' (first|(apply And.intro<;>try conv=>whnf)|(intro h;try conv=>whnf)|(apply infoT;rfl)|(refine PureFn.dy hS rfl ?_;try conv=>whnf)|fail)
    · cases h
    refine ⟨f.length - 1, _, ?_, idx_map hidx, rfl, ?_⟩
    · show IntKind.wrap .i64 (((L.map u64).length : Int) - 1) = ((f.length - 1 : Nat) : Int)
      rw [hl3, Go.Dv.wrap_small (by omega) (by omega)]; omega
    try conv=>whnf
    exact .refl _
def validI (m : Mo) (f : List Nd) : Bool × Int := (bif (holdsI m f).2 == 0 then (holdsI m f).1 == 2 ^ m.n.toNat - 1 else false, (holdsI m f).2)
end Go.Proofs.Ytkjjoalphllolaa
set_option maxRecDepth 100000
set_option maxHeartbeats 4000000
namespace Go.Proofs.Ytkjjoalphllolaa
open Go Go.Dv

def HMA (m : Mo) (a : Act) : List (Nat × DObj) := [(0, .var (cellsM m)), (1, .var (cellsA a))]
theorem pr_Worlds (m : Mo) (a : Act) (hf : FitM m) (hfa : Fit a) (hl : a.rel.length ≤ 1000) (hp : ∀ l, l ∈ a.post → l.length ≤ 1000) : PureFn Try.prog 35 [m.pv, a.pv] (worldsPV (worldsI m a)) := by
  refine PureFn.introC [4, 7, 8, 16, 26] mixed (fn := Try.f35) rfl rfl rfl fun M w0 => ?_
  have hC := md_Check m hf
  have hK := ac_Check a (m.rel.length : Nat) (m.val.length : Nat) hfa hl hp
  rw [show PV.int .i64 ((m.rel.length : Nat) : Int) = .int .i64 ((m.rel.map rowPV).length : Nat) by rw [List.length_map], show PV.int .i64 ((m.val.length : Nat) : Int) = .int .i64 ((m.val.map u64).length : Nat) by rw [List.length_map]] at hK
  try conv=>whnf
  refine ⟨{ _x : Unit // (moI m != 0) = false }, fun _ => [(2, .ref 0 0), (3, .ref 1 0)], fun _ => 2, fun _ => HMA m a, ?_, ?_⟩
  · (try conv=>whnf);repeat' (first|(apply And.intro<;>try conv=>whnf)|(intro h;try conv=>whnf)|(refine PureFn.dy hC rfl ?_;try conv=>whnf)|fail)
    · have h9 : moaI m a = moI m := by rw [moaI, h]; rfl
      rw [worldsI, h9, h]
      exact le_worlds _
    · exact ⟨⟨(), h⟩, (by refine Wk.of ?_ ?_ rfl rfl rfl<;>repeat' (first|exact trivial|exact WkD.same _|exact WkO.same _ _ rfl|refine ⟨?_, ?_⟩|fail))⟩
  rintro ⟨_, h1⟩
  have hmo : moaI m a = actI a (m.rel.length : Int) (m.val.length : Int) := by rw [moaI, h1]; rfl
  refine ⟨{ _x : Unit // (moaI m a != 0) = false }, fun _ => [(2, .ref 0 0), (3, .ref 1 0)], fun _ => 2, fun _ => HMA m a, ?_, ?_⟩
  · (try conv=>whnf);repeat' (first|(apply And.intro<;>try conv=>whnf)|(intro h;try conv=>whnf)|(refine PureFn.dy hK rfl ?_;try conv=>whnf)|fail)
    · have h9 : (moaI m a != 0) = true := by rw [hmo]; exact h
      rw [worldsI, h9, hmo]
      exact le_worlds _
    · exact ⟨⟨(), by rw [hmo]; exact h⟩, (by refine Wk.of ?_ ?_ rfl rfl rfl<;>repeat' (first|exact trivial|exact WkD.same _|exact WkO.same _ _ rfl|refine ⟨?_, ?_⟩|fail))⟩
  rintro ⟨_, h2⟩
  have h20 : moaI m a = 0 := by simpa using h2
  obtain ⟨⟨n, hM⟩, hAc⟩ := moaI_ok h20
  have hO := actI_ok hAc
  have hn8 := hO.n8
  have hn1 := hO.n1
  have hn64 := hM.n64
  have hres : worldsI m a = bif ((pairsL m a).length : Int) == 0 then ([], 11) else (pairsL m a, 0) := by rw [worldsI, h2]; rfl
  have hpl : pairsL m a = pairsW (possP m a) a.pre.length n := by rw [pairsL, hM.nn]; rfl
  rw [hres, hpl]
  clear hres hpl
  have hph := fun (e : Nat) (he : e < a.pre.length) => pre_holds h20 he
  rw [hM.nn, Int.toNat_natCast] at hph
  generalize hpe : possP m a = p at hph ⊢
  have hN : ((a.pre.map fpv).length : Int).toNat = a.pre.length := by rw [List.length_map]; rfl
  have hz1 : List.replicate ((a.pre.map fpv).length : Int).toNat (PV.int .u64 0) = mixV a.pre.length (fun e => u64 (p e)) (fun _ => u64 0) 0 := by rw [hN]; exact mixV_rep _ _ _
  have hbig : ((a.pre.map fpv).length : Int) ≤ (big : Int) := by
    show ((a.pre.map fpv).length : Int) ≤ 4294967296
    rw [List.length_map]; omega
  have hml := mixV_len a.pre.length (fun e => u64 (p e)) (fun _ => u64 0)
  refine ⟨Unit, fun _ => [(2, .ref 0 0), (3, .ref 1 0), (8, .buf 2 (mixV a.pre.length (fun e => u64 (p e)) (fun _ => u64 0) 0).length)], fun _ => 3, fun _ => [(0, .var (cellsM m)), (1, .var (cellsA a)), (2, .arr 1 (mixV a.pre.length (fun e => u64 (p e)) (fun _ => u64 0) 0))], ?_, ?_⟩
  · (try conv=>whnf);repeat' (first|(apply And.intro<;>try conv=>whnf)|(apply Or.inl;try conv=>whnf)|fail)
    · rfl
    · exact Int.natCast_nonneg _
    · exact hbig
    refine ⟨(), ?_⟩
    (refine Wk.of ?_ ?_ rfl rfl rfl<;>repeat' (first|exact trivial|exact WkD.same _|exact WkO.same _ _ rfl|refine ⟨?_, ?_⟩|fail))
    · exact WkD.eq (congrArg (fun z : List PV => DV.buf 2 z.length) hz1)
    · exact WkO.same _ _ (congrArg (fun z => some (DObj.arr 1 z)) hz1)
  rintro ⟨⟩
  clear hz1 hN hbig
  refine ⟨Unit, fun _ => [(2, .ref 0 0), (8, .pv (.sl (mixV a.pre.length (fun e => u64 (p e)) (fun _ => u64 0) a.pre.length)))], fun _ => 3, fun _ => [(0, .var (cellsM m))], ?_, ?_⟩
  · try conv=>whnf
    refine ⟨{ i : Nat // i ≤ a.pre.length }, fun i => [(2, .ref 0 0), (3, .ref 1 0), (8, .buf 2 (mixV a.pre.length (fun e => u64 (p e)) (fun _ => u64 0) i.1).length), (38, .pv (.sl (a.pre.map fpv))), (39, .pv (i64 (a.pre.map fpv).length)), (40, .pv (i64 i.1))], fun _ => 3, fun i => [(0, .var (cellsM m)), (1, .var (cellsA a)), (2, .arr 1 (mixV a.pre.length (fun e => u64 (p e)) (fun _ => u64 0) i.1))], fun i => a.pre.length - i.1, ⟨⟨0, Nat.zero_le _⟩, (by refine Wk.of ?_ ?_ rfl rfl rfl<;>repeat' (first|exact trivial|exact WkD.same _|exact WkO.same _ _ rfl|refine ⟨?_, ?_⟩|fail))⟩, ?_⟩
    rintro ⟨i, hi⟩
    have hmi := hml i
    have hmi1 := hml (i + 1)
    (try conv=>whnf);repeat' (first|(apply And.intro<;>try conv=>whnf)|(intro h;try conv=>whnf)|(apply infoT;rfl)|fail)
    · have hi' : i < a.pre.length := by simpa using lt_dec h
      obtain ⟨f, hn, hw⟩ : ∃ f, a.pre[i]? = some f ∧ a.pre.getD i [] = f := ⟨_, getD_mem hi', rfl⟩
      obtain ⟨hh, hlt⟩ := hph i hi'
      have hH := ck_Holds m f hf
      rw [hw] at hh
      rw [hh] at hH
      have hst := mixV_set (n := a.pre.length) (p := fun e => u64 (p e)) (q := fun _ => u64 0) (e := i)
      refine ⟨_, _, rfl, idx_map hn, rfl, ?_⟩
      (try conv=>whnf);repeat' (first|(apply And.intro<;>try conv=>whnf)|(intro h;try conv=>whnf)|(refine PureFn.dy hH rfl ?_;try conv=>whnf)|fail)
      · cases h
      refine ⟨i, rfl, by rw [hmi]; exact hi', ?_⟩
      (try conv=>whnf);repeat' (first|(apply And.intro<;>try conv=>whnf)|fail)
      refine ⟨_, mixV_old hi', Nat.le_refl 1, ?_⟩
      try conv=>whnf
      refine ⟨⟨i + 1, hi'⟩, by show a.pre.length - (i + 1) < a.pre.length - i; omega, ?_⟩
      (refine Wk.of ?_ ?_ rfl rfl rfl<;>repeat' (first|exact trivial|exact WkD.same _|exact WkO.same _ _ rfl|refine WkD.int ?_|refine ⟨?_, ?_⟩|(refine wrapA ?_ ?_ ?_;(focus simp;done);(focus (try dsimp only);omega);(focus (try dsimp only);omega))|fail))
      · exact WkD.eq (congrArg (DV.buf 2) (hmi.trans hmi1.symm))
      · exact WkO.same _ _ (congrArg (fun z => some (DObj.arr 1 z)) hst)
    · have hi' : i = a.pre.length := by have := ge_dec (m := (a.pre.map fpv).length) h (by simpa using hi); simpa using this
      subst hi'
      exact ⟨(), (by refine Wk.of ?_ ?_ rfl rfl rfl<;>repeat' (first|exact trivial|exact WkD.same _|exact WkO.same _ _ rfl|exact WkD.fz _ _ _ rfl (Or.inl ⟨_, rfl⟩) rfl|refine ⟨?_, ?_⟩|fail))⟩
  rintro ⟨⟩
  have hPl : ∀ w e, w ≤ n → e ≤ a.pre.length → ((pairsB p a.pre.length w e).map pairPV).length ≤ 1000 := fun w e hw he => by
    have h1 := pairsW_len p a.pre.length w
    have h2 := pairsE_len p w e
    have h3 : w * a.pre.length ≤ 64 * 8 := Nat.mul_le_mul (by omega) hn8
    rw [List.length_map, pairsB, List.length_append]; omega
  have hmN := hml a.pre.length
  have hmnn := hM.nn
  try conv=>whnf
  refine ⟨Unit, fun _ => [(13, .pv (.sl ((pairsB p a.pre.length n 0).map pairPV)))], fun _ => 4, fun _ => [], ?_, ?_⟩
  · try conv=>whnf
    refine ⟨{ w : Nat // w ≤ n }, fun w => [(2, .ref 0 0), (8, .pv (.sl (mixV a.pre.length (fun e => u64 (p e)) (fun _ => u64 0) a.pre.length))), (13, .buf 3 ((pairsB p a.pre.length w.1 0).map pairPV).length), (14, .pv (i64 w.1))], fun _ => 4, fun w => [(0, .var (cellsM m)), (3, .arr 2 ((pairsB p a.pre.length w.1 0).map pairPV))], fun w => n - w.1, ⟨⟨0, Nat.zero_le _⟩, (by refine Wk.of ?_ ?_ rfl rfl rfl<;>repeat' (first|exact trivial|exact WkD.same _|exact WkO.same _ _ rfl|exact WkD.new' rfl rfl rfl|exact WkO.new _ _ rfl|exact rfl|refine ⟨?_, ?_⟩|fail))⟩, ?_⟩
    rintro ⟨w, hw⟩
    try conv=>whnf
    refine ⟨{ e : Nat // e ≤ a.pre.length ∧ (w = n → e = 0) }, fun e => [(2, .ref 0 0), (8, .pv (.sl (mixV a.pre.length (fun e => u64 (p e)) (fun _ => u64 0) a.pre.length))), (13, .buf 3 ((pairsB p a.pre.length w e.1).map pairPV).length), (14, .pv (i64 w)), (61, .pv (.sl (mixV a.pre.length (fun e => u64 (p e)) (fun _ => u64 0) a.pre.length))), (62, .pv (i64 (mixV a.pre.length (fun e => u64 (p e)) (fun _ => u64 0) a.pre.length).length)), (63, .pv (i64 e.1))], fun _ => 4, fun e => [(0, .var (cellsM m)), (3, .arr 2 ((pairsB p a.pre.length w e.1).map pairPV))], fun e => a.pre.length - e.1, ⟨⟨0, Nat.zero_le _, fun _ => rfl⟩, (by refine Wk.of ?_ ?_ rfl rfl rfl<;>repeat' (first|exact trivial|exact WkD.same _|exact WkO.same _ _ rfl|refine ⟨?_, ?_⟩|fail))⟩, ?_⟩
    rintro ⟨e, he, hwe⟩
    have hple := hPl w e hw he
    (try conv=>whnf);repeat' (first|(apply And.intro<;>try conv=>whnf)|(intro h;try conv=>whnf)|(apply infoT;rfl)|fail)
    · have he' : e < a.pre.length := by have := lt_dec h; rwa [hmN] at this
      obtain ⟨_, hlt⟩ := hph e he'
      have h64 : p e < 2 ^ 64 := Nat.lt_of_lt_of_le hlt (pow64_le hn64)
      have hsu := pairsB_succ p a.pre.length w e
      refine ⟨e, _, rfl, mixV_new he' he', rfl, ?_⟩
      have hb0 : w ≠ n → (andU (shrU (p e) w) 1 == 0) = !(p e).testBit w := fun hwn => bit_zero h64 (by omega)
      (try conv=>whnf);repeat' (first|(apply And.intro<;>try conv=>whnf)|(intro h;try conv=>whnf)|(apply cellsI;rfl)|(apply szI;rfl)|(apply Or.inl;try conv=>whnf)|fail)
      · have hwn : w = n := by
          have : (w : Int) = m.n := by simpa using h
          omega
        subst hwn
        obtain rfl : e = 0 := hwe rfl
        exact ⟨(), (by refine Wk.of ?_ ?_ rfl rfl rfl<;>repeat' (first|exact trivial|exact WkD.fz _ _ _ rfl (Or.inl ⟨_, rfl⟩) rfl|refine ⟨?_, ?_⟩|fail))⟩
      · exact Int.natCast_nonneg _
      · rename_i hw9
        have hwn : w ≠ n := fun e => by
          have : ¬ (w : Int) = m.n := by simpa using hw9
          omega
        have ht : (p e).testBit w = false := by
          have : (!(p e).testBit w) = true := by rw [← hb0 hwn]; exact h
          simpa using this
        rw [ht, cond_false] at hsu
        refine ⟨⟨e + 1, he', fun q => absurd q hwn⟩, by show a.pre.length - (e + 1) < a.pre.length - e; omega, ?_⟩
        (refine Wk.of ?_ ?_ rfl rfl rfl<;>repeat' (first|exact trivial|exact WkD.same _|exact WkO.same _ _ rfl|refine WkD.int ?_|refine ⟨?_, ?_⟩|(refine wrapA ?_ ?_ ?_;(focus simp;done);(focus (try dsimp only);omega);(focus (try dsimp only);omega))|fail))
        · exact WkD.eq (congrArg (fun l : List (Nat × Nat) => DV.buf 3 (l.map pairPV).length) hsu.symm)
        · exact WkO.same _ _ (congrArg (fun l : List (Nat × Nat) => some (DObj.arr 2 (l.map pairPV))) hsu.symm)
      · exact app_big (n := 1000) hple (by decide)
      · rename_i hw9
        have hwn : w ≠ n := fun e => by
          have : ¬ (w : Int) = m.n := by simpa using hw9
          omega
        have ht : (p e).testBit w = true := by
          have : (!(p e).testBit w) = false := by rw [← hb0 hwn]; exact h
          simpa using this
        rw [ht, cond_true] at hsu
        have er : (pairsB p a.pre.length w e).map pairPV ++ [.agg [.int .i64 (w : Int), .int .i64 (e : Int)]] = (pairsB p a.pre.length w (e + 1)).map pairPV := by rw [hsu, List.map_append]; rfl
        refine ⟨⟨e + 1, he', fun q => absurd q hwn⟩, by show a.pre.length - (e + 1) < a.pre.length - e; omega, ?_⟩
        (refine Wk.of ?_ ?_ rfl rfl rfl<;>repeat' (first|exact trivial|exact WkD.same _|exact WkO.same _ _ rfl|exact WkD.eq (congrArg (fun z : List PV => DV.buf _ z.length) er)|exact WkO.same _ _ (congrArg (fun z => some (DObj.arr _ z)) er)|refine WkD.int ?_|refine ⟨?_, ?_⟩|(refine wrapA ?_ ?_ ?_;(focus simp;done);(focus (try dsimp only);omega);(focus (try dsimp only);omega))|fail))
    · have he' : e = a.pre.length := by have := ge_dec h (by rw [hmN]; exact he); rwa [hmN] at this
      have hwn : w < n := by
        rcases Nat.lt_or_ge w n with q | q
        · exact q
        · have := hwe (by omega); omega
      subst he'
      have hew : pairsB p a.pre.length w a.pre.length = pairsB p a.pre.length (w + 1) 0 := by rw [pairsB_full, pairsB_zero]
      try conv=>whnf
      refine ⟨⟨w + 1, hwn⟩, by show n - (w + 1) < n - w; omega, ?_⟩
      (refine Wk.of ?_ ?_ rfl rfl rfl<;>repeat' (first|exact trivial|exact WkD.same _|exact WkO.same _ _ rfl|refine WkD.int ?_|refine ⟨?_, ?_⟩|(refine wrapA ?_ ?_ ?_;(focus simp;done);(focus (try dsimp only);omega);(focus (try dsimp only);omega))|fail))
      · exact WkD.eq (congrArg (fun l : List (Nat × Nat) => DV.buf 3 (l.map pairPV).length) hew)
      · exact WkO.same _ _ (congrArg (fun l : List (Nat × Nat) => some (DObj.arr 2 (l.map pairPV))) hew)
  rintro ⟨⟩
  rw [← pairsB_zero]
  generalize pairsB p a.pre.length n 0 = L
  have e9 : ((L.map pairPV).length : Int) = (L.length : Int) := by simp
  (try conv=>whnf);repeat' (first|(apply And.intro<;>try conv=>whnf)|(intro h;try conv=>whnf)|fail)
  · rw [show ((L.length : Int) == 0) = true by rw [← e9]; exact h]
    exact le_worlds _
  · rw [show ((L.length : Int) == 0) = false by rw [← e9]; exact h]
    exact .refl _
end Go.Proofs.Ytkjjoalphllolaa
set_option maxRecDepth 100000
set_option maxHeartbeats 4000000
namespace Go.Proofs.Ytkjjoalphllolaa
open Go Go.Dv

def cells0 : List DV := [.pv (.int .i64 0), .pv .nil, .pv .nil]
def pairD (q : Nat × Nat) : List DV := [.pv (i64 q.1), .pv (i64 q.2)]
/-- The heap while the values of a fact are reckoned. -/
def HV (m : Mo) (a : Act) (l : List (Nat × Nat)) (vs vl : List Nat) : List (Nat × DObj) :=
  [(0, .var (cellsM m)), (1, .var (cellsA a)), (2, .var cells0), (3, .var [.pv (.sl (l.map pairPV))]), (4, .var [.pv (i64 (l.map pairPV).length), .buf 5 (vs.map u64).length, .pv .nil]), (5, .arr 1 (vs.map u64)), (7, .var [.pv (rowPV vl)])]
theorem upd2 {M : Nat → Prop} {w0 : W0} (m : Mo) (a : Act) (l : List (Nat × Nat)) (vs vl : List Nat) (q : Nat × Nat) (h1 : q.1 < 64) (h2 : q.2 < vl.length) (hv : ∀ s, s ∈ vl → s < 2 ^ 64) (base : Nat) (K : DV → DH → Prop) (hK : K (.pv (.bool ((vl.getD q.2 0).testBit q.1))) ⟨8, 0, base, objsOf (HV m a l vs vl)⟩) :
    DC Try.prog M w0 38 [.agg (pairD q), .ref 7 0] ⟨8, 0, base, objsOf (HV m a l vs vl)⟩ K := by
  refine DC.weaken (DC.intro mixed (fn := Try.f38) rfl rfl rfl ?_)
  obtain ⟨x, hx, hw⟩ : ∃ x, vl[q.2]? = some x ∧ vl.getD q.2 0 = x := ⟨_, getD_mem h2, rfl⟩
  have hx64 := hv x (List.mem_iff_getElem?.2 ⟨_, hx⟩)
  rw [hw, ← bit_one hx64 h1] at hK
  (try conv=>whnf);repeat' (first|(apply And.intro<;>try conv=>whnf)|(apply infoT;rfl)|(refine lin_plan (by kernel_rfl) ?_;try conv=>whnf)|(refine ⟨_, _, rfl, idx_map (by with_reducible assumption), rfl, ?_⟩;try conv=>whnf)|fail)
  · exact Int.natCast_nonneg _
  · exact ⟨_, 8, HV m a l vs vl, (by refine Wk.of ?_ ?_ rfl rfl rfl<;>repeat' (first|exact trivial|exact WkD.same _|exact WkO.same _ _ rfl|refine ⟨?_, ?_⟩|fail)), hK⟩
/-- The heap while the relation of an agent is reckoned, of a pair. -/
def HW (m : Mo) (a : Act) (l : List (Nat × Nat)) (vs : List Nat) (rs : List (List Nat)) (i : Nat) (r : List Nat) (mx : List PV) (x : Nat × Nat) : List (Nat × DObj) :=
  [(0, .var (cellsM m)), (1, .var (cellsA a)), (2, .var cells0), (3, .var [.pv (.sl (l.map pairPV))]), (4, .var [.pv (i64 (l.map pairPV).length), .pv (rowPV vs), .buf 5 (rs.map rowPV).length]), (5, .arr 1 (rs.map rowPV)), (6, .var [.pv (i64 i)]), (7, .var [.pv (rowPV r)]), (8, .arr 1 mx), (9, .var (pairD x))]
theorem upd3 {M : Nat → Prop} {w0 : W0} (m : Mo) (a : Act) (l : List (Nat × Nat)) (vs : List Nat) (rs : List (List Nat)) (i : Nat) (r : List Nat) (mx : List PV) (x q : Nat × Nat) (ra : List Nat) (hra : a.rel[i]? = some ra)
    (hx1 : x.1 < r.length) (hx2 : x.2 < ra.length) (hq1 : q.1 < 64) (hq2 : q.2 < 64) (hr : ∀ s, s ∈ r → s < 2 ^ 64) (hr2 : ∀ s, s ∈ ra → s < 2 ^ 64) (base : Nat) (K : DV → DH → Prop) (hK : K (.pv (.bool (seesP r ra x q))) ⟨10, 0, base, objsOf (HW m a l vs rs i r mx x)⟩) :
    DC Try.prog M w0 39 [.agg (pairD q), .ref 7 0, .ref 9 0, .ref 1 0, .ref 6 0] ⟨10, 0, base, objsOf (HW m a l vs rs i r mx x)⟩ K := by
  refine DC.weaken (DC.intro mixed (fn := Try.f39) rfl rfl rfl ?_)
  obtain ⟨u, hu, hw⟩ : ∃ u, r[x.1]? = some u ∧ r.getD x.1 0 = u := ⟨_, getD_mem hx1, rfl⟩
  obtain ⟨v, hv, hw2⟩ : ∃ v, ra[x.2]? = some v ∧ ra.getD x.2 0 = v := ⟨_, getD_mem hx2, rfl⟩
  have hu64 := hr u (List.mem_iff_getElem?.2 ⟨_, hu⟩)
  have hv64 := hr2 v (List.mem_iff_getElem?.2 ⟨_, hv⟩)
  rw [seesP, hw, hw2, ← bit_one hu64 hq1, ← bit_one hv64 hq2] at hK
  (try conv=>whnf);repeat' (first|(apply And.intro<;>try conv=>whnf)|(intro h;try conv=>whnf)|apply True.intro|(apply infoT;rfl)|(apply WhenQ.mk;(try conv=>whnf);rotate_left;(try conv=>whnf);rotate_right)|with_reducible assumption|(refine lin_plan (by kernel_rfl) ?_;try conv=>whnf)|(refine ⟨_, _, rfl, idx_map (by with_reducible assumption), rfl, ?_⟩;try conv=>whnf)|fail)
  · exact Int.natCast_nonneg _
  · exact Int.natCast_nonneg _
  · exact ⟨_, 10, HW m a l vs rs i r mx x, (by refine Wk.of ?_ ?_ rfl rfl rfl<;>repeat' (first|exact trivial|exact WkD.same _|exact WkO.same _ _ rfl|refine ⟨?_, ?_⟩|fail)), hK⟩
theorem whr_V {M : Nat → Prop} {w0 : W0} (m : Mo) (a : Act) (l : List (Nat × Nat)) (vs vl : List Nat) (hlp : ∀ y, y ∈ l → y.1 < 64 ∧ y.2 < vl.length) (hv : ∀ s, s ∈ vl → s < 2 ^ 64) (hl : l.length ≤ 64) (base : Nat) (K : DV → DH → Prop) (hK : K (.pv (u64 (maskOf (fun k => (fun q : Nat × Nat => (vl.getD q.2 0).testBit q.1) (l.getD k (0, 0))) l.length))) ⟨8, 0, base, objsOf (HV m a l vs vl)⟩) :
    DC Try.prog M w0 36 [.clo 38 [] [.ref 7 0], .ref 3 0] ⟨8, 0, base, objsOf (HV m a l vs vl)⟩ K := by
  refine DC.weaken (DC.intro mixed (fn := Try.f36) rfl rfl rfl ?_)
  try conv=>whnf
  refine ⟨{ i : Nat // i ≤ l.length }, fun i => [(0, .clo 38 [] [.ref 7 0]), (4, .pv (u64 (maskOf (fun k => (fun q : Nat × Nat => (vl.getD q.2 0).testBit q.1) (l.getD k (0, 0))) i.1))), (7, .pv (.sl (l.map pairPV))), (8, .pv (i64 (l.map pairPV).length)), (9, .pv (i64 i.1))], fun _ => 8, fun _ => HV m a l vs vl, fun i => l.length - i.1, ⟨⟨0, Nat.zero_le _⟩, (by refine Wk.of ?_ ?_ rfl rfl rfl<;>repeat' (first|exact trivial|exact WkD.same _|exact WkO.same _ _ rfl|refine ⟨?_, ?_⟩|fail))⟩, ?_⟩
  rintro ⟨j, hj⟩
  (try conv=>whnf);repeat' (first|(apply And.intro<;>try conv=>whnf)|(intro h;try conv=>whnf)|(apply infoT;rfl)|fail)
  · have hj' : j < l.length := by simpa using lt_dec h
    obtain ⟨y, hy, hyw⟩ : ∃ y, l[j]? = some y ∧ l.getD j (0, 0) = y := ⟨_, getD_mem hj', rfl⟩
    have hym : y ∈ l := List.mem_iff_getElem?.2 ⟨j, hy⟩
    refine ⟨_, _, rfl, idx_map hy, rfl, ?_⟩
    try conv=>whnf
    refine DC.call 8 (HV m a l vs vl) ⟨rfl, rfl, rfl, rfl, rfl, rfl, rfl, rfl, trivial⟩ rfl rfl rfl rfl fun M' => ?_
    refine upd2 m a l vs vl y (hlp y hym).1 (hlp y hym).2 hv _ _ ?_
    refine ⟨rfl, ?_⟩
    (try conv=>whnf);repeat' (first|(apply And.intro<;>try conv=>whnf)|(intro h;try conv=>whnf)|fail)
    · exact Int.natCast_nonneg _
    · have hq : (fun q : Nat × Nat => (vl.getD q.2 0).testBit q.1) (l.getD j (0, 0)) = true := by rw [hyw]; exact h
      refine ⟨⟨j + 1, hj'⟩, by show l.length - (j + 1) < l.length - j; omega, ?_⟩
      (refine Wk.of ?_ ?_ rfl rfl rfl<;>repeat' (first|exact trivial|exact WkD.same _|exact WkO.same _ _ rfl|refine WkD.int ?_|refine ⟨?_, ?_⟩|(refine wrapA ?_ ?_ ?_;(focus simp;done);(focus (try dsimp only);omega);(focus (try dsimp only);omega))|fail))
      exact or_shl (q := fun k => (fun q : Nat × Nat => (vl.getD q.2 0).testBit q.1) (l.getD k (0, 0))) (w := j) (by omega) hq
    · have hq : (fun q : Nat × Nat => (vl.getD q.2 0).testBit q.1) (l.getD j (0, 0)) = false := by rw [hyw]; exact h
      refine ⟨⟨j + 1, hj'⟩, by show l.length - (j + 1) < l.length - j; omega, ?_⟩
      (refine Wk.of ?_ ?_ rfl rfl rfl<;>repeat' (first|exact trivial|exact WkD.same _|exact WkO.same _ _ rfl|refine WkD.int ?_|refine ⟨?_, ?_⟩|(refine wrapA ?_ ?_ ?_;(focus simp;done);(focus (try dsimp only);omega);(focus (try dsimp only);omega))|fail))
      exact congrArg (fun z : Nat => (z : Int)) (mask_no (q := fun k => (fun q : Nat × Nat => (vl.getD q.2 0).testBit q.1) (l.getD k (0, 0))) hq)
  · have hj' : j = l.length := by have := ge_dec (m := (l.map pairPV).length) h (by simpa using hj); simpa using this
    subst hj'
    exact ⟨_, 8, HV m a l vs vl, (by refine Wk.of ?_ ?_ rfl rfl rfl<;>repeat' (first|exact trivial|exact WkD.same _|exact WkO.same _ _ rfl|refine ⟨?_, ?_⟩|fail)), hK⟩
theorem whr_W {M : Nat → Prop} {w0 : W0} (m : Mo) (a : Act) (l : List (Nat × Nat)) (vs : List Nat) (rs : List (List Nat)) (i : Nat) (r : List Nat) (mx : List PV) (x : Nat × Nat) (ra : List Nat) (hra : a.rel[i]? = some ra) (hx1 : x.1 < r.length) (hx2 : x.2 < ra.length) (hlp : ∀ y, y ∈ l → y.1 < 64 ∧ y.2 < 64) (hr : ∀ s, s ∈ r → s < 2 ^ 64) (hr2 : ∀ s, s ∈ ra → s < 2 ^ 64) (hl : l.length ≤ 64) (base : Nat) (K : DV → DH → Prop) (hK : K (.pv (u64 (maskOf (fun k => (fun q : Nat × Nat => seesP r ra x q) (l.getD k (0, 0))) l.length))) ⟨10, 0, base, objsOf (HW m a l vs rs i r mx x)⟩) :
    DC Try.prog M w0 36 [.clo 39 [] [.ref 7 0, .ref 9 0, .ref 1 0, .ref 6 0], .ref 3 0] ⟨10, 0, base, objsOf (HW m a l vs rs i r mx x)⟩ K := by
  refine DC.weaken (DC.intro mixed (fn := Try.f36) rfl rfl rfl ?_)
  try conv=>whnf
  refine ⟨{ i : Nat // i ≤ l.length }, fun i => [(0, .clo 39 [] [.ref 7 0, .ref 9 0, .ref 1 0, .ref 6 0]), (4, .pv (u64 (maskOf (fun k => (fun q : Nat × Nat => seesP r ra x q) (l.getD k (0, 0))) i.1))), (7, .pv (.sl (l.map pairPV))), (8, .pv (i64 (l.map pairPV).length)), (9, .pv (i64 i.1))], fun _ => 10, fun _ => HW m a l vs rs i r mx x, fun i => l.length - i.1, ⟨⟨0, Nat.zero_le _⟩, (by refine Wk.of ?_ ?_ rfl rfl rfl<;>repeat' (first|exact trivial|exact WkD.same _|exact WkO.same _ _ rfl|refine ⟨?_, ?_⟩|fail))⟩, ?_⟩
  rintro ⟨j, hj⟩
  (try conv=>whnf);repeat' (first|(apply And.intro<;>try conv=>whnf)|(intro h;try conv=>whnf)|(apply infoT;rfl)|fail)
  · have hj' : j < l.length := by simpa using lt_dec h
    obtain ⟨y, hy, hyw⟩ : ∃ y, l[j]? = some y ∧ l.getD j (0, 0) = y := ⟨_, getD_mem hj', rfl⟩
    have hym : y ∈ l := List.mem_iff_getElem?.2 ⟨j, hy⟩
    refine ⟨_, _, rfl, idx_map hy, rfl, ?_⟩
    try conv=>whnf
    refine DC.call 10 (HW m a l vs rs i r mx x) ⟨rfl, rfl, rfl, rfl, rfl, rfl, rfl, rfl, rfl, rfl, trivial⟩ rfl rfl rfl rfl fun M' => ?_
    refine upd3 m a l vs rs i r mx x y ra hra hx1 hx2 (hlp y hym).1 (hlp y hym).2 hr hr2 _ _ ?_
    refine ⟨rfl, ?_⟩
    (try conv=>whnf);repeat' (first|(apply And.intro<;>try conv=>whnf)|(intro h;try conv=>whnf)|fail)
    · exact Int.natCast_nonneg _
    · have hq : (fun q : Nat × Nat => seesP r ra x q) (l.getD j (0, 0)) = true := by rw [hyw]; exact h
      refine ⟨⟨j + 1, hj'⟩, by show l.length - (j + 1) < l.length - j; omega, ?_⟩
      (refine Wk.of ?_ ?_ rfl rfl rfl<;>repeat' (first|exact trivial|exact WkD.same _|exact WkO.same _ _ rfl|refine WkD.int ?_|refine ⟨?_, ?_⟩|(refine wrapA ?_ ?_ ?_;(focus simp;done);(focus (try dsimp only);omega);(focus (try dsimp only);omega))|fail))
      exact or_shl (q := fun k => (fun q : Nat × Nat => seesP r ra x q) (l.getD k (0, 0))) (w := j) (by omega) hq
    · have hq : (fun q : Nat × Nat => seesP r ra x q) (l.getD j (0, 0)) = false := by rw [hyw]; exact h
      refine ⟨⟨j + 1, hj'⟩, by show l.length - (j + 1) < l.length - j; omega, ?_⟩
      (refine Wk.of ?_ ?_ rfl rfl rfl<;>repeat' (first|exact trivial|exact WkD.same _|exact WkO.same _ _ rfl|refine WkD.int ?_|refine ⟨?_, ?_⟩|(refine wrapA ?_ ?_ ?_;(focus simp;done);(focus (try dsimp only);omega);(focus (try dsimp only);omega))|fail))
      exact congrArg (fun z : Nat => (z : Int)) (mask_no (q := fun k => (fun q : Nat × Nat => seesP r ra x q) (l.getD k (0, 0))) hq)
  · have hj' : j = l.length := by have := ge_dec (m := (l.map pairPV).length) h (by simpa using hj); simpa using this
    subst hj'
    exact ⟨_, 10, HW m a l vs rs i r mx x, (by refine Wk.of ?_ ?_ rfl rfl rfl<;>repeat' (first|exact trivial|exact WkD.same _|exact WkO.same _ _ rfl|refine ⟨?_, ?_⟩|fail)), hK⟩
end Go.Proofs.Ytkjjoalphllolaa
set_option maxRecDepth 100000
set_option maxHeartbeats 8000000
namespace Go.Proofs.Ytkjjoalphllolaa
open Go Go.Dv

def colM (m : Mo) (e : Nat) : List PV := (m.rel.getD e []).map u64
/-- Own rows at keys 8, 11, 12 and so on, and the cells of an array of them (at key 10). -/
def rowK : Nat → Nat
  | 0 => 8
  | e + 1 => e + 11
def tbC (c : Nat → List PV) : Nat → List DV
  | 0 => []
  | i + 1 => tbC c i ++ [.buf (rowK i) (c i).length]
def tbO (c : Nat → List PV) : Nat → List (Nat × DObj)
  | 0 => []
  | i + 1 => tbO c i ++ [(rowK i, .arr 1 (c i))]
def rbD (c : Nat → List PV) : Nat → DV
  | 0 => .pv .nil
  | i + 1 => .rbuf 10 (tbC c (i + 1)).length
def rbO (c : Nat → List PV) : Nat → List (Nat × DObj)
  | 0 => []
  | i + 1 => (10, .row (tbC c (i + 1))) :: tbO c (i + 1)
def rbN : Nat → Nat
  | 0 => 8
  | i + 1 => i + 11
def HCo (m : Mo) (V : List Nat) (i : Nat) : List (Nat × DObj) := (0, .var (cellsM m)) :: (1, .var cells0) :: (2, .var (cellsM m)) :: (3, .var cells0) :: (4, .var [.pv (.int .i64 m.n), .pv (rowPV V), rbD (colM m) i]) :: rbO (colM m) i
theorem objs_keys {Hl : List (Nat × DObj)} {p : Nat → Bool} (h : (Hl.all fun q => q.2.keys p) = true) (j : Nat) (o : DObj) (hj : objsOf Hl j = some o) : o.keys p = true := List.all_eq_true.1 h _ (objsOf_mem hj)
theorem rm_CopyO (m : Mo) (n : Nat) (hM : OkM m n) (M : Nat → Prop) (w0 : W0) (base : Nat) (K : DV → DH → Prop) (h0 : 1 ≤ m.rel.length)
    (hK : K (.agg [.pv (.int .i64 m.n), .pv (rowPV m.val), .vbuf 10 (tbC (colM m) m.rel.length).length]) ⟨14, 0, base, objsOf ((0, .var (cellsM m)) :: (1, .var cells0) :: (10, .var (tbC (colM m) m.rel.length)) :: tbO (colM m) m.rel.length)⟩) :
    DC Try.prog M w0 45 [.agg (cellsM m)] ⟨2, 0, base, objsOf [(0, .var (cellsM m)), (1, .var cells0)]⟩ K := by
  refine DC.weaken (DC.shut (DC.weaken (DC.introC [6, 14, 15] mixed (fn := Try.f45) rfl rfl rfl ?_)))
  have hn64 := hM.n64
  have hag := hM.ag
  have hfa := hM.fa
  have hn1 := hM.n1
  have eu : ∀ r : List Nat, (r.map u64).length = r.length := fun r => List.length_map _
  try conv=>whnf
  refine ⟨Unit, fun _ => [(1, .ref 2 0), (2, .ref 3 0), (3, .ref 4 0)], fun _ => 5, fun _ => [(0, .var (cellsM m)), (1, .var cells0), (2, .var (cellsM m)), (3, .var cells0), (4, .var [.pv (.int .i64 m.n), .pv (rowPV (m.val.take m.val.length)), .pv .nil])], ?_, ?_⟩
  · try conv=>whnf
    refine ⟨{ i : Nat // i ≤ m.val.length }, fun i => [(1, .ref 2 0), (2, .ref 3 0), (3, .ref 4 0), (4, .pv (i64 i.1))], fun _ => 6, fun i => [(0, .var (cellsM m)), (1, .var cells0), (2, .var (cellsM m)), (3, .var cells0), (4, .var [.pv (.int .i64 m.n), .buf 5 ((m.val.take i.1).map u64).length, .pv .nil]), (5, .arr 1 ((m.val.take i.1).map u64))], fun i => m.val.length - i.1, ⟨⟨0, Nat.zero_le _⟩, (by refine Wk.of ?_ ?_ rfl rfl rfl<;>repeat' (first|exact trivial|exact WkD.same _|exact WkO.same _ _ rfl|exact WkD.new' rfl rfl rfl|exact WkO.new _ _ rfl|refine WkO.vars rfl ?_|exact rfl|refine ⟨?_, ?_⟩|fail))⟩, ?_⟩
    rintro ⟨i, hi⟩
    (try conv=>whnf);repeat' (first|(apply And.intro<;>try conv=>whnf)|(intro h;try conv=>whnf)|(apply infoT;rfl)|(refine lin_plan (by kernel_rfl) ?_;try conv=>whnf)|fail)
    · have hi' : i < m.val.length := by simpa using lt_dec h
      obtain ⟨s, hx⟩ : ∃ y, m.val[i]? = some y := ⟨_, List.getElem?_eq_getElem hi'⟩
      have hvsl : ((m.val.take i).map u64).length ≤ 1000 := by simp; omega
      have er : (m.val.take i).map u64 ++ [PV.int .u64 ((s : Nat) : Int)] = (m.val.take (i + 1)).map u64 := (take_map (f := u64) hx).symm
      have hix := idx_map (g := u64) hx
      (try conv=>whnf);repeat' (first|(apply And.intro<;>try conv=>whnf)|(apply cellsI;rfl)|(apply szI;rfl)|(refine ⟨_, _, rfl, idx_map (by with_reducible assumption), rfl, ?_⟩;try conv=>whnf)|fail)
      · exact app_big (n := 1000) hvsl (by decide)
      · refine ⟨⟨i + 1, hi'⟩, by show m.val.length - (i + 1) < m.val.length - i; omega, ?_⟩
        (refine Wk.of ?_ ?_ rfl rfl rfl<;>repeat' (first|exact trivial|exact WkD.same _|exact WkO.same _ _ rfl|exact WkD.eq (congrArg (fun z : List PV => DV.buf _ z.length) er)|exact WkO.same _ _ (congrArg (fun z => some (DObj.arr _ z)) er)|refine WkD.int ?_|refine WkO.vars rfl ?_|refine ⟨?_, ?_⟩|(refine wrapA ?_ ?_ ?_;(focus simp;done);(focus (try dsimp only);omega);(focus (try dsimp only);omega))|fail))
    · have hi' : i = m.val.length := by have := ge_dec (m := (m.val.map u64).length) h (by simpa using hi); simpa using this
      subst hi'
      exact ⟨(), (by refine Wk.of ?_ ?_ rfl rfl rfl<;>repeat' (first|exact trivial|exact WkD.same _|exact WkO.same _ _ rfl|exact WkD.fz _ _ _ rfl (Or.inl ⟨_, rfl⟩) rfl|refine WkO.vars rfl ?_|refine ⟨?_, ?_⟩|fail))⟩
  rintro ⟨⟩
  have hV : m.val.take m.val.length = m.val := List.take_length
  rw [hV]
  have hVV : rowPV m.val = rowPV m.val := rfl
  obtain ⟨V, qV⟩ : ∃ V, m.val = V := ⟨_, rfl⟩
  rw [qV] at hK ⊢
  refine ⟨{ A : Nat // A = m.rel.length }, fun _ => [(2, .ref 3 0), (3, .ref 4 0)], fun A => rbN A.1, fun A => HCo m V A.1, ?_, ?_⟩
  · try conv=>whnf
    refine ⟨{ i : Nat // i ≤ m.rel.length }, fun i => [(1, .ref 2 0), (2, .ref 3 0), (3, .ref 4 0), (5, .pv (i64 i.1))], fun i => rbN i.1, fun i => HCo m V i.1, fun i => m.rel.length - i.1, ⟨⟨0, Nat.zero_le _⟩, (by refine Wk.of ?_ ?_ rfl rfl rfl<;>repeat' (first|exact trivial|exact WkD.same _|exact WkO.same _ _ rfl|refine ⟨?_, ?_⟩|fail))⟩, ?_⟩
    rintro ⟨i, hi⟩
    have hcase : i = 0 ∨ i = 1 ∨ i = 2 ∨ i = 3 ∨ i = 4 := by omega
    rcases hcase with rfl | rfl | rfl | rfl | rfl
    · have hx : 0 < m.rel.length ∨ 0 = m.rel.length := by omega
      (try conv=>whnf);repeat' (first|(apply And.intro<;>try conv=>whnf)|(intro h;try conv=>whnf)|fail)
      · have hi' : 0 < m.rel.length := by
          have h2 : decide (((0 : Nat) : Int) < ((m.rel.map rowPV).length : Int)) = true := h
          simpa using lt_dec h2
        have hxr : m.rel[0]? = some (m.rel.getD 0 []) := getD_mem hi'
        have hrl := hM.rows _ (List.mem_iff_getElem?.2 ⟨_, hxr⟩)
        have hixr := idx_map (g := rowPV) hxr
        have hcol : colM m 0 = (m.rel.getD 0 []).map u64 := rfl
        refine ⟨Unit, fun _ => [(1, .ref 2 0), (2, .ref 3 0), (3, .ref 4 0), (5, .pv (i64 0)), (6, .buf (rowK 0) (colM m 0).length)], fun _ => rowK 0 + 1, fun _ => (rowK 0, .arr 1 (colM m 0)) :: HCo m V 0, ?_, ?_⟩
        · try conv=>whnf
          refine ⟨{ j : Nat // j ≤ (m.rel.getD 0 []).length }, fun j => [(1, .ref 2 0), (2, .ref 3 0), (3, .ref 4 0), (5, .pv (i64 0)), (6, .buf (rowK 0) (((m.rel.getD 0 []).take j.1).map u64).length), (7, .pv (i64 j.1))], fun _ => rowK 0 + 1, fun j => (rowK 0, .arr 1 (((m.rel.getD 0 []).take j.1).map u64)) :: HCo m V 0, fun j => (m.rel.getD 0 []).length - j.1, ⟨⟨0, Nat.zero_le _⟩, (by refine Wk.of ?_ ?_ rfl rfl rfl<;>repeat' (first|exact trivial|exact WkD.same _|exact WkO.same _ _ rfl|exact WkD.new' rfl rfl rfl|exact WkO.new _ _ rfl|exact rfl|refine ⟨?_, ?_⟩|fail))⟩, ?_⟩
          rintro ⟨j, hj⟩
          (try conv=>whnf);repeat' (first|(apply And.intro<;>try conv=>whnf)|(intro h;try conv=>whnf)|(apply infoT;rfl)|(refine ⟨_, _, rfl, idx_map (by with_reducible assumption), rfl, ?_⟩;try conv=>whnf)|fail)
          · have hj' : j < (m.rel.getD 0 []).length := by
              have h2 : decide ((j : Int) < (((m.rel.getD 0 []).map u64).length : Int)) = true := h
              simpa using lt_dec h2
            obtain ⟨s, hx2⟩ : ∃ y, (m.rel.getD 0 [])[j]? = some y := ⟨_, List.getElem?_eq_getElem hj'⟩
            have hvsl2 : (((m.rel.getD 0 []).take j).map u64).length ≤ 1000 := by simp; omega
            have er2 : ((m.rel.getD 0 []).take j).map u64 ++ [PV.int .u64 ((s : Nat) : Int)] = ((m.rel.getD 0 []).take (j + 1)).map u64 := (take_map (f := u64) hx2).symm
            refine ⟨_, _, rfl, idx_map hx2, rfl, ?_⟩
            (try conv=>whnf);repeat' (first|(apply And.intro<;>try conv=>whnf)|(apply cellsI;rfl)|(apply szI;rfl)|(apply Or.inl;try conv=>whnf)|fail)
            · exact app_big (n := 1000) hvsl2 (by decide)
            · refine ⟨⟨j + 1, hj'⟩, by show (m.rel.getD 0 []).length - (j + 1) < (m.rel.getD 0 []).length - j; omega, ?_⟩
              (refine Wk.of ?_ ?_ rfl rfl rfl<;>repeat' (first|exact trivial|exact WkD.same _|exact WkO.same _ _ rfl|exact WkD.eq (congrArg (fun z : List PV => DV.buf _ z.length) er2)|exact WkO.same _ _ (congrArg (fun z => some (DObj.arr _ z)) er2)|refine WkD.int ?_|refine ⟨?_, ?_⟩|(refine wrapA ?_ ?_ ?_;(focus simp;done);(focus (try dsimp only);omega);(focus (try dsimp only);omega))|fail))
          · have hj' : j = (m.rel.getD 0 []).length := by
              have h2 : decide ((j : Int) < (((m.rel.getD 0 []).map u64).length : Int)) = false := h
              have := ge_dec (m := ((m.rel.getD 0 []).map u64).length) h2 (by simpa using hj)
              simpa using this
            subst hj'
            have hR : (m.rel.getD 0 []).take (m.rel.getD 0 []).length = m.rel.getD 0 [] := List.take_length
            have er3 : ((m.rel.getD 0 []).take (m.rel.getD 0 []).length).map u64 = colM m 0 := by rw [hR]; rfl
            exact ⟨(), (by refine Wk.of ?_ ?_ rfl rfl rfl<;>repeat' (first|exact trivial|exact WkD.same _|exact WkO.same _ _ rfl|exact WkD.eq (congrArg (fun z : List PV => DV.buf _ z.length) er3)|exact WkO.same _ _ (congrArg (fun z => some (DObj.arr _ z)) er3)|refine ⟨?_, ?_⟩|fail))⟩
        rintro ⟨⟩
        (try conv=>whnf);repeat' (first|(apply And.intro<;>try conv=>whnf)|exact Nat.le_refl 1|(apply Or.inr;refine ⟨rfl, rfl, rfl, ?_⟩;try conv=>whnf)|fail)
        all_goals first
          | exact rfl
          | exact Nat.le_of_ble_eq_true rfl
          | skip
        exact ⟨⟨1, hi'⟩, by show m.rel.length - 1 < m.rel.length - 0; omega, (by refine Wk.of ?_ ?_ rfl rfl rfl<;>repeat' (first|exact trivial|exact WkD.same _|exact WkO.same _ _ rfl|refine ⟨?_, ?_⟩|fail))⟩
      · have hi' : 0 = m.rel.length := by
          have h2 : decide (((0 : Nat) : Int) < ((m.rel.map rowPV).length : Int)) = false := h
          have := ge_dec (m := (m.rel.map rowPV).length) h2 (by rw [List.length_map]; exact hi)
          rw [List.length_map] at this
          exact this
        exact ⟨⟨0, hi'⟩, (by refine Wk.of ?_ ?_ rfl rfl rfl<;>repeat' (first|exact trivial|exact WkD.same _|exact WkO.same _ _ rfl|refine ⟨?_, ?_⟩|fail))⟩
    · have hx : 1 < m.rel.length ∨ 1 = m.rel.length := by omega
      (try conv=>whnf);repeat' (first|(apply And.intro<;>try conv=>whnf)|(intro h;try conv=>whnf)|fail)
      · have hi' : 1 < m.rel.length := by
          have h2 : decide (((1 : Nat) : Int) < ((m.rel.map rowPV).length : Int)) = true := h
          simpa using lt_dec h2
        have hxr : m.rel[1]? = some (m.rel.getD 1 []) := getD_mem hi'
        have hrl := hM.rows _ (List.mem_iff_getElem?.2 ⟨_, hxr⟩)
        have hixr := idx_map (g := rowPV) hxr
        have hcol : colM m 1 = (m.rel.getD 1 []).map u64 := rfl
        refine ⟨Unit, fun _ => [(1, .ref 2 0), (2, .ref 3 0), (3, .ref 4 0), (5, .pv (i64 1)), (6, .buf (rowK 1) (colM m 1).length)], fun _ => rowK 1 + 1, fun _ => (rowK 1, .arr 1 (colM m 1)) :: HCo m V 1, ?_, ?_⟩
        · try conv=>whnf
          refine ⟨{ j : Nat // j ≤ (m.rel.getD 1 []).length }, fun j => [(1, .ref 2 0), (2, .ref 3 0), (3, .ref 4 0), (5, .pv (i64 1)), (6, .buf (rowK 1) (((m.rel.getD 1 []).take j.1).map u64).length), (7, .pv (i64 j.1))], fun _ => rowK 1 + 1, fun j => (rowK 1, .arr 1 (((m.rel.getD 1 []).take j.1).map u64)) :: HCo m V 1, fun j => (m.rel.getD 1 []).length - j.1, ⟨⟨0, Nat.zero_le _⟩, (by refine Wk.of ?_ ?_ rfl rfl rfl<;>repeat' (first|exact trivial|exact WkD.same _|exact WkO.same _ _ rfl|exact WkD.new' rfl rfl rfl|exact WkO.new _ _ rfl|exact rfl|refine ⟨?_, ?_⟩|fail))⟩, ?_⟩
          rintro ⟨j, hj⟩
          (try conv=>whnf);repeat' (first|(apply And.intro<;>try conv=>whnf)|(intro h;try conv=>whnf)|(apply infoT;rfl)|(refine ⟨_, _, rfl, idx_map (by with_reducible assumption), rfl, ?_⟩;try conv=>whnf)|fail)
          · have hj' : j < (m.rel.getD 1 []).length := by
              have h2 : decide ((j : Int) < (((m.rel.getD 1 []).map u64).length : Int)) = true := h
              simpa using lt_dec h2
            obtain ⟨s, hx2⟩ : ∃ y, (m.rel.getD 1 [])[j]? = some y := ⟨_, List.getElem?_eq_getElem hj'⟩
            have hvsl2 : (((m.rel.getD 1 []).take j).map u64).length ≤ 1000 := by simp; omega
            have er2 : ((m.rel.getD 1 []).take j).map u64 ++ [PV.int .u64 ((s : Nat) : Int)] = ((m.rel.getD 1 []).take (j + 1)).map u64 := (take_map (f := u64) hx2).symm
            refine ⟨_, _, rfl, idx_map hx2, rfl, ?_⟩
            (try conv=>whnf);repeat' (first|(apply And.intro<;>try conv=>whnf)|(apply cellsI;rfl)|(apply szI;rfl)|(apply Or.inl;try conv=>whnf)|fail)
            · exact app_big (n := 1000) hvsl2 (by decide)
            · refine ⟨⟨j + 1, hj'⟩, by show (m.rel.getD 1 []).length - (j + 1) < (m.rel.getD 1 []).length - j; omega, ?_⟩
              (refine Wk.of ?_ ?_ rfl rfl rfl<;>repeat' (first|exact trivial|exact WkD.same _|exact WkO.same _ _ rfl|exact WkD.eq (congrArg (fun z : List PV => DV.buf _ z.length) er2)|exact WkO.same _ _ (congrArg (fun z => some (DObj.arr _ z)) er2)|refine WkD.int ?_|refine ⟨?_, ?_⟩|(refine wrapA ?_ ?_ ?_;(focus simp;done);(focus (try dsimp only);omega);(focus (try dsimp only);omega))|fail))
          · have hj' : j = (m.rel.getD 1 []).length := by
              have h2 : decide ((j : Int) < (((m.rel.getD 1 []).map u64).length : Int)) = false := h
              have := ge_dec (m := ((m.rel.getD 1 []).map u64).length) h2 (by simpa using hj)
              simpa using this
            subst hj'
            have hR : (m.rel.getD 1 []).take (m.rel.getD 1 []).length = m.rel.getD 1 [] := List.take_length
            have er3 : ((m.rel.getD 1 []).take (m.rel.getD 1 []).length).map u64 = colM m 1 := by rw [hR]; rfl
            exact ⟨(), (by refine Wk.of ?_ ?_ rfl rfl rfl<;>repeat' (first|exact trivial|exact WkD.same _|exact WkO.same _ _ rfl|exact WkD.eq (congrArg (fun z : List PV => DV.buf _ z.length) er3)|exact WkO.same _ _ (congrArg (fun z => some (DObj.arr _ z)) er3)|refine ⟨?_, ?_⟩|fail))⟩
        rintro ⟨⟩
        (try conv=>whnf);repeat' (first|(apply And.intro<;>try conv=>whnf)|(apply bleI;rfl)|exact Nat.le_refl 1|(apply Or.inr;refine ⟨rfl, rfl, rfl, ?_⟩;try conv=>whnf)|fail)
        all_goals first
          | exact rfl
          | exact Nat.le_of_ble_eq_true rfl
          | skip
        exact ⟨⟨2, hi'⟩, by show m.rel.length - 2 < m.rel.length - 1; omega, (by refine Wk.of ?_ ?_ rfl rfl rfl<;>repeat' (first|exact trivial|exact WkD.same _|exact WkO.same _ _ rfl|refine ⟨?_, ?_⟩|fail))⟩
      · have hi' : 1 = m.rel.length := by
          have h2 : decide (((1 : Nat) : Int) < ((m.rel.map rowPV).length : Int)) = false := h
          have := ge_dec (m := (m.rel.map rowPV).length) h2 (by rw [List.length_map]; exact hi)
          rw [List.length_map] at this
          exact this
        exact ⟨⟨1, hi'⟩, (by refine Wk.of ?_ ?_ rfl rfl rfl<;>repeat' (first|exact trivial|exact WkD.same _|exact WkO.same _ _ rfl|refine ⟨?_, ?_⟩|fail))⟩
    · have hx : 2 < m.rel.length ∨ 2 = m.rel.length := by omega
      (try conv=>whnf);repeat' (first|(apply And.intro<;>try conv=>whnf)|(intro h;try conv=>whnf)|fail)
      · have hi' : 2 < m.rel.length := by
          have h2 : decide (((2 : Nat) : Int) < ((m.rel.map rowPV).length : Int)) = true := h
          simpa using lt_dec h2
        have hxr : m.rel[2]? = some (m.rel.getD 2 []) := getD_mem hi'
        have hrl := hM.rows _ (List.mem_iff_getElem?.2 ⟨_, hxr⟩)
        have hixr := idx_map (g := rowPV) hxr
        have hcol : colM m 2 = (m.rel.getD 2 []).map u64 := rfl
        refine ⟨Unit, fun _ => [(1, .ref 2 0), (2, .ref 3 0), (3, .ref 4 0), (5, .pv (i64 2)), (6, .buf (rowK 2) (colM m 2).length)], fun _ => rowK 2 + 1, fun _ => (rowK 2, .arr 1 (colM m 2)) :: HCo m V 2, ?_, ?_⟩
        · try conv=>whnf
          refine ⟨{ j : Nat // j ≤ (m.rel.getD 2 []).length }, fun j => [(1, .ref 2 0), (2, .ref 3 0), (3, .ref 4 0), (5, .pv (i64 2)), (6, .buf (rowK 2) (((m.rel.getD 2 []).take j.1).map u64).length), (7, .pv (i64 j.1))], fun _ => rowK 2 + 1, fun j => (rowK 2, .arr 1 (((m.rel.getD 2 []).take j.1).map u64)) :: HCo m V 2, fun j => (m.rel.getD 2 []).length - j.1, ⟨⟨0, Nat.zero_le _⟩, (by refine Wk.of ?_ ?_ rfl rfl rfl<;>repeat' (first|exact trivial|exact WkD.same _|exact WkO.same _ _ rfl|exact WkD.new' rfl rfl rfl|exact WkO.new _ _ rfl|exact rfl|refine ⟨?_, ?_⟩|fail))⟩, ?_⟩
          rintro ⟨j, hj⟩
          (try conv=>whnf);repeat' (first|(apply And.intro<;>try conv=>whnf)|(intro h;try conv=>whnf)|(apply infoT;rfl)|(refine ⟨_, _, rfl, idx_map (by with_reducible assumption), rfl, ?_⟩;try conv=>whnf)|fail)
          · have hj' : j < (m.rel.getD 2 []).length := by
              have h2 : decide ((j : Int) < (((m.rel.getD 2 []).map u64).length : Int)) = true := h
              simpa using lt_dec h2
            obtain ⟨s, hx2⟩ : ∃ y, (m.rel.getD 2 [])[j]? = some y := ⟨_, List.getElem?_eq_getElem hj'⟩
            have hvsl2 : (((m.rel.getD 2 []).take j).map u64).length ≤ 1000 := by simp; omega
            have er2 : ((m.rel.getD 2 []).take j).map u64 ++ [PV.int .u64 ((s : Nat) : Int)] = ((m.rel.getD 2 []).take (j + 1)).map u64 := (take_map (f := u64) hx2).symm
            refine ⟨_, _, rfl, idx_map hx2, rfl, ?_⟩
            (try conv=>whnf);repeat' (first|(apply And.intro<;>try conv=>whnf)|(apply cellsI;rfl)|(apply szI;rfl)|(apply Or.inl;try conv=>whnf)|fail)
            · exact app_big (n := 1000) hvsl2 (by decide)
            · refine ⟨⟨j + 1, hj'⟩, by show (m.rel.getD 2 []).length - (j + 1) < (m.rel.getD 2 []).length - j; omega, ?_⟩
              (refine Wk.of ?_ ?_ rfl rfl rfl<;>repeat' (first|exact trivial|exact WkD.same _|exact WkO.same _ _ rfl|exact WkD.eq (congrArg (fun z : List PV => DV.buf _ z.length) er2)|exact WkO.same _ _ (congrArg (fun z => some (DObj.arr _ z)) er2)|refine WkD.int ?_|refine ⟨?_, ?_⟩|(refine wrapA ?_ ?_ ?_;(focus simp;done);(focus (try dsimp only);omega);(focus (try dsimp only);omega))|fail))
          · have hj' : j = (m.rel.getD 2 []).length := by
              have h2 : decide ((j : Int) < (((m.rel.getD 2 []).map u64).length : Int)) = false := h
              have := ge_dec (m := ((m.rel.getD 2 []).map u64).length) h2 (by simpa using hj)
              simpa using this
            subst hj'
            have hR : (m.rel.getD 2 []).take (m.rel.getD 2 []).length = m.rel.getD 2 [] := List.take_length
            have er3 : ((m.rel.getD 2 []).take (m.rel.getD 2 []).length).map u64 = colM m 2 := by rw [hR]; rfl
            exact ⟨(), (by refine Wk.of ?_ ?_ rfl rfl rfl<;>repeat' (first|exact trivial|exact WkD.same _|exact WkO.same _ _ rfl|exact WkD.eq (congrArg (fun z : List PV => DV.buf _ z.length) er3)|exact WkO.same _ _ (congrArg (fun z => some (DObj.arr _ z)) er3)|refine ⟨?_, ?_⟩|fail))⟩
        rintro ⟨⟩
        (try conv=>whnf);repeat' (first|(apply And.intro<;>try conv=>whnf)|(apply bleI;rfl)|exact Nat.le_refl 1|(apply Or.inr;refine ⟨rfl, rfl, rfl, ?_⟩;try conv=>whnf)|fail)
        all_goals first
          | exact rfl
          | exact Nat.le_of_ble_eq_true rfl
          | skip
        exact ⟨⟨3, hi'⟩, by show m.rel.length - 3 < m.rel.length - 2; omega, (by refine Wk.of ?_ ?_ rfl rfl rfl<;>repeat' (first|exact trivial|exact WkD.same _|exact WkO.same _ _ rfl|refine ⟨?_, ?_⟩|fail))⟩
      · have hi' : 2 = m.rel.length := by
          have h2 : decide (((2 : Nat) : Int) < ((m.rel.map rowPV).length : Int)) = false := h
          have := ge_dec (m := (m.rel.map rowPV).length) h2 (by rw [List.length_map]; exact hi)
          rw [List.length_map] at this
          exact this
        exact ⟨⟨2, hi'⟩, (by refine Wk.of ?_ ?_ rfl rfl rfl<;>repeat' (first|exact trivial|exact WkD.same _|exact WkO.same _ _ rfl|refine ⟨?_, ?_⟩|fail))⟩
    · have hx : 3 < m.rel.length ∨ 3 = m.rel.length := by omega
      (try conv=>whnf);repeat' (first|(apply And.intro<;>try conv=>whnf)|(intro h;try conv=>whnf)|fail)
      · have hi' : 3 < m.rel.length := by
          have h2 : decide (((3 : Nat) : Int) < ((m.rel.map rowPV).length : Int)) = true := h
          simpa using lt_dec h2
        have hxr : m.rel[3]? = some (m.rel.getD 3 []) := getD_mem hi'
        have hrl := hM.rows _ (List.mem_iff_getElem?.2 ⟨_, hxr⟩)
        have hixr := idx_map (g := rowPV) hxr
        have hcol : colM m 3 = (m.rel.getD 3 []).map u64 := rfl
        refine ⟨Unit, fun _ => [(1, .ref 2 0), (2, .ref 3 0), (3, .ref 4 0), (5, .pv (i64 3)), (6, .buf (rowK 3) (colM m 3).length)], fun _ => rowK 3 + 1, fun _ => (rowK 3, .arr 1 (colM m 3)) :: HCo m V 3, ?_, ?_⟩
        · try conv=>whnf
          refine ⟨{ j : Nat // j ≤ (m.rel.getD 3 []).length }, fun j => [(1, .ref 2 0), (2, .ref 3 0), (3, .ref 4 0), (5, .pv (i64 3)), (6, .buf (rowK 3) (((m.rel.getD 3 []).take j.1).map u64).length), (7, .pv (i64 j.1))], fun _ => rowK 3 + 1, fun j => (rowK 3, .arr 1 (((m.rel.getD 3 []).take j.1).map u64)) :: HCo m V 3, fun j => (m.rel.getD 3 []).length - j.1, ⟨⟨0, Nat.zero_le _⟩, (by refine Wk.of ?_ ?_ rfl rfl rfl<;>repeat' (first|exact trivial|exact WkD.same _|exact WkO.same _ _ rfl|exact WkD.new' rfl rfl rfl|exact WkO.new _ _ rfl|exact rfl|refine ⟨?_, ?_⟩|fail))⟩, ?_⟩
          rintro ⟨j, hj⟩
          (try conv=>whnf);repeat' (first|(apply And.intro<;>try conv=>whnf)|(intro h;try conv=>whnf)|(apply infoT;rfl)|(refine ⟨_, _, rfl, idx_map (by with_reducible assumption), rfl, ?_⟩;try conv=>whnf)|fail)
          · have hj' : j < (m.rel.getD 3 []).length := by
              have h2 : decide ((j : Int) < (((m.rel.getD 3 []).map u64).length : Int)) = true := h
              simpa using lt_dec h2
            obtain ⟨s, hx2⟩ : ∃ y, (m.rel.getD 3 [])[j]? = some y := ⟨_, List.getElem?_eq_getElem hj'⟩
            have hvsl2 : (((m.rel.getD 3 []).take j).map u64).length ≤ 1000 := by simp; omega
            have er2 : ((m.rel.getD 3 []).take j).map u64 ++ [PV.int .u64 ((s : Nat) : Int)] = ((m.rel.getD 3 []).take (j + 1)).map u64 := (take_map (f := u64) hx2).symm
            refine ⟨_, _, rfl, idx_map hx2, rfl, ?_⟩
            (try conv=>whnf);repeat' (first|(apply And.intro<;>try conv=>whnf)|(apply cellsI;rfl)|(apply szI;rfl)|(apply Or.inl;try conv=>whnf)|fail)
            · exact app_big (n := 1000) hvsl2 (by decide)
            · refine ⟨⟨j + 1, hj'⟩, by show (m.rel.getD 3 []).length - (j + 1) < (m.rel.getD 3 []).length - j; omega, ?_⟩
              (refine Wk.of ?_ ?_ rfl rfl rfl<;>repeat' (first|exact trivial|exact WkD.same _|exact WkO.same _ _ rfl|exact WkD.eq (congrArg (fun z : List PV => DV.buf _ z.length) er2)|exact WkO.same _ _ (congrArg (fun z => some (DObj.arr _ z)) er2)|refine WkD.int ?_|refine ⟨?_, ?_⟩|(refine wrapA ?_ ?_ ?_;(focus simp;done);(focus (try dsimp only);omega);(focus (try dsimp only);omega))|fail))
          · have hj' : j = (m.rel.getD 3 []).length := by
              have h2 : decide ((j : Int) < (((m.rel.getD 3 []).map u64).length : Int)) = false := h
              have := ge_dec (m := ((m.rel.getD 3 []).map u64).length) h2 (by simpa using hj)
              simpa using this
            subst hj'
            have hR : (m.rel.getD 3 []).take (m.rel.getD 3 []).length = m.rel.getD 3 [] := List.take_length
            have er3 : ((m.rel.getD 3 []).take (m.rel.getD 3 []).length).map u64 = colM m 3 := by rw [hR]; rfl
            exact ⟨(), (by refine Wk.of ?_ ?_ rfl rfl rfl<;>repeat' (first|exact trivial|exact WkD.same _|exact WkO.same _ _ rfl|exact WkD.eq (congrArg (fun z : List PV => DV.buf _ z.length) er3)|exact WkO.same _ _ (congrArg (fun z => some (DObj.arr _ z)) er3)|refine ⟨?_, ?_⟩|fail))⟩
        rintro ⟨⟩
        (try conv=>whnf);repeat' (first|(apply And.intro<;>try conv=>whnf)|(apply bleI;rfl)|exact Nat.le_refl 1|(apply Or.inr;refine ⟨rfl, rfl, rfl, ?_⟩;try conv=>whnf)|fail)
        all_goals first
          | exact rfl
          | exact Nat.le_of_ble_eq_true rfl
          | skip
        exact ⟨⟨4, hi'⟩, by show m.rel.length - 4 < m.rel.length - 3; omega, (by refine Wk.of ?_ ?_ rfl rfl rfl<;>repeat' (first|exact trivial|exact WkD.same _|exact WkO.same _ _ rfl|refine ⟨?_, ?_⟩|fail))⟩
      · have hi' : 3 = m.rel.length := by
          have h2 : decide (((3 : Nat) : Int) < ((m.rel.map rowPV).length : Int)) = false := h
          have := ge_dec (m := (m.rel.map rowPV).length) h2 (by rw [List.length_map]; exact hi)
          rw [List.length_map] at this
          exact this
        exact ⟨⟨3, hi'⟩, (by refine Wk.of ?_ ?_ rfl rfl rfl<;>repeat' (first|exact trivial|exact WkD.same _|exact WkO.same _ _ rfl|refine ⟨?_, ?_⟩|fail))⟩
    · (try conv=>whnf);repeat' (first|(apply And.intro<;>try conv=>whnf)|(intro h;try conv=>whnf)|fail)
      · exfalso
        have h2 : decide (((4 : Nat) : Int) < ((m.rel.map rowPV).length : Int)) = true := h
        have : 4 < m.rel.length := by simpa using lt_dec h2
        omega
      · have hi' : 4 = m.rel.length := by omega
        exact ⟨⟨4, hi'⟩, (by refine Wk.of ?_ ?_ rfl rfl rfl<;>repeat' (first|exact trivial|exact WkD.same _|exact WkO.same _ _ rfl|refine ⟨?_, ?_⟩|fail))⟩
  · rintro ⟨A, hA⟩
    have hcase : A = 1 ∨ A = 2 ∨ A = 3 ∨ A = 4 := by omega
    rcases hcase with rfl | rfl | rfl | rfl
    · try conv=>whnf
      rw [← hA] at hK
      refine ⟨.agg [.pv (.int .i64 m.n), .pv (rowPV V), rbD (colM m) 1], 14, (0, .var (cellsM m)) :: (1, .var cells0) :: rbO (colM m) 1, (by refine Wk.of ?_ ?_ rfl rfl rfl<;>repeat' (first|exact trivial|exact WkD.same _|exact WkO.same _ _ rfl|refine ⟨?_, ?_⟩|fail)), ?_⟩
      refine ⟨10, tbC (colM m) 1, [.pv (.int .i64 m.n), .pv (rowPV V)], (show 2 ≤ 10 by decide), rfl, (by simp [tbC]), objs_keys rfl, rfl, rfl, ?_⟩
      exact ⟨.agg [.pv (.int .i64 m.n), .pv (rowPV V), .vbuf 10 (tbC (colM m) 1).length], 14, (0, .var (cellsM m)) :: (1, .var cells0) :: (10, .var (tbC (colM m) 1)) :: tbO (colM m) 1, (by refine Wk.of ?_ ?_ rfl rfl rfl<;>repeat' (first|exact trivial|exact WkD.same _|exact WkO.same _ _ rfl|refine ⟨?_, ?_⟩|fail)), hK⟩
    · try conv=>whnf
      rw [← hA] at hK
      refine ⟨.agg [.pv (.int .i64 m.n), .pv (rowPV V), rbD (colM m) 2], 14, (0, .var (cellsM m)) :: (1, .var cells0) :: rbO (colM m) 2, (by refine Wk.of ?_ ?_ rfl rfl rfl<;>repeat' (first|exact trivial|exact WkD.same _|exact WkO.same _ _ rfl|refine ⟨?_, ?_⟩|fail)), ?_⟩
      refine ⟨10, tbC (colM m) 2, [.pv (.int .i64 m.n), .pv (rowPV V)], (show 2 ≤ 10 by decide), rfl, (by simp [tbC]), objs_keys rfl, rfl, rfl, ?_⟩
      exact ⟨.agg [.pv (.int .i64 m.n), .pv (rowPV V), .vbuf 10 (tbC (colM m) 2).length], 14, (0, .var (cellsM m)) :: (1, .var cells0) :: (10, .var (tbC (colM m) 2)) :: tbO (colM m) 2, (by refine Wk.of ?_ ?_ rfl rfl rfl<;>repeat' (first|exact trivial|exact WkD.same _|exact WkO.same _ _ rfl|refine ⟨?_, ?_⟩|fail)), hK⟩
    · try conv=>whnf
      rw [← hA] at hK
      refine ⟨.agg [.pv (.int .i64 m.n), .pv (rowPV V), rbD (colM m) 3], 14, (0, .var (cellsM m)) :: (1, .var cells0) :: rbO (colM m) 3, (by refine Wk.of ?_ ?_ rfl rfl rfl<;>repeat' (first|exact trivial|exact WkD.same _|exact WkO.same _ _ rfl|refine ⟨?_, ?_⟩|fail)), ?_⟩
      refine ⟨10, tbC (colM m) 3, [.pv (.int .i64 m.n), .pv (rowPV V)], (show 2 ≤ 10 by decide), rfl, (by simp [tbC]), objs_keys rfl, rfl, rfl, ?_⟩
      exact ⟨.agg [.pv (.int .i64 m.n), .pv (rowPV V), .vbuf 10 (tbC (colM m) 3).length], 14, (0, .var (cellsM m)) :: (1, .var cells0) :: (10, .var (tbC (colM m) 3)) :: tbO (colM m) 3, (by refine Wk.of ?_ ?_ rfl rfl rfl<;>repeat' (first|exact trivial|exact WkD.same _|exact WkO.same _ _ rfl|refine ⟨?_, ?_⟩|fail)), hK⟩
    · try conv=>whnf
      rw [← hA] at hK
      refine ⟨.agg [.pv (.int .i64 m.n), .pv (rowPV V), rbD (colM m) 4], 14, (0, .var (cellsM m)) :: (1, .var cells0) :: rbO (colM m) 4, (by refine Wk.of ?_ ?_ rfl rfl rfl<;>repeat' (first|exact trivial|exact WkD.same _|exact WkO.same _ _ rfl|refine ⟨?_, ?_⟩|fail)), ?_⟩
      refine ⟨10, tbC (colM m) 4, [.pv (.int .i64 m.n), .pv (rowPV V)], (show 2 ≤ 10 by decide), rfl, (by simp [tbC]), objs_keys rfl, rfl, rfl, ?_⟩
      exact ⟨.agg [.pv (.int .i64 m.n), .pv (rowPV V), .vbuf 10 (tbC (colM m) 4).length], 14, (0, .var (cellsM m)) :: (1, .var cells0) :: (10, .var (tbC (colM m) 4)) :: tbO (colM m) 4, (by refine Wk.of ?_ ?_ rfl rfl rfl<;>repeat' (first|exact trivial|exact WkD.same _|exact WkO.same _ _ rfl|refine ⟨?_, ?_⟩|fail)), hK⟩
end Go.Proofs.Ytkjjoalphllolaa
set_option maxRecDepth 100000
set_option maxHeartbeats 4000000
namespace Go.Proofs.Ytkjjoalphllolaa
open Go Go.Dv

def vsU (m : Mo) (a : Act) (l : List (Nat × Nat)) (i : Nat) : List Nat := (List.range i).map (valP m a l)
def rsU (m : Mo) (a : Act) (l : List (Nat × Nat)) (i : Nat) : List (List Nat) := (List.range i).map (relP m a l)
theorem vsU_succ (m : Mo) (a : Act) (l : List (Nat × Nat)) (i : Nat) : vsU m a l (i + 1) = vsU m a l i ++ [valP m a l i] := by rw [vsU, List.range_succ, List.map_append]; rfl
theorem rsU_succ (m : Mo) (a : Act) (l : List (Nat × Nat)) (i : Nat) : rsU m a l (i + 1) = rsU m a l i ++ [relP m a l i] := by rw [rsU, List.range_succ, List.map_append]; rfl
def vlU (m : Mo) (a : Act) (i : Nat) : List Nat := (List.range a.pre.length).map fun e => valuP m a e i
theorem vlU_get {m : Mo} {a : Act} {i e : Nat} (h : e < a.pre.length) : (vlU m a i).getD e 0 = valuP m a e i := by
  rw [vlU, List.getD_eq_getElem?_getD, List.getElem?_map, List.getElem?_range h]; rfl
def updPlan : Plan := .one 2 (.one 3 (.two 0 (.two 1 (.one 4 (.one 5 (.one 6 (.one 7 (.one 8 .done))))) 4 (.one 1 (.one 5 (.one 6 (.one 7 (.one 8 .done)))))) 4 (.one 0 (.one 1 (.one 5 (.one 6 (.one 7 (.one 8 .done))))))))
theorem pr_Update (m : Mo) (a : Act) (hf : FitM m) (hfa : Fit a) (hl : a.rel.length ≤ 1000) (hp : ∀ l, l ∈ a.post → l.length ≤ 1000) : PureFn Try.prog 8 [m.pv, a.pv] (updPV (updI m a)) := by
  refine PureFn.introC [4, 6, 20, 22, 31, 33] mixed (fn := Try.f8) rfl rfl rfl fun M w0 => ?_
  have hW := pr_Worlds m a hf hfa hl hp
  obtain ⟨l, e, hX⟩ : ∃ l e, worldsI m a = (l, e) := ⟨_, _, rfl⟩
  have hwo := worldsI_ok (m := m) (a := a)
  rw [updI]
  rw [hX] at hW hwo ⊢
  clear hX
  have e9 : ((l.map pairPV).length : Int) = (l.length : Int) := by simp
  (try conv=>whnf);repeat' (first|(refine PureFn.dy hW rfl ?_;try conv=>whnf)|fail)
  refine ⟨{ _x : Unit // (e != 0) = false }, fun _ => [(2, .ref 0 0), (3, .ref 1 0), (4, .ref 2 0), (7, .ref 3 0)], fun _ => 4, fun _ => [(0, .var (cellsM m)), (1, .var (cellsA a)), (2, .var cells0), (3, .var [.pv (.sl (l.map pairPV))])], ?_, ?_⟩
  · (try conv=>whnf);repeat' (first|(apply And.intro<;>try conv=>whnf)|(intro h;try conv=>whnf)|fail)
    · rw [show (((l, e) : List (Nat × Nat) × Int).2 != 0) = true from h]; exact le_upd _
    · exact ⟨⟨(), h⟩, (by refine Wk.of ?_ ?_ rfl rfl rfl<;>repeat' (first|exact trivial|exact WkD.same _|exact WkO.same _ _ rfl|refine ⟨?_, ?_⟩|fail))⟩
  rintro ⟨_, h1⟩
  obtain ⟨hma, hpl, hl1⟩ := hwo (show e = 0 by simpa using h1)
  obtain ⟨⟨n, hM⟩, hAc⟩ := moaI_ok hma
  have hO := actI_ok hAc
  have hn8 := hO.n8
  have hn64 := hM.n64
  have hfa8 := hM.fa
  have hag := hM.ag
  have hpl : l = pairsL m a := hpl
  have hmem : ∀ y, y ∈ l → y.1 < n ∧ y.2 < a.pre.length := fun y hy => by
    rw [hpl, pairsL, hM.nn] at hy
    have := pairsW_mem.1 hy
    exact ⟨this.1, this.2.1⟩
  clear hpl hl1
  refine ⟨{ _x : Unit // decide ((l.length : Int) > 64) = false }, fun _ => [(2, .ref 0 0), (3, .ref 1 0), (4, .ref 2 0), (7, .ref 3 0)], fun _ => 4, fun _ => [(0, .var (cellsM m)), (1, .var (cellsA a)), (2, .var cells0), (3, .var [.pv (.sl (l.map pairPV))])], ?_, ?_⟩
  · (try conv=>whnf);repeat' (first|(apply And.intro<;>try conv=>whnf)|(intro h;try conv=>whnf)|fail)
    · have h9 : decide ((l.length : Int) > 64) = true := by rw [← e9]; exact h
      rw [show (((l, e) : List (Nat × Nat) × Int).2 != 0) = false from h1, show decide ((((l, e) : List (Nat × Nat) × Int).1.length : Int) > 64) = true from h9]
      exact le_upd _
    · exact ⟨⟨(), by rw [← e9]; exact h⟩, (by refine Wk.of ?_ ?_ rfl rfl rfl<;>repeat' (first|exact trivial|exact WkD.same _|exact WkO.same _ _ rfl|refine ⟨?_, ?_⟩|fail))⟩
  rintro ⟨_, h2⟩
  have hl64 : l.length ≤ 64 := by have := of_decide_eq_false h2; omega
  have hres : (bif (((l, e) : List (Nat × Nat) × Int).2 != 0) then (noMo, ([] : List (Nat × Nat)), ((l, e) : List (Nat × Nat) × Int).2) else bif decide ((((l, e) : List (Nat × Nat) × Int).1.length : Int) > 64) then (noMo, [], 8) else (prodM m a ((l, e) : List (Nat × Nat) × Int).1, ((l, e) : List (Nat × Nat) × Int).1, (0 : Int))) = (prodM m a l, l, 0) := by
    rw [show (((l, e) : List (Nat × Nat) × Int).2 != 0) = false from h1, show decide ((((l, e) : List (Nat × Nat) × Int).1.length : Int) > 64) = false from h2]; rfl
  rw [hres]
  clear hres
  try conv=>whnf
  refine ⟨Unit, fun _ => [(2, .ref 0 0), (3, .ref 1 0), (4, .ref 2 0), (7, .ref 3 0), (9, .clo 36 [] [.ref 3 0]), (10, .ref 4 0)], fun _ => 5, fun _ => [(0, .var (cellsM m)), (1, .var (cellsA a)), (2, .var cells0), (3, .var [.pv (.sl (l.map pairPV))]), (4, .var [.pv (i64 (l.map pairPV).length), .pv (rowPV (vsU m a l m.val.length)), .pv .nil])], ?_, ?_⟩
  · try conv=>whnf
    refine ⟨{ i : Nat // i ≤ m.val.length }, fun i => [(2, .ref 0 0), (3, .ref 1 0), (4, .ref 2 0), (7, .ref 3 0), (9, .clo 36 [] [.ref 3 0]), (10, .ref 4 0), (41, .pv (i64 (m.val.map u64).length)), (42, .pv (i64 i.1))], fun _ => 6, fun i => [(0, .var (cellsM m)), (1, .var (cellsA a)), (2, .var cells0), (3, .var [.pv (.sl (l.map pairPV))]), (4, .var [.pv (i64 (l.map pairPV).length), .buf 5 ((vsU m a l i.1).map u64).length, .pv .nil]), (5, .arr 1 ((vsU m a l i.1).map u64))], fun i => m.val.length - i.1, ⟨⟨0, Nat.zero_le _⟩, (by refine Wk.of ?_ ?_ rfl rfl rfl<;>repeat' (first|exact trivial|exact WkD.same _|exact WkO.same _ _ rfl|exact WkD.new' rfl rfl rfl|exact WkO.new _ _ rfl|refine WkO.vars rfl ?_|exact rfl|refine ⟨?_, ?_⟩|fail))⟩, ?_⟩
    rintro ⟨i, hi⟩
    (try conv=>whnf);repeat' (first|(apply And.intro<;>try conv=>whnf)|(intro h;try conv=>whnf)|(apply Or.inl;try conv=>whnf)|fail)
    · rfl
    · exact Int.natCast_nonneg _
    · show ((a.pre.map fpv).length : Int) ≤ 4294967296
      rw [List.length_map]; omega
    · have hi' : i < m.val.length := by simpa using lt_dec h
      have hN : ((a.pre.map fpv).length : Int).toNat = a.pre.length := by rw [List.length_map]; rfl
      have hz1 : List.replicate ((a.pre.map fpv).length : Int).toNat (PV.int .u64 0) = (mixV a.pre.length (fun e => u64 (valuP m a e i)) (fun _ => u64 0) 0) := by rw [hN]; exact mixV_rep _ _ _
      have hmlv := mixV_len a.pre.length (fun e => u64 (valuP m a e i)) (fun _ => u64 0)
      refine ⟨Unit, fun _ => [(2, .ref 0 0), (3, .ref 1 0), (4, .ref 2 0), (7, .ref 3 0), (9, .clo 36 [] [.ref 3 0]), (10, .ref 4 0), (12, .ref 7 0), (41, .pv (i64 (m.val.map u64).length)), (42, .pv (i64 i))], fun _ => 8, fun _ => [(0, .var (cellsM m)), (1, .var (cellsA a)), (2, .var cells0), (3, .var [.pv (.sl (l.map pairPV))]), (4, .var [.pv (i64 (l.map pairPV).length), .buf 5 ((vsU m a l i).map u64).length, .pv .nil]), (5, .arr 1 ((vsU m a l i).map u64)), (7, .var [.pv (.sl (mixV a.pre.length (fun e => u64 (valuP m a e i)) (fun _ => u64 0) a.pre.length))])], ?_, ?_⟩
      · try conv=>whnf
        refine ⟨{ k : Nat // k ≤ a.pre.length }, fun k => [(2, .ref 0 0), (3, .ref 1 0), (4, .ref 2 0), (7, .ref 3 0), (9, .clo 36 [] [.ref 3 0]), (10, .ref 4 0), (11, .pv (i64 i)), (12, .ref 7 0), (41, .pv (i64 (m.val.map u64).length)), (42, .pv (i64 i)), (50, .pv (i64 a.pre.length)), (51, .pv (i64 k.1))], fun _ => 8, fun k => [(0, .var (cellsM m)), (1, .var (cellsA a)), (2, .var cells0), (3, .var [.pv (.sl (l.map pairPV))]), (4, .var [.pv (i64 (l.map pairPV).length), .buf 5 ((vsU m a l i).map u64).length, .pv .nil]), (5, .arr 1 ((vsU m a l i).map u64)), (6, .arr 1 (mixV a.pre.length (fun e => u64 (valuP m a e i)) (fun _ => u64 0) k.1)), (7, .var [.buf 6 (mixV a.pre.length (fun e => u64 (valuP m a e i)) (fun _ => u64 0) k.1).length])], fun k => a.pre.length - k.1, ⟨⟨0, Nat.zero_le _⟩, ?_⟩, ?_⟩
        · (refine Wk.of ?_ ?_ rfl rfl rfl<;>repeat' (first|exact trivial|exact WkD.same _|exact WkO.same _ _ rfl|refine WkD.int ?_|refine WkO.vars rfl ?_|refine ⟨?_, ?_⟩|fail))
          · exact congrArg (fun z : Nat => (z : Int)) ((List.length_replicate ..).trans hN)
          · exact WkO.same _ _ (congrArg (fun z => some (DObj.arr 1 z)) hz1)
          · exact WkD.eq (congrArg (fun z : List PV => DV.buf 6 z.length) hz1)
        rintro ⟨k, hk⟩
        have hmk := hmlv k
        have hmk1 := hmlv (k + 1)
        have hst := mixV_set (n := a.pre.length) (p := fun e => u64 (valuP m a e i)) (q := fun _ => u64 0) (e := k)
        (try conv=>whnf);repeat' (first|(apply And.intro<;>try conv=>whnf)|(intro h;try conv=>whnf)|fail)
        · have hk' : k < a.pre.length := lt_dec h
          have hV := ac_Value a k i hfa hl hp
          have hv0 := valI_ok hma hk' hi'
          obtain ⟨g, hg⟩ : ∃ g, valI a k i = (g, 0) := ⟨(valI a k i).1, Prod.ext rfl hv0⟩
          rw [hg] at hV
          have hH := ck_Holds m g hf
          have hvp : (holdsI m g).1 = valuP m a k i := by rw [valuP, hg]
          obtain ⟨z, hz⟩ : ∃ z, holdsI m g = (valuP m a k i, z) := ⟨(holdsI m g).2, Prod.ext hvp rfl⟩
          rw [hz] at hH
          (try conv=>whnf);repeat' (first|(apply And.intro<;>try conv=>whnf)|(intro h;try conv=>whnf)|(refine PureFn.dy hV rfl ?_;try conv=>whnf)|fail)
          · cases h
          refine ⟨Plan.lin 0 10, [9], by kernel_rfl, ?_⟩
          (try conv=>whnf);repeat' (first|(apply And.intro<;>try conv=>whnf)|(refine ⟨_, (by (conv=>whnf);exact hH), rfl, ?_⟩;try conv=>whnf)|fail)
          refine ⟨k, rfl, by rw [hmk]; exact hk', ?_⟩
          (try conv=>whnf);repeat' (first|(apply And.intro<;>try conv=>whnf)|fail)
          refine ⟨_, mixV_old hk', Nat.le_refl 1, ?_⟩
          try conv=>whnf
          refine ⟨⟨k + 1, hk'⟩, by show a.pre.length - (k + 1) < a.pre.length - k; omega, ?_⟩
          (refine Wk.of ?_ ?_ rfl rfl rfl<;>repeat' (first|exact trivial|exact WkD.same _|exact WkO.same _ _ rfl|refine WkD.int ?_|refine WkO.vars rfl ?_|refine ⟨?_, ?_⟩|(refine wrapA ?_ ?_ ?_;(focus simp;done);(focus (try dsimp only);omega);(focus (try dsimp only);omega))|fail))
          · exact WkO.same _ _ (congrArg (fun z => some (DObj.arr 1 z)) hst)
          · exact WkD.eq (congrArg (DV.buf 6) (hmk.trans hmk1.symm))
        · have hk' : k = a.pre.length := ge_dec h hk
          subst hk'
          exact ⟨(), (by refine Wk.of ?_ ?_ rfl rfl rfl<;>repeat' (first|exact trivial|exact WkD.same _|exact WkO.same _ _ rfl|exact WkD.fz _ _ _ rfl (Or.inl ⟨_, rfl⟩) rfl|refine WkO.vars rfl ?_|refine ⟨?_, ?_⟩|fail))⟩
      rintro ⟨⟩
      have hvl : (mixV a.pre.length (fun e => u64 (valuP m a e i)) (fun _ => u64 0) a.pre.length) = (vlU m a i).map u64 := by rw [mixV_full, vlU, List.map_map]; rfl
      have hlv : (vlU m a i).length = a.pre.length := by simp [vlU]
      have hv64 : ∀ s, s ∈ vlU m a i → s < 2 ^ 64 := fun s hs => by
        obtain ⟨e, _, rfl⟩ := List.mem_map.1 hs
        exact Nat.lt_of_lt_of_le (holds_lt n hM) (pow64_le hn64)
      have hmk : maskOf (fun k => ((vlU m a i).getD (l.getD k (0, 0)).2 0).testBit (l.getD k (0, 0)).1) l.length = valP m a l i := maskOf_congr fun k hk => by
        rw [vlU_get (hmem _ (List.mem_iff_getElem?.2 ⟨k, getD_mem hk⟩)).2]
      have hvs := vsU_succ m a l i
      have hvsl : ((vsU m a l i).map u64).length ≤ 1000 := by simp [vsU]; omega
      rw [hvl]
      try conv=>whnf
      have er : (vsU m a l i).map u64 ++ [PV.int .u64 ((valP m a l i : Nat) : Int)] = (vsU m a l (i + 1)).map u64 := by rw [hvs, List.map_append]; rfl
      have hlpV : ∀ y, y ∈ l → y.1 < 64 ∧ y.2 < (vlU m a i).length := fun y hy => ⟨by have := (hmem y hy).1; omega, by rw [hlv]; exact (hmem y hy).2⟩
      refine ⟨updPlan, [4, 6, 8], by kernel_rfl, ?_⟩
      (try conv=>whnf);repeat' (first|(apply And.intro<;>try conv=>whnf)|fail)
      all_goals (refine whr_V m a l (vsU m a l i) (vlU m a i) hlpV hv64 hl64 _ _ ?_)
      all_goals (rw [hmk])
      all_goals ((try conv=>whnf);repeat' (first|(apply And.intro<;>try conv=>whnf)|(apply cellsI;rfl)|(apply szI;rfl)|fail))
      · exact app_big (n := 1000) hvsl (by decide)
      · refine ⟨⟨i + 1, hi'⟩, by show m.val.length - (i + 1) < m.val.length - i; omega, ?_⟩
        (refine Wk.of ?_ ?_ rfl rfl rfl<;>repeat' (first|exact trivial|exact WkD.same _|exact WkO.same _ _ rfl|exact WkD.eq (congrArg (fun z : List PV => DV.buf _ z.length) er)|exact WkO.same _ _ (congrArg (fun z => some (DObj.arr _ z)) er)|refine WkD.int ?_|refine WkO.vars rfl ?_|refine ⟨?_, ?_⟩|(refine wrapA ?_ ?_ ?_;(focus simp;done);(focus (try dsimp only);omega);(focus (try dsimp only);omega))|fail))
      · exact app_big (n := 1000) hvsl (by decide)
      · refine ⟨⟨i + 1, hi'⟩, by show m.val.length - (i + 1) < m.val.length - i; omega, ?_⟩
        (refine Wk.of ?_ ?_ rfl rfl rfl<;>repeat' (first|exact trivial|exact WkD.same _|exact WkO.same _ _ rfl|exact WkD.eq (congrArg (fun z : List PV => DV.buf _ z.length) er)|exact WkO.same _ _ (congrArg (fun z => some (DObj.arr _ z)) er)|refine WkD.int ?_|refine WkO.vars rfl ?_|refine ⟨?_, ?_⟩|(refine wrapA ?_ ?_ ?_;(focus simp;done);(focus (try dsimp only);omega);(focus (try dsimp only);omega))|fail))
      · exact app_big (n := 1000) hvsl (by decide)
      · refine ⟨⟨i + 1, hi'⟩, by show m.val.length - (i + 1) < m.val.length - i; omega, ?_⟩
        (refine Wk.of ?_ ?_ rfl rfl rfl<;>repeat' (first|exact trivial|exact WkD.same _|exact WkO.same _ _ rfl|exact WkD.eq (congrArg (fun z : List PV => DV.buf _ z.length) er)|exact WkO.same _ _ (congrArg (fun z => some (DObj.arr _ z)) er)|refine WkD.int ?_|refine WkO.vars rfl ?_|refine ⟨?_, ?_⟩|(refine wrapA ?_ ?_ ?_;(focus simp;done);(focus (try dsimp only);omega);(focus (try dsimp only);omega))|fail))
    · have hi' : i = m.val.length := by have := ge_dec (m := (m.val.map u64).length) h (by simpa using hi); simpa using this
      subst hi'
      exact ⟨(), (by refine Wk.of ?_ ?_ rfl rfl rfl<;>repeat' (first|exact trivial|exact WkD.same _|exact WkO.same _ _ rfl|exact WkD.fz _ _ _ rfl (Or.inl ⟨_, rfl⟩) rfl|refine WkO.vars rfl ?_|refine ⟨?_, ?_⟩|fail))⟩
  rintro ⟨⟩
  generalize hVS : (vsU m a l m.val.length) = vs
  refine ⟨Unit, fun _ => [(4, .ref 2 0), (7, .ref 3 0), (10, .ref 4 0)], fun _ => 5, fun _ => [(2, .var cells0), (3, .var [.pv (.sl (l.map pairPV))]), (4, .var [.pv (i64 (l.map pairPV).length), .pv (rowPV vs), .pv (.sl ((rsU m a l m.rel.length).map rowPV))])], ?_, ?_⟩
  · try conv=>whnf
    refine ⟨{ i : Nat // i ≤ m.rel.length }, fun i => [(2, .ref 0 0), (3, .ref 1 0), (4, .ref 2 0), (7, .ref 3 0), (9, .clo 36 [] [.ref 3 0]), (10, .ref 4 0), (85, .pv (.sl (m.rel.map rowPV))), (86, .pv (i64 (m.rel.map rowPV).length)), (87, .pv (i64 i.1))], fun _ => 6, fun i => [(0, .var (cellsM m)), (1, .var (cellsA a)), (2, .var cells0), (3, .var [.pv (.sl (l.map pairPV))]), (4, .var [.pv (i64 (l.map pairPV).length), .pv (rowPV vs), .buf 5 ((rsU m a l i.1).map rowPV).length]), (5, .arr 1 ((rsU m a l i.1).map rowPV))], fun i => m.rel.length - i.1, ⟨⟨0, Nat.zero_le _⟩, (by refine Wk.of ?_ ?_ rfl rfl rfl<;>repeat' (first|exact trivial|exact WkD.same _|exact WkO.same _ _ rfl|exact WkD.new' rfl rfl rfl|exact WkO.new _ _ rfl|refine WkO.vars rfl ?_|exact rfl|refine ⟨?_, ?_⟩|fail))⟩, ?_⟩
    rintro ⟨i, hi⟩
    (try conv=>whnf);repeat' (first|(apply And.intro<;>try conv=>whnf)|(intro h;try conv=>whnf)|(apply infoT;rfl)|fail)
    · have hi' : i < m.rel.length := by simpa using lt_dec h
      obtain ⟨r, hr, hrw⟩ : ∃ r, m.rel[i]? = some r ∧ m.rel.getD i [] = r := ⟨_, getD_mem hi', rfl⟩
      have hrm : r ∈ m.rel := List.mem_iff_getElem?.2 ⟨i, hr⟩
      have hrl := hM.rows r hrm
      have hrb := hf.2 r hrm
      obtain ⟨ra, hra, hraw⟩ : ∃ r, a.rel[i]? = some r ∧ a.rel.getD i [] = r := ⟨_, getD_mem (by have := hO.ags; omega), rfl⟩
      have hram : ra ∈ a.rel := List.mem_iff_getElem?.2 ⟨i, hra⟩
      have hral := hO.rows ra hram
      have hrab := hfa ra hram
      have hN : ((l.map pairPV).length : Int).toNat = l.length := by rw [List.length_map]; rfl
      have hz1 : List.replicate ((l.map pairPV).length : Int).toNat (PV.int .u64 0) = (mixV l.length (fun k => u64 (rowP r ra l (l.getD k (0, 0)))) (fun _ => u64 0) 0) := by rw [hN]; exact mixV_rep _ _ _
      have hmlv := mixV_len l.length (fun k => u64 (rowP r ra l (l.getD k (0, 0)))) (fun _ => u64 0)
      refine ⟨_, _, rfl, idx_map hr, rfl, ?_⟩
      (try conv=>whnf);repeat' (first|(apply And.intro<;>try conv=>whnf)|(apply Or.inl;try conv=>whnf)|fail)
      · rfl
      · exact Int.natCast_nonneg _
      · show ((l.map pairPV).length : Int) ≤ 4294967296
        rw [List.length_map]; omega
      refine ⟨Unit, fun _ => [(2, .ref 0 0), (3, .ref 1 0), (4, .ref 2 0), (7, .ref 3 0), (9, .clo 36 [] [.ref 3 0]), (10, .ref 4 0), (18, .pv (.sl (mixV l.length (fun k => u64 (rowP r ra l (l.getD k (0, 0)))) (fun _ => u64 0) l.length))), (85, .pv (.sl (m.rel.map rowPV))), (86, .pv (i64 (m.rel.map rowPV).length)), (87, .pv (i64 i))], fun _ => 6, fun _ => [(0, .var (cellsM m)), (1, .var (cellsA a)), (2, .var cells0), (3, .var [.pv (.sl (l.map pairPV))]), (4, .var [.pv (i64 (l.map pairPV).length), .pv (rowPV vs), .buf 5 ((rsU m a l i).map rowPV).length]), (5, .arr 1 ((rsU m a l i).map rowPV))], ?_, ?_⟩
      · try conv=>whnf
        refine ⟨{ k : Nat // k ≤ l.length }, fun k => [(2, .ref 0 0), (3, .ref 1 0), (4, .ref 2 0), (7, .ref 3 0), (9, .clo 36 [] [.ref 3 0]), (10, .ref 4 0), (16, .ref 6 0), (17, .ref 7 0), (18, .buf 8 (mixV l.length (fun k => u64 (rowP r ra l (l.getD k (0, 0)))) (fun _ => u64 0) k.1).length), (85, .pv (.sl (m.rel.map rowPV))), (86, .pv (i64 (m.rel.map rowPV).length)), (87, .pv (i64 i)), (95, .pv (.sl (l.map pairPV))), (96, .pv (i64 (l.map pairPV).length)), (97, .pv (i64 k.1))], fun _ => 9, fun k => [(0, .var (cellsM m)), (1, .var (cellsA a)), (2, .var cells0), (3, .var [.pv (.sl (l.map pairPV))]), (4, .var [.pv (i64 (l.map pairPV).length), .pv (rowPV vs), .buf 5 ((rsU m a l i).map rowPV).length]), (5, .arr 1 ((rsU m a l i).map rowPV)), (6, .var [.pv (i64 i)]), (7, .var [.pv (rowPV r)]), (8, .arr 1 (mixV l.length (fun k => u64 (rowP r ra l (l.getD k (0, 0)))) (fun _ => u64 0) k.1))], fun k => l.length - k.1, ⟨⟨0, Nat.zero_le _⟩, ?_⟩, ?_⟩
        · (refine Wk.of ?_ ?_ rfl rfl rfl<;>repeat' (first|exact trivial|exact WkD.same _|exact WkO.same _ _ rfl|refine ⟨?_, ?_⟩|fail))
          · exact WkD.eq (congrArg (fun z : List PV => DV.buf 8 z.length) hz1)
          · exact WkO.same _ _ (congrArg (fun z => some (DObj.arr 1 z)) hz1)
        rintro ⟨k, hk⟩
        have hmk := hmlv k
        have hmk1 := hmlv (k + 1)
        have hst := mixV_set (n := l.length) (p := fun k => u64 (rowP r ra l (l.getD k (0, 0)))) (q := fun _ => u64 0) (e := k)
        (try conv=>whnf);repeat' (first|(apply And.intro<;>try conv=>whnf)|(intro h;try conv=>whnf)|(apply infoT;rfl)|fail)
        · have hk' : k < l.length := by simpa using lt_dec h
          obtain ⟨x, hx, hxw⟩ : ∃ y, l[k]? = some y ∧ l.getD k (0, 0) = y := ⟨_, getD_mem hk', rfl⟩
          have hxm := hmem x (List.mem_iff_getElem?.2 ⟨k, hx⟩)
          refine ⟨_, _, rfl, idx_map hx, rfl, ?_⟩
          try conv=>whnf
          refine DC.call 10 (HW m a l vs (rsU m a l i) i r (mixV l.length (fun k => u64 (rowP r ra l (l.getD k (0, 0)))) (fun _ => u64 0) k) x) ⟨rfl, rfl, rfl, rfl, rfl, rfl, rfl, rfl, rfl, rfl, trivial⟩ rfl rfl rfl rfl fun M' => ?_
          refine whr_W m a l vs (rsU m a l i) i r (mixV l.length (fun k => u64 (rowP r ra l (l.getD k (0, 0)))) (fun _ => u64 0) k) x ra hra (by omega) (by omega) (fun y hy => by have := hmem y hy; exact ⟨by omega, by omega⟩) hrb hrab hl64 _ _ ?_
          refine ⟨rfl, ?_⟩
          (try conv=>whnf);repeat' (first|(apply And.intro<;>try conv=>whnf)|fail)
          refine ⟨k, rfl, by rw [hmk]; exact hk', ?_⟩
          (try conv=>whnf);repeat' (first|(apply And.intro<;>try conv=>whnf)|fail)
          refine ⟨_, mixV_old hk', Nat.le_refl 1, ?_⟩
          try conv=>whnf
          rw [hxw] at hst
          refine ⟨⟨k + 1, hk'⟩, by show l.length - (k + 1) < l.length - k; omega, ?_⟩
          (refine Wk.of ?_ ?_ rfl rfl rfl<;>repeat' (first|exact trivial|exact WkD.same _|exact WkO.same _ _ rfl|refine WkD.int ?_|refine ⟨?_, ?_⟩|(refine wrapA ?_ ?_ ?_;(focus simp;done);(focus (try dsimp only);omega);(focus (try dsimp only);omega))|fail))
          · exact WkD.eq (congrArg (DV.buf 8) (hmk.trans hmk1.symm))
          · exact WkO.same _ _ (congrArg (fun z => some (DObj.arr 1 z)) hst)
        · have hk' : k = l.length := by have := ge_dec (m := (l.map pairPV).length) h (by simpa using hk); simpa using this
          subst hk'
          exact ⟨(), (by refine Wk.of ?_ ?_ rfl rfl rfl<;>repeat' (first|exact trivial|exact WkD.same _|exact WkO.same _ _ rfl|exact WkD.fz _ _ _ rfl (Or.inl ⟨_, rfl⟩) rfl|refine ⟨?_, ?_⟩|fail))⟩
      rintro ⟨⟩
      have hrs := rsU_succ m a l i
      have hrsl : ((rsU m a l i).map rowPV).length ≤ 1000 := by simp [rsU]; omega
      have er : (rsU m a l i).map rowPV ++ [PV.sl (mixV l.length (fun k => u64 (rowP r ra l (l.getD k (0, 0)))) (fun _ => u64 0) l.length)] = (rsU m a l (i + 1)).map rowPV := by
        rw [hrs, List.map_append, mixV_full, relP, hrw, hraw]
        congr 1
        show [PV.sl _] = [rowPV (l.map (rowP r ra l))]
        rw [rowPV, List.map_map]
        congr 2
        exact map_getD (g := fun x => u64 (rowP r ra l x)) (d := (0, 0)) rfl
      (try conv=>whnf);repeat' (first|(apply And.intro<;>try conv=>whnf)|(apply cellsI;rfl)|(apply szI;rfl)|(apply Or.inl;try conv=>whnf)|fail)
      · exact app_big (n := 1000) hrsl (by decide)
      refine ⟨⟨i + 1, hi'⟩, by show m.rel.length - (i + 1) < m.rel.length - i; omega, ?_⟩
      (refine Wk.of ?_ ?_ rfl rfl rfl<;>repeat' (first|exact trivial|exact WkD.same _|exact WkO.same _ _ rfl|exact WkD.eq (congrArg (fun z : List PV => DV.buf _ z.length) er)|exact WkO.same _ _ (congrArg (fun z => some (DObj.arr _ z)) er)|refine WkD.int ?_|refine WkO.vars rfl ?_|refine ⟨?_, ?_⟩|(refine wrapA ?_ ?_ ?_;(focus simp;done);(focus (try dsimp only);omega);(focus (try dsimp only);omega))|fail))
    · have hi' : i = m.rel.length := by have := ge_dec (m := (m.rel.map rowPV).length) h (by simpa using hi); simpa using this
      subst hi'
      exact ⟨(), (by refine Wk.of ?_ ?_ rfl rfl rfl<;>repeat' (first|exact trivial|exact WkD.same _|exact WkO.same _ _ rfl|exact WkD.fz _ _ _ rfl (Or.inl ⟨_, rfl⟩) rfl|refine WkO.vars rfl ?_|refine ⟨?_, ?_⟩|fail))⟩
  rintro ⟨⟩
  try conv=>whnf
  refine ⟨.one 0 (.two 1 (.one 2 (.one 3 (.one 4 .done))) 2 (.one 1 (.one 3 (.one 4 .done)))), [2], by kernel_rfl, ?_⟩
  have hfin : updPV (prodM m a l, l, 0) = .tup [.agg [i64 (l.map pairPV).length, rowPV vs, .sl ((rsU m a l m.rel.length).map rowPV)], .sl (l.map pairPV), .int .i64 0] := by rw [← hVS, List.length_map]; rfl
  (try conv=>whnf);repeat' (first|(apply And.intro<;>try conv=>whnf)|fail)
  all_goals (rw [hfin]; exact .refl _)
end Go.Proofs.Ytkjjoalphllolaa
