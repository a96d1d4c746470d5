/- Parts of the proof, one after the other: The law TopHats: the model of agents that see some facts, walked. The dynamic language: where its formulas hold (plain). The dynamic language: sets, static formulas, requests (plain). The dynamic language: the evaluation of the program walked: at. The dynamic language: the evaluation of the program walked: nodes. The dynamic language: the evaluation of the program walked: agents and groups. The dynamic language: the evaluation of the program walked: announcements. The dynamic language: the evaluation of the program walked: events. -/
import Derived.Test.YtjdmfhggokfflaaDoorM7
set_option maxRecDepth 100000
set_option maxHeartbeats 4000000
namespace Go.Proofs.YtjdmfhggokfflaaDoor
open Go Go.Dv

theorem ck_Valid (m : Mo) (f : List Nd) (hf : FitM m) : PureFn Tryd.prog 7 [m.pv, fpv f] (.tup [.bool (validI m f).1, .int .i64 (validI m f).2]) := by
  have hH := ck_Holds m f hf
  have hlt : (holdsI m f).2 = 0 → ∃ n, OkM m n := fun h => (reqI_ok (holds_split h).1).1
  obtain ⟨b, qb⟩ : ∃ b, b = (validI m f).1 := ⟨_, rfl⟩
  rw [← qb, show (validI m f).2 = (holdsI m f).2 from rfl]
  rw [validI] at qb
  generalize holdsI m f = X at hH hlt qb ⊢
  obtain ⟨s, e⟩ := X
  simp only at qb hlt
  refine PureFn.introC [2] mixed (fn := Tryd.f7) rfl rfl rfl fun M w0 => ?_
  try conv=>whnf
  refine ⟨Unit, fun _ => [(2, .ref 0 0), (6, .pv (u64 s)), (7, .pv (.int .i64 e))], fun _ => 1, fun _ => [(0, .var (cellsM m))], ?_, ?_⟩
  · (try conv=>whnf);repeat' (first|(refine PureFn.dcq (f := 8) rfl ?_;try conv=>whnf)|(refine ⟨_, _, hH, ?_, ?_⟩;(focus first|(refine ⟨?_, ?_, trivial⟩<;>first|exact PLe.refl _|exact PLe.nil)|exact trivial);try conv=>whnf)|fail)
    exact ⟨(), (by refine Wk.of ?_ ?_ rfl rfl rfl<;>repeat' (first|exact trivial|exact WkD.same _|exact WkO.same _ _ rfl|refine ⟨?_, ?_⟩|fail))⟩
  rintro ⟨⟩
  cases he : (e == 0) with
  | false =>
    have f1 : (e == 0) = false := he
    rw [he, cond_false] at qb
    (try conv=>whnf);repeat' (first|(apply And.intro<;>try conv=>whnf)|(intro h;first|with_reducible exact tf h (by assumption)|try conv=>whnf)|(apply whenOff;(focus with_reducible assumption);try conv=>whnf)|fail)
    exact PLe.tups ⟨le_bool (by rw [f1, qb]; rfl), .refl _, trivial⟩
  | true =>
    have he0 : e = 0 := by simpa using he
    obtain ⟨n, hM⟩ := hlt he0
    have hn1 := hM.n1
    have hn64 := hM.n64
    rw [he, cond_true, hM.nn, Int.toNat_natCast] at qb
    have hsh : shrU 18446744073709551615 (IntKind.wrap .i64 (64 - m.n)) = ((2 ^ n - 1 : Nat) : Int) := by rw [hM.nn, Go.Dv.wrap_small (by omega) (by omega)]; exact shr_all hn1 hn64
    have hnn : 0 ≤ IntKind.wrap .i64 (64 - m.n) := by rw [hM.nn, Go.Dv.wrap_small (by omega) (by omega)]; omega
    (try conv=>whnf);repeat' (first|(apply And.intro<;>try conv=>whnf)|(intro h;try conv=>whnf)|apply True.intro|(apply WhenQ.mk;(try conv=>whnf);rotate_left;(try conv=>whnf);rotate_right)|with_reducible assumption|fail)
    · exact hnn
    · refine PLe.tups ⟨le_bool ?_, .refl _, trivial⟩
      show (bif (e == 0) then ((s : Int) == shrU 18446744073709551615 (IntKind.wrap .i64 (64 - m.n))) else false) = _
      rw [he, hsh, cond_true, qb]
      by_cases h : s = 2 ^ n - 1
      · rw [h]; simp
      · have h2 : ¬ ((s : Int) = ((2 ^ n - 1 : Nat) : Int)) := fun h3 => h (by omega)
        rw [beq_false_of_ne h2, beq_false_of_ne h]
def whyI (a : Nat) (f : List Nd) : List Nd := buildL (n0 6) [buildL (nI 9 a) [f], buildL (nI 9 a) [buildL (n0 4) [f]]]
theorem pz_Whether (a : Nat) (f : List Nd) (ha : a < 4) (hl : (((whyI a f).length : Int) == 0) = false) : PureFn Tryd.prog 5 [i64 a, fpv f] (.tup [fpv (whyI a f), .int .i64 0]) := by
  obtain ⟨K1, q1⟩ : ∃ z : List Nd, z = buildL (nI 9 a) [f] := ⟨_, rfl⟩
  have h1 := fm_Know a f
  rw [← q1] at h1
  obtain ⟨N, q2⟩ : ∃ z : List Nd, z = buildL (n0 4) [f] := ⟨_, rfl⟩
  have h2 := fm_Not f
  rw [← q2] at h2
  obtain ⟨K2, q3⟩ : ∃ z : List Nd, z = buildL (nI 9 a) [N] := ⟨_, rfl⟩
  have h3 := fm_Know a N
  rw [← q3] at h3
  obtain ⟨W, q4⟩ : ∃ z : List Nd, z = buildL (n0 6) [K1, K2] := ⟨_, rfl⟩
  have h4 := fm_Or K1 K2
  rw [← q4] at h4
  have hW : whyI a f = W := by rw [whyI, q4, q1, q3, q2]
  rw [hW] at hl ⊢
  have e1 : ((W.map Nd.pv).length : Int) = (W.length : Int) := by simp
  refine PureFn.introC [3, 4] mixed (fn := Tryd.f5) rfl rfl rfl fun M w0 => ?_
  try conv=>whnf
  refine ⟨Unit, fun _ => [(0, .pv (i64 a)), (1, .pv (fpv f))], fun _ => 0, fun _ => [], ?_, ?_⟩
  · (try conv=>whnf);repeat' (first|(apply And.intro<;>try conv=>whnf)|(intro h;try conv=>whnf)|apply True.intro|(apply WhenQ.mk;(try conv=>whnf);rotate_left;(try conv=>whnf);rotate_right)|with_reducible assumption|(apply not_of;with_reducible assumption)|fail)
    · exfalso
      have h' : (bif decide ((a : Int) < 0) then true else decide ((a : Int) ≥ 4)) = true := h
      rw [decide_eq_false (by omega), decide_eq_false (by omega)] at h'
      cases h'
    · exact ⟨(), (by refine Wk.of ?_ ?_ rfl rfl rfl<;>repeat' (first|exact trivial|exact WkD.same _|refine ⟨?_, ?_⟩|fail))⟩
  rintro ⟨⟩
  refine ⟨Unit, fun _ => [(6, .pv (fpv W))], fun _ => 0, fun _ => [], ?_, ?_⟩
  · (try conv=>whnf);repeat' (first|(refine PureFn.dcq (f := 17) rfl ?_;try conv=>whnf)|(refine PureFn.dcq (f := 18) rfl ?_;try conv=>whnf)|(refine PureFn.dcq (f := 16) rfl ?_;try conv=>whnf)|(refine ⟨_, _, h1, ?_, ?_⟩;(focus first|(refine ⟨?_, ?_, trivial⟩<;>first|exact PLe.refl _|exact PLe.nil)|exact trivial);try conv=>whnf)|(refine ⟨_, _, h2, ?_, ?_⟩;(focus first|(refine ⟨?_, trivial⟩<;>first|exact PLe.refl _|exact PLe.nil)|exact trivial);try conv=>whnf)|(refine ⟨_, _, h3, ?_, ?_⟩;(focus first|(refine ⟨?_, ?_, trivial⟩<;>first|exact PLe.refl _|exact PLe.nil)|exact trivial);try conv=>whnf)|(refine ⟨_, _, h4, ?_, ?_⟩;(focus first|(refine ⟨?_, ?_, trivial⟩<;>first|exact PLe.refl _|exact PLe.nil)|exact trivial);try conv=>whnf)|fail)
    exact ⟨(), (by refine Wk.of ?_ ?_ rfl rfl rfl<;>repeat' (first|exact trivial|exact WkD.same _|refine ⟨?_, ?_⟩|fail))⟩
  rintro ⟨⟩
  (try conv=>whnf);repeat' (first|(apply And.intro<;>try conv=>whnf)|(intro h;try conv=>whnf)|fail)
  · exfalso
    have h' : (((W.map Nd.pv).length : Int) == 0) = true := h
    rw [e1, hl] at h'
    cases h'
  · exact .refl _
def HX (n : Nat) (l : List Nat) : List (Nat × DObj) := [(0, .var [.pv (i64 n)]), (1, .var [.pv (intsPV l)]), (2, .var [.pv (.int .i64 0), .pv .nil, .pv .nil])]
theorem seen1 {M : Nat → Prop} {w0 : World} (n : Nat) (l : List Nat) (s : Nat) (hn : n ≤ 4) (hs : s < 2 ^ n) (base : Nat) (K : DV → DH → Prop) (hK : K (.pv (.bool false)) ⟨3, 0, base, objsOf (HX n l)⟩) :
    DC Tryd.prog M w0 13 [.pv (i64 s), .ref 0 0] ⟨3, 0, base, objsOf (HX n l)⟩ K := by
  have e : (bif decide ((s : Int) < 0) then true else decide ((s : Int) ≥ shl64 1 (n : Int))) = false := by
    rw [decide_eq_false (by omega), shl_n (by omega), decide_eq_false (by omega)]; rfl
  rw [← e] at hK
  refine DC.intro mixed (fn := Tryd.f13) rfl rfl rfl ?_
  (try conv=>whnf);repeat' (first|(apply And.intro<;>try conv=>whnf)|(intro h;try conv=>whnf)|apply True.intro|(apply WhenQ.mk;(try conv=>whnf);rotate_left;(try conv=>whnf);rotate_right)|with_reducible assumption|(apply not_of;with_reducible assumption)|fail)
  · exact Int.natCast_nonneg _
  · exact hK
theorem hx_idx {M : Nat → Prop} {w0 : World} (n : Nat) (l : List Nat) (hn : n ≤ 4) (hl : l.length ≤ 4) (hr : ∀ s, s ∈ l → s < 2 ^ n) (base : Nat) (K : DV → DH → Prop) (hK : K (.pv (.int .i64 (-1))) ⟨3, 0, base, objsOf (HX n l)⟩) :
    DC Tryd.prog M w0 24 [.pv (intsPV l), .clo 13 [] [.ref 0 0]] ⟨3, 0, base, objsOf (HX n l)⟩ K := by
  refine DC.weaken (DC.intro mixed (fn := Tryd.f24) rfl rfl rfl ?_)
  try conv=>whnf
  refine ⟨{ i : Nat // i ≤ l.length }, fun i => [(0, .pv (intsPV l)), (1, .clo 13 [] [.ref 0 0]), (7, .pv (i64 (l.map i64).length)), (8, .pv (i64 i.1))], fun _ => 3, fun _ => HX n l, fun i => l.length - i.1, ⟨⟨0, Nat.zero_le _⟩, (by refine Wk.of ?_ ?_ rfl rfl rfl<;>repeat' (first|exact trivial|exact WkD.same _|exact WkO.same _ _ rfl|refine ⟨?_, ?_⟩|fail))⟩, ?_⟩
  rintro ⟨i, hi⟩
  (try conv=>whnf);repeat' (first|(apply And.intro<;>try conv=>whnf)|(intro h;try conv=>whnf)|(apply infoT;rfl)|fail)
  · have hi' : i < l.length := by simpa using lt_dec h
    have hn' : l[i]? = some l[i] := List.getElem?_eq_getElem hi'
    have hri := hr _ (List.getElem_mem hi')
    refine ⟨_, _, rfl, idx_map hn', rfl, ?_⟩
    try conv=>whnf
    refine seen1 n l l[i] hn hri _ _ ?_
    (try conv=>whnf);repeat' (first|(apply And.intro<;>try conv=>whnf)|(intro h;first|with_reducible exact ft0 h|try conv=>whnf)|fail)
    exact ⟨⟨i + 1, hi'⟩, by show l.length - (i + 1) < l.length - i; omega, (by refine Wk.of ?_ ?_ rfl rfl rfl<;>repeat' (first|exact trivial|exact WkD.same _|exact WkO.same _ _ rfl|refine WkD.int ?_|refine ⟨?_, ?_⟩|(refine wrapA ?_ ?_ ?_;(focus simp;done);(focus (try dsimp only);omega);(focus (try dsimp only);omega))|fail))⟩
  · exact ⟨.pv (.int .i64 (-1)), 3, HX n l, (by refine Wk.of ?_ ?_ rfl rfl rfl<;>repeat' (first|exact trivial|exact WkD.same _|exact WkO.same _ _ rfl|refine ⟨?_, ?_⟩|fail)), hK⟩
theorem hx_cont {M : Nat → Prop} {w0 : World} (n : Nat) (l : List Nat) (hn : n ≤ 4) (hl : l.length ≤ 4) (hr : ∀ s, s ∈ l → s < 2 ^ n) (base : Nat) (K : DV → DH → Prop) (hK : K (.pv (.bool false)) ⟨3, 0, base, objsOf (HX n l)⟩) :
    DC Tryd.prog M w0 12 [.pv (intsPV l), .clo 13 [] [.ref 0 0]] ⟨3, 0, base, objsOf (HX n l)⟩ K := by
  refine DC.intro mixed (fn := Tryd.f12) rfl rfl rfl ?_
  try conv=>whnf
  refine hx_idx n l hn hl hr 3 _ ?_
  try conv=>whnf
  exact hK
theorem seen2 {M : Nat → Prop} {w0 : World} (c : Nat) (l : List Nat) (a w s : Nat) (ha : l[a]? = some s) (hw : w < 2 ^ 62) (hs : s < 2 ^ 62) (base : Nat) (K : DV → DH → Prop) (hK : K (.pv (i64 (w &&& s))) ⟨4, 0, base, objsOf (HX c l)⟩) :
    DC Tryd.prog M w0 15 [.pv (i64 a), .pv (i64 w), .ref 1 0] ⟨4, 0, base, objsOf (HX c l)⟩ K := by
  refine DC.intro mixed (fn := Tryd.f15) rfl rfl rfl ?_
  (try conv=>whnf);repeat' (first|(apply And.intro<;>try conv=>whnf)|(apply infoT;rfl)|(refine ⟨_, _, rfl, idx_map (by with_reducible assumption), rfl, ?_⟩;try conv=>whnf)|fail)
  rw [i64, ← and64_nat hw hs] at hK
  exact hK
/-- A list of which the first ones are already the new ones. -/
def mixL {α : Type} (f g : Nat → α) (n p : Nat) : List α := (List.range n).map fun q => bif Nat.blt q p then f q else g q
theorem mixL_len {α : Type} (f g : Nat → α) (n p : Nat) : (mixL f g n p).length = n := by simp [mixL]
theorem mixL_zero {α : Type} (f g : Nat → α) (n : Nat) : mixL f g n 0 = (List.range n).map g := rfl
theorem mixL_full {α : Type} (f g : Nat → α) (n : Nat) : mixL f g n n = (List.range n).map f :=
  List.map_congr_left fun q hq => by rw [blt_iff.2 (List.mem_range.1 hq)]; rfl
theorem mixL_get {α : Type} {f g : Nat → α} {n p : Nat} (h : p < n) : (mixL f g n p)[p]? = some (g p) := by
  rw [mixL, List.getElem?_map, List.getElem?_range h]
  have : Nat.blt p p = false := by rw [← Bool.not_eq_true, blt_iff]; omega
  simp [this]
theorem mixL_set {α : Type} {f g : Nat → α} {n p : Nat} (h : p < n) : (mixL f g n p).set p (f p) = mixL f g n (p + 1) := by
  apply List.ext_getElem?
  intro q
  rw [List.getElem?_set]
  by_cases hq : q < n
  · rw [mixL, mixL, List.getElem?_map, List.getElem?_map, List.getElem?_range hq, List.length_map, List.length_range]
    by_cases e : p = q
    · subst e
      rw [if_pos rfl, if_pos h, Option.map_some, blt_iff.2 (Nat.lt_succ_self p)]; rfl
    · rw [if_neg e, Option.map_some, Option.map_some]
      have : Nat.blt q (p + 1) = Nat.blt q p := by
        apply Bool.eq_iff_iff.2
        rw [blt_iff, blt_iff]; omega
      rw [this]
  · have h1 : (mixL f g n p)[q]? = none := List.getElem?_eq_none (by rw [mixL_len]; omega)
    have h2 : (mixL f g n (p + 1))[q]? = none := List.getElem?_eq_none (by rw [mixL_len]; omega)
    rw [h1, h2, if_neg (by omega)]
theorem val_next : ∀ w, w < 16 → ∀ p, p < 4 → orU ((maskOf (fun v => v.testBit p) w : Nat) : Int) (shlU (IntKind.wrap .u64 (and64 (shr64 (w : Int) (p : Int)) 1)) (w : Int)) = ((maskOf (fun v => v.testBit p) (w + 1) : Nat) : Int) := by decide +kernel
def valF (w p : Nat) : PV := u64 (maskOf (fun v => v.testBit p) w)
theorem val_set {c w p : Nat} (hw : w < 16) (hp : p < c) (hc : c ≤ 4) : (mixL (valF (w + 1)) (valF w) c p).set p (.int .u64 (orU ((maskOf (fun v => v.testBit p) w : Nat) : Int) (shlU (IntKind.wrap .u64 (and64 (shr64 (w : Int) (p : Int)) 1)) (w : Int)))) = mixL (valF (w + 1)) (valF w) c (p + 1) := by
  rw [val_next w hw p (by omega)]
  exact mixL_set (f := valF (w + 1)) (g := valF w) hp
def clsF (s n w : Nat) : PV := u64 (hatC s n w)
def zerF (_ : Nat) : PV := u64 0
theorem mask_stp {q : Nat → Bool} {i : Nat} (hi : i < 63) (h : q i = true) : orU (maskOf q i) (shlU 1 i) = ((maskOf q (i + 1) : Nat) : Int) := by
  rw [shlU_one (by omega), orU_nat (Nat.lt_of_lt_of_le (maskOf_lt q i) (Nat.pow_le_pow_right (by decide) (by omega))) (Nat.pow_lt_pow_right (by decide) (by omega)), mask_or h]
/-- A row of which the first ones are done, and one is under way. -/
def clsL (s n w v : Nat) : List PV := (mixL (clsF s n) zerF n w).set w (u64 (maskOf (fun v => (w &&& s) == (v &&& s)) v))
theorem clsL_len (s n w v : Nat) : (clsL s n w v).length = n := by rw [clsL, List.length_set, mixL_len]
theorem clsL_zero {s n w : Nat} (h : w < n) : mixL (clsF s n) zerF n w = clsL s n w 0 := by
  have h1 : (mixL (clsF s n) zerF n w)[w]? = some (u64 0) := mixL_get h
  apply List.ext_getElem?
  intro q
  rw [clsL, List.getElem?_set]
  by_cases e : w = q
  · subst e
    rw [if_pos rfl, mixL_len, if_pos h, h1]; rfl
  · rw [if_neg e]
theorem clsL_full {s n w : Nat} (h : w < n) : clsL s n w n = mixL (clsF s n) zerF n (w + 1) := mixL_set (f := clsF s n) (g := zerF) h
theorem clsL_get {s n w v : Nat} (h : w < n) : (clsL s n w v)[w]? = some (u64 (maskOf (fun v => (w &&& s) == (v &&& s)) v)) := by
  rw [clsL, List.getElem?_set_self (by rw [mixL_len]; exact h)]
theorem clsL_yes {s n w v : Nat} (hv : v < 63) (h : (w &&& s == v &&& s) = true) : (clsL s n w v).set w (.int .u64 (orU ((maskOf (fun v => (w &&& s) == (v &&& s)) v : Nat) : Int) (shlU 1 (v : Int)))) = clsL s n w (v + 1) := by
  rw [clsL, List.set_set, mask_stp (q := fun v => (w &&& s) == (v &&& s)) hv h]; rfl
theorem clsL_no {s n w v : Nat} (h : (w &&& s == v &&& s) = false) : clsL s n w v = clsL s n w (v + 1) := by
  rw [clsL, clsL, mask_no (q := fun v => (w &&& s) == (v &&& s)) h]
def rowsF (n : Nat) (l : List Nat) (a : Nat) : List PV := (l.take a).map fun s => rowPV (hatR s n)
theorem rowsF_succ {n : Nat} {l : List Nat} {a s : Nat} (h : l[a]? = some s) : rowsF n l a ++ [.sl (mixL (clsF s n) zerF n n)] = rowsF n l (a + 1) := by
  rw [mixL_full, rowsF, rowsF, List.take_add_one, h, List.map_append]
  congr 1
  show [PV.sl ((List.range n).map (clsF s n))] = [rowPV (hatR s n)]
  rw [rowPV, hatR, List.map_map]; rfl
theorem valF_full (c : Nat) : mixL (valF (2 ^ c)) (valF (2 ^ c)) c 0 = (hatV c).map u64 := by
  rw [mixL_zero, hatV, List.map_map]; rfl
theorem valF_zero (c : Nat) : List.replicate c (PV.int .u64 0) = mixL (valF 0) (valF 0) c 0 := by
  rw [mixL_zero]
  apply List.ext_getElem
  · simp
  · intro i h1 h2
    simp [valF, u64, maskOf]
theorem cls_zero (s n : Nat) : List.replicate n (PV.int .u64 0) = mixL (clsF s n) zerF n 0 := by
  rw [mixL_zero]
  apply List.ext_getElem
  · simp
  · intro i h1 h2
    simp [zerF, u64]
theorem pz_build {M : Nat → Prop} {w0 : World} {c : Nat} {l : List Nat} (h : HatOk c l) (base : Nat) (K : DV → DH → Prop) (hK : K (.agg (cellsM (hatM c l))) ⟨8, 0, base, objsOf (HX c l)⟩) :
    DC Tryd.prog M w0 14 [.pv (i64 c), .pv (intsPV (List.range (2 ^ c))), .pv (i64 c), .clo 15 [] [.ref 1 0]] ⟨4, 0, base, objsOf (HX c l)⟩ K := by
  have hp2 := hat_pow h
  have hlen := h.len
  have hlt := h.lt
  have hc4 := h.c4
  have hKe : (.agg (cellsM (hatM c l)) : DV) = .agg [.pv (i64 (2 ^ c)), .pv (.sl (mixL (valF (2 ^ c)) (valF (2 ^ c)) c 0)), .pv (.sl (rowsF (2 ^ c) l c))] := by
    rw [valF_full, rowsF, ← hlen, List.take_length, cellsM, hatM, List.map_map]; rfl
  rw [hKe] at hK
  clear hKe
  obtain ⟨n, qn⟩ : ∃ n, n = 2 ^ c := ⟨_, rfl⟩
  rw [← qn] at hp2 hK hlt ⊢
  clear qn
  obtain ⟨hn2, hn16⟩ := hp2
  have erl : ((List.range n).map i64).length = n := by simp
  refine DC.weaken (DC.introC [27] mixed (fn := Tryd.f14) rfl rfl rfl ?_)
  (try conv=>whnf);repeat' (first|(apply And.intro<;>try conv=>whnf)|(apply Or.inl;try conv=>whnf)|fail)
  · rfl
  · exact Int.natCast_nonneg _
  · exact le_big (by omega)
  refine ⟨{ w : Nat // w ≤ n }, fun w => [(0, .pv (i64 c)), (1, .pv (intsPV (List.range n))), (2, .pv (i64 c)), (3, .clo 15 [] [.ref 1 0]), (8, .ref 4 0), (9, .ref 6 0), (22, .pv (intsPV (List.range n))), (23, .pv (i64 n)), (24, .pv (i64 w.1))], fun _ => 7, fun w => HX c l ++ [(4, .var [.pv (.int .i64 0), .pv .nil, .pv .nil]), (5, .arr 1 (mixL (valF w.1) (valF w.1) c 0)), (6, .var [.pv (i64 n), .buf 5 (mixL (valF w.1) (valF w.1) c 0).length, .pv .nil])], fun w => n - w.1, ⟨⟨0, Nat.zero_le _⟩, ?_⟩, ?_⟩
  · have ez := valF_zero c
    (refine Wk.of ?_ ?_ rfl rfl rfl<;>repeat' (first|exact trivial|exact WkD.same _|exact WkO.same _ _ rfl|exact WkD.eq (congrArg (fun z : List PV => DV.buf _ z.length) ez)|exact WkO.same _ _ (congrArg (fun z => some (DObj.arr _ z)) ez)|refine WkD.int ?_|refine WkO.vars rfl ?_|refine ⟨?_, ?_⟩|fail))
    all_goals exact congrArg (fun z : Nat => (z : Int)) erl
  rintro ⟨w, hw⟩
  (try conv=>whnf);repeat' (first|(apply And.intro<;>try conv=>whnf)|(intro h;try conv=>whnf)|(apply infoT;rfl)|fail)
  · have hw' : w < n := by simpa using lt_dec h
    have hx' : (List.range n)[w]? = some w := List.getElem?_range hw'
    refine ⟨_, _, rfl, idx_map hx', rfl, ?_⟩
    try conv=>whnf
    refine ⟨{ p : Nat // p ≤ c }, fun p => [(0, .pv (i64 c)), (1, .pv (intsPV (List.range n))), (2, .pv (i64 c)), (3, .clo 15 [] [.ref 1 0]), (8, .ref 4 0), (9, .ref 6 0), (10, .pv (i64 w)), (11, .pv (i64 w)), (22, .pv (intsPV (List.range n))), (23, .pv (i64 n)), (24, .pv (i64 w)), (29, .pv (i64 c)), (30, .pv (i64 p.1))], fun _ => 7, fun p => HX c l ++ [(4, .var [.pv (.int .i64 0), .pv .nil, .pv .nil]), (5, .arr 1 (mixL (valF (w + 1)) (valF w) c p.1)), (6, .var [.pv (i64 n), .buf 5 (mixL (valF (w + 1)) (valF w) c p.1).length, .pv .nil])], fun p => c - p.1, ⟨⟨0, Nat.zero_le _⟩, ?_⟩, ?_⟩
    · exact (by refine Wk.of ?_ ?_ rfl rfl rfl<;>repeat' (first|exact trivial|exact WkD.same _|exact WkO.same _ _ rfl|refine ⟨?_, ?_⟩|fail))
    rintro ⟨p, hp⟩
    (try conv=>whnf);repeat' (first|(apply And.intro<;>try conv=>whnf)|(intro h;try conv=>whnf)|fail)
    · have hp' : p < c := lt_dec h
      have hget : (mixL (valF (w + 1)) (valF w) c p)[p]? = some (u64 (maskOf (fun v => v.testBit p) w)) := mixL_get (f := valF (w + 1)) (g := valF w) hp'
      have hlt2 : p < (mixL (valF (w + 1)) (valF w) c p).length := by rw [mixL_len]; exact hp'
      have er := val_set (w := w) (by omega) hp' hc4
      refine ⟨Plan.lin 0 15, [14], by kernel_rfl, ?_⟩
      (try conv=>whnf);repeat' (first|(apply And.intro<;>try conv=>whnf)|fail)
      refine ⟨p, rfl, hlt2, ?_⟩
      (try conv=>whnf);repeat' (first|(apply And.intro<;>try conv=>whnf)|(apply ex2;(focus with_reducible assumption);try conv=>whnf)|fail)
      · exact Int.natCast_nonneg _
      · exact Int.natCast_nonneg _
      refine ⟨p, rfl, hlt2, ?_⟩
      (try conv=>whnf);repeat' (first|(apply And.intro<;>try conv=>whnf)|exact Nat.le_refl 1|(apply ex2;(focus with_reducible assumption);try conv=>whnf)|fail)
      refine ⟨⟨p + 1, hp'⟩, by show c - (p + 1) < c - p; omega, ?_⟩
      (refine Wk.of ?_ ?_ rfl rfl rfl<;>repeat' (first|exact trivial|exact WkD.same _|exact WkO.same _ _ rfl|exact WkO.same _ _ (congrArg (fun z => some (DObj.arr _ z)) er)|refine WkD.int ?_|refine WkO.vars rfl ?_|refine ⟨?_, ?_⟩|(refine wrapA ?_ ?_ ?_;(focus simp;done);(focus (try dsimp only);omega);(focus (try dsimp only);omega))|fail))
      exact buf_len ((mixL_len _ _ _ _).trans (mixL_len _ _ _ _).symm)
    · have hp' : p = c := ge_dec h hp
      subst hp'
      have er : mixL (valF (w + 1)) (valF w) p p = mixL (valF (w + 1)) (valF (w + 1)) p 0 := by rw [mixL_full, mixL_zero]
      refine ⟨⟨w + 1, hw'⟩, by show n - (w + 1) < n - w; omega, ?_⟩
      (refine Wk.of ?_ ?_ rfl rfl rfl<;>repeat' (first|exact trivial|exact WkD.same _|exact WkO.same _ _ rfl|exact WkD.eq (congrArg (fun z : List PV => DV.buf _ z.length) er)|exact WkO.same _ _ (congrArg (fun z => some (DObj.arr _ z)) er)|refine WkD.int ?_|refine WkO.vars rfl ?_|refine ⟨?_, ?_⟩|(refine wrapA ?_ ?_ ?_;(focus simp;done);(focus (try dsimp only);omega);(focus (try dsimp only);omega))|fail))
  · have hw' : w = n := by have := ge_dec h hw; exact this
    subst hw'
    refine ⟨Unit, fun _ => [(8, .ref 4 0), (9, .ref 6 0)], fun _ => 8, fun _ => HX c l ++ [(4, .var [.pv (.int .i64 0), .pv .nil, .pv .nil]), (6, .var [.pv (i64 w), .pv (.sl (mixL (valF w) (valF w) c 0)), .pv (.sl (rowsF w l c))])], ?_, ?_⟩
    · try conv=>whnf
      refine ⟨{ a : Nat // a ≤ c }, fun a => [(1, .pv (intsPV (List.range w))), (3, .clo 15 [] [.ref 1 0]), (8, .ref 4 0), (9, .ref 6 0), (49, .pv (i64 c)), (50, .pv (i64 a.1))], fun _ => 8, fun a => HX c l ++ [(4, .var [.pv (.int .i64 0), .pv .nil, .pv .nil]), (5, .arr 1 (mixL (valF w) (valF w) c 0)), (6, .var [.pv (i64 w), .buf 5 (mixL (valF w) (valF w) c 0).length, .buf 7 (rowsF w l a.1).length]), (7, .arr 1 (rowsF w l a.1))], fun a => c - a.1, ⟨⟨0, Nat.zero_le _⟩, ?_⟩, ?_⟩
      · exact (by refine Wk.of ?_ ?_ rfl rfl rfl<;>repeat' (first|exact trivial|exact WkD.same _|exact WkO.same _ _ rfl|exact WkD.new' rfl rfl rfl|exact WkO.new _ _ rfl|refine WkO.vars rfl ?_|exact rfl|refine ⟨?_, ?_⟩|fail))
      rintro ⟨a, ha⟩
      (try conv=>whnf);repeat' (first|(apply And.intro<;>try conv=>whnf)|(intro h;try conv=>whnf)|(apply Or.inl;try conv=>whnf)|fail)
      · rfl
      · exact Int.natCast_nonneg _
      · exact le_big (by omega)
      · have ha' : a < c := lt_dec h
        obtain ⟨s, hs⟩ : ∃ s, l[a]? = some s := ⟨_, List.getElem?_eq_getElem (by omega)⟩
        have hs62 : s < 2 ^ 62 := by
          have := hlt s (List.mem_iff_getElem?.2 ⟨a, hs⟩)
          omega
        have ez : List.replicate (Int.toNat (((List.range w).map i64).length : Int)) (PV.int .u64 0) = mixL (clsF s w) zerF w 0 := by rw [erl, Int.toNat_natCast]; exact cls_zero s w
        refine ⟨{ x : Nat // x ≤ w }, fun x => [(1, .pv (intsPV (List.range w))), (3, .clo 15 [] [.ref 1 0]), (8, .ref 4 0), (9, .ref 6 0), (13, .pv (i64 a)), (14, .buf 8 (mixL (clsF s w) zerF w x.1).length), (49, .pv (i64 c)), (50, .pv (i64 a)), (57, .pv (i64 w)), (58, .pv (i64 x.1))], fun _ => 9, fun x => HX c l ++ [(4, .var [.pv (.int .i64 0), .pv .nil, .pv .nil]), (5, .arr 1 (mixL (valF w) (valF w) c 0)), (6, .var [.pv (i64 w), .buf 5 (mixL (valF w) (valF w) c 0).length, .buf 7 (rowsF w l a).length]), (7, .arr 1 (rowsF w l a)), (8, .arr 1 (mixL (clsF s w) zerF w x.1))], fun x => w - x.1, ⟨⟨0, Nat.zero_le _⟩, ?_⟩, ?_⟩
        · (refine Wk.of ?_ ?_ rfl rfl rfl<;>repeat' (first|exact trivial|exact WkD.same _|exact WkO.same _ _ rfl|exact WkD.eq (congrArg (fun z : List PV => DV.buf _ z.length) ez)|exact WkO.same _ _ (congrArg (fun z => some (DObj.arr _ z)) ez)|refine WkD.int ?_|refine ⟨?_, ?_⟩|fail))
          all_goals exact congrArg (fun z : Nat => (z : Int)) erl
        rintro ⟨x, hx⟩
        (try conv=>whnf);repeat' (first|(apply And.intro<;>try conv=>whnf)|(intro h;try conv=>whnf)|(apply bleI;rfl)|(apply cellsI;rfl)|(apply szI;rfl)|fail)
        · have hx' : x < w := lt_dec h
          have ec := clsL_zero (s := s) hx'
          refine ⟨{ v : Nat // v ≤ w }, fun v => [(1, .pv (intsPV (List.range w))), (3, .clo 15 [] [.ref 1 0]), (8, .ref 4 0), (9, .ref 6 0), (13, .pv (i64 a)), (14, .buf 8 (clsL s w x v.1).length), (15, .pv (i64 x)), (49, .pv (i64 c)), (50, .pv (i64 a)), (57, .pv (i64 w)), (58, .pv (i64 x)), (62, .pv (i64 w)), (63, .pv (i64 v.1))], fun _ => 9, fun v => HX c l ++ [(4, .var [.pv (.int .i64 0), .pv .nil, .pv .nil]), (5, .arr 1 (mixL (valF w) (valF w) c 0)), (6, .var [.pv (i64 w), .buf 5 (mixL (valF w) (valF w) c 0).length, .buf 7 (rowsF w l a).length]), (7, .arr 1 (rowsF w l a)), (8, .arr 1 (clsL s w x v.1))], fun v => w - v.1, ⟨⟨0, Nat.zero_le _⟩, ?_⟩, ?_⟩
          · (refine Wk.of ?_ ?_ rfl rfl rfl<;>repeat' (first|exact trivial|exact WkD.same _|exact WkO.same _ _ rfl|exact WkD.eq (congrArg (fun z : List PV => DV.buf _ z.length) ec)|exact WkO.same _ _ (congrArg (fun z => some (DObj.arr _ z)) ec)|refine WkD.int ?_|refine ⟨?_, ?_⟩|fail))
            all_goals exact congrArg (fun z : Nat => (z : Int)) erl
          rintro ⟨v, hv⟩
          (try conv=>whnf);repeat' (first|(apply And.intro<;>try conv=>whnf)|(intro h;try conv=>whnf)|fail)
          · have hv' : v < w := lt_dec h
            refine DC.call 4 (HX c l) ⟨rfl, rfl, rfl, rfl, trivial⟩ rfl rfl rfl rfl fun M' => ?_
            refine seen2 c l a x s hs (by omega) hs62 _ _ ⟨rfl, ?_⟩
            try conv=>whnf
            refine DC.call 4 (HX c l) ⟨rfl, rfl, rfl, rfl, trivial⟩ rfl rfl rfl rfl fun M' => ?_
            refine seen2 c l a v s hs (by omega) hs62 _ _ ⟨rfl, ?_⟩
            (try conv=>whnf);repeat' (first|(apply And.intro<;>try conv=>whnf)|(intro h;try conv=>whnf)|fail)
            · have h9 : (x &&& s == v &&& s) = true := by
                have h8 : (((x &&& s : Nat) : Int) == ((v &&& s : Nat) : Int)) = true := h
                exact beq_iff_eq.2 (Int.ofNat_inj.1 (eq_of_beq h8))
              have hget : (clsL s w x v)[x]? = some (u64 (maskOf (fun v => (x &&& s) == (v &&& s)) v)) := clsL_get hx'
              have hlt2 : x < (clsL s w x v).length := by rw [clsL_len]; exact hx'
              have er := clsL_yes (n := w) (show v < 63 by omega) h9
              clear h
              refine ⟨Plan.lin 0 9, [8], by kernel_rfl, ?_⟩
              (try conv=>whnf);repeat' (first|(apply And.intro<;>try conv=>whnf)|fail)
              refine ⟨x, rfl, hlt2, ?_⟩
              (try conv=>whnf);repeat' (first|(apply And.intro<;>try conv=>whnf)|(apply ex2;(focus with_reducible assumption);try conv=>whnf)|fail)
              · exact Int.natCast_nonneg _
              refine ⟨x, rfl, hlt2, ?_⟩
              (try conv=>whnf);repeat' (first|(apply And.intro<;>try conv=>whnf)|exact Nat.le_refl 1|(apply ex2;(focus with_reducible assumption);try conv=>whnf)|fail)
              refine ⟨⟨v + 1, hv'⟩, by show w - (v + 1) < w - v; omega, ?_⟩
              (refine Wk.of ?_ ?_ rfl rfl rfl<;>repeat' (first|exact trivial|exact WkD.same _|exact WkO.same _ _ rfl|exact WkO.same _ _ (congrArg (fun z => some (DObj.arr _ z)) er)|refine WkD.int ?_|refine ⟨?_, ?_⟩|(refine wrapA ?_ ?_ ?_;(focus simp;done);(focus (try dsimp only);omega);(focus (try dsimp only);omega))|fail))
              exact buf_len ((clsL_len _ _ _ _).trans (clsL_len _ _ _ _).symm)
            · have h9 : (x &&& s == v &&& s) = false := by
                have h8 : (((x &&& s : Nat) : Int) == ((v &&& s : Nat) : Int)) = false := h
                have h7 : ¬ (((x &&& s : Nat) : Int) = ((v &&& s : Nat) : Int)) := by simpa using h8
                exact beq_false_of_ne fun e => h7 (by rw [e])
              have er := clsL_no (n := w) h9
              clear h
              refine ⟨⟨v + 1, hv'⟩, by show w - (v + 1) < w - v; omega, ?_⟩
              (refine Wk.of ?_ ?_ rfl rfl rfl<;>repeat' (first|exact trivial|exact WkD.same _|exact WkO.same _ _ rfl|exact WkD.eq (congrArg (fun z : List PV => DV.buf _ z.length) er)|exact WkO.same _ _ (congrArg (fun z => some (DObj.arr _ z)) er)|refine WkD.int ?_|refine ⟨?_, ?_⟩|(refine wrapA ?_ ?_ ?_;(focus simp;done);(focus (try dsimp only);omega);(focus (try dsimp only);omega))|fail))
          · have hv' : v = w := ge_dec h hv
            subst hv'
            have er := clsL_full (s := s) hx'
            refine ⟨⟨x + 1, hx'⟩, by show v - (x + 1) < v - x; omega, ?_⟩
            (refine Wk.of ?_ ?_ rfl rfl rfl<;>repeat' (first|exact trivial|exact WkD.same _|exact WkO.same _ _ rfl|exact WkD.eq (congrArg (fun z : List PV => DV.buf _ z.length) er)|exact WkO.same _ _ (congrArg (fun z => some (DObj.arr _ z)) er)|refine WkD.int ?_|refine ⟨?_, ?_⟩|(refine wrapA ?_ ?_ ?_;(focus simp;done);(focus (try dsimp only);omega);(focus (try dsimp only);omega))|fail))
        · show Nat.le _ _
          have : (rowsF w l a).length ≤ 4 := by rw [rowsF, List.length_map, List.length_take]; omega
          exact Nat.le_trans (Nat.add_le_add_right this 1) (show 4 + 1 ≤ 4294967296 by decide)
        · have hx' : x = w := ge_dec h hx
          subst hx'
          have er := rowsF_succ (n := x) hs
          refine ⟨⟨a + 1, ha'⟩, by show c - (a + 1) < c - a; omega, ?_⟩
          (refine Wk.of ?_ ?_ rfl rfl rfl<;>repeat' (first|exact trivial|exact WkD.same _|exact WkO.same _ _ rfl|exact WkD.eq (congrArg (fun z : List PV => DV.buf _ z.length) er)|exact WkO.same _ _ (congrArg (fun z => some (DObj.arr _ z)) er)|refine WkD.int ?_|refine WkO.vars rfl ?_|refine ⟨?_, ?_⟩|(refine wrapA ?_ ?_ ?_;(focus simp;done);(focus (try dsimp only);omega);(focus (try dsimp only);omega))|fail))
      · have ha' : a = c := ge_dec h ha
        subst ha'
        exact ⟨(), (by refine Wk.of ?_ ?_ rfl rfl rfl<;>repeat' (first|exact trivial|exact WkD.same _|exact WkO.same _ _ rfl|exact WkD.fz _ _ _ rfl (Or.inl ⟨_, rfl⟩) rfl|refine WkO.vars rfl ?_|refine ⟨?_, ?_⟩|fail))⟩
    rintro ⟨⟩
    try conv=>whnf
    exact ⟨.agg [.pv (i64 w), .pv (.sl (mixL (valF w) (valF w) c 0)), .pv (.sl (rowsF w l c))], 8, HX c l, (by refine Wk.of ?_ ?_ rfl rfl rfl<;>repeat' (first|exact trivial|exact WkD.same _|exact WkO.same _ _ rfl|refine ⟨?_, ?_⟩|fail)), hK⟩
end Go.Proofs.YtjdmfhggokfflaaDoor
set_option maxRecDepth 100000
set_option maxHeartbeats 4000000
namespace Go.Proofs.YtjdmfhggokfflaaDoor
open Go Go.Dv

/-- A set whose members are told by their places in a list, added to a set. -/
def sprG (t : Nat) : List Nat → Nat → Nat → Nat
  | [], _, acc => acc
  | w :: r, i, acc => sprG t r (i + 1) (acc ||| (bif t.testBit i then 2 ^ w else 0))
theorem sprG_lt {t n : Nat} : ∀ {ws : List Nat} {i acc : Nat}, (∀ w, w ∈ ws → w < n) → acc < 2 ^ n → sprG t ws i acc < 2 ^ n
  | [], _, _, _, h => h
  | w :: r, i, acc, hw, h => by
    rw [sprG]
    refine sprG_lt (fun x hx => hw x (List.mem_cons_of_mem _ hx)) (Nat.or_lt_two_pow h ?_)
    cases t.testBit i with
    | true => exact Nat.pow_lt_pow_right (by decide) (hw w (by simp))
    | false => exact Nat.two_pow_pos n
theorem sprG_drop {t : Nat} {ws : List Nat} {i acc w : Nat} (h : ws[i]? = some w) : sprG t (ws.drop i) i acc = sprG t (ws.drop (i + 1)) (i + 1) (acc ||| (bif t.testBit i then 2 ^ w else 0)) := by
  obtain ⟨h1, h2⟩ := List.getElem?_eq_some_iff.1 h
  rw [List.drop_eq_getElem_cons h1, h2]; rfl
/-- A set without the worlds of the pairs of an event whose places are not in a set. -/
def clrN (acc w : Nat) : Nat := acc ^^^ (acc &&& 2 ^ w)
def evG (e : Int) (t : Nat) : List (Nat × Nat) → Nat → Nat → Nat
  | [], _, acc => acc
  | q :: r, i, acc => evG e t r (i + 1) (bif (bif (q.2 : Int) == e then !t.testBit i else false) then clrN acc q.1 else acc)
theorem evG_drop {e : Int} {t : Nat} {l : List (Nat × Nat)} {i acc : Nat} {q : Nat × Nat} (h : l[i]? = some q) : evG e t (l.drop i) i acc = evG e t (l.drop (i + 1)) (i + 1) (bif (bif (q.2 : Int) == e then !t.testBit i else false) then clrN acc q.1 else acc) := by
  obtain ⟨h1, h2⟩ := List.getElem?_eq_some_iff.1 h
  rw [List.drop_eq_getElem_cons h1, h2]; rfl
theorem clrN_lt {acc w n : Nat} (h : acc < 2 ^ n) : clrN acc w < 2 ^ n := Nat.xor_lt_two_pow h (Nat.lt_of_le_of_lt Nat.and_le_left h)
theorem evG_lt {e : Int} {t n : Nat} : ∀ {l : List (Nat × Nat)} {i acc : Nat}, acc < 2 ^ n → evG e t l i acc < 2 ^ n
  | [], _, _, h => h
  | q :: r, i, acc, h => by
    rw [evG]
    refine evG_lt ?_
    cases (bif (q.2 : Int) == e then !t.testBit i else false) with
    | true => exact clrN_lt h
    | false => exact h

/-! where a formula of the dynamic language holds; nothing, if a product is too large -/
def dvT (acts : List Act) : Tr → Mo → Option Nat
  | .none, _ => some 0
  | .nd op i e g a b, m =>
    bif op == 16 then
      match dvT acts a m with
      | none => none
      | some s => bif s == 0 then some (2 ^ m.n.toNat - 1) else match dvT acts b (arrI m (memL s)) with
        | none => none
        | some t => some (sprG t (memL s) 0 (notN m.n.toNat s))
    else bif op == 17 then
      bif (holdsI m ((acts.getD i.toNat noAct).pre.getD e.toNat [])).1 == 0 then some (2 ^ m.n.toNat - 1)
      else bif (updI m (acts.getD i.toNat noAct)).2.2 != 0 then none
      else match dvT acts a (updI m (acts.getD i.toNat noAct)).1 with
        | none => none
        | some t => some (evG e t (updI m (acts.getD i.toNat noAct)).2.1 0 (2 ^ m.n.toNat - 1))
    else match dvT acts a m, dvT acts b m with
      | some x, some y => some (vlN m m.n.toNat op i g x y)
      | _, _ => none
/-- A model and an environment that fit. -/
structure OkD (acts : List Act) (m : Mo) (n : Nat) : Prop where
  okm : OkM m n
  act : ∀ a, a ∈ acts → actI a m.rel.length m.val.length = 0
theorem arr_ok {m : Mo} {n : Nat} (hM : OkM m n) {ws : List Nat} (h1 : 1 ≤ ws.length) (h64 : ws.length ≤ 64) : OkM (arrI m ws) ws.length := by
  refine ⟨rfl, h1, h64, by simp [arrI]; exact hM.ag, by simp [arrI]; exact hM.fa, fun r hr => ?_, fun s hs => ?_, fun r hr s hs => ?_⟩
  · obtain ⟨r0, _, rfl⟩ := List.mem_map.1 hr
    simp
  · obtain ⟨s0, _, rfl⟩ := List.mem_map.1 hs
    exact maskOf_lt _ _
  · obtain ⟨r0, _, rfl⟩ := List.mem_map.1 hr
    obtain ⟨w, _, rfl⟩ := List.mem_map.1 hs
    exact maskOf_lt _ _
theorem OkD.arr {acts : List Act} {m : Mo} {n s : Nat} (h : OkD acts m n) (hs : s < 2 ^ n) (h0 : s ≠ 0) : OkD acts (arrI m (memL s)) (memL s).length := by
  refine ⟨arr_ok h.okm (memL_pos h0 (Nat.lt_of_lt_of_le hs (pow64_le h.okm.n64))) (memL_len s), fun a ha => ?_⟩
  have e1 : (arrI m (memL s)).rel.length = m.rel.length := by simp [arrI]
  have e2 : (arrI m (memL s)).val.length = m.val.length := by simp [arrI]
  rw [e1, e2]
  exact h.act a ha
theorem OkD.upd {acts : List Act} {m : Mo} {n : Nat} {a : Act} (h : OkD acts m n) (h0 : (updI m a).2.2 = 0) : OkD acts (updI m a).1 (updI m a).2.1.length ∧ ∀ q, q ∈ (updI m a).2.1 → q.1 < n := by
  obtain ⟨k1, k2, k3, k4, k5⟩ := updI_ok h0
  rw [k2, k3]
  refine ⟨⟨prod_ok h.okm k4 k5, fun b hb => ?_⟩, fun q hq => ?_⟩
  · have e1 : (prodM m a (pairsL m a)).rel.length = m.rel.length := by simp [prodM]
    have e2 : (prodM m a (pairsL m a)).val.length = m.val.length := by simp [prodM]
    rw [e1, e2]
    exact h.act b hb
  · rw [pairsL, h.okm.nn] at hq
    exact (pairsW_mem.1 hq).1
end Go.Proofs.YtjdmfhggokfflaaDoor
set_option maxRecDepth 100000
set_option maxHeartbeats 4000000
namespace Go.Proofs.YtjdmfhggokfflaaDoor
open Go Go.Dv

/-! requests -/
def actsI (A F : Int) : List Act → Int
  | [] => 0
  | a :: r => bif actI a A F != 0 then actI a A F else actsI A F r
def chkD (m : Mo) (acts : List Act) : Int := bif moI m != 0 then moI m else bif decide ((acts.length : Int) > 8) then 8 else actsI (m.rel.length : Int) (m.val.length : Int) acts
def badA (acts : List Act) (x : Nd) : Bool := bif x.op == 17 then (bif decide (x.i ≥ (acts.length : Int)) then true else decide (x.e ≥ ((acts.getD x.i.toNat noAct).pre.length : Int))) else false
def reqD (m : Mo) (acts : List Act) (f : List Nd) : Int :=
  bif chkD m acts != 0 then chkD m acts else bif check f != 0 then check f else bif nand64' (frags f : Nat) 207 != 0 then 10 else bif !fits f (m.rel.length : Int) (m.val.length : Int) then 2 else bif (comp f).any (badA acts) then 6 else 0
def dynI (m : Mo) (acts : List Act) (f : List Nd) : Nat × Int := bif reqD m acts f != 0 then (0, reqD m acts f) else match dvT acts (root f) m with
  | none => (0, 8)
  | some s => (s, 0)
theorem actsI_ok {A F : Int} : ∀ {l : List Act}, actsI A F l = 0 → ∀ a, a ∈ l → actI a A F = 0
  | [], _, a, ha => by cases ha
  | b :: r, h, a, ha => by
    rw [actsI] at h
    cases hb : (actI b A F != 0) with
    | true => rw [hb] at h; simp only [cond_true] at h; rw [h] at hb; cases hb
    | false =>
      rw [hb] at h
      rcases List.mem_cons.1 ha with rfl | ha
      · simpa using hb
      · exact actsI_ok (show actsI A F r = 0 from h) a ha
theorem chkD_ok {m : Mo} {acts : List Act} (h : chkD m acts = 0) : ∃ n, OkD acts m n ∧ acts.length ≤ 8 := by
  unfold chkD at h
  cases h1 : (moI m != 0) with
  | true => rw [h1] at h; simp only [cond_true] at h; rw [h] at h1; cases h1
  | false =>
    rw [h1, cond_false] at h
    cases h2 : decide ((acts.length : Int) > 8) with
    | true => rw [h2] at h; cases h
    | false =>
      rw [h2, cond_false] at h
      obtain ⟨n, hM⟩ := moI_ok (m := m) (by simpa using h1)
      have := of_decide_eq_false h2
      exact ⟨n, ⟨hM, actsI_ok h⟩, by omega⟩
/-- May a node of a formula be asked for? -/
def ndQ (A F : Nat) (acts : List Act) (op i e g : Int) : Bool :=
  decide (fragN ⟨op, i, e, g, 0, 0⟩ &&& 207 = fragN ⟨op, i, e, g, 0, 0⟩) && decide (agN ⟨op, i, e, g, 0, 0⟩ < 2 ^ A) && decide (factN ⟨op, i, e, g, 0, 0⟩ < 2 ^ F) && !badA acts ⟨op, i, e, g, 0, 0⟩
theorem nand_sub {a b : Nat} (ha : a < 2 ^ 62) : nand64' (a : Int) (b : Int) = 0 ↔ subM a b = true := by rw [← nand_zero ha, beq_iff_eq]
theorem orN_in {m : Nd → Nat} : ∀ {c : List Nd} {y : Nd}, y ∈ c → Sub (m y) (orN m c)
  | x :: r, y, h => by
    rw [orN_cons]
    intro i hi
    rw [Nat.testBit_or, Bool.or_eq_true]
    rcases List.mem_cons.1 h with rfl | h
    · exact .inl hi
    · exact .inr (orN_in h i hi)
theorem orN_all {m : Nd → Nat} {b : Nat} : ∀ {c : List Nd}, (∀ x, x ∈ c → Sub (m x) b) → Sub (orN m c) b
  | [], _ => fun i hi => by simp [orN] at hi
  | x :: r, h => by
    rw [orN_cons]
    exact or_sub (h x (by simp)) (orN_all fun y hy => h y (List.mem_cons_of_mem _ hy))
theorem and_self_sub {a b : Nat} : a &&& b = a ↔ Sub a b := by
  constructor
  · intro h i hi
    rw [← h, Nat.testBit_and, Bool.and_eq_true] at hi
    exact hi.2
  · intro h
    apply Nat.eq_of_testBit_eq
    intro i
    rw [Nat.testBit_and]
    cases hb : a.testBit i with
    | false => rfl
    | true => rw [h i hb]; rfl
theorem reqD_iff {m : Mo} {acts : List Act} {f : List Nd} : reqD m acts f = 0 ↔ chkD m acts = 0 ∧ check f = 0 ∧ ∀ x, x ∈ comp f → ndQ m.rel.length m.val.length acts x.op x.i x.e x.g = true := by
  have hfr : frags f < 2 ^ 62 := Nat.lt_of_lt_of_le (frags_lt f) (by decide)
  have hag := agents_lt f
  have hfa := facts_lt f
  have e1 : ∀ x : Nd, fragN ⟨x.op, x.i, x.e, x.g, 0, 0⟩ = fragN x := fun x => rfl
  have e2 : ∀ x : Nd, agN ⟨x.op, x.i, x.e, x.g, 0, 0⟩ = agN x := fun x => rfl
  have e3 : ∀ x : Nd, factN ⟨x.op, x.i, x.e, x.g, 0, 0⟩ = factN x := fun x => rfl
  have e4 : ∀ x : Nd, badA acts ⟨x.op, x.i, x.e, x.g, 0, 0⟩ = badA acts x := fun x => rfl
  constructor
  · intro h
    unfold reqD at h
    cases h1 : (chkD m acts != 0) with
    | true => rw [h1] at h; simp only [cond_true] at h; rw [h] at h1; cases h1
    | false =>
      rw [h1, cond_false] at h
      cases h2 : (check f != 0) with
      | true => rw [h2] at h; simp only [cond_true] at h; rw [h] at h2; cases h2
      | false =>
        rw [h2, cond_false] at h
        cases h3 : (nand64' (frags f : Nat) 207 != 0) with
        | true => rw [h3] at h; cases h
        | false =>
          rw [h3, cond_false] at h
          cases h4 : (!fits f (m.rel.length : Int) (m.val.length : Int)) with
          | true => rw [h4] at h; cases h
          | false =>
            rw [h4, cond_false] at h
            cases h5 : (comp f).any (badA acts) with
            | true => rw [h5] at h; cases h
            | false =>
              have hc : check f = 0 := by simpa using h2
              have hfit : fits f (m.rel.length : Int) (m.val.length : Int) = true := by simpa using h4
              have h6 : belowB (agents f) (m.rel.length : Int) = true ∧ belowB (facts f) (m.val.length : Int) = true := by
                unfold fits at hfit
                rw [hc] at hfit
                cases hb : belowB (agents f) (m.rel.length : Int) with
                | true => rw [hb] at hfit; exact ⟨rfl, hfit⟩
                | false => rw [hb] at hfit; cases hfit
              rw [below_lt hag (by decide), below_lt hfa (by decide)] at h6
              have h7 : subM (frags f) 207 = true := (nand_sub hfr).1 (by simpa using h3)
              rw [subM_iff] at h7
              refine ⟨by simpa using h1, hc, fun x hx => ?_⟩
              simp only [ndQ, e1, e2, e3, e4, Bool.and_eq_true, decide_eq_true_eq]
              refine ⟨⟨⟨and_self_sub.2 ((orN_in hx).trans h7), Nat.lt_of_le_of_lt (orN_le hx) h6.1⟩, Nat.lt_of_le_of_lt (orN_le hx) h6.2⟩, ?_⟩
              have := List.any_eq_false.1 h5 x hx
              simpa using this
  · rintro ⟨h1, h2, h3⟩
    have h4 : ∀ x, x ∈ comp f → fragN x &&& 207 = fragN x ∧ agN x < 2 ^ m.rel.length ∧ factN x < 2 ^ m.val.length ∧ badA acts x = false := fun x hx => by
      have := h3 x hx
      simp only [ndQ, e1, e2, e3, e4, Bool.and_eq_true, decide_eq_true_eq] at this
      exact ⟨this.1.1.1, this.1.1.2, this.1.2, by simpa using this.2⟩
    have h5 : nand64' (frags f : Nat) 207 = 0 := (nand_sub (b := 207) hfr).2 (subM_iff.2 (orN_all fun x hx => and_self_sub.1 (h4 x hx).1))
    have h6 : agents f < 2 ^ m.rel.length := orN_lt fun x hx => (h4 x hx).2.1
    have h7 : facts f < 2 ^ m.val.length := orN_lt fun x hx => (h4 x hx).2.2.1
    have h8 : fits f (m.rel.length : Int) (m.val.length : Int) = true := by
      unfold fits
      rw [h2, (below_lt hag (by decide)).2 h6, show belowB (facts f) (m.val.length : Int) = true from (below_lt hfa (by decide)).2 h7]; rfl
    have h9 : (comp f).any (badA acts) = false := List.any_eq_false.2 fun x hx => by rw [(h4 x hx).2.2.2]; simp
    rw [reqD, h1, h2, h5, h8, h9]; rfl
end Go.Proofs.YtjdmfhggokfflaaDoor
set_option maxRecDepth 100000
set_option maxHeartbeats 4000000
namespace Go.Proofs.YtjdmfhggokfflaaDoor
open Go Go.Dv

def setM (es : List (Nat × Nat)) : List (PV × PV) := es.map fun e => (.int .i64 (e.1 : Int), u64 e.2)
theorem mfnd_setM (i : Nat) : ∀ (es : List (Nat × Nat)) (s : Nat), (mfnd (.int .i64 (i : Int)) (setM es) s).map Prod.snd = (look i es).map u64
  | [], s => rfl
  | e :: r, s => by
    simp only [setM, List.map_cons, mfnd, look]
    by_cases h : e.1 = i
    · rw [if_pos (int_eq.2 h), if_pos h]; rfl
    · rw [if_neg (fun e => h (int_eq.1 e)), if_neg h]
      exact mfnd_setM i r (s + 1)
theorem mfind_setM (i : Nat) (es : List (Nat × Nat)) : mfind (setM es) (.int .i64 (i : Int)) = (look i es).map u64 := mfnd_setM i es 0
theorem mput_setM (i k : Nat) : ∀ (es : List (Nat × Nat)), mput (setM es) (.int .i64 (i : Int)) (u64 k) = setM (dput i k es)
  | [] => rfl
  | e :: r => by
    simp only [setM, List.map_cons, mput_cons, dput]
    by_cases h : e.1 = i
    · rw [if_pos (int_eq.2 h), if_pos h]; rfl
    · rw [if_neg (fun e => h (int_eq.1 e)), if_neg h]
      rw [List.map_cons]
      congr 1
      exact mput_setM i k r
def evC (m : Mo) (acts : List Act) (c : List Nd) : List DV := [.pv (.int .i64 m.n), .pv (.sl (m.val.map u64)), .pv (.sl (m.rel.map rowPV)), .pv (u64 (2 ^ m.n.toNat - 1)), .pv (actsPV acts), .pv (fpv c), .mp 2, .ref 0 0]
def H0 (m : Mo) (acts : List Act) (c : List Nd) (es : List (Nat × Nat)) (err : Int) : List (Nat × DObj) := [(0, .var [.pv (.int .i64 err)]), (1, .var (evC m acts c)), (2, .mp (setM es))]
/-- What is reckoned already. -/
def InvE (acts : List Act) (c : List Nd) (m : Mo) (n : Nat) (es : List (Nat × Nat)) (err : Int) : Prop := ∀ k s, look k es = some s → s < 2 ^ n ∧ (err = 0 → dvT acts (tree c k) m = some s)
structure PostE (acts : List Act) (c : List Nd) (m : Mo) (n : Nat) (i : Nat) (err : Int) (s : Nat) (es' : List (Nat × Nat)) (err' : Int) : Prop where
  lt : s < 2 ^ n
  inv : InvE acts c m n es' err'
  er : err' = 0 ∨ err' = 8
  ok : err' = 0 → err = 0 ∧ dvT acts (tree c i) m = some s
  no : err' ≠ 0 → err ≠ 0 ∨ dvT acts (tree c i) m = none
/-- Nodes that may be asked for. -/
structure CxD (A F : Nat) (acts : List Act) (c : List Nd) : Prop where
  okl : Okl c
  len : c.length ≤ 1000
  op : ∀ x, x ∈ c → x.op ≤ 13 ∨ x.op = 16 ∨ x.op = 17
  fact : ∀ x, x ∈ c → x.op = 3 → x.i < F
  ag : ∀ x, x ∈ c → x.op = 9 ∨ x.op = 10 → x.i < A
  gr : ∀ x, x ∈ c → x.op = 11 ∨ x.op = 12 ∨ x.op = 13 → 1 ≤ x.g ∧ x.g < shl64 1 (A : Int)
  ev : ∀ x, x ∈ c → x.op = 17 → 0 ≤ x.i ∧ x.i < acts.length ∧ 0 ≤ x.e ∧ x.e < (acts.getD x.i.toNat noAct).pre.length
structure ModD (acts : List Act) (m : Mo) (n A F : Nat) : Prop where
  okd : OkD acts m n
  ra : m.rel.length = A
  rf : m.val.length = F
/-- What a call of at or of value does to the evaluation. -/
def ConE (fid : Nat) (arg : DV) (acts : List Act) (c : List Nd) (A F i : Nat) : Prop := ∀ (m : Mo) (n : Nat) (es : List (Nat × Nat)) (err : Int), ModD acts m n A F → InvE acts c m n es err → (err = 0 ∨ err = 8) →
  ∀ (M : Nat → Prop) (w0 : World) (base : Nat) (K : DV → DH → Prop), (∀ s es' err', PostE acts c m n i err s es' err' → K (.pv (u64 s)) ⟨3, 0, base, objsOf (H0 m acts c es' err')⟩) →
    DC Tryd.prog M w0 fid [.ref 1 0, arg] ⟨3, 0, base, objsOf (H0 m acts c es err)⟩ K
theorem con_L {fid : Nat} {arg : DV} {acts : List Act} {c : List Nd} {A F i : Nat} (h : ConE fid arg acts c A F i) (hu : DV.under 3 arg = true) {m : Mo} {n : Nat} {es : List (Nat × Nat)} {err : Int} (hM : ModD acts m n A F) (hI : InvE acts c m n es err) (hE : err = 0 ∨ err = 8)
    {M : Nat → Prop} {w0 : World} {L : DH} {K : DV → DH → Prop} (h0 : L.lo = 0) (hn : Nat.ble 3 L.next = true) (g0 : L.get 0 = some (.var [.pv (.int .i64 err)])) (g1 : L.get 1 = some (.var (evC m acts c))) (g2 : L.get 2 = some (.mp (setM es)))
    (hK : ∀ s es' err', PostE acts c m n i err s es' err' → K (.pv (u64 s)) (L.merge ⟨3, 0, 3, objsOf (H0 m acts c es' err')⟩ 3)) : DC Tryd.prog M w0 fid [.ref 1 0, arg] L K := by
  refine DC.call 3 (H0 m acts c es err) ⟨g2.symm, g1.symm, g0.symm, trivial⟩ rfl hn (by rw [h0]; rfl) ?_ fun M' => ?_
  · show (Nat.blt 1 3 && (arg.under 3 && true)) = true
    rw [hu]; rfl
  · rw [h0]
    exact h m n es err hM hI hE M' w0 3 _ fun s es' err' hp => ⟨rfl, hK s es' err' hp⟩
theorem lt64 {acts : List Act} {c : List Nd} {m : Mo} {n i : Nat} {err err' : Int} {s : Nat} {es' : List (Nat × Nat)} (hM : OkM m n) (p : PostE acts c m n i err s es' err') : s < 2 ^ 64 := Nat.lt_of_lt_of_le p.lt (pow64_le hM.n64)
theorem at_dc {acts : List Act} {c : List Nd} {A F i : Nat} (hC : CxD A F acts c) (hi : i < c.length) (hv : ∀ x, c[i]? = some x → ConE 57 (.agg x.dvs) acts c A F i) : ConE 38 (.pv (.int .i64 (i : Nat))) acts c A F i := by
  intro m n es err hM hI hE M w0 base K hK
  have hlen := hC.len
  obtain ⟨x, hx⟩ : ∃ x, c[i]? = some x := ⟨_, List.getElem?_eq_getElem hi⟩
  have hv' := hv
  have hmf := mfind_setM i es
  refine DC.weaken (DC.intro mixed (fn := Tryd.f38) rfl rfl rfl ?_)
  cases hl : look i es with
  | some s =>
    rw [hl] at hmf
    have hoff : (!true) = false := rfl
    (try conv=>whnf);repeat' (first|(apply And.intro<;>try conv=>whnf)|(intro h;first|with_reducible exact nt0 h|try conv=>whnf)|(apply infoT;rfl)|(apply fitI;rfl)|(apply whenOff;(focus with_reducible assumption);try conv=>whnf)|(refine ⟨_, _, rfl, idx_map (by with_reducible assumption), rfl, ?_⟩;try conv=>whnf)|(apply ex2;(focus with_reducible assumption);try conv=>whnf)|fail)
    · obtain ⟨e, _, rfl⟩ := List.mem_map.1 h; rfl
    · exact absurd (show (bif !true then false else false) = true from h) (by decide)
    · obtain ⟨q1, q2⟩ := hI i s hl
      exact ⟨.pv (u64 s), 3, H0 m acts c es err, (by refine Wk.of ?_ ?_ rfl rfl rfl<;>repeat' (first|exact trivial|exact WkD.same _|exact WkO.same _ _ rfl|refine ⟨?_, ?_⟩|fail)), hK s es err ⟨q1, hI, hE, fun h => ⟨h, q2 h⟩, fun h => .inl h⟩⟩
  | none =>
    rw [hl] at hmf
    rcases hE with rfl | rfl
    · (try conv=>whnf);repeat' (first|(apply And.intro<;>try conv=>whnf)|(intro h;try conv=>whnf)|apply True.intro|(apply infoT;rfl)|(apply fitI;rfl)|(apply WhenQ.mk;(try conv=>whnf);rotate_left;(try conv=>whnf);rotate_right)|with_reducible assumption|(refine ⟨_, _, rfl, idx_map (by with_reducible assumption), rfl, ?_⟩;try conv=>whnf)|(apply ex2;(focus with_reducible assumption);try conv=>whnf)|fail)
      · obtain ⟨e, _, rfl⟩ := List.mem_map.1 h; rfl
      · refine con_L (hv' x hx) rfl hM hI (.inl rfl) rfl rfl rfl rfl rfl fun s1 es1 er1 p1 => ?_
        (try conv=>whnf);repeat' (first|(apply And.intro<;>try conv=>whnf)|(intro h;try conv=>whnf)|(apply fitI;rfl)|fail)
        · obtain ⟨e, _, rfl⟩ := List.mem_map.1 h; rfl
        · refine ⟨.pv (u64 s1), 3, H0 m acts c (dput i s1 es1) er1, ?_, hK s1 (dput i s1 es1) er1 ⟨p1.lt, fun k s hk => ?_, p1.er, p1.ok, p1.no⟩⟩
          · (refine Wk.of ?_ ?_ rfl rfl rfl<;>repeat' (first|exact trivial|exact WkD.same _|exact WkO.same _ _ rfl|refine ⟨?_, ?_⟩|fail))
            exact WkO.same _ _ (congrArg (fun z => some (DObj.mp z)) (mput_setM i s1 es1))
          · rw [look_dput] at hk
            by_cases e : k = i
            · rw [if_pos e] at hk
              have hk := Option.some.inj hk
              subst hk
              rw [e]
              exact ⟨p1.lt, fun h => (p1.ok h).2⟩
            · rw [if_neg e] at hk
              exact p1.inv k s hk
      · exact absurd (show (bif !false then (0 : Int) == 0 else false) = false from h) (by decide)
    · (try conv=>whnf);repeat' (first|(apply And.intro<;>try conv=>whnf)|(intro h;try conv=>whnf)|apply True.intro|(apply infoT;rfl)|(apply fitI;rfl)|(apply WhenQ.mk;(try conv=>whnf);rotate_left;(try conv=>whnf);rotate_right)|with_reducible assumption|(refine ⟨_, _, rfl, idx_map (by with_reducible assumption), rfl, ?_⟩;try conv=>whnf)|(apply ex2;(focus with_reducible assumption);try conv=>whnf)|fail)
      · obtain ⟨e, _, rfl⟩ := List.mem_map.1 h; rfl
      · exact absurd (show (bif !false then (8 : Int) == 0 else false) = true from h) (by decide)
      · exact ⟨.pv (u64 0), 3, H0 m acts c es 8, (by refine Wk.of ?_ ?_ rfl rfl rfl<;>repeat' (first|exact trivial|exact WkD.same _|exact WkO.same _ _ rfl|refine ⟨?_, ?_⟩|fail)), hK 0 es 8 ⟨Nat.two_pow_pos n, hI, .inr rfl, fun h => absurd h (by decide), fun _ => .inl (by decide)⟩⟩
end Go.Proofs.YtjdmfhggokfflaaDoor
set_option maxRecDepth 100000
set_option maxHeartbeats 8000000
namespace Go.Proofs.YtjdmfhggokfflaaDoor
open Go Go.Dv

section
variable {acts : List Act} {c : List Nd} {m : Mo} {n i : Nat} {err : Int} {es : List (Nat × Nat)} {op fi ei gi xx yy : Int}
theorem post0 (hc : Okl c) (hM : OkM m n) (hx : c[i]? = some ⟨op, fi, ei, gi, xx, yy⟩) (h16 : (op == 16) = false) (h17 : (op == 17) = false) (hu : usesX op = false) (hv : usesY op = false) (hI : InvE acts c m n es err) (hE : err = 0 ∨ err = 8) {s : Nat} (hs : s < 2 ^ n) (he : vlN m n op fi gi 0 0 = s) :
    PostE acts c m n i err s es err := by
  have hnn : m.n.toNat = n := by rw [hM.nn, Int.toNat_natCast]
  refine ⟨hs, hI, hE, fun h => ⟨h, ?_⟩, fun h => .inl h⟩
  rw [tree_nd hc hx]
  show dvT acts (.nd op fi ei gi (bif usesX op then _ else _) (bif usesY op then _ else _)) m = _
  rw [hu, hv, dvT, h16, h17, hnn, ← he]; rfl
theorem post1 (hc : Okl c) (hM : OkM m n) (hx : c[i]? = some ⟨op, fi, ei, gi, xx, yy⟩) (h16 : (op == 16) = false) (h17 : (op == 17) = false) (hu : usesX op = true) (hv : usesY op = false) {s1 : Nat} {es1 : List (Nat × Nat)} {err1 : Int} (p : PostE acts c m n xx.toNat err s1 es1 err1) {s : Nat} (hs : s < 2 ^ n) (he : vlN m n op fi gi s1 0 = s) :
    PostE acts c m n i err s es1 err1 := by
  have hnn : m.n.toNat = n := by rw [hM.nn, Int.toNat_natCast]
  have ht : tree c i = .nd op fi ei gi (tree c xx.toNat) .none := by rw [tree_nd hc hx]; show Tr.nd op fi ei gi (bif usesX op then _ else _) (bif usesY op then _ else _) = _; rw [hu, hv]; rfl
  refine ⟨hs, p.inv, p.er, fun h => ?_, fun h => ?_⟩
  · obtain ⟨h1, h2⟩ := p.ok h
    refine ⟨h1, ?_⟩
    rw [ht, dvT, h16, h17, h2, hnn, ← he]; rfl
  · rcases p.no h with h1 | h1
    · exact .inl h1
    · right
      rw [ht, dvT, h16, h17, h1]; rfl
theorem post2 (hc : Okl c) (hM : OkM m n) (hx : c[i]? = some ⟨op, fi, ei, gi, xx, yy⟩) (h16 : (op == 16) = false) (h17 : (op == 17) = false) (hu : usesX op = true) (hv : usesY op = true) {s1 s2 : Nat} {es1 es2 : List (Nat × Nat)} {err1 err2 : Int} (p : PostE acts c m n xx.toNat err s1 es1 err1) (q : PostE acts c m n yy.toNat err1 s2 es2 err2)
    {s : Nat} (hs : s < 2 ^ n) (he : vlN m n op fi gi s1 s2 = s) : PostE acts c m n i err s es2 err2 := by
  have hnn : m.n.toNat = n := by rw [hM.nn, Int.toNat_natCast]
  have ht : tree c i = .nd op fi ei gi (tree c xx.toNat) (tree c yy.toNat) := by rw [tree_nd hc hx]; show Tr.nd op fi ei gi (bif usesX op then _ else _) (bif usesY op then _ else _) = _; rw [hu, hv]; rfl
  refine ⟨hs, q.inv, q.er, fun h => ?_, fun h => ?_⟩
  · obtain ⟨h1, h2⟩ := q.ok h
    obtain ⟨h3, h4⟩ := p.ok h1
    refine ⟨h3, ?_⟩
    rw [ht, dvT, h16, h17, h4, h2, hnn, ← he]; rfl
  · rcases q.no h with h1 | h1
    · rcases p.no h1 with h2 | h2
      · exact .inl h2
      · right
        rw [ht, dvT, h16, h17, h2]; rfl
    · right
      rw [ht, dvT, h16, h17, h1]
      cases dvT acts (tree c xx.toNat) m <;> rfl
end
theorem val_1 {acts : List Act} {c : List Nd} {A F i : Nat} {fi ei gi xx yy : Int} (hC : CxD A F acts c) (hx : c[i]? = some ⟨1, fi, ei, gi, xx, yy⟩) (_hat : ∀ j, j < i → ConE 38 (.pv (.int .i64 (j : Nat))) acts c A F j) :
    ConE 57 (.agg (Nd.dvs ⟨1, fi, ei, gi, xx, yy⟩)) acts c A F i := by
  intro m n es err hM hI hE M w0 base K hK
  have hO := hM.okd.okm
  have hnn : m.n.toNat = n := by rw [hO.nn, Int.toNat_natCast]
  have hn64 := hO.n64
  have h64 := pow64_le hn64
  have hall : 2 ^ n - 1 < 2 ^ n := by have := Nat.two_pow_pos n; omega
  have hnd := hC.okl i _ hx
  have hmem : (⟨1, fi, ei, gi, xx, yy⟩ : Nd) ∈ c := List.mem_iff_getElem?.2 ⟨i, hx⟩
  have f1 : ((1 : Int) == 1) = true := rfl
  have f2 : ((1 : Int) == 2) = false := rfl
  have f3 : ((1 : Int) == 3) = false := rfl
  have f4 : ((1 : Int) == 4) = false := rfl
  have f5 : ((1 : Int) == 5) = false := rfl
  have f6 : ((1 : Int) == 6) = false := rfl
  have f7 : ((1 : Int) == 7) = false := rfl
  have f8 : ((1 : Int) == 8) = false := rfl
  have f9 : ((1 : Int) == 9) = false := rfl
  have f10 : ((1 : Int) == 10) = false := rfl
  have f11 : ((1 : Int) == 11) = false := rfl
  have f12 : ((1 : Int) == 12) = false := rfl
  have f13 : ((1 : Int) == 13) = false := rfl
  have f16 : ((1 : Int) == 16) = false := rfl
  refine DC.weaken (DC.intro mixed (fn := Tryd.f57) rfl rfl rfl ?_)
  (try conv=>whnf);repeat' (first|(apply And.intro<;>try conv=>whnf)|(intro h;first|with_reducible exact tf (by assumption) h|try conv=>whnf)|fail)
  all_goals
    refine ⟨.pv (u64 (2 ^ n - 1)), 3, H0 m acts c es err, ?_, hK _ _ _ ?_⟩
    · (refine Wk.of ?_ ?_ rfl rfl rfl<;>repeat' (first|exact trivial|exact WkO.same _ _ rfl|refine WkD.int ?_|refine ⟨?_, ?_⟩|fail))
      rw [hnn]
    · exact post0 hC.okl hO hx rfl rfl rfl rfl hI hE hall rfl
theorem val_2 {acts : List Act} {c : List Nd} {A F i : Nat} {fi ei gi xx yy : Int} (hC : CxD A F acts c) (hx : c[i]? = some ⟨2, fi, ei, gi, xx, yy⟩) (_hat : ∀ j, j < i → ConE 38 (.pv (.int .i64 (j : Nat))) acts c A F j) :
    ConE 57 (.agg (Nd.dvs ⟨2, fi, ei, gi, xx, yy⟩)) acts c A F i := by
  intro m n es err hM hI hE M w0 base K hK
  have hO := hM.okd.okm
  have hnn : m.n.toNat = n := by rw [hO.nn, Int.toNat_natCast]
  have hn64 := hO.n64
  have h64 := pow64_le hn64
  have hall : 2 ^ n - 1 < 2 ^ n := by have := Nat.two_pow_pos n; omega
  have hnd := hC.okl i _ hx
  have hmem : (⟨2, fi, ei, gi, xx, yy⟩ : Nd) ∈ c := List.mem_iff_getElem?.2 ⟨i, hx⟩
  have f1 : ((2 : Int) == 1) = false := rfl
  have f2 : ((2 : Int) == 2) = true := rfl
  have f3 : ((2 : Int) == 3) = false := rfl
  have f4 : ((2 : Int) == 4) = false := rfl
  have f5 : ((2 : Int) == 5) = false := rfl
  have f6 : ((2 : Int) == 6) = false := rfl
  have f7 : ((2 : Int) == 7) = false := rfl
  have f8 : ((2 : Int) == 8) = false := rfl
  have f9 : ((2 : Int) == 9) = false := rfl
  have f10 : ((2 : Int) == 10) = false := rfl
  have f11 : ((2 : Int) == 11) = false := rfl
  have f12 : ((2 : Int) == 12) = false := rfl
  have f13 : ((2 : Int) == 13) = false := rfl
  have f16 : ((2 : Int) == 16) = false := rfl
  refine DC.weaken (DC.intro mixed (fn := Tryd.f57) rfl rfl rfl ?_)
  (try conv=>whnf);repeat' (first|(apply And.intro<;>try conv=>whnf)|(intro h;first|with_reducible exact tf h (by assumption)|with_reducible exact tf (by assumption) h|try conv=>whnf)|fail)
  all_goals
    refine ⟨.pv (u64 (0)), 3, H0 m acts c es err, ?_, hK _ _ _ ?_⟩
    · (refine Wk.of ?_ ?_ rfl rfl rfl<;>repeat' (first|exact trivial|exact WkD.same _|exact WkO.same _ _ rfl|refine ⟨?_, ?_⟩|fail))
    · exact post0 hC.okl hO hx rfl rfl rfl rfl hI hE (Nat.two_pow_pos n) rfl
theorem val_3 {acts : List Act} {c : List Nd} {A F i : Nat} {fi ei gi xx yy : Int} (hC : CxD A F acts c) (hx : c[i]? = some ⟨3, fi, ei, gi, xx, yy⟩) (_hat : ∀ j, j < i → ConE 38 (.pv (.int .i64 (j : Nat))) acts c A F j) :
    ConE 57 (.agg (Nd.dvs ⟨3, fi, ei, gi, xx, yy⟩)) acts c A F i := by
  intro m n es err hM hI hE M w0 base K hK
  have hO := hM.okd.okm
  have hnn : m.n.toNat = n := by rw [hO.nn, Int.toNat_natCast]
  have hn64 := hO.n64
  have h64 := pow64_le hn64
  have hall : 2 ^ n - 1 < 2 ^ n := by have := Nat.two_pow_pos n; omega
  have hnd := hC.okl i _ hx
  have hmem : (⟨3, fi, ei, gi, xx, yy⟩ : Nd) ∈ c := List.mem_iff_getElem?.2 ⟨i, hx⟩
  have hfi := (hnd.fact rfl).1
  simp only at hfi
  have hfF := hC.fact _ hmem rfl
  simp only at hfF
  obtain ⟨q, eq⟩ : ∃ q : Nat, fi = q := ⟨fi.toNat, by omega⟩
  subst eq
  have hq : q < m.val.length := by rw [hM.rf]; omega
  have hv := getD_mem hq (d := 0)
  have hvl := hO.vbits _ (List.mem_iff_getElem?.2 ⟨q, hv⟩)
  have f1 : ((3 : Int) == 1) = false := rfl
  have f2 : ((3 : Int) == 2) = false := rfl
  have f3 : ((3 : Int) == 3) = true := rfl
  have f4 : ((3 : Int) == 4) = false := rfl
  have f5 : ((3 : Int) == 5) = false := rfl
  have f6 : ((3 : Int) == 6) = false := rfl
  have f7 : ((3 : Int) == 7) = false := rfl
  have f8 : ((3 : Int) == 8) = false := rfl
  have f9 : ((3 : Int) == 9) = false := rfl
  have f10 : ((3 : Int) == 10) = false := rfl
  have f11 : ((3 : Int) == 11) = false := rfl
  have f12 : ((3 : Int) == 12) = false := rfl
  have f13 : ((3 : Int) == 13) = false := rfl
  have f16 : ((3 : Int) == 16) = false := rfl
  refine DC.weaken (DC.intro mixed (fn := Tryd.f57) rfl rfl rfl ?_)
  (try conv=>whnf);repeat' (first|(apply And.intro<;>try conv=>whnf)|(intro h;first|with_reducible exact tf h (by assumption)|with_reducible exact tf (by assumption) h|try conv=>whnf)|(apply infoT;rfl)|(refine lin_plan (by kernel_rfl) ?_;try conv=>whnf)|(refine ⟨_, _, rfl, idx_map (by with_reducible assumption), rfl, ?_⟩;try conv=>whnf)|fail)
  all_goals
    refine ⟨.pv (u64 (m.val.getD q 0)), 3, H0 m acts c es err, ?_, hK _ _ _ ?_⟩
    · (refine Wk.of ?_ ?_ rfl rfl rfl<;>repeat' (first|exact trivial|exact WkD.same _|exact WkO.same _ _ rfl|refine ⟨?_, ?_⟩|fail))
    · exact post0 hC.okl hO hx rfl rfl rfl rfl hI hE hvl rfl
theorem val_4 {acts : List Act} {c : List Nd} {A F i : Nat} {fi ei gi xx yy : Int} (hC : CxD A F acts c) (hx : c[i]? = some ⟨4, fi, ei, gi, xx, yy⟩) (hat : ∀ j, j < i → ConE 38 (.pv (.int .i64 (j : Nat))) acts c A F j) :
    ConE 57 (.agg (Nd.dvs ⟨4, fi, ei, gi, xx, yy⟩)) acts c A F i := by
  intro m n es err hM hI hE M w0 base K hK
  have hO := hM.okd.okm
  have hnn : m.n.toNat = n := by rw [hO.nn, Int.toNat_natCast]
  have hn64 := hO.n64
  have h64 := pow64_le hn64
  have hall : 2 ^ n - 1 < 2 ^ n := by have := Nat.two_pow_pos n; omega
  have hnd := hC.okl i _ hx
  have hmem : (⟨4, fi, ei, gi, xx, yy⟩ : Nd) ∈ c := List.mem_iff_getElem?.2 ⟨i, hx⟩
  have hkx := hnd.x rfl
  simp only at hkx
  obtain ⟨X, ex⟩ : ∃ q : Nat, xx = q := ⟨xx.toNat, by omega⟩
  subst ex
  have hlx : X < i := by omega
  have hX := fun {M w0 L K} => @con_L _ _ _ _ _ _ _ (hat X hlx) rfl m n es err hM hI hE M w0 L K
  have f1 : ((4 : Int) == 1) = false := rfl
  have f2 : ((4 : Int) == 2) = false := rfl
  have f3 : ((4 : Int) == 3) = false := rfl
  have f4 : ((4 : Int) == 4) = true := rfl
  have f5 : ((4 : Int) == 5) = false := rfl
  have f6 : ((4 : Int) == 6) = false := rfl
  have f7 : ((4 : Int) == 7) = false := rfl
  have f8 : ((4 : Int) == 8) = false := rfl
  have f9 : ((4 : Int) == 9) = false := rfl
  have f10 : ((4 : Int) == 10) = false := rfl
  have f11 : ((4 : Int) == 11) = false := rfl
  have f12 : ((4 : Int) == 12) = false := rfl
  have f13 : ((4 : Int) == 13) = false := rfl
  have f16 : ((4 : Int) == 16) = false := rfl
  refine DC.weaken (DC.intro mixed (fn := Tryd.f57) rfl rfl rfl ?_)
  (try conv=>whnf);repeat' (first|(apply And.intro<;>try conv=>whnf)|(intro h;first|with_reducible exact tf h (by assumption)|with_reducible exact tf (by assumption) h|try conv=>whnf)|fail)
  refine ⟨.one 0 (.one 4 (.one 5 (.one 6 (.two 1 (.two 2 (.two 3 (.one 7 (.one 8 (.one 9 .done))) 7 (.one 3 (.one 8 (.one 9 .done)))) 7 (.one 2 (.one 3 (.one 8 (.one 9 .done))))) 7 (.one 1 (.one 2 (.one 3 (.one 8 (.one 9 .done))))))))), [7], by kernel_rfl, ?_⟩
  (try conv=>whnf);repeat' (first|(apply And.intro<;>try conv=>whnf)|(refine hX rfl rfl rfl rfl rfl ?_;intro s1 es1 er1 p1;have q1 := lt64 hO p1;try conv=>whnf)|fail)
  all_goals
    refine ⟨.pv (u64 (notN n s1)), 3, H0 m acts c es1 er1, ?_, hK _ _ _ ?_⟩
    · (refine Wk.of ?_ ?_ rfl rfl rfl<;>repeat' (first|exact trivial|exact WkO.same _ _ rfl|refine WkD.int ?_|refine ⟨?_, ?_⟩|fail))
      exact (by rw [hnn]; exact andNotU_all hn64)
    · exact post1 hC.okl hO hx rfl rfl rfl rfl p1 (notN_lt _ _) rfl
theorem bool_L {acts : List Act} {c : List Nd} {A F : Nat} {op : Int} (hop : op = 5 ∨ op = 6 ∨ op = 7 ∨ op = 8) {m : Mo} {n : Nat} {es : List (Nat × Nat)} {err : Int} (hM : ModD acts m n A F) {x y : Nat} (hx : x < 2 ^ 64) (hy : y < 2 ^ 64)
    {M : Nat → Prop} {w0 : World} {L : DH} {K : DV → DH → Prop} (h0 : L.lo = 0) (hn : Nat.ble 3 L.next = true) (g0 : L.get 0 = some (.var [.pv (.int .i64 err)])) (g1 : L.get 1 = some (.var (evC m acts c))) (g2 : L.get 2 = some (.mp (setM es)))
    (hK : K (.pv (u64 (vlN m n op 0 0 x y))) (L.merge ⟨3, 0, 3, objsOf (H0 m acts c es err)⟩ 3)) : DC Tryd.prog M w0 76 [.ref 1 0, .pv (.int .i64 op), .pv (u64 x), .pv (u64 y)] L K := by
  have hO := hM.okd.okm
  have hnn : m.n.toNat = n := by rw [hO.nn, Int.toNat_natCast]
  have hn64 := hO.n64
  have h64 := pow64_le hn64
  refine DC.call 3 (H0 m acts c es err) ⟨g2.symm, g1.symm, g0.symm, trivial⟩ rfl hn (by rw [h0]; rfl) rfl fun M' => ?_
  rw [h0]
  refine DC.weaken (DC.intro mixed (fn := Tryd.f76) rfl rfl rfl ?_)
  rcases hop with rfl | rfl | rfl | rfl
  · have f5 : ((5 : Int) == 5) = true := rfl
    have f6 : ((5 : Int) == 6) = false := rfl
    have f7 : ((5 : Int) == 7) = false := rfl
    (try conv=>whnf);repeat' (first|(apply And.intro<;>try conv=>whnf)|(intro h;first|with_reducible exact tf (by assumption) h|try conv=>whnf)|fail)
    refine ⟨.pv (u64 (x &&& y)), 3, H0 m acts c es err, ?_, ⟨rfl, hK⟩⟩
    (refine Wk.of ?_ ?_ rfl rfl rfl<;>repeat' (first|exact trivial|exact WkO.same _ _ rfl|refine WkD.int ?_|refine ⟨?_, ?_⟩|fail))
    exact andU_nat hx hy
  · have f5 : ((6 : Int) == 5) = false := rfl
    have f6 : ((6 : Int) == 6) = true := rfl
    have f7 : ((6 : Int) == 7) = false := rfl
    (try conv=>whnf);repeat' (first|(apply And.intro<;>try conv=>whnf)|(intro h;first|with_reducible exact tf h (by assumption)|with_reducible exact tf (by assumption) h|try conv=>whnf)|fail)
    refine ⟨.pv (u64 (x ||| y)), 3, H0 m acts c es err, ?_, ⟨rfl, hK⟩⟩
    (refine Wk.of ?_ ?_ rfl rfl rfl<;>repeat' (first|exact trivial|exact WkO.same _ _ rfl|refine WkD.int ?_|refine ⟨?_, ?_⟩|fail))
    exact orU_nat hx hy
  · have f5 : ((7 : Int) == 5) = false := rfl
    have f6 : ((7 : Int) == 6) = false := rfl
    have f7 : ((7 : Int) == 7) = true := rfl
    (try conv=>whnf);repeat' (first|(apply And.intro<;>try conv=>whnf)|(intro h;first|with_reducible exact tf h (by assumption)|with_reducible exact tf (by assumption) h|try conv=>whnf)|fail)
    refine ⟨.pv (u64 (notN n x ||| y)), 3, H0 m acts c es err, ?_, ⟨rfl, hK⟩⟩
    (refine Wk.of ?_ ?_ rfl rfl rfl<;>repeat' (first|exact trivial|exact WkO.same _ _ rfl|refine WkD.int ?_|refine ⟨?_, ?_⟩|fail))
    exact (by show orU (andNotU ((2 ^ m.n.toNat - 1 : Nat) : Int) (x : Nat)) (y : Nat) = _; rw [hnn, andNotU_all hn64]; exact orU_nat (Nat.lt_of_lt_of_le (notN_lt n x) h64) hy)
  · have f5 : ((8 : Int) == 5) = false := rfl
    have f6 : ((8 : Int) == 6) = false := rfl
    have f7 : ((8 : Int) == 7) = false := rfl
    (try conv=>whnf);repeat' (first|(apply And.intro<;>try conv=>whnf)|(intro h;first|with_reducible exact tf h (by assumption)|try conv=>whnf)|fail)
    refine ⟨.pv (u64 (notN n (x ^^^ y))), 3, H0 m acts c es err, ?_, ⟨rfl, hK⟩⟩
    (refine Wk.of ?_ ?_ rfl rfl rfl<;>repeat' (first|exact trivial|exact WkO.same _ _ rfl|refine WkD.int ?_|refine ⟨?_, ?_⟩|fail))
    exact (by show andNotU ((2 ^ m.n.toNat - 1 : Nat) : Int) (xorU (x : Nat) (y : Nat)) = _; rw [xorU_nat hx hy, hnn]; exact andNotU_all hn64)
theorem val_5 {acts : List Act} {c : List Nd} {A F i : Nat} {fi ei gi xx yy : Int} (hC : CxD A F acts c) (hx : c[i]? = some ⟨5, fi, ei, gi, xx, yy⟩) (hat : ∀ j, j < i → ConE 38 (.pv (.int .i64 (j : Nat))) acts c A F j) :
    ConE 57 (.agg (Nd.dvs ⟨5, fi, ei, gi, xx, yy⟩)) acts c A F i := by
  intro m n es err hM hI hE M w0 base K hK
  have hO := hM.okd.okm
  have hnn : m.n.toNat = n := by rw [hO.nn, Int.toNat_natCast]
  have hn64 := hO.n64
  have h64 := pow64_le hn64
  have hall : 2 ^ n - 1 < 2 ^ n := by have := Nat.two_pow_pos n; omega
  have hnd := hC.okl i _ hx
  have hmem : (⟨5, fi, ei, gi, xx, yy⟩ : Nd) ∈ c := List.mem_iff_getElem?.2 ⟨i, hx⟩
  have hkx := hnd.x rfl
  simp only at hkx
  obtain ⟨X, ex⟩ : ∃ q : Nat, xx = q := ⟨xx.toNat, by omega⟩
  subst ex
  have hlx : X < i := by omega
  have hky := hnd.y rfl
  simp only at hky
  obtain ⟨Y, ey⟩ : ∃ q : Nat, yy = q := ⟨yy.toNat, by omega⟩
  subst ey
  have hly : Y < i := by omega
  have hX := fun {M w0 L K} => @con_L _ _ _ _ _ _ _ (hat X hlx) rfl m n es err hM hI hE M w0 L K
  have hY := fun {s1 es1 er1} (p1 : PostE acts c m n X err s1 es1 er1) {M w0 L K} => @con_L _ _ _ _ _ _ _ (hat Y hly) rfl m n es1 er1 hM p1.inv p1.er M w0 L K
  have hop : (5 : Int) = 5 ∨ (5 : Int) = 6 ∨ (5 : Int) = 7 ∨ (5 : Int) = 8 := by decide
  have f1 : ((5 : Int) == 1) = false := rfl
  have f2 : ((5 : Int) == 2) = false := rfl
  have f3 : ((5 : Int) == 3) = false := rfl
  have f4 : ((5 : Int) == 4) = false := rfl
  have f5 : ((5 : Int) == 5) = true := rfl
  have f6 : ((5 : Int) == 6) = false := rfl
  have f7 : ((5 : Int) == 7) = false := rfl
  have f8 : ((5 : Int) == 8) = false := rfl
  have f9 : ((5 : Int) == 9) = false := rfl
  have f10 : ((5 : Int) == 10) = false := rfl
  have f11 : ((5 : Int) == 11) = false := rfl
  have f12 : ((5 : Int) == 12) = false := rfl
  have f13 : ((5 : Int) == 13) = false := rfl
  have f16 : ((5 : Int) == 16) = false := rfl
  refine DC.weaken (DC.intro mixed (fn := Tryd.f57) rfl rfl rfl ?_)
  (try conv=>whnf);repeat' (first|(apply And.intro<;>try conv=>whnf)|(intro h;first|with_reducible exact tf h (by assumption)|with_reducible exact tf (by assumption) h|try conv=>whnf)|fail)
  refine ⟨.one 0 (.one 3 (.one 4 (.one 5 (.one 7 (.three 1 (.three 2 (.two 6 (.one 8 (.one 9 (.one 10 (.one 11 (.one 12 .done))))) 8 (.two 6 (.one 9 (.one 10 (.one 11 (.one 12 .done)))) 9 (.one 6 (.one 10 (.one 11 (.one 12 .done)))))) 6 (.one 8 (.one 9 (.two 2 (.one 10 (.one 11 (.one 12 .done))) 10 (.one 2 (.one 11 (.one 12 .done)))))) 8 (.three 2 (.two 6 (.one 9 (.one 10 (.one 11 (.one 12 .done)))) 9 (.one 6 (.one 10 (.one 11 (.one 12 .done))))) 6 (.one 9 (.two 2 (.one 10 (.one 11 (.one 12 .done))) 10 (.one 2 (.one 11 (.one 12 .done))))) 9 (.two 2 (.one 6 (.one 10 (.one 11 (.one 12 .done)))) 6 (.two 2 (.one 10 (.one 11 (.one 12 .done))) 10 (.one 2 (.one 11 (.one 12 .done))))))) 6 (.one 8 (.one 9 (.two 1 (.two 2 (.one 10 (.one 11 (.one 12 .done))) 10 (.one 2 (.one 11 (.one 12 .done)))) 10 (.one 1 (.one 2 (.one 11 (.one 12 .done))))))) 8 (.three 1 (.three 2 (.two 6 (.one 9 (.one 10 (.one 11 (.one 12 .done)))) 9 (.one 6 (.one 10 (.one 11 (.one 12 .done))))) 6 (.one 9 (.two 2 (.one 10 (.one 11 (.one 12 .done))) 10 (.one 2 (.one 11 (.one 12 .done))))) 9 (.two 2 (.one 6 (.one 10 (.one 11 (.one 12 .done)))) 6 (.two 2 (.one 10 (.one 11 (.one 12 .done))) 10 (.one 2 (.one 11 (.one 12 .done)))))) 6 (.one 9 (.two 1 (.two 2 (.one 10 (.one 11 (.one 12 .done))) 10 (.one 2 (.one 11 (.one 12 .done)))) 10 (.one 1 (.one 2 (.one 11 (.one 12 .done)))))) 9 (.two 1 (.two 2 (.one 6 (.one 10 (.one 11 (.one 12 .done)))) 6 (.two 2 (.one 10 (.one 11 (.one 12 .done))) 10 (.one 2 (.one 11 (.one 12 .done))))) 6 (.two 1 (.two 2 (.one 10 (.one 11 (.one 12 .done))) 10 (.one 2 (.one 11 (.one 12 .done)))) 10 (.one 1 (.one 2 (.one 11 (.one 12 .done)))))))))))), [6, 10, 11], by kernel_rfl, ?_⟩
  (try conv=>whnf);repeat' (first|(apply And.intro<;>try conv=>whnf)|(refine hX rfl rfl rfl rfl rfl ?_;intro s1 es1 er1 p1;have q1 := lt64 hO p1;try conv=>whnf)|(refine hY p1 rfl rfl rfl rfl rfl ?_;intro s2 es2 er2 p2;have q2 := lt64 hO p2;try conv=>whnf)|(refine bool_L (es := es2) (err := er2) hop hM q1 q2 rfl rfl rfl rfl rfl ?_;try conv=>whnf)|fail)
  all_goals
    refine ⟨.pv (u64 (s1 &&& s2)), 3, H0 m acts c es2 er2, ?_, hK _ _ _ ?_⟩
    · (refine Wk.of ?_ ?_ rfl rfl rfl<;>repeat' (first|exact trivial|exact WkD.same _|exact WkO.same _ _ rfl|refine ⟨?_, ?_⟩|fail))
    · exact post2 hC.okl hO hx rfl rfl rfl rfl p1 p2 (Nat.and_lt_two_pow s1 p2.lt) rfl
theorem val_6 {acts : List Act} {c : List Nd} {A F i : Nat} {fi ei gi xx yy : Int} (hC : CxD A F acts c) (hx : c[i]? = some ⟨6, fi, ei, gi, xx, yy⟩) (hat : ∀ j, j < i → ConE 38 (.pv (.int .i64 (j : Nat))) acts c A F j) :
    ConE 57 (.agg (Nd.dvs ⟨6, fi, ei, gi, xx, yy⟩)) acts c A F i := by
  intro m n es err hM hI hE M w0 base K hK
  have hO := hM.okd.okm
  have hnn : m.n.toNat = n := by rw [hO.nn, Int.toNat_natCast]
  have hn64 := hO.n64
  have h64 := pow64_le hn64
  have hall : 2 ^ n - 1 < 2 ^ n := by have := Nat.two_pow_pos n; omega
  have hnd := hC.okl i _ hx
  have hmem : (⟨6, fi, ei, gi, xx, yy⟩ : Nd) ∈ c := List.mem_iff_getElem?.2 ⟨i, hx⟩
  have hkx := hnd.x rfl
  simp only at hkx
  obtain ⟨X, ex⟩ : ∃ q : Nat, xx = q := ⟨xx.toNat, by omega⟩
  subst ex
  have hlx : X < i := by omega
  have hky := hnd.y rfl
  simp only at hky
  obtain ⟨Y, ey⟩ : ∃ q : Nat, yy = q := ⟨yy.toNat, by omega⟩
  subst ey
  have hly : Y < i := by omega
  have hX := fun {M w0 L K} => @con_L _ _ _ _ _ _ _ (hat X hlx) rfl m n es err hM hI hE M w0 L K
  have hY := fun {s1 es1 er1} (p1 : PostE acts c m n X err s1 es1 er1) {M w0 L K} => @con_L _ _ _ _ _ _ _ (hat Y hly) rfl m n es1 er1 hM p1.inv p1.er M w0 L K
  have hop : (6 : Int) = 5 ∨ (6 : Int) = 6 ∨ (6 : Int) = 7 ∨ (6 : Int) = 8 := by decide
  have f1 : ((6 : Int) == 1) = false := rfl
  have f2 : ((6 : Int) == 2) = false := rfl
  have f3 : ((6 : Int) == 3) = false := rfl
  have f4 : ((6 : Int) == 4) = false := rfl
  have f5 : ((6 : Int) == 5) = false := rfl
  have f6 : ((6 : Int) == 6) = true := rfl
  have f7 : ((6 : Int) == 7) = false := rfl
  have f8 : ((6 : Int) == 8) = false := rfl
  have f9 : ((6 : Int) == 9) = false := rfl
  have f10 : ((6 : Int) == 10) = false := rfl
  have f11 : ((6 : Int) == 11) = false := rfl
  have f12 : ((6 : Int) == 12) = false := rfl
  have f13 : ((6 : Int) == 13) = false := rfl
  have f16 : ((6 : Int) == 16) = false := rfl
  refine DC.weaken (DC.intro mixed (fn := Tryd.f57) rfl rfl rfl ?_)
  (try conv=>whnf);repeat' (first|(apply And.intro<;>try conv=>whnf)|(intro h;first|with_reducible exact tf h (by assumption)|with_reducible exact tf (by assumption) h|try conv=>whnf)|fail)
  refine ⟨.one 0 (.one 3 (.one 4 (.one 5 (.one 7 (.three 1 (.three 2 (.two 6 (.one 8 (.one 9 (.one 10 (.one 11 (.one 12 .done))))) 8 (.two 6 (.one 9 (.one 10 (.one 11 (.one 12 .done)))) 9 (.one 6 (.one 10 (.one 11 (.one 12 .done)))))) 6 (.one 8 (.one 9 (.two 2 (.one 10 (.one 11 (.one 12 .done))) 10 (.one 2 (.one 11 (.one 12 .done)))))) 8 (.three 2 (.two 6 (.one 9 (.one 10 (.one 11 (.one 12 .done)))) 9 (.one 6 (.one 10 (.one 11 (.one 12 .done))))) 6 (.one 9 (.two 2 (.one 10 (.one 11 (.one 12 .done))) 10 (.one 2 (.one 11 (.one 12 .done))))) 9 (.two 2 (.one 6 (.one 10 (.one 11 (.one 12 .done)))) 6 (.two 2 (.one 10 (.one 11 (.one 12 .done))) 10 (.one 2 (.one 11 (.one 12 .done))))))) 6 (.one 8 (.one 9 (.two 1 (.two 2 (.one 10 (.one 11 (.one 12 .done))) 10 (.one 2 (.one 11 (.one 12 .done)))) 10 (.one 1 (.one 2 (.one 11 (.one 12 .done))))))) 8 (.three 1 (.three 2 (.two 6 (.one 9 (.one 10 (.one 11 (.one 12 .done)))) 9 (.one 6 (.one 10 (.one 11 (.one 12 .done))))) 6 (.one 9 (.two 2 (.one 10 (.one 11 (.one 12 .done))) 10 (.one 2 (.one 11 (.one 12 .done))))) 9 (.two 2 (.one 6 (.one 10 (.one 11 (.one 12 .done)))) 6 (.two 2 (.one 10 (.one 11 (.one 12 .done))) 10 (.one 2 (.one 11 (.one 12 .done)))))) 6 (.one 9 (.two 1 (.two 2 (.one 10 (.one 11 (.one 12 .done))) 10 (.one 2 (.one 11 (.one 12 .done)))) 10 (.one 1 (.one 2 (.one 11 (.one 12 .done)))))) 9 (.two 1 (.two 2 (.one 6 (.one 10 (.one 11 (.one 12 .done)))) 6 (.two 2 (.one 10 (.one 11 (.one 12 .done))) 10 (.one 2 (.one 11 (.one 12 .done))))) 6 (.two 1 (.two 2 (.one 10 (.one 11 (.one 12 .done))) 10 (.one 2 (.one 11 (.one 12 .done)))) 10 (.one 1 (.one 2 (.one 11 (.one 12 .done)))))))))))), [6, 10, 11], by kernel_rfl, ?_⟩
  (try conv=>whnf);repeat' (first|(apply And.intro<;>try conv=>whnf)|(refine hX rfl rfl rfl rfl rfl ?_;intro s1 es1 er1 p1;have q1 := lt64 hO p1;try conv=>whnf)|(refine hY p1 rfl rfl rfl rfl rfl ?_;intro s2 es2 er2 p2;have q2 := lt64 hO p2;try conv=>whnf)|(refine bool_L (es := es2) (err := er2) hop hM q1 q2 rfl rfl rfl rfl rfl ?_;try conv=>whnf)|fail)
  all_goals
    refine ⟨.pv (u64 (s1 ||| s2)), 3, H0 m acts c es2 er2, ?_, hK _ _ _ ?_⟩
    · (refine Wk.of ?_ ?_ rfl rfl rfl<;>repeat' (first|exact trivial|exact WkD.same _|exact WkO.same _ _ rfl|refine ⟨?_, ?_⟩|fail))
    · exact post2 hC.okl hO hx rfl rfl rfl rfl p1 p2 (Nat.or_lt_two_pow p1.lt p2.lt) rfl
theorem val_7 {acts : List Act} {c : List Nd} {A F i : Nat} {fi ei gi xx yy : Int} (hC : CxD A F acts c) (hx : c[i]? = some ⟨7, fi, ei, gi, xx, yy⟩) (hat : ∀ j, j < i → ConE 38 (.pv (.int .i64 (j : Nat))) acts c A F j) :
    ConE 57 (.agg (Nd.dvs ⟨7, fi, ei, gi, xx, yy⟩)) acts c A F i := by
  intro m n es err hM hI hE M w0 base K hK
  have hO := hM.okd.okm
  have hnn : m.n.toNat = n := by rw [hO.nn, Int.toNat_natCast]
  have hn64 := hO.n64
  have h64 := pow64_le hn64
  have hall : 2 ^ n - 1 < 2 ^ n := by have := Nat.two_pow_pos n; omega
  have hnd := hC.okl i _ hx
  have hmem : (⟨7, fi, ei, gi, xx, yy⟩ : Nd) ∈ c := List.mem_iff_getElem?.2 ⟨i, hx⟩
  have hkx := hnd.x rfl
  simp only at hkx
  obtain ⟨X, ex⟩ : ∃ q : Nat, xx = q := ⟨xx.toNat, by omega⟩
  subst ex
  have hlx : X < i := by omega
  have hky := hnd.y rfl
  simp only at hky
  obtain ⟨Y, ey⟩ : ∃ q : Nat, yy = q := ⟨yy.toNat, by omega⟩
  subst ey
  have hly : Y < i := by omega
  have hX := fun {M w0 L K} => @con_L _ _ _ _ _ _ _ (hat X hlx) rfl m n es err hM hI hE M w0 L K
  have hY := fun {s1 es1 er1} (p1 : PostE acts c m n X err s1 es1 er1) {M w0 L K} => @con_L _ _ _ _ _ _ _ (hat Y hly) rfl m n es1 er1 hM p1.inv p1.er M w0 L K
  have hop : (7 : Int) = 5 ∨ (7 : Int) = 6 ∨ (7 : Int) = 7 ∨ (7 : Int) = 8 := by decide
  have f1 : ((7 : Int) == 1) = false := rfl
  have f2 : ((7 : Int) == 2) = false := rfl
  have f3 : ((7 : Int) == 3) = false := rfl
  have f4 : ((7 : Int) == 4) = false := rfl
  have f5 : ((7 : Int) == 5) = false := rfl
  have f6 : ((7 : Int) == 6) = false := rfl
  have f7 : ((7 : Int) == 7) = true := rfl
  have f8 : ((7 : Int) == 8) = false := rfl
  have f9 : ((7 : Int) == 9) = false := rfl
  have f10 : ((7 : Int) == 10) = false := rfl
  have f11 : ((7 : Int) == 11) = false := rfl
  have f12 : ((7 : Int) == 12) = false := rfl
  have f13 : ((7 : Int) == 13) = false := rfl
  have f16 : ((7 : Int) == 16) = false := rfl
  refine DC.weaken (DC.intro mixed (fn := Tryd.f57) rfl rfl rfl ?_)
  (try conv=>whnf);repeat' (first|(apply And.intro<;>try conv=>whnf)|(intro h;first|with_reducible exact tf h (by assumption)|with_reducible exact tf (by assumption) h|try conv=>whnf)|fail)
  refine ⟨.one 0 (.one 3 (.one 4 (.one 5 (.one 7 (.three 1 (.three 2 (.two 6 (.one 8 (.one 9 (.one 10 (.one 11 (.one 12 .done))))) 8 (.two 6 (.one 9 (.one 10 (.one 11 (.one 12 .done)))) 9 (.one 6 (.one 10 (.one 11 (.one 12 .done)))))) 6 (.one 8 (.one 9 (.two 2 (.one 10 (.one 11 (.one 12 .done))) 10 (.one 2 (.one 11 (.one 12 .done)))))) 8 (.three 2 (.two 6 (.one 9 (.one 10 (.one 11 (.one 12 .done)))) 9 (.one 6 (.one 10 (.one 11 (.one 12 .done))))) 6 (.one 9 (.two 2 (.one 10 (.one 11 (.one 12 .done))) 10 (.one 2 (.one 11 (.one 12 .done))))) 9 (.two 2 (.one 6 (.one 10 (.one 11 (.one 12 .done)))) 6 (.two 2 (.one 10 (.one 11 (.one 12 .done))) 10 (.one 2 (.one 11 (.one 12 .done))))))) 6 (.one 8 (.one 9 (.two 1 (.two 2 (.one 10 (.one 11 (.one 12 .done))) 10 (.one 2 (.one 11 (.one 12 .done)))) 10 (.one 1 (.one 2 (.one 11 (.one 12 .done))))))) 8 (.three 1 (.three 2 (.two 6 (.one 9 (.one 10 (.one 11 (.one 12 .done)))) 9 (.one 6 (.one 10 (.one 11 (.one 12 .done))))) 6 (.one 9 (.two 2 (.one 10 (.one 11 (.one 12 .done))) 10 (.one 2 (.one 11 (.one 12 .done))))) 9 (.two 2 (.one 6 (.one 10 (.one 11 (.one 12 .done)))) 6 (.two 2 (.one 10 (.one 11 (.one 12 .done))) 10 (.one 2 (.one 11 (.one 12 .done)))))) 6 (.one 9 (.two 1 (.two 2 (.one 10 (.one 11 (.one 12 .done))) 10 (.one 2 (.one 11 (.one 12 .done)))) 10 (.one 1 (.one 2 (.one 11 (.one 12 .done)))))) 9 (.two 1 (.two 2 (.one 6 (.one 10 (.one 11 (.one 12 .done)))) 6 (.two 2 (.one 10 (.one 11 (.one 12 .done))) 10 (.one 2 (.one 11 (.one 12 .done))))) 6 (.two 1 (.two 2 (.one 10 (.one 11 (.one 12 .done))) 10 (.one 2 (.one 11 (.one 12 .done)))) 10 (.one 1 (.one 2 (.one 11 (.one 12 .done)))))))))))), [6, 10, 11], by kernel_rfl, ?_⟩
  (try conv=>whnf);repeat' (first|(apply And.intro<;>try conv=>whnf)|(refine hX rfl rfl rfl rfl rfl ?_;intro s1 es1 er1 p1;have q1 := lt64 hO p1;try conv=>whnf)|(refine hY p1 rfl rfl rfl rfl rfl ?_;intro s2 es2 er2 p2;have q2 := lt64 hO p2;try conv=>whnf)|(refine bool_L (es := es2) (err := er2) hop hM q1 q2 rfl rfl rfl rfl rfl ?_;try conv=>whnf)|fail)
  all_goals
    refine ⟨.pv (u64 (notN n s1 ||| s2)), 3, H0 m acts c es2 er2, ?_, hK _ _ _ ?_⟩
    · (refine Wk.of ?_ ?_ rfl rfl rfl<;>repeat' (first|exact trivial|exact WkD.same _|exact WkO.same _ _ rfl|refine ⟨?_, ?_⟩|fail))
    · exact post2 hC.okl hO hx rfl rfl rfl rfl p1 p2 (Nat.or_lt_two_pow (notN_lt _ _) p2.lt) rfl
theorem val_8 {acts : List Act} {c : List Nd} {A F i : Nat} {fi ei gi xx yy : Int} (hC : CxD A F acts c) (hx : c[i]? = some ⟨8, fi, ei, gi, xx, yy⟩) (hat : ∀ j, j < i → ConE 38 (.pv (.int .i64 (j : Nat))) acts c A F j) :
    ConE 57 (.agg (Nd.dvs ⟨8, fi, ei, gi, xx, yy⟩)) acts c A F i := by
  intro m n es err hM hI hE M w0 base K hK
  have hO := hM.okd.okm
  have hnn : m.n.toNat = n := by rw [hO.nn, Int.toNat_natCast]
  have hn64 := hO.n64
  have h64 := pow64_le hn64
  have hall : 2 ^ n - 1 < 2 ^ n := by have := Nat.two_pow_pos n; omega
  have hnd := hC.okl i _ hx
  have hmem : (⟨8, fi, ei, gi, xx, yy⟩ : Nd) ∈ c := List.mem_iff_getElem?.2 ⟨i, hx⟩
  have hkx := hnd.x rfl
  simp only at hkx
  obtain ⟨X, ex⟩ : ∃ q : Nat, xx = q := ⟨xx.toNat, by omega⟩
  subst ex
  have hlx : X < i := by omega
  have hky := hnd.y rfl
  simp only at hky
  obtain ⟨Y, ey⟩ : ∃ q : Nat, yy = q := ⟨yy.toNat, by omega⟩
  subst ey
  have hly : Y < i := by omega
  have hX := fun {M w0 L K} => @con_L _ _ _ _ _ _ _ (hat X hlx) rfl m n es err hM hI hE M w0 L K
  have hY := fun {s1 es1 er1} (p1 : PostE acts c m n X err s1 es1 er1) {M w0 L K} => @con_L _ _ _ _ _ _ _ (hat Y hly) rfl m n es1 er1 hM p1.inv p1.er M w0 L K
  have hop : (8 : Int) = 5 ∨ (8 : Int) = 6 ∨ (8 : Int) = 7 ∨ (8 : Int) = 8 := by decide
  have f1 : ((8 : Int) == 1) = false := rfl
  have f2 : ((8 : Int) == 2) = false := rfl
  have f3 : ((8 : Int) == 3) = false := rfl
  have f4 : ((8 : Int) == 4) = false := rfl
  have f5 : ((8 : Int) == 5) = false := rfl
  have f6 : ((8 : Int) == 6) = false := rfl
  have f7 : ((8 : Int) == 7) = false := rfl
  have f8 : ((8 : Int) == 8) = true := rfl
  have f9 : ((8 : Int) == 9) = false := rfl
  have f10 : ((8 : Int) == 10) = false := rfl
  have f11 : ((8 : Int) == 11) = false := rfl
  have f12 : ((8 : Int) == 12) = false := rfl
  have f13 : ((8 : Int) == 13) = false := rfl
  have f16 : ((8 : Int) == 16) = false := rfl
  refine DC.weaken (DC.intro mixed (fn := Tryd.f57) rfl rfl rfl ?_)
  (try conv=>whnf);repeat' (first|(apply And.intro<;>try conv=>whnf)|(intro h;first|with_reducible exact tf h (by assumption)|with_reducible exact tf (by assumption) h|try conv=>whnf)|fail)
  refine ⟨.one 0 (.one 3 (.one 4 (.one 5 (.one 7 (.three 1 (.three 2 (.two 6 (.one 8 (.one 9 (.one 10 (.one 11 (.one 12 .done))))) 8 (.two 6 (.one 9 (.one 10 (.one 11 (.one 12 .done)))) 9 (.one 6 (.one 10 (.one 11 (.one 12 .done)))))) 6 (.one 8 (.one 9 (.two 2 (.one 10 (.one 11 (.one 12 .done))) 10 (.one 2 (.one 11 (.one 12 .done)))))) 8 (.three 2 (.two 6 (.one 9 (.one 10 (.one 11 (.one 12 .done)))) 9 (.one 6 (.one 10 (.one 11 (.one 12 .done))))) 6 (.one 9 (.two 2 (.one 10 (.one 11 (.one 12 .done))) 10 (.one 2 (.one 11 (.one 12 .done))))) 9 (.two 2 (.one 6 (.one 10 (.one 11 (.one 12 .done)))) 6 (.two 2 (.one 10 (.one 11 (.one 12 .done))) 10 (.one 2 (.one 11 (.one 12 .done))))))) 6 (.one 8 (.one 9 (.two 1 (.two 2 (.one 10 (.one 11 (.one 12 .done))) 10 (.one 2 (.one 11 (.one 12 .done)))) 10 (.one 1 (.one 2 (.one 11 (.one 12 .done))))))) 8 (.three 1 (.three 2 (.two 6 (.one 9 (.one 10 (.one 11 (.one 12 .done)))) 9 (.one 6 (.one 10 (.one 11 (.one 12 .done))))) 6 (.one 9 (.two 2 (.one 10 (.one 11 (.one 12 .done))) 10 (.one 2 (.one 11 (.one 12 .done))))) 9 (.two 2 (.one 6 (.one 10 (.one 11 (.one 12 .done)))) 6 (.two 2 (.one 10 (.one 11 (.one 12 .done))) 10 (.one 2 (.one 11 (.one 12 .done)))))) 6 (.one 9 (.two 1 (.two 2 (.one 10 (.one 11 (.one 12 .done))) 10 (.one 2 (.one 11 (.one 12 .done)))) 10 (.one 1 (.one 2 (.one 11 (.one 12 .done)))))) 9 (.two 1 (.two 2 (.one 6 (.one 10 (.one 11 (.one 12 .done)))) 6 (.two 2 (.one 10 (.one 11 (.one 12 .done))) 10 (.one 2 (.one 11 (.one 12 .done))))) 6 (.two 1 (.two 2 (.one 10 (.one 11 (.one 12 .done))) 10 (.one 2 (.one 11 (.one 12 .done)))) 10 (.one 1 (.one 2 (.one 11 (.one 12 .done)))))))))))), [6, 10, 11], by kernel_rfl, ?_⟩
  (try conv=>whnf);repeat' (first|(apply And.intro<;>try conv=>whnf)|(refine hX rfl rfl rfl rfl rfl ?_;intro s1 es1 er1 p1;have q1 := lt64 hO p1;try conv=>whnf)|(refine hY p1 rfl rfl rfl rfl rfl ?_;intro s2 es2 er2 p2;have q2 := lt64 hO p2;try conv=>whnf)|(refine bool_L (es := es2) (err := er2) hop hM q1 q2 rfl rfl rfl rfl rfl ?_;try conv=>whnf)|fail)
  all_goals
    refine ⟨.pv (u64 (notN n (s1 ^^^ s2))), 3, H0 m acts c es2 er2, ?_, hK _ _ _ ?_⟩
    · (refine Wk.of ?_ ?_ rfl rfl rfl<;>repeat' (first|exact trivial|exact WkD.same _|exact WkO.same _ _ rfl|refine ⟨?_, ?_⟩|fail))
    · exact post2 hC.okl hO hx rfl rfl rfl rfl p1 p2 (notN_lt _ _) rfl
end Go.Proofs.YtjdmfhggokfflaaDoor
set_option maxRecDepth 100000
set_option maxHeartbeats 16000000
namespace Go.Proofs.YtjdmfhggokfflaaDoor
open Go Go.Dv

theorem val_9 {acts : List Act} {c : List Nd} {A F i : Nat} {fi ei gi xx yy : Int} (hC : CxD A F acts c) (hx : c[i]? = some ⟨9, fi, ei, gi, xx, yy⟩) (hat : ∀ j, j < i → ConE 38 (.pv (.int .i64 (j : Nat))) acts c A F j) :
    ConE 57 (.agg (Nd.dvs ⟨9, fi, ei, gi, xx, yy⟩)) acts c A F i := by
  intro m n es err hM hI hE M w0 base K hK
  have hO := hM.okd.okm
  have hnn : m.n.toNat = n := by rw [hO.nn, Int.toNat_natCast]
  have hn64 := hO.n64
  have h64 := pow64_le hn64
  have hall : 2 ^ n - 1 < 2 ^ n := by have := Nat.two_pow_pos n; omega
  have hnd := hC.okl i _ hx
  have hmem : (⟨9, fi, ei, gi, xx, yy⟩ : Nd) ∈ c := List.mem_iff_getElem?.2 ⟨i, hx⟩
  have hkx := hnd.x rfl
  simp only at hkx
  obtain ⟨X, ex⟩ : ∃ q : Nat, xx = q := ⟨xx.toNat, by omega⟩
  subst ex
  have hlx : X < i := by omega
  have hX := fun {M w0 L K} => @con_L _ _ _ _ _ _ _ (hat X hlx) rfl m n es err hM hI hE M w0 L K
  have hfi := (hnd.agent rfl).1
  simp only at hfi
  have hfA := hC.ag _ hmem (by first | exact .inl rfl | exact .inr rfl)
  simp only at hfA
  obtain ⟨q, eq⟩ : ∃ q : Nat, fi = q := ⟨fi.toNat, by omega⟩
  subst eq
  have hq : q < m.rel.length := by rw [hM.ra]; omega
  obtain ⟨r, hr, hrw⟩ : ∃ r, m.rel[q]? = some r ∧ m.rel.getD q [] = r := ⟨_, getD_mem hq, rfl⟩
  have hrm : r ∈ m.rel := List.mem_iff_getElem?.2 ⟨q, hr⟩
  have hB : ∀ s : Nat, s < 2 ^ 64 → PureFn Tryd.prog 45 [rowPV r, u64 s] (u64 (boxN n r s)) := fun s hs => rl_Box n r _ hn64 (hO.rows r hrm) (hO.bits r hrm) hs
  have f1 : ((9 : Int) == 1) = false := rfl
  have f2 : ((9 : Int) == 2) = false := rfl
  have f3 : ((9 : Int) == 3) = false := rfl
  have f4 : ((9 : Int) == 4) = false := rfl
  have f5 : ((9 : Int) == 5) = false := rfl
  have f6 : ((9 : Int) == 6) = false := rfl
  have f7 : ((9 : Int) == 7) = false := rfl
  have f8 : ((9 : Int) == 8) = false := rfl
  have f9 : ((9 : Int) == 9) = true := rfl
  have f10 : ((9 : Int) == 10) = false := rfl
  have f11 : ((9 : Int) == 11) = false := rfl
  have f12 : ((9 : Int) == 12) = false := rfl
  have f13 : ((9 : Int) == 13) = false := rfl
  have f16 : ((9 : Int) == 16) = false := rfl
  refine DC.weaken (DC.intro mixed (fn := Tryd.f57) rfl rfl rfl ?_)
  (try conv=>whnf);repeat' (first|(apply And.intro<;>try conv=>whnf)|(intro h;first|with_reducible exact tf h (by assumption)|with_reducible exact tf (by assumption) h|try conv=>whnf)|fail)
  refine ⟨.one 0 (.one 9 (.one 10 (.one 11 (.three 1 (.three 2 (.three 3 (.three 4 (.two 5 (.two 6 (.two 7 (.two 8 (.one 12 (.one 13 (.one 14 .done))) 12 (.one 8 (.one 13 (.one 14 .done)))) 12 (.one 7 (.one 8 (.one 13 (.one 14 .done))))) 12 (.one 6 (.one 7 (.one 8 (.one 13 (.one 14 .done)))))) 12 (.one 5 (.one 6 (.one 7 (.one 8 (.one 13 (.one 14 .done))))))) 5 (.three 4 (.two 6 (.two 7 (.two 8 (.one 12 (.one 13 (.one 14 .done))) 12 (.one 8 (.one 13 (.one 14 .done)))) 12 (.one 7 (.one 8 (.one 13 (.one 14 .done))))) 12 (.one 6 (.one 7 (.one 8 (.one 13 (.one 14 .done)))))) 6 (.two 4 (.two 7 (.two 8 (.one 12 (.one 13 (.one 14 .done))) 12 (.one 8 (.one 13 (.one 14 .done)))) 12 (.one 7 (.one 8 (.one 13 (.one 14 .done))))) 12 (.one 4 (.one 7 (.one 8 (.one 13 (.one 14 .done)))))) 12 (.one 4 (.one 6 (.one 7 (.one 8 (.one 13 (.one 14 .done))))))) 12 (.one 4 (.one 5 (.one 6 (.one 7 (.one 8 (.one 13 (.one 14 .done)))))))) 5 (.three 3 (.three 4 (.two 6 (.two 7 (.two 8 (.one 12 (.one 13 (.one 14 .done))) 12 (.one 8 (.one 13 (.one 14 .done)))) 12 (.one 7 (.one 8 (.one 13 (.one 14 .done))))) 12 (.one 6 (.one 7 (.one 8 (.one 13 (.one 14 .done)))))) 6 (.two 4 (.two 7 (.two 8 (.one 12 (.one 13 (.one 14 .done))) 12 (.one 8 (.one 13 (.one 14 .done)))) 12 (.one 7 (.one 8 (.one 13 (.one 14 .done))))) 12 (.one 4 (.one 7 (.one 8 (.one 13 (.one 14 .done)))))) 12 (.one 4 (.one 6 (.one 7 (.one 8 (.one 13 (.one 14 .done))))))) 6 (.two 3 (.two 4 (.two 7 (.two 8 (.one 12 (.one 13 (.one 14 .done))) 12 (.one 8 (.one 13 (.one 14 .done)))) 12 (.one 7 (.one 8 (.one 13 (.one 14 .done))))) 12 (.one 4 (.one 7 (.one 8 (.one 13 (.one 14 .done)))))) 12 (.one 3 (.one 4 (.one 7 (.one 8 (.one 13 (.one 14 .done))))))) 12 (.one 3 (.one 4 (.one 6 (.one 7 (.one 8 (.one 13 (.one 14 .done)))))))) 12 (.one 3 (.one 4 (.one 5 (.one 6 (.one 7 (.one 8 (.one 13 (.one 14 .done))))))))) 5 (.three 2 (.three 3 (.three 4 (.two 6 (.two 7 (.two 8 (.one 12 (.one 13 (.one 14 .done))) 12 (.one 8 (.one 13 (.one 14 .done)))) 12 (.one 7 (.one 8 (.one 13 (.one 14 .done))))) 12 (.one 6 (.one 7 (.one 8 (.one 13 (.one 14 .done)))))) 6 (.two 4 (.two 7 (.two 8 (.one 12 (.one 13 (.one 14 .done))) 12 (.one 8 (.one 13 (.one 14 .done)))) 12 (.one 7 (.one 8 (.one 13 (.one 14 .done))))) 12 (.one 4 (.one 7 (.one 8 (.one 13 (.one 14 .done)))))) 12 (.one 4 (.one 6 (.one 7 (.one 8 (.one 13 (.one 14 .done))))))) 6 (.two 3 (.two 4 (.two 7 (.two 8 (.one 12 (.one 13 (.one 14 .done))) 12 (.one 8 (.one 13 (.one 14 .done)))) 12 (.one 7 (.one 8 (.one 13 (.one 14 .done))))) 12 (.one 4 (.one 7 (.one 8 (.one 13 (.one 14 .done)))))) 12 (.one 3 (.one 4 (.one 7 (.one 8 (.one 13 (.one 14 .done))))))) 12 (.one 3 (.one 4 (.one 6 (.one 7 (.one 8 (.one 13 (.one 14 .done)))))))) 6 (.two 2 (.two 3 (.two 4 (.two 7 (.two 8 (.one 12 (.one 13 (.one 14 .done))) 12 (.one 8 (.one 13 (.one 14 .done)))) 12 (.one 7 (.one 8 (.one 13 (.one 14 .done))))) 12 (.one 4 (.one 7 (.one 8 (.one 13 (.one 14 .done)))))) 12 (.one 3 (.one 4 (.one 7 (.one 8 (.one 13 (.one 14 .done))))))) 12 (.one 2 (.one 3 (.one 4 (.one 7 (.one 8 (.one 13 (.one 14 .done)))))))) 12 (.one 2 (.one 3 (.one 4 (.one 6 (.one 7 (.one 8 (.one 13 (.one 14 .done))))))))) 12 (.one 2 (.one 3 (.one 4 (.one 5 (.one 6 (.one 7 (.one 8 (.one 13 (.one 14 .done)))))))))) 5 (.three 1 (.three 2 (.three 3 (.three 4 (.two 6 (.two 7 (.two 8 (.one 12 (.one 13 (.one 14 .done))) 12 (.one 8 (.one 13 (.one 14 .done)))) 12 (.one 7 (.one 8 (.one 13 (.one 14 .done))))) 12 (.one 6 (.one 7 (.one 8 (.one 13 (.one 14 .done)))))) 6 (.two 4 (.two 7 (.two 8 (.one 12 (.one 13 (.one 14 .done))) 12 (.one 8 (.one 13 (.one 14 .done)))) 12 (.one 7 (.one 8 (.one 13 (.one 14 .done))))) 12 (.one 4 (.one 7 (.one 8 (.one 13 (.one 14 .done)))))) 12 (.one 4 (.one 6 (.one 7 (.one 8 (.one 13 (.one 14 .done))))))) 6 (.two 3 (.two 4 (.two 7 (.two 8 (.one 12 (.one 13 (.one 14 .done))) 12 (.one 8 (.one 13 (.one 14 .done)))) 12 (.one 7 (.one 8 (.one 13 (.one 14 .done))))) 12 (.one 4 (.one 7 (.one 8 (.one 13 (.one 14 .done)))))) 12 (.one 3 (.one 4 (.one 7 (.one 8 (.one 13 (.one 14 .done))))))) 12 (.one 3 (.one 4 (.one 6 (.one 7 (.one 8 (.one 13 (.one 14 .done)))))))) 6 (.two 2 (.two 3 (.two 4 (.two 7 (.two 8 (.one 12 (.one 13 (.one 14 .done))) 12 (.one 8 (.one 13 (.one 14 .done)))) 12 (.one 7 (.one 8 (.one 13 (.one 14 .done))))) 12 (.one 4 (.one 7 (.one 8 (.one 13 (.one 14 .done)))))) 12 (.one 3 (.one 4 (.one 7 (.one 8 (.one 13 (.one 14 .done))))))) 12 (.one 2 (.one 3 (.one 4 (.one 7 (.one 8 (.one 13 (.one 14 .done)))))))) 12 (.one 2 (.one 3 (.one 4 (.one 6 (.one 7 (.one 8 (.one 13 (.one 14 .done))))))))) 6 (.two 1 (.two 2 (.two 3 (.two 4 (.two 7 (.two 8 (.one 12 (.one 13 (.one 14 .done))) 12 (.one 8 (.one 13 (.one 14 .done)))) 12 (.one 7 (.one 8 (.one 13 (.one 14 .done))))) 12 (.one 4 (.one 7 (.one 8 (.one 13 (.one 14 .done)))))) 12 (.one 3 (.one 4 (.one 7 (.one 8 (.one 13 (.one 14 .done))))))) 12 (.one 2 (.one 3 (.one 4 (.one 7 (.one 8 (.one 13 (.one 14 .done)))))))) 12 (.one 1 (.one 2 (.one 3 (.one 4 (.one 7 (.one 8 (.one 13 (.one 14 .done))))))))) 12 (.one 1 (.one 2 (.one 3 (.one 4 (.one 6 (.one 7 (.one 8 (.one 13 (.one 14 .done)))))))))) 12 (.one 1 (.one 2 (.one 3 (.one 4 (.one 5 (.one 6 (.one 7 (.one 8 (.one 13 (.one 14 .done)))))))))))))), [12], by kernel_rfl, ?_⟩
  (try conv=>whnf);repeat' (first|(apply And.intro<;>try conv=>whnf)|(apply infoT;rfl)|(refine ⟨_, _, rfl, idx_map (by with_reducible assumption), rfl, ?_⟩;try conv=>whnf)|(refine hX rfl rfl rfl rfl rfl ?_;intro s1 es1 er1 p1;have q1 := lt64 hO p1;try conv=>whnf)|(refine ⟨u64 (boxN n r s1), ?_, rfl, ?_⟩;(focus ((try conv=>whnf);exact hB _ q1));try conv=>whnf)|fail)
  all_goals
    refine ⟨.pv (u64 (boxN n r s1)), 3, H0 m acts c es1 er1, ?_, hK _ _ _ ?_⟩
    · (refine Wk.of ?_ ?_ rfl rfl rfl<;>repeat' (first|exact trivial|exact WkD.same _|exact WkO.same _ _ rfl|refine ⟨?_, ?_⟩|fail))
    · exact post1 hC.okl hO hx rfl rfl rfl rfl p1 (boxN_lt _ _ _) (by rw [← hrw]; rfl)
theorem val_10 {acts : List Act} {c : List Nd} {A F i : Nat} {fi ei gi xx yy : Int} (hC : CxD A F acts c) (hx : c[i]? = some ⟨10, fi, ei, gi, xx, yy⟩) (hat : ∀ j, j < i → ConE 38 (.pv (.int .i64 (j : Nat))) acts c A F j) :
    ConE 57 (.agg (Nd.dvs ⟨10, fi, ei, gi, xx, yy⟩)) acts c A F i := by
  intro m n es err hM hI hE M w0 base K hK
  have hO := hM.okd.okm
  have hnn : m.n.toNat = n := by rw [hO.nn, Int.toNat_natCast]
  have hn64 := hO.n64
  have h64 := pow64_le hn64
  have hall : 2 ^ n - 1 < 2 ^ n := by have := Nat.two_pow_pos n; omega
  have hnd := hC.okl i _ hx
  have hmem : (⟨10, fi, ei, gi, xx, yy⟩ : Nd) ∈ c := List.mem_iff_getElem?.2 ⟨i, hx⟩
  have hkx := hnd.x rfl
  simp only at hkx
  obtain ⟨X, ex⟩ : ∃ q : Nat, xx = q := ⟨xx.toNat, by omega⟩
  subst ex
  have hlx : X < i := by omega
  have hX := fun {M w0 L K} => @con_L _ _ _ _ _ _ _ (hat X hlx) rfl m n es err hM hI hE M w0 L K
  have hfi := (hnd.agent rfl).1
  simp only at hfi
  have hfA := hC.ag _ hmem (by first | exact .inl rfl | exact .inr rfl)
  simp only at hfA
  obtain ⟨q, eq⟩ : ∃ q : Nat, fi = q := ⟨fi.toNat, by omega⟩
  subst eq
  have hq : q < m.rel.length := by rw [hM.ra]; omega
  obtain ⟨r, hr, hrw⟩ : ∃ r, m.rel[q]? = some r ∧ m.rel.getD q [] = r := ⟨_, getD_mem hq, rfl⟩
  have hrm : r ∈ m.rel := List.mem_iff_getElem?.2 ⟨q, hr⟩
  have hB : ∀ s : Nat, s < 2 ^ 64 → PureFn Tryd.prog 46 [rowPV r, u64 s] (u64 (diaN n r s)) := fun s hs => rl_Diamond n r _ hn64 (hO.rows r hrm) (hO.bits r hrm) hs
  have f1 : ((10 : Int) == 1) = false := rfl
  have f2 : ((10 : Int) == 2) = false := rfl
  have f3 : ((10 : Int) == 3) = false := rfl
  have f4 : ((10 : Int) == 4) = false := rfl
  have f5 : ((10 : Int) == 5) = false := rfl
  have f6 : ((10 : Int) == 6) = false := rfl
  have f7 : ((10 : Int) == 7) = false := rfl
  have f8 : ((10 : Int) == 8) = false := rfl
  have f9 : ((10 : Int) == 9) = false := rfl
  have f10 : ((10 : Int) == 10) = true := rfl
  have f11 : ((10 : Int) == 11) = false := rfl
  have f12 : ((10 : Int) == 12) = false := rfl
  have f13 : ((10 : Int) == 13) = false := rfl
  have f16 : ((10 : Int) == 16) = false := rfl
  refine DC.weaken (DC.intro mixed (fn := Tryd.f57) rfl rfl rfl ?_)
  (try conv=>whnf);repeat' (first|(apply And.intro<;>try conv=>whnf)|(intro h;first|with_reducible exact tf h (by assumption)|with_reducible exact tf (by assumption) h|try conv=>whnf)|fail)
  refine ⟨.one 0 (.one 9 (.one 10 (.one 11 (.three 1 (.three 2 (.three 3 (.three 4 (.two 5 (.two 6 (.two 7 (.two 8 (.one 12 (.one 13 (.one 14 .done))) 12 (.one 8 (.one 13 (.one 14 .done)))) 12 (.one 7 (.one 8 (.one 13 (.one 14 .done))))) 12 (.one 6 (.one 7 (.one 8 (.one 13 (.one 14 .done)))))) 12 (.one 5 (.one 6 (.one 7 (.one 8 (.one 13 (.one 14 .done))))))) 5 (.three 4 (.two 6 (.two 7 (.two 8 (.one 12 (.one 13 (.one 14 .done))) 12 (.one 8 (.one 13 (.one 14 .done)))) 12 (.one 7 (.one 8 (.one 13 (.one 14 .done))))) 12 (.one 6 (.one 7 (.one 8 (.one 13 (.one 14 .done)))))) 6 (.two 4 (.two 7 (.two 8 (.one 12 (.one 13 (.one 14 .done))) 12 (.one 8 (.one 13 (.one 14 .done)))) 12 (.one 7 (.one 8 (.one 13 (.one 14 .done))))) 12 (.one 4 (.one 7 (.one 8 (.one 13 (.one 14 .done)))))) 12 (.one 4 (.one 6 (.one 7 (.one 8 (.one 13 (.one 14 .done))))))) 12 (.one 4 (.one 5 (.one 6 (.one 7 (.one 8 (.one 13 (.one 14 .done)))))))) 5 (.three 3 (.three 4 (.two 6 (.two 7 (.two 8 (.one 12 (.one 13 (.one 14 .done))) 12 (.one 8 (.one 13 (.one 14 .done)))) 12 (.one 7 (.one 8 (.one 13 (.one 14 .done))))) 12 (.one 6 (.one 7 (.one 8 (.one 13 (.one 14 .done)))))) 6 (.two 4 (.two 7 (.two 8 (.one 12 (.one 13 (.one 14 .done))) 12 (.one 8 (.one 13 (.one 14 .done)))) 12 (.one 7 (.one 8 (.one 13 (.one 14 .done))))) 12 (.one 4 (.one 7 (.one 8 (.one 13 (.one 14 .done)))))) 12 (.one 4 (.one 6 (.one 7 (.one 8 (.one 13 (.one 14 .done))))))) 6 (.two 3 (.two 4 (.two 7 (.two 8 (.one 12 (.one 13 (.one 14 .done))) 12 (.one 8 (.one 13 (.one 14 .done)))) 12 (.one 7 (.one 8 (.one 13 (.one 14 .done))))) 12 (.one 4 (.one 7 (.one 8 (.one 13 (.one 14 .done)))))) 12 (.one 3 (.one 4 (.one 7 (.one 8 (.one 13 (.one 14 .done))))))) 12 (.one 3 (.one 4 (.one 6 (.one 7 (.one 8 (.one 13 (.one 14 .done)))))))) 12 (.one 3 (.one 4 (.one 5 (.one 6 (.one 7 (.one 8 (.one 13 (.one 14 .done))))))))) 5 (.three 2 (.three 3 (.three 4 (.two 6 (.two 7 (.two 8 (.one 12 (.one 13 (.one 14 .done))) 12 (.one 8 (.one 13 (.one 14 .done)))) 12 (.one 7 (.one 8 (.one 13 (.one 14 .done))))) 12 (.one 6 (.one 7 (.one 8 (.one 13 (.one 14 .done)))))) 6 (.two 4 (.two 7 (.two 8 (.one 12 (.one 13 (.one 14 .done))) 12 (.one 8 (.one 13 (.one 14 .done)))) 12 (.one 7 (.one 8 (.one 13 (.one 14 .done))))) 12 (.one 4 (.one 7 (.one 8 (.one 13 (.one 14 .done)))))) 12 (.one 4 (.one 6 (.one 7 (.one 8 (.one 13 (.one 14 .done))))))) 6 (.two 3 (.two 4 (.two 7 (.two 8 (.one 12 (.one 13 (.one 14 .done))) 12 (.one 8 (.one 13 (.one 14 .done)))) 12 (.one 7 (.one 8 (.one 13 (.one 14 .done))))) 12 (.one 4 (.one 7 (.one 8 (.one 13 (.one 14 .done)))))) 12 (.one 3 (.one 4 (.one 7 (.one 8 (.one 13 (.one 14 .done))))))) 12 (.one 3 (.one 4 (.one 6 (.one 7 (.one 8 (.one 13 (.one 14 .done)))))))) 6 (.two 2 (.two 3 (.two 4 (.two 7 (.two 8 (.one 12 (.one 13 (.one 14 .done))) 12 (.one 8 (.one 13 (.one 14 .done)))) 12 (.one 7 (.one 8 (.one 13 (.one 14 .done))))) 12 (.one 4 (.one 7 (.one 8 (.one 13 (.one 14 .done)))))) 12 (.one 3 (.one 4 (.one 7 (.one 8 (.one 13 (.one 14 .done))))))) 12 (.one 2 (.one 3 (.one 4 (.one 7 (.one 8 (.one 13 (.one 14 .done)))))))) 12 (.one 2 (.one 3 (.one 4 (.one 6 (.one 7 (.one 8 (.one 13 (.one 14 .done))))))))) 12 (.one 2 (.one 3 (.one 4 (.one 5 (.one 6 (.one 7 (.one 8 (.one 13 (.one 14 .done)))))))))) 5 (.three 1 (.three 2 (.three 3 (.three 4 (.two 6 (.two 7 (.two 8 (.one 12 (.one 13 (.one 14 .done))) 12 (.one 8 (.one 13 (.one 14 .done)))) 12 (.one 7 (.one 8 (.one 13 (.one 14 .done))))) 12 (.one 6 (.one 7 (.one 8 (.one 13 (.one 14 .done)))))) 6 (.two 4 (.two 7 (.two 8 (.one 12 (.one 13 (.one 14 .done))) 12 (.one 8 (.one 13 (.one 14 .done)))) 12 (.one 7 (.one 8 (.one 13 (.one 14 .done))))) 12 (.one 4 (.one 7 (.one 8 (.one 13 (.one 14 .done)))))) 12 (.one 4 (.one 6 (.one 7 (.one 8 (.one 13 (.one 14 .done))))))) 6 (.two 3 (.two 4 (.two 7 (.two 8 (.one 12 (.one 13 (.one 14 .done))) 12 (.one 8 (.one 13 (.one 14 .done)))) 12 (.one 7 (.one 8 (.one 13 (.one 14 .done))))) 12 (.one 4 (.one 7 (.one 8 (.one 13 (.one 14 .done)))))) 12 (.one 3 (.one 4 (.one 7 (.one 8 (.one 13 (.one 14 .done))))))) 12 (.one 3 (.one 4 (.one 6 (.one 7 (.one 8 (.one 13 (.one 14 .done)))))))) 6 (.two 2 (.two 3 (.two 4 (.two 7 (.two 8 (.one 12 (.one 13 (.one 14 .done))) 12 (.one 8 (.one 13 (.one 14 .done)))) 12 (.one 7 (.one 8 (.one 13 (.one 14 .done))))) 12 (.one 4 (.one 7 (.one 8 (.one 13 (.one 14 .done)))))) 12 (.one 3 (.one 4 (.one 7 (.one 8 (.one 13 (.one 14 .done))))))) 12 (.one 2 (.one 3 (.one 4 (.one 7 (.one 8 (.one 13 (.one 14 .done)))))))) 12 (.one 2 (.one 3 (.one 4 (.one 6 (.one 7 (.one 8 (.one 13 (.one 14 .done))))))))) 6 (.two 1 (.two 2 (.two 3 (.two 4 (.two 7 (.two 8 (.one 12 (.one 13 (.one 14 .done))) 12 (.one 8 (.one 13 (.one 14 .done)))) 12 (.one 7 (.one 8 (.one 13 (.one 14 .done))))) 12 (.one 4 (.one 7 (.one 8 (.one 13 (.one 14 .done)))))) 12 (.one 3 (.one 4 (.one 7 (.one 8 (.one 13 (.one 14 .done))))))) 12 (.one 2 (.one 3 (.one 4 (.one 7 (.one 8 (.one 13 (.one 14 .done)))))))) 12 (.one 1 (.one 2 (.one 3 (.one 4 (.one 7 (.one 8 (.one 13 (.one 14 .done))))))))) 12 (.one 1 (.one 2 (.one 3 (.one 4 (.one 6 (.one 7 (.one 8 (.one 13 (.one 14 .done)))))))))) 12 (.one 1 (.one 2 (.one 3 (.one 4 (.one 5 (.one 6 (.one 7 (.one 8 (.one 13 (.one 14 .done)))))))))))))), [12], by kernel_rfl, ?_⟩
  (try conv=>whnf);repeat' (first|(apply And.intro<;>try conv=>whnf)|(apply infoT;rfl)|(refine ⟨_, _, rfl, idx_map (by with_reducible assumption), rfl, ?_⟩;try conv=>whnf)|(refine hX rfl rfl rfl rfl rfl ?_;intro s1 es1 er1 p1;have q1 := lt64 hO p1;try conv=>whnf)|(refine ⟨u64 (diaN n r s1), ?_, rfl, ?_⟩;(focus ((try conv=>whnf);exact hB _ q1));try conv=>whnf)|fail)
  all_goals
    refine ⟨.pv (u64 (diaN n r s1)), 3, H0 m acts c es1 er1, ?_, hK _ _ _ ?_⟩
    · (refine Wk.of ?_ ?_ rfl rfl rfl<;>repeat' (first|exact trivial|exact WkD.same _|exact WkO.same _ _ rfl|refine ⟨?_, ?_⟩|fail))
    · exact post1 hC.okl hO hx rfl rfl rfl rfl p1 (diaN_lt _ _ _) (by rw [← hrw]; rfl)
theorem val_11 {acts : List Act} {c : List Nd} {A F i : Nat} {fi ei gi xx yy : Int} (hC : CxD A F acts c) (hx : c[i]? = some ⟨11, fi, ei, gi, xx, yy⟩) (hat : ∀ j, j < i → ConE 38 (.pv (.int .i64 (j : Nat))) acts c A F j) :
    ConE 57 (.agg (Nd.dvs ⟨11, fi, ei, gi, xx, yy⟩)) acts c A F i := by
  intro m n es err hM hI hE M w0 base K hK
  have hO := hM.okd.okm
  have hnn : m.n.toNat = n := by rw [hO.nn, Int.toNat_natCast]
  have hn64 := hO.n64
  have h64 := pow64_le hn64
  have hall : 2 ^ n - 1 < 2 ^ n := by have := Nat.two_pow_pos n; omega
  have hnd := hC.okl i _ hx
  have hmem : (⟨11, fi, ei, gi, xx, yy⟩ : Nd) ∈ c := List.mem_iff_getElem?.2 ⟨i, hx⟩
  have hkx := hnd.x rfl
  simp only at hkx
  obtain ⟨X, ex⟩ : ∃ q : Nat, xx = q := ⟨xx.toNat, by omega⟩
  subst ex
  have hlx : X < i := by omega
  have hX := fun {M w0 L K} => @con_L _ _ _ _ _ _ _ (hat X hlx) rfl m n es err hM hI hE M w0 L K
  have hgr := hC.gr _ hmem (by first | exact .inl rfl | exact .inr (.inl rfl) | exact .inr (.inr rfl))
  simp only at hgr
  have hg1 := hgr.1
  have hg2 : gi < shl64 1 (m.rel.length : Int) := by rw [hM.ra]; exact hgr.2
  have hG := md_Group m n hO gi
  have hgf := grp_facts (g := gi) hO (orF_lt n) (Nat.two_pow_pos n) hg1 hg2
  obtain ⟨G, hGe⟩ : ∃ G, G = grpM orF m gi 0 := ⟨_, rfl⟩
  rw [← hGe] at hG hgf
  have hB : ∀ s : Nat, s < 2 ^ 64 → PureFn Tryd.prog 45 [rowPV G, u64 s] (u64 (boxN n G s)) := fun s hs => rl_Box n G _ hn64 hgf.1 hgf.2 hs
  have f1 : ((11 : Int) == 1) = false := rfl
  have f2 : ((11 : Int) == 2) = false := rfl
  have f3 : ((11 : Int) == 3) = false := rfl
  have f4 : ((11 : Int) == 4) = false := rfl
  have f5 : ((11 : Int) == 5) = false := rfl
  have f6 : ((11 : Int) == 6) = false := rfl
  have f7 : ((11 : Int) == 7) = false := rfl
  have f8 : ((11 : Int) == 8) = false := rfl
  have f9 : ((11 : Int) == 9) = false := rfl
  have f10 : ((11 : Int) == 10) = false := rfl
  have f11 : ((11 : Int) == 11) = true := rfl
  have f12 : ((11 : Int) == 12) = false := rfl
  have f13 : ((11 : Int) == 13) = false := rfl
  have f16 : ((11 : Int) == 16) = false := rfl
  refine DC.weaken (DC.intro mixed (fn := Tryd.f57) rfl rfl rfl ?_)
  (try conv=>whnf);repeat' (first|(apply And.intro<;>try conv=>whnf)|(intro h;first|with_reducible exact tf h (by assumption)|with_reducible exact tf (by assumption) h|try conv=>whnf)|fail)
  refine ⟨.one 0 (.one 1 (.one 2 (.one 3 (.one 4 (.one 5 (.one 6 (.one 7 (.one 8 (.one 9 (.one 10 (.one 11 (.one 12 .done)))))))))))), [10], by kernel_rfl, ?_⟩
  (try conv=>whnf);repeat' (first|(refine hX rfl rfl rfl rfl rfl ?_;intro s1 es1 er1 p1;have q1 := lt64 hO p1;try conv=>whnf)|(refine ⟨rowPV G, ?_, rfl, ?_⟩;(focus ((try conv=>whnf);exact hG));try conv=>whnf)|(refine ⟨u64 (boxN n G s1), ?_, rfl, ?_⟩;(focus ((try conv=>whnf);exact hB _ q1));try conv=>whnf)|fail)
  all_goals
    refine ⟨.pv (u64 (boxN n G s1)), 3, H0 m acts c es1 er1, ?_, hK _ _ _ ?_⟩
    · (refine Wk.of ?_ ?_ rfl rfl rfl<;>repeat' (first|exact trivial|exact WkD.same _|exact WkO.same _ _ rfl|refine ⟨?_, ?_⟩|fail))
    · exact post1 hC.okl hO hx rfl rfl rfl rfl p1 (boxN_lt _ _ _) (by rw [hGe]; rfl)
theorem val_12 {acts : List Act} {c : List Nd} {A F i : Nat} {fi ei gi xx yy : Int} (hC : CxD A F acts c) (hx : c[i]? = some ⟨12, fi, ei, gi, xx, yy⟩) (hat : ∀ j, j < i → ConE 38 (.pv (.int .i64 (j : Nat))) acts c A F j) :
    ConE 57 (.agg (Nd.dvs ⟨12, fi, ei, gi, xx, yy⟩)) acts c A F i := by
  intro m n es err hM hI hE M w0 base K hK
  have hO := hM.okd.okm
  have hnn : m.n.toNat = n := by rw [hO.nn, Int.toNat_natCast]
  have hn64 := hO.n64
  have h64 := pow64_le hn64
  have hall : 2 ^ n - 1 < 2 ^ n := by have := Nat.two_pow_pos n; omega
  have hnd := hC.okl i _ hx
  have hmem : (⟨12, fi, ei, gi, xx, yy⟩ : Nd) ∈ c := List.mem_iff_getElem?.2 ⟨i, hx⟩
  have hkx := hnd.x rfl
  simp only at hkx
  obtain ⟨X, ex⟩ : ∃ q : Nat, xx = q := ⟨xx.toNat, by omega⟩
  subst ex
  have hlx : X < i := by omega
  have hX := fun {M w0 L K} => @con_L _ _ _ _ _ _ _ (hat X hlx) rfl m n es err hM hI hE M w0 L K
  have hgr := hC.gr _ hmem (by first | exact .inl rfl | exact .inr (.inl rfl) | exact .inr (.inr rfl))
  simp only at hgr
  have hg1 := hgr.1
  have hg2 : gi < shl64 1 (m.rel.length : Int) := by rw [hM.ra]; exact hgr.2
  have hG := md_Meet m n hO gi
  have hgf := grp_facts (g := gi) hO (andF_lt n) hall hg1 hg2
  obtain ⟨G, hGe⟩ : ∃ G, G = grpM andF m gi (2 ^ n - 1) := ⟨_, rfl⟩
  rw [← hGe] at hG hgf
  have hB : ∀ s : Nat, s < 2 ^ 64 → PureFn Tryd.prog 45 [rowPV G, u64 s] (u64 (boxN n G s)) := fun s hs => rl_Box n G _ hn64 hgf.1 hgf.2 hs
  have f1 : ((12 : Int) == 1) = false := rfl
  have f2 : ((12 : Int) == 2) = false := rfl
  have f3 : ((12 : Int) == 3) = false := rfl
  have f4 : ((12 : Int) == 4) = false := rfl
  have f5 : ((12 : Int) == 5) = false := rfl
  have f6 : ((12 : Int) == 6) = false := rfl
  have f7 : ((12 : Int) == 7) = false := rfl
  have f8 : ((12 : Int) == 8) = false := rfl
  have f9 : ((12 : Int) == 9) = false := rfl
  have f10 : ((12 : Int) == 10) = false := rfl
  have f11 : ((12 : Int) == 11) = false := rfl
  have f12 : ((12 : Int) == 12) = true := rfl
  have f13 : ((12 : Int) == 13) = false := rfl
  have f16 : ((12 : Int) == 16) = false := rfl
  refine DC.weaken (DC.intro mixed (fn := Tryd.f57) rfl rfl rfl ?_)
  (try conv=>whnf);repeat' (first|(apply And.intro<;>try conv=>whnf)|(intro h;first|with_reducible exact tf h (by assumption)|with_reducible exact tf (by assumption) h|try conv=>whnf)|fail)
  refine ⟨.one 0 (.one 1 (.one 2 (.one 3 (.one 4 (.one 5 (.one 6 (.one 7 (.one 8 (.one 9 (.one 10 (.one 11 (.one 12 .done)))))))))))), [10], by kernel_rfl, ?_⟩
  (try conv=>whnf);repeat' (first|(refine hX rfl rfl rfl rfl rfl ?_;intro s1 es1 er1 p1;have q1 := lt64 hO p1;try conv=>whnf)|(refine ⟨rowPV G, ?_, rfl, ?_⟩;(focus ((try conv=>whnf);exact hG));try conv=>whnf)|(refine ⟨u64 (boxN n G s1), ?_, rfl, ?_⟩;(focus ((try conv=>whnf);exact hB _ q1));try conv=>whnf)|fail)
  all_goals
    refine ⟨.pv (u64 (boxN n G s1)), 3, H0 m acts c es1 er1, ?_, hK _ _ _ ?_⟩
    · (refine Wk.of ?_ ?_ rfl rfl rfl<;>repeat' (first|exact trivial|exact WkD.same _|exact WkO.same _ _ rfl|refine ⟨?_, ?_⟩|fail))
    · exact post1 hC.okl hO hx rfl rfl rfl rfl p1 (boxN_lt _ _ _) (by rw [hGe]; rfl)
theorem com_L {acts : List Act} {c : List Nd} {A F : Nat} {g : Int} {m : Mo} {n : Nat} {es : List (Nat × Nat)} {err : Int} (hM : ModD acts m n A F) (hg1 : 1 ≤ g) (hg2 : g < shl64 1 (m.rel.length : Int)) {x y : Nat} (hx : x < 2 ^ n) (hy : y < 2 ^ n)
    {M : Nat → Prop} {w0 : World} {L : DH} {K : DV → DH → Prop} (h0 : L.lo = 0) (hn : Nat.ble 3 L.next = true) (g0 : L.get 0 = some (.var [.pv (.int .i64 err)])) (g1 : L.get 1 = some (.var (evC m acts c))) (g2 : L.get 2 = some (.mp (setM es)))
    (hK : K (.pv (u64 (comN n (grpM orF m g 0) x y))) (L.merge ⟨3, 0, 3, objsOf (H0 m acts c es err)⟩ 3)) : DC Tryd.prog M w0 77 [.ref 1 0, .pv (.int .i64 g), .pv (u64 x), .pv (u64 y)] L K := by
  have hO := hM.okd.okm
  have hnn : m.n.toNat = n := by rw [hO.nn, Int.toNat_natCast]
  have hn64 := hO.n64
  have h64 := pow64_le hn64
  have hx64 : x < 2 ^ 64 := by omega
  have hy64 : y < 2 ^ 64 := by omega
  have hG := md_Group m n hO g
  have hgf := grp_facts (g := g) hO (orF_lt n) (Nat.two_pow_pos n) hg1 hg2
  refine DC.call 3 (H0 m acts c es err) ⟨g2.symm, g1.symm, g0.symm, trivial⟩ rfl hn (by rw [h0]; rfl) rfl fun M' => ?_
  rw [h0]
  generalize grpM orF m g 0 = r at hG hgf hK
  obtain ⟨hrl, hrb⟩ := hgf
  have hlt := comP_lt n r x y
  have hgd := getD_lt2 hrb
  refine DC.weaken (DC.intro mixed (fn := Tryd.f77) rfl rfl rfl ?_)
  (try conv=>whnf);repeat' (first|(refine PureFn.dcq (f := 48) rfl ?_;try conv=>whnf)|(refine ⟨_, _, hG, ?_, ?_⟩;(focus first|(refine ⟨?_, ?_, trivial⟩<;>first|exact PLe.refl _|exact PLe.nil)|exact trivial);try conv=>whnf)|fail)
  refine ⟨{ k : Nat // k ≤ n }, fun k => [(0, .ref 1 0), (2, .pv (u64 x)), (3, .pv (u64 y)), (9, .pv (rowPV r)), (10, .pv (u64 (comP n r x y k.1)))], fun _ => 3, fun _ => H0 m acts c es err, fun k => n - k.1, ⟨⟨0, Nat.zero_le _⟩, ?_⟩, ?_⟩
  · (refine Wk.of ?_ ?_ rfl rfl rfl<;>repeat' (first|exact trivial|exact WkD.same _|exact WkO.same _ _ rfl|refine WkD.int ?_|refine ⟨?_, ?_⟩|fail))
    exact congrArg (fun z : Nat => (((2 ^ z - 1 : Nat)) : Int)) hnn
  rintro ⟨k, hk⟩
  have hk1 := hlt k
  have hst := comP_stop (c := x) (s := y) hgd k
  have hcn := comP_comN (c := x) (s := y) (k := k) hrl hrb
  have hnx : comP n r x y (k + 1) = boxN n r (notN n x ||| (y &&& comP n r x y k)) := rfl
  have hB := rl_Box n r (notN n x ||| (y &&& comP n r x y k)) hn64 hrl hrb (Nat.or_lt_two_pow (Nat.lt_of_lt_of_le (notN_lt n x) h64) (Nat.and_lt_two_pow _ (by omega)))
  rw [← hnx] at hB
  have hlt2 := hlt (k + 1)
  have earg : u64 (notN n x ||| (y &&& comP n r x y k)) = .int .u64 (orU (andNotU ((2 ^ m.n.toNat - 1 : Nat) : Int) (x : Nat)) (andU (y : Nat) (comP n r x y k : Nat))) := by
    rw [hnn, andNotU_all hn64, andU_nat (by omega) (by omega), orU_nat (Nat.lt_of_lt_of_le (notN_lt n x) h64) (Nat.and_lt_two_pow _ (by omega))]; rfl
  rw [earg] at hB
  (try conv=>whnf);repeat' (first|(apply And.intro<;>try conv=>whnf)|(intro h;try conv=>whnf)|(refine PureFn.dcq (f := 45) rfl ?_;try conv=>whnf)|(refine ⟨_, _, hB, ?_, ?_⟩;(focus first|(refine ⟨?_, ?_, trivial⟩<;>first|exact PLe.refl _|exact PLe.nil)|exact trivial);try conv=>whnf)|fail)
  · have he : comP n r x y (k + 1) = comP n r x y k := by
      have : ((comP n r x y (k + 1) : Nat) : Int) = (comP n r x y k : Nat) := by simpa using h
      omega
    rw [← hcn he] at hK
    exact ⟨.pv (u64 (comP n r x y k)), 3, H0 m acts c es err, (by refine Wk.of ?_ ?_ rfl rfl rfl<;>repeat' (first|exact trivial|exact WkD.same _|exact WkO.same _ _ rfl|refine ⟨?_, ?_⟩|fail)), ⟨rfl, hK⟩⟩
  · have he : ¬ comP n r x y (k + 1) = comP n r x y k := fun e => by
      have : ¬ ((comP n r x y (k + 1) : Nat) : Int) = (comP n r x y k : Nat) := by simpa using h
      omega
    have hk2 : k + 1 ≤ n := by
      rcases hst with g | g
      · exact absurd g he
      · omega
    exact ⟨⟨k + 1, hk2⟩, by show n - (k + 1) < n - k; omega, (by refine Wk.of ?_ ?_ rfl rfl rfl<;>repeat' (first|exact trivial|exact WkD.same _|exact WkO.same _ _ rfl|refine ⟨?_, ?_⟩|fail))⟩
theorem val_13 {acts : List Act} {c : List Nd} {A F i : Nat} {fi ei gi xx yy : Int} (hC : CxD A F acts c) (hx : c[i]? = some ⟨13, fi, ei, gi, xx, yy⟩) (hat : ∀ j, j < i → ConE 38 (.pv (.int .i64 (j : Nat))) acts c A F j) :
    ConE 57 (.agg (Nd.dvs ⟨13, fi, ei, gi, xx, yy⟩)) acts c A F i := by
  intro m n es err hM hI hE M w0 base K hK
  have hO := hM.okd.okm
  have hnn : m.n.toNat = n := by rw [hO.nn, Int.toNat_natCast]
  have hn64 := hO.n64
  have h64 := pow64_le hn64
  have hall : 2 ^ n - 1 < 2 ^ n := by have := Nat.two_pow_pos n; omega
  have hnd := hC.okl i _ hx
  have hmem : (⟨13, fi, ei, gi, xx, yy⟩ : Nd) ∈ c := List.mem_iff_getElem?.2 ⟨i, hx⟩
  have hkx := hnd.x rfl
  simp only at hkx
  obtain ⟨X, ex⟩ : ∃ q : Nat, xx = q := ⟨xx.toNat, by omega⟩
  subst ex
  have hlx : X < i := by omega
  have hky := hnd.y rfl
  simp only at hky
  obtain ⟨Y, ey⟩ : ∃ q : Nat, yy = q := ⟨yy.toNat, by omega⟩
  subst ey
  have hly : Y < i := by omega
  have hX := fun {M w0 L K} => @con_L _ _ _ _ _ _ _ (hat X hlx) rfl m n es err hM hI hE M w0 L K
  have hY := fun {s1 es1 er1} (p1 : PostE acts c m n X err s1 es1 er1) {M w0 L K} => @con_L _ _ _ _ _ _ _ (hat Y hly) rfl m n es1 er1 hM p1.inv p1.er M w0 L K
  have hgr := hC.gr _ hmem (by first | exact .inl rfl | exact .inr (.inl rfl) | exact .inr (.inr rfl))
  simp only at hgr
  have hg1 := hgr.1
  have hg2 : gi < shl64 1 (m.rel.length : Int) := by rw [hM.ra]; exact hgr.2
  have f1 : ((13 : Int) == 1) = false := rfl
  have f2 : ((13 : Int) == 2) = false := rfl
  have f3 : ((13 : Int) == 3) = false := rfl
  have f4 : ((13 : Int) == 4) = false := rfl
  have f5 : ((13 : Int) == 5) = false := rfl
  have f6 : ((13 : Int) == 6) = false := rfl
  have f7 : ((13 : Int) == 7) = false := rfl
  have f8 : ((13 : Int) == 8) = false := rfl
  have f9 : ((13 : Int) == 9) = false := rfl
  have f10 : ((13 : Int) == 10) = false := rfl
  have f11 : ((13 : Int) == 11) = false := rfl
  have f12 : ((13 : Int) == 12) = false := rfl
  have f13 : ((13 : Int) == 13) = true := rfl
  have f16 : ((13 : Int) == 16) = false := rfl
  refine DC.weaken (DC.intro mixed (fn := Tryd.f57) rfl rfl rfl ?_)
  (try conv=>whnf);repeat' (first|(apply And.intro<;>try conv=>whnf)|(intro h;first|with_reducible exact tf h (by assumption)|with_reducible exact tf (by assumption) h|try conv=>whnf)|fail)
  refine ⟨.one 0 (.one 3 (.one 4 (.one 5 (.one 7 (.three 1 (.three 2 (.two 6 (.one 8 (.one 9 (.one 10 (.one 11 (.one 12 .done))))) 8 (.two 6 (.one 9 (.one 10 (.one 11 (.one 12 .done)))) 9 (.one 6 (.one 10 (.one 11 (.one 12 .done)))))) 6 (.one 8 (.one 9 (.two 2 (.one 10 (.one 11 (.one 12 .done))) 10 (.one 2 (.one 11 (.one 12 .done)))))) 8 (.three 2 (.two 6 (.one 9 (.one 10 (.one 11 (.one 12 .done)))) 9 (.one 6 (.one 10 (.one 11 (.one 12 .done))))) 6 (.one 9 (.two 2 (.one 10 (.one 11 (.one 12 .done))) 10 (.one 2 (.one 11 (.one 12 .done))))) 9 (.two 2 (.one 6 (.one 10 (.one 11 (.one 12 .done)))) 6 (.two 2 (.one 10 (.one 11 (.one 12 .done))) 10 (.one 2 (.one 11 (.one 12 .done))))))) 6 (.one 8 (.one 9 (.two 1 (.two 2 (.one 10 (.one 11 (.one 12 .done))) 10 (.one 2 (.one 11 (.one 12 .done)))) 10 (.one 1 (.one 2 (.one 11 (.one 12 .done))))))) 8 (.three 1 (.three 2 (.two 6 (.one 9 (.one 10 (.one 11 (.one 12 .done)))) 9 (.one 6 (.one 10 (.one 11 (.one 12 .done))))) 6 (.one 9 (.two 2 (.one 10 (.one 11 (.one 12 .done))) 10 (.one 2 (.one 11 (.one 12 .done))))) 9 (.two 2 (.one 6 (.one 10 (.one 11 (.one 12 .done)))) 6 (.two 2 (.one 10 (.one 11 (.one 12 .done))) 10 (.one 2 (.one 11 (.one 12 .done)))))) 6 (.one 9 (.two 1 (.two 2 (.one 10 (.one 11 (.one 12 .done))) 10 (.one 2 (.one 11 (.one 12 .done)))) 10 (.one 1 (.one 2 (.one 11 (.one 12 .done)))))) 9 (.two 1 (.two 2 (.one 6 (.one 10 (.one 11 (.one 12 .done)))) 6 (.two 2 (.one 10 (.one 11 (.one 12 .done))) 10 (.one 2 (.one 11 (.one 12 .done))))) 6 (.two 1 (.two 2 (.one 10 (.one 11 (.one 12 .done))) 10 (.one 2 (.one 11 (.one 12 .done)))) 10 (.one 1 (.one 2 (.one 11 (.one 12 .done)))))))))))), [6, 10, 11], by kernel_rfl, ?_⟩
  (try conv=>whnf);repeat' (first|(apply And.intro<;>try conv=>whnf)|(refine hX rfl rfl rfl rfl rfl ?_;intro s1 es1 er1 p1;have q1 := lt64 hO p1;try conv=>whnf)|(refine hY p1 rfl rfl rfl rfl rfl ?_;intro s2 es2 er2 p2;have q2 := lt64 hO p2;try conv=>whnf)|(refine com_L (es := es2) (err := er2) hM hg1 hg2 p1.lt p2.lt rfl rfl rfl rfl rfl ?_;try conv=>whnf)|fail)
  all_goals
    refine ⟨.pv (u64 (comN n (grpM orF m gi 0) s1 s2)), 3, H0 m acts c es2 er2, ?_, hK _ _ _ ?_⟩
    · (refine Wk.of ?_ ?_ rfl rfl rfl<;>repeat' (first|exact trivial|exact WkD.same _|exact WkO.same _ _ rfl|refine ⟨?_, ?_⟩|fail))
    · exact post2 hC.okl hO hx rfl rfl rfl rfl p1 p2 (comN_lt _ _ _ _) rfl
end Go.Proofs.YtjdmfhggokfflaaDoor
set_option maxRecDepth 100000
set_option maxHeartbeats 16000000
namespace Go.Proofs.YtjdmfhggokfflaaDoor
open Go Go.Dv

/-- What an announcement in a model comes to. -/
def annV (acts : List Act) (c : List Nd) (Y : Nat) (m : Mo) (n s : Nat) : Option Nat := bif s == 0 then some (2 ^ n - 1) else match dvT acts (tree c Y) (arrI m (memL s)) with
  | none => none
  | some u => some (sprG u (memL s) 0 (notN n s))
structure PostV (v : Option Nat) (n : Nat) (err : Int) (s : Nat) (err' : Int) : Prop where
  lt : s < 2 ^ n
  er : err' = 0 ∨ err' = 8
  ok : err' = 0 → err = 0 ∧ v = some s
  no : err' ≠ 0 → err ≠ 0 ∨ v = none
def evK (k : Nat) (m : Mo) (acts : List Act) (c : List Nd) : List DV := [.pv (.int .i64 m.n), .pv (.sl (m.val.map u64)), .pv (.sl (m.rel.map rowPV)), .pv (u64 (2 ^ m.n.toNat - 1)), .pv (actsPV acts), .pv (fpv c), .mp k, .ref 0 0]
def inPlan : Plan := .one 0 (.one 1 (.one 2 (.one 3 (.one 4 (.one 5 (.one 6 (.one 7 (.one 8 (.one 9 (.one 10 (.one 11 (.one 12 (.one 14 (.one 15 (.one 16 (.one 17 (.one 13 (.one 18 (.one 19 (.one 20 .done))))))))))))))))))))
theorem in_wrap {n : Nat} {k : Int} (h : k = n) (h1 : 1 ≤ n) (hn : n ≤ 64) : IntKind.wrap .i64 (64 - k) = (64 : Int) - n := by rw [h]; exact Go.Dv.wrap_small (by omega) (by omega)
theorem spr_step {acc u i w : Nat} (ha : acc < 2 ^ 64) (hu : u < 2 ^ 64) (hi : i < 64) (hw : w < 64) : orU (acc : Nat) (shlU (andU (shrU (u : Nat) (i : Nat)) 1) (w : Nat)) = ((acc ||| (bif u.testBit i then 2 ^ w else 0) : Nat) : Int) := by
  rw [bit_and u i hu hi]
  cases h : u.testBit i with
  | true =>
    rw [if_pos rfl, cond_true, show shlU 1 (w : Nat) = ((2 ^ w : Nat) : Int) from shlU_one hw, orU_nat ha (Nat.pow_lt_pow_right (by decide) hw)]
  | false =>
    rw [if_neg (by decide), cond_false, show shlU 0 (w : Nat) = ((0 : Nat) : Int) by show IntKind.wrap .u64 (0 * _) = 0; rw [Int.zero_mul]; rfl, orU_nat ha (by decide)]
/-- The evaluation in another model, its objects at other keys. -/
theorem at_R {acts : List Act} {c : List Nd} {A F j k e : Nat} (h : ConE 38 (.pv (.int .i64 (j : Nat))) acts c A F j) {m : Mo} {n : Nat} {err : Int} (hM : ModD acts m n A F) (hE : err = 0 ∨ err = 8)
    {M : Nat → Prop} {w0 : World} {L : DH} {K : DV → DH → Prop} (hne : nodR [0, e, k] = true) (hlt : ([0, e, k].all fun q => Nat.blt q L.next) = true) (h0 : L.lo = 0)
    (hag : agrR (objsOf (H0 m acts c [] err)) L.get [0, e, k] 3) (hks : DV.keyss (memR [0, e, k]) [.ref e 0, .pv (.int .i64 (j : Nat))] = true) (hre : DV.rens (sigR [0, e, k]) [.ref e 0, .pv (.int .i64 (j : Nat))] = [.ref 1 0, .pv (.int .i64 (j : Nat))])
    (hK : ∀ s es' err', PostE acts c m n j err s es' err' → K (.pv (u64 s)) (L.mergeR (rhoR [0, e, k]) (sigR [0, e, k]) (memR [0, e, k]) ⟨3, 0, 3, objsOf (H0 m acts c es' err')⟩)) : DC Tryd.prog M w0 38 [.ref e 0, .pv (.int .i64 (j : Nat))] L K := by
  refine DC.callR [0, e, k] (H0 m acts c [] err) hne hlt h0 hag rfl hks (by rw [hre]; rfl) fun M' => ?_
  rw [hre]
  exact h m n [] err hM (fun k s h => by cases h) hE M' w0 3 _ fun s es' err' hp => ⟨rfl, hK s es' err' hp⟩
theorem ann_dc {acts : List Act} {c : List Nd} {A F Y : Nat} (hat : ConE 38 (.pv (.int .i64 (Y : Nat))) acts c A F Y) {m : Mo} {n : Nat} {es : List (Nat × Nat)} {err : Int} (hM : ModD acts m n A F) (hE : err = 0 ∨ err = 8) {s : Nat} (hs : s < 2 ^ n)
    {M : Nat → Prop} {w0 : World} {base : Nat} {K : DV → DH → Prop} (hK : ∀ t err', PostV (annV acts c Y m n s) n err t err' → K (.pv (u64 t)) ⟨3, 0, base, objsOf (H0 m acts c es err')⟩) :
    DC Tryd.prog M w0 78 [.ref 1 0, .pv (u64 s), .pv (.int .i64 (Y : Nat))] ⟨3, 0, base, objsOf (H0 m acts c es err)⟩ K := by
  have hO := hM.okd.okm
  have hnn : m.n.toNat = n := by rw [hO.nn, Int.toNat_natCast]
  have hn64 := hO.n64
  have h64 := pow64_le hn64
  have hall : 2 ^ n - 1 < 2 ^ n := by have := Nat.two_pow_pos n; omega
  have hav0 : s = 0 → annV acts c Y m n s = some (2 ^ n - 1) := fun h => by rw [annV, h]; rfl
  have hav1 : s ≠ 0 → annV acts c Y m n s = match dvT acts (tree c Y) (arrI m (memL s)) with
      | none => none
      | some u => some (sprG u (memL s) 0 (notN n s)) := fun h => by
    rw [annV, show (s == 0) = false by simpa using h, cond_false]
  have hsI : ((s : Int) == 0) = decide (s = 0) := by
    by_cases h : s = 0
    · subst h; rfl
    · rw [decide_eq_false h]; simpa using h
  refine DC.weaken (DC.introC [4] mixed (fn := Tryd.f78) rfl rfl rfl ?_)
  (try conv=>whnf);repeat' (first|(apply And.intro<;>try conv=>whnf)|(intro h;try conv=>whnf)|fail)
  · rw [hsI] at h
    have hs0 := of_decide_eq_true h
    refine ⟨.pv (u64 (2 ^ n - 1)), 3, H0 m acts c es err, ?_, hK _ _ ⟨hall, hE, fun h => ⟨h, hav0 hs0⟩, fun h => .inl h⟩⟩
    (refine Wk.of ?_ ?_ rfl rfl rfl<;>repeat' (first|exact trivial|exact WkO.same _ _ rfl|refine WkD.int ?_|refine ⟨?_, ?_⟩|fail))
    exact congrArg (fun k => ((2 ^ k - 1 : Nat) : Int)) hnn
  rw [hsI] at h
  have hs0 : s ≠ 0 := of_decide_eq_false h
  clear h
  have hM1 := hM.okd.arr hs hs0
  obtain ⟨m1, em1⟩ : ∃ m1, m1 = arrI m (memL s) := ⟨_, rfl⟩
  obtain ⟨ws, ews⟩ : ∃ ws, ws = memL s := ⟨_, rfl⟩
  have hR := md_Restrict m n s hO hs hs0
  have hws : ∀ w, w ∈ ws → w < n := fun w hw => by rw [ews] at hw; exact bit_lt hs (memL_mem.1 hw).2
  have hav1 := hav1 hs0
  rw [← em1, ← ews] at hR hav1 hM1
  have hMD : ModD acts m1 ws.length A F := ⟨hM1, by rw [em1, ← hM.ra, arrI, List.length_map], by rw [em1, ← hM.rf, arrI, List.length_map]⟩
  have hl1 := hM1.okm.n1
  have hl64 := hM1.okm.n64
  have hn1 : m1.n.toNat = ws.length := by rw [hM1.okm.nn, Int.toNat_natCast]
  refine ⟨Unit, fun _ => [(0, .ref 1 0), (1, .pv (u64 s)), (2, .pv (.int .i64 (Y : Nat))), (7, .ref 3 0), (8, .pv (intsPV ws))], fun _ => 4, fun _ => H0 m acts c es err ++ [(3, .var (cellsM m1))], ?_, ?_⟩
  · (try conv=>whnf);repeat' (first|(refine PureFn.dcq (f := 53) rfl ?_;try conv=>whnf)|(refine ⟨_, _, hR, ?_, ?_⟩;(focus first|(refine ⟨?_, ?_, trivial⟩<;>first|exact PLe.refl _|exact PLe.nil)|exact trivial);try conv=>whnf)|fail)
    exact ⟨(), (by refine Wk.of ?_ ?_ rfl rfl rfl<;>repeat' (first|exact trivial|exact WkD.same _|exact WkO.same _ _ rfl|refine ⟨?_, ?_⟩|fail))⟩
  rintro ⟨⟩
  try conv=>whnf
  refine DC.weaken (DC.intro mixed (fn := Tryd.f37) rfl rfl rfl ?_)
  try conv=>whnf
  refine ⟨inPlan, [], by kernel_rfl, ?_⟩
  (try conv=>whnf);repeat' (first|(apply And.intro<;>try conv=>whnf)|fail)
  · show (0 : Int) ≤ IntKind.wrap .i64 (64 - m1.n)
    rw [in_wrap hM1.okm.nn hl1 hl64]; omega
  refine ⟨.ref 6 0, 7, H0 m acts c es err ++ [(5, .mp []), (6, .var (evK 5 m1 acts c))], ?_, ?_⟩
  · refine Wk.of ⟨WkD.same _, trivial⟩ ⟨WkO.same _ _ rfl, trivial, WkO.same _ _ rfl, trivial, WkO.same _ _ rfl, trivial, WkO.same _ _ rfl, trivial, WkO.vars rfl ⟨WkD.same _, WkD.same _, WkD.same _, WkD.int ?_, WkD.same _, WkD.same _, WkD.same _, WkD.same _, trivial⟩, trivial, trivial⟩ rfl rfl rfl
    show shrU 18446744073709551615 (IntKind.wrap .i64 (64 - m1.n)) = _
    rw [in_wrap hM1.okm.nn hl1 hl64, hn1]; exact shr_all hl1 hl64
  try conv=>whnf
  refine at_R (e := 6) (k := 5) hat hMD hE rfl rfl rfl ⟨⟨rfl, rfl⟩, ⟨rfl, rfl⟩, ⟨rfl, rfl⟩, trivial⟩ rfl rfl fun u es1 err1 p => ?_
  try conv=>whnf
  have hu : u < 2 ^ ws.length := p.lt
  have hu64 : u < 2 ^ 64 := Nat.lt_of_lt_of_le hu (pow64_le hl64)
  have hfin : PostV (annV acts c Y m n s) n err (sprG u ws 0 (notN n s)) err1 := by
    refine ⟨sprG_lt hws (notN_lt n s), p.er, fun h => ?_, fun h => ?_⟩
    · obtain ⟨h1, h2⟩ := p.ok h
      exact ⟨h1, by rw [hav1, h2]⟩
    · rcases p.no h with h1 | h1
      · exact .inl h1
      · exact .inr (by rw [hav1, h1])
  refine ⟨{ q : Nat × Nat // q.1 ≤ ws.length ∧ q.2 < 2 ^ n ∧ sprG u (ws.drop q.1) q.1 q.2 = sprG u ws 0 (notN n s) }, fun q => [(10, .pv (u64 u)), (11, .pv (u64 q.1.2)), (41, .pv (intsPV ws)), (42, .pv (i64 (ws.map i64).length)), (43, .pv (i64 q.1.1))], fun _ => 3, fun _ => H0 m acts c es err1, fun q => ws.length - q.1.1, ⟨⟨(0, notN n s), Nat.zero_le _, notN_lt n s, rfl⟩, ?_⟩, ?_⟩
  · refine Wk.of ⟨WkD.same _, WkD.int ?_, WkD.same _, WkD.same _, WkD.same _, trivial⟩ ⟨WkO.same _ _ rfl, trivial, WkO.same _ _ rfl, trivial, WkO.same _ _ rfl, trivial, trivial⟩ rfl rfl rfl
    rw [hnn]; exact andNotU_all hn64
  rintro ⟨⟨i, acc⟩, hi, ha, hd⟩
  simp only at hi ha hd
  have ha64 : acc < 2 ^ 64 := by omega
  (try conv=>whnf);repeat' (first|(apply And.intro<;>try conv=>whnf)|(intro h;try conv=>whnf)|(apply infoT;rfl)|fail)
  · have hi' : i < ws.length := by simpa using lt_dec h
    obtain ⟨w, hx, hxw⟩ : ∃ y, ws[i]? = some y ∧ ws.getD i 0 = y := ⟨_, getD_mem hi', rfl⟩
    have hwn := hws w (List.mem_iff_getElem?.2 ⟨_, hx⟩)
    have hst := spr_step (u := u) (i := i) (w := w) ha64 hu64 (by omega) (by omega)
    refine ⟨_, _, rfl, idx_map hx, rfl, ?_⟩
    (try conv=>whnf);repeat' (first|(apply And.intro<;>try conv=>whnf)|fail)
    · exact Int.natCast_nonneg _
    · exact Int.natCast_nonneg _
    · refine ⟨⟨(i + 1, acc ||| (bif u.testBit i then 2 ^ w else 0)), hi', Nat.or_lt_two_pow ha ?_, ?_⟩, by show ws.length - (i + 1) < ws.length - i; omega, ?_⟩
      · cases u.testBit i with
        | true => exact Nat.pow_lt_pow_right (by decide) hwn
        | false => exact Nat.two_pow_pos n
      · rw [← hd]; exact (sprG_drop hx).symm
      · (refine Wk.of ?_ ?_ rfl rfl rfl<;>repeat' (first|exact trivial|exact WkD.same _|exact WkO.same _ _ rfl|refine WkD.int ?_|refine ⟨?_, ?_⟩|(refine wrapA ?_ ?_ ?_;(focus simp;done);(focus (try dsimp only);omega);(focus (try dsimp only);omega))|fail))
        exact hst
  · have hi' : i = ws.length := by have := ge_dec (m := (ws.map i64).length) h (by simpa using hi); simpa using this
    rw [hi', List.drop_length] at hd
    have hd : acc = sprG u ws 0 (notN n s) := hd
    rw [← hd] at hfin
    exact ⟨.pv (u64 acc), 3, H0 m acts c es err1, (by refine Wk.of ?_ ?_ rfl rfl rfl<;>repeat' (first|exact trivial|exact WkD.same _|exact WkO.same _ _ rfl|refine ⟨?_, ?_⟩|fail)), hK _ _ hfin⟩
end Go.Proofs.YtjdmfhggokfflaaDoor
set_option maxRecDepth 100000
set_option maxHeartbeats 16000000
namespace Go.Proofs.YtjdmfhggokfflaaDoor
open Go Go.Dv

/-- What an event in a model comes to. -/
def evtV (acts : List Act) (c : List Nd) (X : Nat) (m : Mo) (n : Nat) (a : Act) (e : Nat) : Option Nat :=
  bif (holdsI m (a.pre.getD e [])).1 == 0 then some (2 ^ n - 1) else bif (updI m a).2.2 != 0 then none else match dvT acts (tree c X) (updI m a).1 with
  | none => none
  | some t => some (evG e t (updI m a).2.1 0 (2 ^ n - 1))
/-- An action model whose parts are not too long. -/
structure SmA (a : Act) : Prop where
  fit : Fit a
  rel : a.rel.length ≤ 1000
  post : ∀ l, l ∈ a.post → l.length ≤ 1000
def actDV (a : Act) : List DV := [.pv (.sl (a.pre.map fpv)), .pv (.sl (a.post.map postPV)), .pv (.sl (a.rel.map rowPV))]
theorem clr_step {acc w : Nat} (ha : acc < 2 ^ 64) (hw : w < 64) : andNotU (acc : Nat) (shlU 1 (w : Nat)) = ((clrN acc w : Nat) : Int) := by
  rw [show shlU 1 (w : Nat) = ((2 ^ w : Nat) : Int) from shlU_one hw, andNotU_eq ha]; rfl
theorem evb (c b : Bool) : (bif c then ((if b = true then (1 : Int) else 0) == 0) else false) = (bif c then !b else false) := by cases c <;> cases b <;> rfl
theorem upd_err {m : Mo} {n : Nat} {acts : List Act} {a : Act} (h : OkD acts m n) (ha : a ∈ acts) {e : Nat} (he : e < a.pre.length) (h0 : (holdsI m (a.pre.getD e [])).1 ≠ 0) : (updI m a).2.2 = 0 ∨ (updI m a).2.2 = 8 := by
  have hmo : moaI m a = 0 := by rw [moaI, ok_moI h.okm]; exact h.act a ha
  obtain ⟨h1, h2⟩ := pre_holds hmo he
  have hlt : (holdsI m (a.pre.getD e [])).1 < 2 ^ 64 := by
    rw [h1]
    exact Nat.lt_of_lt_of_le h2 (by rw [h.okm.nn, Int.toNat_natCast]; exact pow64_le h.okm.n64)
  obtain ⟨w, hw⟩ : ∃ w, (memL (holdsI m (a.pre.getD e [])).1)[0]? = some w := ⟨_, getD_mem (memL_pos h0 hlt) (d := 0)⟩
  have hb := (memL_mem.1 (List.mem_iff_getElem?.2 ⟨0, hw⟩)).2
  rw [h1] at hb
  have hm : (w, e) ∈ pairsL m a := pairsW_mem.2 ⟨bit_lt h2 hb, he, hb⟩
  have hl : ((pairsL m a).length : Int) ≠ 0 := by
    have := List.length_pos_of_mem hm
    omega
  have hw2 : worldsI m a = (pairsL m a, 0) := by
    rw [worldsI, hmo]
    show (bif ((pairsL m a).length : Int) == 0 then _ else _) = _
    rw [show (((pairsL m a).length : Int) == 0) = false by simpa using hl]; rfl
  rw [updI, hw2]
  show (bif decide (((pairsL m a).length : Int) > 64) then _ else _ : Mo × List (Nat × Nat) × Int).2.2 = 0 ∨ _
  cases decide (((pairsL m a).length : Int) > 64) with
  | true => exact .inr rfl
  | false => exact .inl rfl
theorem evt_dc {acts : List Act} {c : List Nd} {A F X e : Nat} {a : Act} (hS : ∀ a, a ∈ acts → SmA a) (ha : a ∈ acts) (he : e < a.pre.length) (hat : ConE 38 (.pv (.int .i64 (X : Nat))) acts c A F X) {m : Mo} {n : Nat} {es : List (Nat × Nat)} {err : Int} (hM : ModD acts m n A F) (hE : err = 0 ∨ err = 8)
    {M : Nat → Prop} {w0 : World} {base : Nat} {K : DV → DH → Prop} (hK : ∀ t err', PostV (evtV acts c X m n a e) n err t err' → K (.pv (u64 t)) ⟨3, 0, base, objsOf (H0 m acts c es err')⟩) :
    DC Tryd.prog M w0 79 [.ref 1 0, .agg (actDV a), .pv (.int .i64 (e : Nat)), .pv (.int .i64 (X : Nat))] ⟨3, 0, base, objsOf (H0 m acts c es err)⟩ K := by
  have hO := hM.okd.okm
  have hnn : m.n.toNat = n := by rw [hO.nn, Int.toNat_natCast]
  have hn64 := hO.n64
  have h64 := pow64_le hn64
  have hall : 2 ^ n - 1 < 2 ^ n := by have := Nat.two_pow_pos n; omega
  obtain ⟨pre, hx⟩ : ∃ pre, a.pre[e]? = some pre := ⟨_, getD_mem he (d := [])⟩
  have hpd : a.pre.getD e [] = pre := by rw [List.getD_eq_getElem?_getD, hx]; rfl
  have hH := ck_Holds m pre hO.fit
  have hU := pr_Update m a hO.fit (hS a ha).fit (hS a ha).rel (hS a ha).post
  obtain ⟨sp, ep, hsp⟩ : ∃ sp ep, holdsI m pre = (sp, ep) := ⟨_, _, rfl⟩
  obtain ⟨m1, ps, er, hup⟩ : ∃ m1 ps er, updI m a = (m1, ps, er) := ⟨_, _, _, rfl⟩
  have hav0 : sp = 0 → evtV acts c X m n a e = some (2 ^ n - 1) := fun h => by rw [evtV, hpd, hsp, h]; rfl
  have hav1 : sp ≠ 0 → er ≠ 0 → evtV acts c X m n a e = none := fun h h2 => by
    rw [evtV, hpd, hsp, show (((sp, ep) : Nat × Int).1 == 0) = false by simpa using h, cond_false, hup, show (((m1, ps, er) : Mo × List (Nat × Nat) × Int).2.2 != 0) = true by simpa using h2, cond_true]
  have hav2 : sp ≠ 0 → er = 0 → evtV acts c X m n a e = match dvT acts (tree c X) m1 with
      | none => none
      | some t => some (evG e t ps 0 (2 ^ n - 1)) := fun h h2 => by
    rw [evtV, hpd, hsp, show (((sp, ep) : Nat × Int).1 == 0) = false by simpa using h, cond_false, hup, h2]; rfl
  have her : sp ≠ 0 → er = 0 ∨ er = 8 := fun h => by
    have := upd_err hM.okd ha he (by rw [hpd, hsp]; exact h)
    rw [hup] at this; exact this
  have hMD : er = 0 → ModD acts m1 ps.length A F ∧ ∀ q, q ∈ ps → q.1 < n := fun h => by
    have h1 := hM.okd.upd (a := a) (by rw [hup]; exact h)
    obtain ⟨k1, k2, k3, k4, k5⟩ := updI_ok (m := m) (a := a) (by rw [hup]; exact h)
    rw [hup] at h1 k2 k3
    refine ⟨⟨h1.1, ?_, ?_⟩, h1.2⟩
    · rw [← hM.ra, show m1 = _ from k3, prodM, List.length_map, List.length_range]
    · rw [← hM.rf, show m1 = _ from k3, prodM, List.length_map, List.length_range]
  rw [hsp] at hH
  rw [hup] at hU
  have hsI : ((sp : Int) == 0) = decide (sp = 0) := by
    by_cases h : sp = 0
    · subst h; rfl
    · rw [decide_eq_false h]; simpa using h
  refine DC.weaken (DC.introC [2, 8] mixed (fn := Tryd.f79) rfl rfl rfl ?_)
  try conv=>whnf
  refine ⟨Unit, fun _ => [(0, .ref 1 0), (2, .pv (.int .i64 (e : Nat))), (3, .pv (.int .i64 (X : Nat))), (5, .ref 3 0), (9, .pv (u64 sp))], fun _ => 4, fun _ => H0 m acts c es err ++ [(3, .var (actDV a))], ?_, ?_⟩
  · (try conv=>whnf);repeat' (first|(apply And.intro<;>try conv=>whnf)|(apply infoT;rfl)|(refine lin_plan (by kernel_rfl) ?_;try conv=>whnf)|(refine ⟨_, _, rfl, idx_map (by with_reducible assumption), rfl, ?_⟩;try conv=>whnf)|(refine ⟨_, (by (conv=>whnf);exact hH), rfl, ?_⟩;try conv=>whnf)|fail)
    exact ⟨(), (by refine Wk.of ?_ ?_ rfl rfl rfl<;>repeat' (first|exact trivial|exact WkD.same _|exact WkO.same _ _ rfl|refine ⟨?_, ?_⟩|fail))⟩
  rintro ⟨⟩
  (try conv=>whnf);repeat' (first|(apply And.intro<;>try conv=>whnf)|(intro h;try conv=>whnf)|(refine lin_plan (by kernel_rfl) ?_;try conv=>whnf)|(refine ⟨_, (by (conv=>whnf);exact hU), rfl, ?_⟩;try conv=>whnf)|fail)
  · rw [hsI] at h
    have hs0 := of_decide_eq_true h
    refine ⟨.pv (u64 (2 ^ n - 1)), 3, H0 m acts c es err, ?_, hK _ _ ⟨hall, hE, fun h => ⟨h, hav0 hs0⟩, fun h => .inl h⟩⟩
    (refine Wk.of ?_ ?_ rfl rfl rfl<;>repeat' (first|exact trivial|exact WkO.same _ _ rfl|refine WkD.int ?_|refine ⟨?_, ?_⟩|fail))
    exact congrArg (fun k => ((2 ^ k - 1 : Nat) : Int)) hnn
  rw [hsI] at h
  have hs0 := of_decide_eq_false h
  clear h
  refine ⟨{ _x : Unit // sp ≠ 0 ∧ er = 0 }, fun _ => [(0, .ref 1 0), (2, .pv (.int .i64 (e : Nat))), (3, .pv (.int .i64 (X : Nat))), (11, .ref 4 0), (12, .pv (.sl (ps.map pairPV)))], fun _ => 5, fun _ => H0 m acts c es err ++ [(4, .var (cellsM m1))], ?_, ?_⟩
  · (try conv=>whnf);repeat' (first|(apply And.intro<;>try conv=>whnf)|(intro h;try conv=>whnf)|fail)
    · have he0 : er ≠ 0 := by simpa using h
      have he8 : er = 8 := by rcases her hs0 with h | h; exact absurd h he0; exact h
      subst he8
      refine ⟨.pv (u64 0), 3, H0 m acts c es 8, (by refine Wk.of ?_ ?_ rfl rfl rfl<;>repeat' (first|exact trivial|exact WkD.same _|exact WkO.same _ _ rfl|refine ⟨?_, ?_⟩|fail)), hK 0 8 ⟨Nat.two_pow_pos n, .inr rfl, fun h => absurd h (by decide), fun _ => .inr (hav1 hs0 (by decide))⟩⟩
    · have he0 : er = 0 := by simpa using h
      exact ⟨⟨(), hs0, he0⟩, (by refine Wk.of ?_ ?_ rfl rfl rfl<;>repeat' (first|exact trivial|exact WkD.same _|exact WkO.same _ _ rfl|refine ⟨?_, ?_⟩|fail))⟩
  rintro ⟨_, hs0, he0⟩
  obtain ⟨hMD, hws⟩ := hMD he0
  have hav2 := hav2 hs0 he0
  have hl1 := hMD.okd.okm.n1
  have hl64 := hMD.okd.okm.n64
  have hn1 : m1.n.toNat = ps.length := by rw [hMD.okd.okm.nn, Int.toNat_natCast]
  try conv=>whnf
  refine DC.weaken (DC.intro mixed (fn := Tryd.f37) rfl rfl rfl ?_)
  try conv=>whnf
  refine ⟨inPlan, [], by kernel_rfl, ?_⟩
  (try conv=>whnf);repeat' (first|(apply And.intro<;>try conv=>whnf)|fail)
  · show (0 : Int) ≤ IntKind.wrap .i64 (64 - m1.n)
    rw [in_wrap hMD.okd.okm.nn hl1 hl64]; omega
  refine ⟨.ref 7 0, 8, H0 m acts c es err ++ [(6, .mp []), (7, .var (evK 6 m1 acts c))], ?_, ?_⟩
  · refine Wk.of ⟨WkD.same _, trivial⟩ ⟨WkO.same _ _ rfl, trivial, WkO.same _ _ rfl, trivial, WkO.same _ _ rfl, trivial, WkO.same _ _ rfl, trivial, WkO.vars rfl ⟨WkD.same _, WkD.same _, WkD.same _, WkD.int ?_, WkD.same _, WkD.same _, WkD.same _, WkD.same _, trivial⟩, trivial, trivial⟩ rfl rfl rfl
    show shrU 18446744073709551615 (IntKind.wrap .i64 (64 - m1.n)) = _
    rw [in_wrap hMD.okd.okm.nn hl1 hl64, hn1]; exact shr_all hl1 hl64
  try conv=>whnf
  refine at_R (e := 7) (k := 6) hat hMD hE rfl rfl rfl ⟨⟨rfl, rfl⟩, ⟨rfl, rfl⟩, ⟨rfl, rfl⟩, trivial⟩ rfl rfl fun u es1 err1 p => ?_
  try conv=>whnf
  have hu : u < 2 ^ ps.length := p.lt
  have hu64 : u < 2 ^ 64 := Nat.lt_of_lt_of_le hu (pow64_le hl64)
  have hfin : PostV (evtV acts c X m n a e) n err (evG e u ps 0 (2 ^ n - 1)) err1 := by
    refine ⟨evG_lt hall, p.er, fun h => ?_, fun h => ?_⟩
    · obtain ⟨h1, h2⟩ := p.ok h
      exact ⟨h1, by rw [hav2, h2]⟩
    · rcases p.no h with h1 | h1
      · exact .inl h1
      · exact .inr (by rw [hav2, h1])
  refine ⟨{ q : Nat × Nat // q.1 ≤ ps.length ∧ q.2 < 2 ^ n ∧ evG e u (ps.drop q.1) q.1 q.2 = evG e u ps 0 (2 ^ n - 1) }, fun q => [(2, .pv (.int .i64 (e : Nat))), (14, .pv (u64 u)), (15, .pv (u64 q.1.2)), (64, .pv (.sl (ps.map pairPV))), (65, .pv (i64 (ps.map pairPV).length)), (66, .pv (i64 q.1.1))], fun _ => 3, fun _ => H0 m acts c es err1, fun q => ps.length - q.1.1, ⟨⟨(0, 2 ^ n - 1), Nat.zero_le _, hall, rfl⟩, ?_⟩, ?_⟩
  · refine Wk.of ⟨WkD.same _, WkD.same _, WkD.int ?_, WkD.same _, WkD.same _, WkD.same _, trivial⟩ ⟨WkO.same _ _ rfl, trivial, WkO.same _ _ rfl, trivial, WkO.same _ _ rfl, trivial, trivial⟩ rfl rfl rfl
    exact congrArg (fun k => ((2 ^ k - 1 : Nat) : Int)) hnn
  rintro ⟨⟨i, acc⟩, hi, hacc, hd⟩
  simp only at hi hacc hd
  have ha64 : acc < 2 ^ 64 := by omega
  (try conv=>whnf);repeat' (first|(apply And.intro<;>try conv=>whnf)|(intro h;try conv=>whnf)|(apply infoT;rfl)|fail)
  · have hi' : i < ps.length := by simpa using lt_dec h
    obtain ⟨q, hx, hxw⟩ : ∃ y, ps[i]? = some y ∧ ps.getD i (0, 0) = y := ⟨_, getD_mem hi', rfl⟩
    have hwn := hws q (List.mem_iff_getElem?.2 ⟨_, hx⟩)
    obtain ⟨w, d⟩ := q
    have hst := clr_step (acc := acc) (w := w) ha64 (by have : w < n := hwn; omega)
    have hba := bit_and u i hu64 (by omega)
    refine ⟨_, _, rfl, idx_map hx, rfl, ?_⟩
    (try conv=>whnf);repeat' (first|(apply And.intro<;>try conv=>whnf)|(intro h;try conv=>whnf)|apply True.intro|(apply WhenQ.mk;(try conv=>whnf);rotate_left;(try conv=>whnf);rotate_right)|with_reducible assumption|fail)
    · exact Int.natCast_nonneg _
    · exact Int.natCast_nonneg _
    · have h2 : (bif ((d : Int) == (e : Int)) then (andU (shrU (u : Nat) (i : Nat)) 1 == 0) else false) = true := h
      rw [hba, evb] at h2
      refine ⟨⟨(i + 1, clrN acc w), hi', clrN_lt hacc, ?_⟩, by show ps.length - (i + 1) < ps.length - i; omega, ?_⟩
      · rw [← hd, evG_drop hx]
        show _ = evG e u (ps.drop (i + 1)) (i + 1) (bif (bif ((d : Int) == (e : Int)) then !u.testBit i else false) then clrN acc w else acc)
        rw [h2]; rfl
      · (refine Wk.of ?_ ?_ rfl rfl rfl<;>repeat' (first|exact trivial|exact WkD.same _|exact WkO.same _ _ rfl|refine WkD.int ?_|refine ⟨?_, ?_⟩|(refine wrapA ?_ ?_ ?_;(focus simp;done);(focus (try dsimp only);omega);(focus (try dsimp only);omega))|fail))
        exact hst
    · have h2 : (bif ((d : Int) == (e : Int)) then (andU (shrU (u : Nat) (i : Nat)) 1 == 0) else false) = false := h
      rw [hba, evb] at h2
      refine ⟨⟨(i + 1, acc), hi', hacc, ?_⟩, by show ps.length - (i + 1) < ps.length - i; omega, (by refine Wk.of ?_ ?_ rfl rfl rfl<;>repeat' (first|exact trivial|exact WkD.same _|exact WkO.same _ _ rfl|refine WkD.int ?_|refine ⟨?_, ?_⟩|(refine wrapA ?_ ?_ ?_;(focus simp;done);(focus (try dsimp only);omega);(focus (try dsimp only);omega))|fail))⟩
      rw [← hd, evG_drop hx]
      show _ = evG e u (ps.drop (i + 1)) (i + 1) (bif (bif ((d : Int) == (e : Int)) then !u.testBit i else false) then clrN acc w else acc)
      rw [h2]; rfl
  · have hi' : i = ps.length := by have := ge_dec (m := (ps.map pairPV).length) h (by simpa using hi); simpa using this
    rw [hi', List.drop_length] at hd
    have hd : acc = evG e u ps 0 (2 ^ n - 1) := hd
    rw [← hd] at hfin
    exact ⟨.pv (u64 acc), 3, H0 m acts c es err1, (by refine Wk.of ?_ ?_ rfl rfl rfl<;>repeat' (first|exact trivial|exact WkD.same _|exact WkO.same _ _ rfl|refine ⟨?_, ?_⟩|fail)), hK _ _ hfin⟩
end Go.Proofs.YtjdmfhggokfflaaDoor
