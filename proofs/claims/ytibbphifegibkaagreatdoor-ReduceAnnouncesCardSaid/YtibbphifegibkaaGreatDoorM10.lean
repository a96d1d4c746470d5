/- Parts of the proof, one after the other: Reductions of events: after and After of the program walked. Reductions of events: After of the program walked. Reductions of whole formulas: request of the program walked. Reductions of whole formulas: request, reduced and Reduce of the program walked. The dynamic language: how small the law's inputs are (walked). Reductions: how small the inputs of the laws are; the example walked. Reductions: the laws ReduceAnnounced and ReduceStatic walked. Reductions: what the laws ReduceEqual and ReduceAnnounces ask (plain). The dynamic language: the evaluation of the program walked: at. -/
import Derived.Test.YtibbphifegibkaaGreatDoorM9
set_option maxRecDepth 100000
set_option maxHeartbeats 4000000
namespace Go.Proofs.YtibbphifegibkaaGreatDoor
open Go Go.Dv

theorem push_lt2' {k : Nat} {o o' : DObj} {g : Nat → Option DObj} (h : k < 16) : (bif Nat.beq k 16 then some o' else bif Nat.beq k 16 then some o else g k) = g k := by rw [beq_no (by omega)]; rfl
theorem HX_start {a : Act} {N : Nat} (hN : N = a.pre.length) (hn : a.pre.length ≤ 8) {L : DH} (h0 : L.get 0 = some (.var (cellsA a))) (h1 : L.get 1 = some (.var (List.replicate N (.pv .nil)))) (h2 : L.get 2 = some (.var (tabD a N))) (hno : ∀ k, 3 ≤ k → L.get k = none) (hnx : L.next ≤ 8) :
    ∀ q, q ∈ HX a [] → WkO L (HX a []) q.1 q.2 ∧ (L.get q.1 = none → L.next ≤ q.1) ∧ q.1 < 16 ∧ q.2.under 16 = true := fun q hq => by
  subst hN
  refine ⟨?_, ?_, HT_in hn (Nat.le_refl 16) q hq⟩
  · rcases List.mem_cons.1 hq with rfl | hq
    · exact .same _ _ h0
    rcases List.mem_cons.1 hq with rfl | hq
    · refine .var 1 _ _ h1 (by rw [tabC_len, List.length_replicate]) fun i d d' hd hd' => ?_
      have hi : i < a.pre.length := by
        have := (List.getElem?_eq_some_iff.1 hd).1
        simpa using this
      rw [List.getElem?_replicate, if_pos hi] at hd
      rw [tabC_get hi] at hd'
      obtain rfl := Option.some.inj hd
      obtain rfl := Option.some.inj hd'
      exact .new _ (i + 8) 1 (.inl rfl) (hno _ (by omega)) (HT_get (len := lenP []) (col := colP []) hi)
    rcases List.mem_cons.1 hq with rfl | hq
    · exact .same _ _ h2
    obtain ⟨e, he, rfl⟩ := List.mem_map.1 hq
    exact .new _ 1 (hno _ (by show 3 ≤ e + 8; omega))
  · rcases List.mem_cons.1 hq with rfl | hq
    · intro h; rw [h0] at h; cases h
    rcases List.mem_cons.1 hq with rfl | hq
    · intro h; rw [h1] at h; cases h
    rcases List.mem_cons.1 hq with rfl | hq
    · intro h; rw [h2] at h; cases h
    obtain ⟨e, he, rfl⟩ := List.mem_map.1 hq
    intro _
    show L.next ≤ e + 8
    omega
/-- The table while a column is put behind its rows: the first e rows have it. -/
def colM (T : List (List (List Nd))) (row : List (List Nd)) (e e' : Nat) : List PV := if e' < e then colP (T ++ [row]) e' else colP T e'
def lenM (T : List (List (List Nd))) (row : List (List Nd)) (e e' : Nat) : Nat := (colM T row e e').length
theorem HT_congr {a : Act} {n : Nat} {len len' : Nat → Nat} {col col' : Nat → List PV} (h1 : ∀ e, e < n → len e = len' e) (h2 : ∀ e, e < n → col e = col' e) : HT a n len col = HT a n len' col' := by
  have e1 : tabC n len = tabC n len' := List.map_congr_left fun e he => by rw [h1 e (List.mem_range.1 he)]
  have e2 : tabO n col = tabO n col' := List.map_congr_left fun e he => by rw [h2 e (List.mem_range.1 he)]
  rw [HT, HT, e1, e2]
theorem col_snoc {T : List (List (List Nd))} {row : List (List Nd)} {e : Nat} : colP T e ++ [fpv (row.getD e [])] = colP (T ++ [row]) e := by
  simp [colP]
theorem ble_s {e c b : Nat} (hc : c = 1) (h : e + 1 ≤ b) : Nat.ble (e + c) b = true := by rw [hc, Nat.ble_eq]; exact h
theorem tabC_put {n e m : Nat} {len len' : Nat → Nat} (he : e < n) (h1 : len' e = m) (h2 : ∀ e', e' ≠ e → len' e' = len e') : splice (tabC n len) e [.buf (e + 8) m] = tabC n len' := by
  have hs : splice (tabC n len) e [.buf (e + 8) m] = (tabC n len).set e (.buf (e + 8) m) := by
    rw [splice, List.set_eq_take_append_cons_drop, if_pos (by rw [tabC_len]; exact he)]
    simp
  rw [hs]
  apply List.ext_getElem?
  intro i
  rw [List.getElem?_set]
  by_cases q : e = i
  · subst q
    rw [if_pos rfl, if_pos (by rw [tabC_len]; exact he), tabC_get he, h1]
  · rw [if_neg q]
    by_cases hi : i < n
    · rw [tabC_get hi, tabC_get hi, h2 i (fun e => q e.symm)]
    · rw [List.getElem?_eq_none (by rw [tabC_len]; omega), List.getElem?_eq_none (by rw [tabC_len]; omega)]
theorem colM_yes {T : List (List (List Nd))} {row : List (List Nd)} {e : Nat} : colM T row (e + 1) e = colP T e ++ [fpv (row.getD e [])] := by
  rw [colM, if_pos (Nat.lt_succ_self e), col_snoc]
theorem colM_no {T : List (List (List Nd))} {row : List (List Nd)} {e e' : Nat} (h : e' ≠ e) : colM T row (e + 1) e' = colM T row e e' := by
  unfold colM
  by_cases q : e' < e
  · rw [if_pos q, if_pos (by omega)]
  · rw [if_neg q, if_neg (by omega)]
theorem HT_mid {a : Act} {n nx : Nat} (hn : n ≤ 8) (hnx : 16 ≤ nx) {len : Nat → Nat} {col : Nat → List PV} {g : Nat → Option DObj} {L : DH} (h : ∀ k, k < 16 → g k = objsOf (HT a n len col) k) :
    ∀ q, q ∈ HT a n len col → (g q.1 = some q.2 ∨ (g q.1 = none ∧ L.next ≤ q.1 ∧ ∃ sz, q.2 = .arr sz [])) ∧ q.1 < nx ∧ q.2.under nx = true :=
  HT_all (g := g) hn hnx ((h 0 (by omega)).trans rfl) ((h 1 (by omega)).trans rfl) ((h 2 (by omega)).trans rfl) fun e he => (h (e + 8) (by omega)).trans (HT_get he)
theorem evHd_no {a : Act} {x : Nd} {X Y : List (List Nd)} {e : Nat} (he : e < a.pre.length) (h : impL (a.pre.getD e []) (evBod a e x X Y) = []) : evHd a x X Y = (evRow a x X Y, 8) := by
  rw [evHd]
  have : (evRow a x X Y).any List.isEmpty = true := List.any_eq_true.2 ⟨_, List.mem_map.2 ⟨e, List.mem_range.2 he, rfl⟩, by rw [h]; rfl⟩
  rw [this]; rfl
theorem evHd_yes {a : Act} {x : Nd} {X Y : List (List Nd)} (h : ∀ e, e < a.pre.length → impL (a.pre.getD e []) (evBod a e x X Y) ≠ []) : evHd a x X Y = (evRow a x X Y, 0) := by
  rw [evHd]
  have : (evRow a x X Y).any List.isEmpty = false := any_empty.2 fun z hz => by
    obtain ⟨e, he, rfl⟩ := List.mem_map.1 hz
    exact h e (List.mem_range.1 he)
  rw [this]; rfl
theorem row_take {a : Act} {x : Nd} {X Y : List (List Nd)} {e : Nat} (he : e < a.pre.length) : ((evRow a x X Y).take e).map fpv ++ [fpv (impL (a.pre.getD e []) (evBod a e x X Y))] = ((evRow a x X Y).take (e + 1)).map fpv := by
  have h : (evRow a x X Y)[e]? = some (impL (a.pre.getD e []) (evBod a e x X Y)) := by rw [evRow, List.getElem?_map, List.getElem?_range he]; rfl
  rw [tak_map h]
theorem row_len (a : Act) (x : Nd) (X Y : List (List Nd)) : (evRow a x X Y).length = a.pre.length := by simp [evRow]
theorem red_after (a : Act) (fc : Int) (hA : OkA a a.rel.length fc) (hf : Fit a) (hl : a.rel.length ≤ 1000) (hp : ∀ l, l ∈ a.post → l.length ≤ 1000) (ev : Nat) (hev : ev < a.pre.length) (f : List Nd) (hcf : check f = 0)
    (hop : ∀ x, x ∈ comp f → x.op ≤ 12 ∧ (x.op = 9 ∨ x.op = 10 → x.i.toNat < a.rel.length) ∧ (x.op = 12 → badGr a x.g = false)) : PureFn Tryz.prog 38 [a.pv, i64 ev, fpv f] (pairF (aftF a ev (comp f))) := by
  refine PureFn.introC [2, 10, 18] mixed (fn := Tryz.f38) rfl rfl rfl fun M w0 => ?_
  have hn := hA.n8
  have hlen := comp_len f
  have hpos := comp_pos hcf
  have hokl := comp_okl f
  have h1n := hA.n1
  have hN : ((a.pre.map fpv).length : Int).toNat = a.pre.length := by simp
  try conv=>whnf
  refine ⟨Unit, fun _ => [(1, .pv (i64 ev)), (2, .pv (fpv f)), (3, .ref 0 0), (8, .ref 2 0)], fun _ => 16, fun _ => HX a [], ?_, ?_⟩
  · try conv=>whnf
    refine ⟨.one 1 (.one 2 (.one 3 (.two 0 (.one 4 (.one 5 (.one 6 (.one 7 .done)))) 4 (.one 0 (.one 5 (.one 6 (.one 7 .done))))))), [4], by kernel_rfl, ?_⟩
    (try conv=>whnf);repeat' (first|(apply And.intro<;>try conv=>whnf)|(apply Or.inr;refine ⟨rfl, ?_, rfl, ?_⟩;try conv=>whnf)|fail)
    all_goals first
      | rfl
      | exact (show (0 : Int) ≤ ((a.pre.map fpv).length : Int) from Int.natCast_nonneg _)
      | exact (show ((a.pre.map fpv).length : Int) ≤ (big : Nat) by rw [List.length_map]; unfold big; omega)
      | exact (show (0 : Int) < ((a.pre.map fpv).length : Int) by rw [List.length_map]; omega)
      | skip
    all_goals (refine ⟨(), Wk.ofP ⟨.same _, .same _, .same _, .same _, trivial⟩ rfl rfl rfl (HX_start hN hn rfl rfl rfl (fun k hk => ?_) (show 3 ≤ 8 by decide))⟩; show (bif Nat.beq k 2 then _ else bif Nat.beq k 1 then _ else bif Nat.beq k 0 then _ else none) = none; rw [beq_no (by omega), beq_no (by omega), beq_no (by omega)]; rfl)
  rintro ⟨⟩
  (try conv=>whnf);repeat' (first|(refine PureFn.dcq (f := 24) rfl ?_;try conv=>whnf)|(refine ⟨_, _, fm_Compact ?_, ?_, ?_⟩;rotate_left 1;(focus first|(refine ⟨?_, trivial⟩<;>first|exact PLe.refl _|exact PLe.nil)|exact trivial);try conv=>whnf)|fail)
  unfold aftF
  generalize comp f = c at *
  refine ⟨{ q : Nat × List (List (List Nd)) // q.1 ≤ c.length ∧ q.2.length = q.1 ∧ redE [] (evHd a) c [] = redE [] (evHd a) (c.drop q.1) q.2 }, fun q => [(1, .pv (i64 ev)), (3, .ref 0 0), (8, .ref 2 0), (25, .pv (fpv c)), (26, .pv (i64 (c.map Nd.pv).length)), (27, .pv (i64 q.1.1))], fun _ => 16, fun q => HX a q.1.2, fun q => c.length - q.1.1,
    ⟨⟨(0, []), Nat.zero_le _, rfl, rfl⟩, ?_⟩, ?_⟩
  · (refine Wk.ofN 0 ?_ ?_ rfl rfl rfl ?_<;>repeat' (first|exact trivial|exact WkD.same _|refine ⟨?_, ?_⟩|fail))
    exact HX_back hn fun k hk => rfl
  rintro ⟨⟨i, T⟩, hi, hl, he⟩
  simp only at hi hl he
  (try conv=>whnf);repeat' (first|(apply And.intro<;>try conv=>whnf)|(intro h;try conv=>whnf)|(apply infoT;rfl)|fail)
  · have hi' : i < c.length := by simpa using h
    obtain ⟨x, hx⟩ : ∃ x, c[i]? = some x := ⟨_, List.getElem?_eq_getElem hi'⟩
    have ok := hokl i x hx
    obtain ⟨o1, o2, o3⟩ := hop x (List.mem_iff_getElem?.2 ⟨i, hx⟩)
    have hT : T.length ≤ 200 := by omega
    obtain ⟨X, hX⟩ : ∃ X, T.getD x.x.toNat [] = X := ⟨_, rfl⟩
    obtain ⟨Y, hY⟩ : ∃ Y, T.getD x.y.toNat [] = Y := ⟨_, rfl⟩
    have hrl := row_len a x X Y
    (try conv=>whnf);repeat' (first|(refine ⟨_, _, rfl, idx_map (by with_reducible assumption), rfl, ?_⟩;try conv=>whnf)|fail)
    refine ⟨{ e : Nat // e ≤ a.pre.length ∧ ∀ e', e' < e → impL (a.pre.getD e' []) (evBod a e' x X Y) ≠ [] }, fun e => [(1, .pv (i64 ev)), (3, .ref 0 0), (8, .ref 2 0), (10, .ref 16 0), (11, .buf 17 (((evRow a x X Y).take e.1).map fpv).length), (25, .pv (fpv c)), (26, .pv (i64 (c.map Nd.pv).length)), (27, .pv (i64 i)), (33, .pv (i64 (a.pre.map fpv).length)), (34, .pv (i64 e.1))], fun _ => 18,
      fun e => (17, .arr 1 (((evRow a x X Y).take e.1).map fpv)) :: (16, .var x.dvs) :: HX a T, fun e => a.pre.length - e.1, ⟨⟨0, Nat.zero_le _, fun e' h => by omega⟩, ?_⟩, ?_⟩
    · have h17 : objsOf (HX a T) 17 = none := tabO_no hn (by decide)
      (refine Wk.ofN 2 ?_ ?_ rfl rfl rfl ?_<;>repeat' (first|exact trivial|exact WkD.same _|exact WkO.same _ _ rfl|refine ⟨?_, ?_⟩|fail))
      · exact WkD.new' h17 rfl rfl
      · exact WkO.new _ _ h17
      · show (match objsOf (HX a T) 17 with | some _ => True | none => Nat.ble 17 17 = true)
        rw [h17]; rfl
      · exact HX_mid hn fun k hk => push_lt2' hk
    rintro ⟨e, hie, hne⟩
    (try conv=>whnf);repeat' (first|(apply And.intro<;>try conv=>whnf)|(intro h;try conv=>whnf)|fail)
    · have hie' : e < a.pre.length := by simpa using lt_dec h
      have hpre : a.pre[e]? = some (a.pre.getD e []) := getD_mem hie'
      obtain ⟨z, hz⟩ : ∃ z, impL (a.pre.getD e []) (evBod a e x X Y) = z := ⟨_, rfl⟩
      have hI : PureFn Tryz.prog 19 [fpv (a.pre.getD e []), fpv (evBod a e x X Y)] (npv z) := hz ▸ fn_Imp _ _
      have hrt := row_take (a := a) (x := x) (X := X) (Y := Y) hie'
      rw [hz] at hrt
      have hB : ∀ (M' : Nat → Prop) (K' : DV → DH → Prop), K' (.pv (fpv (evBod a e x X Y))) ⟨16, 0, 16, objsOf (HX a T)⟩ → DC Tryz.prog M' w0 63 [.ref 2 0, .pv (i64 e), .agg x.dvs] ⟨16, 0, 16, objsOf (HX a T)⟩ K' := fun M' K' hK' =>
        body_dc a fc hA hf ‹a.rel.length ≤ 1000› hp T hT e hie' x (by rw [hl]; exact ok) o1 o2 o3 M' w0 16 K' (by rw [hX, hY]; exact hK')
      cases z with
      | nil =>
        refine ⟨Unit, fun _ => [(13, .pv .nil)], fun _ => 18, fun _ => [], ?_, ?_⟩
        · refine ⟨.one 2 (.one 5 (.one 6 (.one 7 (.two 0 (.two 1 (.two 3 (.two 4 (.one 8 (.one 9 (.one 10 .done))) 8 (.one 4 (.one 9 (.one 10 .done)))) 8 (.one 3 (.one 4 (.one 9 (.one 10 .done))))) 8 (.one 1 (.one 3 (.one 4 (.one 9 (.one 10 .done)))))) 8 (.one 0 (.one 1 (.one 3 (.one 4 (.one 9 (.one 10 .done)))))))))), [8], by kernel_rfl, ?_⟩
          (try conv=>whnf);repeat' (first|(apply And.intro<;>try conv=>whnf)|(apply infoT;rfl)|(refine ⟨_, _, rfl, idx_map (by with_reducible assumption), rfl, ?_⟩;try conv=>whnf)|fail)
          all_goals (refine DC.callS 16 (HX a T) (fun k hk => (push_lt2 hk).symm) (fun q hq => HT_in hn (Nat.le_refl 16) q hq) rfl rfl rfl hB ?_)
          all_goals ((try conv=>whnf);repeat' (first|(apply And.intro<;>try conv=>whnf)|(apply infoT;rfl)|(refine ⟨_, _, rfl, idx_map (by with_reducible assumption), rfl, ?_⟩;try conv=>whnf)|(refine ⟨_, (by (conv=>whnf);exact hI), rfl, ?_⟩;try conv=>whnf)|fail))
          all_goals exact ⟨(), (by refine Wk.of ?_ ?_ rfl rfl rfl<;>repeat' (first|exact trivial|exact WkD.same _|refine ⟨?_, ?_⟩|fail))⟩
        rintro ⟨⟩
        (try conv=>whnf);repeat' (first|(apply And.intro<;>try conv=>whnf)|(intro h;first|with_reducible exact tf0 h|try conv=>whnf)|fail)
        have hno := redE_no (e := 8) hx (by rw [hX, hY]; exact evHd_no hie' hz) rfl
        rw [he, hno]; exact le_nilF _
      | cons z1 zr =>
        refine ⟨Unit, fun _ => [(1, .pv (i64 ev)), (3, .ref 0 0), (8, .ref 2 0), (10, .ref 16 0), (11, .buf 17 (((evRow a x X Y).take e).map fpv).length), (13, .pv (fpv (z1 :: zr))), (25, .pv (fpv c)), (26, .pv (i64 (c.map Nd.pv).length)), (27, .pv (i64 i)), (33, .pv (i64 (a.pre.map fpv).length)), (34, .pv (i64 e))], fun _ => 18,
          fun _ => (17, .arr 1 (((evRow a x X Y).take e).map fpv)) :: (16, .var x.dvs) :: HX a T, ?_, ?_⟩
        · refine ⟨.one 2 (.one 5 (.one 6 (.one 7 (.two 0 (.two 1 (.two 3 (.two 4 (.one 8 (.one 9 (.one 10 .done))) 8 (.one 4 (.one 9 (.one 10 .done)))) 8 (.one 3 (.one 4 (.one 9 (.one 10 .done))))) 8 (.one 1 (.one 3 (.one 4 (.one 9 (.one 10 .done)))))) 8 (.one 0 (.one 1 (.one 3 (.one 4 (.one 9 (.one 10 .done)))))))))), [8], by kernel_rfl, ?_⟩
          (try conv=>whnf);repeat' (first|(apply And.intro<;>try conv=>whnf)|(apply infoT;rfl)|(refine ⟨_, _, rfl, idx_map (by with_reducible assumption), rfl, ?_⟩;try conv=>whnf)|fail)
          all_goals (refine DC.callS 16 (HX a T) (fun k hk => (push_lt2 hk).symm) (fun q hq => HT_in hn (Nat.le_refl 16) q hq) rfl rfl rfl hB ?_)
          all_goals ((try conv=>whnf);repeat' (first|(apply And.intro<;>try conv=>whnf)|(apply infoT;rfl)|(refine ⟨_, _, rfl, idx_map (by with_reducible assumption), rfl, ?_⟩;try conv=>whnf)|(refine ⟨_, (by (conv=>whnf);exact hI), rfl, ?_⟩;try conv=>whnf)|fail))
          all_goals (refine ⟨(), ?_⟩; (refine Wk.ofN 2 ?_ ?_ rfl rfl rfl ?_<;>repeat' (first|exact trivial|exact WkD.same _|exact WkO.same _ _ rfl|refine ⟨?_, ?_⟩|fail)); exact HX_mid hn fun k hk => push_lt2 hk)
        rintro ⟨⟩
        (try conv=>whnf);repeat' (first|(apply And.intro<;>try conv=>whnf)|(intro h;first|with_reducible exact ft0 h|try conv=>whnf)|(apply cellsI;rfl)|(apply szI;rfl)|fail)
        · show (((evRow a x X Y).take e).map fpv).length + 1 ≤ 4294967296
          rw [List.length_map, List.length_take]; omega
        · refine ⟨⟨e + 1, hie', fun e' he' => ?_⟩, by show a.pre.length - (e + 1) < a.pre.length - e; omega, ?_⟩
          · by_cases q : e' = e
            · rw [q, hz]; exact List.cons_ne_nil _ _
            · exact hne e' (by omega)
          · (refine Wk.ofN 2 ?_ ?_ rfl rfl rfl ?_<;>repeat' (first|exact trivial|exact WkD.same _|exact WkO.same _ _ rfl|exact WkD.eq (congrArg (fun z : List PV => DV.buf _ z.length) hrt)|exact WkO.same _ _ (congrArg (fun z => some (DObj.arr _ z)) hrt)|refine WkD.int ?_|refine ⟨?_, ?_⟩|(refine wrapA ?_ ?_ ?_;(focus simp;done);(focus (try dsimp only);omega);(focus (try dsimp only);omega))|fail))
            exact HX_mid hn fun k hk => push_lt3 hk
    · have hie' : e = a.pre.length := by have := ge_dec (m := (a.pre.map fpv).length) h (by simpa using hie); simpa using this
      subst hie'
      have hh : evHd a x (T.getD x.x.toNat []) (T.getD x.y.toNat []) = (evRow a x X Y, 0) := by
        rw [hX, hY]
        exact evHd_yes hne
      have hyes := redE_yes (z := evRow a x X Y) (e := 0) hx hh rfl
      have htk : ((evRow a x X Y).take a.pre.length).map fpv = (evRow a x X Y).map fpv := by rw [← hrl, List.take_length]
      obtain ⟨row, hrow⟩ : ∃ row, evRow a x X Y = row := ⟨_, rfl⟩
      rw [hrow] at hrl htk hyes
      rw [hrow]
      try conv=>whnf
      refine ⟨{ e : Nat // e ≤ a.pre.length }, fun e => [(1, .pv (i64 ev)), (3, .ref 0 0), (8, .ref 2 0), (25, .pv (fpv c)), (26, .pv (i64 (c.map Nd.pv).length)), (27, .pv (i64 i)), (54, .pv (.sl (row.map fpv))), (55, .pv (i64 a.pre.length)), (56, .pv (i64 e.1))], fun _ => 18,
        fun e => HT a a.pre.length (lenM T row e.1) (colM T row e.1), fun e => a.pre.length - e.1, ⟨⟨0, Nat.zero_le _⟩, ?_⟩, ?_⟩
      · have h0 : HT a a.pre.length (lenM T row 0) (colM T row 0) = HX a T := HT_congr (fun e _ => by simp [lenM, lenP, colM]) (fun e _ => by simp [colM])
        show Wk _ _ _ _ (HT a a.pre.length (lenM T row 0) (colM T row 0))
        rw [h0]
        have h17 : objsOf (HX a T) 17 = none := tabO_no hn (by decide)
        (refine Wk.ofN 0 ?_ ?_ rfl rfl rfl ?_<;>repeat' (first|exact trivial|exact WkD.same _|refine WkD.int ?_|refine ⟨?_, ?_⟩|fail))
        · refine WkD.fz 17 _ _ h17 (.inl ⟨1, ?_⟩) (by rw [htk])
          exact congrArg (fun z => some (DObj.arr 1 z)) htk
        · show (((row.take a.pre.length).map fpv).length : Int) = _
          rw [htk, List.length_map, hrl]
        · exact HX_mid hn fun k hk => push_lt2 hk
      rintro ⟨e, hie⟩
      (try conv=>whnf);repeat' (first|(apply And.intro<;>try conv=>whnf)|(intro h;try conv=>whnf)|fail)
      · have hie' : e < a.pre.length := by
          have h2 : decide ((e : Int) < ((a.pre.length : Nat) : Int)) = true := h
          have := of_decide_eq_true h2
          omega
        have hr : row[e]? = some (row.getD e []) := getD_mem (by omega)
        have hce : colM T row e e = colP T e := by simp [colM]
        have hget : objsOf (HT a a.pre.length (lenM T row e) (colM T row e)) (e + 8) = some (.arr 1 (colP T e)) := by rw [HT_get hie', hce]
        have hle : lenM T row e e = (colP T e).length := by rw [lenM, hce]
        have hel : e + 1 ≤ (tabC a.pre.length (lenM T row e)).length := by rw [tabC_len]; exact hie'
        have hcl := colP_len T e
        have hnew : ∀ (e' : Nat), e' < a.pre.length → ∀ o : DObj, (bif Nat.beq (e' + 8) 1 then some o else bif Nat.beq (e' + 8) (e + 8) then some (DObj.arr 1 (colP T e ++ [fpv (row.getD e [])])) else objsOf (HT a a.pre.length (lenM T row e) (colM T row e)) (e' + 8)) = some (.arr 1 (colM T row (e + 1) e')) := fun e' he' o => by
          rw [beq_no (by omega), cond_false]
          by_cases q : e' = e
          · rw [q, Nat.beq_refl, cond_true, colM_yes]
          · rw [beq_no (by omega), cond_false, HT_get he', colM_no q]
        refine ⟨Unit, fun _ => [(1, .pv (i64 ev)), (3, .ref 0 0), (8, .ref 2 0), (25, .pv (fpv c)), (26, .pv (i64 (c.map Nd.pv).length)), (27, .pv (i64 i)), (54, .pv (.sl (row.map fpv))), (55, .pv (i64 a.pre.length)), (56, .pv (i64 e))], fun _ => 18, fun _ => HT a a.pre.length (lenM T row (e + 1)) (colM T row (e + 1)), ?_, ?_⟩
        · (try conv=>whnf);repeat' (first|(apply And.intro<;>try conv=>whnf)|(apply infoT;rfl)|(refine ⟨_, _, rfl, idx_map (by with_reducible assumption), rfl, ?_⟩;try conv=>whnf)|fail)
          refine ⟨.one 0 (.one 4 (.one 5 (.one 6 (.one 7 (.one 8 (.one 9 (.one 10 (.one 11 (.one 12 (.one 13 (.two 1 (.two 2 (.two 3 (.one 14 (.one 15 (.one 16 .done))) 14 (.one 3 (.one 15 (.one 16 .done)))) 14 (.one 2 (.one 3 (.one 15 (.one 16 .done))))) 14 (.one 1 (.one 2 (.one 3 (.one 15 (.one 16 .done)))))))))))))))), [14, 16], by kernel_rfl, ?_⟩
          (try conv=>whnf);repeat' (first|(apply And.intro<;>try conv=>whnf)|(apply infoT;rfl)|fail)
          · exact rfl
          refine ⟨e, rfl, hie', ?_⟩
          try conv=>whnf
          rw [tabC_get hie']
          (try conv=>whnf);repeat' (first|(apply And.intro<;>try conv=>whnf)|(apply cellsI;rfl)|(apply szI;rfl)|fail)
          all_goals (rw [get_eq (k := e + 8) (o := some (.arr 1 (colP T e))) hget])
          all_goals ((try conv=>whnf);repeat' (first|(apply And.intro<;>try conv=>whnf)|(apply infoT;rfl)|(apply cellsI;rfl)|with_reducible assumption|fail))
          all_goals first
            | exact (show (colP T e).length + 1 ≤ 4294967296 by omega)
            | exact rfl
            | skip
          all_goals (refine ⟨e, rfl, hie', ?_⟩; try conv=>whnf)
          all_goals (rw [ble_s (e := e) (b := (tabC a.pre.length (lenM T row e)).length) ?_ hel])
          all_goals (try conv=>whnf)
          all_goals first
            | rfl
            | (refine ⟨(), ?_⟩; (refine Wk.ofN 0 ?_ ?_ rfl rfl rfl ?_<;>repeat' (first|exact trivial|exact WkD.same _|refine ⟨?_, ?_⟩|fail)); refine HT_all (g := _) hn (by decide) rfl ?_ rfl fun e' he' => ?_)
          all_goals first
            | exact congrArg (fun z => some (DObj.var z)) (tabC_put (m := (colP T e ++ [fpv (row.getD e [])]).length) hie' (by rw [lenM, colM_yes]) (fun e' h => by rw [lenM, lenM, colM_no h]))
            | exact hnew e' he' .gone
        rintro ⟨⟩
        try conv=>whnf
        refine ⟨⟨e + 1, hie'⟩, by show a.pre.length - (e + 1) < a.pre.length - e; omega, ?_⟩
        (refine Wk.ofN 0 ?_ ?_ rfl rfl rfl ?_<;>repeat' (first|exact trivial|exact WkD.same _|refine WkD.int ?_|refine ⟨?_, ?_⟩|(refine wrapA ?_ ?_ ?_;(focus simp;done);(focus (try dsimp only);omega);(focus (try dsimp only);omega))|fail))
        exact HT_mid hn (show 16 ≤ 18 by decide) fun k hk => rfl
      · have hie' : e = a.pre.length := by
          have h2 : decide ((e : Int) < ((a.pre.length : Nat) : Int)) = false := h
          have := of_decide_eq_false h2
          omega
        subst hie'
        have hF : HT a a.pre.length (lenM T row a.pre.length) (colM T row a.pre.length) = HX a (T ++ [row]) := HT_congr (fun e he => by rw [lenM, lenP, colM, if_pos he]) (fun e he => by rw [colM, if_pos he])
        refine ⟨⟨(i + 1, T ++ [row]), hi', by simp [hl], by rw [he, hyes]⟩, by show c.length - (i + 1) < c.length - i; omega, ?_⟩
        (refine Wk.ofN 0 ?_ ?_ rfl rfl rfl ?_<;>repeat' (first|exact trivial|exact WkD.same _|refine WkD.int ?_|refine ⟨?_, ?_⟩|(refine wrapA ?_ ?_ ?_;(focus simp;done);(focus (try dsimp only);omega);(focus (try dsimp only);omega))|fail))
        exact HX_back hn fun k hk => congrFun (congrArg objsOf hF) k
  · exact rfl
  · skip
    have hget : objsOf (HX a T) (ev + 8) = some (.arr 1 (colP T ev)) := HT_get hev
    have hcl := colP_len T ev
    have hi' : i = c.length := by have := ge_dec (m := (c.map Nd.pv).length) h (by simpa using hi); simpa using this
    subst hi'
    rw [redE_end] at he
    refine ⟨ev, rfl, hev, ?_⟩
    try conv=>whnf
    rw [tabC_get hev]
    try conv=>whnf
    rw [get_eq (k := ev + 8) (o := some (.arr 1 (colP T ev))) ?_]
    (try conv=>whnf);repeat' (first|(apply And.intro<;>try conv=>whnf)|with_reducible assumption|fail)
    · exact rfl
    have hw : IntKind.wrap .i64 ((lenP T ev : Int) - 1) = ((T.length - 1 : Nat) : Int) := by
      rw [lenP, hcl]; exact wrapA (by omega) (by omega) (by omega)
    refine ⟨T.length - 1, hw, (show T.length - 1 < (colP T ev).length by omega), ?_⟩
    try conv=>whnf
    rw [get_eq (k := ev + 8) (o := some (.arr 1 (colP T ev))) ?_]
    (try conv=>whnf);repeat' (first|(apply And.intro<;>try conv=>whnf)|with_reducible assumption|fail)
    · exact rfl
    refine ⟨_, colP_get (show T.length - 1 < T.length by omega), ?_⟩
    try conv=>whnf
    exact le_pairF (a := ((T.getD (T.length - 1) []).getD ev [], 0)) (by rw [he]; rfl)
end Go.Proofs.YtibbphifegibkaaGreatDoor
set_option maxRecDepth 100000
set_option maxHeartbeats 4000000
namespace Go.Proofs.YtibbphifegibkaaGreatDoor
open Go Go.Dv

structure SmX (a : Act) : Prop where
  fit : Fit a
  rel : a.rel.length ≤ 1000
  post : ∀ l, l ∈ a.post → l.length ≤ 1000
def chkI (a : Act) : Int := actI a (min (a.rel.length : Int) 4) 8
theorem chk_ok {a : Act} (h : chkI a = 0) : OkA a a.rel.length 8 ∧ actI a a.rel.length 8 = 0 ∧ a.rel.length ≤ 4 ∧ min (a.rel.length : Int) 4 = (a.rel.length : Int) := by
  have hO := actI_ok h
  have h1 := hO.ags
  have h2 := hO.agn
  have h3 : min (a.rel.length : Int) 4 = (a.rel.length : Int) := h1
  refine ⟨?_, ?_, h2, h3⟩
  · rw [h3] at hO; exact hO
  · rw [chkI, h3] at h; exact h
/-- What the nodes of a formula that is static, fits, and has no common knowledge are. -/
theorem nd_fit {A F : Nat} {x : Nd} {k : Int} (hk : OkNd x k) (hs : stM A F x.op x.i x.e x.g = true) (hA : A ≤ 4) : x.op ≤ 13 ∧ (x.op = 9 ∨ x.op = 10 → x.i.toNat < A) ∧ (x.op = 12 → 1 ≤ x.g ∧ x.g < shl64 1 (A : Int)) := by
  obtain ⟨⟨h1, h2⟩, _⟩ := stM_iff.1 hs
  have ho := hk.op
  refine ⟨?_, fun h => ?_, fun h => ?_⟩
  · have key : ∀ op : Nat, op < 22 → (frag (op : Int)).toNat < 16 → op ≤ 13 := by decide
    have := key x.op.toNat (by omega) (by rw [show ((x.op.toNat : Nat) : Int) = x.op by omega]; exact h1)
    omega
  · have h2 : agN x < 2 ^ A := h2
    rw [agN, show isAgent x.op = true by rcases h with h | h <;> rw [h] <;> rfl, cond_true] at h2
    exact (Nat.pow_lt_pow_iff_right (by decide : 1 < 2)).1 h2
  · have h2 : agN x < 2 ^ A := h2
    rw [agN, show isAgent x.op = false by rw [h]; rfl, cond_false] at h2
    have := hk.group (by rw [h]; rfl)
    rw [shl_n hA]
    omega
theorem orN_mm {m : Nd → Nat} : ∀ {c : List Nd} {y : Nd}, y ∈ c → m y ||| orN m c = orN m c
  | x :: r, y, h => by
    rw [orN_cons]
    rcases List.mem_cons.1 h with rfl | h
    · rw [← Nat.or_assoc, Nat.or_self]
    · rw [← Nat.or_assoc, Nat.or_comm (m y), Nat.or_assoc, orN_mm h]
theorem no_13 {f : List Nd} (h : (and64 (frags f : Nat) 8 != 0) = false) : ∀ x, x ∈ comp f → x.op ≠ 13 := fun x hx e => by
  have hfr : frags f < 2 ^ 62 := Nat.lt_of_lt_of_le (frags_lt f) (by decide)
  have h0 : and64 (frags f : Nat) ((8 : Nat) : Int) = 0 := by simpa using h
  rw [and64_nat hfr (by decide)] at h0
  have h0 : frags f &&& 8 = 0 := by omega
  have hin : fragN x ||| frags f = frags f := orN_mm hx
  have h8 : fragN x = 8 := by rw [fragN, e]; rfl
  have : (frags f).testBit 3 = true := by rw [← hin, Nat.testBit_or, h8]; rfl
  have h3 : (frags f &&& 8).testBit 3 = true := by rw [Nat.testBit_and, this]; rfl
  rw [h0] at h3
  exact absurd h3 (by decide)
theorem grp_ok {a : Act} {g : Int} (h : actI a a.rel.length 8 = 0) (hg : 1 ≤ g ∧ g < shl64 1 (a.rel.length : Int)) : badGr a g = false := by
  rw [badGr, show aloneI a = actI a a.rel.length 8 from rfl, h, decide_eq_false (by omega), decide_eq_false (by omega)]; rfl
/-- The nodes that after takes. -/
def AftOk (a : Act) (f : List Nd) : Prop := ∀ x, x ∈ comp f → x.op ≤ 12 ∧ (x.op = 9 ∨ x.op = 10 → x.i.toNat < a.rel.length) ∧ (x.op = 12 → badGr a x.g = false)
theorem aft_ok {a : Act} {f : List Nd} {F : Nat} (ha : actI a a.rel.length 8 = 0) (h4 : a.rel.length ≤ 4) (hs : ∀ x, x ∈ comp f → stM a.rel.length F x.op x.i x.e x.g = true) (hc : (and64 (frags f : Nat) 8 != 0) = false) : AftOk a f := fun x hx => by
  obtain ⟨k, hk⟩ := okl_mem (comp_okl f) hx
  obtain ⟨h1, h2, h3⟩ := nd_fit hk (hs x hx) h4
  have := no_13 hc x hx
  exact ⟨by omega, h2, fun h => grp_ok ha (h3 h)⟩
def aftI (a : Act) (ev : Int) (f : List Nd) : List Nd × Int :=
  bif chkI a != 0 then ([], chkI a) else bif check f != 0 then ([], check f) else bif badEv a ev then ([], 6)
  else bif (bif !stB f then true else and64 (frags f : Nat) 8 != 0) then ([], 10) else bif !fits f (min (a.rel.length : Int) 4) 8 then ([], 2) else aftF a ev.toNat (comp f)
theorem stat_of {f : List Nd} {A F : Int} (h1 : check f = 0) (h2 : stB f = true) (h3 : fits f A F = true) : statI A F f = 0 := by
  rw [statI, h1, show (nand64' (frags f : Nat) 15 != 0) = false by have : nand64' (frags f : Nat) 15 = 0 := by simpa [stB] using h2
                                                                   rw [this]; rfl, h3]; rfl
theorem red_After (a : Act) (ev : Int) (f : List Nd) (hS : SmX a) : PureFn Tryz.prog 17 [a.pv, .int .i64 ev, fpv f] (pairF (aftI a ev f)) := by
  have e1 : ((a.rel.map rowPV).length : Int) = (a.rel.length : Int) := by simp
  have e2 : ((a.pre.map fpv).length : Int) = (a.pre.length : Int) := by simp
  have hC := ac_Check a (min ((a.rel.map rowPV).length : Int) 4) 8 hS.fit hS.rel hS.post
  have hCe : actI a (min ((a.rel.map rowPV).length : Int) 4) 8 = chkI a := by rw [e1]; rfl
  rw [hCe] at hC
  have hF := fm_Fits f (min ((a.rel.map rowPV).length : Int) 4) 8
  have hFe : fits f (min ((a.rel.map rowPV).length : Int) 4) 8 = fits f (min (a.rel.length : Int) 4) 8 := by rw [e1]
  rw [hFe] at hF
  have hAf := fun (ev : Nat) hA hev hcf hop => red_after a 8 hA hS.fit hS.rel hS.post ev hev f hcf hop
  refine PureFn.intro mixed (fn := Tryz.f17) rfl rfl rfl fun M w0 => ?_
  (try conv=>whnf);repeat' (first|(apply And.intro<;>try conv=>whnf)|(intro h;try conv=>whnf)|apply True.intro|(apply WhenQ.mk;(try conv=>whnf);rotate_left;(try conv=>whnf);rotate_right)|with_reducible assumption|(apply not_of;with_reducible assumption)|(refine PureFn.dcq (f := 35) rfl ?_;try conv=>whnf)|(refine PureFn.dcq (f := 31) rfl ?_;try conv=>whnf)|(refine PureFn.dcq (f := 32) rfl ?_;try conv=>whnf)|(refine PureFn.dcq (f := 36) rfl ?_;try conv=>whnf)|(refine ⟨_, _, hC, ?_, ?_⟩;(focus first|(refine ⟨?_, ?_, ?_, trivial⟩<;>first|exact PLe.refl _|exact PLe.nil)|exact trivial);try conv=>whnf)|(refine ⟨_, _, fm_Check ?_, ?_, ?_⟩;rotate_left 1;(focus first|(refine ⟨?_, trivial⟩<;>first|exact PLe.refl _|exact PLe.nil)|exact trivial);try conv=>whnf)|(refine ⟨_, _, red_static ?_, ?_, ?_⟩;rotate_left 1;(focus first|(refine ⟨?_, trivial⟩<;>first|exact PLe.refl _|exact PLe.nil)|exact trivial);try conv=>whnf)|(refine ⟨_, _, fm_Frags ?_, ?_, ?_⟩;rotate_left 1;(focus first|(refine ⟨?_, trivial⟩<;>first|exact PLe.refl _|exact PLe.nil)|exact trivial);try conv=>whnf)|fail)
  · rw [aftI, show (chkI a != 0) = true from h]; exact le_nilF _
  · rename_i h1
    rw [aftI, show (chkI a != 0) = false from h1, show (check f != 0) = true from h]; exact le_nilF _
  · rename_i h1 h2
    have hb : badEv a ev = true := by rw [badEv, ← e2]; exact h
    rw [aftI, show (chkI a != 0) = false from h1, show (check f != 0) = false from h2, hb]; exact le_nilF _
  · rename_i h1 h2 h3
    have hb : badEv a ev = false := by rw [badEv, ← e2]; exact h3
    rw [aftI, show (chkI a != 0) = false from h1, show (check f != 0) = false from h2, hb, show (bif !stB f then true else and64 (frags f : Nat) 8 != 0) = true from h]; exact le_nilF _
  · rename_i h1 h2 h3
    have hb : badEv a ev = false := by rw [badEv, ← e2]; exact h3
    have hst : (bif !stB f then true else and64 (frags f : Nat) 8 != 0) = false := h
    have hI : ∀ b, (!fits f (min (a.rel.length : Int) 4) 8) = b → aftI a ev f = bif b then ([], 2) else aftF a ev.toNat (comp f) := fun b hb2 => by
      rw [aftI, show (chkI a != 0) = false from h1, show (check f != 0) = false from h2, hb, hst, hb2]; rfl
    obtain ⟨k, rfl, hk⟩ := badEv_no hb
    have hck : chkI a = 0 := by simpa using h1
    have hcf : check f = 0 := by simpa using h2
    obtain ⟨c1, c2, c3, c4⟩ := chk_ok hck
    have hsb : stB f = true := by
      cases q : stB f with
      | true => rfl
      | false => rw [q] at hst; cases hst
    have hc13 : (and64 (frags f : Nat) 8 != 0) = false := by rw [hsb] at hst; exact hst
    cases hq : (!fits f (min (a.rel.length : Int) 4) 8) with
    | true =>
      have hft : fits f (min (a.rel.length : Int) 4) 8 = false := by simpa using hq
      rw [hft] at hF
      (try conv=>whnf);repeat' (first|(apply And.intro<;>try conv=>whnf)|(intro h;first|with_reducible exact nf0 h|try conv=>whnf)|(refine PureFn.dcq (f := 37) rfl ?_;try conv=>whnf)|(refine ⟨_, _, hF, ?_, ?_⟩;(focus first|(refine ⟨?_, ?_, ?_, trivial⟩<;>first|exact PLe.refl _|exact PLe.nil)|exact trivial);try conv=>whnf)|fail)
      rw [hI _ hq]; exact le_nilF _
    | false =>
      have hft : fits f (min (a.rel.length : Int) 4) 8 = true := by simpa using hq
      rw [hft] at hF
      have hs : statI (a.rel.length : Nat) (8 : Nat) f = 0 := stat_of hcf hsb (by rw [c4] at hft; exact hft)
      have hA := hAf k c1 hk hcf (aft_ok c2 c3 (statM_iff.1 hs).2 hc13)
      (try conv=>whnf);repeat' (first|(apply And.intro<;>try conv=>whnf)|(intro h;first|with_reducible exact nt0 h|try conv=>whnf)|(refine PureFn.dcq (f := 37) rfl ?_;try conv=>whnf)|(refine PureFn.dcq (f := 38) rfl ?_;try conv=>whnf)|(refine ⟨_, _, hF, ?_, ?_⟩;(focus first|(refine ⟨?_, ?_, ?_, trivial⟩<;>first|exact PLe.refl _|exact PLe.nil)|exact trivial);try conv=>whnf)|(refine ⟨_, _, hA, ?_, ?_⟩;(focus first|(refine ⟨?_, ?_, ?_, trivial⟩<;>first|exact PLe.refl _|exact PLe.nil)|exact trivial);try conv=>whnf)|fail)
      rw [hI _ hq, Int.toNat_natCast]; exact .refl _
end Go.Proofs.YtibbphifegibkaaGreatDoor
set_option maxRecDepth 100000
set_option maxHeartbeats 4000000
namespace Go.Proofs.YtibbphifegibkaaGreatDoor
open Go Go.Dv

def badRd (acts : List Act) (x : Nd) : Bool := bif x.op == 17 then (bif decide (x.i ≥ (acts.length : Int)) then true else decide (x.e ≥ ((acts.getD x.i.toNat noAct).pre.length : Int))) else false
def difR (acts : List Act) (a : Act) : Bool := (a.rel.length : Int) != ((acts.getD 0 noAct).rel.length : Int)
def envE : List Act → Int
  | [] => 0
  | a :: r => bif chkI a != 0 then chkI a else envE r
def fitR (acts : List Act) (f : List Nd) : Bool := bif decide ((acts.length : Int) > 0) then !fits f ((acts.getD 0 noAct).rel.length : Int) 8 else false
def rqI (acts : List Act) (f : List Nd) : Int :=
  bif decide ((acts.length : Int) > 8) then 8 else bif acts.any (difR acts) then 1 else bif envE acts != 0 then envE acts else bif check f != 0 then check f
  else bif nand64' (frags f : Nat) 207 != 0 then 10 else bif (comp f).any (badRd acts) then 6 else bif fitR acts f then 2 else 0
def HRq (acts : List Act) : List (Nat × DObj) := [(0, .var [.pv (actsPV acts)])]
theorem WkD.bol {L : DH} {H : List (Nat × DObj)} {a b : Bool} (h : a = b) : WkD L H (.pv (.bool a)) (.pv (.bool b)) := h ▸ .same _
theorem rq1 {M : Nat → Prop} {w0 : World} (acts : List Act) (a : Act) (h0 : acts ≠ []) (base : Nat) (K : DV → DH → Prop) (hK : K (.pv (.bool (difR acts a))) ⟨1, 0, base, objsOf (HRq acts)⟩) :
    DC Tryz.prog M w0 46 [.agg (cellsA a), .ref 0 0] ⟨1, 0, base, objsOf (HRq acts)⟩ K := by
  obtain ⟨b, r, rfl⟩ : ∃ b r, acts = b :: r := by
    cases acts with
    | nil => exact absurd rfl h0
    | cons b r => exact ⟨b, r, rfl⟩
  have hb : (b :: r)[0]? = some b := rfl
  have e1 : ((a.rel.map rowPV).length : Int) = (a.rel.length : Int) := by simp
  have e2 : ((b.rel.map rowPV).length : Int) = (b.rel.length : Int) := by simp
  have hd : difR (b :: r) a = (((a.rel.map rowPV).length : Int) != ((b.rel.map rowPV).length : Int)) := by rw [e1, e2]; rfl
  rw [hd] at hK
  refine DC.weaken (DC.intro mixed (fn := Tryz.f46) rfl rfl rfl ?_)
  (try conv=>whnf);repeat' (first|(apply And.intro<;>try conv=>whnf)|(apply infoT;rfl)|(refine lin_plan (by kernel_rfl) ?_;try conv=>whnf)|(refine ⟨_, _, rfl, idx_map (by with_reducible assumption), rfl, ?_⟩;try conv=>whnf)|fail)
  exact ⟨_, 1, HRq (b :: r), (by refine Wk.of ?_ ?_ rfl rfl rfl<;>repeat' (first|exact trivial|exact WkD.same _|exact WkO.same _ _ rfl|refine ⟨?_, ?_⟩|fail)), hK⟩
theorem rq2 {M : Nat → Prop} {w0 : World} (acts : List Act) (x : Nd) (hx : x.op = 17 → 0 ≤ x.i) (base : Nat) (K : DV → DH → Prop) (hK : K (.pv (.bool (badRd acts x))) ⟨1, 0, base, objsOf (HRq acts)⟩) :
    DC Tryz.prog M w0 47 [.agg x.dvs, .ref 0 0] ⟨1, 0, base, objsOf (HRq acts)⟩ K := by
  obtain ⟨op, fi, ei, gi, xx, yy⟩ := x
  simp only at hx
  have e1 : ((acts.map Act.pv).length : Int) = (acts.length : Int) := by simp
  refine DC.weaken (DC.intro mixed (fn := Tryz.f47) rfl rfl rfl ?_)
  cases h17 : (op == 17) with
  | false =>
    have hb : badRd acts ⟨op, fi, ei, gi, xx, yy⟩ = false := by
      show (bif op == 17 then _ else false) = false
      rw [h17]; rfl
    rw [hb] at hK
    have hoff : (op == 17 && !false) = false := by rw [h17]; rfl
    (try conv=>whnf);repeat' (first|(apply And.intro<;>try conv=>whnf)|(intro h;first|with_reducible exact tf h (by assumption)|try conv=>whnf)|(apply whenOff;(focus with_reducible assumption);try conv=>whnf)|(refine lin_plan (by kernel_rfl) ?_;try conv=>whnf)|fail)
    refine ⟨_, 1, HRq acts, ?_, hK⟩
    refine Wk.of ⟨WkD.bol ?_, trivial⟩ ⟨WkO.same _ _ rfl, trivial, trivial⟩ rfl rfl rfl
    rw [h17]
    rfl
  | true =>
    have e17 : op = 17 := by simpa using h17
    have h0 := hx e17
    cases hge : decide (fi ≥ ((acts.map Act.pv).length : Int)) with
    | true =>
      have hb : badRd acts ⟨op, fi, ei, gi, xx, yy⟩ = true := by
        show (bif op == 17 then (bif decide (fi ≥ (acts.length : Int)) then true else _) else false) = true
        rw [h17, ← e1, hge]; rfl
      rw [hb] at hK
      have hoff : (op == 17 && !decide (fi ≥ ((acts.map Act.pv).length : Int))) = false := by rw [h17, hge]; rfl
      (try conv=>whnf);repeat' (first|(apply And.intro<;>try conv=>whnf)|(intro h;first|with_reducible exact tf (by assumption) h|try conv=>whnf)|apply True.intro|(apply whenOff;(focus with_reducible assumption);try conv=>whnf)|(apply WhenQ.mk;(try conv=>whnf);rotate_left;(try conv=>whnf);rotate_right)|with_reducible assumption|(refine lin_plan (by kernel_rfl) ?_;try conv=>whnf)|fail)
      refine ⟨_, 1, HRq acts, ?_, hK⟩
      refine Wk.of ⟨WkD.bol ?_, trivial⟩ ⟨WkO.same _ _ rfl, trivial, trivial⟩ rfl rfl rfl
      rw [h17]
      show (bif decide (fi ≥ ((acts.map Act.pv).length : Int)) then true else _) = _
      rw [hge]; rfl
    | false =>
      have hlt := of_decide_eq_false hge
      rw [e1] at hlt
      obtain ⟨q, eq⟩ : ∃ q : Nat, fi = q := ⟨fi.toNat, by omega⟩
      subst eq
      obtain ⟨a, ha, had⟩ : ∃ a, acts[q]? = some a ∧ acts.getD q noAct = a := ⟨_, getD_mem (by omega), rfl⟩
      have hb : badRd acts ⟨op, (q : Int), ei, gi, xx, yy⟩ = decide (ei ≥ ((a.pre.map fpv).length : Int)) := by
        show (bif op == 17 then (bif decide ((q : Int) ≥ (acts.length : Int)) then true else decide (ei ≥ ((acts.getD (q : Int).toNat noAct).pre.length : Int))) else false) = _
        rw [h17, ← e1, hge, Int.toNat_natCast, had, List.length_map]; rfl
      rw [hb] at hK
      (try conv=>whnf);repeat' (first|(apply And.intro<;>try conv=>whnf)|(intro h;try conv=>whnf)|apply True.intro|(apply infoT;rfl)|(apply WhenQ.mk;(try conv=>whnf);rotate_left;(try conv=>whnf);rotate_right)|with_reducible assumption|(apply and_of<;>first|with_reducible assumption|(apply not_of;with_reducible assumption))|(refine lin_plan (by kernel_rfl) ?_;try conv=>whnf)|(refine ⟨_, _, rfl, idx_map (by with_reducible assumption), rfl, ?_⟩;try conv=>whnf)|fail)
      refine ⟨_, 1, HRq acts, ?_, hK⟩
      refine Wk.of ⟨WkD.bol ?_, trivial⟩ ⟨WkO.same _ _ rfl, trivial, trivial⟩ rfl rfl rfl
      rw [h17]
      show (bif decide ((q : Int) ≥ ((acts.map Act.pv).length : Int)) then true else _) = _
      rw [hge]; rfl
theorem rqN_ix {M : Nat → Prop} {w0 : World} (acts : List Act) (l : List Nd) (hl : l.length ≤ 1000) (hs : ∀ x, x ∈ l → x.op = 17 → 0 ≤ x.i) (base : Nat) (K : DV → DH → Prop) (hK : ∀ r : Int, decide (r ≥ 0) = l.any (badRd acts) → K (.pv (.int .i64 r)) ⟨1, 0, base, objsOf (HRq acts)⟩) :
    DC Tryz.prog M w0 65 [.pv (.sl (l.map Nd.pv)), .clo 47 [] [.ref 0 0]] ⟨1, 0, base, objsOf (HRq acts)⟩ K := by
  refine DC.weaken (DC.intro mixed (fn := Tryz.f65) rfl rfl rfl ?_)
  try conv=>whnf
  refine ⟨{ i : Nat // i ≤ l.length ∧ (l.take i).any (badRd acts) = false }, fun i => [(0, .pv (.sl (l.map Nd.pv))), (1, .clo 47 [] [.ref 0 0]), (7, .pv (i64 (l.map Nd.pv).length)), (8, .pv (i64 i.1))], fun _ => 1, fun _ => HRq acts, fun i => l.length - i.1, ⟨⟨0, Nat.zero_le _, rfl⟩, (by refine Wk.of ?_ ?_ rfl rfl rfl<;>repeat' (first|exact trivial|exact WkD.same _|exact WkO.same _ _ rfl|refine ⟨?_, ?_⟩|fail))⟩, ?_⟩
  rintro ⟨i, hi, ha⟩
  (try conv=>whnf);repeat' (first|(apply And.intro<;>try conv=>whnf)|(intro h;try conv=>whnf)|(apply infoT;rfl)|fail)
  · have hi' : i < l.length := by simpa using lt_dec h
    have hm : l[i]? = some l[i] := List.getElem?_eq_getElem hi'
    have hsi := hs _ (List.getElem_mem hi')
    refine ⟨_, _, rfl, idx_map hm, rfl, ?_⟩
    try conv=>whnf
    refine rq2 acts l[i] hsi _ _ ?_
    (try conv=>whnf);repeat' (first|(apply And.intro<;>try conv=>whnf)|(intro h;try conv=>whnf)|fail)
    · have e : l.any (badRd acts) = true := any_at hi' h
      exact ⟨.pv (.int .i64 (i : Int)), 1, HRq acts, (by refine Wk.of ?_ ?_ rfl rfl rfl<;>repeat' (first|exact trivial|exact WkD.same _|exact WkO.same _ _ rfl|refine ⟨?_, ?_⟩|fail)), hK i (by rw [e]; simp)⟩
    · exact ⟨⟨i + 1, hi', any_take hi' ha h⟩, by show l.length - (i + 1) < l.length - i; omega, (by refine Wk.of ?_ ?_ rfl rfl rfl<;>repeat' (first|exact trivial|exact WkD.same _|exact WkO.same _ _ rfl|refine WkD.int ?_|refine ⟨?_, ?_⟩|(refine wrapA ?_ ?_ ?_;(focus simp;done);(focus (try dsimp only);omega);(focus (try dsimp only);omega))|fail))⟩
  · have hi' : i = l.length := by have := ge_dec (m := (l.map Nd.pv).length) h (by simpa using hi); simpa using this
    subst hi'
    rw [List.take_length] at ha
    exact ⟨.pv (.int .i64 (-1)), 1, HRq acts, (by refine Wk.of ?_ ?_ rfl rfl rfl<;>repeat' (first|exact trivial|exact WkD.same _|exact WkO.same _ _ rfl|refine ⟨?_, ?_⟩|fail)), hK (-1) (by rw [ha]; decide)⟩
theorem rqN_ct {M : Nat → Prop} {w0 : World} (acts : List Act) (l : List Nd) (hl : l.length ≤ 1000) (hs : ∀ x, x ∈ l → x.op = 17 → 0 ≤ x.i) (base : Nat) (K : DV → DH → Prop) (hK : K (.pv (.bool (l.any (badRd acts)))) ⟨1, 0, base, objsOf (HRq acts)⟩) :
    DC Tryz.prog M w0 41 [.pv (.sl (l.map Nd.pv)), .clo 47 [] [.ref 0 0]] ⟨1, 0, base, objsOf (HRq acts)⟩ K := by
  refine DC.intro mixed (fn := Tryz.f41) rfl rfl rfl ?_
  try conv=>whnf
  refine rqN_ix acts l hl hs 1 _ fun r e => ?_
  rw [← e] at hK
  try conv=>whnf
  exact hK
theorem rqA_ix {M : Nat → Prop} {w0 : World} (acts : List Act) (l : List Act) (hl : l.length ≤ 1000) (hs : ∀ x, x ∈ l → acts ≠ []) (base : Nat) (K : DV → DH → Prop) (hK : ∀ r : Int, decide (r ≥ 0) = l.any (difR acts) → K (.pv (.int .i64 r)) ⟨1, 0, base, objsOf (HRq acts)⟩) :
    DC Tryz.prog M w0 74 [.pv (.sl (l.map Act.pv)), .clo 46 [] [.ref 0 0]] ⟨1, 0, base, objsOf (HRq acts)⟩ K := by
  refine DC.weaken (DC.intro mixed (fn := Tryz.f74) rfl rfl rfl ?_)
  try conv=>whnf
  refine ⟨{ i : Nat // i ≤ l.length ∧ (l.take i).any (difR acts) = false }, fun i => [(0, .pv (.sl (l.map Act.pv))), (1, .clo 46 [] [.ref 0 0]), (7, .pv (i64 (l.map Act.pv).length)), (8, .pv (i64 i.1))], fun _ => 1, fun _ => HRq acts, fun i => l.length - i.1, ⟨⟨0, Nat.zero_le _, rfl⟩, (by refine Wk.of ?_ ?_ rfl rfl rfl<;>repeat' (first|exact trivial|exact WkD.same _|exact WkO.same _ _ rfl|refine ⟨?_, ?_⟩|fail))⟩, ?_⟩
  rintro ⟨i, hi, ha⟩
  (try conv=>whnf);repeat' (first|(apply And.intro<;>try conv=>whnf)|(intro h;try conv=>whnf)|(apply infoT;rfl)|fail)
  · have hi' : i < l.length := by simpa using lt_dec h
    have hm : l[i]? = some l[i] := List.getElem?_eq_getElem hi'
    have hsi := hs _ (List.getElem_mem hi')
    refine ⟨_, _, rfl, idx_map hm, rfl, ?_⟩
    try conv=>whnf
    refine rq1 acts l[i] hsi _ _ ?_
    (try conv=>whnf);repeat' (first|(apply And.intro<;>try conv=>whnf)|(intro h;try conv=>whnf)|fail)
    · have e : l.any (difR acts) = true := any_at hi' h
      exact ⟨.pv (.int .i64 (i : Int)), 1, HRq acts, (by refine Wk.of ?_ ?_ rfl rfl rfl<;>repeat' (first|exact trivial|exact WkD.same _|exact WkO.same _ _ rfl|refine ⟨?_, ?_⟩|fail)), hK i (by rw [e]; simp)⟩
    · exact ⟨⟨i + 1, hi', any_take hi' ha h⟩, by show l.length - (i + 1) < l.length - i; omega, (by refine Wk.of ?_ ?_ rfl rfl rfl<;>repeat' (first|exact trivial|exact WkD.same _|exact WkO.same _ _ rfl|refine WkD.int ?_|refine ⟨?_, ?_⟩|(refine wrapA ?_ ?_ ?_;(focus simp;done);(focus (try dsimp only);omega);(focus (try dsimp only);omega))|fail))⟩
  · have hi' : i = l.length := by have := ge_dec (m := (l.map Act.pv).length) h (by simpa using hi); simpa using this
    subst hi'
    rw [List.take_length] at ha
    exact ⟨.pv (.int .i64 (-1)), 1, HRq acts, (by refine Wk.of ?_ ?_ rfl rfl rfl<;>repeat' (first|exact trivial|exact WkD.same _|exact WkO.same _ _ rfl|refine ⟨?_, ?_⟩|fail)), hK (-1) (by rw [ha]; decide)⟩
theorem rqA_ct {M : Nat → Prop} {w0 : World} (acts : List Act) (l : List Act) (hl : l.length ≤ 1000) (hs : ∀ x, x ∈ l → acts ≠ []) (base : Nat) (K : DV → DH → Prop) (hK : K (.pv (.bool (l.any (difR acts)))) ⟨1, 0, base, objsOf (HRq acts)⟩) :
    DC Tryz.prog M w0 45 [.pv (.sl (l.map Act.pv)), .clo 46 [] [.ref 0 0]] ⟨1, 0, base, objsOf (HRq acts)⟩ K := by
  refine DC.intro mixed (fn := Tryz.f45) rfl rfl rfl ?_
  try conv=>whnf
  refine rqA_ix acts l hl hs 1 _ fun r e => ?_
  rw [← e] at hK
  try conv=>whnf
  exact hK
end Go.Proofs.YtibbphifegibkaaGreatDoor
set_option maxRecDepth 100000
set_option maxHeartbeats 4000000
namespace Go.Proofs.YtibbphifegibkaaGreatDoor
open Go Go.Dv

theorem envE_drop {acts : List Act} {i : Nat} {a : Act} (h : acts[i]? = some a) : envE (acts.drop i) = bif chkI a != 0 then chkI a else envE (acts.drop (i + 1)) := by
  obtain ⟨h1, h2⟩ := List.getElem?_eq_some_iff.1 h
  rw [List.drop_eq_getElem_cons h1, h2]; rfl
theorem red_request (acts : List Act) (f : List Nd) (hS : ∀ a, a ∈ acts → SmX a) : PureFn Tryz.prog 27 [actsPV acts, fpv f] (.int .i64 (rqI acts f)) := by
  have e1 : ((acts.map Act.pv).length : Int) = (acts.length : Int) := by simp
  have hneg : ∀ x, x ∈ comp f → x.op = 17 → 0 ≤ x.i := fun x hx h17 => by
    obtain ⟨k, hk⟩ := okl_mem (comp_okl f) hx
    exact (hk.act h17).1
  have hlen := comp_len f
  refine PureFn.introC [5, 12] mixed (fn := Tryz.f27) rfl rfl rfl fun M w0 => ?_
  (try conv=>whnf);repeat' (first|(apply And.intro<;>try conv=>whnf)|(intro h;try conv=>whnf)|fail)
  · refine le_int ?_
    rw [rqI, ← e1, show decide (((acts.map Act.pv).length : Int) > 8) = true from h]; rfl
  have hA : decide ((acts.length : Int) > 8) = false := by rw [← e1]; exact h
  have h8 := of_decide_eq_false hA
  have hal : acts.length ≤ 8 := by omega
  clear h h8
  refine ⟨{ _x : Unit // acts.any (difR acts) = false }, fun _ => [(1, .pv (fpv f)), (2, .ref 0 0)], fun _ => 1, fun _ => HRq acts, ?_, ?_⟩
  · try conv=>whnf
    refine rqA_ct acts acts (by omega) (fun x hx e => by rw [e] at hx; cases hx) 0 _ ?_
    (try conv=>whnf);repeat' (first|(apply And.intro<;>try conv=>whnf)|(intro h;try conv=>whnf)|fail)
    · refine le_int ?_
      rw [rqI, hA, show acts.any (difR acts) = true from h]; rfl
    · exact ⟨⟨(), h⟩, (by refine Wk.of ?_ ?_ rfl rfl rfl<;>repeat' (first|exact trivial|exact WkD.same _|exact WkO.same _ _ rfl|refine ⟨?_, ?_⟩|fail))⟩
  rintro ⟨_, h1⟩
  refine ⟨{ _x : Unit // envE acts = 0 }, fun _ => [(1, .pv (fpv f)), (2, .ref 0 0)], fun _ => 1, fun _ => HRq acts, ?_, ?_⟩
  · try conv=>whnf
    refine ⟨{ i : Nat // i ≤ acts.length ∧ envE (acts.drop i) = envE acts }, fun i => [(1, .pv (fpv f)), (2, .ref 0 0), (15, .pv (actsPV acts)), (16, .pv (i64 (acts.map Act.pv).length)), (17, .pv (i64 i.1))], fun _ => 1, fun _ => HRq acts, fun i => acts.length - i.1, ⟨⟨0, Nat.zero_le _, rfl⟩, (by refine Wk.of ?_ ?_ rfl rfl rfl<;>repeat' (first|exact trivial|exact WkD.same _|exact WkO.same _ _ rfl|refine ⟨?_, ?_⟩|fail))⟩, ?_⟩
    rintro ⟨i, hi, hd⟩
    (try conv=>whnf);repeat' (first|(apply And.intro<;>try conv=>whnf)|(intro h;try conv=>whnf)|(apply infoT;rfl)|fail)
    · have hi' : i < acts.length := by simpa using lt_dec h
      obtain ⟨a, ha⟩ : ∃ a, acts[i]? = some a := ⟨_, List.getElem?_eq_getElem hi'⟩
      have hSa := hS a (List.mem_iff_getElem?.2 ⟨i, ha⟩)
      have ea : ((a.rel.map rowPV).length : Int) = (a.rel.length : Int) := by simp
      have hC := ac_Check a (min ((a.rel.map rowPV).length : Int) 4) 8 hSa.fit hSa.rel hSa.post
      have hCe : actI a (min ((a.rel.map rowPV).length : Int) 4) 8 = chkI a := by rw [ea]; rfl
      rw [hCe] at hC
      have hed := envE_drop ha
      refine ⟨_, _, rfl, idx_map ha, rfl, ?_⟩
      (try conv=>whnf);repeat' (first|(apply And.intro<;>try conv=>whnf)|(intro h;try conv=>whnf)|(refine PureFn.dcq (f := 35) rfl ?_;try conv=>whnf)|(refine ⟨_, _, hC, ?_, ?_⟩;(focus first|(refine ⟨?_, ?_, ?_, trivial⟩<;>first|exact PLe.refl _|exact PLe.nil)|exact trivial);try conv=>whnf)|fail)
      · refine le_int ?_
        have hv : envE acts = chkI a := by rw [← hd, hed, show (chkI a != 0) = true from h]; rfl
        rw [rqI, hA, h1, hv, show (chkI a != 0) = true from h]; rfl
      · refine ⟨⟨i + 1, hi', ?_⟩, by show acts.length - (i + 1) < acts.length - i; omega, (by refine Wk.of ?_ ?_ rfl rfl rfl<;>repeat' (first|exact trivial|exact WkD.same _|exact WkO.same _ _ rfl|refine WkD.int ?_|refine ⟨?_, ?_⟩|(refine wrapA ?_ ?_ ?_;(focus simp;done);(focus (try dsimp only);omega);(focus (try dsimp only);omega))|fail))⟩
        rw [← hd, hed, show (chkI a != 0) = false from h]; rfl
    · have hi' : i = acts.length := by have := ge_dec (m := (acts.map Act.pv).length) h (by simpa using hi); simpa using this
      subst hi'
      rw [List.drop_length] at hd
      exact ⟨⟨(), hd.symm⟩, (by refine Wk.of ?_ ?_ rfl rfl rfl<;>repeat' (first|exact trivial|exact WkD.same _|exact WkO.same _ _ rfl|refine ⟨?_, ?_⟩|fail))⟩
  rintro ⟨_, h2⟩
  have hv : rqI acts f = bif check f != 0 then check f else bif nand64' (frags f : Nat) 207 != 0 then 10 else bif (comp f).any (badRd acts) then 6 else bif fitR acts f then 2 else 0 := by
    rw [rqI, hA, h1, h2]; rfl
  (try conv=>whnf);repeat' (first|(apply And.intro<;>try conv=>whnf)|(intro h;try conv=>whnf)|(refine PureFn.dcq (f := 31) rfl ?_;try conv=>whnf)|(refine PureFn.dcq (f := 36) rfl ?_;try conv=>whnf)|(refine PureFn.dcq (f := 24) rfl ?_;try conv=>whnf)|(refine ⟨_, _, fm_Check ?_, ?_, ?_⟩;rotate_left 1;(focus first|(refine ⟨?_, trivial⟩<;>first|exact PLe.refl _|exact PLe.nil)|exact trivial);try conv=>whnf)|(refine ⟨_, _, fm_Frags ?_, ?_, ?_⟩;rotate_left 1;(focus first|(refine ⟨?_, trivial⟩<;>first|exact PLe.refl _|exact PLe.nil)|exact trivial);try conv=>whnf)|(refine ⟨_, _, fm_Compact ?_, ?_, ?_⟩;rotate_left 1;(focus first|(refine ⟨?_, trivial⟩<;>first|exact PLe.refl _|exact PLe.nil)|exact trivial);try conv=>whnf)|fail)
  · refine le_int ?_
    rw [hv, h]; rfl
  · rename_i h3
    refine le_int ?_
    rw [hv, h3, show (nand64' (frags f : Nat) 207 != 0) = true from h]; rfl
  rename_i h3
  have hv : rqI acts f = bif (comp f).any (badRd acts) then 6 else bif fitR acts f then 2 else 0 := by
    rw [hv, h3, show (nand64' (frags f : Nat) 207 != 0) = false from h]; rfl
  refine rqN_ct acts (comp f) (by omega) hneg 0 _ ?_
  cases acts with
  | nil =>
    have hoff : decide (((([] : List Act).map Act.pv).length : Int) > 0) = false := rfl
    have hfr : fitR [] f = false := rfl
    (try conv=>whnf);repeat' (first|(apply And.intro<;>try conv=>whnf)|(intro h;first|with_reducible exact tf h (by assumption)|try conv=>whnf)|(apply whenOff;(focus with_reducible assumption);try conv=>whnf)|fail)
    · refine le_int ?_
      rw [hv, h]; rfl
    · exact absurd (show false = true from h) (by decide)
    · rename_i h5
      refine le_int ?_
      rw [hv, h5, hfr]; rfl
  | cons b r =>
    have eb : ((b.rel.map rowPV).length : Int) = (b.rel.length : Int) := by simp
    have hfr : fitR (b :: r) f = (bif decide (((b :: r).map Act.pv).length > (0 : Int)) then !fits f ((b.rel.map rowPV).length : Int) 8 else false) := by rw [eb, e1]; rfl
    (try conv=>whnf);repeat' (first|(apply And.intro<;>try conv=>whnf)|(intro h;try conv=>whnf)|apply True.intro|(apply infoT;rfl)|(apply WhenQ.mk;(try conv=>whnf);rotate_left;(try conv=>whnf);rotate_right)|with_reducible assumption|(refine PureFn.dcq (f := 37) rfl ?_;try conv=>whnf)|(refine ⟨0, _, rfl, rfl, rfl, ?_⟩;try conv=>whnf)|(refine ⟨_, _, fm_Fits ?_ ?_ ?_, ?_, ?_⟩;rotate_left 3;(focus first|(refine ⟨?_, ?_, ?_, trivial⟩<;>first|exact PLe.refl _|exact PLe.nil)|exact trivial);try conv=>whnf)|fail)
    · refine le_int ?_
      rw [hv, h]; rfl
    · rename_i h5
      refine le_int ?_
      rw [hv, h5, hfr, h]; rfl
    · rename_i h5
      refine le_int ?_
      rw [hv, h5, hfr, h]; rfl
/-- What stepR asks of a node and its operands. -/
structure StepOk (acts : List Act) (x : Nd) (X Y : List Nd) : Prop where
  op : 1 ≤ x.op ∧ (x.op ≤ 13 ∨ x.op = 16 ∨ x.op = 17)
  ann : x.op = 16 → check Y = 0 ∧ ∀ z, z ∈ comp Y → z.op ≤ 13
  act : x.op = 17 → ∃ q ev : Nat, x.i = q ∧ x.e = ev ∧ ∃ a, acts[q]? = some a ∧ acts.getD q noAct = a ∧ SmX a ∧ OkA a a.rel.length 8 ∧ ev < a.pre.length ∧ check X = 0 ∧ ((and64 (frags X : Nat) 8 != 0) = false → AftOk a X)
theorem red_reduced (acts : List Act) (x : Nd) (X Y : List Nd) (h : StepOk acts x X Y) : PureFn Tryz.prog 29 [actsPV acts, x.pv, fpv X, fpv Y] (pairF (stepR acts x X Y)) := by
  have no : ∀ {a b : Int} {p : Prop}, (a == b) = false → a = b → p := fun h e => by rw [e] at h; simp at h
  have hst : stepR acts x X Y = bif x.op == 16 then annF (comp X) (comp Y) else bif x.op == 17 then (bif and64 (frags X : Nat) 8 != 0 then ([], 10) else aftF (acts.getD x.i.toNat noAct) x.e.toNat (comp X)) else nz (apN x X Y) := rfl
  by_cases h16 : x.op = 16
  · obtain ⟨c1, c2⟩ := h.ann h16
    have hA := red_announce X Y c1 c2
    rw [hst, show (x.op == 16) = true by simpa using h16]
    refine PureFn.intro mixed (fn := Tryz.f29) rfl rfl rfl fun M w0 => ?_
    (try conv=>whnf);repeat' (first|(apply And.intro<;>try conv=>whnf)|(intro h;try conv=>whnf)|(refine PureFn.dcq (f := 33) rfl ?_;try conv=>whnf)|(refine ⟨_, _, hA, ?_, ?_⟩;(focus first|(refine ⟨?_, ?_, trivial⟩<;>first|exact PLe.refl _|exact PLe.nil)|exact trivial);try conv=>whnf)|fail)
    · exact .refl _
    all_goals exact no (by with_reducible assumption) h16
  · by_cases h17 : x.op = 17
    · obtain ⟨q, ev, hq, hev, a, ha, had, hS, hO, hel, hcX, hop⟩ := h.act h17
      rw [hst, show (x.op == 16) = false by simpa using h16, show (x.op == 17) = true by simpa using h17, hq, hev, Int.toNat_natCast, Int.toNat_natCast, had]
      simp only [cond_false, cond_true]
      have hF := red_after a 8 hO hS.fit hS.rel hS.post ev hel X hcX
      obtain ⟨op, fi, ei, gi, xx, yy⟩ := x
      simp only at hq hev h16 h17
      subst hq; subst hev
      cases hc : (and64 (frags X : Nat) 8 != 0) with
      | true =>
        refine PureFn.intro mixed (fn := Tryz.f29) rfl rfl rfl fun M w0 => ?_
        (try conv=>whnf);repeat' (first|(apply And.intro<;>try conv=>whnf)|(intro h;try conv=>whnf)|(apply infoT;rfl)|(refine lin_plan (by kernel_rfl) ?_;try conv=>whnf)|(refine ⟨_, _, rfl, idx_map (by with_reducible assumption), rfl, ?_⟩;try conv=>whnf)|(refine PureFn.dcq (f := 36) rfl ?_;try conv=>whnf)|(refine ⟨_, _, fm_Frags ?_, ?_, ?_⟩;rotate_left 1;(focus first|(refine ⟨?_, trivial⟩<;>first|exact PLe.refl _|exact PLe.nil)|exact trivial);try conv=>whnf)|fail)
        all_goals first
          | exact le_nilF _
          | exact absurd (eq_of_beq (by with_reducible assumption)) h16
          | exact no (by with_reducible assumption) h17
          | skip
        exact absurd (hc.symm.trans (show (and64 (frags X : Nat) 8 != 0) = false from by assumption)) (by decide)
      | false =>
        have hG := hF (hop hc)
        refine PureFn.intro mixed (fn := Tryz.f29) rfl rfl rfl fun M w0 => ?_
        (try conv=>whnf);repeat' (first|(apply And.intro<;>try conv=>whnf)|(intro h;try conv=>whnf)|(apply infoT;rfl)|(refine lin_plan (by kernel_rfl) ?_;try conv=>whnf)|(refine ⟨_, _, rfl, idx_map (by with_reducible assumption), rfl, ?_⟩;try conv=>whnf)|(refine PureFn.dcq (f := 36) rfl ?_;try conv=>whnf)|(refine ⟨_, _, fm_Frags ?_, ?_, ?_⟩;rotate_left 1;(focus first|(refine ⟨?_, trivial⟩<;>first|exact PLe.refl _|exact PLe.nil)|exact trivial);try conv=>whnf)|(refine ⟨_, (by (conv=>whnf);exact hG), rfl, ?_⟩;try conv=>whnf)|fail)
        all_goals first
          | exact .refl _
          | exact absurd (eq_of_beq (by with_reducible assumption)) h16
          | exact no (by with_reducible assumption) h17
          | skip
        exact absurd (hc.symm.trans (show (and64 (frags X : Nat) 8 != 0) = true from by assumption)) (by decide)
    · obtain ⟨z, hz⟩ : ∃ z, apN x X Y = z := ⟨_, rfl⟩
      have hAp := red_apply0 x X Y ⟨h.op.1, by rcases h.op.2 with h | h | h; exact h; exact absurd h h16; exact absurd h h17⟩
      rw [hst, show (x.op == 16) = false by simpa using h16, show (x.op == 17) = false by simpa using h17, cond_false, cond_false, hz]
      rw [hz] at hAp
      refine PureFn.intro mixed (fn := Tryz.f29) rfl rfl rfl fun M w0 => ?_
      cases z with
      | nil =>
        (try conv=>whnf);repeat' (first|(apply And.intro<;>try conv=>whnf)|(intro h;first|with_reducible exact tf0 h|try conv=>whnf)|(refine PureFn.dcq (f := 48) rfl ?_;try conv=>whnf)|(refine ⟨_, _, hAp, ?_, ?_⟩;(focus first|(refine ⟨?_, ?_, ?_, trivial⟩<;>first|exact PLe.refl _|exact PLe.nil)|exact trivial);try conv=>whnf)|fail)
        all_goals first
          | exact le_nilF _
          | exact absurd (eq_of_beq (by with_reducible assumption)) h16
          | exact absurd (eq_of_beq (by with_reducible assumption)) h17
      | cons b r =>
        (try conv=>whnf);repeat' (first|(apply And.intro<;>try conv=>whnf)|(intro h;first|with_reducible exact ft0 h|try conv=>whnf)|(refine PureFn.dcq (f := 48) rfl ?_;try conv=>whnf)|(refine ⟨_, _, hAp, ?_, ?_⟩;(focus first|(refine ⟨?_, ?_, ?_, trivial⟩<;>first|exact PLe.refl _|exact PLe.nil)|exact trivial);try conv=>whnf)|fail)
        all_goals first
          | exact .refl _
          | exact absurd (eq_of_beq (by with_reducible assumption)) h16
          | exact absurd (eq_of_beq (by with_reducible assumption)) h17
def rdI (acts : List Act) (f : List Nd) : List Nd × Int := bif rqI acts f != 0 then ([], rqI acts f) else redF acts f
/-- How many agents there are. -/
def agR (acts : List Act) : Nat := match acts with
  | [] => 4
  | a :: _ => a.rel.length
structure RqOk (acts : List Act) (f : List Nd) : Prop where
  chk : ∀ a, a ∈ acts → chkI a = 0
  rel : ∀ a, a ∈ acts → a.rel.length = agR acts
  a4 : agR acts ≤ 4
  cf : check f = 0
  nd : ∀ x, x ∈ comp f → (x.op ≤ 13 ∨ x.op = 16 ∨ x.op = 17) ∧ (x.op ≤ 13 → stM (agR acts) 8 x.op x.i x.e x.g = true) ∧ badRd acts x = false
theorem bif_cases {c : Bool} {a b : Int} (h : (bif c then a else b) = 0) (ha : a ≠ 0) : c = false ∧ b = 0 := by
  cases c with
  | true => exact absurd h ha
  | false => exact ⟨rfl, h⟩
theorem bif_same {a b : Int} (h : (bif a != 0 then a else b) = 0) : a = 0 ∧ b = 0 := by
  by_cases q : a = 0
  · subst q; exact ⟨rfl, h⟩
  · rw [show (a != 0) = true by simpa using q] at h
    exact absurd h q
theorem envE_ok : ∀ {acts : List Act}, envE acts = 0 → ∀ a, a ∈ acts → chkI a = 0
  | [], _, a, ha => by cases ha
  | b :: r, h, a, ha => by
    obtain ⟨h1, h2⟩ := bif_same (show (bif chkI b != 0 then chkI b else envE r) = 0 from h)
    rcases List.mem_cons.1 ha with rfl | ha
    · exact h1
    · exact envE_ok h2 a ha
theorem rq_ok {acts : List Act} {f : List Nd} (h : rqI acts f = 0) : RqOk acts f := by
  unfold rqI at h
  obtain ⟨_, h⟩ := bif_cases h (by decide)
  obtain ⟨h1, h⟩ := bif_cases h (by decide)
  obtain ⟨h2, h⟩ := bif_same h
  obtain ⟨h3, h⟩ := bif_same h
  obtain ⟨h4, h⟩ := bif_cases h (by decide)
  obtain ⟨h5, h⟩ := bif_cases h (by decide)
  obtain ⟨h6, _⟩ := bif_cases h (by decide)
  have hck := envE_ok h2
  have hrel : ∀ a, a ∈ acts → a.rel.length = agR acts := fun a ha => by
    cases acts with
    | nil => cases ha
    | cons b r =>
      have := List.any_eq_false.1 h1 a ha
      have hd : ¬ ((a.rel.length : Int) != (b.rel.length : Int)) = true := this
      have : (a.rel.length : Int) = b.rel.length := by simpa using hd
      show a.rel.length = b.rel.length
      omega
  have hA4 : agR acts ≤ 4 := by
    cases acts with
    | nil => exact Nat.le_refl 4
    | cons b r => exact (chk_ok (hck b (by simp))).2.2.1
  have hag : agents f < 2 ^ agR acts := by
    cases acts with
    | nil => exact agents_lt f
    | cons b r =>
      have h7 : (!fits f (b.rel.length : Int) 8) = false := by
        have : (bif decide ((((b :: r).length : Nat) : Int) > 0) then !fits f (b.rel.length : Int) 8 else false) = false := h6
        rwa [decide_eq_true (by simp), cond_true] at this
      have hft : fits f (b.rel.length : Int) 8 = true := by simpa using h7
      unfold fits at hft
      rw [h3] at hft
      cases hb : belowB (agents f) (b.rel.length : Int) with
      | false => rw [hb] at hft; cases hft
      | true => exact (below_lt (agents_lt f) (by decide)).1 hb
  refine ⟨hck, hrel, hA4, h3, fun x hx => ?_⟩
  obtain ⟨k, hk⟩ := okl_mem (comp_okl f) hx
  have ho := hk.op
  have hfr : frags f < 2 ^ 62 := Nat.lt_of_lt_of_le (frags_lt f) (by decide)
  have h8 : frags f &&& 207 = frags f := by
    have h4' : nand64' (frags f : Nat) 207 = 0 := by simpa using h4
    have := nand_zero (a := frags f) (b := 207) hfr
    rw [show ((207 : Nat) : Int) = 207 from rfl, h4'] at this
    have h9 : subM (frags f) 207 = true := by rw [← this]; rfl
    exact eq_of_beq h9
  have h9 : fragN x &&& 207 = fragN x := by
    have hin : fragN x ||| frags f = frags f := orN_mm hx
    apply Nat.eq_of_testBit_eq
    intro i
    rw [Nat.testBit_and]
    cases hb : (fragN x).testBit i with
    | false => rfl
    | true =>
      have h10 : (frags f).testBit i = true := by rw [← hin, Nat.testBit_or, hb]; rfl
      rw [← h8, Nat.testBit_and, Bool.and_eq_true] at h10
      rw [h10.2]; rfl
  have hop : x.op ≤ 13 ∨ x.op = 16 ∨ x.op = 17 := by
    have key : ∀ op : Nat, op < 22 → (frag (op : Int)).toNat &&& 207 = (frag (op : Int)).toNat → 1 ≤ op → op ≤ 13 ∨ op = 16 ∨ op = 17 := by decide
    have := key x.op.toNat (by omega) (by rw [show ((x.op.toNat : Nat) : Int) = x.op by omega]; exact h9) (by omega)
    omega
  refine ⟨hop, fun h13 => stM_iff.2 ⟨⟨?_, (show agN x < 2 ^ agR acts from Nat.lt_of_le_of_lt (orN_le hx) hag)⟩, (show factN x < 2 ^ 8 from Nat.lt_of_le_of_lt (orN_le hx) (facts_lt f))⟩, by simpa using List.any_eq_false.1 h5 x hx⟩
  show (frag x.op).toNat < 16
  have key : ∀ op : Nat, op < 14 → (frag (op : Int)).toNat < 16 := by decide
  have := key x.op.toNat (by omega)
  rwa [show ((x.op.toNat : Nat) : Int) = x.op by omega] at this
theorem rq_trees {acts : List Act} {f : List Nd} (h : RqOk acts f) (j : Nat) : allT (rgQ (stM (agR acts) 8)) (redT acts (tree (comp f) j)) = true := by
  refine redT_all (stM_clo _ _) (fun a ha => ?_) _ (trn_all (fun x hx => ?_) _ _)
  · have := (chk_ok (h.chk a ha)).2.1
    rw [h.rel a ha] at this
    exact act_Q (Nat.le_refl 8) this
  · obtain ⟨k, hk⟩ := okl_mem (comp_okl f) hx
    obtain ⟨h1, h2, _⟩ := h.nd x hx
    rcases h1 with h1 | h1 | h1
    · show (x.op == 16 || x.op == 17 || rgQ (stM (agR acts) 8) x.op x.i x.e x.g) = true
      rw [rg_iff.2 ⟨h2 h1, hk.group⟩, Bool.or_true]
    · show (x.op == 16 || x.op == 17 || _) = true
      rw [h1]; rfl
    · show (x.op == 16 || x.op == 17 || _) = true
      rw [h1]; rfl
theorem rq_nmd {acts : List Act} {f : List Nd} (h : RqOk acts f) : Nmd acts (comp f) := fun x hx h17 => by
  obtain ⟨k, hk⟩ := okl_mem (comp_okl f) hx
  obtain ⟨a1, a2, a3, a4⟩ := hk.act h17
  have hb := (h.nd x hx).2.2
  unfold badRd at hb
  rw [show (x.op == 17) = true by simpa using h17, cond_true] at hb
  cases hq : decide (x.i ≥ (acts.length : Int)) with
  | true => rw [hq] at hb; cases hb
  | false =>
    rw [hq, cond_false] at hb
    have := of_decide_eq_false hb
    omega
theorem can_stM {A F : Nat} {z : List Nd} (hz : Can z) (ha : allT (rgQ (stM A F)) (root z) = true) : ∀ x, x ∈ comp z → stM A F x.op x.i x.e x.g = true := fun x hx => by
  rw [can_comp hz, ← hz.fix] at hx
  exact (rg_iff.1 (finT_all (Q := rgQ (stM A F)) _ _ ha (by simp) x hx)).1
theorem rq_step {acts : List Act} {f : List Nd} (hS : ∀ a, a ∈ acts → SmX a) (h : RqOk acts f) {i : Nat} {x : Nd} {l : List (List Nd)} (hx : (comp f)[i]? = some x) (hl : l.length = i) (hQ : ∀ (j : Nat) z, l[j]? = some z → TreesOk (comp f) (redT acts) j z) :
    StepOk acts x (l.getD x.x.toNat []) (l.getD x.y.toNat []) := by
  have hm := List.mem_of_getElem? hx
  have hok := comp_okl f i x hx
  obtain ⟨h1, h2, h3⟩ := h.nd x hm
  obtain ⟨oX, oY⟩ := opn (comp_okl f) hx hl hQ
  refine ⟨⟨hok.op.1, h1⟩, fun h16 => ?_, fun h17 => ?_⟩
  · have cY := oY (by rw [h16]; rfl)
    refine ⟨cY.1.check, fun z hz => ?_⟩
    obtain ⟨k, hk⟩ := okl_mem (comp_okl _) hz
    exact (nd_fit hk (can_stM cY.1 (by rw [cY.2]; exact rq_trees h _) z hz) h.a4).1
  · have cX := oX (by rw [h17]; rfl)
    obtain ⟨a1, a2, a3, a4⟩ := hok.act h17
    have hN := rq_nmd h x hm h17
    unfold badRd at h3
    rw [show (x.op == 17) = true by simpa using h17, cond_true] at h3
    have hq : decide (x.i ≥ (acts.length : Int)) = false := by
      cases hq : decide (x.i ≥ (acts.length : Int)) with
      | true => rw [hq] at h3; cases h3
      | false => rfl
    have hlt := of_decide_eq_false hq
    have hget : acts[x.i.toNat]? = some (acts.getD x.i.toNat noAct) := getD_mem (by omega)
    have hma := List.mem_of_getElem? hget
    obtain ⟨c1, c2, c3, c4⟩ := chk_ok (h.chk _ hma)
    have hrl := h.rel _ hma
    refine ⟨x.i.toNat, x.e.toNat, by omega, by omega, _, hget, rfl, hS _ hma, c1, hN, cX.1.check, fun hc => aft_ok (F := 8) c2 c3 (can_stM cX.1 ?_) hc⟩
    rw [cX.2, hrl]; exact rq_trees h _
theorem red_Reduce (acts : List Act) (f : List Nd) (hS : ∀ a, a ∈ acts → SmX a) : PureFn Tryz.prog 9 [actsPV acts, fpv f] (pairF (rdI acts f)) := by
  have hq := red_request acts f hS
  by_cases h0 : rqI acts f = 0
  · have hR := rq_ok h0
    have hF : rdI acts f = redF acts f := by rw [rdI, h0]; rfl
    rw [h0] at hq
    rw [hF, redF]
    have hlen := comp_len f
    have hpos := comp_pos hR.cf
    have hstep := fun i x l => rq_step (i := i) (x := x) (l := l) hS hR
    have htree := fun i x l => red_step (i := i) (x := x) (l := l) (comp_okl f) (rq_nmd hR)
    have hokl := comp_okl f
    refine PureFn.introC [8, 9] mixed (fn := Tryz.f9) rfl rfl rfl fun M w0 => ?_
    (try conv=>whnf);repeat' (first|(apply And.intro<;>try conv=>whnf)|(intro h;try conv=>whnf)|(refine PureFn.dcq (f := 27) rfl ?_;try conv=>whnf)|(refine PureFn.dcq (f := 24) rfl ?_;try conv=>whnf)|(refine ⟨_, _, hq, ?_, ?_⟩;(focus first|(refine ⟨?_, ?_, trivial⟩<;>first|exact PLe.refl _|exact PLe.nil)|exact trivial);try conv=>whnf)|(refine ⟨_, _, fm_Compact ?_, ?_, ?_⟩;rotate_left 1;(focus first|(refine ⟨?_, trivial⟩<;>first|exact PLe.refl _|exact PLe.nil)|exact trivial);try conv=>whnf)|fail)
    · exact absurd h (by decide)
    clear h
    generalize comp f = c at *
    refine ⟨{ q : Nat × List (List Nd) // q.1 ≤ c.length ∧ q.2.length = q.1 ∧ redE [] (stepR acts) c [] = redE [] (stepR acts) (c.drop q.1) q.2 ∧ ∀ (j : Nat) z, q.2[j]? = some z → TreesOk c (redT acts) j z },
      fun q => [(0, .pv (actsPV acts)), (7, .buf 0 (q.1.2.map fpv).length), (21, .pv (fpv c)), (22, .pv (.int .i64 (c.map Nd.pv).length)), (23, .pv (.int .i64 (q.1.1 : Nat)))], fun _ => 1, fun q => [(0, .arr 1 (q.1.2.map fpv))], fun q => c.length - q.1.1,
      ⟨⟨(0, []), Nat.zero_le _, rfl, rfl, fun j z h => by simp at h⟩, (by refine Wk.of ?_ ?_ rfl rfl rfl<;>repeat' (first|exact trivial|exact WkD.same _|exact WkD.new' rfl rfl rfl|exact WkO.new _ _ rfl|exact rfl|refine ⟨?_, ?_⟩|fail))⟩, ?_⟩
    rintro ⟨⟨i, l⟩, hi, hl, he, hQ⟩
    simp only at hi hl he hQ
    have hlm : (l.map fpv).length = i := by rw [List.length_map]; exact hl
    (try conv=>whnf);repeat' (first|(apply And.intro<;>try conv=>whnf)|(intro h;try conv=>whnf)|fail)
    · have hi' : i < c.length := by simpa using h
      obtain ⟨x, hx⟩ : ∃ x, c[i]? = some x := ⟨_, List.getElem?_eq_getElem hi'⟩
      have ok := hokl i x hx
      have hst := hstep i x l hx hl hQ
      have htr := htree i x l hx hl hQ
      have hrd := red_reduced acts x _ _ hst
      obtain ⟨X, hX⟩ : ∃ X, l.getD x.x.toNat [] = X := ⟨_, rfl⟩
      obtain ⟨Y, hY⟩ : ∃ Y, l.getD x.y.toNat [] = Y := ⟨_, rfl⟩
      have hh : stepR acts x (l.getD x.x.toNat []) (l.getD x.y.toNat []) = stepR acts x X Y := by rw [hX, hY]
      rw [hX, hY] at hrd htr
      refine ⟨Unit, fun _ => [(0, .pv (actsPV acts)), (7, .buf 0 (l.map fpv).length), (21, .pv (fpv c)), (22, .pv (.int .i64 (c.map Nd.pv).length)), (23, .pv (.int .i64 (i : Nat))), (9, .ref 1 0)], fun _ => 2, fun _ => [(0, .arr 1 (l.map fpv)), (1, .var x.dvs)], ?_, ?_⟩
      · (try conv=>whnf);repeat' (first|(apply And.intro<;>try conv=>whnf)|(apply infoT;rfl)|(refine ⟨_, _, rfl, idx_map (by with_reducible assumption), rfl, ?_⟩;try conv=>whnf)|fail)
        exact ⟨(), (by refine Wk.of ?_ ?_ rfl rfl rfl<;>repeat' (first|exact trivial|exact WkD.same _|exact WkO.same _ _ rfl|refine ⟨?_, ?_⟩|fail))⟩
      rintro ⟨⟩
      refine ⟨{ q : DV × DV // (q.1 = .pv (fpv X) ∧ q.2 = .pv (fpv Y)) }, fun q => [(0, .pv (actsPV acts)), (7, .buf 0 (l.map fpv).length), (21, .pv (fpv c)), (22, .pv (.int .i64 (c.map Nd.pv).length)), (23, .pv (.int .i64 (i : Nat))), (9, .ref 1 0), (10, q.1.1), (11, q.1.2)], fun _ => 2, fun _ => [(0, .arr 1 (l.map fpv)), (1, .var x.dvs)], ?_, ?_⟩
      · try conv=>whnf
        refine DC.call 1 [(0, .arr 1 (l.map fpv))] ⟨rfl, trivial⟩ rfl rfl rfl rfl fun M' => ?_
        refine op_own x l (by rw [hl]; exact ok) M' _ _ _ (fun e => ⟨rfl, ?_⟩) (fun e => ⟨rfl, ?_⟩)
        · subst e
          try conv=>whnf
          have e1 : X = [] := by rw [← hX]; rfl
          have e2 : Y = [] := by rw [← hY]; rfl
          refine ⟨⟨(.pv (fpv X), .pv (fpv Y)), rfl, rfl⟩, ?_⟩
          subst e1; subst e2
          (refine Wk.of ?_ ?_ rfl rfl rfl<;>repeat' (first|exact trivial|exact WkD.same _|exact WkO.same _ _ rfl|exact WkD.nil _ (Or.inl rfl)|refine ⟨?_, ?_⟩|fail))
        · try conv=>whnf
          refine ⟨⟨(.pv (fpv X), .pv (fpv Y)), rfl, rfl⟩, ?_⟩
          rw [hX, hY]
          (refine Wk.of ?_ ?_ rfl rfl rfl<;>repeat' (first|exact trivial|exact WkD.same _|exact WkO.same _ _ rfl|refine ⟨?_, ?_⟩|fail))
      rintro ⟨⟨dx, dy⟩, e1, e2⟩
      simp only at e1 e2
      subst e1; subst e2
      generalize stepR acts x X Y = z at hrd htr hh
      obtain ⟨z, e⟩ := z
      simp only at htr
      (try conv=>whnf);repeat' (first|(apply And.intro<;>try conv=>whnf)|(intro h;try conv=>whnf)|(apply cellsI;rfl)|(apply szI;rfl)|(refine PureFn.dcq (f := 29) rfl ?_;try conv=>whnf)|(refine ⟨_, _, hrd, ?_, ?_⟩;(focus first|(refine ⟨?_, ?_, ?_, ?_, trivial⟩<;>first|exact PLe.refl _|exact PLe.nil)|exact trivial);try conv=>whnf)|fail)
      · have hno := redE_no hx hh h
        have hE : lastF (redE [] (stepR acts) c []) = ([], e) := by rw [he, hno, lastF]; show (bif e != 0 then _ else _) = _; rw [show (e != 0) = true from h]; rfl
        rw [hE]; exact le_nilF _
      · show (l.map fpv).length + 1 ≤ 4294967296
        omega
      · have he0 : e = 0 := by simpa using h
        have hyes := redE_yes hx hh he0
        have hm := map_snoc (l := l) (z := z)
        refine ⟨⟨(i + 1, l ++ [z]), hi', by simp [hl], by rw [he, hyes], fun j y hy => ?_⟩, by show c.length - (i + 1) < c.length - i; omega, ?_⟩
        · rcases Nat.lt_or_ge j l.length with q | q
          · rw [List.getElem?_append_left q] at hy; exact hQ j y hy
          · rw [List.getElem?_append_right q] at hy
            have hj : j = l.length := by
              have := (List.getElem?_eq_some_iff.1 hy).1
              simp at this; omega
            subst hj
            simp at hy
            subst hy
            rw [hl]
            exact htr he0
        · (refine Wk.of ?_ ?_ rfl rfl rfl<;>repeat' (first|exact trivial|exact WkD.same _|exact WkD.eq (congrArg (fun z : List PV => DV.buf _ z.length) hm)|exact WkO.same _ _ (congrArg (fun z => some (DObj.arr _ z)) hm)|refine WkD.int ?_|refine ⟨?_, ?_⟩|(refine wrapA ?_ ?_ ?_;(focus simp;done);(focus (try dsimp only);omega);(focus (try dsimp only);omega))|fail))
    · have hi' : i = c.length := by have := ge_dec (m := (c.map Nd.pv).length) h (by simpa using hi); simpa using this
      subst hi'
      rw [redE_end] at he
      have hw : IntKind.wrap .i64 (((l.map fpv).length : Int) - 1) = ((l.length - 1 : Nat) : Int) := by
        rw [List.length_map]; exact wrapA (by omega) (by omega) (by omega)
      have hll : l.length = c.length := hl
      refine ⟨l.length - 1, hw, (show l.length - 1 < (l.map fpv).length by rw [List.length_map]; omega), ?_⟩
      (try conv=>whnf);repeat' (first|(apply And.intro<;>try conv=>whnf)|fail)
      refine ⟨_, fget (show l.length - 1 < l.length by omega), ?_⟩
      try conv=>whnf
      exact le_pairF (a := (l.getD (l.length - 1) [], 0)) (by rw [he]; rfl)
  · have hF : rdI acts f = ([], rqI acts f) := by rw [rdI, show (rqI acts f != 0) = true by simpa using h0]; rfl
    rw [hF]
    refine PureFn.intro mixed (fn := Tryz.f9) rfl rfl rfl fun M w0 => ?_
    (try conv=>whnf);repeat' (first|(apply And.intro<;>try conv=>whnf)|(intro h;try conv=>whnf)|(refine PureFn.dcq (f := 27) rfl ?_;try conv=>whnf)|(refine ⟨_, _, hq, ?_, ?_⟩;(focus first|(refine ⟨?_, ?_, trivial⟩<;>first|exact PLe.refl _|exact PLe.nil)|exact trivial);try conv=>whnf)|fail)
    · exact le_nilF _
    all_goals exact absurd (show rqI acts f = 0 by simpa using h) h0
end Go.Proofs.YtibbphifegibkaaGreatDoor
set_option maxRecDepth 100000
set_option maxHeartbeats 8000000
namespace Go.Proofs.YtibbphifegibkaaGreatDoor
open Go Go.Dv

def lenR (a : Act) : Bool := bif bif decide ((a.pre.length : Int) > 10) then true else decide ((a.post.length : Int) > 10) then true else decide ((a.rel.length : Int) > 6)
def rowsR (l : List (List Nat)) : Bool := l.any fun r => decide ((r.length : Int) > 12)
def badR (a : Act) : Bool := bif lenR a then true else bif preB 40 a.pre then true else bif postB 40 a.post then true else rowsR a.rel
def fewR (acts : List Act) : Bool := bif decide ((acts.length : Int) > 10) then false else !acts.any badR
theorem fewR_ok {acts : List Act} (h : fewR acts = true) : acts.length ≤ 10 ∧ ∀ a, a ∈ acts → a.pre.length ≤ 10 ∧ a.post.length ≤ 10 ∧ a.rel.length ≤ 6 ∧ (∀ f, f ∈ a.pre → f.length ≤ 40) ∧ ∀ l, l ∈ a.post → l.length ≤ 12 := by
  unfold fewR at h
  cases h1 : decide ((acts.length : Int) > 10) with
  | true => rw [h1] at h; cases h
  | false =>
    rw [h1, cond_false] at h
    have := of_decide_eq_false h1
    refine ⟨by omega, fun a ha => ?_⟩
    have hb : badR a = false := by
      have := List.any_eq_false.1 (show acts.any badR = false by simpa using h) a ha
      simpa using this
    unfold badR at hb
    cases h2 : lenR a with
    | true => rw [h2] at hb; cases hb
    | false =>
      rw [h2, cond_false] at hb
      cases h3 : preB 40 a.pre with
      | true => rw [h3] at hb; cases hb
      | false =>
        rw [h3, cond_false] at hb
        cases h4 : postB 40 a.post with
        | true => rw [h4] at hb; cases hb
        | false =>
          unfold lenR at h2
          cases q1 : decide ((a.pre.length : Int) > 10) with
          | true => rw [q1] at h2; cases h2
          | false =>
            cases q2 : decide ((a.post.length : Int) > 10) with
            | true => rw [q1, q2] at h2; cases h2
            | false =>
              rw [q1, q2] at h2
              have g1 := of_decide_eq_false q1
              have g2 := of_decide_eq_false q2
              have g3 := of_decide_eq_false (show decide ((a.rel.length : Int) > 6) = false from h2)
              refine ⟨by omega, by omega, by omega, fun f hf => ?_, fun l hl => ?_⟩
              · have := List.any_eq_false.1 h3 f hf
                have := of_decide_eq_false (show decide ((f.length : Int) > 40) = false by simpa using this)
                omega
              · have := List.any_eq_false.1 h4 l hl
                cases q : decide ((l.length : Int) > 12) with
                | true => rw [q] at this; exact absurd rfl this
                | false => have := of_decide_eq_false q; omega
theorem rd_Few (acts : List Act) : PureFn Tryz.prog 22 [actsPV acts] (.bool (fewR acts)) := by
  have e0 : ((acts.map Act.pv).length : Int) = (acts.length : Int) := by simp
  refine PureFn.introC [8, 13, 23] mixed (fn := Tryz.f22) rfl rfl rfl fun M w0 => ?_
  (try conv=>whnf);repeat' (first|(apply And.intro<;>try conv=>whnf)|(intro h;try conv=>whnf)|fail)
  · rw [fewR, ← e0, show decide (((acts.map Act.pv).length : Int) > 10) = true from h]; exact .refl _
  rw [show fewR acts = !acts.any badR by rw [fewR, ← e0, show decide (((acts.map Act.pv).length : Int) > 10) = false from h]; rfl]
  have hal : acts.length ≤ 10 := by have := of_decide_eq_false h; simp at this; omega
  clear h
  refine ⟨{ i : Nat // i ≤ acts.length ∧ (acts.take i).any badR = false }, fun i => [(0, .pv (actsPV acts)), (3, .pv (i64 i.1))], fun _ => 0, fun _ => [], fun i => acts.length - i.1, ⟨⟨0, Nat.zero_le _, rfl⟩, (by refine Wk.of ?_ ?_ rfl rfl rfl<;>repeat' (first|exact trivial|exact WkD.same _|refine ⟨?_, ?_⟩|fail))⟩, ?_⟩
  rintro ⟨i, hi, hb⟩
  (try conv=>whnf);repeat' (first|(apply And.intro<;>try conv=>whnf)|(intro h;try conv=>whnf)|fail)
  · have hi' : i < acts.length := by simpa using lt_dec h
    have hat := any_at (p := badR) hi'
    have htk := any_take (p := badR) hi' hb
    obtain ⟨a, hn, hr⟩ : ∃ a, acts[i]? = some a ∧ acts[i] = a := ⟨_, List.getElem?_eq_getElem hi', rfl⟩
    rw [hr] at hat htk
    have e1 : ((a.pre.map fpv).length : Int) = (a.pre.length : Int) := by simp
    have e2 : ((a.post.map postPV).length : Int) = (a.post.length : Int) := by simp
    have e3 : ((a.rel.map rowPV).length : Int) = (a.rel.length : Int) := by simp
    clear h
    refine ⟨{ _x : Unit // lenR a = false }, fun _ => [(0, .pv (actsPV acts)), (3, .pv (i64 i))], fun _ => 0, fun _ => [], ?_, ?_⟩
    · (try conv=>whnf);repeat' (first|(apply And.intro<;>try conv=>whnf)|(intro h;try conv=>whnf)|apply True.intro|(apply infoT;rfl)|(apply WhenQ.mk;(try conv=>whnf);rotate_left;(try conv=>whnf);rotate_right)|with_reducible assumption|(apply not_of;with_reducible assumption)|(refine ⟨_, _, rfl, idx_map (by with_reducible assumption), rfl, ?_⟩;try conv=>whnf)|fail)
      · have h9 : lenR a = true := by rw [lenR, ← e1, ← e2, ← e3]; exact h
        rw [hat (by rw [badR, h9]; rfl)]; exact .refl _
      · exact ⟨⟨(), by rw [lenR, ← e1, ← e2, ← e3]; exact h⟩, (by refine Wk.of ?_ ?_ rfl rfl rfl<;>repeat' (first|exact trivial|exact WkD.same _|refine ⟨?_, ?_⟩|fail))⟩
    rintro ⟨_, h1⟩
    have hb1 : a.pre.length ≤ 10 ∧ a.post.length ≤ 10 ∧ a.rel.length ≤ 6 := by
      unfold lenR at h1
      cases q1 : decide ((a.pre.length : Int) > 10) with
      | true => rw [q1] at h1; cases h1
      | false =>
        cases q2 : decide ((a.post.length : Int) > 10) with
        | true => rw [q1, q2] at h1; cases h1
        | false =>
          rw [q1, q2] at h1
          have g1 := of_decide_eq_false q1
          have g2 := of_decide_eq_false q2
          have g3 := of_decide_eq_false (show decide ((a.rel.length : Int) > 6) = false from h1)
          exact ⟨by omega, by omega, by omega⟩
    refine ⟨{ _x : Unit // preB 40 a.pre = false }, fun _ => [(0, .pv (actsPV acts)), (3, .pv (i64 i))], fun _ => 0, fun _ => [], ?_, ?_⟩
    · try conv=>whnf
      refine ⟨{ k : Nat // k ≤ a.pre.length ∧ preB 40 (a.pre.take k) = false }, fun k => [(0, .pv (actsPV acts)), (3, .pv (i64 i)), (4, .pv (i64 k.1))], fun _ => 0, fun _ => [], fun k => a.pre.length - k.1, ⟨⟨0, Nat.zero_le _, rfl⟩, (by refine Wk.of ?_ ?_ rfl rfl rfl<;>repeat' (first|exact trivial|exact WkD.same _|refine ⟨?_, ?_⟩|fail))⟩, ?_⟩
      rintro ⟨k, hk, hc⟩
      (try conv=>whnf);repeat' (first|(apply And.intro<;>try conv=>whnf)|(intro h;try conv=>whnf)|(apply infoT;rfl)|(refine ⟨_, _, rfl, idx_map (by with_reducible assumption), rfl, ?_⟩;try conv=>whnf)|fail)
      · have hk' : k < a.pre.length := by simpa using lt_dec h
        have hkn : a.pre[k]? = some a.pre[k] := List.getElem?_eq_getElem hk'
        have e4 : ((a.pre[k].map Nd.pv).length : Int) = (a.pre[k].length : Int) := by simp
        (try conv=>whnf);repeat' (first|(apply And.intro<;>try conv=>whnf)|(intro h;try conv=>whnf)|(refine ⟨_, _, rfl, idx_map (by with_reducible assumption), rfl, ?_⟩;try conv=>whnf)|fail)
        · have h9 : preB 40 a.pre = true := any_at (p := fun f : List Nd => decide ((f.length : Int) > 40)) hk' (by rw [← e4]; exact h)
          rw [hat (by rw [badR, h1, h9]; rfl)]; exact .refl _
        · exact ⟨⟨k + 1, hk', any_take (p := fun f : List Nd => decide ((f.length : Int) > 40)) hk' hc (by rw [← e4]; exact h)⟩, by show a.pre.length - (k + 1) < a.pre.length - k; omega, (by refine Wk.of ?_ ?_ rfl rfl rfl<;>repeat' (first|exact trivial|exact WkD.same _|refine WkD.int ?_|refine ⟨?_, ?_⟩|(refine wrapA ?_ ?_ ?_;(focus simp;done);(focus (try dsimp only);omega);(focus (try dsimp only);omega))|fail))⟩
      · have hk' : k = a.pre.length := by have := ge_dec (m := (a.pre.map fpv).length) h (by simpa using hk); simpa using this
        subst hk'
        rw [List.take_length] at hc
        exact ⟨⟨(), hc⟩, (by refine Wk.of ?_ ?_ rfl rfl rfl<;>repeat' (first|exact trivial|exact WkD.same _|refine ⟨?_, ?_⟩|fail))⟩
    rintro ⟨_, h2⟩
    refine ⟨{ _x : Unit // postB 40 a.post = false }, fun _ => [(0, .pv (actsPV acts)), (3, .pv (i64 i))], fun _ => 0, fun _ => [], ?_, ?_⟩
    · try conv=>whnf
      refine ⟨{ k : Nat // k ≤ a.post.length ∧ postB 40 (a.post.take k) = false }, fun k => [(0, .pv (actsPV acts)), (3, .pv (i64 i)), (5, .pv (i64 k.1))], fun _ => 0, fun _ => [], fun k => a.post.length - k.1, ⟨⟨0, Nat.zero_le _, rfl⟩, (by refine Wk.of ?_ ?_ rfl rfl rfl<;>repeat' (first|exact trivial|exact WkD.same _|refine ⟨?_, ?_⟩|fail))⟩, ?_⟩
      rintro ⟨k, hk, hc⟩
      (try conv=>whnf);repeat' (first|(apply And.intro<;>try conv=>whnf)|(intro h;try conv=>whnf)|(apply infoT;rfl)|(refine ⟨_, _, rfl, idx_map (by with_reducible assumption), rfl, ?_⟩;try conv=>whnf)|fail)
      · have hk' : k < a.post.length := by simpa using lt_dec h
        have hat2 := any_at (p := fun l : List Asg => bif decide ((l.length : Int) > 12) then true else asgB 40 l) hk'
        have htk2 := any_take (p := fun l : List Asg => bif decide ((l.length : Int) > 12) then true else asgB 40 l) hk' hc
        obtain ⟨l, hkn, hkr⟩ : ∃ l, a.post[k]? = some l ∧ a.post[k] = l := ⟨_, List.getElem?_eq_getElem hk', rfl⟩
        rw [hkr] at hat2 htk2
        have e4 : ((l.map Asg.pv).length : Int) = (l.length : Int) := by simp
        (try conv=>whnf);repeat' (first|(apply And.intro<;>try conv=>whnf)|(intro h;try conv=>whnf)|(refine ⟨_, _, rfl, idx_map (by with_reducible assumption), rfl, ?_⟩;try conv=>whnf)|fail)
        · have h9 : decide ((l.length : Int) > 12) = true := by rw [← e4]; exact h
          rw [hat (by rw [badR, h1, h2, show postB 40 a.post = true from hat2 (by rw [h9]; rfl)]; rfl)]; exact .refl _
        have h9 : decide ((l.length : Int) > 12) = false := by rw [← e4]; exact h
        have hll : l.length ≤ 12 := by have := of_decide_eq_false h9; omega
        refine ⟨{ j : Nat // j ≤ l.length ∧ asgB 40 (l.take j) = false }, fun j => [(0, .pv (actsPV acts)), (3, .pv (i64 i)), (5, .pv (i64 k)), (6, .pv (i64 j.1))], fun _ => 0, fun _ => [], fun j => l.length - j.1, ⟨⟨0, Nat.zero_le _, rfl⟩, (by refine Wk.of ?_ ?_ rfl rfl rfl<;>repeat' (first|exact trivial|exact WkD.same _|refine ⟨?_, ?_⟩|fail))⟩, ?_⟩
        rintro ⟨j, hj, hd⟩
        (try conv=>whnf);repeat' (first|(apply And.intro<;>try conv=>whnf)|(intro h;try conv=>whnf)|(apply infoT;rfl)|(refine ⟨_, _, rfl, idx_map (by with_reducible assumption), rfl, ?_⟩;try conv=>whnf)|fail)
        · have hj' : j < l.length := by simpa using lt_dec h
          have hm : l[j]? = some l[j] := List.getElem?_eq_getElem hj'
          have e5 : ((l[j].to.map Nd.pv).length : Int) = (l[j].to.length : Int) := by simp
          (try conv=>whnf);repeat' (first|(apply And.intro<;>try conv=>whnf)|(intro h;try conv=>whnf)|(refine ⟨_, _, rfl, idx_map (by with_reducible assumption), rfl, ?_⟩;try conv=>whnf)|fail)
          · have h7 : asgB 40 l = true := any_at (p := fun p : Asg => decide ((p.to.length : Int) > 40)) hj' (by rw [← e5]; exact h)
            rw [hat (by rw [badR, h1, h2, show postB 40 a.post = true from hat2 (by rw [h9, h7]; rfl)]; rfl)]; exact .refl _
          · exact ⟨⟨j + 1, hj', any_take (p := fun p : Asg => decide ((p.to.length : Int) > 40)) hj' hd (by rw [← e5]; exact h)⟩, by show l.length - (j + 1) < l.length - j; omega, (by refine Wk.of ?_ ?_ rfl rfl rfl<;>repeat' (first|exact trivial|exact WkD.same _|refine WkD.int ?_|refine ⟨?_, ?_⟩|(refine wrapA ?_ ?_ ?_;(focus simp;done);(focus (try dsimp only);omega);(focus (try dsimp only);omega))|fail))⟩
        · have hj' : j = l.length := by have := ge_dec (m := (l.map Asg.pv).length) h (by simpa using hj); simpa using this
          subst hj'
          rw [List.take_length] at hd
          exact ⟨⟨k + 1, hk', htk2 (by rw [h9, hd]; rfl)⟩, by show a.post.length - (k + 1) < a.post.length - k; omega, (by refine Wk.of ?_ ?_ rfl rfl rfl<;>repeat' (first|exact trivial|exact WkD.same _|refine WkD.int ?_|refine ⟨?_, ?_⟩|(refine wrapA ?_ ?_ ?_;(focus simp;done);(focus (try dsimp only);omega);(focus (try dsimp only);omega))|fail))⟩
      · have hk' : k = a.post.length := by have := ge_dec (m := (a.post.map postPV).length) h (by simpa using hk); simpa using this
        subst hk'
        rw [List.take_length] at hc
        exact ⟨⟨(), hc⟩, (by refine Wk.of ?_ ?_ rfl rfl rfl<;>repeat' (first|exact trivial|exact WkD.same _|refine ⟨?_, ?_⟩|fail))⟩
    rintro ⟨_, h3⟩
    try conv=>whnf
    refine ⟨{ k : Nat // k ≤ a.rel.length ∧ rowsR (a.rel.take k) = false }, fun k => [(0, .pv (actsPV acts)), (3, .pv (i64 i)), (7, .pv (i64 k.1))], fun _ => 0, fun _ => [], fun k => a.rel.length - k.1, ⟨⟨0, Nat.zero_le _, rfl⟩, (by refine Wk.of ?_ ?_ rfl rfl rfl<;>repeat' (first|exact trivial|exact WkD.same _|refine ⟨?_, ?_⟩|fail))⟩, ?_⟩
    rintro ⟨k, hk, hc⟩
    (try conv=>whnf);repeat' (first|(apply And.intro<;>try conv=>whnf)|(intro h;try conv=>whnf)|(apply infoT;rfl)|(refine ⟨_, _, rfl, idx_map (by with_reducible assumption), rfl, ?_⟩;try conv=>whnf)|fail)
    · have hk' : k < a.rel.length := by simpa using lt_dec h
      have hkn : a.rel[k]? = some a.rel[k] := List.getElem?_eq_getElem hk'
      have e4 : ((a.rel[k].map u64).length : Int) = (a.rel[k].length : Int) := by simp
      (try conv=>whnf);repeat' (first|(apply And.intro<;>try conv=>whnf)|(intro h;try conv=>whnf)|(refine ⟨_, _, rfl, idx_map (by with_reducible assumption), rfl, ?_⟩;try conv=>whnf)|fail)
      · have h9 : rowsR a.rel = true := any_at (p := fun r : List Nat => decide ((r.length : Int) > 12)) hk' (by rw [← e4]; exact h)
        rw [hat (by rw [badR, h1, h2, h3, h9]; rfl)]; exact .refl _
      · exact ⟨⟨k + 1, hk', any_take (p := fun r : List Nat => decide ((r.length : Int) > 12)) hk' hc (by rw [← e4]; exact h)⟩, by show a.rel.length - (k + 1) < a.rel.length - k; omega, (by refine Wk.of ?_ ?_ rfl rfl rfl<;>repeat' (first|exact trivial|exact WkD.same _|refine WkD.int ?_|refine ⟨?_, ?_⟩|(refine wrapA ?_ ?_ ?_;(focus simp;done);(focus (try dsimp only);omega);(focus (try dsimp only);omega))|fail))⟩
    · have hk' : k = a.rel.length := by have := ge_dec (m := (a.rel.map rowPV).length) h (by simpa using hk); simpa using this
      subst hk'
      rw [List.take_length] at hc
      exact ⟨⟨i + 1, hi', htk (by rw [badR, h1, h2, h3, hc]; rfl)⟩, by show acts.length - (i + 1) < acts.length - i; omega, (by refine Wk.of ?_ ?_ rfl rfl rfl<;>repeat' (first|exact trivial|exact WkD.same _|refine WkD.int ?_|refine ⟨?_, ?_⟩|(refine wrapA ?_ ?_ ?_;(focus simp;done);(focus (try dsimp only);omega);(focus (try dsimp only);omega))|fail))⟩
  · have hi' : i = acts.length := by have := ge_dec (m := (acts.map Act.pv).length) h (by simpa using hi); simpa using this
    subst hi'
    rw [List.take_length] at hb
    rw [hb]; exact .refl _
end Go.Proofs.YtibbphifegibkaaGreatDoor
set_option maxRecDepth 100000
set_option maxHeartbeats 8000000
namespace Go.Proofs.YtibbphifegibkaaGreatDoor
open Go Go.Dv

def longL (l : List (List Nd)) : Bool := l.any fun f => decide ((f.length : Int) > 40)
def fewL (acts : List Act) (l : List (List Nd)) : Bool := bif longL l then false else fewR acts
theorem rl_few (acts : List Act) (l : List (List Nd)) (hl : l.length ≤ 1000) : PureFn Tryz.prog 6 [actsPV acts, .sl (l.map fpv)] (.bool (fewL acts l)) := by
  have hF := rd_Few acts
  refine PureFn.intro mixed (fn := Tryz.f6) rfl rfl rfl fun M w0 => ?_
  try conv=>whnf
  refine ⟨{ i : Nat // i ≤ l.length ∧ longL (l.take i) = false }, fun i => [(0, .pv (actsPV acts)), (7, .pv (.sl (l.map fpv))), (8, .pv (i64 (l.map fpv).length)), (9, .pv (i64 i.1))], fun _ => 0, fun _ => [], fun i => l.length - i.1, ⟨⟨0, Nat.zero_le _, rfl⟩, (by refine Wk.of ?_ ?_ rfl rfl rfl<;>repeat' (first|exact trivial|exact WkD.same _|refine ⟨?_, ?_⟩|fail))⟩, ?_⟩
  rintro ⟨i, hi, ha⟩
  (try conv=>whnf);repeat' (first|(apply And.intro<;>try conv=>whnf)|(intro h;try conv=>whnf)|(apply infoT;rfl)|fail)
  · have hi' : i < l.length := by simpa using lt_dec h
    have hm : l[i]? = some l[i] := List.getElem?_eq_getElem hi'
    have ef : ((l[i].map Nd.pv).length : Int) = (l[i].length : Int) := by simp
    (try conv=>whnf);repeat' (first|(apply And.intro<;>try conv=>whnf)|(intro h;try conv=>whnf)|(refine ⟨_, _, rfl, idx_map (by with_reducible assumption), rfl, ?_⟩;try conv=>whnf)|fail)
    · rw [ef] at h
      have : longL l = true := any_at hi' h
      rw [fewL, this]; exact .refl _
    · rw [ef] at h
      exact ⟨⟨i + 1, hi', any_take hi' ha h⟩, by show l.length - (i + 1) < l.length - i; omega, (by refine Wk.of ?_ ?_ rfl rfl rfl<;>repeat' (first|exact trivial|exact WkD.same _|refine WkD.int ?_|refine ⟨?_, ?_⟩|(refine wrapA ?_ ?_ ?_;(focus simp;done);(focus (try dsimp only);omega);(focus (try dsimp only);omega))|fail))⟩
  · have hi' : i = l.length := by have := ge_dec (m := (l.map fpv).length) h (by simpa using hi); simpa using this
    subst hi'
    rw [List.take_length] at ha
    rw [fewL, ha]
    (try conv=>whnf);repeat' (first|(refine PureFn.dcq (f := 22) rfl ?_;try conv=>whnf)|(refine ⟨_, _, hF, ?_, ?_⟩;(focus first|(refine ⟨?_, trivial⟩<;>first|exact PLe.refl _|exact PLe.nil)|exact trivial);try conv=>whnf)|fail)
    exact .refl _
theorem few_len {acts : List Act} {l : List (List Nd)} (h : fewL acts l = true) : fewR acts = true ∧ ∀ f, f ∈ l → f.length ≤ 40 := by
  unfold fewL at h
  cases h1 : longL l with
  | true => rw [h1] at h; cases h
  | false =>
    rw [h1] at h
    refine ⟨h, fun f hf => ?_⟩
    have := List.any_eq_false.1 h1 f hf
    have := of_decide_eq_false (show decide ((f.length : Int) > 40) = false by simpa using this)
    omega
theorem awS {a : Act} (h1 : (a.rel.all fun r => r.all fun s => decide (s < 2 ^ 64)) = true) (h2 : a.rel.length ≤ 1000) (h3 : (a.post.all fun l => decide (l.length ≤ 1000)) = true) : SmX a := by
  refine ⟨fun r hr s hs => ?_, h2, fun l hl => ?_⟩
  · have := List.all_eq_true.1 (List.all_eq_true.1 h1 r hr) s hs
    simpa using this
  · simpa using List.all_eq_true.1 h3 l hl
theorem pair_of {a : List Nd × Int} {z : List Nd} {e : Int} (h1 : z = a.1) (h2 : a.2 = e) : a = (z, e) := by
  obtain ⟨x, y⟩ := a
  simp only at h1 h2
  rw [h1, h2]
theorem rl_awake : PureFn Tryz.prog 5 [] (.bool true) := by
  obtain ⟨P, qP⟩ : ∃ z : List Nd, z = buildL (nI 3 0) [] := ⟨_, rfl⟩
  have hP := fm_Fact 0
  rw [← qP] at hP
  obtain ⟨Q, qQ⟩ : ∃ z : List Nd, z = buildL (nI 3 1) [] := ⟨_, rfl⟩
  have hQ := fm_Fact 1
  rw [← qQ] at hQ
  obtain ⟨Y, qY⟩ : ∃ z : List Nd, z = buildL (n0 1) [] := ⟨_, rfl⟩
  have hY := fm_True
  rw [← qY] at hY
  obtain ⟨K, qK⟩ : ∃ z : List Nd, z = buildL (nI 9 0) [Q] := ⟨_, rfl⟩
  have hK := fm_Know 0 Q
  rw [← qK] at hK
  obtain ⟨C3, qC3⟩ : ∃ z : List Nd, z = buildL (nG 13 3) [Y, Q] := ⟨_, rfl⟩
  have hC3 := fm_Common 3 Y Q
  rw [← qC3] at hC3
  obtain ⟨C1, qC1⟩ : ∃ z : List Nd, z = buildL (nG 13 1) [Y, Q] := ⟨_, rfl⟩
  have hC1 := fm_Common 1 Y Q
  rw [← qC1] at hC1
  obtain ⟨PQ, qPQ⟩ : ∃ z : List Nd, z = buildL (n0 7) [P, Q] := ⟨_, rfl⟩
  have hPQ := fm_Imp P Q
  rw [← qPQ] at hPQ
  obtain ⟨K2, qK2⟩ : ∃ z : List Nd, z = buildL (nI 9 0) [PQ] := ⟨_, rfl⟩
  have hK2 := fm_Know 0 PQ
  rw [← qK2] at hK2
  obtain ⟨F1, qF1⟩ : ∃ z : List Nd, z = buildL (n0 7) [P, K2] := ⟨_, rfl⟩
  have hF1 := fm_Imp P K2
  rw [← qF1] at hF1
  obtain ⟨PY, qPY⟩ : ∃ z : List Nd, z = buildL (n0 7) [P, Y] := ⟨_, rfl⟩
  have hPY := fm_Imp P Y
  rw [← qPY] at hPY
  obtain ⟨AY, qAY⟩ : ∃ z : List Nd, z = buildL (n0 5) [P, PY] := ⟨_, rfl⟩
  have hAY := fm_And P PY
  rw [← qAY] at hAY
  obtain ⟨CA, qCA⟩ : ∃ z : List Nd, z = buildL (nG 13 3) [AY, PQ] := ⟨_, rfl⟩
  have hCA := fm_Common 3 AY PQ
  rw [← qCA] at hCA
  obtain ⟨F2, qF2⟩ : ∃ z : List Nd, z = buildL (n0 7) [P, CA] := ⟨_, rfl⟩
  have hF2 := fm_Imp P CA
  rw [← qF2] at hF2
  obtain ⟨YQ, qYQ⟩ : ∃ z : List Nd, z = buildL (n0 7) [Y, Q] := ⟨_, rfl⟩
  have hYQ := fm_Imp Y Q
  rw [← qYQ] at hYQ
  obtain ⟨K3, qK3⟩ : ∃ z : List Nd, z = buildL (nI 9 0) [YQ] := ⟨_, rfl⟩
  have hK3 := fm_Know 0 YQ
  rw [← qK3] at hK3
  obtain ⟨A4, qA4⟩ : ∃ z : List Nd, z = buildL (n0 5) [K2, K3] := ⟨_, rfl⟩
  have hA4 := fm_And K2 K3
  rw [← qA4] at hA4
  obtain ⟨F4, qF4⟩ : ∃ z : List Nd, z = buildL (n0 7) [Y, A4] := ⟨_, rfl⟩
  have hF4 := fm_Imp Y A4
  rw [← qF4] at hF4
  obtain ⟨T0, qT0⟩ : ∃ z : List Nd, z = buildL ⟨17, 0, 0, 0, 0, 0⟩ [Q] := ⟨_, rfl⟩
  have hT0 := fm_Act 0 0 Q
  rw [← qT0] at hT0
  obtain ⟨T1, qT1⟩ : ∃ z : List Nd, z = buildL (n0 16) [P, T0] := ⟨_, rfl⟩
  have hT1 := fm_Announce P T0
  rw [← qT1] at hT1
  obtain ⟨T2, qT2⟩ : ∃ z : List Nd, z = buildL ⟨17, 0, 0, 0, 0, 0⟩ [C1] := ⟨_, rfl⟩
  have hT2 := fm_Act 0 0 C1
  rw [← qT2] at hT2
  obtain ⟨A, qA⟩ : ∃ a : Act, a = ⟨[P, Y], [[], []], [[1, 3]]⟩ := ⟨_, rfl⟩
  have hSA : SmX A := by rw [qA]; exact awS rfl (by simp) rfl
  obtain ⟨RA, qRA⟩ : ∃ z : List Nd, z = (rnnI P K).1 := ⟨_, rfl⟩
  have hRA := red_Announced P K
  rw [pair_of qRA (e := 0) (by rw [qK, qQ, qP]; kernel_rfl)] at hRA
  obtain ⟨RB, qRB⟩ : ∃ z : List Nd, z = (rnnI P C3).1 := ⟨_, rfl⟩
  have hRB := red_Announced P C3
  rw [pair_of qRB (e := 0) (by rw [qC3, qY, qQ, qP]; kernel_rfl)] at hRB
  obtain ⟨RC, qRC⟩ : ∃ z : List Nd, z = (aftI A 0 K).1 := ⟨_, rfl⟩
  have hRC := red_After A 0 K hSA
  rw [pair_of qRC (e := 0) (by rw [qA, qK, qY, qQ, qP]; kernel_rfl)] at hRC
  obtain ⟨RD, qRD⟩ : ∃ z : List Nd, z = (aftI A 1 K).1 := ⟨_, rfl⟩
  have hRD := red_After A 1 K hSA
  rw [pair_of qRD (e := 0) (by rw [qA, qK, qY, qQ, qP]; kernel_rfl)] at hRD
  have hSL : ∀ a, a ∈ [A] → SmX a := fun a ha => by rw [List.mem_singleton.1 ha]; exact hSA
  obtain ⟨RX, qRX⟩ : ∃ z : List Nd, z = (rdI [A] T1).1 := ⟨_, rfl⟩
  have hRX := red_Reduce [A] T1 hSL
  rw [pair_of qRX (e := 0) (by rw [qA, qT1, qT0, qY, qQ, qP]; kernel_rfl)] at hRX
  obtain ⟨RJ, qRJ⟩ : ∃ z : List Nd, z = (rdI [A] T2).1 := ⟨_, rfl⟩
  have hRJ := red_Reduce [A] T2 hSL
  rw [pair_of qRJ (e := 10) (by rw [qA, qT2, qC1, qY, qQ, qP]; kernel_rfl)] at hRJ
  obtain ⟨RY, qRY⟩ : ∃ z : List Nd, z = (rnnI P PQ).1 := ⟨_, rfl⟩
  have hRY := red_Announced P PQ
  rw [pair_of qRY (e := 0) (by rw [qPQ, qQ, qP]; kernel_rfl)] at hRY
  have s1 := (fm_Same RA F1).to (q := .bool true) (by rw [qRA, qF1, qK2, qK, qPQ, qQ, qP]; kernel_rfl)
  have s2 := (fm_Same RB F2).to (q := .bool true) (by rw [qRB, qF2, qCA, qAY, qPY, qC3, qPQ, qY, qQ, qP]; kernel_rfl)
  have s3 := (fm_Same RC F1).to (q := .bool true) (by rw [qRC, qF1, qA, qK2, qK, qPQ, qY, qQ, qP]; kernel_rfl)
  have s4 := (fm_Same RD F4).to (q := .bool true) (by rw [qRD, qF4, qA4, qK3, qYQ, qA, qK2, qK, qPQ, qY, qQ, qP]; kernel_rfl)
  have s5 := (fm_Same RX RY).to (q := .bool true) (by rw [qRX, qRY, qA, qT1, qT0, qPQ, qY, qQ, qP]; kernel_rfl)
  have hpv : A.pv = .agg [.sl [fpv P, fpv Y], .sl [.sl [], .sl []], .sl [.sl [u64 1, u64 3]]] := by rw [qA]; rfl
  have le1 : PLe (.agg [.sl [fpv P, fpv Y], .sl [.nil, .nil], .sl [.sl [u64 1, u64 3]]]) A.pv := by
    rw [hpv]
    refine .agg _ _ rfl fun i p q hp hq => ?_
    match i, hp, hq with
    | 0, hp, hq => cases hp; cases hq; exact .refl _
    | 1, hp, hq =>
      cases hp; cases hq
      refine .sl _ _ rfl fun j p q hp hq => ?_
      match j, hp, hq with
      | 0, hp, hq => cases hp; cases hq; exact .nil
      | 1, hp, hq => cases hp; cases hq; exact .nil
      | _ + 2, hp, _ => simp at hp
    | 2, hp, hq => cases hp; cases hq; exact .refl _
    | _ + 3, hp, _ => simp at hp
  have le2 : PLe (.sl [.agg [.sl [fpv P, fpv Y], .sl [.nil, .nil], .sl [.sl [u64 1, u64 3]]]]) (actsPV [A]) := .sl _ _ rfl fun i p q hp hq => by
    match i, hp, hq with
    | 0, hp, hq => cases hp; cases hq; exact le1
    | _ + 1, hp, _ => simp at hp
  have hRC := hRC.le (ps := [.agg [.sl [fpv P, fpv Y], .sl [.nil, .nil], .sl [.sl [u64 1, u64 3]]], .int .i64 0, fpv K]) ⟨le1, .refl _, .refl _, trivial⟩
  have hRD := hRD.le (ps := [.agg [.sl [fpv P, fpv Y], .sl [.nil, .nil], .sl [.sl [u64 1, u64 3]]], .int .i64 1, fpv K]) ⟨le1, .refl _, .refl _, trivial⟩
  have hRX := hRX.le (ps := [.sl [.agg [.sl [fpv P, fpv Y], .sl [.nil, .nil], .sl [.sl [u64 1, u64 3]]]], fpv T1]) ⟨le2, .refl _, trivial⟩
  have hRJ := hRJ.le (ps := [.sl [.agg [.sl [fpv P, fpv Y], .sl [.nil, .nil], .sl [.sl [u64 1, u64 3]]]], fpv T2]) ⟨le2, .refl _, trivial⟩
  clear le1 le2 hpv hSA hSL
  refine PureFn.introC [2, 3, 4, 5, 6, 7, 8, 9, 10, 11, 12] mixed (fn := Tryz.f5) rfl rfl rfl fun M w0 => ?_
  try conv=>whnf
  refine ⟨Unit, fun _ => [(1, .pv (fpv P)), (2, .pv (fpv Q)), (3, .pv (fpv Y))], fun _ => 0, fun _ => [], ?_, ?_⟩
  · (try conv=>whnf);repeat' (first|(refine PureFn.dcq (f := 13) rfl ?_;try conv=>whnf)|(refine PureFn.dcq (f := 14) rfl ?_;try conv=>whnf)|(refine ⟨_, _, hP, ?_, ?_⟩;(focus first|(refine ⟨?_, trivial⟩<;>first|exact PLe.refl _|exact PLe.nil)|exact trivial);try conv=>whnf)|(refine ⟨_, _, hQ, ?_, ?_⟩;(focus first|(refine ⟨?_, trivial⟩<;>first|exact PLe.refl _|exact PLe.nil)|exact trivial);try conv=>whnf)|(refine ⟨_, _, hY, ?_, ?_⟩;(focus first|(refine ⟨trivial⟩<;>first|exact PLe.refl _|exact PLe.nil)|exact trivial);try conv=>whnf)|fail)
    exact ⟨(), (by refine Wk.of ?_ ?_ rfl rfl rfl<;>repeat' (first|exact trivial|exact WkD.same _|refine ⟨?_, ?_⟩|fail))⟩
  rintro ⟨⟩
  refine ⟨Unit, fun _ => [(1, .pv (fpv P)), (2, .pv (fpv Q)), (3, .pv (fpv Y)), (4, .pv (fpv RA)), (5, .pv (.int .i64 0))], fun _ => 0, fun _ => [], ?_, ?_⟩
  · (try conv=>whnf);repeat' (first|(refine PureFn.dcq (f := 15) rfl ?_;try conv=>whnf)|(refine PureFn.dcq (f := 11) rfl ?_;try conv=>whnf)|(refine ⟨_, _, hK, ?_, ?_⟩;(focus first|(refine ⟨?_, ?_, trivial⟩<;>first|exact PLe.refl _|exact PLe.nil)|exact trivial);try conv=>whnf)|(refine ⟨_, _, hRA, ?_, ?_⟩;(focus first|(refine ⟨?_, ?_, trivial⟩<;>first|exact PLe.refl _|exact PLe.nil)|exact trivial);try conv=>whnf)|fail)
    exact ⟨(), (by refine Wk.of ?_ ?_ rfl rfl rfl<;>repeat' (first|exact trivial|exact WkD.same _|refine ⟨?_, ?_⟩|fail))⟩
  rintro ⟨⟩
  refine ⟨Unit, fun _ => [(1, .pv (fpv P)), (2, .pv (fpv Q)), (3, .pv (fpv Y)), (4, .pv (fpv RA)), (5, .pv (.int .i64 0)), (6, .pv (fpv RB)), (7, .pv (.int .i64 0))], fun _ => 0, fun _ => [], ?_, ?_⟩
  · (try conv=>whnf);repeat' (first|(refine PureFn.dcq (f := 16) rfl ?_;try conv=>whnf)|(refine PureFn.dcq (f := 11) rfl ?_;try conv=>whnf)|(refine ⟨_, _, hC3, ?_, ?_⟩;(focus first|(refine ⟨?_, ?_, ?_, trivial⟩<;>first|exact PLe.refl _|exact PLe.nil)|exact trivial);try conv=>whnf)|(refine ⟨_, _, hRB, ?_, ?_⟩;(focus first|(refine ⟨?_, ?_, trivial⟩<;>first|exact PLe.refl _|exact PLe.nil)|exact trivial);try conv=>whnf)|fail)
    exact ⟨(), (by refine Wk.of ?_ ?_ rfl rfl rfl<;>repeat' (first|exact trivial|exact WkD.same _|refine ⟨?_, ?_⟩|fail))⟩
  rintro ⟨⟩
  refine ⟨Unit, fun _ => [(1, .pv (fpv P)), (2, .pv (fpv Q)), (3, .pv (fpv Y)), (4, .pv (fpv RA)), (5, .pv (.int .i64 0)), (6, .pv (fpv RB)), (7, .pv (.int .i64 0)), (8, .ref 1 0)], fun _ => 2, fun _ => [(1, .var [.pv (.sl [fpv P, fpv Y]), .pv (.sl [.nil, .nil]), .pv (.sl [.sl [u64 1, u64 3]])])], ?_, ?_⟩
  · (try conv=>whnf);repeat' (first|(apply And.intro<;>try conv=>whnf)|(apply cellsI;rfl)|(apply Or.inl;try conv=>whnf)|fail)
    all_goals first | exact ⟨(), (by refine Wk.of ?_ ?_ rfl rfl rfl<;>repeat' (first|exact trivial|exact WkD.same _|exact WkD.fz _ _ _ rfl (Or.inl ⟨_, rfl⟩) rfl|refine WkO.vars rfl ?_|refine ⟨?_, ?_⟩|fail))⟩ | rfl | exact (by decide : (0 : Int) ≤ 2) | exact (by decide : (2 : Int) ≤ (big : Int)) | trivial
  rintro ⟨⟩
  refine ⟨Unit, fun _ => [(1, .pv (fpv P)), (2, .pv (fpv Q)), (3, .pv (fpv Y)), (4, .pv (fpv RA)), (5, .pv (.int .i64 0)), (6, .pv (fpv RB)), (7, .pv (.int .i64 0)), (8, .ref 1 0), (9, .pv (fpv RC)), (10, .pv (.int .i64 0))], fun _ => 2, fun _ => [(1, .var [.pv (.sl [fpv P, fpv Y]), .pv (.sl [.nil, .nil]), .pv (.sl [.sl [u64 1, u64 3]])])], ?_, ?_⟩
  · (try conv=>whnf);repeat' (first|(refine lin_plan (by kernel_rfl) ?_;try conv=>whnf)|(refine ⟨_, (by (conv=>whnf);exact hK), rfl, ?_⟩;try conv=>whnf)|(refine ⟨_, (by (conv=>whnf);exact hRC), rfl, ?_⟩;try conv=>whnf)|fail)
    exact ⟨(), (by refine Wk.of ?_ ?_ rfl rfl rfl<;>repeat' (first|exact trivial|exact WkD.same _|exact WkO.same _ _ rfl|refine ⟨?_, ?_⟩|fail))⟩
  rintro ⟨⟩
  refine ⟨Unit, fun _ => [(1, .pv (fpv P)), (2, .pv (fpv Q)), (3, .pv (fpv Y)), (4, .pv (fpv RA)), (5, .pv (.int .i64 0)), (6, .pv (fpv RB)), (7, .pv (.int .i64 0)), (8, .ref 1 0), (9, .pv (fpv RC)), (10, .pv (.int .i64 0)), (11, .pv (fpv RD)), (12, .pv (.int .i64 0))], fun _ => 2, fun _ => [(1, .var [.pv (.sl [fpv P, fpv Y]), .pv (.sl [.nil, .nil]), .pv (.sl [.sl [u64 1, u64 3]])])], ?_, ?_⟩
  · (try conv=>whnf);repeat' (first|(refine lin_plan (by kernel_rfl) ?_;try conv=>whnf)|(refine ⟨_, (by (conv=>whnf);exact hK), rfl, ?_⟩;try conv=>whnf)|(refine ⟨_, (by (conv=>whnf);exact hRD), rfl, ?_⟩;try conv=>whnf)|fail)
    exact ⟨(), (by refine Wk.of ?_ ?_ rfl rfl rfl<;>repeat' (first|exact trivial|exact WkD.same _|exact WkO.same _ _ rfl|refine ⟨?_, ?_⟩|fail))⟩
  rintro ⟨⟩
  refine ⟨Unit, fun _ => [(1, .pv (fpv P)), (2, .pv (fpv Q)), (3, .pv (fpv Y)), (4, .pv (fpv RA)), (5, .pv (.int .i64 0)), (6, .pv (fpv RB)), (7, .pv (.int .i64 0)), (8, .ref 1 0), (9, .pv (fpv RC)), (10, .pv (.int .i64 0)), (11, .pv (fpv RD)), (12, .pv (.int .i64 0)), (13, .pv (fpv RX)), (14, .pv (.int .i64 0))], fun _ => 2, fun _ => [(1, .var [.pv (.sl [fpv P, fpv Y]), .pv (.sl [.nil, .nil]), .pv (.sl [.sl [u64 1, u64 3]])])], ?_, ?_⟩
  · (try conv=>whnf);repeat' (first|(apply And.intro<;>try conv=>whnf)|(apply cellsI;rfl)|(refine lin_plan (by kernel_rfl) ?_;try conv=>whnf)|(refine ⟨_, (by (conv=>whnf);exact hT0), rfl, ?_⟩;try conv=>whnf)|(refine ⟨_, (by (conv=>whnf);exact hT1), rfl, ?_⟩;try conv=>whnf)|(refine ⟨_, (by (conv=>whnf);exact hRX), rfl, ?_⟩;try conv=>whnf)|fail)
    exact ⟨(), (by refine Wk.of ?_ ?_ rfl rfl rfl<;>repeat' (first|exact trivial|exact WkD.same _|exact WkO.same _ _ rfl|refine ⟨?_, ?_⟩|fail))⟩
  rintro ⟨⟩
  refine ⟨Unit, fun _ => [(1, .pv (fpv P)), (2, .pv (fpv Q)), (3, .pv (fpv Y)), (4, .pv (fpv RA)), (5, .pv (.int .i64 0)), (6, .pv (fpv RB)), (7, .pv (.int .i64 0)), (9, .pv (fpv RC)), (10, .pv (.int .i64 0)), (11, .pv (fpv RD)), (12, .pv (.int .i64 0)), (13, .pv (fpv RX)), (14, .pv (.int .i64 0)), (16, .pv (.int .i64 10))], fun _ => 2, fun _ => [], ?_, ?_⟩
  · (try conv=>whnf);repeat' (first|(apply And.intro<;>try conv=>whnf)|(apply cellsI;rfl)|(refine lin_plan (by kernel_rfl) ?_;try conv=>whnf)|(refine ⟨_, (by (conv=>whnf);exact hC1), rfl, ?_⟩;try conv=>whnf)|(refine ⟨_, (by (conv=>whnf);exact hT2), rfl, ?_⟩;try conv=>whnf)|(refine ⟨_, (by (conv=>whnf);exact hRJ), rfl, ?_⟩;try conv=>whnf)|fail)
    exact ⟨(), (by refine Wk.of ?_ ?_ rfl rfl rfl<;>repeat' (first|exact trivial|exact WkD.same _|refine ⟨?_, ?_⟩|fail))⟩
  rintro ⟨⟩
  refine ⟨Unit, fun _ => [(1, .pv (fpv P)), (2, .pv (fpv Q)), (3, .pv (fpv Y)), (4, .pv (fpv RA)), (5, .pv (.int .i64 0)), (6, .pv (fpv RB)), (7, .pv (.int .i64 0)), (9, .pv (fpv RC)), (10, .pv (.int .i64 0)), (11, .pv (fpv RD)), (12, .pv (.int .i64 0)), (13, .pv (fpv RX)), (14, .pv (.int .i64 0)), (16, .pv (.int .i64 10)), (17, .pv (fpv PQ))], fun _ => 2, fun _ => [], ?_, ?_⟩
  · (try conv=>whnf);repeat' (first|(refine PureFn.dcq (f := 19) rfl ?_;try conv=>whnf)|(refine ⟨_, _, hPQ, ?_, ?_⟩;(focus first|(refine ⟨?_, ?_, trivial⟩<;>first|exact PLe.refl _|exact PLe.nil)|exact trivial);try conv=>whnf)|fail)
    exact ⟨(), (by refine Wk.of ?_ ?_ rfl rfl rfl<;>repeat' (first|exact trivial|exact WkD.same _|refine ⟨?_, ?_⟩|fail))⟩
  rintro ⟨⟩
  refine ⟨Unit, fun _ => [(1, .pv (fpv P)), (2, .pv (fpv Q)), (3, .pv (fpv Y)), (4, .pv (fpv RA)), (5, .pv (.int .i64 0)), (6, .pv (fpv RB)), (7, .pv (.int .i64 0)), (9, .pv (fpv RC)), (10, .pv (.int .i64 0)), (11, .pv (fpv RD)), (12, .pv (.int .i64 0)), (13, .pv (fpv RX)), (14, .pv (.int .i64 0)), (16, .pv (.int .i64 10)), (17, .pv (fpv PQ)), (18, .pv (fpv RY)), (19, .pv (.int .i64 0))], fun _ => 2, fun _ => [], ?_, ?_⟩
  · (try conv=>whnf);repeat' (first|(refine PureFn.dcq (f := 11) rfl ?_;try conv=>whnf)|(refine ⟨_, _, hRY, ?_, ?_⟩;(focus first|(refine ⟨?_, ?_, trivial⟩<;>first|exact PLe.refl _|exact PLe.nil)|exact trivial);try conv=>whnf)|fail)
    exact ⟨(), (by refine Wk.of ?_ ?_ rfl rfl rfl<;>repeat' (first|exact trivial|exact WkD.same _|refine ⟨?_, ?_⟩|fail))⟩
  rintro ⟨⟩
  refine ⟨Unit, fun _ => [(1, .pv (fpv P)), (2, .pv (fpv Q)), (3, .pv (fpv Y)), (4, .pv (fpv RA)), (6, .pv (fpv RB)), (9, .pv (fpv RC)), (11, .pv (fpv RD)), (13, .pv (fpv RX)), (17, .pv (fpv PQ)), (18, .pv (fpv RY)), (20, .pv (.bool true))], fun _ => 2, fun _ => [], ?_, ?_⟩
  · (try conv=>whnf);repeat' (first|(apply And.intro<;>try conv=>whnf)|(intro h;try conv=>whnf)|apply True.intro|(apply WhenQ.mk;(try conv=>whnf);rotate_left;(try conv=>whnf);rotate_right)|with_reducible assumption|fail)
    exact ⟨(), (by refine Wk.of ?_ ?_ rfl rfl rfl<;>repeat' (first|exact trivial|exact WkD.same _|refine ⟨?_, ?_⟩|fail))⟩
  rintro ⟨⟩
  (try conv=>whnf);repeat' (first|(apply And.intro<;>try conv=>whnf)|(intro h;try conv=>whnf)|apply True.intro|(apply WhenQ.mk;(try conv=>whnf);rotate_left;(try conv=>whnf);rotate_right)|with_reducible assumption|(refine PureFn.dcq (f := 20) rfl ?_;try conv=>whnf)|(refine PureFn.dcq (f := 19) rfl ?_;try conv=>whnf)|(refine PureFn.dcq (f := 15) rfl ?_;try conv=>whnf)|(refine PureFn.dcq (f := 21) rfl ?_;try conv=>whnf)|(refine PureFn.dcq (f := 16) rfl ?_;try conv=>whnf)|(refine ⟨_, _, s1, ?_, ?_⟩;(focus first|(refine ⟨?_, ?_, trivial⟩<;>first|exact PLe.refl _|exact PLe.nil)|exact trivial);try conv=>whnf)|(refine ⟨_, _, s2, ?_, ?_⟩;(focus first|(refine ⟨?_, ?_, trivial⟩<;>first|exact PLe.refl _|exact PLe.nil)|exact trivial);try conv=>whnf)|(refine ⟨_, _, s3, ?_, ?_⟩;(focus first|(refine ⟨?_, ?_, trivial⟩<;>first|exact PLe.refl _|exact PLe.nil)|exact trivial);try conv=>whnf)|(refine ⟨_, _, s4, ?_, ?_⟩;(focus first|(refine ⟨?_, ?_, trivial⟩<;>first|exact PLe.refl _|exact PLe.nil)|exact trivial);try conv=>whnf)|(refine ⟨_, _, s5, ?_, ?_⟩;(focus first|(refine ⟨?_, ?_, trivial⟩<;>first|exact PLe.refl _|exact PLe.nil)|exact trivial);try conv=>whnf)|(refine ⟨_, _, hK2, ?_, ?_⟩;(focus first|(refine ⟨?_, ?_, trivial⟩<;>first|exact PLe.refl _|exact PLe.nil)|exact trivial);try conv=>whnf)|(refine ⟨_, _, hF1, ?_, ?_⟩;(focus first|(refine ⟨?_, ?_, trivial⟩<;>first|exact PLe.refl _|exact PLe.nil)|exact trivial);try conv=>whnf)|(refine ⟨_, _, hPY, ?_, ?_⟩;(focus first|(refine ⟨?_, ?_, trivial⟩<;>first|exact PLe.refl _|exact PLe.nil)|exact trivial);try conv=>whnf)|(refine ⟨_, _, hAY, ?_, ?_⟩;(focus first|(refine ⟨?_, ?_, trivial⟩<;>first|exact PLe.refl _|exact PLe.nil)|exact trivial);try conv=>whnf)|(refine ⟨_, _, hCA, ?_, ?_⟩;(focus first|(refine ⟨?_, ?_, ?_, trivial⟩<;>first|exact PLe.refl _|exact PLe.nil)|exact trivial);try conv=>whnf)|(refine ⟨_, _, hF2, ?_, ?_⟩;(focus first|(refine ⟨?_, ?_, trivial⟩<;>first|exact PLe.refl _|exact PLe.nil)|exact trivial);try conv=>whnf)|(refine ⟨_, _, hYQ, ?_, ?_⟩;(focus first|(refine ⟨?_, ?_, trivial⟩<;>first|exact PLe.refl _|exact PLe.nil)|exact trivial);try conv=>whnf)|(refine ⟨_, _, hK3, ?_, ?_⟩;(focus first|(refine ⟨?_, ?_, trivial⟩<;>first|exact PLe.refl _|exact PLe.nil)|exact trivial);try conv=>whnf)|(refine ⟨_, _, hA4, ?_, ?_⟩;(focus first|(refine ⟨?_, ?_, trivial⟩<;>first|exact PLe.refl _|exact PLe.nil)|exact trivial);try conv=>whnf)|(refine ⟨_, _, hF4, ?_, ?_⟩;(focus first|(refine ⟨?_, ?_, trivial⟩<;>first|exact PLe.refl _|exact PLe.nil)|exact trivial);try conv=>whnf)|fail)
  exact le_bool (by simp)
end Go.Proofs.YtibbphifegibkaaGreatDoor
set_option maxRecDepth 100000
set_option maxHeartbeats 8000000
namespace Go.Proofs.YtibbphifegibkaaGreatDoor
open Go Go.Dv

theorem rd_fine {acts : List Act} {f : List Nd} (h : (rdI acts f).2 = 0) : RqOk acts f ∧ Can (rdI acts f).1 ∧ root (rdI acts f).1 = redT acts (root f) := by
  unfold rdI at h ⊢
  cases q : (rqI acts f != 0) with
  | true => rw [q] at h; exact absurd h (by simpa using q)
  | false =>
    rw [q] at h
    have hR := rq_ok (show rqI acts f = 0 by simpa using q)
    exact ⟨hR, redF_tree hR.cf (rq_nmd hR) h⟩
end Go.Proofs.YtibbphifegibkaaGreatDoor
set_option maxRecDepth 100000
set_option maxHeartbeats 4000000
namespace Go.Proofs.YtibbphifegibkaaGreatDoor
open Go Go.Dv

theorem rd_redF {acts : List Act} {f : List Nd} (h : (rdI acts f).2 = 0) : rdI acts f = redF acts f ∧ (redE [] (stepR acts) (comp f) []).2 = 0 := by
  have h0 : rqI acts f = 0 := by
    by_cases q : rqI acts f = 0
    · exact q
    · unfold rdI at h
      rw [show (rqI acts f != 0) = true by simpa using q] at h
      exact absurd h q
  have hF : rdI acts f = redF acts f := by rw [rdI, h0]; rfl
  refine ⟨hF, ?_⟩
  rw [hF] at h
  unfold redF lastF at h
  by_cases q : (redE [] (stepR acts) (comp f) []).2 = 0
  · exact q
  · rw [show ((redE [] (stepR acts) (comp f) []).2 != 0) = true by simpa using q] at h
    exact absurd h q
theorem nd_static {A F : Nat} {acts : List Act} {x : Nd} (h : ndQ A F acts x.op x.i x.e x.g = true) (h16 : fragN x < 16) : stM A F x.op x.i x.e x.g = true := by
  simp only [ndQ, Bool.and_eq_true, decide_eq_true_eq] at h
  exact stM_iff.2 ⟨⟨h16, h.1.1.2⟩, h.1.2⟩
theorem holds_of {m : Mo} {n : Nat} {x : List Nd} {s : Nat} (hM : OkM m n) (hs : statI m.rel.length m.val.length x = 0) (hv : vlT m n (root x) = s) : holdsI m x = (s, 0) := by
  have hr : reqI m x = 0 := by rw [reqI, ok_moI hM]; exact hs
  rw [holdsI, hr, hM.nn, Int.toNat_natCast, hv]; rfl
/-- A formula of the dynamic language holds where its reduction does. -/
theorem rd_sem {m : Mo} {acts : List Act} {f : List Nd} (hd : (dynI m acts f).2 = 0) (hr : (rdI acts f).2 = 0) : holdsI m (rdI acts f).1 = ((dynI m acts f).1, 0) := by
  obtain ⟨r1, s, d1, e1⟩ := dyn_ok hd
  obtain ⟨q1, q2, q3⟩ := reqD_iff.1 r1
  obtain ⟨n, hD, _⟩ := chkD_ok q1
  have hM := hD.okm
  obtain ⟨hR, hC, hT⟩ := rd_fine hr
  obtain ⟨_, hE⟩ := rd_redF hr
  have hN := rq_nmd hR
  have hok := comp_okl f
  have hpos := comp_pos hR.cf
  have hQ : ∀ j, allT (rgQ (stM m.rel.length m.val.length)) (redT acts (tree (comp f) j)) = true := fun j => by
    refine redT_all (stM_clo _ _) (fun a ha => act_Q hM.fa (hD.act a ha)) _ (trn_all (fun x hx => ?_) _ _)
    obtain ⟨k, hk⟩ := okl_mem hok hx
    rcases (hR.nd x hx).1 with h1 | h1 | h1
    · have h16 := (stM_iff.1 ((hR.nd x hx).2.1 h1)).1.1
      show (x.op == 16 || x.op == 17 || rgQ (stM m.rel.length m.val.length) x.op x.i x.e x.g) = true
      rw [rg_iff.2 ⟨nd_static (q3 x hx) h16, hk.group⟩, Bool.or_true]
    · show (x.op == 16 || x.op == 17 || _) = true
      rw [h1]; rfl
    · show (x.op == 16 || x.op == 17 || _) = true
      rw [h1]; rfl
  obtain ⟨g1, g2⟩ := redE_all (RdOk m.rel.length m.val.length acts (comp f)) (fun i x l hx hl hQ' h0 => rd_step hM.ag hok hN hQ hx hl hQ' h0) (comp f).length 0 [] (by omega) rfl (fun j z h => by simp at h) (by rw [List.drop_zero]; exact hE)
  rw [List.drop_zero] at g1 g2
  have hact : ∀ x, x ∈ comp f → x.op = 17 → x.i.toNat < acts.length ∧ 0 ≤ x.e := fun x hx h17 => by
    obtain ⟨k, hk⟩ := okl_mem hok hx
    obtain ⟨a1, a2, a3, a4⟩ := hk.act h17
    have hb := (hR.nd x hx).2.2
    unfold badRd at hb
    rw [show (x.op == 17) = true by simpa using h17, cond_true] at hb
    cases hq : decide (x.i ≥ (acts.length : Int)) with
    | true => rw [hq] at hb; cases hb
    | false =>
      have := of_decide_eq_false hq
      omega
  have hs := sem_at hok (fun x hx => (hR.nd x hx).1) hN hact hQ g1 g2 (comp f).length ((comp f).length - 1) (by omega) (by omega) m n s hD rfl rfl (by
    rw [← root_comp hR.cf] at d1
    exact d1)
  rw [e1]
  refine holds_of hM (stat_all hC (by rw [hT, ← root_comp hR.cf]; exact hQ _)) ?_
  rw [hT, ← root_comp hR.cf]
  exact hs
theorem ann_fine {f g : List Nd} (h : (rnnI f g).2 = 0) : check f = 0 ∧ check g = 0 ∧ stB f = true ∧ stB g = true ∧ Can (rnnI f g).1 ∧ root (rnnI f g).1 = annT (root f) (root g) := by
  have hf : check f = 0 := by
    by_cases q : check f = 0
    · exact q
    · rw [rnnI, show (check f != 0) = true by simpa using q] at h
      exact absurd h q
  have hg : check g = 0 := by
    by_cases q : check g = 0
    · exact q
    · rw [rnnI, hf, show (check g != 0) = true by simpa using q] at h
      exact absurd h q
  have hb : (bif !stB f then true else !stB g) = false := by
    cases q : (bif !stB f then true else !stB g) with
    | false => rfl
    | true => rw [rnnI, hf, hg, q] at h; exact absurd (show (10 : Int) = 0 from h) (by decide)
  have h1 : stB f = true := by
    cases q : stB f with
    | true => rfl
    | false => rw [q] at hb; cases hb
  have h2 : stB g = true := by
    rw [h1] at hb; simpa using hb
  have hv : rnnI f g = annF (comp f) (comp g) := by rw [rnnI, hf, hg, hb]; rfl
  rw [hv] at h ⊢
  obtain ⟨p1, p2⟩ := annF_tree (comp_okl g) (comp_pos hg) h
  exact ⟨hf, hg, h1, h2, p1, by rw [p2, root_comp hf, root_comp hg]⟩
theorem stB_frag {f : List Nd} (h : stB f = true) {x : Nd} (hx : x ∈ comp f) : fragN x < 16 := by
  have h1 : frags f < 16 := (frag_low (Nat.lt_of_lt_of_le (frags_lt f) (by decide))).1 (by simpa [stB] using h)
  have h2 : fragN x ≤ frags f := orN_le hx
  omega
theorem ndT_static {A F : Nat} {acts : List Act} {f : List Nd} (hc : check f = 0) (hb : stB f = true) (hq : allT (ndQ A F acts) (root f) = true) : allT (rgQ (stM A F)) (root f) = true ∧ allT stOp (root f) = true := by
  have key : ∀ x, x ∈ comp f → ndQ A F acts x.op x.i x.e x.g = true := fun x hx => by
    rw [comp_root hc] at hx
    exact finT_all (Q := ndQ A F acts) _ _ hq (by simp) x hx
  constructor
  · rw [← root_comp hc]
    refine trn_all (fun x hx => ?_) _ _
    obtain ⟨k, hk⟩ := okl_mem (comp_okl f) hx
    exact rg_iff.2 ⟨nd_static (key x hx) (stB_frag hb hx), hk.group⟩
  · rw [← root_comp hc]
    refine trn_all (Q := stOp) (fun x hx => ?_) _ _
    obtain ⟨k, hk⟩ := okl_mem (comp_okl f) hx
    have ho := hk.op
    have := stat13 (op := x.op.toNat) (by omega) (by rw [show ((x.op.toNat : Nat) : Int) = x.op by omega]; exact stB_frag hb hx)
    show stOp x.op x.i x.e x.g = true
    unfold stOp
    simp
    omega
/-- The reduction of an announcement holds where the announcement makes the formula true. -/
theorem ann_dyn {m : Mo} {f g : List Nd} (lf : f.length ≤ 40) (lg : g.length ≤ 40) (ha : (rnnI f g).2 = 0) (hd : (dynI m [] (buildL (n0 16) [f, g])).2 = 0) : holdsI m (rnnI f g).1 = ((dynI m [] (buildL (n0 16) [f, g])).1, 0) := by
  obtain ⟨r1, s, d1, e1⟩ := dyn_ok hd
  obtain ⟨n, hD, _⟩ := chkD_ok (reqD_iff.1 r1).1
  have hM := hD.okm
  obtain ⟨cf, cg, sf, sg, hC, hT⟩ := ann_fine ha
  obtain ⟨q1, q2, q3⟩ := bin_any (op := 16) (by simp) cf cg (by omega)
  obtain ⟨_, _, _, q16⟩ := can_reqD r1
  rw [q2] at d1 q16
  rw [allT, Bool.and_eq_true, Bool.and_eq_true] at q16
  obtain ⟨f1, f2⟩ := ndT_static cf sf q16.1.2
  obtain ⟨g1, g2⟩ := ndT_static cg sg q16.2
  have hnn : m.n.toNat = n := by rw [hM.nn, Int.toNat_natCast]
  have df : dvT [] (root f) m = some (vlT m n (root f)) := by rw [← hnn]; exact dvT_static (root f) f2
  have hsw := can_sw (comp_can cg) (by rw [root_comp cg]; exact g1)
  rw [root_comp cg] at hsw
  rw [e1]
  refine holds_of hM (stat_all hC (by rw [hT]; exact annT_all (stM_clo _ _) f1 _ g1)) ?_
  rw [hT, ann_sem hM rfl hsw.2 hsw.1]
  generalize vlT m n (root f) = t at df
  by_cases h0 : t = 0
  · subst h0
    have d2 := (dv_ann0 (b := root g) df).symm.trans d1
    rw [← Option.some.inj d2, hnn]; rfl
  · have d2 := (dv_ann1 (b := root g) df h0).symm.trans d1
    rw [dvT_static (root g) g2] at d2
    have d2 := Option.some.inj d2
    rw [show (t == 0) = false by simpa using h0, cond_false, ← d2, hnn]
    rfl
end Go.Proofs.YtibbphifegibkaaGreatDoor
set_option maxRecDepth 100000
set_option maxHeartbeats 4000000
namespace Go.Proofs.YtibbphifegibkaaGreatDoor
open Go Go.Dv

def setM (es : List (Nat × Nat)) : List (PV × PV) := es.map fun e => (.int .i64 (e.1 : Int), u64 e.2)
theorem mfnd_setM (i : Nat) : ∀ (es : List (Nat × Nat)) (s : Nat), (mfnd (.int .i64 (i : Int)) (setM es) s).map Prod.snd = (look i es).map u64
  | [], s => rfl
  | e :: r, s => by
    simp only [setM, List.map_cons, mfnd, look]
    by_cases h : e.1 = i
    · rw [if_pos (int_eq.2 h), if_pos h]; rfl
    · rw [if_neg (fun e => h (int_eq.1 e)), if_neg h]
      exact mfnd_setM i r (s + 1)
theorem mfind_setM (i : Nat) (es : List (Nat × Nat)) : mfind (setM es) (.int .i64 (i : Int)) = (look i es).map u64 := mfnd_setM i es 0
theorem mput_setM (i k : Nat) : ∀ (es : List (Nat × Nat)), mput (setM es) (.int .i64 (i : Int)) (u64 k) = setM (dput i k es)
  | [] => rfl
  | e :: r => by
    simp only [setM, List.map_cons, mput_cons, dput]
    by_cases h : e.1 = i
    · rw [if_pos (int_eq.2 h), if_pos h]; rfl
    · rw [if_neg (fun e => h (int_eq.1 e)), if_neg h]
      rw [List.map_cons]
      congr 1
      exact mput_setM i k r
def evC (m : Mo) (acts : List Act) (c : List Nd) : List DV := [.pv (.int .i64 m.n), .pv (.sl (m.val.map u64)), .pv (.sl (m.rel.map rowPV)), .pv (u64 (2 ^ m.n.toNat - 1)), .pv (actsPV acts), .pv (fpv c), .mp 2, .ref 0 0]
def H0 (m : Mo) (acts : List Act) (c : List Nd) (es : List (Nat × Nat)) (err : Int) : List (Nat × DObj) := [(0, .var [.pv (.int .i64 err)]), (1, .var (evC m acts c)), (2, .mp (setM es))]
/-- What is reckoned already. -/
def InvE (acts : List Act) (c : List Nd) (m : Mo) (n : Nat) (es : List (Nat × Nat)) (err : Int) : Prop := ∀ k s, look k es = some s → s < 2 ^ n ∧ (err = 0 → dvT acts (tree c k) m = some s)
structure PostE (acts : List Act) (c : List Nd) (m : Mo) (n : Nat) (i : Nat) (err : Int) (s : Nat) (es' : List (Nat × Nat)) (err' : Int) : Prop where
  lt : s < 2 ^ n
  inv : InvE acts c m n es' err'
  er : err' = 0 ∨ err' = 8
  ok : err' = 0 → err = 0 ∧ dvT acts (tree c i) m = some s
  no : err' ≠ 0 → err ≠ 0 ∨ dvT acts (tree c i) m = none
/-- Nodes that may be asked for. -/
structure CxD (A F : Nat) (acts : List Act) (c : List Nd) : Prop where
  okl : Okl c
  len : c.length ≤ 1000
  op : ∀ x, x ∈ c → x.op ≤ 13 ∨ x.op = 16 ∨ x.op = 17
  fact : ∀ x, x ∈ c → x.op = 3 → x.i < F
  ag : ∀ x, x ∈ c → x.op = 9 ∨ x.op = 10 → x.i < A
  gr : ∀ x, x ∈ c → x.op = 11 ∨ x.op = 12 ∨ x.op = 13 → 1 ≤ x.g ∧ x.g < shl64 1 (A : Int)
  ev : ∀ x, x ∈ c → x.op = 17 → 0 ≤ x.i ∧ x.i < acts.length ∧ 0 ≤ x.e ∧ x.e < (acts.getD x.i.toNat noAct).pre.length
structure ModD (acts : List Act) (m : Mo) (n A F : Nat) : Prop where
  okd : OkD acts m n
  ra : m.rel.length = A
  rf : m.val.length = F
/-- What a call of at or of value does to the evaluation. -/
def ConE (fid : Nat) (arg : DV) (acts : List Act) (c : List Nd) (A F i : Nat) : Prop := ∀ (m : Mo) (n : Nat) (es : List (Nat × Nat)) (err : Int), ModD acts m n A F → InvE acts c m n es err → (err = 0 ∨ err = 8) →
  ∀ (M : Nat → Prop) (w0 : World) (base : Nat) (K : DV → DH → Prop), (∀ s es' err', PostE acts c m n i err s es' err' → K (.pv (u64 s)) ⟨3, 0, base, objsOf (H0 m acts c es' err')⟩) →
    DC Tryz.prog M w0 fid [.ref 1 0, arg] ⟨3, 0, base, objsOf (H0 m acts c es err)⟩ K
theorem con_L {fid : Nat} {arg : DV} {acts : List Act} {c : List Nd} {A F i : Nat} (h : ConE fid arg acts c A F i) (hu : DV.under 3 arg = true) {m : Mo} {n : Nat} {es : List (Nat × Nat)} {err : Int} (hM : ModD acts m n A F) (hI : InvE acts c m n es err) (hE : err = 0 ∨ err = 8)
    {M : Nat → Prop} {w0 : World} {L : DH} {K : DV → DH → Prop} (h0 : L.lo = 0) (hn : Nat.ble 3 L.next = true) (g0 : L.get 0 = some (.var [.pv (.int .i64 err)])) (g1 : L.get 1 = some (.var (evC m acts c))) (g2 : L.get 2 = some (.mp (setM es)))
    (hK : ∀ s es' err', PostE acts c m n i err s es' err' → K (.pv (u64 s)) (L.merge ⟨3, 0, 3, objsOf (H0 m acts c es' err')⟩ 3)) : DC Tryz.prog M w0 fid [.ref 1 0, arg] L K := by
  refine DC.call 3 (H0 m acts c es err) ⟨g2.symm, g1.symm, g0.symm, trivial⟩ rfl hn (by rw [h0]; rfl) ?_ fun M' => ?_
  · show (Nat.blt 1 3 && (arg.under 3 && true)) = true
    rw [hu]; rfl
  · rw [h0]
    exact h m n es err hM hI hE M' w0 3 _ fun s es' err' hp => ⟨rfl, hK s es' err' hp⟩
theorem lt64 {acts : List Act} {c : List Nd} {m : Mo} {n i : Nat} {err err' : Int} {s : Nat} {es' : List (Nat × Nat)} (hM : OkM m n) (p : PostE acts c m n i err s es' err') : s < 2 ^ 64 := Nat.lt_of_lt_of_le p.lt (pow64_le hM.n64)
theorem at_dc {acts : List Act} {c : List Nd} {A F i : Nat} (hC : CxD A F acts c) (hi : i < c.length) (hv : ∀ x, c[i]? = some x → ConE 44 (.agg x.dvs) acts c A F i) : ConE 26 (.pv (.int .i64 (i : Nat))) acts c A F i := by
  intro m n es err hM hI hE M w0 base K hK
  have hlen := hC.len
  obtain ⟨x, hx⟩ : ∃ x, c[i]? = some x := ⟨_, List.getElem?_eq_getElem hi⟩
  have hv' := hv
  have hmf := mfind_setM i es
  refine DC.weaken (DC.intro mixed (fn := Tryz.f26) rfl rfl rfl ?_)
  cases hl : look i es with
  | some s =>
    rw [hl] at hmf
    have hoff : (!true) = false := rfl
    (try conv=>whnf);repeat' (first|(apply And.intro<;>try conv=>whnf)|(intro h;first|with_reducible exact nt0 h|try conv=>whnf)|(apply infoT;rfl)|(apply fitI;rfl)|(apply whenOff;(focus with_reducible assumption);try conv=>whnf)|(refine ⟨_, _, rfl, idx_map (by with_reducible assumption), rfl, ?_⟩;try conv=>whnf)|(apply ex2;(focus with_reducible assumption);try conv=>whnf)|fail)
    · obtain ⟨e, _, rfl⟩ := List.mem_map.1 h; rfl
    · exact absurd (show (bif !true then false else false) = true from h) (by decide)
    · obtain ⟨q1, q2⟩ := hI i s hl
      exact ⟨.pv (u64 s), 3, H0 m acts c es err, (by refine Wk.of ?_ ?_ rfl rfl rfl<;>repeat' (first|exact trivial|exact WkD.same _|exact WkO.same _ _ rfl|refine ⟨?_, ?_⟩|fail)), hK s es err ⟨q1, hI, hE, fun h => ⟨h, q2 h⟩, fun h => .inl h⟩⟩
  | none =>
    rw [hl] at hmf
    rcases hE with rfl | rfl
    · (try conv=>whnf);repeat' (first|(apply And.intro<;>try conv=>whnf)|(intro h;try conv=>whnf)|apply True.intro|(apply infoT;rfl)|(apply fitI;rfl)|(apply WhenQ.mk;(try conv=>whnf);rotate_left;(try conv=>whnf);rotate_right)|with_reducible assumption|(refine ⟨_, _, rfl, idx_map (by with_reducible assumption), rfl, ?_⟩;try conv=>whnf)|(apply ex2;(focus with_reducible assumption);try conv=>whnf)|fail)
      · obtain ⟨e, _, rfl⟩ := List.mem_map.1 h; rfl
      · refine con_L (hv' x hx) rfl hM hI (.inl rfl) rfl rfl rfl rfl rfl fun s1 es1 er1 p1 => ?_
        (try conv=>whnf);repeat' (first|(apply And.intro<;>try conv=>whnf)|(intro h;try conv=>whnf)|(apply fitI;rfl)|fail)
        · obtain ⟨e, _, rfl⟩ := List.mem_map.1 h; rfl
        · refine ⟨.pv (u64 s1), 3, H0 m acts c (dput i s1 es1) er1, ?_, hK s1 (dput i s1 es1) er1 ⟨p1.lt, fun k s hk => ?_, p1.er, p1.ok, p1.no⟩⟩
          · (refine Wk.of ?_ ?_ rfl rfl rfl<;>repeat' (first|exact trivial|exact WkD.same _|exact WkO.same _ _ rfl|refine ⟨?_, ?_⟩|fail))
            exact WkO.same _ _ (congrArg (fun z => some (DObj.mp z)) (mput_setM i s1 es1))
          · rw [look_dput] at hk
            by_cases e : k = i
            · rw [if_pos e] at hk
              have hk := Option.some.inj hk
              subst hk
              rw [e]
              exact ⟨p1.lt, fun h => (p1.ok h).2⟩
            · rw [if_neg e] at hk
              exact p1.inv k s hk
      · exact absurd (show (bif !false then (0 : Int) == 0 else false) = false from h) (by decide)
    · (try conv=>whnf);repeat' (first|(apply And.intro<;>try conv=>whnf)|(intro h;try conv=>whnf)|apply True.intro|(apply infoT;rfl)|(apply fitI;rfl)|(apply WhenQ.mk;(try conv=>whnf);rotate_left;(try conv=>whnf);rotate_right)|with_reducible assumption|(refine ⟨_, _, rfl, idx_map (by with_reducible assumption), rfl, ?_⟩;try conv=>whnf)|(apply ex2;(focus with_reducible assumption);try conv=>whnf)|fail)
      · obtain ⟨e, _, rfl⟩ := List.mem_map.1 h; rfl
      · exact absurd (show (bif !false then (8 : Int) == 0 else false) = true from h) (by decide)
      · exact ⟨.pv (u64 0), 3, H0 m acts c es 8, (by refine Wk.of ?_ ?_ rfl rfl rfl<;>repeat' (first|exact trivial|exact WkD.same _|exact WkO.same _ _ rfl|refine ⟨?_, ?_⟩|fail)), hK 0 es 8 ⟨Nat.two_pow_pos n, hI, .inr rfl, fun h => absurd h (by decide), fun _ => .inl (by decide)⟩⟩
end Go.Proofs.YtibbphifegibkaaGreatDoor
