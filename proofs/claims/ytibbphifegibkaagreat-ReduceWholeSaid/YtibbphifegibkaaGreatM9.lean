/- Parts of the proof, one after the other: Reductions of events: After of the reference walked. Reductions of whole formulas: request of the program walked. Reductions of whole formulas: request, reduced and Reduce of the program walked. Reductions: environments and errors of the reference walked. The dynamic language: how small the law's inputs are (walked). Reductions: how small the inputs of the laws are; the example walked. Reductions: the laws ReduceAnnounced and ReduceStatic walked. Reductions: Reduce of the reference walked. -/
import Derived.Test.YtibbphifegibkaaGreatM8
set_option maxRecDepth 100000
set_option maxHeartbeats 4000000
namespace Go.Proofs.YtibbphifegibkaaGreat
open Go Go.Dv

theorem rr_Check (a : Act) (hS : SmX a) : PureFn Tryz.prog 29 [a.pv] (.int .i64 (chkI a)) := by
  have e1 : ((a.rel.map rowPV).length : Int) = (a.rel.length : Int) := by simp
  have hC := ra_Check a (min ((a.rel.map rowPV).length : Int) 4) 8 hS.fit hS.rel hS.post
  have hCe : actI a (min ((a.rel.map rowPV).length : Int) 4) 8 = chkI a := by rw [e1]; rfl
  rw [hCe] at hC
  refine PureFn.intro mixed (fn := Tryz.f29) rfl rfl rfl fun M w0 => ?_
  (try conv=>whnf);repeat' (first|(refine PureFn.dcq (f := 58) rfl ?_;try conv=>whnf)|(refine ⟨_, _, hC, ?_, ?_⟩;(focus first|(refine ⟨?_, ?_, ?_, trivial⟩<;>first|exact PLe.refl _|exact PLe.nil)|exact trivial);try conv=>whnf)|fail)
  exact .refl _
theorem frag7 : ∀ n : Fin 512, (nand64' (n.1 : Int) 7 != 0) = (bif !(nand64' (n.1 : Int) 15 == 0) then true else and64 (n.1 : Int) 8 != 0) := by decide +kernel
theorem frag_7 (f : List Nd) : (nand64' (frags f : Nat) 7 != 0) = (bif !stB f then true else and64 (frags f : Nat) 8 != 0) := frag7 ⟨frags f, frags_lt f⟩
/-- After, its checks in the order of the reference. -/
theorem aft_ref {a : Act} {ev : Int} {f : List Nd} (h : chkI a = 0) : aftI a ev f = bif check f != 0 then ([], check f) else bif badEv a ev then ([], 6) else bif (nand64' (frags f : Nat) 7 != 0) then ([], 10) else bif !fits f (a.rel.length : Int) 8 then ([], 2) else aftF a ev.toNat (comp f) := by
  obtain ⟨_, _, _, c4⟩ := chk_ok h
  rw [aftI, h, c4, frag_7]; rfl
def rowsP (T : List (List (List Nd))) : List PV := T.map fun r => .sl (r.map fpv)
theorem rowsP_len (T : List (List (List Nd))) : (rowsP T).length = T.length := List.length_map _
theorem rowsP_snoc {T : List (List (List Nd))} {r : List (List Nd)} : rowsP T ++ [.sl (r.map fpv)] = rowsP (T ++ [r]) := by simp [rowsP]
theorem rowsP_get {T : List (List (List Nd))} {k : Nat} (h : k < T.length) : (rowsP T)[k]? = some (.sl ((T.getD k []).map fpv)) := by
  rw [rowsP, List.getElem?_map, getD_mem (d := []) h]; rfl
theorem evBod_cong {a : Act} {e : Nat} {x : Nd} {X Y X' Y' : List (List Nd)} (h1 : usesX x.op = true → X = X') (h2 : usesY x.op = true → Y = Y') : evBod a e x X Y = evBod a e x X' Y' := by
  unfold evBod
  by_cases q3 : x.op = 3
  · rw [show (x.op == 3) = true by simpa using q3]; rfl
  rw [show (x.op == 3) = false by simpa using q3, cond_false, cond_false]
  by_cases q9 : x.op = 9
  · rw [h1 (by rw [q9]; rfl), show (x.op == 9) = true by simpa using q9]; rfl
  rw [show (x.op == 9) = false by simpa using q9, cond_false, cond_false]
  by_cases q10 : x.op = 10
  · rw [h1 (by rw [q10]; rfl), show (x.op == 10) = true by simpa using q10]; rfl
  rw [show (x.op == 10) = false by simpa using q10, cond_false, cond_false]
  by_cases q11 : x.op = 11
  · rw [h1 (by rw [q11]; rfl), show (x.op == 11) = true by simpa using q11]; rfl
  rw [show (x.op == 11) = false by simpa using q11, cond_false, cond_false]
  by_cases q12 : x.op = 12
  · rw [h1 (by rw [q12]; rfl), show (x.op == 12) = true by simpa using q12]; rfl
  rw [show (x.op == 12) = false by simpa using q12, cond_false, cond_false]
  exact ap_cong (fun u => by rw [h1 u]) (fun u => by rw [h2 u])
theorem evHd_cong {a : Act} {x : Nd} {X Y X' Y' : List (List Nd)} (h1 : usesX x.op = true → X = X') (h2 : usesY x.op = true → Y = Y') : evHd a x X Y = evHd a x X' Y' := by
  have : evRow a x X Y = evRow a x X' Y' := List.map_congr_left fun e _ => by rw [evBod_cong h1 h2]
  rw [evHd, evHd, this]
theorem rr_After (a : Act) (ev : Int) (f : List Nd) (hS : SmX a) : PureFn Tryz.prog 8 [a.pv, .int .i64 ev, fpv f] (pairF (aftI a ev f)) := by
  have e1 : ((a.rel.map rowPV).length : Int) = (a.rel.length : Int) := by simp
  have e2 : ((a.pre.map fpv).length : Int) = (a.pre.length : Int) := by simp
  have hC := rr_Check a hS
  have hT := ref_Fits f ((a.rel.map rowPV).length : Int) 8
  have hFe : fits f ((a.rel.map rowPV).length : Int) 8 = fits f (a.rel.length : Int) 8 := by rw [e1]
  rw [hFe] at hT
  refine PureFn.introC [4, 20, 22, 29] mixed (fn := Tryz.f8) rfl rfl rfl fun M w0 => ?_
  (try conv=>whnf);repeat' (first|(refine PureFn.dcq (f := 29) rfl ?_;try conv=>whnf)|(refine ⟨_, _, hC, ?_, ?_⟩;(focus first|(refine ⟨?_, trivial⟩<;>first|exact PLe.refl _|exact PLe.nil)|exact trivial);try conv=>whnf)|fail)
  refine ⟨{ e : Int // e = bif chkI a != 0 then chkI a else check f }, fun e => [(1, .pv (.int .i64 ev)), (2, .pv (fpv f)), (3, .ref 0 0), (8, .pv (.int .i64 e.1))], fun _ => 1, fun _ => [(0, .var (cellsA a))], ?_, ?_⟩
  · (try conv=>whnf);repeat' (first|(apply And.intro<;>try conv=>whnf)|(intro h;try conv=>whnf)|(refine PureFn.dcq (f := 30) rfl ?_;try conv=>whnf)|(refine ⟨_, _, ref_Check ?_, ?_, ?_⟩;rotate_left 1;(focus first|(refine ⟨?_, trivial⟩<;>first|exact PLe.refl _|exact PLe.nil)|exact trivial);try conv=>whnf)|fail)
    · have h0 : chkI a = 0 := by simpa using h
      exact ⟨⟨check f, by rw [h0]; rfl⟩, (by refine Wk.of ?_ ?_ rfl rfl rfl<;>repeat' (first|exact trivial|exact WkD.same _|exact WkO.same _ _ rfl|refine ⟨?_, ?_⟩|fail))⟩
    · have h0 : ¬ chkI a = 0 := by simpa using h
      exact ⟨⟨chkI a, by rw [show (chkI a != 0) = true by simpa using h0]; rfl⟩, (by refine Wk.of ?_ ?_ rfl rfl rfl<;>repeat' (first|exact trivial|exact WkD.same _|exact WkO.same _ _ rfl|refine ⟨?_, ?_⟩|fail))⟩
  rintro ⟨e, he⟩
  by_cases hc0 : chkI a = 0
  case neg =>
    have e3 : (chkI a != 0) = true := by simpa using hc0
    have he1 : e = chkI a := by rw [he, e3]; rfl
    have hv : aftI a ev f = ([], e) := by rw [aftI, e3, he1]; rfl
    have e4 : (e != 0) = true := by rw [he1]; exact e3
    (try conv=>whnf);repeat' (first|(apply And.intro<;>try conv=>whnf)|(intro h;first|with_reducible exact tf (by assumption) h|try conv=>whnf)|fail)
    · rw [hv]; exact le_nilF _
    all_goals exact absurd ((show (e != 0) = false by assumption).symm.trans e4) (by decide)
  have he2 : e = check f := by rw [he, hc0]; rfl
  subst he2
  rw [aft_ref hc0]
  obtain ⟨c1, c2, c3, c4⟩ := chk_ok hc0
  (try conv=>whnf);repeat' (first|(apply And.intro<;>try conv=>whnf)|(intro h;try conv=>whnf)|apply True.intro|(apply WhenQ.mk;(try conv=>whnf);rotate_left;(try conv=>whnf);rotate_right)|with_reducible assumption|(apply not_of;with_reducible assumption)|(refine PureFn.dcq (f := 31) rfl ?_;try conv=>whnf)|(refine PureFn.dcq (f := 32) rfl ?_;try conv=>whnf)|(refine PureFn.dcq (f := 33) rfl ?_;try conv=>whnf)|(refine ⟨_, _, ref_Frags ?_, ?_, ?_⟩;rotate_left 1;(focus first|(refine ⟨?_, trivial⟩<;>first|exact PLe.refl _|exact PLe.nil)|exact trivial);try conv=>whnf)|(refine ⟨_, _, hT, ?_, ?_⟩;(focus first|(refine ⟨?_, ?_, ?_, trivial⟩<;>first|exact PLe.refl _|exact PLe.nil)|exact trivial);try conv=>whnf)|(refine ⟨_, _, ref_Compact ?_, ?_, ?_⟩;rotate_left 1;(focus first|(refine ⟨?_, trivial⟩<;>first|exact PLe.refl _|exact PLe.nil)|exact trivial);try conv=>whnf)|fail)
  · rw [show (check f != 0) = true from h]; exact le_nilF _
  · rename_i h2
    have hb : badEv a ev = true := by rw [badEv, ← e2]; exact h
    rw [show (check f != 0) = false from h2, hb]; exact le_nilF _
  · rename_i h2 h3
    have hb : badEv a ev = false := by rw [badEv, ← e2]; exact h3
    rw [show (check f != 0) = false from h2, hb, show (nand64' (frags f : Nat) 7 != 0) = true from h]; exact le_nilF _
  · rename_i h2 h3 h4
    have hb : badEv a ev = false := by rw [badEv, ← e2]; exact h3
    rw [show (check f != 0) = false from h2, hb, show (nand64' (frags f : Nat) 7 != 0) = false from h4, show (!fits f (a.rel.length : Int) 8) = true from h]; exact le_nilF _
  rename_i h2 h3 h4
  have hb : badEv a ev = false := by rw [badEv, ← e2]; exact h3
  have h5 : (!fits f (a.rel.length : Int) 8) = false := h
  rw [show (check f != 0) = false from h2, hb, show (nand64' (frags f : Nat) 7 != 0) = false from h4, h5]
  simp only [cond_false]
  obtain ⟨k, rfl, hk⟩ := badEv_no hb
  have hcf : check f = 0 := by simpa using h2
  have hst : (bif !stB f then true else and64 (frags f : Nat) 8 != 0) = false := by rw [← frag_7]; exact h4
  have hsb : stB f = true := by
    cases q : stB f with
    | true => rfl
    | false => rw [q] at hst; cases hst
  have hc13 : (and64 (frags f : Nat) 8 != 0) = false := by rw [hsb] at hst; exact hst
  have hs : statI (a.rel.length : Nat) (8 : Nat) f = 0 := stat_of hcf hsb (by simpa using h5)
  have hop := aft_ok c2 c3 (statM_iff.1 hs).2 hc13
  have hlen := comp_len f
  have hpos := comp_pos hcf
  have hokl := comp_okl f
  have hn := c1.n8
  rw [Int.toNat_natCast]
  unfold AftOk at hop
  clear h h2 h3 h4 h5 hb hst hsb hc13 hs hT hFe hC hc0
  unfold aftF
  generalize comp f = c at *
  refine ⟨{ q : Nat × List (List (List Nd)) // q.1 ≤ c.length ∧ q.2.length = q.1 ∧ redE [] (evHd a) c [] = redE [] (evHd a) (c.drop q.1) q.2 ∧ ∀ z, z ∈ q.2 → z.length = a.pre.length }, fun q => [(1, .pv (i64 k)), (3, .ref 0 0), (9, .pv (fpv c)), (10, .buf 1 (rowsP q.1.2).length), (11, .pv (i64 q.1.1))], fun _ => 2, fun q => [(0, .var (cellsA a)), (1, .arr 1 (rowsP q.1.2))], fun q => c.length - q.1.1,
    ⟨⟨(0, []), Nat.zero_le _, rfl, rfl, fun z hz => by cases hz⟩, (by refine Wk.of ?_ ?_ rfl rfl rfl<;>repeat' (first|exact trivial|exact WkD.same _|exact WkO.same _ _ rfl|exact WkD.new' rfl rfl rfl|exact WkO.new _ _ rfl|exact rfl|refine ⟨?_, ?_⟩|fail))⟩, ?_⟩
  rintro ⟨⟨i, T⟩, hi, hl, he, hTl⟩
  simp only at hi hl he hTl
  have hrl := rowsP_len T
  (try conv=>whnf);repeat' (first|(apply And.intro<;>try conv=>whnf)|(intro h;try conv=>whnf)|fail)
  · have hi' : i < c.length := by simpa using h
    obtain ⟨x, hx⟩ : ∃ x, c[i]? = some x := ⟨_, List.getElem?_eq_getElem hi'⟩
    have ok := hokl i x hx
    obtain ⟨o1, o2, o3⟩ := hop x (List.mem_iff_getElem?.2 ⟨i, hx⟩)
    have hUX : usesX x.op = true → ∃ k : Nat, x.x = k ∧ k < T.length := fun u => ⟨x.x.toNat, by have := ok.x u; omega, by have := ok.x u; omega⟩
    have hUY : usesY x.op = true → ∃ k : Nat, x.y = k ∧ k < T.length := fun u => ⟨x.y.toNat, by have := ok.y u; omega, by have := ok.y u; omega⟩
    try conv=>whnf
    refine ⟨{ X : List (List Nd) // X = bif usesX x.op then T.getD x.x.toNat [] else [] }, fun X => [(1, .pv (i64 k)), (3, .ref 0 0), (9, .pv (fpv c)), (10, .buf 1 (rowsP T).length), (11, .pv (i64 i)), (12, .pv (.sl (X.1.map fpv))), (13, .pv (.sl [])), (14, .pv .nil)], fun _ => 2, fun _ => [(0, .var (cellsA a)), (1, .arr 1 (rowsP T))], ?_, ?_⟩
    · (try conv=>whnf);repeat' (first|(apply And.intro<;>try conv=>whnf)|(intro h;try conv=>whnf)|(apply infoT;rfl)|(refine ⟨_, _, rfl, idx_map (by with_reducible assumption), rfl, ?_⟩;try conv=>whnf)|(refine PureFn.dcq (f := 34) rfl ?_;try conv=>whnf)|(refine ⟨_, _, ref_UsesX ?_, ?_, ?_⟩;rotate_left 1;(focus first|(refine ⟨?_, trivial⟩<;>first|exact PLe.refl _|exact PLe.nil)|exact trivial);try conv=>whnf)|fail)
      · obtain ⟨k', hk1, hk2⟩ := hUX h
        refine ⟨k', hk1, (show k' < (rowsP T).length by omega), ?_⟩
        (try conv=>whnf);repeat' (first|(apply And.intro<;>try conv=>whnf)|fail)
        refine ⟨_, rowsP_get hk2, ?_⟩
        try conv=>whnf
        exact ⟨⟨T.getD k' [], by rw [h, hk1]; rfl⟩, (by refine Wk.of ?_ ?_ rfl rfl rfl<;>repeat' (first|exact trivial|exact WkD.same _|exact WkO.same _ _ rfl|exact WkD.nil _ (Or.inl rfl)|refine ⟨?_, ?_⟩|fail))⟩
      · exact ⟨⟨[], by rw [h]; rfl⟩, (by refine Wk.of ?_ ?_ rfl rfl rfl<;>repeat' (first|exact trivial|exact WkD.same _|exact WkO.same _ _ rfl|exact WkD.nil _ (Or.inl rfl)|refine ⟨?_, ?_⟩|fail))⟩
    rintro ⟨X, hX⟩
    try conv=>whnf
    refine ⟨{ Y : List (List Nd) // Y = bif usesY x.op then T.getD x.y.toNat [] else [] }, fun Y => [(1, .pv (i64 k)), (3, .ref 0 0), (9, .pv (fpv c)), (10, .buf 1 (rowsP T).length), (11, .pv (i64 i)), (12, .pv (.sl (X.map fpv))), (13, .pv (.sl (Y.1.map fpv))), (14, .pv .nil)], fun _ => 2, fun _ => [(0, .var (cellsA a)), (1, .arr 1 (rowsP T))], ?_, ?_⟩
    · (try conv=>whnf);repeat' (first|(apply And.intro<;>try conv=>whnf)|(intro h;try conv=>whnf)|(apply infoT;rfl)|(refine ⟨_, _, rfl, idx_map (by with_reducible assumption), rfl, ?_⟩;try conv=>whnf)|(refine PureFn.dcq (f := 35) rfl ?_;try conv=>whnf)|(refine ⟨_, _, ref_UsesY ?_, ?_, ?_⟩;rotate_left 1;(focus first|(refine ⟨?_, trivial⟩<;>first|exact PLe.refl _|exact PLe.nil)|exact trivial);try conv=>whnf)|fail)
      · obtain ⟨k', hk1, hk2⟩ := hUY h
        refine ⟨k', hk1, (show k' < (rowsP T).length by omega), ?_⟩
        (try conv=>whnf);repeat' (first|(apply And.intro<;>try conv=>whnf)|fail)
        refine ⟨_, rowsP_get hk2, ?_⟩
        try conv=>whnf
        exact ⟨⟨T.getD k' [], by rw [h, hk1]; rfl⟩, (by refine Wk.of ?_ ?_ rfl rfl rfl<;>repeat' (first|exact trivial|exact WkD.same _|exact WkO.same _ _ rfl|refine ⟨?_, ?_⟩|fail))⟩
      · exact ⟨⟨[], by rw [h]; rfl⟩, (by refine Wk.of ?_ ?_ rfl rfl rfl<;>repeat' (first|exact trivial|exact WkD.same _|exact WkO.same _ _ rfl|refine ⟨?_, ?_⟩|fail))⟩
    rintro ⟨Y, hY⟩
    have hcg : evHd a x (T.getD x.x.toNat []) (T.getD x.y.toNat []) = evHd a x X Y := evHd_cong (fun u => by rw [hX, u]; rfl) (fun u => by rw [hY, u]; rfl)
    have hXl : usesX x.op = true → X.length = a.pre.length := fun u => by
      obtain ⟨k', hk1, hk2⟩ := hUX u
      rw [hX, u, cond_true]
      exact hTl _ (List.mem_of_getElem? (getD_mem (by omega)))
    have hYl : usesY x.op = true → Y.length = a.pre.length := fun u => by
      obtain ⟨k', hk1, hk2⟩ := hUY u
      rw [hY, u, cond_true]
      exact hTl _ (List.mem_of_getElem? (getD_mem (by omega)))
    have hBd := fun e he => rr_body a 8 c1 hS.fit hS.rel hS.post e he x _ ok o1 o2 o3 X Y hXl hYl
    have hrow := row_len a x X Y
    have hrt : ((evRow a x X Y).take a.pre.length).map fpv = (evRow a x X Y).map fpv := by rw [← hrow, List.take_length]
    try conv=>whnf
    refine ⟨{ _x : Unit // ∀ e', e' < a.pre.length → impL (a.pre.getD e' []) (evBod a e' x X Y) ≠ [] }, fun _ => [(1, .pv (i64 k)), (3, .ref 0 0), (9, .pv (fpv c)), (10, .buf 1 (rowsP T).length), (11, .pv (i64 i)), (14, .pv (.sl (((evRow a x X Y).take a.pre.length).map fpv)))], fun _ => 3, fun _ => [(0, .var (cellsA a)), (1, .arr 1 (rowsP T))], ?_, ?_⟩
    · try conv=>whnf
      refine ⟨{ e : Nat // e ≤ a.pre.length ∧ ∀ e', e' < e → impL (a.pre.getD e' []) (evBod a e' x X Y) ≠ [] }, fun e => [(1, .pv (i64 k)), (3, .ref 0 0), (9, .pv (fpv c)), (10, .buf 1 (rowsP T).length), (11, .pv (i64 i)), (12, .pv (.sl (X.map fpv))), (13, .pv (.sl (Y.map fpv))), (14, .buf 2 (((evRow a x X Y).take e.1).map fpv).length), (15, .pv (i64 e.1))], fun _ => 3, fun e => [(0, .var (cellsA a)), (1, .arr 1 (rowsP T)), (2, .arr 1 (((evRow a x X Y).take e.1).map fpv))], fun e => a.pre.length - e.1, ⟨⟨0, Nat.zero_le _, fun e' h => by omega⟩, (by refine Wk.of ?_ ?_ rfl rfl rfl<;>repeat' (first|exact trivial|exact WkD.same _|exact WkO.same _ _ rfl|exact WkD.new' rfl rfl rfl|exact WkO.new _ _ rfl|exact rfl|refine ⟨?_, ?_⟩|fail))⟩, ?_⟩
      rintro ⟨e, hie, hne⟩
      (try conv=>whnf);repeat' (first|(apply And.intro<;>try conv=>whnf)|(intro h;try conv=>whnf)|fail)
      · have hie' : e < a.pre.length := by simpa using lt_dec h
        have hpre : a.pre[e]? = some (a.pre.getD e []) := getD_mem hie'
        have hB := hBd e hie'
        have hI0 := ref_Imp (a.pre.getD e []) (evBod a e x X Y)
        have hrtk := row_take (a := a) (x := x) (X := X) (Y := Y) hie'
        obtain ⟨z, hz⟩ : ∃ z, impL (a.pre.getD e []) (evBod a e x X Y) = z := ⟨_, rfl⟩
        rw [hz] at hrtk
        have hI : PureFn Tryz.prog 36 [fpv (a.pre.getD e []), fpv (evBod a e x X Y)] (fpv z) := hz ▸ hI0
        clear hI0
        refine ⟨Plan.lin 0 16, [], by kernel_rfl, ?_⟩
        (try conv=>whnf);repeat' (first|(apply And.intro<;>try conv=>whnf)|(intro h;try conv=>whnf)|(apply infoT;rfl)|(apply cellsI;rfl)|(apply szI;rfl)|(refine ⟨_, _, rfl, idx_map (by with_reducible assumption), rfl, ?_⟩;try conv=>whnf)|(refine ⟨_, (by (conv=>whnf);exact hB), rfl, ?_⟩;try conv=>whnf)|(refine ⟨_, (by (conv=>whnf);exact hI), rfl, ?_⟩;try conv=>whnf)|fail)
        · have hz0 : z = [] := by
            have : (((z.map Nd.pv).length : Nat) : Int) = 0 := by simpa using h
            rw [List.length_map] at this
            exact List.eq_nil_of_length_eq_zero (by omega)
          have hno := redE_no (e := 8) hx (hcg.trans (evHd_no hie' (hz.trans hz0))) rfl
          rw [he, hno]; exact le_nilF _
        · show (((evRow a x X Y).take e).map fpv).length + 1 ≤ 4294967296
          rw [List.length_map, List.length_take]; omega
        · have hz0 : z ≠ [] := fun q => by subst q; exact absurd h (by decide)
          refine ⟨⟨e + 1, hie', fun e' he' => ?_⟩, by show a.pre.length - (e + 1) < a.pre.length - e; omega, ?_⟩
          · by_cases q : e' = e
            · rw [q, hz]; exact hz0
            · exact hne e' (by omega)
          · (refine Wk.of ?_ ?_ rfl rfl rfl<;>repeat' (first|exact trivial|exact WkD.same _|exact WkO.same _ _ rfl|exact WkD.eq (congrArg (fun z : List PV => DV.buf _ z.length) hrtk)|exact WkO.same _ _ (congrArg (fun z => some (DObj.arr _ z)) hrtk)|refine WkD.int ?_|refine ⟨?_, ?_⟩|(refine wrapA ?_ ?_ ?_;(focus simp;done);(focus (try dsimp only);omega);(focus (try dsimp only);omega))|fail))
      · have hie' : e = a.pre.length := by have := ge_dec (m := (a.pre.map fpv).length) h (by simpa using hie); simpa using this
        subst hie'
        exact ⟨⟨(), hne⟩, (by refine Wk.of ?_ ?_ rfl rfl rfl<;>repeat' (first|exact trivial|exact WkD.same _|exact WkO.same _ _ rfl|exact WkD.fz _ _ _ rfl (Or.inl ⟨_, rfl⟩) rfl|refine ⟨?_, ?_⟩|fail))⟩
    rintro ⟨_, hne⟩
    have hyes := redE_yes (z := evRow a x X Y) (e := 0) hx (hcg.trans (evHd_yes hne)) rfl
    have hm : rowsP T ++ [.sl (((evRow a x X Y).take a.pre.length).map fpv)] = rowsP (T ++ [evRow a x X Y]) := by rw [hrt, rowsP_snoc]
    (try conv=>whnf);repeat' (first|(apply And.intro<;>try conv=>whnf)|(apply cellsI;rfl)|(apply szI;rfl)|fail)
    · show (rowsP T).length + 1 ≤ 4294967296
      omega
    · refine ⟨⟨(i + 1, T ++ [evRow a x X Y]), hi', by simp [hl], by rw [he, hyes], fun z hz => ?_⟩, by show c.length - (i + 1) < c.length - i; omega, ?_⟩
      · rcases List.mem_append.1 hz with q | q
        · exact hTl z q
        · rw [List.mem_singleton.1 q]; exact hrow
      (refine Wk.of ?_ ?_ rfl rfl rfl<;>repeat' (first|exact trivial|exact WkD.same _|exact WkO.same _ _ rfl|exact WkD.eq (congrArg (fun z : List PV => DV.buf _ z.length) hm)|exact WkO.same _ _ (congrArg (fun z => some (DObj.arr _ z)) hm)|refine WkD.int ?_|refine ⟨?_, ?_⟩|(refine wrapA ?_ ?_ ?_;(focus simp;done);(focus (try dsimp only);omega);(focus (try dsimp only);omega))|fail))
  · have hi' : i = c.length := by have := ge_dec (m := (c.map Nd.pv).length) h (by simpa using hi); simpa using this
    subst hi'
    rw [redE_end] at he
    have hw : IntKind.wrap .i64 (((rowsP T).length : Int) - 1) = ((T.length - 1 : Nat) : Int) := by
      rw [hrl]; exact wrapA (by omega) (by omega) (by omega)
    have hlast : (T.getD (T.length - 1) []).length = a.pre.length := hTl _ (List.mem_of_getElem? (getD_mem (by omega)))
    have hg := getD_mem (l := T.getD (T.length - 1) []) (i := k) (d := []) (by omega)
    refine ⟨T.length - 1, hw, (show T.length - 1 < (rowsP T).length by omega), ?_⟩
    (try conv=>whnf);repeat' (first|(apply And.intro<;>try conv=>whnf)|fail)
    refine ⟨_, rowsP_get (show T.length - 1 < T.length by omega), ?_⟩
    (try conv=>whnf);repeat' (first|(apply And.intro<;>try conv=>whnf)|(apply infoT;rfl)|(refine ⟨_, _, rfl, idx_map (by with_reducible assumption), rfl, ?_⟩;try conv=>whnf)|fail)
    exact le_pairF (a := ((T.getD (T.length - 1) []).getD k [], 0)) (by rw [he]; rfl)
end Go.Proofs.YtibbphifegibkaaGreat
set_option maxRecDepth 100000
set_option maxHeartbeats 4000000
namespace Go.Proofs.YtibbphifegibkaaGreat
open Go Go.Dv

def badRd (acts : List Act) (x : Nd) : Bool := bif x.op == 17 then (bif decide (x.i ≥ (acts.length : Int)) then true else decide (x.e ≥ ((acts.getD x.i.toNat noAct).pre.length : Int))) else false
def difR (acts : List Act) (a : Act) : Bool := (a.rel.length : Int) != ((acts.getD 0 noAct).rel.length : Int)
def envE : List Act → Int
  | [] => 0
  | a :: r => bif chkI a != 0 then chkI a else envE r
def fitR (acts : List Act) (f : List Nd) : Bool := bif decide ((acts.length : Int) > 0) then !fits f ((acts.getD 0 noAct).rel.length : Int) 8 else false
def rqI (acts : List Act) (f : List Nd) : Int :=
  bif decide ((acts.length : Int) > 8) then 8 else bif acts.any (difR acts) then 1 else bif envE acts != 0 then envE acts else bif check f != 0 then check f
  else bif nand64' (frags f : Nat) 207 != 0 then 10 else bif (comp f).any (badRd acts) then 6 else bif fitR acts f then 2 else 0
def HRq (acts : List Act) : List (Nat × DObj) := [(0, .var [.pv (actsPV acts)])]
theorem WkD.bol {L : DH} {H : List (Nat × DObj)} {a b : Bool} (h : a = b) : WkD L H (.pv (.bool a)) (.pv (.bool b)) := h ▸ .same _
theorem rq1 {M : Nat → Prop} {w0 : World} (acts : List Act) (a : Act) (h0 : acts ≠ []) (base : Nat) (K : DV → DH → Prop) (hK : K (.pv (.bool (difR acts a))) ⟨1, 0, base, objsOf (HRq acts)⟩) :
    DC Tryz.prog M w0 71 [.agg (cellsA a), .ref 0 0] ⟨1, 0, base, objsOf (HRq acts)⟩ K := by
  obtain ⟨b, r, rfl⟩ : ∃ b r, acts = b :: r := by
    cases acts with
    | nil => exact absurd rfl h0
    | cons b r => exact ⟨b, r, rfl⟩
  have hb : (b :: r)[0]? = some b := rfl
  have e1 : ((a.rel.map rowPV).length : Int) = (a.rel.length : Int) := by simp
  have e2 : ((b.rel.map rowPV).length : Int) = (b.rel.length : Int) := by simp
  have hd : difR (b :: r) a = (((a.rel.map rowPV).length : Int) != ((b.rel.map rowPV).length : Int)) := by rw [e1, e2]; rfl
  rw [hd] at hK
  refine DC.weaken (DC.intro mixed (fn := Tryz.f71) rfl rfl rfl ?_)
  (try conv=>whnf);repeat' (first|(apply And.intro<;>try conv=>whnf)|(apply infoT;rfl)|(refine lin_plan (by kernel_rfl) ?_;try conv=>whnf)|(refine ⟨_, _, rfl, idx_map (by with_reducible assumption), rfl, ?_⟩;try conv=>whnf)|fail)
  exact ⟨_, 1, HRq (b :: r), (by refine Wk.of ?_ ?_ rfl rfl rfl<;>repeat' (first|exact trivial|exact WkD.same _|exact WkO.same _ _ rfl|refine ⟨?_, ?_⟩|fail)), hK⟩
theorem rq2 {M : Nat → Prop} {w0 : World} (acts : List Act) (x : Nd) (hx : x.op = 17 → 0 ≤ x.i) (base : Nat) (K : DV → DH → Prop) (hK : K (.pv (.bool (badRd acts x))) ⟨1, 0, base, objsOf (HRq acts)⟩) :
    DC Tryz.prog M w0 73 [.agg x.dvs, .ref 0 0] ⟨1, 0, base, objsOf (HRq acts)⟩ K := by
  obtain ⟨op, fi, ei, gi, xx, yy⟩ := x
  simp only at hx
  have e1 : ((acts.map Act.pv).length : Int) = (acts.length : Int) := by simp
  refine DC.weaken (DC.intro mixed (fn := Tryz.f73) rfl rfl rfl ?_)
  cases h17 : (op == 17) with
  | false =>
    have hb : badRd acts ⟨op, fi, ei, gi, xx, yy⟩ = false := by
      show (bif op == 17 then _ else false) = false
      rw [h17]; rfl
    rw [hb] at hK
    have hoff : (op == 17 && !false) = false := by rw [h17]; rfl
    (try conv=>whnf);repeat' (first|(apply And.intro<;>try conv=>whnf)|(intro h;first|with_reducible exact tf h (by assumption)|try conv=>whnf)|(apply whenOff;(focus with_reducible assumption);try conv=>whnf)|(refine lin_plan (by kernel_rfl) ?_;try conv=>whnf)|fail)
    refine ⟨_, 1, HRq acts, ?_, hK⟩
    refine Wk.of ⟨WkD.bol ?_, trivial⟩ ⟨WkO.same _ _ rfl, trivial, trivial⟩ rfl rfl rfl
    rw [h17]
    rfl
  | true =>
    have e17 : op = 17 := by simpa using h17
    have h0 := hx e17
    cases hge : decide (fi ≥ ((acts.map Act.pv).length : Int)) with
    | true =>
      have hb : badRd acts ⟨op, fi, ei, gi, xx, yy⟩ = true := by
        show (bif op == 17 then (bif decide (fi ≥ (acts.length : Int)) then true else _) else false) = true
        rw [h17, ← e1, hge]; rfl
      rw [hb] at hK
      have hoff : (op == 17 && !decide (fi ≥ ((acts.map Act.pv).length : Int))) = false := by rw [h17, hge]; rfl
      (try conv=>whnf);repeat' (first|(apply And.intro<;>try conv=>whnf)|(intro h;first|with_reducible exact tf (by assumption) h|try conv=>whnf)|apply True.intro|(apply whenOff;(focus with_reducible assumption);try conv=>whnf)|(apply WhenQ.mk;(try conv=>whnf);rotate_left;(try conv=>whnf);rotate_right)|with_reducible assumption|(refine lin_plan (by kernel_rfl) ?_;try conv=>whnf)|fail)
      refine ⟨_, 1, HRq acts, ?_, hK⟩
      refine Wk.of ⟨WkD.bol ?_, trivial⟩ ⟨WkO.same _ _ rfl, trivial, trivial⟩ rfl rfl rfl
      rw [h17]
      show (bif decide (fi ≥ ((acts.map Act.pv).length : Int)) then true else _) = _
      rw [hge]; rfl
    | false =>
      have hlt := of_decide_eq_false hge
      rw [e1] at hlt
      obtain ⟨q, eq⟩ : ∃ q : Nat, fi = q := ⟨fi.toNat, by omega⟩
      subst eq
      obtain ⟨a, ha, had⟩ : ∃ a, acts[q]? = some a ∧ acts.getD q noAct = a := ⟨_, getD_mem (by omega), rfl⟩
      have hb : badRd acts ⟨op, (q : Int), ei, gi, xx, yy⟩ = decide (ei ≥ ((a.pre.map fpv).length : Int)) := by
        show (bif op == 17 then (bif decide ((q : Int) ≥ (acts.length : Int)) then true else decide (ei ≥ ((acts.getD (q : Int).toNat noAct).pre.length : Int))) else false) = _
        rw [h17, ← e1, hge, Int.toNat_natCast, had, List.length_map]; rfl
      rw [hb] at hK
      (try conv=>whnf);repeat' (first|(apply And.intro<;>try conv=>whnf)|(intro h;try conv=>whnf)|apply True.intro|(apply infoT;rfl)|(apply WhenQ.mk;(try conv=>whnf);rotate_left;(try conv=>whnf);rotate_right)|with_reducible assumption|(apply and_of<;>first|with_reducible assumption|(apply not_of;with_reducible assumption))|(refine lin_plan (by kernel_rfl) ?_;try conv=>whnf)|(refine ⟨_, _, rfl, idx_map (by with_reducible assumption), rfl, ?_⟩;try conv=>whnf)|fail)
      refine ⟨_, 1, HRq acts, ?_, hK⟩
      refine Wk.of ⟨WkD.bol ?_, trivial⟩ ⟨WkO.same _ _ rfl, trivial, trivial⟩ rfl rfl rfl
      rw [h17]
      show (bif decide ((q : Int) ≥ ((acts.map Act.pv).length : Int)) then true else _) = _
      rw [hge]; rfl
theorem rqN_ix {M : Nat → Prop} {w0 : World} (acts : List Act) (l : List Nd) (hl : l.length ≤ 1000) (hs : ∀ x, x ∈ l → x.op = 17 → 0 ≤ x.i) (base : Nat) (K : DV → DH → Prop) (hK : ∀ r : Int, decide (r ≥ 0) = l.any (badRd acts) → K (.pv (.int .i64 r)) ⟨1, 0, base, objsOf (HRq acts)⟩) :
    DC Tryz.prog M w0 112 [.pv (.sl (l.map Nd.pv)), .clo 73 [] [.ref 0 0]] ⟨1, 0, base, objsOf (HRq acts)⟩ K := by
  refine DC.weaken (DC.intro mixed (fn := Tryz.f112) rfl rfl rfl ?_)
  try conv=>whnf
  refine ⟨{ i : Nat // i ≤ l.length ∧ (l.take i).any (badRd acts) = false }, fun i => [(0, .pv (.sl (l.map Nd.pv))), (1, .clo 73 [] [.ref 0 0]), (7, .pv (i64 (l.map Nd.pv).length)), (8, .pv (i64 i.1))], fun _ => 1, fun _ => HRq acts, fun i => l.length - i.1, ⟨⟨0, Nat.zero_le _, rfl⟩, (by refine Wk.of ?_ ?_ rfl rfl rfl<;>repeat' (first|exact trivial|exact WkD.same _|exact WkO.same _ _ rfl|refine ⟨?_, ?_⟩|fail))⟩, ?_⟩
  rintro ⟨i, hi, ha⟩
  (try conv=>whnf);repeat' (first|(apply And.intro<;>try conv=>whnf)|(intro h;try conv=>whnf)|(apply infoT;rfl)|fail)
  · have hi' : i < l.length := by simpa using lt_dec h
    have hm : l[i]? = some l[i] := List.getElem?_eq_getElem hi'
    have hsi := hs _ (List.getElem_mem hi')
    refine ⟨_, _, rfl, idx_map hm, rfl, ?_⟩
    try conv=>whnf
    refine rq2 acts l[i] hsi _ _ ?_
    (try conv=>whnf);repeat' (first|(apply And.intro<;>try conv=>whnf)|(intro h;try conv=>whnf)|fail)
    · have e : l.any (badRd acts) = true := any_at hi' h
      exact ⟨.pv (.int .i64 (i : Int)), 1, HRq acts, (by refine Wk.of ?_ ?_ rfl rfl rfl<;>repeat' (first|exact trivial|exact WkD.same _|exact WkO.same _ _ rfl|refine ⟨?_, ?_⟩|fail)), hK i (by rw [e]; simp)⟩
    · exact ⟨⟨i + 1, hi', any_take hi' ha h⟩, by show l.length - (i + 1) < l.length - i; omega, (by refine Wk.of ?_ ?_ rfl rfl rfl<;>repeat' (first|exact trivial|exact WkD.same _|exact WkO.same _ _ rfl|refine WkD.int ?_|refine ⟨?_, ?_⟩|(refine wrapA ?_ ?_ ?_;(focus simp;done);(focus (try dsimp only);omega);(focus (try dsimp only);omega))|fail))⟩
  · have hi' : i = l.length := by have := ge_dec (m := (l.map Nd.pv).length) h (by simpa using hi); simpa using this
    subst hi'
    rw [List.take_length] at ha
    exact ⟨.pv (.int .i64 (-1)), 1, HRq acts, (by refine Wk.of ?_ ?_ rfl rfl rfl<;>repeat' (first|exact trivial|exact WkD.same _|exact WkO.same _ _ rfl|refine ⟨?_, ?_⟩|fail)), hK (-1) (by rw [ha]; decide)⟩
theorem rqN_ct {M : Nat → Prop} {w0 : World} (acts : List Act) (l : List Nd) (hl : l.length ≤ 1000) (hs : ∀ x, x ∈ l → x.op = 17 → 0 ≤ x.i) (base : Nat) (K : DV → DH → Prop) (hK : K (.pv (.bool (l.any (badRd acts)))) ⟨1, 0, base, objsOf (HRq acts)⟩) :
    DC Tryz.prog M w0 72 [.pv (.sl (l.map Nd.pv)), .clo 73 [] [.ref 0 0]] ⟨1, 0, base, objsOf (HRq acts)⟩ K := by
  refine DC.intro mixed (fn := Tryz.f72) rfl rfl rfl ?_
  try conv=>whnf
  refine rqN_ix acts l hl hs 1 _ fun r e => ?_
  rw [← e] at hK
  try conv=>whnf
  exact hK
theorem rqA_ix {M : Nat → Prop} {w0 : World} (acts : List Act) (l : List Act) (hl : l.length ≤ 1000) (hs : ∀ x, x ∈ l → acts ≠ []) (base : Nat) (K : DV → DH → Prop) (hK : ∀ r : Int, decide (r ≥ 0) = l.any (difR acts) → K (.pv (.int .i64 r)) ⟨1, 0, base, objsOf (HRq acts)⟩) :
    DC Tryz.prog M w0 111 [.pv (.sl (l.map Act.pv)), .clo 71 [] [.ref 0 0]] ⟨1, 0, base, objsOf (HRq acts)⟩ K := by
  refine DC.weaken (DC.intro mixed (fn := Tryz.f111) rfl rfl rfl ?_)
  try conv=>whnf
  refine ⟨{ i : Nat // i ≤ l.length ∧ (l.take i).any (difR acts) = false }, fun i => [(0, .pv (.sl (l.map Act.pv))), (1, .clo 71 [] [.ref 0 0]), (7, .pv (i64 (l.map Act.pv).length)), (8, .pv (i64 i.1))], fun _ => 1, fun _ => HRq acts, fun i => l.length - i.1, ⟨⟨0, Nat.zero_le _, rfl⟩, (by refine Wk.of ?_ ?_ rfl rfl rfl<;>repeat' (first|exact trivial|exact WkD.same _|exact WkO.same _ _ rfl|refine ⟨?_, ?_⟩|fail))⟩, ?_⟩
  rintro ⟨i, hi, ha⟩
  (try conv=>whnf);repeat' (first|(apply And.intro<;>try conv=>whnf)|(intro h;try conv=>whnf)|(apply infoT;rfl)|fail)
  · have hi' : i < l.length := by simpa using lt_dec h
    have hm : l[i]? = some l[i] := List.getElem?_eq_getElem hi'
    have hsi := hs _ (List.getElem_mem hi')
    refine ⟨_, _, rfl, idx_map hm, rfl, ?_⟩
    try conv=>whnf
    refine rq1 acts l[i] hsi _ _ ?_
    (try conv=>whnf);repeat' (first|(apply And.intro<;>try conv=>whnf)|(intro h;try conv=>whnf)|fail)
    · have e : l.any (difR acts) = true := any_at hi' h
      exact ⟨.pv (.int .i64 (i : Int)), 1, HRq acts, (by refine Wk.of ?_ ?_ rfl rfl rfl<;>repeat' (first|exact trivial|exact WkD.same _|exact WkO.same _ _ rfl|refine ⟨?_, ?_⟩|fail)), hK i (by rw [e]; simp)⟩
    · exact ⟨⟨i + 1, hi', any_take hi' ha h⟩, by show l.length - (i + 1) < l.length - i; omega, (by refine Wk.of ?_ ?_ rfl rfl rfl<;>repeat' (first|exact trivial|exact WkD.same _|exact WkO.same _ _ rfl|refine WkD.int ?_|refine ⟨?_, ?_⟩|(refine wrapA ?_ ?_ ?_;(focus simp;done);(focus (try dsimp only);omega);(focus (try dsimp only);omega))|fail))⟩
  · have hi' : i = l.length := by have := ge_dec (m := (l.map Act.pv).length) h (by simpa using hi); simpa using this
    subst hi'
    rw [List.take_length] at ha
    exact ⟨.pv (.int .i64 (-1)), 1, HRq acts, (by refine Wk.of ?_ ?_ rfl rfl rfl<;>repeat' (first|exact trivial|exact WkD.same _|exact WkO.same _ _ rfl|refine ⟨?_, ?_⟩|fail)), hK (-1) (by rw [ha]; decide)⟩
theorem rqA_ct {M : Nat → Prop} {w0 : World} (acts : List Act) (l : List Act) (hl : l.length ≤ 1000) (hs : ∀ x, x ∈ l → acts ≠ []) (base : Nat) (K : DV → DH → Prop) (hK : K (.pv (.bool (l.any (difR acts)))) ⟨1, 0, base, objsOf (HRq acts)⟩) :
    DC Tryz.prog M w0 70 [.pv (.sl (l.map Act.pv)), .clo 71 [] [.ref 0 0]] ⟨1, 0, base, objsOf (HRq acts)⟩ K := by
  refine DC.intro mixed (fn := Tryz.f70) rfl rfl rfl ?_
  try conv=>whnf
  refine rqA_ix acts l hl hs 1 _ fun r e => ?_
  rw [← e] at hK
  try conv=>whnf
  exact hK
end Go.Proofs.YtibbphifegibkaaGreat
set_option maxRecDepth 100000
set_option maxHeartbeats 4000000
namespace Go.Proofs.YtibbphifegibkaaGreat
open Go Go.Dv

theorem envE_drop {acts : List Act} {i : Nat} {a : Act} (h : acts[i]? = some a) : envE (acts.drop i) = bif chkI a != 0 then chkI a else envE (acts.drop (i + 1)) := by
  obtain ⟨h1, h2⟩ := List.getElem?_eq_some_iff.1 h
  rw [List.drop_eq_getElem_cons h1, h2]; rfl
theorem red_request (acts : List Act) (f : List Nd) (hS : ∀ a, a ∈ acts → SmX a) : PureFn Tryz.prog 38 [actsPV acts, fpv f] (.int .i64 (rqI acts f)) := by
  have e1 : ((acts.map Act.pv).length : Int) = (acts.length : Int) := by simp
  have hneg : ∀ x, x ∈ comp f → x.op = 17 → 0 ≤ x.i := fun x hx h17 => by
    obtain ⟨k, hk⟩ := okl_mem (comp_okl f) hx
    exact (hk.act h17).1
  have hlen := comp_len f
  refine PureFn.introC [5, 12] mixed (fn := Tryz.f38) rfl rfl rfl fun M w0 => ?_
  (try conv=>whnf);repeat' (first|(apply And.intro<;>try conv=>whnf)|(intro h;try conv=>whnf)|fail)
  · refine le_int ?_
    rw [rqI, ← e1, show decide (((acts.map Act.pv).length : Int) > 8) = true from h]; rfl
  have hA : decide ((acts.length : Int) > 8) = false := by rw [← e1]; exact h
  have h8 := of_decide_eq_false hA
  have hal : acts.length ≤ 8 := by omega
  clear h h8
  refine ⟨{ _x : Unit // acts.any (difR acts) = false }, fun _ => [(1, .pv (fpv f)), (2, .ref 0 0)], fun _ => 1, fun _ => HRq acts, ?_, ?_⟩
  · try conv=>whnf
    refine rqA_ct acts acts (by omega) (fun x hx e => by rw [e] at hx; cases hx) 0 _ ?_
    (try conv=>whnf);repeat' (first|(apply And.intro<;>try conv=>whnf)|(intro h;try conv=>whnf)|fail)
    · refine le_int ?_
      rw [rqI, hA, show acts.any (difR acts) = true from h]; rfl
    · exact ⟨⟨(), h⟩, (by refine Wk.of ?_ ?_ rfl rfl rfl<;>repeat' (first|exact trivial|exact WkD.same _|exact WkO.same _ _ rfl|refine ⟨?_, ?_⟩|fail))⟩
  rintro ⟨_, h1⟩
  refine ⟨{ _x : Unit // envE acts = 0 }, fun _ => [(1, .pv (fpv f)), (2, .ref 0 0)], fun _ => 1, fun _ => HRq acts, ?_, ?_⟩
  · try conv=>whnf
    refine ⟨{ i : Nat // i ≤ acts.length ∧ envE (acts.drop i) = envE acts }, fun i => [(1, .pv (fpv f)), (2, .ref 0 0), (15, .pv (actsPV acts)), (16, .pv (i64 (acts.map Act.pv).length)), (17, .pv (i64 i.1))], fun _ => 1, fun _ => HRq acts, fun i => acts.length - i.1, ⟨⟨0, Nat.zero_le _, rfl⟩, (by refine Wk.of ?_ ?_ rfl rfl rfl<;>repeat' (first|exact trivial|exact WkD.same _|exact WkO.same _ _ rfl|refine ⟨?_, ?_⟩|fail))⟩, ?_⟩
    rintro ⟨i, hi, hd⟩
    (try conv=>whnf);repeat' (first|(apply And.intro<;>try conv=>whnf)|(intro h;try conv=>whnf)|(apply infoT;rfl)|fail)
    · have hi' : i < acts.length := by simpa using lt_dec h
      obtain ⟨a, ha⟩ : ∃ a, acts[i]? = some a := ⟨_, List.getElem?_eq_getElem hi'⟩
      have hSa := hS a (List.mem_iff_getElem?.2 ⟨i, ha⟩)
      have ea : ((a.rel.map rowPV).length : Int) = (a.rel.length : Int) := by simp
      have hC := ac_Check a (min ((a.rel.map rowPV).length : Int) 4) 8 hSa.fit hSa.rel hSa.post
      have hCe : actI a (min ((a.rel.map rowPV).length : Int) 4) 8 = chkI a := by rw [ea]; rfl
      rw [hCe] at hC
      have hed := envE_drop ha
      refine ⟨_, _, rfl, idx_map ha, rfl, ?_⟩
      (try conv=>whnf);repeat' (first|(apply And.intro<;>try conv=>whnf)|(intro h;try conv=>whnf)|(refine PureFn.dcq (f := 23) rfl ?_;try conv=>whnf)|(refine ⟨_, _, hC, ?_, ?_⟩;(focus first|(refine ⟨?_, ?_, ?_, trivial⟩<;>first|exact PLe.refl _|exact PLe.nil)|exact trivial);try conv=>whnf)|fail)
      · refine le_int ?_
        have hv : envE acts = chkI a := by rw [← hd, hed, show (chkI a != 0) = true from h]; rfl
        rw [rqI, hA, h1, hv, show (chkI a != 0) = true from h]; rfl
      · refine ⟨⟨i + 1, hi', ?_⟩, by show acts.length - (i + 1) < acts.length - i; omega, (by refine Wk.of ?_ ?_ rfl rfl rfl<;>repeat' (first|exact trivial|exact WkD.same _|exact WkO.same _ _ rfl|refine WkD.int ?_|refine ⟨?_, ?_⟩|(refine wrapA ?_ ?_ ?_;(focus simp;done);(focus (try dsimp only);omega);(focus (try dsimp only);omega))|fail))⟩
        rw [← hd, hed, show (chkI a != 0) = false from h]; rfl
    · have hi' : i = acts.length := by have := ge_dec (m := (acts.map Act.pv).length) h (by simpa using hi); simpa using this
      subst hi'
      rw [List.drop_length] at hd
      exact ⟨⟨(), hd.symm⟩, (by refine Wk.of ?_ ?_ rfl rfl rfl<;>repeat' (first|exact trivial|exact WkD.same _|exact WkO.same _ _ rfl|refine ⟨?_, ?_⟩|fail))⟩
  rintro ⟨_, h2⟩
  have hv : rqI acts f = bif check f != 0 then check f else bif nand64' (frags f : Nat) 207 != 0 then 10 else bif (comp f).any (badRd acts) then 6 else bif fitR acts f then 2 else 0 := by
    rw [rqI, hA, h1, h2]; rfl
  (try conv=>whnf);repeat' (first|(apply And.intro<;>try conv=>whnf)|(intro h;try conv=>whnf)|(refine PureFn.dcq (f := 24) rfl ?_;try conv=>whnf)|(refine PureFn.dcq (f := 26) rfl ?_;try conv=>whnf)|(refine PureFn.dcq (f := 39) rfl ?_;try conv=>whnf)|(refine ⟨_, _, fm_Check ?_, ?_, ?_⟩;rotate_left 1;(focus first|(refine ⟨?_, trivial⟩<;>first|exact PLe.refl _|exact PLe.nil)|exact trivial);try conv=>whnf)|(refine ⟨_, _, fm_Frags ?_, ?_, ?_⟩;rotate_left 1;(focus first|(refine ⟨?_, trivial⟩<;>first|exact PLe.refl _|exact PLe.nil)|exact trivial);try conv=>whnf)|(refine ⟨_, _, fm_Compact ?_, ?_, ?_⟩;rotate_left 1;(focus first|(refine ⟨?_, trivial⟩<;>first|exact PLe.refl _|exact PLe.nil)|exact trivial);try conv=>whnf)|fail)
  · refine le_int ?_
    rw [hv, h]; rfl
  · rename_i h3
    refine le_int ?_
    rw [hv, h3, show (nand64' (frags f : Nat) 207 != 0) = true from h]; rfl
  rename_i h3
  have hv : rqI acts f = bif (comp f).any (badRd acts) then 6 else bif fitR acts f then 2 else 0 := by
    rw [hv, h3, show (nand64' (frags f : Nat) 207 != 0) = false from h]; rfl
  refine rqN_ct acts (comp f) (by omega) hneg 0 _ ?_
  cases acts with
  | nil =>
    have hoff : decide (((([] : List Act).map Act.pv).length : Int) > 0) = false := rfl
    have hfr : fitR [] f = false := rfl
    (try conv=>whnf);repeat' (first|(apply And.intro<;>try conv=>whnf)|(intro h;first|with_reducible exact tf h (by assumption)|try conv=>whnf)|(apply whenOff;(focus with_reducible assumption);try conv=>whnf)|fail)
    · refine le_int ?_
      rw [hv, h]; rfl
    · exact absurd (show false = true from h) (by decide)
    · rename_i h5
      refine le_int ?_
      rw [hv, h5, hfr]; rfl
  | cons b r =>
    have eb : ((b.rel.map rowPV).length : Int) = (b.rel.length : Int) := by simp
    have hfr : fitR (b :: r) f = (bif decide (((b :: r).map Act.pv).length > (0 : Int)) then !fits f ((b.rel.map rowPV).length : Int) 8 else false) := by rw [eb, e1]; rfl
    (try conv=>whnf);repeat' (first|(apply And.intro<;>try conv=>whnf)|(intro h;try conv=>whnf)|apply True.intro|(apply infoT;rfl)|(apply WhenQ.mk;(try conv=>whnf);rotate_left;(try conv=>whnf);rotate_right)|with_reducible assumption|(refine PureFn.dcq (f := 27) rfl ?_;try conv=>whnf)|(refine ⟨0, _, rfl, rfl, rfl, ?_⟩;try conv=>whnf)|(refine ⟨_, _, fm_Fits ?_ ?_ ?_, ?_, ?_⟩;rotate_left 3;(focus first|(refine ⟨?_, ?_, ?_, trivial⟩<;>first|exact PLe.refl _|exact PLe.nil)|exact trivial);try conv=>whnf)|fail)
    · refine le_int ?_
      rw [hv, h]; rfl
    · rename_i h5
      refine le_int ?_
      rw [hv, h5, hfr, h]; rfl
    · rename_i h5
      refine le_int ?_
      rw [hv, h5, hfr, h]; rfl
/-- What stepR asks of a node and its operands. -/
structure StepOk (acts : List Act) (x : Nd) (X Y : List Nd) : Prop where
  op : 1 ≤ x.op ∧ (x.op ≤ 13 ∨ x.op = 16 ∨ x.op = 17)
  ann : x.op = 16 → check Y = 0 ∧ ∀ z, z ∈ comp Y → z.op ≤ 13
  act : x.op = 17 → ∃ q ev : Nat, x.i = q ∧ x.e = ev ∧ ∃ a, acts[q]? = some a ∧ acts.getD q noAct = a ∧ SmX a ∧ OkA a a.rel.length 8 ∧ ev < a.pre.length ∧ check X = 0 ∧ ((and64 (frags X : Nat) 8 != 0) = false → AftOk a X)
theorem red_reduced (acts : List Act) (x : Nd) (X Y : List Nd) (h : StepOk acts x X Y) : PureFn Tryz.prog 41 [actsPV acts, x.pv, fpv X, fpv Y] (pairF (stepR acts x X Y)) := by
  have no : ∀ {a b : Int} {p : Prop}, (a == b) = false → a = b → p := fun h e => by rw [e] at h; simp at h
  have hst : stepR acts x X Y = bif x.op == 16 then annF (comp X) (comp Y) else bif x.op == 17 then (bif and64 (frags X : Nat) 8 != 0 then ([], 10) else aftF (acts.getD x.i.toNat noAct) x.e.toNat (comp X)) else nz (apN x X Y) := rfl
  by_cases h16 : x.op = 16
  · obtain ⟨c1, c2⟩ := h.ann h16
    have hA := red_announce X Y c1 c2
    rw [hst, show (x.op == 16) = true by simpa using h16]
    refine PureFn.intro mixed (fn := Tryz.f41) rfl rfl rfl fun M w0 => ?_
    (try conv=>whnf);repeat' (first|(apply And.intro<;>try conv=>whnf)|(intro h;try conv=>whnf)|(refine PureFn.dcq (f := 46) rfl ?_;try conv=>whnf)|(refine ⟨_, _, hA, ?_, ?_⟩;(focus first|(refine ⟨?_, ?_, trivial⟩<;>first|exact PLe.refl _|exact PLe.nil)|exact trivial);try conv=>whnf)|fail)
    · exact .refl _
    all_goals exact no (by with_reducible assumption) h16
  · by_cases h17 : x.op = 17
    · obtain ⟨q, ev, hq, hev, a, ha, had, hS, hO, hel, hcX, hop⟩ := h.act h17
      rw [hst, show (x.op == 16) = false by simpa using h16, show (x.op == 17) = true by simpa using h17, hq, hev, Int.toNat_natCast, Int.toNat_natCast, had]
      simp only [cond_false, cond_true]
      have hF := red_after a 8 hO hS.fit hS.rel hS.post ev hel X hcX
      obtain ⟨op, fi, ei, gi, xx, yy⟩ := x
      simp only at hq hev h16 h17
      subst hq; subst hev
      cases hc : (and64 (frags X : Nat) 8 != 0) with
      | true =>
        refine PureFn.intro mixed (fn := Tryz.f41) rfl rfl rfl fun M w0 => ?_
        (try conv=>whnf);repeat' (first|(apply And.intro<;>try conv=>whnf)|(intro h;try conv=>whnf)|(apply infoT;rfl)|(refine lin_plan (by kernel_rfl) ?_;try conv=>whnf)|(refine ⟨_, _, rfl, idx_map (by with_reducible assumption), rfl, ?_⟩;try conv=>whnf)|(refine PureFn.dcq (f := 26) rfl ?_;try conv=>whnf)|(refine ⟨_, _, fm_Frags ?_, ?_, ?_⟩;rotate_left 1;(focus first|(refine ⟨?_, trivial⟩<;>first|exact PLe.refl _|exact PLe.nil)|exact trivial);try conv=>whnf)|fail)
        all_goals first
          | exact le_nilF _
          | exact absurd (eq_of_beq (by with_reducible assumption)) h16
          | exact no (by with_reducible assumption) h17
          | skip
        exact absurd (hc.symm.trans (show (and64 (frags X : Nat) 8 != 0) = false from by assumption)) (by decide)
      | false =>
        have hG := hF (hop hc)
        refine PureFn.intro mixed (fn := Tryz.f41) rfl rfl rfl fun M w0 => ?_
        (try conv=>whnf);repeat' (first|(apply And.intro<;>try conv=>whnf)|(intro h;try conv=>whnf)|(apply infoT;rfl)|(refine lin_plan (by kernel_rfl) ?_;try conv=>whnf)|(refine ⟨_, _, rfl, idx_map (by with_reducible assumption), rfl, ?_⟩;try conv=>whnf)|(refine PureFn.dcq (f := 26) rfl ?_;try conv=>whnf)|(refine ⟨_, _, fm_Frags ?_, ?_, ?_⟩;rotate_left 1;(focus first|(refine ⟨?_, trivial⟩<;>first|exact PLe.refl _|exact PLe.nil)|exact trivial);try conv=>whnf)|(refine ⟨_, (by (conv=>whnf);exact hG), rfl, ?_⟩;try conv=>whnf)|fail)
        all_goals first
          | exact .refl _
          | exact absurd (eq_of_beq (by with_reducible assumption)) h16
          | exact no (by with_reducible assumption) h17
          | skip
        exact absurd (hc.symm.trans (show (and64 (frags X : Nat) 8 != 0) = true from by assumption)) (by decide)
    · obtain ⟨z, hz⟩ : ∃ z, apN x X Y = z := ⟨_, rfl⟩
      have hAp := red_apply0 x X Y ⟨h.op.1, by rcases h.op.2 with h | h | h; exact h; exact absurd h h16; exact absurd h h17⟩
      rw [hst, show (x.op == 16) = false by simpa using h16, show (x.op == 17) = false by simpa using h17, cond_false, cond_false, hz]
      rw [hz] at hAp
      refine PureFn.intro mixed (fn := Tryz.f41) rfl rfl rfl fun M w0 => ?_
      cases z with
      | nil =>
        (try conv=>whnf);repeat' (first|(apply And.intro<;>try conv=>whnf)|(intro h;first|with_reducible exact tf0 h|try conv=>whnf)|(refine PureFn.dcq (f := 75) rfl ?_;try conv=>whnf)|(refine ⟨_, _, hAp, ?_, ?_⟩;(focus first|(refine ⟨?_, ?_, ?_, trivial⟩<;>first|exact PLe.refl _|exact PLe.nil)|exact trivial);try conv=>whnf)|fail)
        all_goals first
          | exact le_nilF _
          | exact absurd (eq_of_beq (by with_reducible assumption)) h16
          | exact absurd (eq_of_beq (by with_reducible assumption)) h17
      | cons b r =>
        (try conv=>whnf);repeat' (first|(apply And.intro<;>try conv=>whnf)|(intro h;first|with_reducible exact ft0 h|try conv=>whnf)|(refine PureFn.dcq (f := 75) rfl ?_;try conv=>whnf)|(refine ⟨_, _, hAp, ?_, ?_⟩;(focus first|(refine ⟨?_, ?_, ?_, trivial⟩<;>first|exact PLe.refl _|exact PLe.nil)|exact trivial);try conv=>whnf)|fail)
        all_goals first
          | exact .refl _
          | exact absurd (eq_of_beq (by with_reducible assumption)) h16
          | exact absurd (eq_of_beq (by with_reducible assumption)) h17
def rdI (acts : List Act) (f : List Nd) : List Nd × Int := bif rqI acts f != 0 then ([], rqI acts f) else redF acts f
/-- How many agents there are. -/
def agR (acts : List Act) : Nat := match acts with
  | [] => 4
  | a :: _ => a.rel.length
structure RqOk (acts : List Act) (f : List Nd) : Prop where
  chk : ∀ a, a ∈ acts → chkI a = 0
  rel : ∀ a, a ∈ acts → a.rel.length = agR acts
  a4 : agR acts ≤ 4
  cf : check f = 0
  nd : ∀ x, x ∈ comp f → (x.op ≤ 13 ∨ x.op = 16 ∨ x.op = 17) ∧ (x.op ≤ 13 → stM (agR acts) 8 x.op x.i x.e x.g = true) ∧ badRd acts x = false
theorem bif_cases {c : Bool} {a b : Int} (h : (bif c then a else b) = 0) (ha : a ≠ 0) : c = false ∧ b = 0 := by
  cases c with
  | true => exact absurd h ha
  | false => exact ⟨rfl, h⟩
theorem bif_same {a b : Int} (h : (bif a != 0 then a else b) = 0) : a = 0 ∧ b = 0 := by
  by_cases q : a = 0
  · subst q; exact ⟨rfl, h⟩
  · rw [show (a != 0) = true by simpa using q] at h
    exact absurd h q
theorem envE_ok : ∀ {acts : List Act}, envE acts = 0 → ∀ a, a ∈ acts → chkI a = 0
  | [], _, a, ha => by cases ha
  | b :: r, h, a, ha => by
    obtain ⟨h1, h2⟩ := bif_same (show (bif chkI b != 0 then chkI b else envE r) = 0 from h)
    rcases List.mem_cons.1 ha with rfl | ha
    · exact h1
    · exact envE_ok h2 a ha
theorem rq_ok {acts : List Act} {f : List Nd} (h : rqI acts f = 0) : RqOk acts f := by
  unfold rqI at h
  obtain ⟨_, h⟩ := bif_cases h (by decide)
  obtain ⟨h1, h⟩ := bif_cases h (by decide)
  obtain ⟨h2, h⟩ := bif_same h
  obtain ⟨h3, h⟩ := bif_same h
  obtain ⟨h4, h⟩ := bif_cases h (by decide)
  obtain ⟨h5, h⟩ := bif_cases h (by decide)
  obtain ⟨h6, _⟩ := bif_cases h (by decide)
  have hck := envE_ok h2
  have hrel : ∀ a, a ∈ acts → a.rel.length = agR acts := fun a ha => by
    cases acts with
    | nil => cases ha
    | cons b r =>
      have := List.any_eq_false.1 h1 a ha
      have hd : ¬ ((a.rel.length : Int) != (b.rel.length : Int)) = true := this
      have : (a.rel.length : Int) = b.rel.length := by simpa using hd
      show a.rel.length = b.rel.length
      omega
  have hA4 : agR acts ≤ 4 := by
    cases acts with
    | nil => exact Nat.le_refl 4
    | cons b r => exact (chk_ok (hck b (by simp))).2.2.1
  have hag : agents f < 2 ^ agR acts := by
    cases acts with
    | nil => exact agents_lt f
    | cons b r =>
      have h7 : (!fits f (b.rel.length : Int) 8) = false := by
        have : (bif decide ((((b :: r).length : Nat) : Int) > 0) then !fits f (b.rel.length : Int) 8 else false) = false := h6
        rwa [decide_eq_true (by simp), cond_true] at this
      have hft : fits f (b.rel.length : Int) 8 = true := by simpa using h7
      unfold fits at hft
      rw [h3] at hft
      cases hb : belowB (agents f) (b.rel.length : Int) with
      | false => rw [hb] at hft; cases hft
      | true => exact (below_lt (agents_lt f) (by decide)).1 hb
  refine ⟨hck, hrel, hA4, h3, fun x hx => ?_⟩
  obtain ⟨k, hk⟩ := okl_mem (comp_okl f) hx
  have ho := hk.op
  have hfr : frags f < 2 ^ 62 := Nat.lt_of_lt_of_le (frags_lt f) (by decide)
  have h8 : frags f &&& 207 = frags f := by
    have h4' : nand64' (frags f : Nat) 207 = 0 := by simpa using h4
    have := nand_zero (a := frags f) (b := 207) hfr
    rw [show ((207 : Nat) : Int) = 207 from rfl, h4'] at this
    have h9 : subM (frags f) 207 = true := by rw [← this]; rfl
    exact eq_of_beq h9
  have h9 : fragN x &&& 207 = fragN x := by
    have hin : fragN x ||| frags f = frags f := orN_mm hx
    apply Nat.eq_of_testBit_eq
    intro i
    rw [Nat.testBit_and]
    cases hb : (fragN x).testBit i with
    | false => rfl
    | true =>
      have h10 : (frags f).testBit i = true := by rw [← hin, Nat.testBit_or, hb]; rfl
      rw [← h8, Nat.testBit_and, Bool.and_eq_true] at h10
      rw [h10.2]; rfl
  have hop : x.op ≤ 13 ∨ x.op = 16 ∨ x.op = 17 := by
    have key : ∀ op : Nat, op < 22 → (frag (op : Int)).toNat &&& 207 = (frag (op : Int)).toNat → 1 ≤ op → op ≤ 13 ∨ op = 16 ∨ op = 17 := by decide
    have := key x.op.toNat (by omega) (by rw [show ((x.op.toNat : Nat) : Int) = x.op by omega]; exact h9) (by omega)
    omega
  refine ⟨hop, fun h13 => stM_iff.2 ⟨⟨?_, (show agN x < 2 ^ agR acts from Nat.lt_of_le_of_lt (orN_le hx) hag)⟩, (show factN x < 2 ^ 8 from Nat.lt_of_le_of_lt (orN_le hx) (facts_lt f))⟩, by simpa using List.any_eq_false.1 h5 x hx⟩
  show (frag x.op).toNat < 16
  have key : ∀ op : Nat, op < 14 → (frag (op : Int)).toNat < 16 := by decide
  have := key x.op.toNat (by omega)
  rwa [show ((x.op.toNat : Nat) : Int) = x.op by omega] at this
theorem rq_trees {acts : List Act} {f : List Nd} (h : RqOk acts f) (j : Nat) : allT (rgQ (stM (agR acts) 8)) (redT acts (tree (comp f) j)) = true := by
  refine redT_all (stM_clo _ _) (fun a ha => ?_) _ (trn_all (fun x hx => ?_) _ _)
  · have := (chk_ok (h.chk a ha)).2.1
    rw [h.rel a ha] at this
    exact act_Q (Nat.le_refl 8) this
  · obtain ⟨k, hk⟩ := okl_mem (comp_okl f) hx
    obtain ⟨h1, h2, _⟩ := h.nd x hx
    rcases h1 with h1 | h1 | h1
    · show (x.op == 16 || x.op == 17 || rgQ (stM (agR acts) 8) x.op x.i x.e x.g) = true
      rw [rg_iff.2 ⟨h2 h1, hk.group⟩, Bool.or_true]
    · show (x.op == 16 || x.op == 17 || _) = true
      rw [h1]; rfl
    · show (x.op == 16 || x.op == 17 || _) = true
      rw [h1]; rfl
theorem rq_nmd {acts : List Act} {f : List Nd} (h : RqOk acts f) : Nmd acts (comp f) := fun x hx h17 => by
  obtain ⟨k, hk⟩ := okl_mem (comp_okl f) hx
  obtain ⟨a1, a2, a3, a4⟩ := hk.act h17
  have hb := (h.nd x hx).2.2
  unfold badRd at hb
  rw [show (x.op == 17) = true by simpa using h17, cond_true] at hb
  cases hq : decide (x.i ≥ (acts.length : Int)) with
  | true => rw [hq] at hb; cases hb
  | false =>
    rw [hq, cond_false] at hb
    have := of_decide_eq_false hb
    omega
theorem can_stM {A F : Nat} {z : List Nd} (hz : Can z) (ha : allT (rgQ (stM A F)) (root z) = true) : ∀ x, x ∈ comp z → stM A F x.op x.i x.e x.g = true := fun x hx => by
  rw [can_comp hz, ← hz.fix] at hx
  exact (rg_iff.1 (finT_all (Q := rgQ (stM A F)) _ _ ha (by simp) x hx)).1
theorem rq_step {acts : List Act} {f : List Nd} (hS : ∀ a, a ∈ acts → SmX a) (h : RqOk acts f) {i : Nat} {x : Nd} {l : List (List Nd)} (hx : (comp f)[i]? = some x) (hl : l.length = i) (hQ : ∀ (j : Nat) z, l[j]? = some z → TreesOk (comp f) (redT acts) j z) :
    StepOk acts x (l.getD x.x.toNat []) (l.getD x.y.toNat []) := by
  have hm := List.mem_of_getElem? hx
  have hok := comp_okl f i x hx
  obtain ⟨h1, h2, h3⟩ := h.nd x hm
  obtain ⟨oX, oY⟩ := opn (comp_okl f) hx hl hQ
  refine ⟨⟨hok.op.1, h1⟩, fun h16 => ?_, fun h17 => ?_⟩
  · have cY := oY (by rw [h16]; rfl)
    refine ⟨cY.1.check, fun z hz => ?_⟩
    obtain ⟨k, hk⟩ := okl_mem (comp_okl _) hz
    exact (nd_fit hk (can_stM cY.1 (by rw [cY.2]; exact rq_trees h _) z hz) h.a4).1
  · have cX := oX (by rw [h17]; rfl)
    obtain ⟨a1, a2, a3, a4⟩ := hok.act h17
    have hN := rq_nmd h x hm h17
    unfold badRd at h3
    rw [show (x.op == 17) = true by simpa using h17, cond_true] at h3
    have hq : decide (x.i ≥ (acts.length : Int)) = false := by
      cases hq : decide (x.i ≥ (acts.length : Int)) with
      | true => rw [hq] at h3; cases h3
      | false => rfl
    have hlt := of_decide_eq_false hq
    have hget : acts[x.i.toNat]? = some (acts.getD x.i.toNat noAct) := getD_mem (by omega)
    have hma := List.mem_of_getElem? hget
    obtain ⟨c1, c2, c3, c4⟩ := chk_ok (h.chk _ hma)
    have hrl := h.rel _ hma
    refine ⟨x.i.toNat, x.e.toNat, by omega, by omega, _, hget, rfl, hS _ hma, c1, hN, cX.1.check, fun hc => aft_ok (F := 8) c2 c3 (can_stM cX.1 ?_) hc⟩
    rw [cX.2, hrl]; exact rq_trees h _
theorem red_Reduce (acts : List Act) (f : List Nd) (hS : ∀ a, a ∈ acts → SmX a) : PureFn Tryz.prog 10 [actsPV acts, fpv f] (pairF (rdI acts f)) := by
  have hq := red_request acts f hS
  by_cases h0 : rqI acts f = 0
  · have hR := rq_ok h0
    have hF : rdI acts f = redF acts f := by rw [rdI, h0]; rfl
    rw [h0] at hq
    rw [hF, redF]
    have hlen := comp_len f
    have hpos := comp_pos hR.cf
    have hstep := fun i x l => rq_step (i := i) (x := x) (l := l) hS hR
    have htree := fun i x l => red_step (i := i) (x := x) (l := l) (comp_okl f) (rq_nmd hR)
    have hokl := comp_okl f
    refine PureFn.introC [8, 9] mixed (fn := Tryz.f10) rfl rfl rfl fun M w0 => ?_
    (try conv=>whnf);repeat' (first|(apply And.intro<;>try conv=>whnf)|(intro h;try conv=>whnf)|(refine PureFn.dcq (f := 38) rfl ?_;try conv=>whnf)|(refine PureFn.dcq (f := 39) rfl ?_;try conv=>whnf)|(refine ⟨_, _, hq, ?_, ?_⟩;(focus first|(refine ⟨?_, ?_, trivial⟩<;>first|exact PLe.refl _|exact PLe.nil)|exact trivial);try conv=>whnf)|(refine ⟨_, _, fm_Compact ?_, ?_, ?_⟩;rotate_left 1;(focus first|(refine ⟨?_, trivial⟩<;>first|exact PLe.refl _|exact PLe.nil)|exact trivial);try conv=>whnf)|fail)
    · exact absurd h (by decide)
    clear h
    generalize comp f = c at *
    refine ⟨{ q : Nat × List (List Nd) // q.1 ≤ c.length ∧ q.2.length = q.1 ∧ redE [] (stepR acts) c [] = redE [] (stepR acts) (c.drop q.1) q.2 ∧ ∀ (j : Nat) z, q.2[j]? = some z → TreesOk c (redT acts) j z },
      fun q => [(0, .pv (actsPV acts)), (7, .buf 0 (q.1.2.map fpv).length), (21, .pv (fpv c)), (22, .pv (.int .i64 (c.map Nd.pv).length)), (23, .pv (.int .i64 (q.1.1 : Nat)))], fun _ => 1, fun q => [(0, .arr 1 (q.1.2.map fpv))], fun q => c.length - q.1.1,
      ⟨⟨(0, []), Nat.zero_le _, rfl, rfl, fun j z h => by simp at h⟩, (by refine Wk.of ?_ ?_ rfl rfl rfl<;>repeat' (first|exact trivial|exact WkD.same _|exact WkD.new' rfl rfl rfl|exact WkO.new _ _ rfl|exact rfl|refine ⟨?_, ?_⟩|fail))⟩, ?_⟩
    rintro ⟨⟨i, l⟩, hi, hl, he, hQ⟩
    simp only at hi hl he hQ
    have hlm : (l.map fpv).length = i := by rw [List.length_map]; exact hl
    (try conv=>whnf);repeat' (first|(apply And.intro<;>try conv=>whnf)|(intro h;try conv=>whnf)|fail)
    · have hi' : i < c.length := by simpa using h
      obtain ⟨x, hx⟩ : ∃ x, c[i]? = some x := ⟨_, List.getElem?_eq_getElem hi'⟩
      have ok := hokl i x hx
      have hst := hstep i x l hx hl hQ
      have htr := htree i x l hx hl hQ
      have hrd := red_reduced acts x _ _ hst
      obtain ⟨X, hX⟩ : ∃ X, l.getD x.x.toNat [] = X := ⟨_, rfl⟩
      obtain ⟨Y, hY⟩ : ∃ Y, l.getD x.y.toNat [] = Y := ⟨_, rfl⟩
      have hh : stepR acts x (l.getD x.x.toNat []) (l.getD x.y.toNat []) = stepR acts x X Y := by rw [hX, hY]
      rw [hX, hY] at hrd htr
      refine ⟨Unit, fun _ => [(0, .pv (actsPV acts)), (7, .buf 0 (l.map fpv).length), (21, .pv (fpv c)), (22, .pv (.int .i64 (c.map Nd.pv).length)), (23, .pv (.int .i64 (i : Nat))), (9, .ref 1 0)], fun _ => 2, fun _ => [(0, .arr 1 (l.map fpv)), (1, .var x.dvs)], ?_, ?_⟩
      · (try conv=>whnf);repeat' (first|(apply And.intro<;>try conv=>whnf)|(apply infoT;rfl)|(refine ⟨_, _, rfl, idx_map (by with_reducible assumption), rfl, ?_⟩;try conv=>whnf)|fail)
        exact ⟨(), (by refine Wk.of ?_ ?_ rfl rfl rfl<;>repeat' (first|exact trivial|exact WkD.same _|exact WkO.same _ _ rfl|refine ⟨?_, ?_⟩|fail))⟩
      rintro ⟨⟩
      refine ⟨{ q : DV × DV // (q.1 = .pv (fpv X) ∧ q.2 = .pv (fpv Y)) }, fun q => [(0, .pv (actsPV acts)), (7, .buf 0 (l.map fpv).length), (21, .pv (fpv c)), (22, .pv (.int .i64 (c.map Nd.pv).length)), (23, .pv (.int .i64 (i : Nat))), (9, .ref 1 0), (10, q.1.1), (11, q.1.2)], fun _ => 2, fun _ => [(0, .arr 1 (l.map fpv)), (1, .var x.dvs)], ?_, ?_⟩
      · try conv=>whnf
        refine DC.call 1 [(0, .arr 1 (l.map fpv))] ⟨rfl, trivial⟩ rfl rfl rfl rfl fun M' => ?_
        refine op_own x l (by rw [hl]; exact ok) M' _ _ _ (fun e => ⟨rfl, ?_⟩) (fun e => ⟨rfl, ?_⟩)
        · subst e
          try conv=>whnf
          have e1 : X = [] := by rw [← hX]; rfl
          have e2 : Y = [] := by rw [← hY]; rfl
          refine ⟨⟨(.pv (fpv X), .pv (fpv Y)), rfl, rfl⟩, ?_⟩
          subst e1; subst e2
          (refine Wk.of ?_ ?_ rfl rfl rfl<;>repeat' (first|exact trivial|exact WkD.same _|exact WkO.same _ _ rfl|exact WkD.nil _ (Or.inl rfl)|refine ⟨?_, ?_⟩|fail))
        · try conv=>whnf
          refine ⟨⟨(.pv (fpv X), .pv (fpv Y)), rfl, rfl⟩, ?_⟩
          rw [hX, hY]
          (refine Wk.of ?_ ?_ rfl rfl rfl<;>repeat' (first|exact trivial|exact WkD.same _|exact WkO.same _ _ rfl|refine ⟨?_, ?_⟩|fail))
      rintro ⟨⟨dx, dy⟩, e1, e2⟩
      simp only at e1 e2
      subst e1; subst e2
      generalize stepR acts x X Y = z at hrd htr hh
      obtain ⟨z, e⟩ := z
      simp only at htr
      (try conv=>whnf);repeat' (first|(apply And.intro<;>try conv=>whnf)|(intro h;try conv=>whnf)|(apply cellsI;rfl)|(apply szI;rfl)|(refine PureFn.dcq (f := 41) rfl ?_;try conv=>whnf)|(refine ⟨_, _, hrd, ?_, ?_⟩;(focus first|(refine ⟨?_, ?_, ?_, ?_, trivial⟩<;>first|exact PLe.refl _|exact PLe.nil)|exact trivial);try conv=>whnf)|fail)
      · have hno := redE_no hx hh h
        have hE : lastF (redE [] (stepR acts) c []) = ([], e) := by rw [he, hno, lastF]; show (bif e != 0 then _ else _) = _; rw [show (e != 0) = true from h]; rfl
        rw [hE]; exact le_nilF _
      · show (l.map fpv).length + 1 ≤ 4294967296
        omega
      · have he0 : e = 0 := by simpa using h
        have hyes := redE_yes hx hh he0
        have hm := map_snoc (l := l) (z := z)
        refine ⟨⟨(i + 1, l ++ [z]), hi', by simp [hl], by rw [he, hyes], fun j y hy => ?_⟩, by show c.length - (i + 1) < c.length - i; omega, ?_⟩
        · rcases Nat.lt_or_ge j l.length with q | q
          · rw [List.getElem?_append_left q] at hy; exact hQ j y hy
          · rw [List.getElem?_append_right q] at hy
            have hj : j = l.length := by
              have := (List.getElem?_eq_some_iff.1 hy).1
              simp at this; omega
            subst hj
            simp at hy
            subst hy
            rw [hl]
            exact htr he0
        · (refine Wk.of ?_ ?_ rfl rfl rfl<;>repeat' (first|exact trivial|exact WkD.same _|exact WkD.eq (congrArg (fun z : List PV => DV.buf _ z.length) hm)|exact WkO.same _ _ (congrArg (fun z => some (DObj.arr _ z)) hm)|refine WkD.int ?_|refine ⟨?_, ?_⟩|(refine wrapA ?_ ?_ ?_;(focus simp;done);(focus (try dsimp only);omega);(focus (try dsimp only);omega))|fail))
    · have hi' : i = c.length := by have := ge_dec (m := (c.map Nd.pv).length) h (by simpa using hi); simpa using this
      subst hi'
      rw [redE_end] at he
      have hw : IntKind.wrap .i64 (((l.map fpv).length : Int) - 1) = ((l.length - 1 : Nat) : Int) := by
        rw [List.length_map]; exact wrapA (by omega) (by omega) (by omega)
      have hll : l.length = c.length := hl
      refine ⟨l.length - 1, hw, (show l.length - 1 < (l.map fpv).length by rw [List.length_map]; omega), ?_⟩
      (try conv=>whnf);repeat' (first|(apply And.intro<;>try conv=>whnf)|fail)
      refine ⟨_, fget (show l.length - 1 < l.length by omega), ?_⟩
      try conv=>whnf
      exact le_pairF (a := (l.getD (l.length - 1) [], 0)) (by rw [he]; rfl)
  · have hF : rdI acts f = ([], rqI acts f) := by rw [rdI, show (rqI acts f != 0) = true by simpa using h0]; rfl
    rw [hF]
    refine PureFn.intro mixed (fn := Tryz.f10) rfl rfl rfl fun M w0 => ?_
    (try conv=>whnf);repeat' (first|(apply And.intro<;>try conv=>whnf)|(intro h;try conv=>whnf)|(refine PureFn.dcq (f := 38) rfl ?_;try conv=>whnf)|(refine ⟨_, _, hq, ?_, ?_⟩;(focus first|(refine ⟨?_, ?_, trivial⟩<;>first|exact PLe.refl _|exact PLe.nil)|exact trivial);try conv=>whnf)|fail)
    · exact le_nilF _
    all_goals exact absurd (show rqI acts f = 0 by simpa using h) h0
end Go.Proofs.YtibbphifegibkaaGreat
set_option maxRecDepth 100000
set_option maxHeartbeats 4000000
namespace Go.Proofs.YtibbphifegibkaaGreat
open Go Go.Dv

theorem rr_Named (acts : List Act) (f : List Nd) (hs : ∀ x, x ∈ comp f → x.op = 17 → 0 ≤ x.i) : PureFn Tryz.prog 77 [actsPV acts, fpv f] (.bool (!(comp f).any (badRd acts))) := by
  have hC := ref_Compact f
  have hlen := comp_len f
  have e1 : ((acts.map Act.pv).length : Int) = (acts.length : Int) := by simp
  refine PureFn.intro mixed (fn := Tryz.f77) rfl rfl rfl fun M w0 => ?_
  (try conv=>whnf);repeat' (first|(refine PureFn.dcq (f := 33) rfl ?_;try conv=>whnf)|(refine ⟨_, _, hC, ?_, ?_⟩;(focus first|(refine ⟨?_, trivial⟩<;>first|exact PLe.refl _|exact PLe.nil)|exact trivial);try conv=>whnf)|fail)
  refine ⟨{ i : Nat // i ≤ (comp f).length ∧ ((comp f).drop i).any (badRd acts) = (comp f).any (badRd acts) }, fun i => [(0, .pv (actsPV acts)), (5, .pv (fpv (comp f))), (6, .pv (i64 i.1))], fun _ => 0, fun _ => [], fun i => (comp f).length - i.1, ⟨⟨0, Nat.zero_le _, rfl⟩, (by refine Wk.of ?_ ?_ rfl rfl rfl<;>repeat' (first|exact trivial|exact WkD.same _|refine ⟨?_, ?_⟩|fail))⟩, ?_⟩
  rintro ⟨i, hi, hd⟩
  (try conv=>whnf);repeat' (first|(apply And.intro<;>try conv=>whnf)|(intro h;try conv=>whnf)|(apply infoT;rfl)|(refine lin_plan (by kernel_rfl) ?_;try conv=>whnf)|fail)
  · have hi' : i < (comp f).length := by simpa using lt_dec h
    obtain ⟨x, hx, hxd⟩ : ∃ x, (comp f)[i]? = some x ∧ (comp f).drop i = x :: (comp f).drop (i + 1) := ⟨_, List.getElem?_eq_getElem hi', List.drop_eq_getElem_cons hi'⟩
    rw [hxd, List.any_cons] at hd
    have h0 := hs x (List.mem_iff_getElem?.2 ⟨i, hx⟩)
    obtain ⟨op, fi, ei, gi, xx, yy⟩ := x
    simp only at h0
    have hix := idx_map (g := Nd.pv) hx
    cases h17 : (op == 17) with
    | false =>
      have hb : badRd acts ⟨op, fi, ei, gi, xx, yy⟩ = false := by
        show (bif op == 17 then _ else false) = false
        rw [h17]; rfl
      rw [hb, Bool.false_or] at hd
      have hoff : (op == 17 && !false) = false := by rw [h17]; rfl
      have hcd : (bif op == 17 then false else false) = false := by rw [h17]; rfl
      refine ⟨_, _, rfl, hix, rfl, ?_⟩
      (try conv=>whnf);repeat' (first|(apply And.intro<;>try conv=>whnf)|(intro h;first|with_reducible exact tf h (by assumption)|try conv=>whnf)|(apply whenOff;(focus with_reducible assumption);try conv=>whnf)|fail)
      exact ⟨⟨i + 1, hi', hd⟩, by show (comp f).length - (i + 1) < (comp f).length - i; omega, (by refine Wk.of ?_ ?_ rfl rfl rfl<;>repeat' (first|exact trivial|exact WkD.same _|refine WkD.int ?_|refine ⟨?_, ?_⟩|(refine wrapA ?_ ?_ ?_;(focus simp;done);(focus (try dsimp only);omega);(focus (try dsimp only);omega))|fail))⟩
    | true =>
      have e17 : op = 17 := by simpa using h17
      have h0 := h0 e17
      cases hge : decide (fi ≥ ((acts.map Act.pv).length : Int)) with
      | true =>
        have hb : badRd acts ⟨op, fi, ei, gi, xx, yy⟩ = true := by
          show (bif op == 17 then (bif decide (fi ≥ (acts.length : Int)) then true else _) else false) = true
          rw [h17, ← e1, hge]; rfl
        rw [hb, Bool.true_or] at hd
        have hoff : (op == 17 && !decide (fi ≥ ((acts.map Act.pv).length : Int))) = false := by rw [h17, hge]; rfl
        refine ⟨_, _, rfl, hix, rfl, ?_⟩
        (try conv=>whnf);repeat' (first|(apply And.intro<;>try conv=>whnf)|(intro h;first|with_reducible exact tf (by assumption) h|try conv=>whnf)|apply True.intro|(apply infoT;rfl)|(apply whenOff;(focus with_reducible assumption);try conv=>whnf)|(apply WhenQ.mk;(try conv=>whnf);rotate_left;(try conv=>whnf);rotate_right)|with_reducible assumption|(refine ⟨_, _, rfl, idx_map (by with_reducible assumption), rfl, ?_⟩;try conv=>whnf)|fail)
        · rw [← hd]; exact .refl _
        · exfalso
          have h9 : (bif op == 17 then (bif decide (fi ≥ ((acts.map Act.pv).length : Int)) then true else _) else false) = false := h
          rw [h17, hge] at h9
          cases h9
      | false =>
        have hlt := of_decide_eq_false hge
        rw [e1] at hlt
        obtain ⟨q, eq⟩ : ∃ q : Nat, fi = q := ⟨fi.toNat, by omega⟩
        subst eq
        obtain ⟨a, ha, had⟩ : ∃ a, acts[q]? = some a ∧ acts.getD q noAct = a := ⟨_, getD_mem (by omega), rfl⟩
        have hb : badRd acts ⟨op, (q : Int), ei, gi, xx, yy⟩ = decide (ei ≥ ((a.pre.map fpv).length : Int)) := by
          show (bif op == 17 then (bif decide ((q : Int) ≥ (acts.length : Int)) then true else decide (ei ≥ ((acts.getD (q : Int).toNat noAct).pre.length : Int))) else false) = _
          rw [h17, ← e1, hge, Int.toNat_natCast, had, List.length_map]; rfl
        rw [hb] at hd
        refine ⟨_, _, rfl, hix, rfl, ?_⟩
        (try conv=>whnf);repeat' (first|(apply And.intro<;>try conv=>whnf)|(intro h;try conv=>whnf)|apply True.intro|(apply infoT;rfl)|(apply WhenQ.mk;(try conv=>whnf);rotate_left;(try conv=>whnf);rotate_right)|with_reducible assumption|(apply and_of<;>first|with_reducible assumption|(apply not_of;with_reducible assumption))|(refine ⟨_, _, rfl, idx_map (by with_reducible assumption), rfl, ?_⟩;try conv=>whnf)|fail)
        · have h9 : (bif op == 17 then (bif decide ((q : Int) ≥ ((acts.map Act.pv).length : Int)) then true else decide (ei ≥ ((a.pre.map fpv).length : Int))) else false) = true := h
          rw [h17, hge] at h9
          rw [show decide (ei ≥ ((a.pre.map fpv).length : Int)) = true from h9, Bool.true_or] at hd
          rw [← hd]; exact .refl _
        · have h9 : (bif op == 17 then (bif decide ((q : Int) ≥ ((acts.map Act.pv).length : Int)) then true else decide (ei ≥ ((a.pre.map fpv).length : Int))) else false) = false := h
          rw [h17, hge] at h9
          rw [show decide (ei ≥ ((a.pre.map fpv).length : Int)) = false from h9, Bool.false_or] at hd
          exact ⟨⟨i + 1, hi', hd⟩, by show (comp f).length - (i + 1) < (comp f).length - i; omega, (by refine Wk.of ?_ ?_ rfl rfl rfl<;>repeat' (first|exact trivial|exact WkD.same _|refine WkD.int ?_|refine ⟨?_, ?_⟩|(refine wrapA ?_ ?_ ?_;(focus simp;done);(focus (try dsimp only);omega);(focus (try dsimp only);omega))|fail))⟩
  · have hi' : i = (comp f).length := by have := ge_dec (m := ((comp f).map Nd.pv).length) h (by simpa using hi); simpa using this
    rw [hi', List.drop_length] at hd
    exact le_bool (by rw [← hd]; rfl)
def rqE (acts : List Act) : Int := bif decide ((acts.length : Int) > 8) then 8 else bif acts.any (difR acts) then 1 else envE acts
theorem rq_env (acts : List Act) (f : List Nd) : rqI acts f = bif rqE acts != 0 then rqE acts else bif check f != 0 then check f else bif nand64' (frags f : Nat) 207 != 0 then 10 else bif (comp f).any (badRd acts) then 6 else bif fitR acts f then 2 else 0 := by
  rw [rqI, rqE]
  cases decide ((acts.length : Int) > 8) with
  | true => rfl
  | false =>
    cases acts.any (difR acts) with
    | true => rfl
    | false => rfl
theorem rr_environment (acts : List Act) (hS : ∀ a, a ∈ acts → SmX a) : PureFn Tryz.prog 76 [actsPV acts] (.int .i64 (rqE acts)) := by
  have e1 : ((acts.map Act.pv).length : Int) = (acts.length : Int) := by simp
  refine PureFn.introC [8] mixed (fn := Tryz.f76) rfl rfl rfl fun M w0 => ?_
  (try conv=>whnf);repeat' (first|(apply And.intro<;>try conv=>whnf)|(intro h;try conv=>whnf)|fail)
  · refine le_int ?_
    rw [rqE, ← e1, show decide (((acts.map Act.pv).length : Int) > 8) = true from h]; rfl
  have hA : decide ((acts.length : Int) > 8) = false := by rw [← e1]; exact h
  have h8 := of_decide_eq_false hA
  have hal : acts.length ≤ 8 := by omega
  clear h h8
  refine ⟨{ _x : Unit // acts.any (difR acts) = false }, fun _ => [(0, .pv (actsPV acts))], fun _ => 0, fun _ => [], ?_, ?_⟩
  · try conv=>whnf
    refine ⟨{ i : Nat // 1 ≤ i ∧ i ≤ acts.length + 1 ∧ (acts.take i).any (difR acts) = false }, fun i => [(0, .pv (actsPV acts)), (3, .pv (i64 i.1))], fun _ => 0, fun _ => [], fun i => acts.length + 1 - i.1, ⟨⟨1, Nat.le_refl 1, by omega, ?_⟩, (by refine Wk.of ?_ ?_ rfl rfl rfl<;>repeat' (first|exact trivial|exact WkD.same _|refine ⟨?_, ?_⟩|fail))⟩, ?_⟩
    · cases acts with
      | nil => rfl
      | cons b r =>
        show (difR (b :: r) b || false) = false
        have : difR (b :: r) b = ((b.rel.length : Int) != (b.rel.length : Int)) := rfl
        rw [this]; simp
    rintro ⟨i, h1i, hi, hd⟩
    (try conv=>whnf);repeat' (first|(apply And.intro<;>try conv=>whnf)|(intro h;try conv=>whnf)|fail)
    · have hi' : i < acts.length := by simpa using lt_dec h
      obtain ⟨a, ha⟩ : ∃ a, acts[i]? = some a := ⟨_, List.getElem?_eq_getElem hi'⟩
      obtain ⟨b, hb⟩ : ∃ b, acts[0]? = some b := ⟨_, List.getElem?_eq_getElem (by omega)⟩
      have hdf : difR acts a = (((a.rel.map rowPV).length : Int) != ((b.rel.map rowPV).length : Int)) := by
        rw [difR, List.getD_eq_getElem?_getD, hb, List.length_map, List.length_map]; rfl
      have hag : acts[i] = a := by rw [List.getElem?_eq_getElem hi'] at ha; exact Option.some.inj ha
      clear h
      have hib := idx_map (g := Act.pv) hb
      refine ⟨Plan.lin 0 12, [], by kernel_rfl, ?_⟩
      (try conv=>whnf);repeat' (first|(apply And.intro<;>try conv=>whnf)|(intro h;try conv=>whnf)|(apply infoT;rfl)|(refine ⟨_, _, rfl, idx_map (by with_reducible assumption), rfl, ?_⟩;try conv=>whnf)|fail)
      · have hany : acts.any (difR acts) = true := any_at (p := difR acts) hi' (by rw [hag, hdf]; exact h)
        refine le_int ?_
        rw [rqE, hA, hany]; rfl
      · exact ⟨⟨i + 1, by omega, by omega, any_take (p := difR acts) hi' hd (by rw [hag, hdf]; exact h)⟩, by show acts.length + 1 - (i + 1) < acts.length + 1 - i; omega, (by refine Wk.of ?_ ?_ rfl rfl rfl<;>repeat' (first|exact trivial|exact WkD.same _|refine WkD.int ?_|refine ⟨?_, ?_⟩|(refine wrapA ?_ ?_ ?_;(focus simp;done);(focus (try dsimp only);omega);(focus (try dsimp only);omega))|fail))⟩
    · have hge : ¬ i < acts.length := by simpa using h
      rw [List.take_of_length_le (by omega)] at hd
      exact ⟨⟨(), hd⟩, (by refine Wk.of ?_ ?_ rfl rfl rfl<;>repeat' (first|exact trivial|exact WkD.same _|refine ⟨?_, ?_⟩|fail))⟩
  rintro ⟨_, h1⟩
  try conv=>whnf
  refine ⟨{ i : Nat // i ≤ acts.length ∧ envE (acts.drop i) = envE acts }, fun i => [(0, .pv (actsPV acts)), (4, .pv (i64 i.1))], fun _ => 0, fun _ => [], fun i => acts.length - i.1, ⟨⟨0, Nat.zero_le _, rfl⟩, (by refine Wk.of ?_ ?_ rfl rfl rfl<;>repeat' (first|exact trivial|exact WkD.same _|refine ⟨?_, ?_⟩|fail))⟩, ?_⟩
  rintro ⟨i, hi, hd⟩
  have hv : rqE acts = envE acts := by rw [rqE, hA, h1]; rfl
  rw [hv]
  (try conv=>whnf);repeat' (first|(apply And.intro<;>try conv=>whnf)|(intro h;try conv=>whnf)|(apply infoT;rfl)|fail)
  · have hi' : i < acts.length := by simpa using lt_dec h
    obtain ⟨a, ha⟩ : ∃ a, acts[i]? = some a := ⟨_, List.getElem?_eq_getElem hi'⟩
    have hSa := hS a (List.mem_iff_getElem?.2 ⟨i, ha⟩)
    have hC := rr_Check a hSa
    have hed := envE_drop ha
    clear h
    (try conv=>whnf);repeat' (first|(apply And.intro<;>try conv=>whnf)|(intro h;try conv=>whnf)|(refine ⟨_, _, rfl, idx_map (by with_reducible assumption), rfl, ?_⟩;try conv=>whnf)|(refine PureFn.dcq (f := 29) rfl ?_;try conv=>whnf)|(refine ⟨_, _, hC, ?_, ?_⟩;(focus first|(refine ⟨?_, trivial⟩<;>first|exact PLe.refl _|exact PLe.nil)|exact trivial);try conv=>whnf)|fail)
    · refine le_int ?_
      rw [← hd, hed, show (chkI a != 0) = true from h]; rfl
    · refine ⟨⟨i + 1, hi', ?_⟩, by show acts.length - (i + 1) < acts.length - i; omega, (by refine Wk.of ?_ ?_ rfl rfl rfl<;>repeat' (first|exact trivial|exact WkD.same _|refine WkD.int ?_|refine ⟨?_, ?_⟩|(refine wrapA ?_ ?_ ?_;(focus simp;done);(focus (try dsimp only);omega);(focus (try dsimp only);omega))|fail))⟩
      rw [← hd, hed, show (chkI a != 0) = false from h]; rfl
  · have hi' : i = acts.length := by have := ge_dec (m := (acts.map Act.pv).length) h (by simpa using hi); simpa using this
    subst hi'
    rw [List.drop_length] at hd
    exact le_int hd
theorem rr_errors (acts : List Act) (f : List Nd) (hS : ∀ a, a ∈ acts → SmX a) : PureFn Tryz.prog 42 [actsPV acts, fpv f] (.int .i64 (rqI acts f)) := by
  have hE := rr_environment acts hS
  have hneg : ∀ x, x ∈ comp f → x.op = 17 → 0 ≤ x.i := fun x hx h17 => by
    obtain ⟨k, hk⟩ := okl_mem (comp_okl f) hx
    exact (hk.act h17).1
  have hNm := rr_Named acts f hneg
  have hv := rq_env acts f
  refine PureFn.introC [11] mixed (fn := Tryz.f42) rfl rfl rfl fun M w0 => ?_
  (try conv=>whnf);repeat' (first|(apply And.intro<;>try conv=>whnf)|(intro h;try conv=>whnf)|(refine PureFn.dcq (f := 76) rfl ?_;try conv=>whnf)|(refine PureFn.dcq (f := 30) rfl ?_;try conv=>whnf)|(refine PureFn.dcq (f := 31) rfl ?_;try conv=>whnf)|(refine ⟨_, _, hE, ?_, ?_⟩;(focus first|(refine ⟨?_, trivial⟩<;>first|exact PLe.refl _|exact PLe.nil)|exact trivial);try conv=>whnf)|(refine ⟨_, _, ref_Check ?_, ?_, ?_⟩;rotate_left 1;(focus first|(refine ⟨?_, trivial⟩<;>first|exact PLe.refl _|exact PLe.nil)|exact trivial);try conv=>whnf)|(refine ⟨_, _, ref_Frags ?_, ?_, ?_⟩;rotate_left 1;(focus first|(refine ⟨?_, trivial⟩<;>first|exact PLe.refl _|exact PLe.nil)|exact trivial);try conv=>whnf)|fail)
  · refine le_int ?_
    rw [hv, show (rqE acts != 0) = true from h]; rfl
  · rename_i h1
    refine le_int ?_
    rw [hv, show (rqE acts != 0) = false from h1, show (check f != 0) = true from h]; rfl
  · rename_i h1 h2
    refine le_int ?_
    rw [hv, show (rqE acts != 0) = false from h1, show (check f != 0) = false from h2, show (nand64' (frags f : Nat) 207 != 0) = true from h]; rfl
  rename_i h1 h2
  have hv : rqI acts f = bif (comp f).any (badRd acts) then 6 else bif fitR acts f then 2 else 0 := by
    rw [hv, show (rqE acts != 0) = false from h1, show (check f != 0) = false from h2, show (nand64' (frags f : Nat) 207 != 0) = false from h]; rfl
  clear h h1 h2
  refine ⟨{ _x : Unit // (comp f).any (badRd acts) = false }, fun _ => [(0, .pv (actsPV acts)), (1, .pv (fpv f))], fun _ => 0, fun _ => [], ?_, ?_⟩
  · (try conv=>whnf);repeat' (first|(apply And.intro<;>try conv=>whnf)|(intro h;try conv=>whnf)|(refine PureFn.dcq (f := 77) rfl ?_;try conv=>whnf)|(refine ⟨_, _, hNm, ?_, ?_⟩;(focus first|(refine ⟨?_, ?_, trivial⟩<;>first|exact PLe.refl _|exact PLe.nil)|exact trivial);try conv=>whnf)|fail)
    · refine le_int ?_
      have h4 : (comp f).any (badRd acts) = true := by simpa using h
      rw [hv, h4]; rfl
    · exact ⟨⟨(), by simpa using h⟩, (by refine Wk.of ?_ ?_ rfl rfl rfl<;>repeat' (first|exact trivial|exact WkD.same _|refine ⟨?_, ?_⟩|fail))⟩
  rintro ⟨_, h4⟩
  rw [h4, cond_false] at hv
  cases acts with
  | nil =>
    have hoff : decide (((([] : List Act).map Act.pv).length : Int) > 0) = false := rfl
    have hfr : fitR [] f = false := rfl
    (try conv=>whnf);repeat' (first|(apply And.intro<;>try conv=>whnf)|(intro h;first|with_reducible exact tf h (by assumption)|try conv=>whnf)|(apply whenOff;(focus with_reducible assumption);try conv=>whnf)|fail)
    · exact absurd (show false = true from h) (by decide)
    · exact le_int (by rw [hv, hfr]; rfl)
  | cons b r =>
    have e1 : (((b :: r).map Act.pv).length : Int) = ((b :: r).length : Int) := by simp
    have eb : ((b.rel.map rowPV).length : Int) = (b.rel.length : Int) := by simp
    have hfr : fitR (b :: r) f = (bif decide (((b :: r).map Act.pv).length > (0 : Int)) then !fits f ((b.rel.map rowPV).length : Int) 8 else false) := by rw [eb, e1]; rfl
    have hF := ref_Fits f ((b.rel.map rowPV).length : Int) 8
    (try conv=>whnf);repeat' (first|(apply And.intro<;>try conv=>whnf)|(intro h;try conv=>whnf)|apply True.intro|(apply infoT;rfl)|(apply WhenQ.mk;(try conv=>whnf);rotate_left;(try conv=>whnf);rotate_right)|with_reducible assumption|(refine PureFn.dcq (f := 32) rfl ?_;try conv=>whnf)|(refine ⟨0, _, rfl, rfl, rfl, ?_⟩;try conv=>whnf)|(refine ⟨_, _, hF, ?_, ?_⟩;(focus first|(refine ⟨?_, ?_, ?_, trivial⟩<;>first|exact PLe.refl _|exact PLe.nil)|exact trivial);try conv=>whnf)|fail)
    · exact le_int (by rw [hv, hfr, show (bif decide (((b :: r).map Act.pv).length > (0 : Int)) then !fits f ((b.rel.map rowPV).length : Int) 8 else false) = true from h]; rfl)
    · exact le_int (by rw [hv, hfr, show (bif decide (((b :: r).map Act.pv).length > (0 : Int)) then !fits f ((b.rel.map rowPV).length : Int) 8 else false) = false from h]; rfl)
end Go.Proofs.YtibbphifegibkaaGreat
set_option maxRecDepth 100000
set_option maxHeartbeats 8000000
namespace Go.Proofs.YtibbphifegibkaaGreat
open Go Go.Dv

def lenR (a : Act) : Bool := bif bif decide ((a.pre.length : Int) > 10) then true else decide ((a.post.length : Int) > 10) then true else decide ((a.rel.length : Int) > 6)
def rowsR (l : List (List Nat)) : Bool := l.any fun r => decide ((r.length : Int) > 12)
def badR (a : Act) : Bool := bif lenR a then true else bif preB 40 a.pre then true else bif postB 40 a.post then true else rowsR a.rel
def fewR (acts : List Act) : Bool := bif decide ((acts.length : Int) > 10) then false else !acts.any badR
theorem fewR_ok {acts : List Act} (h : fewR acts = true) : acts.length ≤ 10 ∧ ∀ a, a ∈ acts → a.pre.length ≤ 10 ∧ a.post.length ≤ 10 ∧ a.rel.length ≤ 6 ∧ (∀ f, f ∈ a.pre → f.length ≤ 40) ∧ ∀ l, l ∈ a.post → l.length ≤ 12 := by
  unfold fewR at h
  cases h1 : decide ((acts.length : Int) > 10) with
  | true => rw [h1] at h; cases h
  | false =>
    rw [h1, cond_false] at h
    have := of_decide_eq_false h1
    refine ⟨by omega, fun a ha => ?_⟩
    have hb : badR a = false := by
      have := List.any_eq_false.1 (show acts.any badR = false by simpa using h) a ha
      simpa using this
    unfold badR at hb
    cases h2 : lenR a with
    | true => rw [h2] at hb; cases hb
    | false =>
      rw [h2, cond_false] at hb
      cases h3 : preB 40 a.pre with
      | true => rw [h3] at hb; cases hb
      | false =>
        rw [h3, cond_false] at hb
        cases h4 : postB 40 a.post with
        | true => rw [h4] at hb; cases hb
        | false =>
          unfold lenR at h2
          cases q1 : decide ((a.pre.length : Int) > 10) with
          | true => rw [q1] at h2; cases h2
          | false =>
            cases q2 : decide ((a.post.length : Int) > 10) with
            | true => rw [q1, q2] at h2; cases h2
            | false =>
              rw [q1, q2] at h2
              have g1 := of_decide_eq_false q1
              have g2 := of_decide_eq_false q2
              have g3 := of_decide_eq_false (show decide ((a.rel.length : Int) > 6) = false from h2)
              refine ⟨by omega, by omega, by omega, fun f hf => ?_, fun l hl => ?_⟩
              · have := List.any_eq_false.1 h3 f hf
                have := of_decide_eq_false (show decide ((f.length : Int) > 40) = false by simpa using this)
                omega
              · have := List.any_eq_false.1 h4 l hl
                cases q : decide ((l.length : Int) > 12) with
                | true => rw [q] at this; exact absurd rfl this
                | false => have := of_decide_eq_false q; omega
theorem rd_Few (acts : List Act) : PureFn Tryz.prog 22 [actsPV acts] (.bool (fewR acts)) := by
  have e0 : ((acts.map Act.pv).length : Int) = (acts.length : Int) := by simp
  refine PureFn.introC [8, 13, 23] mixed (fn := Tryz.f22) rfl rfl rfl fun M w0 => ?_
  (try conv=>whnf);repeat' (first|(apply And.intro<;>try conv=>whnf)|(intro h;try conv=>whnf)|fail)
  · rw [fewR, ← e0, show decide (((acts.map Act.pv).length : Int) > 10) = true from h]; exact .refl _
  rw [show fewR acts = !acts.any badR by rw [fewR, ← e0, show decide (((acts.map Act.pv).length : Int) > 10) = false from h]; rfl]
  have hal : acts.length ≤ 10 := by have := of_decide_eq_false h; simp at this; omega
  clear h
  refine ⟨{ i : Nat // i ≤ acts.length ∧ (acts.take i).any badR = false }, fun i => [(0, .pv (actsPV acts)), (3, .pv (i64 i.1))], fun _ => 0, fun _ => [], fun i => acts.length - i.1, ⟨⟨0, Nat.zero_le _, rfl⟩, (by refine Wk.of ?_ ?_ rfl rfl rfl<;>repeat' (first|exact trivial|exact WkD.same _|refine ⟨?_, ?_⟩|fail))⟩, ?_⟩
  rintro ⟨i, hi, hb⟩
  (try conv=>whnf);repeat' (first|(apply And.intro<;>try conv=>whnf)|(intro h;try conv=>whnf)|fail)
  · have hi' : i < acts.length := by simpa using lt_dec h
    have hat := any_at (p := badR) hi'
    have htk := any_take (p := badR) hi' hb
    obtain ⟨a, hn, hr⟩ : ∃ a, acts[i]? = some a ∧ acts[i] = a := ⟨_, List.getElem?_eq_getElem hi', rfl⟩
    rw [hr] at hat htk
    have e1 : ((a.pre.map fpv).length : Int) = (a.pre.length : Int) := by simp
    have e2 : ((a.post.map postPV).length : Int) = (a.post.length : Int) := by simp
    have e3 : ((a.rel.map rowPV).length : Int) = (a.rel.length : Int) := by simp
    clear h
    refine ⟨{ _x : Unit // lenR a = false }, fun _ => [(0, .pv (actsPV acts)), (3, .pv (i64 i))], fun _ => 0, fun _ => [], ?_, ?_⟩
    · (try conv=>whnf);repeat' (first|(apply And.intro<;>try conv=>whnf)|(intro h;try conv=>whnf)|apply True.intro|(apply infoT;rfl)|(apply WhenQ.mk;(try conv=>whnf);rotate_left;(try conv=>whnf);rotate_right)|with_reducible assumption|(apply not_of;with_reducible assumption)|(refine ⟨_, _, rfl, idx_map (by with_reducible assumption), rfl, ?_⟩;try conv=>whnf)|fail)
      · have h9 : lenR a = true := by rw [lenR, ← e1, ← e2, ← e3]; exact h
        rw [hat (by rw [badR, h9]; rfl)]; exact .refl _
      · exact ⟨⟨(), by rw [lenR, ← e1, ← e2, ← e3]; exact h⟩, (by refine Wk.of ?_ ?_ rfl rfl rfl<;>repeat' (first|exact trivial|exact WkD.same _|refine ⟨?_, ?_⟩|fail))⟩
    rintro ⟨_, h1⟩
    have hb1 : a.pre.length ≤ 10 ∧ a.post.length ≤ 10 ∧ a.rel.length ≤ 6 := by
      unfold lenR at h1
      cases q1 : decide ((a.pre.length : Int) > 10) with
      | true => rw [q1] at h1; cases h1
      | false =>
        cases q2 : decide ((a.post.length : Int) > 10) with
        | true => rw [q1, q2] at h1; cases h1
        | false =>
          rw [q1, q2] at h1
          have g1 := of_decide_eq_false q1
          have g2 := of_decide_eq_false q2
          have g3 := of_decide_eq_false (show decide ((a.rel.length : Int) > 6) = false from h1)
          exact ⟨by omega, by omega, by omega⟩
    refine ⟨{ _x : Unit // preB 40 a.pre = false }, fun _ => [(0, .pv (actsPV acts)), (3, .pv (i64 i))], fun _ => 0, fun _ => [], ?_, ?_⟩
    · try conv=>whnf
      refine ⟨{ k : Nat // k ≤ a.pre.length ∧ preB 40 (a.pre.take k) = false }, fun k => [(0, .pv (actsPV acts)), (3, .pv (i64 i)), (4, .pv (i64 k.1))], fun _ => 0, fun _ => [], fun k => a.pre.length - k.1, ⟨⟨0, Nat.zero_le _, rfl⟩, (by refine Wk.of ?_ ?_ rfl rfl rfl<;>repeat' (first|exact trivial|exact WkD.same _|refine ⟨?_, ?_⟩|fail))⟩, ?_⟩
      rintro ⟨k, hk, hc⟩
      (try conv=>whnf);repeat' (first|(apply And.intro<;>try conv=>whnf)|(intro h;try conv=>whnf)|(apply infoT;rfl)|(refine ⟨_, _, rfl, idx_map (by with_reducible assumption), rfl, ?_⟩;try conv=>whnf)|fail)
      · have hk' : k < a.pre.length := by simpa using lt_dec h
        have hkn : a.pre[k]? = some a.pre[k] := List.getElem?_eq_getElem hk'
        have e4 : ((a.pre[k].map Nd.pv).length : Int) = (a.pre[k].length : Int) := by simp
        (try conv=>whnf);repeat' (first|(apply And.intro<;>try conv=>whnf)|(intro h;try conv=>whnf)|(refine ⟨_, _, rfl, idx_map (by with_reducible assumption), rfl, ?_⟩;try conv=>whnf)|fail)
        · have h9 : preB 40 a.pre = true := any_at (p := fun f : List Nd => decide ((f.length : Int) > 40)) hk' (by rw [← e4]; exact h)
          rw [hat (by rw [badR, h1, h9]; rfl)]; exact .refl _
        · exact ⟨⟨k + 1, hk', any_take (p := fun f : List Nd => decide ((f.length : Int) > 40)) hk' hc (by rw [← e4]; exact h)⟩, by show a.pre.length - (k + 1) < a.pre.length - k; omega, (by refine Wk.of ?_ ?_ rfl rfl rfl<;>repeat' (first|exact trivial|exact WkD.same _|refine WkD.int ?_|refine ⟨?_, ?_⟩|(refine wrapA ?_ ?_ ?_;(focus simp;done);(focus (try dsimp only);omega);(focus (try dsimp only);omega))|fail))⟩
      · have hk' : k = a.pre.length := by have := ge_dec (m := (a.pre.map fpv).length) h (by simpa using hk); simpa using this
        subst hk'
        rw [List.take_length] at hc
        exact ⟨⟨(), hc⟩, (by refine Wk.of ?_ ?_ rfl rfl rfl<;>repeat' (first|exact trivial|exact WkD.same _|refine ⟨?_, ?_⟩|fail))⟩
    rintro ⟨_, h2⟩
    refine ⟨{ _x : Unit // postB 40 a.post = false }, fun _ => [(0, .pv (actsPV acts)), (3, .pv (i64 i))], fun _ => 0, fun _ => [], ?_, ?_⟩
    · try conv=>whnf
      refine ⟨{ k : Nat // k ≤ a.post.length ∧ postB 40 (a.post.take k) = false }, fun k => [(0, .pv (actsPV acts)), (3, .pv (i64 i)), (5, .pv (i64 k.1))], fun _ => 0, fun _ => [], fun k => a.post.length - k.1, ⟨⟨0, Nat.zero_le _, rfl⟩, (by refine Wk.of ?_ ?_ rfl rfl rfl<;>repeat' (first|exact trivial|exact WkD.same _|refine ⟨?_, ?_⟩|fail))⟩, ?_⟩
      rintro ⟨k, hk, hc⟩
      (try conv=>whnf);repeat' (first|(apply And.intro<;>try conv=>whnf)|(intro h;try conv=>whnf)|(apply infoT;rfl)|(refine ⟨_, _, rfl, idx_map (by with_reducible assumption), rfl, ?_⟩;try conv=>whnf)|fail)
      · have hk' : k < a.post.length := by simpa using lt_dec h
        have hat2 := any_at (p := fun l : List Asg => bif decide ((l.length : Int) > 12) then true else asgB 40 l) hk'
        have htk2 := any_take (p := fun l : List Asg => bif decide ((l.length : Int) > 12) then true else asgB 40 l) hk' hc
        obtain ⟨l, hkn, hkr⟩ : ∃ l, a.post[k]? = some l ∧ a.post[k] = l := ⟨_, List.getElem?_eq_getElem hk', rfl⟩
        rw [hkr] at hat2 htk2
        have e4 : ((l.map Asg.pv).length : Int) = (l.length : Int) := by simp
        (try conv=>whnf);repeat' (first|(apply And.intro<;>try conv=>whnf)|(intro h;try conv=>whnf)|(refine ⟨_, _, rfl, idx_map (by with_reducible assumption), rfl, ?_⟩;try conv=>whnf)|fail)
        · have h9 : decide ((l.length : Int) > 12) = true := by rw [← e4]; exact h
          rw [hat (by rw [badR, h1, h2, show postB 40 a.post = true from hat2 (by rw [h9]; rfl)]; rfl)]; exact .refl _
        have h9 : decide ((l.length : Int) > 12) = false := by rw [← e4]; exact h
        have hll : l.length ≤ 12 := by have := of_decide_eq_false h9; omega
        refine ⟨{ j : Nat // j ≤ l.length ∧ asgB 40 (l.take j) = false }, fun j => [(0, .pv (actsPV acts)), (3, .pv (i64 i)), (5, .pv (i64 k)), (6, .pv (i64 j.1))], fun _ => 0, fun _ => [], fun j => l.length - j.1, ⟨⟨0, Nat.zero_le _, rfl⟩, (by refine Wk.of ?_ ?_ rfl rfl rfl<;>repeat' (first|exact trivial|exact WkD.same _|refine ⟨?_, ?_⟩|fail))⟩, ?_⟩
        rintro ⟨j, hj, hd⟩
        (try conv=>whnf);repeat' (first|(apply And.intro<;>try conv=>whnf)|(intro h;try conv=>whnf)|(apply infoT;rfl)|(refine ⟨_, _, rfl, idx_map (by with_reducible assumption), rfl, ?_⟩;try conv=>whnf)|fail)
        · have hj' : j < l.length := by simpa using lt_dec h
          have hm : l[j]? = some l[j] := List.getElem?_eq_getElem hj'
          have e5 : ((l[j].to.map Nd.pv).length : Int) = (l[j].to.length : Int) := by simp
          (try conv=>whnf);repeat' (first|(apply And.intro<;>try conv=>whnf)|(intro h;try conv=>whnf)|(refine ⟨_, _, rfl, idx_map (by with_reducible assumption), rfl, ?_⟩;try conv=>whnf)|fail)
          · have h7 : asgB 40 l = true := any_at (p := fun p : Asg => decide ((p.to.length : Int) > 40)) hj' (by rw [← e5]; exact h)
            rw [hat (by rw [badR, h1, h2, show postB 40 a.post = true from hat2 (by rw [h9, h7]; rfl)]; rfl)]; exact .refl _
          · exact ⟨⟨j + 1, hj', any_take (p := fun p : Asg => decide ((p.to.length : Int) > 40)) hj' hd (by rw [← e5]; exact h)⟩, by show l.length - (j + 1) < l.length - j; omega, (by refine Wk.of ?_ ?_ rfl rfl rfl<;>repeat' (first|exact trivial|exact WkD.same _|refine WkD.int ?_|refine ⟨?_, ?_⟩|(refine wrapA ?_ ?_ ?_;(focus simp;done);(focus (try dsimp only);omega);(focus (try dsimp only);omega))|fail))⟩
        · have hj' : j = l.length := by have := ge_dec (m := (l.map Asg.pv).length) h (by simpa using hj); simpa using this
          subst hj'
          rw [List.take_length] at hd
          exact ⟨⟨k + 1, hk', htk2 (by rw [h9, hd]; rfl)⟩, by show a.post.length - (k + 1) < a.post.length - k; omega, (by refine Wk.of ?_ ?_ rfl rfl rfl<;>repeat' (first|exact trivial|exact WkD.same _|refine WkD.int ?_|refine ⟨?_, ?_⟩|(refine wrapA ?_ ?_ ?_;(focus simp;done);(focus (try dsimp only);omega);(focus (try dsimp only);omega))|fail))⟩
      · have hk' : k = a.post.length := by have := ge_dec (m := (a.post.map postPV).length) h (by simpa using hk); simpa using this
        subst hk'
        rw [List.take_length] at hc
        exact ⟨⟨(), hc⟩, (by refine Wk.of ?_ ?_ rfl rfl rfl<;>repeat' (first|exact trivial|exact WkD.same _|refine ⟨?_, ?_⟩|fail))⟩
    rintro ⟨_, h3⟩
    try conv=>whnf
    refine ⟨{ k : Nat // k ≤ a.rel.length ∧ rowsR (a.rel.take k) = false }, fun k => [(0, .pv (actsPV acts)), (3, .pv (i64 i)), (7, .pv (i64 k.1))], fun _ => 0, fun _ => [], fun k => a.rel.length - k.1, ⟨⟨0, Nat.zero_le _, rfl⟩, (by refine Wk.of ?_ ?_ rfl rfl rfl<;>repeat' (first|exact trivial|exact WkD.same _|refine ⟨?_, ?_⟩|fail))⟩, ?_⟩
    rintro ⟨k, hk, hc⟩
    (try conv=>whnf);repeat' (first|(apply And.intro<;>try conv=>whnf)|(intro h;try conv=>whnf)|(apply infoT;rfl)|(refine ⟨_, _, rfl, idx_map (by with_reducible assumption), rfl, ?_⟩;try conv=>whnf)|fail)
    · have hk' : k < a.rel.length := by simpa using lt_dec h
      have hkn : a.rel[k]? = some a.rel[k] := List.getElem?_eq_getElem hk'
      have e4 : ((a.rel[k].map u64).length : Int) = (a.rel[k].length : Int) := by simp
      (try conv=>whnf);repeat' (first|(apply And.intro<;>try conv=>whnf)|(intro h;try conv=>whnf)|(refine ⟨_, _, rfl, idx_map (by with_reducible assumption), rfl, ?_⟩;try conv=>whnf)|fail)
      · have h9 : rowsR a.rel = true := any_at (p := fun r : List Nat => decide ((r.length : Int) > 12)) hk' (by rw [← e4]; exact h)
        rw [hat (by rw [badR, h1, h2, h3, h9]; rfl)]; exact .refl _
      · exact ⟨⟨k + 1, hk', any_take (p := fun r : List Nat => decide ((r.length : Int) > 12)) hk' hc (by rw [← e4]; exact h)⟩, by show a.rel.length - (k + 1) < a.rel.length - k; omega, (by refine Wk.of ?_ ?_ rfl rfl rfl<;>repeat' (first|exact trivial|exact WkD.same _|refine WkD.int ?_|refine ⟨?_, ?_⟩|(refine wrapA ?_ ?_ ?_;(focus simp;done);(focus (try dsimp only);omega);(focus (try dsimp only);omega))|fail))⟩
    · have hk' : k = a.rel.length := by have := ge_dec (m := (a.rel.map rowPV).length) h (by simpa using hk); simpa using this
      subst hk'
      rw [List.take_length] at hc
      exact ⟨⟨i + 1, hi', htk (by rw [badR, h1, h2, h3, hc]; rfl)⟩, by show acts.length - (i + 1) < acts.length - i; omega, (by refine Wk.of ?_ ?_ rfl rfl rfl<;>repeat' (first|exact trivial|exact WkD.same _|refine WkD.int ?_|refine ⟨?_, ?_⟩|(refine wrapA ?_ ?_ ?_;(focus simp;done);(focus (try dsimp only);omega);(focus (try dsimp only);omega))|fail))⟩
  · have hi' : i = acts.length := by have := ge_dec (m := (acts.map Act.pv).length) h (by simpa using hi); simpa using this
    subst hi'
    rw [List.take_length] at hb
    rw [hb]; exact .refl _
end Go.Proofs.YtibbphifegibkaaGreat
set_option maxRecDepth 100000
set_option maxHeartbeats 8000000
namespace Go.Proofs.YtibbphifegibkaaGreat
open Go Go.Dv

def longL (l : List (List Nd)) : Bool := l.any fun f => decide ((f.length : Int) > 40)
def fewL (acts : List Act) (l : List (List Nd)) : Bool := bif longL l then false else fewR acts
theorem rl_few (acts : List Act) (l : List (List Nd)) (hl : l.length ≤ 1000) : PureFn Tryz.prog 6 [actsPV acts, .sl (l.map fpv)] (.bool (fewL acts l)) := by
  have hF := rd_Few acts
  refine PureFn.intro mixed (fn := Tryz.f6) rfl rfl rfl fun M w0 => ?_
  try conv=>whnf
  refine ⟨{ i : Nat // i ≤ l.length ∧ longL (l.take i) = false }, fun i => [(0, .pv (actsPV acts)), (7, .pv (.sl (l.map fpv))), (8, .pv (i64 (l.map fpv).length)), (9, .pv (i64 i.1))], fun _ => 0, fun _ => [], fun i => l.length - i.1, ⟨⟨0, Nat.zero_le _, rfl⟩, (by refine Wk.of ?_ ?_ rfl rfl rfl<;>repeat' (first|exact trivial|exact WkD.same _|refine ⟨?_, ?_⟩|fail))⟩, ?_⟩
  rintro ⟨i, hi, ha⟩
  (try conv=>whnf);repeat' (first|(apply And.intro<;>try conv=>whnf)|(intro h;try conv=>whnf)|(apply infoT;rfl)|fail)
  · have hi' : i < l.length := by simpa using lt_dec h
    have hm : l[i]? = some l[i] := List.getElem?_eq_getElem hi'
    have ef : ((l[i].map Nd.pv).length : Int) = (l[i].length : Int) := by simp
    (try conv=>whnf);repeat' (first|(apply And.intro<;>try conv=>whnf)|(intro h;try conv=>whnf)|(refine ⟨_, _, rfl, idx_map (by with_reducible assumption), rfl, ?_⟩;try conv=>whnf)|fail)
    · rw [ef] at h
      have : longL l = true := any_at hi' h
      rw [fewL, this]; exact .refl _
    · rw [ef] at h
      exact ⟨⟨i + 1, hi', any_take hi' ha h⟩, by show l.length - (i + 1) < l.length - i; omega, (by refine Wk.of ?_ ?_ rfl rfl rfl<;>repeat' (first|exact trivial|exact WkD.same _|refine WkD.int ?_|refine ⟨?_, ?_⟩|(refine wrapA ?_ ?_ ?_;(focus simp;done);(focus (try dsimp only);omega);(focus (try dsimp only);omega))|fail))⟩
  · have hi' : i = l.length := by have := ge_dec (m := (l.map fpv).length) h (by simpa using hi); simpa using this
    subst hi'
    rw [List.take_length] at ha
    rw [fewL, ha]
    (try conv=>whnf);repeat' (first|(refine PureFn.dcq (f := 22) rfl ?_;try conv=>whnf)|(refine ⟨_, _, hF, ?_, ?_⟩;(focus first|(refine ⟨?_, trivial⟩<;>first|exact PLe.refl _|exact PLe.nil)|exact trivial);try conv=>whnf)|fail)
    exact .refl _
theorem few_len {acts : List Act} {l : List (List Nd)} (h : fewL acts l = true) : fewR acts = true ∧ ∀ f, f ∈ l → f.length ≤ 40 := by
  unfold fewL at h
  cases h1 : longL l with
  | true => rw [h1] at h; cases h
  | false =>
    rw [h1] at h
    refine ⟨h, fun f hf => ?_⟩
    have := List.any_eq_false.1 h1 f hf
    have := of_decide_eq_false (show decide ((f.length : Int) > 40) = false by simpa using this)
    omega
theorem awS {a : Act} (h1 : (a.rel.all fun r => r.all fun s => decide (s < 2 ^ 64)) = true) (h2 : a.rel.length ≤ 1000) (h3 : (a.post.all fun l => decide (l.length ≤ 1000)) = true) : SmX a := by
  refine ⟨fun r hr s hs => ?_, h2, fun l hl => ?_⟩
  · have := List.all_eq_true.1 (List.all_eq_true.1 h1 r hr) s hs
    simpa using this
  · simpa using List.all_eq_true.1 h3 l hl
theorem pair_of {a : List Nd × Int} {z : List Nd} {e : Int} (h1 : z = a.1) (h2 : a.2 = e) : a = (z, e) := by
  obtain ⟨x, y⟩ := a
  simp only at h1 h2
  rw [h1, h2]
theorem rl_awake : PureFn Tryz.prog 5 [] (.bool true) := by
  obtain ⟨P, qP⟩ : ∃ z : List Nd, z = buildL (nI 3 0) [] := ⟨_, rfl⟩
  have hP := fm_Fact 0
  rw [← qP] at hP
  obtain ⟨Q, qQ⟩ : ∃ z : List Nd, z = buildL (nI 3 1) [] := ⟨_, rfl⟩
  have hQ := fm_Fact 1
  rw [← qQ] at hQ
  obtain ⟨Y, qY⟩ : ∃ z : List Nd, z = buildL (n0 1) [] := ⟨_, rfl⟩
  have hY := fm_True
  rw [← qY] at hY
  obtain ⟨K, qK⟩ : ∃ z : List Nd, z = buildL (nI 9 0) [Q] := ⟨_, rfl⟩
  have hK := fm_Know 0 Q
  rw [← qK] at hK
  obtain ⟨C3, qC3⟩ : ∃ z : List Nd, z = buildL (nG 13 3) [Y, Q] := ⟨_, rfl⟩
  have hC3 := fm_Common 3 Y Q
  rw [← qC3] at hC3
  obtain ⟨C1, qC1⟩ : ∃ z : List Nd, z = buildL (nG 13 1) [Y, Q] := ⟨_, rfl⟩
  have hC1 := fm_Common 1 Y Q
  rw [← qC1] at hC1
  obtain ⟨PQ, qPQ⟩ : ∃ z : List Nd, z = buildL (n0 7) [P, Q] := ⟨_, rfl⟩
  have hPQ := fm_Imp P Q
  rw [← qPQ] at hPQ
  obtain ⟨K2, qK2⟩ : ∃ z : List Nd, z = buildL (nI 9 0) [PQ] := ⟨_, rfl⟩
  have hK2 := fm_Know 0 PQ
  rw [← qK2] at hK2
  obtain ⟨F1, qF1⟩ : ∃ z : List Nd, z = buildL (n0 7) [P, K2] := ⟨_, rfl⟩
  have hF1 := fm_Imp P K2
  rw [← qF1] at hF1
  obtain ⟨PY, qPY⟩ : ∃ z : List Nd, z = buildL (n0 7) [P, Y] := ⟨_, rfl⟩
  have hPY := fm_Imp P Y
  rw [← qPY] at hPY
  obtain ⟨AY, qAY⟩ : ∃ z : List Nd, z = buildL (n0 5) [P, PY] := ⟨_, rfl⟩
  have hAY := fm_And P PY
  rw [← qAY] at hAY
  obtain ⟨CA, qCA⟩ : ∃ z : List Nd, z = buildL (nG 13 3) [AY, PQ] := ⟨_, rfl⟩
  have hCA := fm_Common 3 AY PQ
  rw [← qCA] at hCA
  obtain ⟨F2, qF2⟩ : ∃ z : List Nd, z = buildL (n0 7) [P, CA] := ⟨_, rfl⟩
  have hF2 := fm_Imp P CA
  rw [← qF2] at hF2
  obtain ⟨YQ, qYQ⟩ : ∃ z : List Nd, z = buildL (n0 7) [Y, Q] := ⟨_, rfl⟩
  have hYQ := fm_Imp Y Q
  rw [← qYQ] at hYQ
  obtain ⟨K3, qK3⟩ : ∃ z : List Nd, z = buildL (nI 9 0) [YQ] := ⟨_, rfl⟩
  have hK3 := fm_Know 0 YQ
  rw [← qK3] at hK3
  obtain ⟨A4, qA4⟩ : ∃ z : List Nd, z = buildL (n0 5) [K2, K3] := ⟨_, rfl⟩
  have hA4 := fm_And K2 K3
  rw [← qA4] at hA4
  obtain ⟨F4, qF4⟩ : ∃ z : List Nd, z = buildL (n0 7) [Y, A4] := ⟨_, rfl⟩
  have hF4 := fm_Imp Y A4
  rw [← qF4] at hF4
  obtain ⟨T0, qT0⟩ : ∃ z : List Nd, z = buildL ⟨17, 0, 0, 0, 0, 0⟩ [Q] := ⟨_, rfl⟩
  have hT0 := fm_Act 0 0 Q
  rw [← qT0] at hT0
  obtain ⟨T1, qT1⟩ : ∃ z : List Nd, z = buildL (n0 16) [P, T0] := ⟨_, rfl⟩
  have hT1 := fm_Announce P T0
  rw [← qT1] at hT1
  obtain ⟨T2, qT2⟩ : ∃ z : List Nd, z = buildL ⟨17, 0, 0, 0, 0, 0⟩ [C1] := ⟨_, rfl⟩
  have hT2 := fm_Act 0 0 C1
  rw [← qT2] at hT2
  obtain ⟨A, qA⟩ : ∃ a : Act, a = ⟨[P, Y], [[], []], [[1, 3]]⟩ := ⟨_, rfl⟩
  have hSA : SmX A := by rw [qA]; exact awS rfl (by simp) rfl
  obtain ⟨RA, qRA⟩ : ∃ z : List Nd, z = (annI P K).1 := ⟨_, rfl⟩
  have hRA := red_Announced P K
  rw [pair_of qRA (e := 0) (by rw [qK, qQ, qP]; kernel_rfl)] at hRA
  obtain ⟨RB, qRB⟩ : ∃ z : List Nd, z = (annI P C3).1 := ⟨_, rfl⟩
  have hRB := red_Announced P C3
  rw [pair_of qRB (e := 0) (by rw [qC3, qY, qQ, qP]; kernel_rfl)] at hRB
  obtain ⟨RC, qRC⟩ : ∃ z : List Nd, z = (aftI A 0 K).1 := ⟨_, rfl⟩
  have hRC := red_After A 0 K hSA
  rw [pair_of qRC (e := 0) (by rw [qA, qK, qY, qQ, qP]; kernel_rfl)] at hRC
  obtain ⟨RD, qRD⟩ : ∃ z : List Nd, z = (aftI A 1 K).1 := ⟨_, rfl⟩
  have hRD := red_After A 1 K hSA
  rw [pair_of qRD (e := 0) (by rw [qA, qK, qY, qQ, qP]; kernel_rfl)] at hRD
  have hSL : ∀ a, a ∈ [A] → SmX a := fun a ha => by rw [List.mem_singleton.1 ha]; exact hSA
  obtain ⟨RX, qRX⟩ : ∃ z : List Nd, z = (rdI [A] T1).1 := ⟨_, rfl⟩
  have hRX := red_Reduce [A] T1 hSL
  rw [pair_of qRX (e := 0) (by rw [qA, qT1, qT0, qY, qQ, qP]; kernel_rfl)] at hRX
  obtain ⟨RJ, qRJ⟩ : ∃ z : List Nd, z = (rdI [A] T2).1 := ⟨_, rfl⟩
  have hRJ := red_Reduce [A] T2 hSL
  rw [pair_of qRJ (e := 10) (by rw [qA, qT2, qC1, qY, qQ, qP]; kernel_rfl)] at hRJ
  obtain ⟨RY, qRY⟩ : ∃ z : List Nd, z = (annI P PQ).1 := ⟨_, rfl⟩
  have hRY := red_Announced P PQ
  rw [pair_of qRY (e := 0) (by rw [qPQ, qQ, qP]; kernel_rfl)] at hRY
  have s1 := (fm_Same RA F1).to (q := .bool true) (by rw [qRA, qF1, qK2, qK, qPQ, qQ, qP]; kernel_rfl)
  have s2 := (fm_Same RB F2).to (q := .bool true) (by rw [qRB, qF2, qCA, qAY, qPY, qC3, qPQ, qY, qQ, qP]; kernel_rfl)
  have s3 := (fm_Same RC F1).to (q := .bool true) (by rw [qRC, qF1, qA, qK2, qK, qPQ, qY, qQ, qP]; kernel_rfl)
  have s4 := (fm_Same RD F4).to (q := .bool true) (by rw [qRD, qF4, qA4, qK3, qYQ, qA, qK2, qK, qPQ, qY, qQ, qP]; kernel_rfl)
  have s5 := (fm_Same RX RY).to (q := .bool true) (by rw [qRX, qRY, qA, qT1, qT0, qPQ, qY, qQ, qP]; kernel_rfl)
  have hpv : A.pv = .agg [.sl [fpv P, fpv Y], .sl [.sl [], .sl []], .sl [.sl [u64 1, u64 3]]] := by rw [qA]; rfl
  have le1 : PLe (.agg [.sl [fpv P, fpv Y], .sl [.nil, .nil], .sl [.sl [u64 1, u64 3]]]) A.pv := by
    rw [hpv]
    refine .agg _ _ rfl fun i p q hp hq => ?_
    match i, hp, hq with
    | 0, hp, hq => cases hp; cases hq; exact .refl _
    | 1, hp, hq =>
      cases hp; cases hq
      refine .sl _ _ rfl fun j p q hp hq => ?_
      match j, hp, hq with
      | 0, hp, hq => cases hp; cases hq; exact .nil
      | 1, hp, hq => cases hp; cases hq; exact .nil
      | _ + 2, hp, _ => simp at hp
    | 2, hp, hq => cases hp; cases hq; exact .refl _
    | _ + 3, hp, _ => simp at hp
  have le2 : PLe (.sl [.agg [.sl [fpv P, fpv Y], .sl [.nil, .nil], .sl [.sl [u64 1, u64 3]]]]) (actsPV [A]) := .sl _ _ rfl fun i p q hp hq => by
    match i, hp, hq with
    | 0, hp, hq => cases hp; cases hq; exact le1
    | _ + 1, hp, _ => simp at hp
  have hRC := hRC.le (ps := [.agg [.sl [fpv P, fpv Y], .sl [.nil, .nil], .sl [.sl [u64 1, u64 3]]], .int .i64 0, fpv K]) ⟨le1, .refl _, .refl _, trivial⟩
  have hRD := hRD.le (ps := [.agg [.sl [fpv P, fpv Y], .sl [.nil, .nil], .sl [.sl [u64 1, u64 3]]], .int .i64 1, fpv K]) ⟨le1, .refl _, .refl _, trivial⟩
  have hRX := hRX.le (ps := [.sl [.agg [.sl [fpv P, fpv Y], .sl [.nil, .nil], .sl [.sl [u64 1, u64 3]]]], fpv T1]) ⟨le2, .refl _, trivial⟩
  have hRJ := hRJ.le (ps := [.sl [.agg [.sl [fpv P, fpv Y], .sl [.nil, .nil], .sl [.sl [u64 1, u64 3]]]], fpv T2]) ⟨le2, .refl _, trivial⟩
  clear le1 le2 hpv hSA hSL
  refine PureFn.introC [2, 3, 4, 5, 6, 7, 8, 9, 10, 11, 12] mixed (fn := Tryz.f5) rfl rfl rfl fun M w0 => ?_
  try conv=>whnf
  refine ⟨Unit, fun _ => [(1, .pv (fpv P)), (2, .pv (fpv Q)), (3, .pv (fpv Y))], fun _ => 0, fun _ => [], ?_, ?_⟩
  · (try conv=>whnf);repeat' (first|(refine PureFn.dcq (f := 12) rfl ?_;try conv=>whnf)|(refine PureFn.dcq (f := 13) rfl ?_;try conv=>whnf)|(refine ⟨_, _, hP, ?_, ?_⟩;(focus first|(refine ⟨?_, trivial⟩<;>first|exact PLe.refl _|exact PLe.nil)|exact trivial);try conv=>whnf)|(refine ⟨_, _, hQ, ?_, ?_⟩;(focus first|(refine ⟨?_, trivial⟩<;>first|exact PLe.refl _|exact PLe.nil)|exact trivial);try conv=>whnf)|(refine ⟨_, _, hY, ?_, ?_⟩;(focus first|(refine ⟨trivial⟩<;>first|exact PLe.refl _|exact PLe.nil)|exact trivial);try conv=>whnf)|fail)
    exact ⟨(), (by refine Wk.of ?_ ?_ rfl rfl rfl<;>repeat' (first|exact trivial|exact WkD.same _|refine ⟨?_, ?_⟩|fail))⟩
  rintro ⟨⟩
  refine ⟨Unit, fun _ => [(1, .pv (fpv P)), (2, .pv (fpv Q)), (3, .pv (fpv Y)), (4, .pv (fpv RA)), (5, .pv (.int .i64 0))], fun _ => 0, fun _ => [], ?_, ?_⟩
  · (try conv=>whnf);repeat' (first|(refine PureFn.dcq (f := 15) rfl ?_;try conv=>whnf)|(refine PureFn.dcq (f := 14) rfl ?_;try conv=>whnf)|(refine ⟨_, _, hK, ?_, ?_⟩;(focus first|(refine ⟨?_, ?_, trivial⟩<;>first|exact PLe.refl _|exact PLe.nil)|exact trivial);try conv=>whnf)|(refine ⟨_, _, hRA, ?_, ?_⟩;(focus first|(refine ⟨?_, ?_, trivial⟩<;>first|exact PLe.refl _|exact PLe.nil)|exact trivial);try conv=>whnf)|fail)
    exact ⟨(), (by refine Wk.of ?_ ?_ rfl rfl rfl<;>repeat' (first|exact trivial|exact WkD.same _|refine ⟨?_, ?_⟩|fail))⟩
  rintro ⟨⟩
  refine ⟨Unit, fun _ => [(1, .pv (fpv P)), (2, .pv (fpv Q)), (3, .pv (fpv Y)), (4, .pv (fpv RA)), (5, .pv (.int .i64 0)), (6, .pv (fpv RB)), (7, .pv (.int .i64 0))], fun _ => 0, fun _ => [], ?_, ?_⟩
  · (try conv=>whnf);repeat' (first|(refine PureFn.dcq (f := 16) rfl ?_;try conv=>whnf)|(refine PureFn.dcq (f := 14) rfl ?_;try conv=>whnf)|(refine ⟨_, _, hC3, ?_, ?_⟩;(focus first|(refine ⟨?_, ?_, ?_, trivial⟩<;>first|exact PLe.refl _|exact PLe.nil)|exact trivial);try conv=>whnf)|(refine ⟨_, _, hRB, ?_, ?_⟩;(focus first|(refine ⟨?_, ?_, trivial⟩<;>first|exact PLe.refl _|exact PLe.nil)|exact trivial);try conv=>whnf)|fail)
    exact ⟨(), (by refine Wk.of ?_ ?_ rfl rfl rfl<;>repeat' (first|exact trivial|exact WkD.same _|refine ⟨?_, ?_⟩|fail))⟩
  rintro ⟨⟩
  refine ⟨Unit, fun _ => [(1, .pv (fpv P)), (2, .pv (fpv Q)), (3, .pv (fpv Y)), (4, .pv (fpv RA)), (5, .pv (.int .i64 0)), (6, .pv (fpv RB)), (7, .pv (.int .i64 0)), (8, .ref 1 0)], fun _ => 2, fun _ => [(1, .var [.pv (.sl [fpv P, fpv Y]), .pv (.sl [.nil, .nil]), .pv (.sl [.sl [u64 1, u64 3]])])], ?_, ?_⟩
  · (try conv=>whnf);repeat' (first|(apply And.intro<;>try conv=>whnf)|(apply cellsI;rfl)|(apply Or.inl;try conv=>whnf)|fail)
    all_goals first | exact ⟨(), (by refine Wk.of ?_ ?_ rfl rfl rfl<;>repeat' (first|exact trivial|exact WkD.same _|exact WkD.fz _ _ _ rfl (Or.inl ⟨_, rfl⟩) rfl|refine WkO.vars rfl ?_|refine ⟨?_, ?_⟩|fail))⟩ | rfl | exact (by decide : (0 : Int) ≤ 2) | exact (by decide : (2 : Int) ≤ (big : Int)) | trivial
  rintro ⟨⟩
  refine ⟨Unit, fun _ => [(1, .pv (fpv P)), (2, .pv (fpv Q)), (3, .pv (fpv Y)), (4, .pv (fpv RA)), (5, .pv (.int .i64 0)), (6, .pv (fpv RB)), (7, .pv (.int .i64 0)), (8, .ref 1 0), (9, .pv (fpv RC)), (10, .pv (.int .i64 0))], fun _ => 2, fun _ => [(1, .var [.pv (.sl [fpv P, fpv Y]), .pv (.sl [.nil, .nil]), .pv (.sl [.sl [u64 1, u64 3]])])], ?_, ?_⟩
  · (try conv=>whnf);repeat' (first|(refine lin_plan (by kernel_rfl) ?_;try conv=>whnf)|(refine ⟨_, (by (conv=>whnf);exact hK), rfl, ?_⟩;try conv=>whnf)|(refine ⟨_, (by (conv=>whnf);exact hRC), rfl, ?_⟩;try conv=>whnf)|fail)
    exact ⟨(), (by refine Wk.of ?_ ?_ rfl rfl rfl<;>repeat' (first|exact trivial|exact WkD.same _|exact WkO.same _ _ rfl|refine ⟨?_, ?_⟩|fail))⟩
  rintro ⟨⟩
  refine ⟨Unit, fun _ => [(1, .pv (fpv P)), (2, .pv (fpv Q)), (3, .pv (fpv Y)), (4, .pv (fpv RA)), (5, .pv (.int .i64 0)), (6, .pv (fpv RB)), (7, .pv (.int .i64 0)), (8, .ref 1 0), (9, .pv (fpv RC)), (10, .pv (.int .i64 0)), (11, .pv (fpv RD)), (12, .pv (.int .i64 0))], fun _ => 2, fun _ => [(1, .var [.pv (.sl [fpv P, fpv Y]), .pv (.sl [.nil, .nil]), .pv (.sl [.sl [u64 1, u64 3]])])], ?_, ?_⟩
  · (try conv=>whnf);repeat' (first|(refine lin_plan (by kernel_rfl) ?_;try conv=>whnf)|(refine ⟨_, (by (conv=>whnf);exact hK), rfl, ?_⟩;try conv=>whnf)|(refine ⟨_, (by (conv=>whnf);exact hRD), rfl, ?_⟩;try conv=>whnf)|fail)
    exact ⟨(), (by refine Wk.of ?_ ?_ rfl rfl rfl<;>repeat' (first|exact trivial|exact WkD.same _|exact WkO.same _ _ rfl|refine ⟨?_, ?_⟩|fail))⟩
  rintro ⟨⟩
  refine ⟨Unit, fun _ => [(1, .pv (fpv P)), (2, .pv (fpv Q)), (3, .pv (fpv Y)), (4, .pv (fpv RA)), (5, .pv (.int .i64 0)), (6, .pv (fpv RB)), (7, .pv (.int .i64 0)), (8, .ref 1 0), (9, .pv (fpv RC)), (10, .pv (.int .i64 0)), (11, .pv (fpv RD)), (12, .pv (.int .i64 0)), (13, .pv (fpv RX)), (14, .pv (.int .i64 0))], fun _ => 2, fun _ => [(1, .var [.pv (.sl [fpv P, fpv Y]), .pv (.sl [.nil, .nil]), .pv (.sl [.sl [u64 1, u64 3]])])], ?_, ?_⟩
  · (try conv=>whnf);repeat' (first|(apply And.intro<;>try conv=>whnf)|(apply cellsI;rfl)|(refine lin_plan (by kernel_rfl) ?_;try conv=>whnf)|(refine ⟨_, (by (conv=>whnf);exact hT0), rfl, ?_⟩;try conv=>whnf)|(refine ⟨_, (by (conv=>whnf);exact hT1), rfl, ?_⟩;try conv=>whnf)|(refine ⟨_, (by (conv=>whnf);exact hRX), rfl, ?_⟩;try conv=>whnf)|fail)
    exact ⟨(), (by refine Wk.of ?_ ?_ rfl rfl rfl<;>repeat' (first|exact trivial|exact WkD.same _|exact WkO.same _ _ rfl|refine ⟨?_, ?_⟩|fail))⟩
  rintro ⟨⟩
  refine ⟨Unit, fun _ => [(1, .pv (fpv P)), (2, .pv (fpv Q)), (3, .pv (fpv Y)), (4, .pv (fpv RA)), (5, .pv (.int .i64 0)), (6, .pv (fpv RB)), (7, .pv (.int .i64 0)), (9, .pv (fpv RC)), (10, .pv (.int .i64 0)), (11, .pv (fpv RD)), (12, .pv (.int .i64 0)), (13, .pv (fpv RX)), (14, .pv (.int .i64 0)), (16, .pv (.int .i64 10))], fun _ => 2, fun _ => [], ?_, ?_⟩
  · (try conv=>whnf);repeat' (first|(apply And.intro<;>try conv=>whnf)|(apply cellsI;rfl)|(refine lin_plan (by kernel_rfl) ?_;try conv=>whnf)|(refine ⟨_, (by (conv=>whnf);exact hC1), rfl, ?_⟩;try conv=>whnf)|(refine ⟨_, (by (conv=>whnf);exact hT2), rfl, ?_⟩;try conv=>whnf)|(refine ⟨_, (by (conv=>whnf);exact hRJ), rfl, ?_⟩;try conv=>whnf)|fail)
    exact ⟨(), (by refine Wk.of ?_ ?_ rfl rfl rfl<;>repeat' (first|exact trivial|exact WkD.same _|refine ⟨?_, ?_⟩|fail))⟩
  rintro ⟨⟩
  refine ⟨Unit, fun _ => [(1, .pv (fpv P)), (2, .pv (fpv Q)), (3, .pv (fpv Y)), (4, .pv (fpv RA)), (5, .pv (.int .i64 0)), (6, .pv (fpv RB)), (7, .pv (.int .i64 0)), (9, .pv (fpv RC)), (10, .pv (.int .i64 0)), (11, .pv (fpv RD)), (12, .pv (.int .i64 0)), (13, .pv (fpv RX)), (14, .pv (.int .i64 0)), (16, .pv (.int .i64 10)), (17, .pv (fpv PQ))], fun _ => 2, fun _ => [], ?_, ?_⟩
  · (try conv=>whnf);repeat' (first|(refine PureFn.dcq (f := 19) rfl ?_;try conv=>whnf)|(refine ⟨_, _, hPQ, ?_, ?_⟩;(focus first|(refine ⟨?_, ?_, trivial⟩<;>first|exact PLe.refl _|exact PLe.nil)|exact trivial);try conv=>whnf)|fail)
    exact ⟨(), (by refine Wk.of ?_ ?_ rfl rfl rfl<;>repeat' (first|exact trivial|exact WkD.same _|refine ⟨?_, ?_⟩|fail))⟩
  rintro ⟨⟩
  refine ⟨Unit, fun _ => [(1, .pv (fpv P)), (2, .pv (fpv Q)), (3, .pv (fpv Y)), (4, .pv (fpv RA)), (5, .pv (.int .i64 0)), (6, .pv (fpv RB)), (7, .pv (.int .i64 0)), (9, .pv (fpv RC)), (10, .pv (.int .i64 0)), (11, .pv (fpv RD)), (12, .pv (.int .i64 0)), (13, .pv (fpv RX)), (14, .pv (.int .i64 0)), (16, .pv (.int .i64 10)), (17, .pv (fpv PQ)), (18, .pv (fpv RY)), (19, .pv (.int .i64 0))], fun _ => 2, fun _ => [], ?_, ?_⟩
  · (try conv=>whnf);repeat' (first|(refine PureFn.dcq (f := 14) rfl ?_;try conv=>whnf)|(refine ⟨_, _, hRY, ?_, ?_⟩;(focus first|(refine ⟨?_, ?_, trivial⟩<;>first|exact PLe.refl _|exact PLe.nil)|exact trivial);try conv=>whnf)|fail)
    exact ⟨(), (by refine Wk.of ?_ ?_ rfl rfl rfl<;>repeat' (first|exact trivial|exact WkD.same _|refine ⟨?_, ?_⟩|fail))⟩
  rintro ⟨⟩
  refine ⟨Unit, fun _ => [(1, .pv (fpv P)), (2, .pv (fpv Q)), (3, .pv (fpv Y)), (4, .pv (fpv RA)), (6, .pv (fpv RB)), (9, .pv (fpv RC)), (11, .pv (fpv RD)), (13, .pv (fpv RX)), (17, .pv (fpv PQ)), (18, .pv (fpv RY)), (20, .pv (.bool true))], fun _ => 2, fun _ => [], ?_, ?_⟩
  · (try conv=>whnf);repeat' (first|(apply And.intro<;>try conv=>whnf)|(intro h;try conv=>whnf)|apply True.intro|(apply WhenQ.mk;(try conv=>whnf);rotate_left;(try conv=>whnf);rotate_right)|with_reducible assumption|fail)
    exact ⟨(), (by refine Wk.of ?_ ?_ rfl rfl rfl<;>repeat' (first|exact trivial|exact WkD.same _|refine ⟨?_, ?_⟩|fail))⟩
  rintro ⟨⟩
  (try conv=>whnf);repeat' (first|(apply And.intro<;>try conv=>whnf)|(intro h;try conv=>whnf)|apply True.intro|(apply WhenQ.mk;(try conv=>whnf);rotate_left;(try conv=>whnf);rotate_right)|with_reducible assumption|(refine PureFn.dcq (f := 20) rfl ?_;try conv=>whnf)|(refine PureFn.dcq (f := 19) rfl ?_;try conv=>whnf)|(refine PureFn.dcq (f := 15) rfl ?_;try conv=>whnf)|(refine PureFn.dcq (f := 21) rfl ?_;try conv=>whnf)|(refine PureFn.dcq (f := 16) rfl ?_;try conv=>whnf)|(refine ⟨_, _, s1, ?_, ?_⟩;(focus first|(refine ⟨?_, ?_, trivial⟩<;>first|exact PLe.refl _|exact PLe.nil)|exact trivial);try conv=>whnf)|(refine ⟨_, _, s2, ?_, ?_⟩;(focus first|(refine ⟨?_, ?_, trivial⟩<;>first|exact PLe.refl _|exact PLe.nil)|exact trivial);try conv=>whnf)|(refine ⟨_, _, s3, ?_, ?_⟩;(focus first|(refine ⟨?_, ?_, trivial⟩<;>first|exact PLe.refl _|exact PLe.nil)|exact trivial);try conv=>whnf)|(refine ⟨_, _, s4, ?_, ?_⟩;(focus first|(refine ⟨?_, ?_, trivial⟩<;>first|exact PLe.refl _|exact PLe.nil)|exact trivial);try conv=>whnf)|(refine ⟨_, _, s5, ?_, ?_⟩;(focus first|(refine ⟨?_, ?_, trivial⟩<;>first|exact PLe.refl _|exact PLe.nil)|exact trivial);try conv=>whnf)|(refine ⟨_, _, hK2, ?_, ?_⟩;(focus first|(refine ⟨?_, ?_, trivial⟩<;>first|exact PLe.refl _|exact PLe.nil)|exact trivial);try conv=>whnf)|(refine ⟨_, _, hF1, ?_, ?_⟩;(focus first|(refine ⟨?_, ?_, trivial⟩<;>first|exact PLe.refl _|exact PLe.nil)|exact trivial);try conv=>whnf)|(refine ⟨_, _, hPY, ?_, ?_⟩;(focus first|(refine ⟨?_, ?_, trivial⟩<;>first|exact PLe.refl _|exact PLe.nil)|exact trivial);try conv=>whnf)|(refine ⟨_, _, hAY, ?_, ?_⟩;(focus first|(refine ⟨?_, ?_, trivial⟩<;>first|exact PLe.refl _|exact PLe.nil)|exact trivial);try conv=>whnf)|(refine ⟨_, _, hCA, ?_, ?_⟩;(focus first|(refine ⟨?_, ?_, ?_, trivial⟩<;>first|exact PLe.refl _|exact PLe.nil)|exact trivial);try conv=>whnf)|(refine ⟨_, _, hF2, ?_, ?_⟩;(focus first|(refine ⟨?_, ?_, trivial⟩<;>first|exact PLe.refl _|exact PLe.nil)|exact trivial);try conv=>whnf)|(refine ⟨_, _, hYQ, ?_, ?_⟩;(focus first|(refine ⟨?_, ?_, trivial⟩<;>first|exact PLe.refl _|exact PLe.nil)|exact trivial);try conv=>whnf)|(refine ⟨_, _, hK3, ?_, ?_⟩;(focus first|(refine ⟨?_, ?_, trivial⟩<;>first|exact PLe.refl _|exact PLe.nil)|exact trivial);try conv=>whnf)|(refine ⟨_, _, hA4, ?_, ?_⟩;(focus first|(refine ⟨?_, ?_, trivial⟩<;>first|exact PLe.refl _|exact PLe.nil)|exact trivial);try conv=>whnf)|(refine ⟨_, _, hF4, ?_, ?_⟩;(focus first|(refine ⟨?_, ?_, trivial⟩<;>first|exact PLe.refl _|exact PLe.nil)|exact trivial);try conv=>whnf)|fail)
  exact le_bool (by simp)
end Go.Proofs.YtibbphifegibkaaGreat
set_option maxRecDepth 100000
set_option maxHeartbeats 8000000
namespace Go.Proofs.YtibbphifegibkaaGreat
open Go Go.Dv

theorem lastF_nil {r : List (List Nd) × Int} (h : (lastF r).2 ≠ 0) : (lastF r).1 = [] := by
  unfold lastF at h ⊢
  cases q : (r.2 != 0) with
  | true => rfl
  | false => rw [q] at h; exact absurd rfl h
theorem rd_zero {acts : List Act} {f : List Nd} (h : (rdI acts f).2 ≠ 0) : (rdI acts f).1 = [] := by
  unfold rdI at h ⊢
  cases q : (rqI acts f != 0) with
  | true => rfl
  | false => rw [q] at h; exact lastF_nil h
theorem rd_fine {acts : List Act} {f : List Nd} (h : (rdI acts f).2 = 0) : RqOk acts f ∧ Can (rdI acts f).1 ∧ root (rdI acts f).1 = redT acts (root f) := by
  unfold rdI at h ⊢
  cases q : (rqI acts f != 0) with
  | true => rw [q] at h; exact absurd h (by simpa using q)
  | false =>
    rw [q] at h
    have hR := rq_ok (show rqI acts f = 0 by simpa using q)
    exact ⟨hR, redF_tree hR.cf (rq_nmd hR) h⟩
theorem can_len {z : List Nd} (h : Can z) : z.length ≤ 200 := by
  have := comp_len z
  rwa [can_comp h] at this
end Go.Proofs.YtibbphifegibkaaGreat
set_option maxRecDepth 100000
set_option maxHeartbeats 4000000
namespace Go.Proofs.YtibbphifegibkaaGreat
open Go Go.Dv

/-- What the reference's step asks of a node and its operands. -/
structure RefOk (acts : List Act) (x : Nd) (X Y : List Nd) : Prop where
  sx : usesX x.op = true → statI (agR acts) 8 X = 0
  sy : usesY x.op = true → statI (agR acts) 8 Y = 0
  act : x.op = 17 → ∃ q ev : Nat, x.i = q ∧ x.e = ev ∧ ∃ a, acts[q]? = some a ∧ acts.getD q noAct = a ∧ SmX a ∧ chkI a = 0 ∧ a.rel.length = agR acts ∧ ev < a.pre.length
theorem stB_of {A F : Int} {f : List Nd} (h : statI A F f = 0) : check f = 0 ∧ stB f = true ∧ fits f A F = true := by
  obtain ⟨h1, h2, h3⟩ := statI_ok h
  exact ⟨h1, by rw [stB, h2]; rfl, h3⟩
theorem annR_step {acts : List Act} {x : Nd} {X Y : List Nd} (h : RefOk acts x X Y) (h16 : x.op = 16) : annI X Y = stepR acts x X Y := by
  obtain ⟨a1, a2, _⟩ := stB_of (h.sx (by rw [h16]; rfl))
  obtain ⟨b1, b2, _⟩ := stB_of (h.sy (by rw [h16]; rfl))
  rw [annI, a1, b1, a2, b2, stepR, show (x.op == 16) = true by simpa using h16]; rfl
theorem badEv_ok {a : Act} {ev : Nat} (h : ev < a.pre.length) : badEv a (ev : Nat) = false := by
  rw [badEv, decide_eq_false (by omega), decide_eq_false (by omega)]; rfl
theorem aft_step {acts : List Act} {x : Nd} {X Y : List Nd} (h : RefOk acts x X Y) (h17 : x.op = 17) {q ev : Nat} {a : Act} (hq : x.i = q) (he : x.e = ev) (ha : acts.getD q noAct = a) (hc : chkI a = 0) (hl : a.rel.length = agR acts) (hev : ev < a.pre.length) : aftI a (ev : Nat) X = stepR acts x X Y := by
  obtain ⟨a1, a2, a3⟩ := stB_of (h.sx (by rw [h17]; rfl))
  have hm := (chk_ok hc).2.2.2
  rw [aftI, hc, a1, badEv_ok hev, a2, hm, hl, a3, stepR, show (x.op == 16) = false by rw [h17]; rfl, show (x.op == 17) = true by simpa using h17, hq, he, Int.toNat_natCast, Int.toNat_natCast, ha]
  cases (and64 (frags X : Nat) 8 != 0) <;> rfl
theorem step_cong {acts : List Act} {x : Nd} {X Y X' Y' : List Nd} (h1 : usesX x.op = true → X = X') (h2 : usesY x.op = true → Y = Y') : stepR acts x X Y = stepR acts x X' Y' := by
  unfold stepR
  by_cases q : x.op = 16
  · rw [h1 (by rw [q]; rfl), h2 (by rw [q]; rfl)]
  rw [show (x.op == 16) = false by simpa using q, cond_false, cond_false]
  by_cases q2 : x.op = 17
  · rw [h1 (by rw [q2]; rfl), show (x.op == 17) = true by simpa using q2]; rfl
  rw [show (x.op == 17) = false by simpa using q2, cond_false, cond_false]
  rw [ap_cong h1 h2]
/-- What Reduce of the reference makes of the answer of a step. -/
def StpR (s : List Nd × Int) (r : List Nd) (e : Int) : Prop := (e ≠ 0 → s.2 = e) ∧ (e = 0 → s = nz r)
theorem nz_can {s : List Nd × Int} (h : s.2 = 0 → Can s.1) : StpR s s.1 s.2 := by
  refine ⟨fun _ => rfl, fun h0 => ?_⟩
  have hc := h h0
  obtain ⟨z, e⟩ := s
  simp only at h0 hc
  subst h0
  have : z.isEmpty = false := by
    cases z with
    | nil => exact absurd hc.check (by decide)
    | cons b r => rfl
  rw [nz, this]; rfl
theorem rr_Reduce (acts : List Act) (f : List Nd) (hS : ∀ a, a ∈ acts → SmX a) : PureFn Tryz.prog 11 [actsPV acts, fpv f] (pairF (rdI acts f)) := by
  have hq := rr_errors acts f hS
  by_cases h0 : rqI acts f = 0
  case neg =>
    have hF : rdI acts f = ([], rqI acts f) := by rw [rdI, show (rqI acts f != 0) = true by simpa using h0]; rfl
    have e4 : (rqI acts f != 0) = true := by simpa using h0
    rw [hF]
    refine PureFn.intro mixed (fn := Tryz.f11) rfl rfl rfl fun M w0 => ?_
    (try conv=>whnf);repeat' (first|(apply And.intro<;>try conv=>whnf)|(intro h;first|with_reducible exact tf (by assumption) h|try conv=>whnf)|(refine PureFn.dcq (f := 42) rfl ?_;try conv=>whnf)|(refine ⟨_, _, hq, ?_, ?_⟩;(focus first|(refine ⟨?_, ?_, trivial⟩<;>first|exact PLe.refl _|exact PLe.nil)|exact trivial);try conv=>whnf)|fail)
    · exact le_nilF _
    all_goals exact absurd ((show (rqI acts f != 0) = false by assumption).symm.trans e4) (by decide)
  have hR := rq_ok h0
  have hF : rdI acts f = redF acts f := by rw [rdI, h0]; rfl
  rw [h0] at hq
  rw [hF, redF]
  have hlen := comp_len f
  have hpos := comp_pos hR.cf
  have htree := fun i x l => red_step (i := i) (x := x) (l := l) (comp_okl f) (rq_nmd hR)
  have hokl := comp_okl f
  have hrt := rq_trees hR
  have hnd : ∀ x, x ∈ comp f → x.op = 17 → ∃ q ev : Nat, x.i = q ∧ x.e = ev ∧ ∃ a, acts[q]? = some a ∧ acts.getD q noAct = a ∧ SmX a ∧ chkI a = 0 ∧ a.rel.length = agR acts ∧ ev < a.pre.length := fun x hx h17 => by
    obtain ⟨k, hk⟩ := okl_mem hokl hx
    obtain ⟨a1, a2, a3, a4⟩ := hk.act h17
    have hN := rq_nmd hR x hx h17
    have h3 := (hR.nd x hx).2.2
    unfold badRd at h3
    rw [show (x.op == 17) = true by simpa using h17, cond_true] at h3
    have hq : decide (x.i ≥ (acts.length : Int)) = false := by
      cases hq : decide (x.i ≥ (acts.length : Int)) with
      | true => rw [hq] at h3; cases h3
      | false => rfl
    have hlt := of_decide_eq_false hq
    have hget : acts[x.i.toNat]? = some (acts.getD x.i.toNat noAct) := getD_mem (by omega)
    have hma := List.mem_of_getElem? hget
    exact ⟨x.i.toNat, x.e.toNat, by omega, by omega, _, hget, rfl, hS _ hma, hR.chk _ hma, hR.rel _ hma, hN⟩
  refine PureFn.introC [12, 14, 20] mixed (fn := Tryz.f11) rfl rfl rfl fun M w0 => ?_
  (try conv=>whnf);repeat' (first|(apply And.intro<;>try conv=>whnf)|(intro h;try conv=>whnf)|(refine PureFn.dcq (f := 42) rfl ?_;try conv=>whnf)|(refine PureFn.dcq (f := 33) rfl ?_;try conv=>whnf)|(refine ⟨_, _, hq, ?_, ?_⟩;(focus first|(refine ⟨?_, ?_, trivial⟩<;>first|exact PLe.refl _|exact PLe.nil)|exact trivial);try conv=>whnf)|(refine ⟨_, _, ref_Compact ?_, ?_, ?_⟩;rotate_left 1;(focus first|(refine ⟨?_, trivial⟩<;>first|exact PLe.refl _|exact PLe.nil)|exact trivial);try conv=>whnf)|fail)
  · exact absurd h (by decide)
  clear h
  generalize comp f = c at *
  refine ⟨{ q : Nat × List (List Nd) // q.1 ≤ c.length ∧ q.2.length = q.1 ∧ redE [] (stepR acts) c [] = redE [] (stepR acts) (c.drop q.1) q.2 ∧ ∀ (j : Nat) z, q.2[j]? = some z → TreesOk c (redT acts) j z },
    fun q => [(0, .pv (actsPV acts)), (7, .pv (fpv c)), (8, .buf 0 (q.1.2.map fpv).length), (9, .pv (.int .i64 (q.1.1 : Nat)))], fun _ => 1, fun q => [(0, .arr 1 (q.1.2.map fpv))], fun q => c.length - q.1.1,
    ⟨⟨(0, []), Nat.zero_le _, rfl, rfl, fun j z h => by simp at h⟩, (by refine Wk.of ?_ ?_ rfl rfl rfl<;>repeat' (first|exact trivial|exact WkD.same _|exact WkD.new' rfl rfl rfl|exact WkO.new _ _ rfl|exact rfl|refine ⟨?_, ?_⟩|fail))⟩, ?_⟩
  rintro ⟨⟨i, l⟩, hi, hl, he, hQ⟩
  simp only at hi hl he hQ
  have hlm : (l.map fpv).length = i := by rw [List.length_map]; exact hl
  (try conv=>whnf);repeat' (first|(apply And.intro<;>try conv=>whnf)|(intro h;try conv=>whnf)|fail)
  · have hi' : i < c.length := by simpa using h
    obtain ⟨x, hx⟩ : ∃ x, c[i]? = some x := ⟨_, List.getElem?_eq_getElem hi'⟩
    have ok := hokl i x hx
    obtain ⟨oX, oY⟩ := opn hokl hx hl hQ
    have htr := htree i x l hx hl hQ
    have hUX : usesX x.op = true → ∃ k : Nat, x.x = k ∧ k < l.length := fun u => ⟨x.x.toNat, by have := ok.x u; omega, by have := ok.x u; omega⟩
    have hUY : usesY x.op = true → ∃ k : Nat, x.y = k ∧ k < l.length := fun u => ⟨x.y.toNat, by have := ok.y u; omega, by have := ok.y u; omega⟩
    try conv=>whnf
    refine ⟨{ X : List Nd // X = bif usesX x.op then l.getD x.x.toNat [] else [] }, fun X => [(0, .pv (actsPV acts)), (7, .pv (fpv c)), (8, .buf 0 (l.map fpv).length), (9, .pv (.int .i64 (i : Nat))), (10, .pv (fpv X.1)), (11, .pv (.sl []))], fun _ => 1, fun _ => [(0, .arr 1 (l.map fpv))], ?_, ?_⟩
    · (try conv=>whnf);repeat' (first|(apply And.intro<;>try conv=>whnf)|(intro h;try conv=>whnf)|(apply infoT;rfl)|(refine ⟨_, _, rfl, idx_map (by with_reducible assumption), rfl, ?_⟩;try conv=>whnf)|(refine PureFn.dcq (f := 34) rfl ?_;try conv=>whnf)|(refine ⟨_, _, ref_UsesX ?_, ?_, ?_⟩;rotate_left 1;(focus first|(refine ⟨?_, trivial⟩<;>first|exact PLe.refl _|exact PLe.nil)|exact trivial);try conv=>whnf)|fail)
      · obtain ⟨k, hk, hk2⟩ := hUX h
        refine ⟨k, hk, (show k < (l.map fpv).length by omega), ?_⟩
        (try conv=>whnf);repeat' (first|(apply And.intro<;>try conv=>whnf)|fail)
        refine ⟨_, fget hk2, ?_⟩
        try conv=>whnf
        exact ⟨⟨l.getD k [], by rw [h, hk]; rfl⟩, (by refine Wk.of ?_ ?_ rfl rfl rfl<;>repeat' (first|exact trivial|exact WkD.same _|exact WkO.same _ _ rfl|exact WkD.nil _ (Or.inl rfl)|refine ⟨?_, ?_⟩|fail))⟩
      · exact ⟨⟨[], by rw [h]; rfl⟩, (by refine Wk.of ?_ ?_ rfl rfl rfl<;>repeat' (first|exact trivial|exact WkD.same _|exact WkO.same _ _ rfl|exact WkD.nil _ (Or.inl rfl)|refine ⟨?_, ?_⟩|fail))⟩
    rintro ⟨X, hX⟩
    try conv=>whnf
    refine ⟨{ Y : List Nd // Y = bif usesY x.op then l.getD x.y.toNat [] else [] }, fun Y => [(0, .pv (actsPV acts)), (7, .pv (fpv c)), (8, .buf 0 (l.map fpv).length), (9, .pv (.int .i64 (i : Nat))), (10, .pv (fpv X)), (11, .pv (fpv Y.1))], fun _ => 1, fun _ => [(0, .arr 1 (l.map fpv))], ?_, ?_⟩
    · (try conv=>whnf);repeat' (first|(apply And.intro<;>try conv=>whnf)|(intro h;try conv=>whnf)|(apply infoT;rfl)|(refine ⟨_, _, rfl, idx_map (by with_reducible assumption), rfl, ?_⟩;try conv=>whnf)|(refine PureFn.dcq (f := 35) rfl ?_;try conv=>whnf)|(refine ⟨_, _, ref_UsesY ?_, ?_, ?_⟩;rotate_left 1;(focus first|(refine ⟨?_, trivial⟩<;>first|exact PLe.refl _|exact PLe.nil)|exact trivial);try conv=>whnf)|fail)
      · obtain ⟨k, hk, hk2⟩ := hUY h
        refine ⟨k, hk, (show k < (l.map fpv).length by omega), ?_⟩
        (try conv=>whnf);repeat' (first|(apply And.intro<;>try conv=>whnf)|fail)
        refine ⟨_, fget hk2, ?_⟩
        try conv=>whnf
        exact ⟨⟨l.getD k [], by rw [h, hk]; rfl⟩, (by refine Wk.of ?_ ?_ rfl rfl rfl<;>repeat' (first|exact trivial|exact WkD.same _|exact WkO.same _ _ rfl|refine ⟨?_, ?_⟩|fail))⟩
      · exact ⟨⟨[], by rw [h]; rfl⟩, (by refine Wk.of ?_ ?_ rfl rfl rfl<;>repeat' (first|exact trivial|exact WkD.same _|exact WkO.same _ _ rfl|refine ⟨?_, ?_⟩|fail))⟩
    rintro ⟨Y, hY⟩
    have hcg : stepR acts x (l.getD x.x.toNat []) (l.getD x.y.toNat []) = stepR acts x X Y := step_cong (fun u => by rw [hX, u]; rfl) (fun u => by rw [hY, u]; rfl)
    have hcan : (stepR acts x X Y).2 = 0 → Can (stepR acts x X Y).1 := fun h => by rw [← hcg] at h ⊢; exact (htr h).1
    have hRO : RefOk acts x X Y := ⟨fun u => by
        rw [hX, u, cond_true]
        exact stat_all (F := 8) (oX u).1 (by rw [(oX u).2]; exact hrt _), fun u => by
        rw [hY, u, cond_true]
        exact stat_all (F := 8) (oY u).1 (by rw [(oY u).2]; exact hrt _), fun h17 => hnd x (List.mem_of_getElem? hx) h17⟩
    have hst : stepR acts x X Y = bif x.op == 16 then annF (comp X) (comp Y) else bif x.op == 17 then (bif and64 (frags X : Nat) 8 != 0 then ([], 10) else aftF (acts.getD x.i.toNat noAct) x.e.toNat (comp X)) else nz (apN x X Y) := rfl
    try conv=>whnf
    refine ⟨{ q : List Nd × Int // StpR (stepR acts x X Y) q.1 q.2 }, fun q => [(0, .pv (actsPV acts)), (6, .pv (.int .i64 q.1.2)), (7, .pv (fpv c)), (8, .buf 0 (l.map fpv).length), (9, .pv (.int .i64 (i : Nat))), (12, .pv (fpv q.1.1))], fun _ => 1, fun _ => [(0, .arr 1 (l.map fpv))], ?_, ?_⟩
    · have hAn := rr_Announced X Y
      have hAp := rr_apply x X Y i ok
      (try conv=>whnf);repeat' (first|(apply And.intro<;>try conv=>whnf)|(intro h;try conv=>whnf)|(apply infoT;rfl)|(refine ⟨_, _, rfl, idx_map (by with_reducible assumption), rfl, ?_⟩;try conv=>whnf)|(refine PureFn.dcq (f := 43) rfl ?_;try conv=>whnf)|(refine ⟨_, _, hAn, ?_, ?_⟩;(focus first|(refine ⟨?_, ?_, trivial⟩<;>first|exact PLe.refl _|exact PLe.nil)|exact trivial);try conv=>whnf)|fail)
      · have h16 : x.op = 16 := by simpa using h
        exact ⟨⟨annI X Y, by rw [annR_step hRO h16]; exact nz_can hcan⟩, (by refine Wk.of ?_ ?_ rfl rfl rfl<;>repeat' (first|exact trivial|exact WkD.same _|exact WkO.same _ _ rfl|refine ⟨?_, ?_⟩|fail))⟩
      · rename_i h16
        have h17 : x.op = 17 := by simpa using h
        obtain ⟨q, ev, hq, hev, a, ha, had, hSa, hck, hrl, hel⟩ := hRO.act h17
        have hAf := rr_After a (ev : Nat) X hSa
        have hS2 := aft_step hRO h17 hq hev had hck hrl hel
        obtain ⟨op, fi, ei, gi, xx, yy⟩ := x
        simp only at hq hev
        subst hq; subst hev
        refine ⟨Plan.lin 0 20, [], by kernel_rfl, ?_⟩
        (try conv=>whnf);repeat' (first|(apply And.intro<;>try conv=>whnf)|(apply infoT;rfl)|(refine ⟨_, _, rfl, idx_map (by with_reducible assumption), rfl, ?_⟩;try conv=>whnf)|(refine ⟨_, (by (conv=>whnf);exact hAf), rfl, ?_⟩;try conv=>whnf)|fail)
        exact ⟨⟨aftI a (ev : Nat) X, by rw [hS2]; exact nz_can hcan⟩, (by refine Wk.of ?_ ?_ rfl rfl rfl<;>repeat' (first|exact trivial|exact WkD.same _|exact WkO.same _ _ rfl|refine ⟨?_, ?_⟩|fail))⟩
      · rename_i h16
        (try conv=>whnf);repeat' (first|(refine PureFn.dcq (f := 44) rfl ?_;try conv=>whnf)|(refine ⟨_, _, hAp, ?_, ?_⟩;(focus first|(refine ⟨?_, ?_, ?_, trivial⟩<;>first|exact PLe.refl _|exact PLe.nil)|exact trivial);try conv=>whnf)|fail)
        exact ⟨⟨(apN x X Y, 0), fun q => absurd rfl q, fun _ => by rw [hst, show (x.op == 16) = false from h16, show (x.op == 17) = false from h]; rfl⟩, (by refine Wk.of ?_ ?_ rfl rfl rfl<;>repeat' (first|exact trivial|exact WkD.same _|exact WkO.same _ _ rfl|refine ⟨?_, ?_⟩|fail))⟩
    rintro ⟨⟨r, e⟩, hs1, hs2⟩
    simp only at hs1 hs2
    (try conv=>whnf);repeat' (first|(apply And.intro<;>try conv=>whnf)|(intro h;try conv=>whnf)|(apply cellsI;rfl)|(apply szI;rfl)|fail)
    · have hh : stepR acts x (l.getD x.x.toNat []) (l.getD x.y.toNat []) = ((stepR acts x X Y).1, e) := by
        rw [hcg]
        exact Prod.ext rfl (hs1 (by simpa using h))
      have hno := redE_no hx hh h
      have hE : lastF (redE [] (stepR acts) c []) = ([], e) := by rw [he, hno, lastF]; show (bif e != 0 then _ else _) = _; rw [show (e != 0) = true from h]; rfl
      rw [hE]; exact le_nilF _
    · rename_i h1
      have e0 : e = 0 := by simpa using h1
      have hr0 : r = [] := by
        have : (((r.map Nd.pv).length : Nat) : Int) = 0 := by simpa using h
        rw [List.length_map] at this
        exact List.eq_nil_of_length_eq_zero (by omega)
      have hh : stepR acts x (l.getD x.x.toNat []) (l.getD x.y.toNat []) = ([], 8) := by rw [hcg, hs2 e0, hr0]; rfl
      have hno := redE_no hx hh rfl
      have hE : lastF (redE [] (stepR acts) c []) = ([], 8) := by rw [he, hno]; rfl
      rw [hE]; exact le_nilF _
    · show (l.map fpv).length + 1 ≤ 4294967296
      omega
    · rename_i h1
      have e0 : e = 0 := by simpa using h1
      have hr0 : r.isEmpty = false := by
        cases r with
        | nil => exact absurd (show true = false from h) (by decide)
        | cons b t => rfl
      have hh : stepR acts x (l.getD x.x.toNat []) (l.getD x.y.toNat []) = (r, 0) := by rw [hcg, hs2 e0, nz, hr0]; rfl
      have hyes := redE_yes hx hh rfl
      have hm := map_snoc (l := l) (z := r)
      have htr2 : TreesOk c (redT acts) i r := by
        have := htr (by rw [hh])
        rw [hh] at this
        exact this
      refine ⟨⟨(i + 1, l ++ [r]), hi', by simp [hl], by rw [he, hyes], fun j y hy => ?_⟩, by show c.length - (i + 1) < c.length - i; omega, ?_⟩
      · rcases Nat.lt_or_ge j l.length with q | q
        · rw [List.getElem?_append_left q] at hy; exact hQ j y hy
        · rw [List.getElem?_append_right q] at hy
          have hj : j = l.length := by
            have := (List.getElem?_eq_some_iff.1 hy).1
            simp at this; omega
          subst hj
          simp at hy
          subst hy
          rw [hl]
          exact htr2
      · (refine Wk.of ?_ ?_ rfl rfl rfl<;>repeat' (first|exact trivial|exact WkD.same _|exact WkD.eq (congrArg (fun z : List PV => DV.buf _ z.length) hm)|exact WkO.same _ _ (congrArg (fun z => some (DObj.arr _ z)) hm)|refine WkD.int ?_|refine ⟨?_, ?_⟩|(refine wrapA ?_ ?_ ?_;(focus simp;done);(focus (try dsimp only);omega);(focus (try dsimp only);omega))|fail))
  · have hi' : i = c.length := by have := ge_dec (m := (c.map Nd.pv).length) h (by simpa using hi); simpa using this
    subst hi'
    rw [redE_end] at he
    have hw : IntKind.wrap .i64 (((l.map fpv).length : Int) - 1) = ((l.length - 1 : Nat) : Int) := by
      rw [List.length_map]; exact wrapA (by omega) (by omega) (by omega)
    have hll : l.length = c.length := hl
    refine ⟨l.length - 1, hw, (show l.length - 1 < (l.map fpv).length by rw [List.length_map]; omega), ?_⟩
    (try conv=>whnf);repeat' (first|(apply And.intro<;>try conv=>whnf)|fail)
    refine ⟨_, fget (show l.length - 1 < l.length by omega), ?_⟩
    try conv=>whnf
    exact le_pairF (a := (l.getD (l.length - 1) [], 0)) (by rw [he]; rfl)
end Go.Proofs.YtibbphifegibkaaGreat
