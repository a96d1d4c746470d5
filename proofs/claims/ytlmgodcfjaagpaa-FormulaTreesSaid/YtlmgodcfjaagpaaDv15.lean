/- The layer Dv, part 15: the condition is sound; contracts of functions. -/
import Derived.Test.YtlmgodcfjaagpaaDv17
namespace Go.Dv
open Go.RowKit (Below)
section
variable {P : Program} {M : Nat → Prop} {w0 : World} {N : Nat}

theorem least {p : Nat → Prop} (h : ∃ n, p n) : ∃ n, p n ∧ ∀ m, p m → n ≤ m := by
  obtain ⟨n, hn⟩ := h
  induction n using Nat.strongRecOn with
  | _ n ih =>
    by_cases hm : ∃ m, m < n ∧ p m
    · obtain ⟨m, h1, h2⟩ := hm
      exact ih m h1 h2
    · exact ⟨n, hn, fun m hp => Nat.le_of_not_lt fun hlt => hm ⟨m, hlt, hp⟩⟩

theorem loop_sound {c : Code} {Q : Exit → Act → World → Prop} (R : Nat → Act → World → Prop) (round : ∀ n a w, R n a w → c.wp P (Exit.then (fun a' w' => ∃ m, m < n ∧ R m a' w') Q) a w) {a : Act} {w : World} (h : ∃ n, R n a w) :
    (Code.loop c).wp P Q a w := by
  refine wp_loop (fun a w => ∃ n, R n a w) (fun a w => open Classical in if hh : ∃ n, R n a w then Classical.choose (least hh) else 0) h ?_
  intro a w hI
  have hl := Classical.choose_spec (least hI)
  refine wp_mono (round (Classical.choose (least hI)) a w hl.1) ?_
  intro x a' w' hx
  cases x with
  | normal =>
    obtain ⟨m, hm, hR⟩ := hx
    refine ⟨⟨m, hR⟩, ?_⟩
    have hex : ∃ n, R n a' w' := ⟨m, hR⟩
    simp only [dif_pos hI, dif_pos hex]
    have := (Classical.choose_spec (least hex)).2 m hR
    omega
  | _ => exact hx

theorem vc_sound (hm : P.follows .mixedOrders = true) (C : List Nat) (lo base : Nat) (L0 : DH) (μ0 : Nat → Loc) (ws : World) (hb0 : L0.next ≤ base) : ∀ (c : Code) (Q : Exit → Env → DH → Prop) (e : Env) (L : DH) (μ : Nat → Loc) (a : Act) (w : World),
    vc P M w0 N C lo base c Q e L → Sim M w0 N μ e L a w → Stp L0 μ0 ws L μ w → L.lo = lo → L.base = base → c.wp P (Lift M w0 N lo base μ0 L0 ws Q) a w
  | .skip, Q, e, L, μ, a, w, hv, h, hs, h1, h2 => wp_skip ⟨μ, e, L, h, hs, h1, h2, hv⟩
  | .region id ops false, Q, e, L, μ, a, w, hv, h, hs, h1, h2 => region_sound hv h hs h1 h2
  | .region id ops true, Q, e, L, μ, a, w, hv, h, hs, h1, h2 => by
    obtain ⟨pl, eff, hok, hv⟩ := hv
    exact draw_sound hm hok hv h hs h1 h2
  | .seq x y, Q, e, L, μ, a, w, hv, h, hs, h1, h2 => by
    simp only [vc] at hv
    split at hv
    · refine wp_seq (wp_mono (vc_sound hm C lo base L0 μ0 ws hb0 x _ e L μ a w hv h hs h1 h2) ?_)
      rintro z a' w' ⟨μ', e', L', h', hs', g1, g2, hq⟩
      cases z with
      | normal => exact vc_sound hm C lo base L0 μ0 ws hb0 y Q e' L' μ' a' w' hq h' hs' g1 g2
      | _ => exact ⟨μ', e', L', h', hs', g1, g2, hq⟩
    · obtain ⟨ι, E, nx, H, hv, hy⟩ := hv
      refine wp_seq (wp_mono (vc_sound hm C lo base L0 μ0 ws hb0 x _ e L μ a w hv h hs h1 h2) ?_)
      rintro z a' w' ⟨μ', e', L', h', hs', g1, g2, hq⟩
      cases z with
      | normal =>
        obtain ⟨j, hwk⟩ := hq
        subst g1; subst g2
        exact vc_sound hm C _ _ L0 μ0 ws hb0 y Q _ _ _ a' w' (hy j) (hwk.sim h') (hwk.stp h'.hr hs' (Nat.le_trans hb0 hwk.base)) rfl rfl
      | _ => exact ⟨μ', e', L', h', hs', g1, g2, hq⟩
  | .cond c x y, Q, e, L, μ, a, w, hv, h, hs, h1, h2 => by
    simp only [vc] at hv
    split at hv
    · rename_i b hc
      have hr := h.rho.rel c
      rw [hc] at hr
      refine wp_cond_split (pvB hr) (fun hb => ?_) (fun hb => ?_)
      · exact vc_sound hm C lo base L0 μ0 ws hb0 x Q e L μ a w (hv.1 hb) h hs h1 h2
      · exact vc_sound hm C lo base L0 μ0 ws hb0 y Q e L μ a w (hv.2 hb) h hs h1 h2
    · exact hv.elim
  | .block id c, Q, e, L, μ, a, w, hv, h, hs, h1, h2 => by
    refine wp_block (wp_mono (vc_sound hm C lo base L0 μ0 ws hb0 c _ e L μ a w hv h hs h1 h2) ?_)
    rintro z a' w' ⟨μ', e', L', h', hs', g1, g2, hq⟩
    cases z with
    | exit i =>
      simp only [Exit.inBlock]
      simp only at hq
      cases hb : Nat.beq i id with
      | true =>
        rw [hb] at hq
        rw [if_pos (Nat.eq_of_beq_eq_true hb)]
        exact ⟨μ', e', L', h', hs', g1, g2, hq⟩
      | false =>
        rw [hb] at hq
        have hne : i ≠ id := fun e => by rw [e, Nat.beq_refl] at hb; cases hb
        rw [if_neg hne]
        exact ⟨μ', e', L', h', hs', g1, g2, hq⟩
    | _ => exact ⟨μ', e', L', h', hs', g1, g2, hq⟩
  | .loop c, Q, e, L, μ, a, w, hv, h, hs, h1, h2 => by
    simp only [vc] at hv
    obtain ⟨ι, E, nx, H, m, ⟨i0, hwk⟩, hround⟩ := hv
    have hst : ∀ {e : Env} {L : DH} {μ : Nat → Loc} {a : Act} {w : World} {i : ι}, Wk e L (E i) (nx i) (H i) → Sim M w0 N μ e L a w → Stp L0 μ0 ws L μ w → L.lo = lo → L.base = base →
        ∃ μ', Sim M w0 N μ' (envOf (E i)) ⟨nx i, lo, base, objsOf (H i)⟩ a w ∧ Stp L0 μ0 ws ⟨nx i, lo, base, objsOf (H i)⟩ μ' w := by
      intro e L μ a w i hk h hs h1 h2
      subst h1; subst h2
      exact ⟨newμ L μ, hk.sim h, hk.stp h.hr hs (Nat.le_trans hb0 hk.base)⟩
    refine loop_sound (fun n a w => ∃ i μ', m i = n ∧ Sim M w0 N μ' (envOf (E i)) ⟨nx i, lo, base, objsOf (H i)⟩ a w ∧ Stp L0 μ0 ws ⟨nx i, lo, base, objsOf (H i)⟩ μ' w) ?_ ?_
    · rintro n a w ⟨i, μ', rfl, h', hs'⟩
      refine wp_mono (vc_sound hm C lo base L0 μ0 ws hb0 c _ _ _ μ' a w (hround i) h' hs' rfl rfl) ?_
      rintro z a' w' ⟨μ2, e2, L2, h2, hs2, g1, g2, hq⟩
      cases z with
      | normal =>
        obtain ⟨j, hj, hwk⟩ := hq
        obtain ⟨μ3, h3, hs3⟩ := hst hwk h2 hs2 g1 g2
        exact ⟨m j, hj, j, μ3, rfl, h3, hs3⟩
      | _ => exact ⟨μ2, e2, L2, h2, hs2, g1, g2, hq⟩
    · obtain ⟨μ', h', hs'⟩ := hst hwk h hs h1 h2
      exact ⟨m i0, i0, μ', rfl, h', hs'⟩
  | .exit id, Q, e, L, μ, a, w, hv, h, hs, h1, h2 => wp_exit ⟨μ, e, L, h, hs, h1, h2, hv⟩
  | .label l, Q, e, L, μ, a, w, hv, h, hs, h1, h2 => wp_label ⟨μ, e, L, h, hs, h1, h2, hv⟩
  | .ret, Q, e, L, μ, a, w, hv, h, hs, h1, h2 => wp_ret ⟨μ, e, L, h, hs, h1, h2, hv⟩
  | .rangeFunc .., Q, e, L, μ, a, w, hv, h, hs, h1, h2 => by simp [vc] at hv
  | .scope .., Q, e, L, μ, a, w, hv, h, hs, h1, h2 => by simp [vc] at hv
  | .goto .., Q, e, L, μ, a, w, hv, h, hs, h1, h2 => by simp [vc] at hv
  | .refuse .., Q, e, L, μ, a, w, hv, h, hs, h1, h2 => by simp [vc] at hv

end

/-! functions -/

def argEnv : List DV → Nat → Env
  | [], _ => fun _ => .any
  | d :: r, i => fun u => bif Nat.beq u i then d else argEnv r (i + 1) u
/-- What a function yields: temporaries, or what stands in variables. -/
def resV (P : Program) (e : Env) (L : DH) : List ResultVar → (List DV → Prop) → Prop
  | [], K => K []
  | .tmp t :: r, K => resV P e L r fun ds => K (e t :: ds)
  | .cell a t :: r, K => (match e a with
    | .ref k c => (match L.get k with
      | some (.var cs) => ldCells P t cs c fun d => resV P e L r fun ds => K (d :: ds)
      | _ => False)
    | _ => False)
def resD : List DV → DV
  | [d] => d
  | l => .tup l
def retQ (P : Program) (fn : Func) (K : DV → DH → Prop) (x : Exit) (e : Env) (L : DH) : Prop :=
  match x with
  | .normal => resV P e L fn.results.toList fun ds => match ds with | [d] => K d L | ds => K (.tup ds) L
  | .ret => resV P e L fn.results.toList fun ds => match ds with | [d] => K d L | ds => K (.tup ds) L
  | _ => False

section
variable {P : Program} {M : Nat → Prop} {w0 : World}

theorem argEnv_get : ∀ (ds : List DV) (i u : Nat), (u < i → argEnv ds i u = .any) ∧ (i ≤ u → argEnv ds i u = (ds[u - i]?).getD .any)
  | [], i, u => ⟨fun _ => rfl, fun _ => by simp [argEnv]⟩
  | d :: r, i, u => by
    obtain ⟨h1, h2⟩ := argEnv_get r (i + 1) u
    refine ⟨fun h => ?_, fun h => ?_⟩
    · have hb : Nat.beq u i = false := by
        cases hb : Nat.beq u i with
        | false => rfl
        | true => have := Nat.eq_of_beq_eq_true hb; omega
      simp only [argEnv, hb, cond_false]
      exact h1 (by omega)
    · by_cases e : u = i
      · subst e; simp [argEnv]
      · have hb : Nat.beq u i = false := by
          cases hb : Nat.beq u i with
          | false => rfl
          | true => have := Nat.eq_of_beq_eq_true hb; omega
        simp only [argEnv, hb, cond_false]
        rw [h2 (by omega), show u - i = (u - (i + 1)) + 1 by omega, List.getElem?_cons_succ]

theorem resV_run {N : Nat} {μ : Nat → Loc} {e : Env} {L : DH} {a : Act} {w : World} (h : Sim M w0 N μ e L a w) (g : ResultVar → Sem Value) (hg : ∀ t, g (.tmp t) = pure (a.tmps.getD t undef)) (hc : ∀ x t, g (.cell x t) = do loadVar t (← asAddr (a.tmps.getD x undef))) :
    ∀ (rs : List ResultVar) (K : List DV → Prop), resV P e L rs K → ∃ ds vs, K ds ∧ (rs.mapM g).run P w = .ok vs w ∧ ds.length = vs.length ∧ DV.unders L.next ds = true ∧ ∀ (i : Nat) d v, ds[i]? = some d → vs[i]? = some v → RelV (Tot M μ L) w μ L d v
  | [], K, hv => ⟨[], [], hv, rfl, rfl, rfl, fun i d v hd _ => by simp at hd⟩
  | .tmp t :: r, K, hv => by
    simp only [resV] at hv
    obtain ⟨ds, vs, h1, h2, h3, h4, h5⟩ := resV_run h g hg hc r _ hv
    refine ⟨e t :: ds, a.tmps.getD t undef :: vs, h1, ?_, by simp [h3], by simp only [DV.unders, h.und t, h4, Bool.and_self], fun i d v hd hv => ?_⟩
    · rw [List.mapM_cons, Sem.run_bind, hg, Sem.run_pure, Result.andThen_ok, Sem.run_bind, h2, Result.andThen_ok, Sem.run_pure]
    · cases i with
      | zero => simp only [List.getElem?_cons_zero, Option.some.injEq] at hd hv; subst hd; subst hv; exact h.env t
      | succ i => exact h5 i d v (by simpa using hd) (by simpa using hv)
  | .cell x t :: r, K, hv => by
    simp only [resV] at hv
    have hx := h.env x
    generalize e x = dx at hv hx
    cases dx with
    | ref k c =>
      simp only at hv
      cases hk : L.get k with
      | none => simp [hk] at hv
      | some ob =>
        cases ob with
        | var cs =>
          simp only [hk] at hv
          obtain ⟨vs0, ty, h1, h2, h3⟩ := h.hr.obj k _ hk
          have hcu : DV.unders L.next cs = true := (h.hr.keys k _ hk).2
          obtain ⟨d, v, hr, hrel, hu, hK⟩ := load_rel (μ := μ) (L := L) (w := w) (T := Tot M μ L) hv (μ k).blk 0 (fun i => (vs0[i]?).getD undef) (fun i d hd => by
            have hlt := getE_lt hd
            have hvi : vs0[i]? = some vs0[i] := Array.getElem?_eq_getElem (by omega)
            exact ⟨by simp [World.cell?, h1, hvi], by rw [hvi]; exact h3 i d _ hd hvi⟩) hcu
          obtain ⟨ds, vs, g1, g2, g3, g4, g5⟩ := resV_run h g hg hc r _ hK
          have hp : a.tmps.getD x undef = .pointer (some ⟨(μ k).blk, c, none⟩) := by
            cases hx with
            | ref _ _ _ q1 q2 => exact q2 cs hk
          have hr' : (loadVar t ⟨(μ k).blk, c, none⟩).run P w = .ok v w := by simpa using hr
          refine ⟨d :: ds, v :: vs, g1, ?_, by simp [g3], by simp only [DV.unders, hu, g4, Bool.and_self], fun i d' v' hd hv => ?_⟩
          · rw [List.mapM_cons, Sem.run_bind, hc, hp, Sem.run_bind]
            simp only [asAddr, Sem.run_pure, Result.andThen_ok, hr', Sem.run_bind, g2]
          · cases i with
            | zero => simp only [List.getElem?_cons_zero, Option.some.injEq] at hd hv; subst hd; subst hv; exact hrel
            | succ i => exact g5 i d' v' (by simpa using hd) (by simpa using hv)
        | arr => simp [hk] at hv
        | fz => simp [hk] at hv
        | mp => simp [hk] at hv
    | _ => exact hv.elim

theorem results_run {N : Nat} {μ : Nat → Loc} {e : Env} {L : DH} {a : Act} {w : World} {fn : Func} {K : DV → DH → Prop} (h : Sim M w0 N μ e L a w) (hv : resV P e L fn.results.toList fun ds => match ds with | [d] => K d L | ds => K (.tup ds) L) :
    ∃ d v, K d L ∧ (results fn a.tmps).run P w = .ok v w ∧ RelV (Tot M μ L) w μ L d v ∧ d.under L.next = true := by
  obtain ⟨ds, vs, h1, h2, h3, h4, h5⟩ := resV_run h (fun
    | .tmp t => pure (a.tmps.getD t undef)
    | .cell x t => do loadVar t (← asAddr (a.tmps.getD x undef))) (fun _ => rfl) (fun _ _ => rfl) _ _ hv
  have hrun : ∀ v, (if h : (⟨vs⟩ : Array Value).size = 1 then (⟨vs⟩ : Array Value)[0] else .tuple ⟨vs⟩) = v → (results fn a.tmps).run P w = .ok v w := by
    intro v hv
    unfold results
    rw [Sem.run_bind, Array.mapM_eq_mapM_toList, Sem.run_map]
    refine (congrArg (fun r => Result.andThen (Result.andThen r _) _) h2).trans ?_
    rw [Result.andThen_ok, Result.andThen_ok, ← hv, Sem.run_pure]
  rcases ds with _ | ⟨d, _ | ⟨d2, ds⟩⟩
  · have : vs = [] := List.length_eq_zero_iff.1 h3.symm
    subst this
    exact ⟨_, _, h1, hrun _ rfl, .tup [] [] rfl (fun i d v hd _ => by simp at hd), rfl⟩
  · rcases vs with _ | ⟨v, _ | ⟨v2, vs⟩⟩
    · simp at h3
    · simp only [DV.unders, Bool.and_true] at h4
      exact ⟨_, _, h1, hrun v rfl, h5 0 d v rfl rfl, h4⟩
    · simp at h3
  · rcases vs with _ | ⟨v, _ | ⟨v2, vs⟩⟩
    · simp at h3
    · simp at h3
    · exact ⟨_, _, h1, hrun _ (dif_neg (by simp)), .tup _ _ h3 h5, by simpa only [DV.under] using h4⟩

/-- The contract of a call, out of the condition of the body. -/
theorem DC.introC (C : List Nat) (hm : P.follows .mixedOrders = true) {f : FuncId} {fn : Func} {c : Code} {args : List DV} {L : DH} {K : DV → DH → Prop} (hf : P.funcs[f]? = some fn) (hb : fn.body = some c) (hc : callable P f = true)
    (h : vc P M w0 fn.ntmps C L.lo L.next c (retQ P fn fun d L' => K d { L' with base := L.base }) (argEnv args 0) { L with base := L.next }) : DC P M w0 f args L K := by
  refine DC.mk ⟨hc, fun μ w vs hr hu hrel => ?_⟩
  refine calls_of_wp hf hb ?_
  -- the heap's own mark of where the call begins
  have reb : ∀ (L : DH) (b : Nat), b ≤ L.next → ∀ {μ w}, HR M w0 μ L w → HR M w0 μ { L with base := b } w := fun L b hb μ w h =>
    have t : ∀ k, Tot M μ { L with base := b } k = Tot M μ L k := fun _ => rfl
    ⟨h.ext, h.mlt, h.keys, h.live, h.inj, fun k o hk => by
      have := h.obj k o hk
      cases o with
      | var cs =>
        obtain ⟨vs, ty, q1, q2, q3⟩ := this
        exact ⟨vs, ty, q1, q2, fun i d v hi hv => (q3 i d v hi hv).base b⟩
      | arr => exact this
      | fz => exact this
      | mp => exact this, hb, h.lob⟩
  have hsim : Sim M w0 fn.ntmps μ (argEnv args 0) { L with base := L.next } { tmps := ⟨vs⟩ ++ Array.replicate (fn.ntmps - (⟨vs⟩ : Array Value).size) undef, defers := [] } w := by
    refine ⟨reb L L.next (Nat.le_refl _) hr, fun t => ?_, fun t => ?_, rfl, by simp; omega⟩
    · rw [(argEnv_get args 0 t).2 (Nat.zero_le _), Nat.sub_zero]
      cases ha : args[t]? with
      | none => exact .any _
      | some d =>
        have hlt := getE_lt ha
        have hvt : vs[t]? = some (vs[t]'(by have := hrel.1; omega)) := List.getElem?_eq_getElem (by have := hrel.1; omega)
        have : (⟨vs⟩ ++ Array.replicate (fn.ntmps - (⟨vs⟩ : Array Value).size) undef).getD t undef = vs[t]'(by have := hrel.1; omega) := by
          rw [Array.getD_eq_getD_getElem?, Array.getElem?_append_left (by have := hrel.1; simp; omega)]
          simp [hvt]
        rw [this]
        exact (hrel.2 t d _ ha hvt).base L.next
    · rw [(argEnv_get args 0 t).2 (Nat.zero_le _), Nat.sub_zero]
      cases ha : args[t]? with
      | none => rfl
      | some d => exact unders_iff.1 hu t d ha
  have hst0 : Stp L μ w { L with base := L.next } μ w → True := fun _ => trivial
  have hrefl : Stp { L with base := L.next } μ w { L with base := L.next } μ w := Stp.refl _ μ w fun k o hk => (hr.keys k o hk).1
  have := vc_sound (P := P) (M := M) (w0 := w0) (N := fn.ntmps) hm C L.lo L.next { L with base := L.next } μ w (Nat.le_refl _) c _ _ _ μ _ w h hsim hrefl rfl rfl
  refine wp_mono this ?_
  rintro x a' w' ⟨μ', e', L', h', hs', g1, g2, hq⟩
  have fin : (resV P e' L' fn.results.toList fun ds => match ds with | [d] => K d { L' with base := L.base } | ds => K (.tup ds) { L' with base := L.base }) →
      a'.defers = [] ∧ ∃ v, (results fn a'.tmps).run P w' = .ok v w' ∧ ∃ v', Ending.returned v = .returned v' ∧ Out M w0 μ L w K v' w' := by
    intro hK
    obtain ⟨d, v, h1, h2, h3, h4⟩ := results_run (K := fun d L' => K d { L' with base := L.base }) h' hK
    have hst : Stp L μ w { L' with base := L.base } μ' w' := ⟨⟨hs'.evo.var, hs'.evo.mp, hs'.evo.arr, hs'.evo.fz⟩, hs'.os, hs'.tape, hs'.output, hs'.size, hs'.same, hs'.blk, hs'.next, hs'.lo, rfl⟩
    exact ⟨h'.defers, v, h2, v, rfl, μ', d, _, h1, reb L' L.base (Nat.le_trans hr.base hs'.next) h'.hr, h3.base L.base, h4, hst⟩
  cases x with
  | normal => exact fin hq
  | ret => exact fin hq
  | _ => exact hq.elim
theorem DC.intro (hm : P.follows .mixedOrders = true) {f : FuncId} {fn : Func} {c : Code} {args : List DV} {L : DH} {K : DV → DH → Prop} (hf : P.funcs[f]? = some fn) (hb : fn.body = some c) (hc : callable P f = true)
    (h : vc P M w0 fn.ntmps [] L.lo L.next c (retQ P fn fun d L' => K d { L' with base := L.base }) (argEnv args 0) { L with base := L.next }) : DC P M w0 f args L K := DC.introC [] hm hf hb hc h
end
end Go.Dv
