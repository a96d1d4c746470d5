/- The layer Dv, part 6: stores; values taken for pure ones. -/
import Derived.Test.YtlmgodcfjaagpaaDv5
namespace Go.Dv
open Go.RowKit (Below)

theorem splice_len {α : Type} {l cs : List α} {off : Nat} (h : off + cs.length ≤ l.length) : (splice l off cs).length = l.length := by
  simp [splice]; omega
theorem splice_get {α : Type} {l cs : List α} {off : Nat} (h : off + cs.length ≤ l.length) (i : Nat) :
    (splice l off cs)[i]? = if i < off then l[i]? else if i < off + cs.length then cs[i - off]? else l[i]? := by
  unfold splice
  by_cases h1 : i < off
  · simp only [if_pos h1]
    rw [List.append_assoc, List.getElem?_append_left (by simp; omega), List.getElem?_take, if_pos h1]
  · simp only [if_neg h1]
    rw [List.append_assoc, List.getElem?_append_right (by simp; omega)]
    have hl : (l.take off).length = off := by simp; omega
    rw [hl]
    by_cases h2 : i < off + cs.length
    · rw [if_pos h2, List.getElem?_append_left (by omega)]
    · rw [if_neg h2, List.getElem?_append_right (by omega), List.getElem?_drop]
      congr 1; omega

theorem setRow_size (w : World) (g : Nat) (cs : Array Value) : (w.setRow g cs).heap.size = w.heap.size := by simp [World.setRow]

/-- The blocks of what may not be read as pure values for the time of a call. -/
def TotB (M : Nat → Prop) (μ : Nat → Loc) (L : DH) (b : Nat) : Prop := M b ∨ ∃ k o, L.get k = some o ∧ liveAt (μ k) o ∧ (μ k).blk = b ∧ ∀ sz es, o ≠ .arr sz es
theorem TotB.tot {M : Nat → Prop} {μ : Nat → Loc} {L : DH} {b : Nat} (h : TotB M μ L b) : Tot M μ L b := by
  rcases h with h | ⟨k, o, h1, h2, h3, _⟩
  · exact .inl h
  · exact .inr ⟨k, o, h1, h2, h3⟩
theorem RelP.sub {T T' : Nat → Prop} {w : World} {p : PV} {v : Value} (h : RelP T w p v) (hT : ∀ b, T' b → T b) : RelP T' w p v :=
  h.mono (fun b hb => .inl (hT b hb)) (Nat.le_refl _) fun _ _ _ => rfl

section
variable {P : Program} {M : Nat → Prop} {w0 : World} {μ : Nat → Loc} {L : DH} {w : World} {a : Act} {ρ : Operand → DV}

theorem arr_relP (h : HR M w0 μ L w) {k sz : Nat} {es : List PV} (hk : L.get k = some (.arr sz es)) (hc : (μ k).cap ≠ 0) {T' : Nat → Prop} (hb : ¬ T' (μ k).blk)
    (hT : ∀ b, T' b → Tot M μ L b) : RelP T' w (.sl es) (.slice (some ⟨(μ k).blk, 0, none⟩) es.length (μ k).cap) := by
  rcases h.obj k _ hk with ⟨h0, _⟩ | ⟨vs, ty, h0, h1, h2, h3, h4, h5⟩
  · exact absurd h0 hc
  · refine .sl _ 0 sz _ es (fun i j => (vs[i * sz + j]?).getD undef) hb (h.live k _ hk h0).1 h2 h4 (fun i p j q hp hq => ?_) (fun i p j q hp hq => ?_)
    · obtain ⟨v, hv, _⟩ := h5 i p j q hp hq
      simp [World.cell?, h1, hv]
    · obtain ⟨v, hv, hr⟩ := h5 i p j q hp hq
      rw [hv]; exact hr.sub hT
theorem buf_relP (h : HR M w0 μ L w) {k sz n : Nat} {es : List PV} {v : Value} (hk : L.get k = some (.arr sz es)) (hr : RelV (Tot M μ L) w μ L (.buf k n) v) (hn : n = es.length) {T' : Nat → Prop}
    (hb : (μ k).cap ≠ 0 → ¬ T' (μ k).blk) (hT : ∀ b, T' b → Tot M μ L b) : RelP T' w (.sl es) v := by
  cases hr with
  | buf _ _ _ h1 h2 h3 =>
    rcases (h2 sz es hk).2 hn with ⟨hc, h0, x, rfl⟩ | ⟨hc, rfl⟩
    · have : es = [] := by rw [h0] at hn; exact List.length_eq_zero_iff.1 hn.symm
      subst this; exact .e0 x 0
    · rw [hn]; exact arr_relP h hk hc (hb hc) hT
theorem fz_relP (h : HR M w0 μ L w) {k n : Nat} {es : List PV} {v : Value} (hk : L.get k = some (.fz es)) (hr : RelV (Tot M μ L) w μ L (.buf k n) v) (hn : n = es.length) : RelP (Tot M μ L) w (.sl es) v := by
  cases hr with
  | buf _ _ _ h1 h2 h3 =>
    rcases (h3 es hk).2 hn with ⟨hc, h0, x, rfl⟩ | ⟨hc, rfl⟩
    · have : es = [] := by rw [h0] at hn; exact List.length_eq_zero_iff.1 hn.symm
      subst this; exact .e0 x 0
    · rcases h.obj k _ hk with ⟨h1, _⟩ | ⟨h0, h1, h2⟩
      · exact absurd h1 hc
      · rw [hn]; exact h2

theorem arr_notB (h : HR M w0 μ L w) {k sz : Nat} {es : List PV} (hk : L.get k = some (.arr sz es)) (hc : (μ k).cap ≠ 0) : ¬ TotB M μ L (μ k).blk := by
  rintro (hM | ⟨j, o, h1, h2, h3, h4⟩)
  · exact (h.live k _ hk hc).2.1 hM
  · have := h.inj j o k _ h1 h2 hk hc h3
    subst this
    rw [hk] at h1
    exact h4 sz es (Option.some.inj h1).symm

mutual
theorem brw_rel (h : HR M w0 μ L w) {L' : DH} (hL : ∀ k o, L'.get k = some o → L.get k = some o) : ∀ (d : DV) (v : Value) (K : PV → Prop), RelV (Tot M μ L) w μ L d v → brw d L' K → ∃ p, K p ∧ RelP (TotB M μ L) w p v
  | .pv p, v, K => fun hr hb => by
    cases hr with
    | pv _ _ hp => exact ⟨p, hb, hp.sub fun _ => TotB.tot⟩
  | .e0, v, K => fun hr hb => by
    cases hr with
    | e0 a => exact ⟨_, hb, .e0 a 0⟩
  | .buf k n, v, K => fun hr hb => by
    simp only [brw] at hb
    cases hk : L'.get k with
    | none => simp [hk] at hb
    | some o =>
      cases o with
      | arr sz es =>
        simp only [hk] at hb
        exact ⟨_, hb.2, buf_relP h (hL k _ hk) hr hb.1 (fun hc => arr_notB h (hL k _ hk) hc) fun _ => TotB.tot⟩
      | fz es =>
        simp only [hk] at hb
        exact ⟨_, hb.2, (fz_relP h (hL k _ hk) hr hb.1).sub fun _ => TotB.tot⟩
      | var => simp [hk] at hb
      | mp => simp [hk] at hb
  | .agg l, v, K => fun hr hb => by
    simp only [brw] at hb
    cases hr with
    | agg _ vs h1 h2 =>
      obtain ⟨ps, hK, hl, hp⟩ := brws_rel h hL l vs (fun ps => K (.agg ps)) h1 h2 hb
      exact ⟨_, hK, .agg ps vs hl hp⟩
  | .tup l, v, K => fun hr hb => by
    simp only [brw] at hb
    cases hr with
    | tup _ vs h1 h2 =>
      obtain ⟨ps, hK, hl, hp⟩ := brws_rel h hL l vs (fun ps => K (.tup ps)) h1 h2 hb
      exact ⟨_, hK, .tup ps vs hl hp⟩
  | .ref _ _, _, _ => fun _ hb => by simp [brw] at hb
  | .aref _ _ _ _, _, _ => fun _ hb => by simp [brw] at hb
  | .eptr _ _, _, _ => fun _ hb => by simp [brw] at hb
  | .mp _, _, _ => fun _ hb => by simp [brw] at hb
  | .clo _ _ _, _, _ => fun _ hb => by simp [brw] at hb
  | .fnv _, _, _ => fun _ hb => by simp [brw] at hb
  | .when _ _, _, _ => fun _ hb => by simp [brw] at hb
  | .raw _, _, _ => fun _ hb => by simp [brw] at hb
  | .any, _, _ => fun _ hb => by simp [brw] at hb
theorem brws_rel (h : HR M w0 μ L w) {L' : DH} (hL : ∀ k o, L'.get k = some o → L.get k = some o) : ∀ (l : List DV) (vs : List Value) (K : List PV → Prop), l.length = vs.length →
    (∀ (i : Nat) d v, l[i]? = some d → vs[i]? = some v → RelV (Tot M μ L) w μ L d v) → brws l L' K → ∃ ps, K ps ∧ ps.length = vs.length ∧ ∀ (i : Nat) p v, ps[i]? = some p → vs[i]? = some v → RelP (TotB M μ L) w p v
  | [], vs, K => fun hl _ hb => ⟨[], hb, hl, fun i p v hp _ => by simp at hp⟩
  | d :: r, [], K => fun hl _ _ => by simp at hl
  | d :: r, v :: vs, K => fun hl hr hb => by
    simp only [brws] at hb
    obtain ⟨p, hb', hp⟩ := brw_rel h hL d v _ (hr 0 d v rfl rfl) hb
    obtain ⟨ps, hK, hl', hps⟩ := brws_rel h hL r vs _ (by simpa using hl) (fun i d v hd hv => hr (i + 1) d v (by simpa using hd) (by simpa using hv)) hb'
    refine ⟨p :: ps, hK, by simp [hl'], fun i q u hq hu => ?_⟩
    cases i with
    | zero => simp at hq hu; subst hq; subst hu; exact hp
    | succ i => exact hps i q u (by simpa using hq) (by simpa using hu)
end

/-- A freeze is a step. -/
theorem freeze_step (h : HR M w0 μ L w) {k sz : Nat} {es : List PV} (hk : L.get k = some (.arr sz es)) :
    Stp L μ w (L.put k (.fz es)) μ w ∧ HR M w0 μ (L.put k (.fz es)) w := by
  have hμ : updμ μ k (μ k) = μ := by funext j; unfold updμ; split <;> simp_all
  have hkn := (h.keys k _ hk).1
  have hcells : ∀ q, q ∈ es → q.cells.length = sz := by
    intro q hq
    obtain ⟨i, hi⟩ := List.mem_iff_getElem?.1 hq
    exact (arr_cells h hk hi).2.1
  have := h.upd (L' := L.put k (.fz es)) (w' := w) k (.fz es) (μ k) (DH.put_same L k _) (fun j hj => DH.put_ne L _ hj) (Nat.le_refl _) rfl rfl hkn rfl rfl rfl rfl (Nat.le_refl _) (fun _ _ _ => rfl) (fun _ _ _ _ _ => rfl)
    (fun hl => hl.elim) (fun _ => ⟨(fun _ e => by cases e), (fun _ e => by cases e), (fun _ _ e => by cases e), (fun es' e => by cases e; exact .inr ⟨sz, es, hk, hcells, .inr ⟨rfl, rfl⟩⟩)⟩) (fun hs => by
      rw [hμ] at hs ⊢
      rcases h.obj k _ hk with ⟨h0, h1⟩ | ⟨vs, ty, h0, h1, h2, h3, h4, h5⟩
      · exact .inl ⟨h0, h1⟩
      · refine .inr ⟨h2, h0, ?_⟩
        refine arr_relP h hk h0 ?_ ?_
        · rintro (hM | ⟨j, o, g1, g2, g3⟩)
          · exact (h.live k _ hk h0).2.1 hM
          · by_cases e : j = k
            · subst e; rw [DH.put_same] at g1; obtain rfl := Option.some.inj g1; exact g2
            · rw [DH.put_ne L _ e] at g1; exact e (h.inj j o k _ g1 g2 hk h0 g3)
        · rintro b (hM | ⟨j, o, g1, g2, g3⟩)
          · exact .inl hM
          · by_cases e : j = k
            · subst e; rw [DH.put_same] at g1; obtain rfl := Option.some.inj g1; exact g2.elim
            · rw [DH.put_ne L _ e] at g1; exact .inr ⟨j, o, g1, g2, g3⟩)
  rw [hμ] at this
  exact this

mutual
theorem frz_rel : ∀ (d : DV) (L : DH) (v : Value) (K : PV → DH → Prop), HR M w0 μ L w → RelV (Tot M μ L) w μ L d v → d.under L.next = true → frz d L K →
    ∃ p L', K p L' ∧ HR M w0 μ L' w ∧ Stp L μ w L' μ w ∧ RelP (Tot M μ L') w p v
  | .pv p, L, v, K => fun h hr _ hb => by
    cases hr with
    | pv _ _ hp => exact ⟨p, L, hb, h, Stp.refl L μ w (fun k o hk => (h.keys k o hk).1), hp⟩
  | .e0, L, v, K => fun h hr _ hb => by
    cases hr with
    | e0 a => exact ⟨_, L, hb, h, Stp.refl L μ w (fun k o hk => (h.keys k o hk).1), .e0 a 0⟩
  | .buf k n, L, v, K => fun h hr hu hb => by
    simp only [frz] at hb
    cases hk : L.get k with
    | none => simp [hk] at hb
    | some o =>
      cases o with
      | arr sz es =>
        simp only [hk] at hb
        obtain ⟨hs, h'⟩ := freeze_step h hk
        refine ⟨_, _, hb.2.2, h', hs, ?_⟩
        exact fz_relP h' (DH.put_same L k _) (hr.stp hs hu) hb.1
      | fz es =>
        simp only [hk] at hb
        exact ⟨_, L, hb.2, h, Stp.refl L μ w (fun k o hk => (h.keys k o hk).1), fz_relP h hk hr hb.1⟩
      | var => simp [hk] at hb
      | mp => simp [hk] at hb
  | .agg l, L, v, K => fun h hr hu hb => by
    simp only [frz] at hb
    cases hr with
    | agg _ vs h1 h2 =>
      obtain ⟨ps, L', hK, h', hs, hl, hp⟩ := frzs_rel l L vs _ h h1 h2 (by simpa [DV.under] using hu) hb
      exact ⟨_, L', hK, h', hs, .agg ps vs hl hp⟩
  | .tup l, L, v, K => fun h hr hu hb => by
    simp only [frz] at hb
    cases hr with
    | tup _ vs h1 h2 =>
      obtain ⟨ps, L', hK, h', hs, hl, hp⟩ := frzs_rel l L vs _ h h1 h2 (by simpa [DV.under] using hu) hb
      exact ⟨_, L', hK, h', hs, .tup ps vs hl hp⟩
  | .ref _ _, _, _, _ => fun _ _ _ hb => by simp [frz] at hb
  | .aref _ _ _ _, _, _, _ => fun _ _ _ hb => by simp [frz] at hb
  | .eptr _ _, _, _, _ => fun _ _ _ hb => by simp [frz] at hb
  | .mp _, _, _, _ => fun _ _ _ hb => by simp [frz] at hb
  | .clo _ _ _, _, _, _ => fun _ _ _ hb => by simp [frz] at hb
  | .fnv _, _, _, _ => fun _ _ _ hb => by simp [frz] at hb
  | .when _ _, _, _, _ => fun _ _ _ hb => by simp [frz] at hb
  | .raw _, _, _, _ => fun _ _ _ hb => by simp [frz] at hb
  | .any, _, _, _ => fun _ _ _ hb => by simp [frz] at hb
theorem frzs_rel : ∀ (l : List DV) (L : DH) (vs : List Value) (K : List PV → DH → Prop), HR M w0 μ L w → l.length = vs.length →
    (∀ (i : Nat) d v, l[i]? = some d → vs[i]? = some v → RelV (Tot M μ L) w μ L d v) → DV.unders L.next l = true → frzs l L K →
    ∃ ps L', K ps L' ∧ HR M w0 μ L' w ∧ Stp L μ w L' μ w ∧ ps.length = vs.length ∧ ∀ (i : Nat) p v, ps[i]? = some p → vs[i]? = some v → RelP (Tot M μ L') w p v
  | [], L, vs, K => fun h hl _ _ hb => ⟨[], L, hb, h, Stp.refl L μ w (fun k o hk => (h.keys k o hk).1), hl, fun i p v hp _ => by simp at hp⟩
  | d :: r, L, [], K => fun _ hl _ _ _ => by simp at hl
  | d :: r, L, v :: vs, K => fun h hl hr hu hb => by
    simp only [frzs] at hb
    simp only [DV.unders, Bool.and_eq_true] at hu
    obtain ⟨p, L1, hb', h1, hs1, hp⟩ := frz_rel d L v _ h (hr 0 d v rfl rfl) hu.1 hb
    obtain ⟨ps, L2, hK, h2, hs2, hl', hps⟩ := frzs_rel r L1 vs _ h1 (by simpa using hl) (fun i d v hd hv => (hr (i + 1) d v (by simpa using hd) (by simpa using hv)).stp hs1 (unders_iff.1 hu.2 i d hd)) (DV.unders_mono hs1.next r hu.2) hb'
    refine ⟨p :: ps, L2, hK, h2, hs1.trans hs2, by simp [hl'], fun i q u hq hu => ?_⟩
    cases i with
    | zero => simp at hq hu; subst hq; subst hu; exact hp.stp hs2
    | succ i => exact hps i q u (by simpa using hq) (by simpa using hu)
end

mutual
theorem pur_rel {T : Nat → Prop} : ∀ (d : DV) (v : Value) (K : PV → Prop), RelV T w μ L d v → pur d K → ∃ p, K p ∧ RelP T w p v
  | .pv p, v, K => fun hr hb => by
    cases hr with
    | pv _ _ hp => exact ⟨p, hb, hp⟩
  | .e0, v, K => fun hr hb => by
    cases hr with
    | e0 a => exact ⟨_, hb, .e0 a 0⟩
  | .buf k n, v, K => fun _ hb => by simp [pur] at hb
  | .agg l, v, K => fun hr hb => by
    simp only [pur] at hb
    cases hr with
    | agg _ vs h1 h2 =>
      obtain ⟨ps, hK, hl, hp⟩ := purs_rel l vs _ h1 h2 hb
      exact ⟨_, hK, .agg ps vs hl hp⟩
  | .tup l, v, K => fun hr hb => by
    simp only [pur] at hb
    cases hr with
    | tup _ vs h1 h2 =>
      obtain ⟨ps, hK, hl, hp⟩ := purs_rel l vs _ h1 h2 hb
      exact ⟨_, hK, .tup ps vs hl hp⟩
  | .ref _ _, _, _ => fun _ hb => by simp [pur] at hb
  | .aref _ _ _ _, _, _ => fun _ hb => by simp [pur] at hb
  | .eptr _ _, _, _ => fun _ hb => by simp [pur] at hb
  | .mp _, _, _ => fun _ hb => by simp [pur] at hb
  | .clo _ _ _, _, _ => fun _ hb => by simp [pur] at hb
  | .fnv _, _, _ => fun _ hb => by simp [pur] at hb
  | .when _ _, _, _ => fun _ hb => by simp [pur] at hb
  | .raw _, _, _ => fun _ hb => by simp [pur] at hb
  | .any, _, _ => fun _ hb => by simp [pur] at hb
theorem purs_rel {T : Nat → Prop} : ∀ (l : List DV) (vs : List Value) (K : List PV → Prop), l.length = vs.length →
    (∀ (i : Nat) d v, l[i]? = some d → vs[i]? = some v → RelV T w μ L d v) → purs l K → ∃ ps, K ps ∧ ps.length = vs.length ∧ ∀ (i : Nat) p v, ps[i]? = some p → vs[i]? = some v → RelP T w p v
  | [], vs, K => fun hl _ hb => ⟨[], hb, hl, fun i p v hp _ => by simp at hp⟩
  | d :: r, [], K => fun hl _ _ => by simp at hl
  | d :: r, v :: vs, K => fun hl hr hb => by
    simp only [purs] at hb
    obtain ⟨p, hb', hp⟩ := pur_rel d v _ (hr 0 d v rfl rfl) hb
    obtain ⟨ps, hK, hl', hps⟩ := purs_rel r vs _ (by simpa using hl) (fun i d v hd hv => hr (i + 1) d v (by simpa using hd) (by simpa using hv)) hb'
    refine ⟨p :: ps, hK, by simp [hl'], fun i q u hq hu => ?_⟩
    cases i with
    | zero => simp at hq hu; subst hq; subst hu; exact hp
    | succ i => exact hps i q u (by simpa using hq) (by simpa using hu)
end

theorem beq_of {a b : Nat} (h : Nat.beq a b = true) : a = b := Nat.eq_of_beq_eq_true h

theorem res_store {K : DV → DH → Prop} {o : Oper} {t : TypeId} {x y : Operand} {dr : Bool} (ho : o.op = .store t x y) (h : HR M w0 μ L w) (hρ : Rho M μ L w ρ a) (hv : vcOp P M w0 dr ρ L o K) : OpRes P M w0 μ L w K o a := by
  have hx := hρ.rel x
  have hy := hρ.rel y
  have hyu := cells_under (hρ.und y)
  simp only [vcOp, ho] at hv
  generalize ρ y = dy at hv hy hyu
  generalize hd : ρ x = d at hv hx
  -- the store itself
  have run : ∀ (b c : Nat) (vs : Array Value) (ty : TypeId), a.eval x = .pointer (some ⟨b, c, none⟩) → w.heap[b]? = some (.cells vs ty (0, 0)) → infoB P t = true → (a.eval y).cells.size = szOf P t →
      c + (a.eval y).cells.size ≤ vs.size → (∀ u, u ∈ (a.eval y).cells.toList → u.oneCell' = true) →
      (execOp a.eval o).run P w = .ok .skip (w.setRow b (splice vs.toList c (a.eval y).cells.toList).toArray) := by
    intro b c vs ty he hb hi hs hl h1
    obtain ⟨i, hi⟩ := Option.isSome_iff_exists.1 hi
    have := run_storeCells_at (P := P) b c ty (a.eval y).cells.toList 0 vs w hb (by simpa using hl) h1
    refine run_skp ?_ |> (fun hh => by rw [show execOp a.eval o = (do Instr.storeAt t (a.eval x) (a.eval y); pure Next.skip : Sem Next) from by simp only [execOp, ho]]; exact hh)
    simp only [Instr.storeAt, Instr.sureAddr, he, Sem.run_bind, Sem.run_pure, Result.andThen_ok, storeVar, run_szOf hi, hs, ne_eq, not_true_eq_false, if_false]
    simp only [Nat.add_zero] at this
    rw [this]
    simp [splice]
  cases d with
  | ref k c =>
    simp only at hv
    cases hk : L.get k with
    | none => simp [hk] at hv
    | some ob =>
      cases ob with
      | var cs =>
        simp only [hk] at hv
        generalize hcnd : (infoB P t && Nat.ble L.lo k && Nat.beq dy.cells.length (szOf P t) && Nat.ble (c + dy.cells.length) cs.length && dy.cells.all DV.one) = cnd at hv
        cases cnd with
        | false => exact hv.elim
        | true =>
          simp only [Bool.and_eq_true] at hcnd
          obtain ⟨⟨⟨⟨hi, hlo⟩, hsz⟩, hfit⟩, hone⟩ := hcnd
          have hlo' : L.lo ≤ k := by simpa using hlo
          have hfit' : c + dy.cells.length ≤ cs.length := by simpa using hfit
          obtain ⟨c1, c2, c3⟩ := cells_rel hy hone
          obtain ⟨vs, ty, h1, h2, h3⟩ := h.obj k _ hk
          have he : a.eval x = .pointer (some ⟨(μ k).blk, c, none⟩) := by
            cases hx with
            | ref _ _ _ g1 g2 => exact g2 cs hk
          have hlen : c + (a.eval y).cells.size ≤ vs.size := by omega
          have hrun := run (μ k).blk c vs ty he h1 hi (by rw [← c1]; exact beq_of hsz) hlen c3
          have hcsu := (h.keys k _ hk).2
          have hsu : DV.unders L.next (splice cs c dy.cells) = true := by
            rw [unders_mem] at *
            intro d hd
            simp only [splice, List.mem_append] at hd
            rcases hd with (hd | hd) | hd
            · exact unders_mem.1 hcsu d (List.mem_of_mem_take hd)
            · exact hyu d hd
            · exact unders_mem.1 hcsu d (List.mem_of_mem_drop hd)
          obtain ⟨hs, hr⟩ := h.write (w' := w.setRow (μ k).blk (splice vs.toList c (a.eval y).cells.toList).toArray) k _ (.var (splice cs c dy.cells)) hk trivial hlo' hsu rfl rfl rfl (setRow_size _ _ _).symm
            (fun b hb => setRow_other w _ _ _ hb) ⟨(fun _ _ => ⟨cs, hk, rfl⟩), (fun _ e => by cases e), (fun _ _ e => by cases e), (fun _ e => by cases e)⟩ (fun hs => by
              refine ⟨_, ty, by rw [updμ_same]; exact setRow_heap w _ _ _ ty _ h1, ?_, ?_⟩
              · simp only [List.size_toArray]
                rw [splice_len (by simpa using hlen), splice_len hfit']; simpa using h2
              · intro i d v hd hv
                simp only [List.getElem?_toArray] at hv
                rw [splice_get (by simpa using hlen)] at hv
                rw [splice_get hfit'] at hd
                have hl2 : (a.eval y).cells.toList.length = dy.cells.length := by simp [c1]
                rw [hl2] at hv
                split at hd
                · rename_i g; rw [if_pos g] at hv; exact (h3 i d v hd (by simpa using hv)).stp hs (unders_iff.1 hcsu i d hd)
                · rename_i g; rw [if_neg g] at hv
                  split at hd
                  · rename_i g'; rw [if_pos g'] at hv; exact (c2 (i - c) d v hd (by simpa using hv)).stp hs (unders_iff.1 hyu _ d hd)
                  · rename_i g'; rw [if_neg g'] at hv; exact (h3 i d v hd (by simpa using hv)).stp hs (unders_iff.1 hcsu i d hd))
          exact .skip hrun ⟨_, .tup [], _, hv, hr, .tup [] [] rfl (fun i d v hd _ => by simp at hd), rfl, hs⟩
      | arr => simp [hk] at hv
      | fz => simp [hk] at hv
      | mp => simp [hk] at hv
  | aref k n i c =>
    simp only at hv
    generalize hcnd : (infoB P t && Nat.ble L.lo k && Nat.beq dy.cells.length (szOf P t) && dy.cells.all DV.one && !dr) = cnd at hv
    cases hk : L.get k with
    | none => simp [hk] at hv
    | some ob =>
      cases ob with
      | arr sz es =>
        cases cnd with
        | false => simp [hk] at hv
        | true =>
          simp only [hk] at hv
          obtain ⟨hn, p, hp, hfit, hv⟩ := hv
          simp only [Bool.and_eq_true] at hcnd
          obtain ⟨⟨⟨⟨hi, hlo⟩, hsz⟩, hone⟩, _⟩ := hcnd
          have hlo' : L.lo ≤ k := by simpa using hlo
          obtain ⟨c1, c2, c3⟩ := cells_rel hy hone
          obtain ⟨qs, hv, hql, hqr⟩ := purs_rel dy.cells (a.eval y).cells.toList _ (by simpa using c1) (fun i d v hd hv => c2 i d v hd (by simpa using hv)) hv
          have hqone : ∀ q, q ∈ qs → q.cells = [q] := by
            intro q hq
            obtain ⟨j, hj⟩ := List.mem_iff_getElem?.1 hq
            have hlt := getE_lt hj
            have hv1 : (a.eval y).cells.toList[j]? = some (a.eval y).cells.toList[j] := List.getElem?_eq_getElem (by omega)
            have ho1 := c3 _ (List.getElem_mem (l := (a.eval y).cells.toList) (n := j) (by omega))
            have := hqr j q _ hj hv1
            generalize (a.eval y).cells.toList[j] = u at this ho1
            cases q <;> first | rfl | (cases this; simp [Value.oneCell'] at ho1)
          obtain ⟨hc0, hpl, _⟩ := arr_cells h hk hp
          have hpil := getE_lt hp
          rcases h.obj k _ hk with ⟨g0, g1⟩ | ⟨vs, ty, h0, h1, h2, h3, h4, h5⟩
          · exact absurd g0 hc0
          have he : a.eval x = .pointer (some ⟨(μ k).blk, i * sz + c, none⟩) := by
            cases hx with
            | aref _ _ _ _ _ g1 g2 g3 => exact (g2 sz es hk).2 hn (by omega)
          have hql' : qs.length = dy.cells.length := by rw [hql]; simp [c1]
          have hblk : (i + 1) * sz ≤ vs.size := Nat.le_trans (Nat.mul_le_mul_right sz (by omega)) h3
          rw [Nat.succ_mul] at hblk
          have hlen : i * sz + c + (a.eval y).cells.size ≤ vs.size := by omega
          have hrun := run (μ k).blk (i * sz + c) vs ty he h1 hi (by rw [← c1]; exact beq_of hsz) hlen c3
          -- the new element
          have hpc : (p.put c qs).cells = splice p.cells c qs := by
            cases p with
            | agg l => rfl
            | _ =>
              simp only [PV.cells, List.length_singleton] at hpl
              subst hpl
              rcases qs with _ | ⟨q, _ | ⟨q2, r⟩⟩
              · have : c = 0 ∨ c = 1 := by simp at hql'; omega
                rcases this with rfl | rfl <;> rfl
              · have : c = 0 := by simp at hql'; omega
                subst this
                simp [PV.put, PV.cells, splice]
                have := hqone q (by simp)
                simpa [PV.cells] using this
              · simp at hql'; omega
          have hpl' : (p.put c qs).cells.length = sz := by rw [hpc, splice_len (by omega)]; exact hpl
          obtain ⟨hs, hr⟩ := h.write (w' := w.setRow (μ k).blk (splice vs.toList (i * sz + c) (a.eval y).cells.toList).toArray) k _ (.arr sz (es.set i (p.put c qs))) hk hc0 hlo' rfl rfl rfl rfl (setRow_size _ _ _).symm
            (fun b hb => setRow_other w _ _ _ hb) ⟨(fun _ e => by cases e), (fun _ e => by cases e), (fun _ _ e => by cases e; exact ⟨es, hk, .inr ⟨by simp, rfl⟩⟩), (fun _ e => by cases e)⟩ (fun hs => by
              refine .inr ⟨_, ty, by rw [updμ_same]; exact hc0, by rw [updμ_same]; exact setRow_heap w _ _ _ ty _ h1, by rw [updμ_same]; simpa using h2, ?_, ?_, ?_⟩
              · rw [updμ_same]
                simp only [List.size_toArray]
                rw [splice_len (by simpa using hlen)]; simpa using h3
              · intro q hq
                rcases List.mem_or_eq_of_mem_set hq with hq | rfl
                · exact h4 q hq
                · exact hpl'
              · intro i' p' j q hp' hj
                have hjl : j < sz := by
                  have := getE_lt hj
                  rw [List.getElem?_set] at hp'
                  split at hp'
                  · obtain rfl := Option.some.inj hp'; omega
                  · have := h4 p' (List.mem_of_getElem? hp'); omega
                simp only [List.getElem?_toArray]
                rw [splice_get (by simpa using hlen)]
                have hl2 : (a.eval y).cells.toList.length = qs.length := by omega
                rw [hl2]
                rw [List.getElem?_set] at hp'
                split at hp'
                · rename_i e
                  subst e
                  obtain rfl := Option.some.inj hp'
                  rw [hpc, splice_get (by omega)] at hj
                  by_cases g : j < c
                  · rw [if_pos g] at hj
                    rw [if_pos (by omega)]
                    obtain ⟨v, hv, hr⟩ := h5 i p j q hp hj
                    exact ⟨v, by simpa using hv, hr.stp hs⟩
                  · rw [if_neg g] at hj
                    rw [if_neg (by omega)]
                    by_cases g' : j < c + qs.length
                    · rw [if_pos g'] at hj
                      rw [if_pos (by omega)]
                      have e2 : i * sz + j - (i * sz + c) = j - c := by omega
                      rw [e2]
                      have hlt := getE_lt hj
                      have hv1 : (a.eval y).cells.toList[j - c]? = some (a.eval y).cells.toList[j - c] := List.getElem?_eq_getElem (by omega)
                      exact ⟨_, hv1, (hqr (j - c) q _ hj hv1).stp hs⟩
                    · rw [if_neg g'] at hj
                      rw [if_neg (by omega)]
                      obtain ⟨v, hv, hr⟩ := h5 i p j q hp hj
                      exact ⟨v, by simpa using hv, hr.stp hs⟩
                · rename_i e
                  obtain ⟨v, hv, hr⟩ := h5 i' p' j q hp' hj
                  have : i' * sz + j < i * sz + c ∨ i * sz + c + qs.length ≤ i' * sz + j := by
                    rcases Nat.lt_or_gt_of_ne e with g | g
                    · right
                      have := Nat.mul_le_mul_right sz (Nat.succ_le_of_lt g)
                      rw [Nat.succ_mul] at this
                      omega
                    · left
                      have := Nat.mul_le_mul_right sz (Nat.succ_le_of_lt g)
                      rw [Nat.succ_mul] at this
                      omega
                  rcases this with g | g
                  · rw [if_pos g]; exact ⟨v, by simpa using hv, hr.stp hs⟩
                  · rw [if_neg (by omega), if_neg (by omega)]; exact ⟨v, by simpa using hv, hr.stp hs⟩)
          exact .skip hrun ⟨_, .tup [], _, hv, hr, .tup [] [] rfl (fun i d v hd _ => by simp at hd), rfl, hs⟩
      | var => cases cnd <;> simp [hk] at hv
      | fz => cases cnd <;> simp [hk] at hv
      | mp => cases cnd <;> simp [hk] at hv
  | _ => simp at hv
end
end Go.Dv
