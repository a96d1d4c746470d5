/- The layer Dv, part 5: what the model's operations do, at related values: moves, variables. -/
import Derived.Test.YtlmgodcfjaagpaaDv4
namespace Go.Dv
open Go.RowKit (Below)

section
variable {P : Program} {M : Nat → Prop} {w0 : World} {μ : Nat → Loc} {L : DH} {w : World} {a : Act} {ρ : Operand → DV}

structure Rho (M : Nat → Prop) (μ : Nat → Loc) (L : DH) (w : World) (ρ : Operand → DV) (a : Act) : Prop where
  rel : ∀ x, RelV (Tot M μ L) w μ L (ρ x) (a.eval x)
  und : ∀ x, (ρ x).under L.next = true

/-- What an operation comes to. -/
def OpRes (P : Program) (M : Nat → Prop) (w0 : World) (μ : Nat → Loc) (L : DH) (w : World) (K : DV → DH → Prop) (o : Oper) (a : Act) : Prop :=
  (∃ v w', (execOp a.eval o).run P w = .ok (.value v) w' ∧ Out M w0 μ L w K v w') ∨
  (∃ w', (execOp a.eval o).run P w = .ok .skip w' ∧ Out M w0 μ L w K undef w') ∨
  (∃ f args, (execOp a.eval o).run P w = .ok (.enter f args) w ∧ Calls P f args w fun e w' => ∃ v, e = .returned v ∧ Out M w0 μ L w K v w')

theorem Out.id {K : DV → DH → Prop} {d : DV} {v : Value} (h : HR M w0 μ L w) (hr : RelV (Tot M μ L) w μ L d v) (hu : d.under L.next = true) (hK : K d L) : Out M w0 μ L w K v w :=
  ⟨μ, d, L, hK, h, hr, hu, Stp.refl L μ w fun k o hk => (h.keys k o hk).1⟩

theorem OpRes.val {K : DV → DH → Prop} {o : Oper} {v : Value} {w' : World} (hr : (execOp a.eval o).run P w = .ok (.value v) w') (h : Out M w0 μ L w K v w') : OpRes P M w0 μ L w K o a := .inl ⟨v, w', hr, h⟩
theorem OpRes.skip {K : DV → DH → Prop} {o : Oper} {w' : World} (hr : (execOp a.eval o).run P w = .ok .skip w') (h : Out M w0 μ L w K undef w') : OpRes P M w0 μ L w K o a := .inr (.inl ⟨w', hr, h⟩)

theorem run_val {s : Sem Value} {v : Value} {w' : World} (h : s.run P w = .ok v w') : ((do pure (Next.value (← s)) : Sem Next)).run P w = .ok (.value v) w' := by
  simp [h]
theorem run_skp {s : Sem Unit} {w' : World} (h : s.run P w = .ok () w') : ((do s; pure Next.skip : Sem Next)).run P w = .ok .skip w' := by
  simp [h]

theorem one_valP {T : Nat → Prop} {p : PV} {v : Value} (h : RelP T w p v) (ho : p.one = true) : v.oneCell' = true := by
  cases h <;> first | rfl | (simp [PV.one] at ho)
theorem one_val {T : Nat → Prop} {d : DV} {v : Value} (h : RelV T w μ L d v) (ho : d.one = true) : v.oneCell' = true := by
  cases h with
  | pv p v h => exact one_valP h ho
  | e0 a => rfl
  | agg => simp [DV.one] at ho
  | tup => simp [DV.one] at ho
  | ref k c v h => exact h
  | aref k n i c v h => exact h
  | eptr => rfl
  | buf k n v h => obtain ⟨_, _, rfl⟩ := h; rfl
  | mp k v h => exact h
  | clo => rfl
  | when => simp [DV.one] at ho
  | fnv => exact ho
  | raw => exact ho
  | any => simp [DV.one] at ho

theorem relV_dv1 {T : Nat → Prop} (v : Value) : RelV T w μ L (dv1 v) v := by
  unfold dv1
  split <;> first | exact .any _ | exact .raw _ | (refine .pv _ _ ?_; first | exact .int _ _ | exact .bool _ | exact .str _ | exact .nil)
theorem under_dv1 (n : Nat) (v : Value) : (dv1 v).under n = true := by
  unfold dv1
  split <;> rfl
theorem relV_dvOf {T : Nat → Prop} (v : Value) : RelV T w μ L (dvOf v) v := by
  unfold dvOf
  split
  · rename_i cs
    obtain ⟨l⟩ := cs
    refine .agg _ l (by simp) fun i d v hd hv => ?_
    simp only [List.getElem?_map, hv, Option.map_some] at hd
    obtain rfl := Option.some.inj hd
    exact relV_dv1 v
  · exact relV_dv1 v
theorem under_dvOf (n : Nat) (v : Value) : (dvOf v).under n = true := by
  unfold dvOf
  split
  · rename_i cs
    simp only [DV.under]
    rw [unders_mem]
    intro d hd
    obtain ⟨v, _, rfl⟩ := List.mem_map.1 hd
    exact under_dv1 n v
  · exact under_dv1 n v

theorem Rho.of_env {e : Env} (h : ∀ t, RelV (Tot M μ L) w μ L (e t) (a.tmps.getD t undef)) (hu : ∀ t, (e t).under L.next = true) : Rho M μ L w (opd e) a where
  rel := fun x => by
    cases x with
    | tmp t => exact h t
    | const v => exact relV_dvOf v
    | global g => exact .any _
    | func f => exact .clo f [] [] [] [] rfl rfl (fun i d v hd _ => by simp at hd) (fun i d v hd _ => by simp at hd)
  und := fun x => by
    cases x with
    | tmp t => exact hu t
    | const v => exact under_dvOf _ v
    | global g => rfl
    | func f => rfl

/-- The cells of a value that may lie in a variable. -/
theorem cells_rel {T : Nat → Prop} {d : DV} {v : Value} (h : RelV T w μ L d v) (ho : d.cells.all DV.one = true) :
    d.cells.length = v.cells.size ∧ (∀ (i : Nat) d' v', d.cells[i]? = some d' → v.cells[i]? = some v' → RelV T w μ L d' v') ∧ ∀ x, x ∈ v.cells.toList → x.oneCell' = true := by
  have hall : ∀ x, x ∈ d.cells → x.one = true := by simpa using ho
  have key : ∀ (ds : List DV) (vs : List Value), ds.length = vs.length → (∀ x, x ∈ ds → x.one = true) → (∀ (i : Nat) d' v', ds[i]? = some d' → vs[i]? = some v' → RelV T w μ L d' v') → ∀ x, x ∈ vs → x.oneCell' = true := by
    intro ds vs hl h1 h2 x hx
    obtain ⟨i, hi⟩ := List.mem_iff_getElem?.1 hx
    have hlt := getE_lt hi
    exact one_val (h2 i ds[i] x (List.getElem?_eq_getElem (by omega)) hi) (h1 _ (List.getElem_mem (by omega)))
  have single : ∀ (d : DV) (v : Value), RelV T w μ L d v → d.one = true → d.cells = [d] → d.cells.length = v.cells.size ∧ (∀ (i : Nat) d' v', d.cells[i]? = some d' → v.cells[i]? = some v' → RelV T w μ L d' v') ∧ ∀ x, x ∈ v.cells.toList → x.oneCell' = true := by
    intro d v hr h1 hc
    have hv : v.cells = #[v] := by
      have := one_val hr h1
      cases v <;> first | rfl | (simp [Value.oneCell'] at this)
    rw [hc, hv]
    refine ⟨rfl, fun i d' v' h1 h2 => ?_, fun x hx => ?_⟩
    · cases i with
      | zero => simp at h1 h2; subst h1; subst h2; exact hr
      | succ i => simp at h1
    · simp at hx; subst hx; exact one_val hr ‹_›
  cases h with
  | agg l vs h1 h2 =>
    refine ⟨by simpa [DV.cells, Value.cells] using h1, fun i d' v' hd hv => h2 i d' v' hd (by simpa [Value.cells] using hv), ?_⟩
    simpa [Value.cells] using key l vs h1 hall h2
  | pv p v hp =>
    by_cases hagg : ∃ l, p = .agg l
    · obtain ⟨l, rfl⟩ := hagg
      cases hp with
      | agg l vs h1 h2 =>
        have h3 : ∀ (i : Nat) d' v', (l.map DV.pv)[i]? = some d' → vs[i]? = some v' → RelV T w μ L d' v' := by
          intro i d' v' hd hv
          simp only [List.getElem?_map] at hd
          cases hl : l[i]? with
          | none => simp [hl] at hd
          | some p => simp [hl] at hd; subst hd; exact .pv _ _ (h2 i p v' hl hv)
        refine ⟨by simpa [DV.cells, Value.cells] using h1, fun i d' v' hd hv => h3 i d' v' hd (by simpa [Value.cells] using hv), ?_⟩
        simpa [Value.cells] using key (l.map DV.pv) vs (by simpa using h1) (by simpa [DV.cells] using hall) h3
    · have hc : (DV.pv p).cells = [.pv p] := by
        cases p <;> first | rfl | exact absurd ⟨_, rfl⟩ hagg
      exact single _ _ (.pv p v hp) (hall _ (by rw [hc]; simp)) hc
  | e0 a => exact single _ _ (.e0 a) rfl rfl
  | tup l vs h1 h2 => exact absurd (hall (.tup l) (by simp [DV.cells])) (by simp [DV.one])
  | ref k c v h1 h2 => exact single _ _ (.ref k c v h1 h2) rfl rfl
  | aref k n i c v h1 h2 h3 => exact single _ _ (.aref k n i c v h1 h2 h3) rfl rfl
  | eptr p c b off val h1 h2 h3 h4 => exact single _ _ (.eptr p c b off val h1 h2 h3 h4) rfl rfl
  | buf k n v h1 h2 h3 => exact single _ _ (.buf k n v h1 h2 h3) rfl rfl
  | mp k v h1 h2 => exact single _ _ (.mp k v h1 h2) rfl rfl
  | clo f x y fs cs h1 h2 h3 h4 => exact single _ _ (.clo f x y fs cs h1 h2 h3 h4) rfl rfl
  | fnv v => exact single _ _ (.fnv v) (hall (.fnv v) (by simp [DV.cells])) rfl
  | raw v => exact single _ _ (.raw v) (hall (.raw v) (by simp [DV.cells])) rfl
  | when c d v _ _ => exact absurd (hall (.when c d) (by simp [DV.cells])) (by simp [DV.one])
  | any v => exact absurd (hall .any (by simp [DV.cells])) (by simp [DV.one])

theorem cells_under {n : Nat} {d : DV} (h : d.under n = true) : DV.unders n d.cells = true := by
  unfold DV.cells
  split
  · simpa [DV.under] using h
  · rw [unders_mem]
    intro d hd
    obtain ⟨p, _, rfl⟩ := List.mem_map.1 hd
    rfl
  · simp [DV.unders, h]

/-- A new variable. -/
theorem out_var {K : DV → DH → Prop} {d : DV} {v : Value} (h : HR M w0 μ L w) (hr : RelV (Tot M μ L) w μ L d v) (hu : d.under L.next = true) (ho : d.cells.all DV.one = true) (ty : TypeId)
    (hK : K (.ref L.next 0) (L.push (.var d.cells))) : Out M w0 μ L w K (.pointer (some ⟨w.heap.size, 0, none⟩)) (w.alloc (.cells v.cells ty)) := by
  obtain ⟨c1, c2, c3⟩ := cells_rel hr ho
  have hcu := cells_under hu
  obtain ⟨hs, hr'⟩ := h.new (w1 := w) (.var d.cells) ⟨w.heap.size, 0⟩ (.cells v.cells ty) ⟨rfl, rfl, rfl, rfl⟩ rfl (DV.unders_mono (Nat.le_succ _) _ hcu) (fun hs =>
    ⟨v.cells, ty, by rw [updμ_same]; exact heap_push_new w _, by simpa using c1.symm, fun i d' v' hd hv => (c2 i d' v' hd hv).stp hs (unders_iff.1 hcu i d' hd)⟩)
  refine ⟨_, .ref L.next 0, _, hK, hr', .ref _ _ _ rfl fun cs _ => by rw [updμ_same], ?_, hs⟩
  simp [DV.under, DH.push, Nat.blt_eq]

theorem res_alloc {K : DV → DH → Prop} {o : Oper} {t : TypeId} {z : DV} (ho : o.op = .alloc t) (h : HR M w0 μ L w) (hz : zeroOf P t = some z) (h1 : z.cells.all DV.one = true)
    (hK : K (.ref L.next 0) (L.push (.var z.cells))) : OpRes P M w0 μ L w K o a := by
  unfold zeroOf at hz
  cases hi : P.info? t with
  | none => simp [hi] at hz
  | some i =>
    cases hv : i.zero with
    | none => simp [hi, hv] at hz
    | some v =>
      simp [hi, hv] at hz
      subst hz
      refine .val (w' := w.alloc (.cells v.cells t)) (v := .pointer (some ⟨w.heap.size, 0, none⟩)) ?_ (out_var h (relV_dvOf v) (under_dvOf _ v) h1 t hK)
      simp [execOp, ho, Instr.alloc, zeroValue, typeInfo, hi, hv, newVar, newRow]
theorem res_box {K : DV → DH → Prop} {o : Oper} {t : TypeId} {x : Operand} (ho : o.op = .box t x) (h : HR M w0 μ L w) (hρ : Rho M μ L w ρ a) (h1 : (ρ x).cells.all DV.one = true)
    (hK : K (.ref L.next 0) (L.push (.var (ρ x).cells))) : OpRes P M w0 μ L w K o a := by
  refine .val (w' := w.alloc (.cells (a.eval x).cells t)) (v := .pointer (some ⟨w.heap.size, 0, none⟩)) ?_ (out_var h (hρ.rel x) (hρ.und x) h1 t hK)
  simp [execOp, ho, Instr.box, newVar, newRow]

theorem info_of_kind {t : TypeId} {b : Bool} (h : kindT P t = some b) : ∃ i, P.info? t = some i := by
  unfold kindT Program.underlying at h
  cases hi : P.info? t with
  | none => simp [hi] at h
  | some i => exact ⟨i, rfl⟩
theorem run_isAgg_kind {t : TypeId} {b : Bool} (h : kindT P t = some b) (w : World) : (isAgg t).run P w = .ok b w := by
  unfold kindT at h
  unfold isAgg
  cases hu : P.underlying t with
  | none => simp [hu] at h
  | some d =>
    rw [Sem.run_bind, run_underlying hu w]
    rw [hu] at h
    cases d <;> simp_all
theorem run_szOf {t : TypeId} {i : TypeInfo} (h : P.info? t = some i) (w : World) : (sizeOf t).run P w = .ok (szOf P t) w := by
  simp [sizeOf, typeInfo, h, szOf, Program.cellsOf]

/-- A load out of cells that are related. -/
theorem load_rel {T : Nat → Prop} {K : DV → Prop} {t : TypeId} {cs : List DV} {c : Nat} (hl : ldCells P t cs c K) (b off : Nat) (val : Nat → Value)
    (hc : ∀ (i : Nat) d, cs[i]? = some d → w.cell? ⟨b, off + i, none⟩ = some (val i) ∧ RelV T w μ L d (val i)) {n : Nat} (hu : DV.unders n cs = true) :
    ∃ d v, (loadVar t ⟨b, off + c, none⟩).run P w = .ok v w ∧ RelV T w μ L d v ∧ d.under n = true ∧ K d := by
  unfold ldCells at hl
  cases hk : kindT P t with
  | none => simp [hk] at hl
  | some g =>
    obtain ⟨i, hi⟩ := info_of_kind hk
    cases g with
    | true =>
      simp only [hk] at hl
      cases hb : Nat.ble (c + szOf P t) cs.length with
      | false => simp [hb] at hl
      | true =>
        simp only [hb] at hl
        have hb' : c + szOf P t ≤ cs.length := by simpa using hb
        have hrun : (loadCells ⟨b, off + c, none⟩ (szOf P t)).run P w = .ok ((List.range (szOf P t)).map fun j => val (c + j)).toArray w := by
          refine run_loadCells w _ _ (fun j => val (c + j)) fun j hj => ?_
          rw [add_none, Nat.add_assoc]
          have : (cs[c + j]?).isSome := by rw [List.getElem?_eq_getElem (by omega)]; rfl
          obtain ⟨d, hd⟩ := Option.isSome_iff_exists.1 this
          exact (hc (c + j) d hd).1
        refine ⟨_, .agg ⟨(List.range (szOf P t)).map fun j => val (c + j)⟩, ?_, ?_, ?_, hl⟩
        · simp [loadVar, run_isAgg_kind hk, run_szOf hi, hrun]
        · refine .agg _ _ (by simp; omega) fun j d v hd hv => ?_
          simp only [List.getElem?_take] at hd
          split at hd
          · rename_i hj
            rw [List.getElem?_drop] at hd
            simp [hj] at hv
            subst hv
            exact (hc (c + j) d hd).2
          · cases hd
        · simp only [DV.under]
          rw [unders_mem]
          intro d hd
          exact unders_mem.1 hu d (List.mem_of_mem_drop (List.mem_of_mem_take hd))
    | false =>
      simp only [hk] at hl
      cases hd : cs[c]? with
      | none => simp [hd] at hl
      | some d =>
        simp only [hd] at hl
        refine ⟨d, val c, ?_, (hc c d hd).2, unders_iff.1 hu c d hd, hl⟩
        simp [loadVar, run_isAgg_kind hk, (hc c d hd).1]

theorem unders_pv (n : Nat) (l : List PV) : DV.unders n (l.map .pv) = true := by
  rw [unders_mem]
  intro d hd
  obtain ⟨p, _, rfl⟩ := List.mem_map.1 hd
  rfl
theorem getE_map_pv {l : List PV} {i : Nat} {d : DV} (h : (l.map DV.pv)[i]? = some d) : ∃ p, l[i]? = some p ∧ d = .pv p := by
  rw [List.getElem?_map] at h
  cases hl : l[i]? with
  | none => simp [hl] at h
  | some p => simp [hl] at h; exact ⟨p, rfl, h.symm⟩

/-- The cells of an array's element. -/
theorem arr_cells (h : HR M w0 μ L w) {k sz : Nat} {es : List PV} (hk : L.get k = some (.arr sz es)) {i : Nat} {p : PV} (hp : es[i]? = some p) :
    (μ k).cap ≠ 0 ∧ p.cells.length = sz ∧ ∃ val : Nat → Value, ∀ (j : Nat) q, p.cells[j]? = some q → w.cell? ⟨(μ k).blk, i * sz + j, none⟩ = some (val j) ∧ RelP (Tot M μ L) w q (val j) := by
  rcases h.obj k _ hk with ⟨_, h2⟩ | ⟨vs, ty, h0, h1, h2, h3, h4, h5⟩
  · subst h2; simp at hp
  · refine ⟨h0, h4 p (List.mem_of_getElem? hp), fun j => (vs[i * sz + j]?).getD undef, fun j q hq => ?_⟩
    obtain ⟨v, hv, hr⟩ := h5 i p j q hp hq
    simp [World.cell?, h1, hv, hr]
theorem fz_cells (h : HR M w0 μ L w) {k : Nat} {es : List PV} (hk : L.get k = some (.fz es)) {i : Nat} {p : PV} (hp : es[i]? = some p) {sz : Nat} (hsz : ∀ q, q ∈ es → q.cells.length = sz) :
    ∃ val : Nat → Value, ∀ (j : Nat) q, p.cells[j]? = some q → w.cell? ⟨(μ k).blk, i * sz + j, none⟩ = some (val j) ∧ RelP (Tot M μ L) w q (val j) := by
  rcases h.obj k _ hk with ⟨_, h2⟩ | ⟨h0, h1, h2⟩
  · subst h2; simp at hp
  · cases es with
    | nil => simp at hp
    | cons e0 r =>
      generalize hx : Value.slice (some ⟨(μ k).blk, 0, none⟩) (e0 :: r).length (μ k).cap = x at h2
      cases h2 with
      | sl b off sz' cap l val h1 h2 h3 h4 h5 h6 =>
        obtain ⟨rfl, rfl, rfl⟩ : b = (μ k).blk ∧ off = 0 ∧ cap = (μ k).cap := by simp at hx; exact ⟨hx.1.1.symm, hx.1.2.symm, hx.2.symm⟩
        have hs : sz' = sz := by rw [← hsz e0 (by simp), ← h4 e0 (by simp)]
        subst hs
        refine ⟨fun j => val i j, fun j q hq => ⟨?_, h6 i p j q hp hq⟩⟩
        have := h5 i p j q hp hq
        simpa using this

theorem res_load {K : DV → DH → Prop} {o : Oper} {t : TypeId} {x : Operand} {dr : Bool} (ho : o.op = .load t x) (h : HR M w0 μ L w) (hρ : Rho M μ L w ρ a) (hv : vcOp P M w0 dr ρ L o K) : OpRes P M w0 μ L w K o a := by
  have hx := hρ.rel x
  have fin : ∀ (b off : Nat), a.eval x = .pointer (some ⟨b, off, none⟩) → ∀ d v, (loadVar t ⟨b, off, none⟩).run P w = .ok v w → RelV (Tot M μ L) w μ L d v → d.under L.next = true → K d L → OpRes P M w0 μ L w K o a := by
    intro b off he d v hr hd hu hk
    refine .val (v := v) (w' := w) ?_ (Out.id h hd hu hk)
    simp [execOp, ho, Instr.loadAt, Instr.sureAddr, he, hr]
  simp only [vcOp, ho] at hv
  generalize hd : ρ x = d at hv hx
  cases d with
  | ref k c =>
    simp only at hv
    cases hk : L.get k with
    | none => simp [hk] at hv
    | some ob =>
      cases ob with
      | var cs =>
        simp only [hk] at hv
        obtain ⟨vs, ty, h1, h2, h3⟩ := h.obj k _ hk
        have hcu : DV.unders L.next cs = true := (h.keys k _ hk).2
        obtain ⟨d, v, hr, hrel, hu, hK⟩ := load_rel (μ := μ) (L := L) (w := w) (T := Tot M μ L) hv (μ k).blk 0 (fun i => (vs[i]?).getD undef) (fun i d hd => by
          have hlt := getE_lt hd
          have hvi : vs[i]? = some vs[i] := Array.getElem?_eq_getElem (by omega)
          exact ⟨by simp [World.cell?, h1, hvi], by rw [hvi]; exact h3 i d _ hd hvi⟩) hcu
        cases hx with
        | ref _ _ v' h1 h2 =>
          have := h2 cs hk
          exact fin (μ k).blk c this d v (by simpa using hr) hrel hu hK
      | arr => simp [hk] at hv
      | fz => simp [hk] at hv
      | mp => simp [hk] at hv
  | eptr p c =>
    simp only at hv
    cases hx' : a.eval x
    all_goals rw [hx'] at hx
    all_goals cases hx
    rename_i b off val h1 h2 h3 h4
    obtain ⟨d, v, hr, hrel, hu, hK⟩ := load_rel (μ := μ) (L := L) (w := w) (T := Tot M μ L) hv b off val (fun i d hd => by
      obtain ⟨q, hq, rfl⟩ := getE_map_pv hd
      exact ⟨h3 i q hq, .pv _ _ (h4 i q hq)⟩) (unders_pv L.next _)
    exact fin b (off + c) hx' d v hr hrel hu hK
  | aref k n i c =>
    simp only at hv
    cases hk : L.get k with
    | none => simp [hk] at hv
    | some ob =>
      cases ob with
      | arr sz es =>
        simp only [hk] at hv
        obtain ⟨hn, p, hp, hv⟩ := hv
        obtain ⟨_, _, val, hval⟩ := arr_cells h hk hp
        obtain ⟨d, v, hr, hrel, hu, hK⟩ := load_rel (μ := μ) (L := L) (w := w) (T := Tot M μ L) hv (μ k).blk (i * sz) val (fun i d hd => by
          obtain ⟨q, hq, rfl⟩ := getE_map_pv hd
          exact ⟨(hval i q hq).1, .pv _ _ (hval i q hq).2⟩) (unders_pv L.next _)
        cases hx with
        | aref _ _ _ _ v' h1 h2 h3 =>
          have := (h2 sz es hk).2 hn (by have := getE_lt hp; omega)
          exact fin (μ k).blk (i * sz + c) this d v hr hrel hu hK
      | fz es =>
        simp only [hk] at hv
        obtain ⟨hn, p, hp, hv⟩ := hv
        cases hx with
        | aref _ _ _ _ v' h1 h2 h3 =>
          obtain ⟨sz, hsz, he⟩ := (h3 es hk).2 hn p hp
          obtain ⟨val, hval⟩ := fz_cells h hk hp hsz
          obtain ⟨d, v, hr, hrel, hu, hK⟩ := load_rel (μ := μ) (L := L) (w := w) (T := Tot M μ L) hv (μ k).blk (i * sz) val (fun i d hd => by
            obtain ⟨q, hq, rfl⟩ := getE_map_pv hd
            exact ⟨(hval i q hq).1, .pv _ _ (hval i q hq).2⟩) (unders_pv L.next _)
          exact fin (μ k).blk (i * sz + c) he d v hr hrel hu hK
      | var => simp [hk] at hv
      | mp => simp [hk] at hv
  | _ => simp at hv
end
end Go.Dv
