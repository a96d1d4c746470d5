/- The layer Dv, part 10: append, make, slice literals. -/
import Derived.Test.YtlmgodcfjaagpaaDv9
namespace Go.Dv
open Go.RowKit (Below)
section
variable {P : Program} {M : Nat → Prop} {w0 : World} {μ : Nat → Loc} {L : DH} {w : World} {a : Act} {ρ : Operand → DV} {K : DV → DH → Prop} {o : Oper} {dr : Bool}

/-- New blocks that nobody knows leave everything as it was. -/
theorem HR.more (h : HR M w0 μ L w) {w' : World} (hb : Below w.heap.size w w') : Stp L μ w L μ w' ∧ HR M w0 μ L w' := by
  have hs : Stp L μ w L μ w' := ⟨Evo.refl L μ, hb.os, hb.tape, hb.output, hb.size, fun b hl _ => hb.block b hl, fun k o hk hl => .inl ⟨(h.keys k o hk).1, ⟨o, hk, hl⟩, rfl⟩, Nat.le_refl _, rfl, rfl⟩
  refine ⟨hs, h.ext.trans (hb.mono h.ext.size), fun b hM => Nat.lt_of_lt_of_le (h.mlt b hM) hb.size, h.keys, fun k o hk hl => ?_, h.inj, fun k o hk => ?_, h.base, h.lob⟩
  · obtain ⟨h1, h2, h3⟩ := h.live k o hk hl
    exact ⟨Nat.lt_of_lt_of_le h1 hb.size, h2, h3⟩
  · exact (h.obj k o hk).stp hs rfl (fun hl => hb.block _ (h.live k o hk hl).1) (h.keys k o hk).2

theorem relP_cells {T : Nat → Prop} {p : PV} {v : Value} (h : RelP T w p v) : p.cells.length = v.cells.size ∧ ∀ (j : Nat) q u, p.cells[j]? = some q → v.cells[j]? = some u → RelP T w q u := by
  have one : ∀ (p : PV) (v : Value), RelP T w p v → p.cells = [p] → v.cells = #[v] → p.cells.length = v.cells.size ∧ ∀ (j : Nat) q u, p.cells[j]? = some q → v.cells[j]? = some u → RelP T w q u := by
    intro p v h h1 h2
    rw [h1, h2]
    refine ⟨rfl, fun j q u hq hu => ?_⟩
    cases j with
    | zero => simp at hq hu; subst hq; subst hu; exact h
    | succ j => simp at hq
  cases h with
  | agg l vs h1 h2 => exact ⟨by simpa [PV.cells, Value.cells] using h1, fun j q u hq hu => h2 j q u hq (by simpa [Value.cells] using hu)⟩
  | int k n => exact one _ _ (.int k n) rfl rfl
  | bool b => exact one _ _ (.bool b) rfl rfl
  | str s => exact one _ _ (.str s) rfl rfl
  | nil => exact one _ _ .nil rfl rfl
  | e0 a c => exact one _ _ (.e0 a c) rfl rfl
  | sl b off sz cap l val g1 g2 g3 g4 g5 g6 => exact one _ _ (.sl b off sz cap l val g1 g2 g3 g4 g5 g6) rfl rfl
  | tup l vs h1 h2 => exact one _ _ (.tup l vs h1 h2) rfl rfl

theorem upto_zip : ∀ (n s : Nat) (l : List (Nat × Operand)), l.map (·.1) = upto n s → (l.map fun q => (q.1, a.eval q.2)) = ((l.map fun q => a.eval q.2).zipIdx s).map fun x => (x.2, x.1)
  | 0, s, l, h => by
    cases l with
    | nil => rfl
    | cons x r => simp [upto] at h
  | n + 1, s, l, h => by
    cases l with
    | nil => simp [upto] at h
    | cons x r =>
      simp only [upto, List.map_cons, List.cons.injEq] at h
      have ih := upto_zip n (s + 1) r h.2
      simp only [List.map_cons, List.zipIdx_cons, ih, h.1]
theorem upto_len : ∀ (n s : Nat), (upto n s).length = n
  | 0, _ => rfl
  | n + 1, s => by simp [upto, upto_len n (s + 1)]

/-- A slice literal. -/
theorem lit_rel {t e : TypeId} {n : Nat} {parts : Array (Nat × Operand)} {ps : List PV} (ho : o.op = .buildSlice t n parts) (h : HR M w0 μ L w) (he : elemT P t = some e)
    (hidx : parts.toList.map (·.1) = upto n 0) (hsm : n * szOf P e ≤ 16777216) (hz : (zeroOf P e).isSome = true) (hs0 : szOf P e ≠ 0)
    (hpl : ps.length = (parts.toList.map fun q => a.eval q.2).length) (hp : ∀ (i : Nat) p v, ps[i]? = some p → (parts.toList.map fun q => a.eval q.2)[i]? = some v → RelP (Tot M μ L) w p v)
    (hc : cellsAll (szOf P e) ps = true) : ∃ v w', (execOp a.eval o).run P w = .ok (.value v) w' ∧ Below w.heap.size w w' ∧ RelP (Tot M μ L) w' (.sl ps) v ∧ (n = 0 → ∃ ad, v = .slice ad 0 0) := by
  have hu := run_elem he
  obtain ⟨z, hz⟩ := Option.isSome_iff_exists.1 hz
  obtain ⟨i, v0, hi, hv0, _⟩ := zero_of hz
  have hsz : i.size = szOf P e := by simp [szOf, Program.cellsOf, hi]
  have hn : (parts.toList.map fun q => a.eval q.2).length = n := by
    have := congrArg List.length hidx
    rw [upto_len] at this
    simpa using this
  have hcells : ∀ v, v ∈ (parts.toList.map fun q => a.eval q.2) → v.cells.size = szOf P e := by
    intro v hv
    obtain ⟨j, hj⟩ := List.mem_iff_getElem?.1 hv
    have hlt := getE_lt hj
    have hpj : ps[j]? = some (ps[j]'(by omega)) := List.getElem?_eq_getElem (by omega)
    rw [← (relP_cells (hp j _ v hpj hj)).1]
    exact cellsAll_iff hc _ (List.mem_of_getElem? hpj)
  have hpm : (parts.map fun (x : Nat × Operand) => (x.1, a.eval x.2)).toList = (((parts.toList.map fun q => a.eval q.2).zipIdx 0).map fun x => (x.2, x.1)) := by
    rw [Array.toList_map]
    exact upto_zip n 0 parts.toList hidx
  by_cases hn0 : n = 0
  · subst hn0
    have hnil : parts.toList.map (fun q => a.eval q.2) = [] := List.length_eq_zero_iff.1 hn
    refine ⟨.slice (some ⟨w.heap.size, 0, none⟩) 0 0, w.alloc (.cells #[] e), ?_, (Below.refl _ _).alloc (Nat.le_refl _) _, ?_, fun _ => ⟨_, rfl⟩⟩
    · have hpe : (parts.map fun (x : Nat × Operand) => (x.1, a.eval x.2)).toList = [] := by rw [hpm, hnil]; rfl
      have hpe' : parts.map (fun (x : Nat × Operand) => (x.1, a.eval x.2)) = #[] := by apply Array.ext'; rw [hpe]
      simp [execOp, ho, Instr.buildSlice, run_underlying hu, run_szOf hi, Instr.fill, newRow, hpe', Array.range_zero']
    · have : ps = [] := List.length_eq_zero_iff.1 (by rw [hpl, hn])
      subst this
      exact .e0 _ _
  · obtain ⟨r, hf, hrs, hr⟩ := Great.fill_dense (s := szOf P e) (by omega) (parts.toList.map fun q => a.eval q.2) 0 ((Array.range (n * i.size)).map (v0.cells[· % v0.cells.size]!)) hcells (by simp [hn, hsz])
    have hrun := run_buildSlice (P := P) w t e n (parts.map fun (x : Nat × Operand) => (x.1, a.eval x.2)) r i v0 hu hi hv0 (by rw [hsz]; omega) (by rw [hsz]; intro e; rcases Nat.mul_eq_zero.1 e with e | e <;> omega) (by rw [hsz, hpm]; rw [hsz] at hf; exact hf)
    have hb : Below w.heap.size w (w.alloc (.cells r e)) := (Below.refl _ _).alloc (Nat.le_refl _) _
    refine ⟨.slice (some ⟨w.heap.size, 0, none⟩) n n, w.alloc (.cells r e), ?_, hb, ?_, fun e => absurd e hn0⟩
    · rw [show execOp a.eval o = (do pure (Next.value (← Instr.buildSlice t n (parts.map fun (x : Nat × Operand) => (x.1, a.eval x.2)))) : Sem Next) from by simp only [execOp, ho]]
      exact run_val hrun
    · have hln : ps.length = n := by rw [hpl, hn]
      rw [← hln]
      refine .sl w.heap.size 0 (szOf P e) _ ps (fun i j => (r[i * szOf P e + j]?).getD undef) ?_ (by simp) (Nat.le_refl _) (cellsAll_iff hc) ?_ ?_
      · rintro (hM | ⟨k, ob, h1, h2, h3⟩)
        · exact Nat.lt_irrefl _ (h.mlt _ hM)
        · have := (h.live k ob h1 h2).1; omega
      all_goals
        intro i' p j q hpi hqj
        have hil := getE_lt hpi
        have hjl : j < szOf P e := by rw [← cellsAll_iff hc p (List.mem_of_getElem? hpi)]; exact getE_lt hqj
        have hlt := idx_lt (n := n) (by omega : i' < n) hjl
        have hk := hr (i' * szOf P e + j)
        have hs : 0 < szOf P e := by omega
        have e1 : (i' * szOf P e + j) / szOf P e = i' := by rw [Nat.mul_comm, Nat.mul_add_div hs, Nat.div_eq_of_lt hjl]; omega
        have e2 : (i' * szOf P e + j) % szOf P e = j := by rw [Nat.mul_comm, Nat.mul_add_mod, Nat.mod_eq_of_lt hjl]
        rw [if_pos (by rw [hn, Nat.zero_add, Nat.zero_mul]; exact ⟨Nat.zero_le _, hlt⟩), e1, e2] at hk
        simp only [Nat.sub_zero] at hk
        have hvi : (parts.toList.map fun q => a.eval q.2)[i']? = some ((parts.toList.map fun q => a.eval q.2)[i']'(by omega)) := List.getElem?_eq_getElem (by omega)
        rw [hvi] at hk
        simp only [Option.bind_some] at hk
        have hrel := hp i' p _ hpi hvi
        obtain ⟨g1, g2⟩ := relP_cells hrel
        have hvj : ((parts.toList.map fun q => a.eval q.2)[i']'(by omega)).cells[j]? = some (((parts.toList.map fun q => a.eval q.2)[i']'(by omega)).cells[j]'(by have := getE_lt hqj; omega)) := Array.getElem?_eq_getElem (by have := getE_lt hqj; omega)
        rw [hvj] at hk
      · rw [World.cell?_alloc_new]
        simp [hk]
      · rw [hk]
        exact (g2 j q _ hqj hvj).mono (fun _ hb => .inl hb) hb.size fun b hlt _ => hb.block b hlt

theorem parts_rel (hρ : Rho M μ L w ρ a) (parts : Array (Nat × Operand)) : (parts.toList.map fun q => ρ q.2).length = (parts.toList.map fun q => a.eval q.2).length ∧
    (∀ (i : Nat) d v, (parts.toList.map fun q => ρ q.2)[i]? = some d → (parts.toList.map fun q => a.eval q.2)[i]? = some v → RelV (Tot M μ L) w μ L d v) ∧ DV.unders L.next (parts.toList.map fun q => ρ q.2) = true := by
  refine ⟨by simp, fun i d v hd hv => ?_, ?_⟩
  · simp only [List.getElem?_map] at hd hv
    cases hx : parts.toList[i]? with
    | none => simp [hx] at hd
    | some x => simp [hx] at hd hv; subst hd; subst hv; exact hρ.rel x.2
  · rw [unders_mem]
    intro d hd
    obtain ⟨x, _, rfl⟩ := List.mem_map.1 hd
    exact hρ.und x.2

theorem res_buildSlice {t : TypeId} {n : Nat} {parts : Array (Nat × Operand)} (ho : o.op = .buildSlice t n parts) (h : HR M w0 μ L w) (hρ : Rho M μ L w ρ a) (hv : vcOp P M w0 dr ρ L o K) : OpRes P M w0 μ L w K o a := by
  simp only [vcOp, ho] at hv
  cases he : elemT P t with
  | none => simp [he] at hv
  | some e =>
    simp only [he] at hv
    obtain ⟨p1, p2, p3⟩ := parts_rel hρ parts
    generalize hc : ((parts.toList.map (·.1) == upto n 0) && Nat.ble (n * szOf P e) 16777216 && (zeroOf P e).isSome && !Nat.beq (szOf P e) 0) = c at hv
    have fin : ∀ (L' : DH) (ps : List PV), HR M w0 μ L' w → Stp L μ w L' μ w → ps.length = (parts.toList.map fun q => a.eval q.2).length → (∀ (i : Nat) p v, ps[i]? = some p → (parts.toList.map fun q => a.eval q.2)[i]? = some v → RelP (Tot M μ L') w p v) →
        c = true → (cellsAll (szOf P e) ps = true ∧ (match (generalizing := false) n with | 0 => K .e0 L' | _ + 1 => K (.pv (.sl ps)) L')) → OpRes P M w0 μ L w K o a := by
      intro L' ps h' hs hl hp hct hv
      rw [hct] at hc
      simp only [Bool.and_eq_true] at hc
      obtain ⟨⟨⟨c1, c2⟩, c3⟩, c4⟩ := hc
      obtain ⟨v, w', hr, hb, hrel, hz⟩ := lit_rel ho h' he (by simpa using c1) (by simpa using c2) c3 (by intro e0; rw [e0] at c4; simp at c4) hl hp hv.1
      obtain ⟨hs', h''⟩ := h'.more hb
      cases n with
      | zero =>
        obtain ⟨ad, rfl⟩ := hz rfl
        exact .val hr ⟨μ, .e0, L', hv.2, h'', .e0 ad, rfl, hs.trans hs'⟩
      | succ n => exact .val hr ⟨μ, .pv (.sl ps), L', hv.2, h'', .pv _ _ hrel, rfl, hs.trans hs'⟩
    cases c with
    | false => cases dr <;> simp at hv
    | true =>
      cases dr with
      | false =>
        simp only at hv
        obtain ⟨ps, L', hK, h', hs, hl, hp⟩ := frzs_rel _ L _ _ h p1 p2 p3 hv
        exact fin L' ps h' hs hl hp rfl hK
      | true =>
        simp only at hv
        obtain ⟨ps, hK, hl, hp⟩ := purs_rel _ _ _ p1 p2 hv
        exact fin L ps h (Stp.refl L μ w fun k o hk => (h.keys k o hk).1) hl hp rfl hK

theorem res_makeSlice {t : TypeId} {x y : Operand} (ho : o.op = .makeSlice t x y) (h : HR M w0 μ L w) (hρ : Rho M μ L w ρ a) (hv : vcOp P M w0 dr ρ L o K) : OpRes P M w0 μ L w K o a := by
  have hx := hρ.rel x
  have hy := hρ.rel y
  simp only [vcOp, ho] at hv
  cases he : elemT P t with
  | none => simp [he] at hv
  | some e =>
    simp only [he] at hv
    have hu := run_elem he
    split at hv
    · rename_i z k1 n k2 m hz hc e1 e2
      rw [e1] at hx; rw [e2] at hy
      obtain ⟨i, v0, hi, hv0, hzv⟩ := zero_of hz
      have hrz : RelV (Tot M μ L) w μ L z v0 := hzv ▸ relV_dvOf v0
      obtain ⟨p, ⟨hpl, hnm, hn0, hnb, hK⟩, hp⟩ := pur_rel z v0 _ hrz hv
      subst hnm
      simp only [Bool.and_eq_true] at hc
      have hb4 : byOf P e ≤ 4096 := by simpa using hc.1
      have hby : i.bytes = byOf P e := by simp [byOf, Program.bytesOf, hi]
      have hsz : i.size = szOf P e := by simp [szOf, Program.cellsOf, hi]
      have hnb' : n ≤ 4294967296 := hnb
      have hbytes : (i.bytes : Int) * n ≤ 281474976710656 := by
        have h1 : (i.bytes : Int) ≤ 4096 := by omega
        have h2 : (i.bytes : Int) * n ≤ 4096 * n := Int.mul_le_mul_of_nonneg_right h1 hn0
        omega
      have hrun := run_make (P := P) w t e i v0 hu hi hv0 k1 k2 n n hn0 (Int.le_refl _) hbytes (by omega)
      obtain ⟨g1, g2⟩ := relP_cells hp
      have hvs : v0.cells.size = szOf P e := by rw [← g1]; exact hpl
      obtain ⟨hs, hr⟩ := h.new (w1 := w) (.arr (szOf P e) (List.replicate n.toNat p)) ⟨w.heap.size, n.toNat⟩ (.cells (madeCells v0.cells (n.toNat * i.size)) e) ⟨rfl, rfl, rfl, rfl⟩ rfl rfl (fun hs => by
        by_cases hz : n.toNat = 0
        · refine .inl ⟨by rw [updμ_same]; exact hz, by rw [hz]; rfl⟩
        · refine .inr ⟨_, e, by rw [updμ_same]; exact hz, by rw [updμ_same]; exact heap_push_new w _, by rw [updμ_same]; simp, ?_, ?_, ?_⟩
          · rw [updμ_same, size_madeCells, hsz]; exact Nat.le_refl _
          · intro q hq
            rw [List.eq_of_mem_replicate hq]; exact hpl
          · intro i' p' j q hp' hq
            have hp2 : p' = p := List.eq_of_mem_replicate (List.mem_of_getElem? hp')
            subst hp2
            have hil : i' < n.toNat := by have := getE_lt hp'; simpa using this
            have hjl : j < szOf P e := by rw [← hpl]; exact getE_lt hq
            have hlt := idx_lt hil hjl
            have hvj : v0.cells[j]? = some (v0.cells[j]'(by omega)) := Array.getElem?_eq_getElem (by omega)
            refine ⟨v0.cells[j]'(by omega), ?_, (g2 j q _ hq hvj).stp hs⟩
            have e2 : (i' * szOf P e + j) % szOf P e = j := by rw [Nat.mul_comm, Nat.mul_add_mod, Nat.mod_eq_of_lt hjl]
            have e3 : (i' * szOf P e + j) % v0.cells.size = j := by rw [hvs]; exact e2
            unfold madeCells
            rw [hsz, Array.getElem?_map, Array.getElem?_range, if_pos hlt]
            simp only [Option.map_some, e3]
            rw [getElem!_pos v0.cells j (by omega)])
      refine .val (v := .slice (some ⟨w.heap.size, 0, none⟩) n.toNat n.toNat) (w' := w.alloc (.cells (madeCells v0.cells (n.toNat * i.size)) e)) ?_ ⟨_, .buf L.next _, _, hK, hr, ?_, ?_, hs⟩
      · rw [show execOp a.eval o = (do pure (Next.value (← Instr.makeSlice t (a.eval x) (a.eval y))) : Sem Next) from by simp only [execOp, ho]]
        rw [pvI hx, pvI hy]
        exact run_val hrun
      · refine .buf _ _ _ ⟨_, _, by rw [List.length_replicate]⟩ (fun sz' es' hk' => ?_) (fun es' hk' => ?_)
        · rw [DH.push_same] at hk'; cases hk'
          refine ⟨Nat.le_refl _, fun _ => ?_⟩
          rw [updμ_same]
          by_cases hz : n.toNat = 0
          · exact .inl ⟨hz, by simp [hz], _, by rw [hz]⟩
          · exact .inr ⟨hz, by simp⟩
        · rw [DH.push_same] at hk'; cases hk'
      · simp [DV.under, DH.push, Nat.blt_eq]
    · exact hv.elim
end
end Go.Dv
