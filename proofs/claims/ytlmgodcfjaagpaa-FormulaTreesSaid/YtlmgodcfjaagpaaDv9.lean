/- The layer Dv, part 9: values that are built; append; make. -/
import Derived.Test.YtlmgodcfjaagpaaDv8
import Derived.Great.BuildSlice
namespace Go.Dv
open Go.RowKit (Below)
section
variable {P : Program} {M : Nat → Prop} {w0 : World} {μ : Nat → Loc} {L : DH} {w : World} {a : Act} {ρ : Operand → DV} {K : DV → DH → Prop} {o : Oper} {dr : Bool}

theorem zero_of {t : TypeId} {z : DV} (h : zeroOf P t = some z) : ∃ i v, P.info? t = some i ∧ i.zero = some v ∧ z = dvOf v := by
  unfold zeroOf at h
  cases hi : P.info? t with
  | none => simp [hi] at h
  | some i =>
    cases hv : i.zero with
    | none => simp [hi, hv] at h
    | some v => simp [hi, hv] at h; exact ⟨i, v, rfl, hv, h.symm⟩

theorem mapM_run {α β : Type} (f : α → Sem β) (g : α → β) : ∀ (l : List α), (∀ x, x ∈ l → (f x).run P w = .ok (g x) w) → (l.mapM f).run P w = .ok (l.map g) w
  | [], _ => by simp
  | x :: r, h => by
    have ih := mapM_run f g r fun y hy => h y (by simp [hy])
    simp [h x (by simp), ih]

theorem fill_step (place : Nat → Option (Nat × Nat)) (cells : Array Value) (i : Nat) (v : Value) (rest : List (Nat × Value)) (off : Nat) (hp : place i = some (off, v.cells.size)) (hf : off + v.cells.size ≤ cells.size) :
    Instr.fill place cells ((i, v) :: rest) = Instr.fill place (splice cells.toList off v.cells.toList).toArray rest := by
  have h1 : v.cells.zipIdx.foldl (fun cs (x : Value × Nat) => cs.setIfInBounds (off + x.2) x.1) cells = (splice cells.toList off v.cells.toList).toArray := by
    rw [← Array.foldl_toList, Array.toList_zipIdx]
    obtain ⟨g1, g2⟩ := Great.foldl_set off v.cells.toList 0 cells
    apply Array.ext'
    apply List.ext_getElem?
    intro k
    have g3 := g2 k
    rw [← Array.getElem?_toList] at g3
    rw [g3]
    rw [splice_get (by simpa using hf)]
    simp only [Nat.add_zero, Array.length_toList]
    by_cases c1 : k < off
    · rw [if_neg (by omega), if_pos c1]; simp
    · rw [if_neg c1]
      by_cases c2 : k < off + v.cells.size
      · rw [if_pos (by omega), if_pos c2]
      · rw [if_neg (by omega), if_neg c2]; simp
  conv => lhs; unfold Instr.fill
  simp only [hp]
  rw [if_neg (by simp; omega), h1]

theorem fill_rel {T : Nat → Prop} {s : TypeId} {fs : Array Field} (hu : P.underlying s = some (.struct fs)) (places : Array (Nat × Nat)) (hpl : ∀ (i : Nat) f, fs[i]? = some f → places[i]? = some (f.offset, szOf P f.type))
    (hρ : ∀ x, RelV T w μ L (ρ x) (a.eval x)) (hρu : ∀ x, (ρ x).under L.next = true) :
    ∀ (parts : List (Nat × Operand)) (z cs : List DV) (zc : Array Value), z.length = zc.size → (∀ (i : Nat) d v, z[i]? = some d → zc[i]? = some v → RelV T w μ L d v) → DV.unders L.next z = true →
      dfill P s z (parts.map fun q => (q.1, ρ q.2)) = some cs →
      ∃ r, Instr.fill (places[·]?) zc (parts.map fun q => (q.1, a.eval q.2)) = some r ∧ cs.length = r.size ∧ (∀ (i : Nat) d v, cs[i]? = some d → r[i]? = some v → RelV T w μ L d v) ∧ DV.unders L.next cs = true
  | [], z, cs, zc, h1, h2, h3, h => by
    simp [dfill] at h; subst h
    exact ⟨zc, rfl, h1, h2, h3⟩
  | (i, x) :: r, z, cs, zc, h1, h2, h3, h => by
    simp only [List.map_cons, dfill] at h
    cases hf : fieldOf P s i with
    | none => simp [hf] at h
    | some f =>
      simp only [hf] at h
      obtain ⟨fs', hu', hfs⟩ := run_field hf
      rw [hu] at hu'; obtain rfl : fs = fs' := by cases hu'; rfl
      generalize hc : (Nat.beq (ρ x).cells.length (szOf P f.type) && Nat.ble (f.offset + (ρ x).cells.length) z.length && (ρ x).cells.all DV.one) = c at h
      cases c with
      | false => simp at h
      | true =>
        simp only [Bool.and_eq_true] at hc
        obtain ⟨⟨e1, e2⟩, e3⟩ := hc
        have e1' := beq_of e1
        have e2' : f.offset + (ρ x).cells.length ≤ z.length := by simpa using e2
        obtain ⟨c1, c2, c3⟩ := cells_rel (hρ x) e3
        have hcu := cells_under (hρu x)
        have hfit : f.offset + (a.eval x).cells.size ≤ zc.size := by omega
        have hstep := fill_step (places[·]?) zc i (a.eval x) (r.map fun q => (q.1, a.eval q.2)) f.offset (by rw [hpl i f hfs, ← c1, e1']) hfit
        obtain ⟨r', g1, g2, g3, g4⟩ := fill_rel hu places hpl hρ hρu r (splice z f.offset (ρ x).cells) cs (splice zc.toList f.offset (a.eval x).cells.toList).toArray
          (by simp only [List.size_toArray]; rw [splice_len e2', splice_len (by simpa using hfit)]; simpa using h1)
          (fun j d v hd hv => by
            simp only [List.getElem?_toArray] at hv
            rw [splice_get (by simpa using hfit)] at hv
            rw [splice_get e2'] at hd
            have hl2 : (a.eval x).cells.toList.length = (ρ x).cells.length := by simp [c1]
            rw [hl2] at hv
            split at hd
            · rename_i g; rw [if_pos g] at hv; exact h2 j d v hd (by simpa using hv)
            · rename_i g; rw [if_neg g] at hv
              split at hd
              · rename_i g'; rw [if_pos g'] at hv; exact c2 _ d v hd (by simpa using hv)
              · rename_i g'; rw [if_neg g'] at hv; exact h2 j d v hd (by simpa using hv))
          (by
            rw [unders_mem] at *
            intro d hd
            simp only [splice, List.mem_append] at hd
            rcases hd with (hd | hd) | hd
            · exact h3 d (List.mem_of_mem_take hd)
            · exact hcu d hd
            · exact h3 d (List.mem_of_mem_drop hd)) h
        exact ⟨r', by rw [List.map_cons, hstep]; exact g1, g2, g3, g4⟩

theorem res_build {t : TypeId} {parts : Array (Nat × Operand)} (ho : o.op = .build t parts) (h : HR M w0 μ L w) (hρ : Rho M μ L w ρ a) (hv : vcOp P M w0 dr ρ L o K) : OpRes P M w0 μ L w K o a := by
  simp only [vcOp, ho] at hv
  split at hv
  · rename_i z hz hs
    obtain ⟨i, v, hi, hv0, hzv⟩ := zero_of hz
    unfold structOk at hs
    cases hu : P.underlying t with
    | none => simp [hu] at hs
    | some d =>
      cases d <;> simp only [hu] at hs <;> try (cases hs; done)
      rename_i fs
      have hinf : ∀ f, f ∈ fs.toList → ((do pure (f.offset, ← sizeOf f.type) : Sem (Nat × Nat))).run P w = .ok (f.offset, szOf P f.type) w := by
        intro f hf
        obtain ⟨j, hj⟩ := Option.isSome_iff_exists.1 (List.all_eq_true.1 hs f hf)
        simp [run_szOf hj]
      have hm := mapM_run (P := P) (w := w) (fun f : Field => (do pure (f.offset, ← sizeOf f.type) : Sem (Nat × Nat))) (fun f => (f.offset, szOf P f.type)) fs.toList hinf
      have hrz : RelV (Tot M μ L) w μ L (.agg z) v := hzv ▸ relV_dvOf v
      have huz : DV.unders L.next z = true := by have := under_dvOf L.next v; rw [← hzv] at this; simpa [DV.under] using this
      cases hf : dfill P t z (parts.toList.map fun q => (q.1, ρ q.2)) with
      | none => simp [hf] at hv
      | some cs =>
        simp only [hf] at hv
        cases hrz with
        | agg _ vs h1 h2 =>
          obtain ⟨r, g1, g2, g3, g4⟩ := fill_rel (P := P) hu (fs.map fun f => (f.offset, szOf P f.type)) (fun i f hf => by simp [hf]) hρ.rel hρ.und parts.toList z cs ⟨vs⟩ (by simpa using h1) (fun i d v hd hv => h2 i d v hd (by simpa using hv)) huz hf
          refine .val (v := .agg r) (w' := w) ?_ (Out.id h (.agg cs r.toList (by simpa using g2) fun i d v hd hv => g3 i d v hd (by simpa using hv)) (by simpa [DV.under] using g4) hv)
          have hpl : (parts.map fun (x : Nat × Operand) => (x.1, a.eval x.2)).toList = parts.toList.map fun q => (q.1, a.eval q.2) := by simp
          have hmm : (fs.mapM fun f => (do pure (f.offset, ← sizeOf f.type) : Sem (Nat × Nat))).run P w = .ok (fs.map fun f => (f.offset, szOf P f.type)) w := by
            rw [Array.mapM_eq_mapM_toList, Sem.run_map, hm, Result.andThen_ok]
            congr 1
            apply Array.ext'
            simp
          rw [show execOp a.eval o = (do pure (Next.value (← Instr.build t (parts.map fun (x : Nat × Operand) => (x.1, a.eval x.2)))) : Sem Next) from by simp only [execOp, ho]]
          refine run_val ?_
          have hzr : (zeroValue t).run P w = .ok (.agg ⟨vs⟩) w := by simp [zeroValue, typeInfo, hi, hv0]
          simp only [Instr.build, Sem.run_bind, hzr, Result.andThen_ok, run_underlying hu, hmm, Value.cells]
          rw [hpl]
          simp only [g1, Sem.run_pure]
  · exact hv.elim

/-- Elements that lie side by side. -/
def RowAt (T : Nat → Prop) (w : World) (b off sz : Nat) (es : List PV) (val : Nat → Nat → Value) : Prop :=
  ∀ (i : Nat) p (j : Nat) q, es[i]? = some p → p.cells[j]? = some q → w.cell? ⟨b, off + i * sz + j, none⟩ = some (val i j) ∧ RelP T w q (val i j)

theorem cellsAll_iff {sz : Nat} {xs : List PV} (h : cellsAll sz xs = true) : ∀ p, p ∈ xs → p.cells.length = sz := by
  intro p hp
  have := List.all_eq_true.1 h p hp
  simp only [Bool.and_eq_true] at this
  exact beq_of this.1
theorem cellsAll_one {sz : Nat} {xs : List PV} (h : cellsAll sz xs = true) : ∀ p, p ∈ xs → ∀ q, q ∈ p.cells → q.one = true := by
  intro p hp
  have := List.all_eq_true.1 h p hp
  simp only [Bool.and_eq_true] at this
  exact List.all_eq_true.1 this.2

def rowVals (sz n : Nat) (val : Nat → Nat → Value) : List Value := (List.range (n * sz)).map fun m => val (m / sz) (m % sz)
theorem rowVals_len (sz n : Nat) (val : Nat → Nat → Value) : (rowVals sz n val).length = n * sz := by simp [rowVals]
theorem idx_lt {i n j sz : Nat} (hi : i < n) (hj : j < sz) : i * sz + j < n * sz := by
  have := Nat.mul_le_mul_right sz (Nat.succ_le_of_lt hi)
  rw [Nat.succ_mul] at this
  omega
theorem rowVals_get {sz n i j : Nat} (val : Nat → Nat → Value) (hi : i < n) (hj : j < sz) : (rowVals sz n val)[i * sz + j]? = some (val i j) := by
  unfold rowVals
  have h := idx_lt hi hj
  rw [List.getElem?_map, List.getElem?_range h]
  have hs : 0 < sz := by omega
  have h1 : (i * sz + j) / sz = i := by rw [Nat.mul_comm, Nat.mul_add_div hs, Nat.div_eq_of_lt hj]; omega
  have h2 : (i * sz + j) % sz = j := by rw [Nat.mul_comm, Nat.mul_add_mod, Nat.mod_eq_of_lt hj]
  simp [h1, h2]
theorem row_load {T : Nat → Prop} {b off sz : Nat} {es : List PV} {val : Nat → Nat → Value} (h : RowAt T w b off sz es val) (hc : ∀ p, p ∈ es → p.cells.length = sz) (w' : World) (hw : w'.heap = w.heap) :
    (loadCells ⟨b, off, none⟩ (es.length * sz)).run P w' = .ok (rowVals sz es.length val).toArray w' := by
  refine run_loadCells w' _ _ (fun m => val (m / sz) (m % sz)) fun m hm => ?_
  have hs : 0 < sz := by
    rcases Nat.eq_zero_or_pos sz with e | e
    · subst e; simp at hm
    · exact e
  have hi : m / sz < es.length := (Nat.div_lt_iff_lt_mul hs).2 hm
  have hj : m % sz < sz := Nat.mod_lt _ hs
  have hp : es[m / sz]? = some es[m / sz] := List.getElem?_eq_getElem hi
  have hl := hc _ (List.getElem_mem hi)
  have hq : (es[m / sz]).cells[m % sz]? = some ((es[m / sz]).cells[m % sz]'(by omega)) := List.getElem?_eq_getElem (by omega)
  have := (h _ _ _ _ hp hq).1
  rw [add_none]
  have hm' : m / sz * sz + m % sz = m := Nat.div_add_mod' m sz
  rw [Nat.add_assoc, hm'] at this
  rw [World.cell?_of_block (w := w) (by rw [hw])]
  exact this

/-- What is appended. -/
theorem src_rel {x : DV} {v : Value} {Kx : List PV → Prop} {sz : Nat} (h : HR M w0 μ L w) (hr : RelV (Tot M μ L) w μ L x v) (hx : srcOf x L Kx) (hsz : ∀ xs, Kx xs → cellsAll sz xs = true) :
    ∃ xs val, Kx xs ∧ (∀ w' : World, (Builtin.lenOf v).run P w' = .ok xs.length w') ∧ (∀ w' : World, w'.heap = w.heap → (Builtin.firstCells sz xs.length v).run P w' = .ok (rowVals sz xs.length val).toArray w') ∧
      ∀ (i : Nat) p (j : Nat) q, xs[i]? = some p → p.cells[j]? = some q → RelP (Tot M μ L) w q (val i j) := by
  have emp : ∀ a c, v = .slice a 0 c → Kx [] → ∃ xs val, Kx xs ∧ (∀ w' : World, (Builtin.lenOf v).run P w' = .ok xs.length w') ∧ (∀ w' : World, w'.heap = w.heap → (Builtin.firstCells sz xs.length v).run P w' = .ok (rowVals sz xs.length val).toArray w') ∧
      ∀ (i : Nat) p (j : Nat) q, xs[i]? = some p → p.cells[j]? = some q → RelP (Tot M μ L) w q (val i j) := by
    intro a c hv hk
    subst hv
    refine ⟨[], fun _ _ => undef, hk, fun w' => by simp [Builtin.lenOf], fun w' _ => ?_, fun i p j q hp _ => by simp at hp⟩
    cases a with
    | none => simp [Builtin.firstCells, rowVals]
    | some a => simp [Builtin.firstCells, rowVals, loadCells, loadCellsFrom]
  have row : ∀ b off cap (es : List PV) val, v = .slice (some ⟨b, off, none⟩) es.length cap → Kx es → RowAt (Tot M μ L) w b off sz es val → ∃ xs val, Kx xs ∧ (∀ w' : World, (Builtin.lenOf v).run P w' = .ok xs.length w') ∧ (∀ w' : World, w'.heap = w.heap → (Builtin.firstCells sz xs.length v).run P w' = .ok (rowVals sz xs.length val).toArray w') ∧
      ∀ (i : Nat) p (j : Nat) q, xs[i]? = some p → p.cells[j]? = some q → RelP (Tot M μ L) w q (val i j) := by
    intro b off cap es val hv hk hrow
    subst hv
    refine ⟨es, val, hk, fun w' => by simp [Builtin.lenOf], fun w' hw => ?_, fun i p j q hp hq => (hrow i p j q hp hq).2⟩
    simp only [Builtin.firstCells]
    exact row_load hrow (cellsAll_iff (hsz es hk)) w' hw
  have slc : ∀ l, RelP (Tot M μ L) w (.sl l) v → Kx l → ∃ xs val, Kx xs ∧ (∀ w' : World, (Builtin.lenOf v).run P w' = .ok xs.length w') ∧ (∀ w' : World, w'.heap = w.heap → (Builtin.firstCells sz xs.length v).run P w' = .ok (rowVals sz xs.length val).toArray w') ∧
      ∀ (i : Nat) p (j : Nat) q, xs[i]? = some p → p.cells[j]? = some q → RelP (Tot M μ L) w q (val i j) := by
    intro l hp hk
    generalize hlx : PV.sl l = pl at hp
    cases hp with
    | sl b off sz' cap l' val g1 g2 g3 g4 g5 g6 =>
      obtain rfl : l = l' := by cases hlx; rfl
      refine row b off cap l val rfl hk fun i p j q hp hq => ⟨?_, g6 i p j q hp hq⟩
      have e : sz' = sz := by rw [← g4 p (List.mem_of_getElem? hp), cellsAll_iff (hsz l hk) p (List.mem_of_getElem? hp)]
      subst e
      exact g5 i p j q hp hq
    | e0 a' c' => cases hlx; exact emp _ _ rfl hk
    | _ => cases hlx
  unfold srcOf at hx
  split at hx
  · exact emp _ _ (pvN hr) hx
  · cases hr; exact emp _ _ rfl hx
  · cases hr with
    | pv _ _ hp => exact slc _ hp hx
  · rename_i k n
    cases hk : L.get k with
    | none => simp [hk] at hx
    | some ob =>
      cases ob <;> simp only [hk] at hx
      case arr sz' es =>
        have hbuf : bufVal (μ k) n v := by
          cases hr with
          | buf _ _ _ g1 g2 g3 => exact (g2 sz' es hk).2 hx.1
        rcases hbuf with ⟨hc, h0, ad, he⟩ | ⟨hc, he⟩
        · have : es = [] := by rw [h0] at hx; exact List.length_eq_zero_iff.1 hx.1.symm
          subst this; exact emp _ _ he hx.2
        · rw [hx.1] at he
          rcases h.obj k _ hk with ⟨g0, g1⟩ | ⟨vs, ty, g0, g1, g2, g3, g4, g5⟩
          · exact absurd g0 hc
          · refine row _ 0 _ es (fun i j => (vs[i * sz + j]?).getD undef) he hx.2 fun i p j q hp hq => ?_
            have e : sz' = sz := by rw [← g4 p (List.mem_of_getElem? hp), cellsAll_iff (hsz es hx.2) p (List.mem_of_getElem? hp)]
            subst e
            obtain ⟨u, hu, hru⟩ := g5 i p j q hp hq
            simp [World.cell?, g1, hu, hru]
      case fz es => exact slc es (fz_relP h hk hr hx.1) hx.2
  · exact hx.elim

theorem run_append_more (t t2 ty e : TypeId) (i : TypeInfo) (z : Value) (ht : P.underlying t = some (.slice e)) (e2 : TypeId) (ht2 : P.underlying t2 = some (.slice e2)) (hi : P.info? e = some i) (hz : i.zero = some z)
    (base : Option Addr) (sLen sCap n : Nat) (x : Value) (olds news : Array Value) (hlen : (Builtin.lenOf x).run P w = .ok n w)
    (hfo : (Builtin.firstCells i.size sLen (.slice base sLen sCap)).run P w.drew = .ok olds w.drew) (hfn : (Builtin.firstCells i.size n x).run P w.drew = .ok news w.drew)
    (hg : sCap < sLen + n) (h63 : ((sLen + n : Nat) : Int) ≤ 9223372036854775807) (hfit : Builtin.nextslicecap (sLen + n) sCap * i.bytes ≤ 281474976710656) :
    (Builtin.append_ #[t, t2] ty #[.slice base sLen sCap, x]).run P w =
      .ok (.slice (some ⟨w.heap.size, 0, none⟩) (sLen + n) (grownCap w (sLen + n) sCap e))
        (w.drew.alloc (.cells (olds ++ news ++ Builtin.zeroCells z.cells (grownCap w (sLen + n) sCap e - (sLen + n))) e)) := by
  have hn : ¬ (sLen + n ≤ sCap) := by omega
  have h63' : ¬ (9223372036854775807 < ((sLen : Int) + (n : Int))) := by omega
  have h48' : ¬ (281474976710656 < Builtin.nextslicecap (sLen + n) sCap * i.bytes) := by omega
  simp [Builtin.append_, run_underlying ht, run_underlying ht2, sizeOf, typeInfo, zeroValue, hi, hz, hlen, hn, h63', h48', Question.forced, hfo, hfn, newRow, grownCap]
theorem run_append_here (t t2 ty e : TypeId) (i : TypeInfo) (ht : P.underlying t = some (.slice e)) (e2 : TypeId) (ht2 : P.underlying t2 = some (.slice e2)) (hi : P.info? e = some i)
    (base : Option Addr) (sLen sCap n : Nat) (x : Value) (news : Array Value) (hlen : (Builtin.lenOf x).run P w = .ok n w) (hfn : (Builtin.firstCells i.size n x).run P w = .ok news w)
    (hg : sLen + n ≤ sCap) (w' : World) (hst : (match base with | some b => storeCells (b.add (sLen * i.size)) news.toList | none => (pure () : Sem Unit)).run P w = .ok () w') :
    (Builtin.append_ #[t, t2] ty #[.slice base sLen sCap, x]).run P w = .ok (.slice base (sLen + n) sCap) w' := by
  cases base with
  | none =>
    simp at hst; subst hst
    simp [Builtin.append_, run_underlying ht, run_underlying ht2, sizeOf, typeInfo, hi, hlen, hg, hfn]
  | some b =>
    simp only at hst
    simp [Builtin.append_, run_underlying ht, run_underlying ht2, sizeOf, typeInfo, hi, hlen, hg, hfn, hst]
end
end Go.Dv
