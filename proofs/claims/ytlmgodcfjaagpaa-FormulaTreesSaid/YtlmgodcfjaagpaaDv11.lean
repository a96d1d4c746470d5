/- The layer Dv, part 11: append. -/
import Derived.Test.YtlmgodcfjaagpaaDv10
namespace Go.Dv
open Go.RowKit (Below)
section
variable {P : Program} {M : Nat → Prop} {w0 : World} {μ : Nat → Loc} {L : DH} {w : World} {a : Act} {ρ : Operand → DV} {K : DV → DH → Prop} {o : Oper} {dr : Bool}

/-- A row of elements, elements appended, and zeros. -/
theorem row_join {T : Nat → Prop} {sz : Nat} {es xs : List PV} {olds : List Value} {val : Nat → Nat → Value} (zs : List Value) (hes : ∀ p, p ∈ es → p.cells.length = sz) (hxs : ∀ p, p ∈ xs → p.cells.length = sz)
    (hol : olds.length = es.length * sz) (ho : ∀ (i : Nat) p (j : Nat) q, es[i]? = some p → p.cells[j]? = some q → ∃ v, olds[i * sz + j]? = some v ∧ RelP T w q v)
    (hx : ∀ (i : Nat) p (j : Nat) q, xs[i]? = some p → p.cells[j]? = some q → RelP T w q (val i j)) :
    ∀ (i : Nat) p (j : Nat) q, (es ++ xs)[i]? = some p → p.cells[j]? = some q → ∃ v, (olds ++ rowVals sz xs.length val ++ zs)[i * sz + j]? = some v ∧ RelP T w q v := by
  intro i p j q hp hq
  by_cases hi : i < es.length
  · rw [List.getElem?_append_left hi] at hp
    obtain ⟨v, hv, hr⟩ := ho i p j q hp hq
    have hj : j < sz := by rw [← hes p (List.mem_of_getElem? hp)]; exact getE_lt hq
    have hlt := idx_lt hi hj
    refine ⟨v, ?_, hr⟩
    rw [List.append_assoc, List.getElem?_append_left (by omega)]
    exact hv
  · rw [List.getElem?_append_right (by omega)] at hp
    have hil := getE_lt hp
    have hj : j < sz := by rw [← hxs p (List.mem_of_getElem? hp)]; exact getE_lt hq
    have hlt := idx_lt hil hj
    refine ⟨val (i - es.length) j, ?_, hx _ p j q hp hq⟩
    have he : i * sz + j - olds.length = (i - es.length) * sz + j := by
      rw [hol, Nat.sub_mul]
      have := Nat.mul_le_mul_right sz (Nat.le_of_not_lt hi)
      omega
    have hge : olds.length ≤ i * sz + j := by
      rw [hol]
      have := Nat.mul_le_mul_right sz (Nat.le_of_not_lt hi)
      omega
    rw [List.append_assoc, List.getElem?_append_right hge, he, List.getElem?_append_left (by rw [rowVals_len]; exact hlt), rowVals_get val hil hj]

theorem app_fit {n cap b : Nat} (hn : n ≤ 4294967296) (hb : b ≤ 4096) (hc : cap < n) : ((n : Nat) : Int) ≤ 9223372036854775807 ∧ Builtin.nextslicecap n cap * b ≤ 281474976710656 := by
  refine ⟨by omega, growslice_fits hc ?_⟩
  have := Nat.mul_le_mul hn hb
  omega

theorem grown_ge (need cap : Nat) (e : TypeId) : need ≤ grownCap w need cap e := by
  show need ≤ need + _ % _
  omega

theorem res_append {c : Call} {x y : Operand} {t t2 : TypeId} (ho : o.op = .call c) (hc : c.callee = .builtin .append) (ha : c.args = #[x, y]) (ht : c.argTypes = #[t, t2]) (h : HR M w0 μ L w) (hρ : Rho M μ L w ρ a)
    (hv : vcApp P t t2 (ρ x) (ρ y) L K) : OpRes P M w0 μ L w K o a := by
  have hx := hρ.rel x
  have hy := hρ.rel y
  unfold vcApp at hv
  cases he : elemT P t with
  | none => simp [he] at hv
  | some e =>
    cases ht2 : P.underlying t2 with
    | none => simp [he, ht2] at hv
    | some d2 =>
      cases d2 <;> simp only [he, ht2] at hv
      rename_i e2
      have hu := run_elem he
      split at hv
      case h_2 => exact hv.elim
      rename_i z hz hcnd
      simp only [Bool.and_eq_true] at hcnd
      obtain ⟨hzl, hv⟩ := hv
      obtain ⟨i, v0, hi, hv0, hzv⟩ := zero_of hz
      have hb4 : byOf P e ≤ 4096 := by simpa using hcnd.1.1
      have hs0 : szOf P e ≠ 0 := by intro e0; have := hcnd.2; rw [e0] at this; simp at this
      have hby : i.bytes = byOf P e := by simp [byOf, Program.bytesOf, hi]
      have hsz : i.size = szOf P e := by simp [szOf, Program.cellsOf, hi]
      have hzs : v0.cells.size = szOf P e := by
        rw [← hzl, hzv]
        unfold dvOf
        split
        · simp [DV.cells, Value.cells]
        · rename_i hna
          have e1 : v0.cells = #[v0] := by cases v0 <;> first | rfl | exact absurd rfl (hna _)
          rw [e1]
          unfold dv1
          split <;> rfl
      have run : ∀ v w', (Builtin.append_ #[t, t2] o.type #[a.eval x, a.eval y]).run P w = .ok v w' → (execOp a.eval o).run P w = .ok (.value v) w' := by
        intro v w' hr
        rw [run_bi ho hc, ha, ht]
        exact run_val (by simpa using hr)
      -- onto nothing
      have fresh : ∀ ad, a.eval x = .slice ad 0 0 → RelV (Tot M μ L) w μ L (ρ x) (a.eval x) → (ρ x).under L.next = true → (srcOf (ρ y) L fun xs => cellsAll (szOf P e) xs = true ∧ xs.length ≤ big ∧ (match xs with
          | [] => K (ρ x) L
          | _ :: _ => K (.buf L.next xs.length) (L.push (.arr (szOf P e) xs)))) → OpRes P M w0 μ L w K o a := by
        intro ad hxx hxr hxu hsrc
        obtain ⟨xs, val, ⟨hca, hbg, hK⟩, hlen, hfc, hrel⟩ := src_rel (P := P) (sz := szOf P e) h hy hsrc (fun xs hh => hh.1)
        have hcl := cellsAll_iff hca
        cases xs with
        | nil =>
          have hr := run_append_here (P := P) (w := w) t t2 o.type e i hu e2 ht2 hi ad 0 0 0 (a.eval y) _ (hlen w) (by rw [hsz]; exact hfc w rfl) (by omega) w (by cases ad <;> simp [rowVals, storeCells])
          refine .val (run _ _ (by rw [hxx]; exact hr)) (Out.id h ?_ hxu hK)
          rw [← hxx]; exact hxr
        | cons p r =>
          have hn : (p :: r).length ≤ 4294967296 := hbg
          obtain ⟨f1, f2⟩ := app_fit (cap := 0) hn hb4 (by simp)
          have hr := run_append_more (P := P) (w := w) t t2 o.type e i v0 hu e2 ht2 hi hv0 ad 0 0 (p :: r).length (a.eval y) #[] _ (hlen w) (by cases ad <;> simp [Builtin.firstCells, loadCells, loadCellsFrom]) (by rw [hsz]; exact hfc w.drew rfl) (by simp) (by rw [Nat.zero_add]; exact f1) (by rw [Nat.zero_add, hby]; exact f2)
          rw [Nat.zero_add] at hr
          have hge := grown_ge (w := w) (p :: r).length 0 e
          have hpos : 0 < (p :: r).length := by simp
          obtain ⟨hs, hr'⟩ := h.new (w1 := w.drew) (.arr (szOf P e) (p :: r)) ⟨w.heap.size, grownCap w (p :: r).length 0 e⟩ (.cells (#[] ++ (rowVals (szOf P e) (p :: r).length val).toArray ++ Builtin.zeroCells v0.cells (grownCap w (p :: r).length 0 e - (p :: r).length)) e) ⟨rfl, rfl, rfl, rfl⟩ rfl rfl (fun hs => by
            refine .inr ⟨_, e, by rw [updμ_same]; simp only; omega, by rw [updμ_same]; exact heap_push_new w.drew _, by rw [updμ_same]; exact hge, ?_, hcl, ?_⟩
            · rw [updμ_same]
              simp only [Array.size_append, List.size_toArray, rowVals_len, size_zeroCells, hzs, List.length_nil, Nat.zero_add]
              rw [← Nat.add_mul]
              exact Nat.mul_le_mul_right _ (by omega)
            · intro i' p' j q hp' hq
              obtain ⟨v, hv, hrr⟩ := row_join (T := Tot M μ L) (w := w) (es := []) (olds := []) (Builtin.zeroCells v0.cells (grownCap w (p :: r).length 0 e - (p :: r).length)).toList (by simp) hcl (by simp) (by simp) hrel i' p' j q hp' hq
              refine ⟨v, ?_, hrr.stp hs⟩
              rw [← Array.getElem?_toList]
              simpa using hv)
          refine .val (run _ _ (by rw [hxx]; exact hr)) ⟨_, .buf L.next _, _, hK, hr', ?_, ?_, hs⟩
          · refine .buf _ _ _ ⟨_, _, rfl⟩ (fun sz' es' hk' => ?_) (fun es' hk' => ?_)
            · rw [DH.push_same] at hk'; cases hk'
              refine ⟨Nat.le_refl _, fun _ => .inr ⟨?_, ?_⟩⟩
              · rw [updμ_same]; simp only; omega
              · rw [updμ_same]
            · rw [DH.push_same] at hk'; cases hk'
          · simp [DV.under, DH.push, Nat.blt_eq]
      have hxu := hρ.und x
      generalize hdx : ρ x = dx at hv hx fresh hxu
      split at hv
      · exact fresh none (pvN hx) hx hxu hv
      · generalize hxx : a.eval x = vx at hx
        cases hx
        exact fresh _ hxx (hxx ▸ .e0 _) hxu hv
      · rename_i k n
        cases hk : L.get k with
        | none => simp [hk] at hv
        | some ob =>
          cases ob <;> simp only [hk] at hv
          case arr sz es =>
            generalize hcc : (Nat.beq sz (szOf P e) && Nat.ble L.lo k && notKey (ρ y) k) = cc at hv
            cases cc with
            | false => exact hv.elim
            | true =>
              simp only [Bool.and_eq_true] at hcc
              obtain ⟨⟨c1, c2⟩, c3⟩ := hcc
              have hsze : sz = szOf P e := beq_of c1
              subst hsze
              have hlo : L.lo ≤ k := by simpa using c2
              obtain ⟨hn, hsrc⟩ := hv
              obtain ⟨xs, val, ⟨hca, hbg, hK⟩, hlen, hfc, hrel⟩ := src_rel (P := P) (sz := szOf P e) h hy hsrc (fun xs hh => hh.1)
              have hcl := cellsAll_iff hca
              have hbg' : es.length + xs.length ≤ 4294967296 := hbg
              have hkn := (h.keys k _ hk).1
              have hbuf : bufVal (μ k) n (a.eval x) := by
                cases hx with
                | buf _ _ _ g1 g2 g3 => exact (g2 _ es hk).2 hn
              have hecl : ∀ p, p ∈ es → p.cells.length = szOf P e := fun p hp => by
                obtain ⟨j, hj⟩ := List.mem_iff_getElem?.1 hp
                exact (arr_cells h hk hj).2.1
              have hacl : ∀ p, p ∈ es ++ xs → p.cells.length = szOf P e := fun p hp => by
                rcases List.mem_append.1 hp with hp | hp
                · exact hecl p hp
                · exact hcl p hp
              have hbelow : (DV.buf k (es ++ xs).length).under (L.put k (.arr (szOf P e) (es ++ xs))).next = true := by
                simpa [DV.under, DH.put, Nat.blt_eq] using hkn
              have hrv : ∀ (w1 : World) (m' : Loc) v, bufVal m' (es ++ xs).length v → (∃ ad cap, v = .slice ad (es ++ xs).length cap) → RelV (Tot M (updμ μ k m') (L.put k (.arr (szOf P e) (es ++ xs)))) w1 (updμ μ k m') (L.put k (.arr (szOf P e) (es ++ xs))) (.buf k (es ++ xs).length) v := by
                intro w1 m' v hb h1
                refine .buf _ _ _ h1 (fun sz' es' hk' => ?_) (fun es' hk' => ?_)
                · rw [DH.put_same] at hk'; cases hk'; exact ⟨Nat.le_refl _, fun _ => by rw [updμ_same]; exact hb⟩
                · rw [DH.put_same] at hk'; cases hk'
              by_cases hfit : es.length + xs.length ≤ (μ k).cap
              · -- there is room
                rcases hbuf with ⟨hc0, h0, ad, hxx⟩ | ⟨hc0, hxx⟩
                · have hxe : xs = [] := List.length_eq_zero_iff.1 (by omega)
                  have hee : es = [] := List.length_eq_zero_iff.1 (by omega)
                  subst hxe; subst hee
                  have hr := run_append_here (P := P) (w := w) t t2 o.type e i hu e2 ht2 hi ad 0 0 0 (a.eval y) _ (hlen w) (by rw [hsz]; exact hfc w rfl) (by omega) w (by cases ad <;> simp [rowVals, storeCells])
                  obtain ⟨hs, hr'⟩ := h.upd (L' := L.put k (.arr (szOf P e) ([] ++ []))) (w' := w) k (.arr (szOf P e) ([] ++ [])) (μ k) (DH.put_same L k _) (fun j hj => DH.put_ne L _ hj) (Nat.le_refl _) rfl rfl hkn rfl rfl rfl rfl (Nat.le_refl _) (fun _ _ _ => rfl) (fun _ _ _ _ _ => rfl)
                    (fun hl => absurd hc0 hl) (fun _ => ⟨(fun _ e => by cases e), (fun _ e => by cases e), (fun _ _ e => by cases e; exact ⟨[], hk, .inr ⟨rfl, rfl⟩⟩), (fun _ e => by cases e)⟩) (fun _ => .inl ⟨by rw [updμ_same]; exact hc0, rfl⟩)
                  exact .val (run _ _ (by rw [hxx]; exact hr)) ⟨_, _, _, hK, hr', hrv w (μ k) _ (.inl ⟨hc0, rfl, ad, rfl⟩) ⟨_, _, rfl⟩, hbelow, hs⟩
                · rcases h.obj k _ hk with ⟨g0, _⟩ | ⟨vs, ty, g0, g1, g2, g3, g4, g5⟩
                  · exact absurd g0 hc0
                  · have hcap : (es.length + xs.length) * szOf P e ≤ vs.size := Nat.le_trans (Nat.mul_le_mul_right _ hfit) g3
                    rw [Nat.add_mul] at hcap
                    have hst := run_storeCells_at (P := P) (μ k).blk (es.length * szOf P e) ty (rowVals (szOf P e) xs.length val) 0 vs w g1 (by rw [rowVals_len]; omega) (by
                      intro u hu
                      obtain ⟨m, hm⟩ := List.mem_iff_getElem?.1 hu
                      have hml := getE_lt hm
                      rw [rowVals_len] at hml
                      have hs : 0 < szOf P e := by omega
                      have h1 : m / szOf P e < xs.length := (Nat.div_lt_iff_lt_mul hs).2 hml
                      have h2 : m % szOf P e < szOf P e := Nat.mod_lt _ hs
                      have h3 := rowVals_get val h1 h2
                      rw [Nat.div_add_mod'] at h3
                      rw [h3] at hm
                      obtain rfl := Option.some.inj hm
                      have hp : xs[m / szOf P e]? = some xs[m / szOf P e] := List.getElem?_eq_getElem h1
                      have hl := hcl _ (List.getElem_mem h1)
                      have hq : (xs[m / szOf P e]).cells[m % szOf P e]? = some ((xs[m / szOf P e]).cells[m % szOf P e]'(by omega)) := List.getElem?_eq_getElem (by omega)
                      have hrq := hrel _ _ _ _ hp hq
                      -- a cell's value is one cell: the element's own cells are flat
                      exact one_valP hrq (cellsAll_one hca _ (List.getElem_mem h1) _ (List.getElem_mem (by omega))))
                    have hr := run_append_here (P := P) (w := w) t t2 o.type e i hu e2 ht2 hi (some ⟨(μ k).blk, 0, none⟩) n (μ k).cap xs.length (a.eval y) _ (hlen w) (by rw [hsz]; exact hfc w rfl) (by omega) _ (by
                      simp only [add_none, Nat.zero_add, hn, hsz]
                      simp only [Nat.add_zero] at hst
                      exact hst)
                    have hvs : (vs.toList.take (es.length * szOf P e)).length = es.length * szOf P e := by simp; omega
                    obtain ⟨hs, hr'⟩ := h.write (w' := w.setRow (μ k).blk (vs.toList.take (es.length * szOf P e) ++ rowVals (szOf P e) xs.length val ++ vs.toList.drop (es.length * szOf P e + (rowVals (szOf P e) xs.length val).length)).toArray) k _ (.arr (szOf P e) (es ++ xs)) hk hc0 hlo rfl rfl rfl rfl (setRow_size _ _ _).symm
                      (fun b hb => setRow_other w _ _ _ hb) ⟨(fun _ e => by cases e), (fun _ e => by cases e), (fun _ _ e => by
                        cases e
                        refine ⟨es, hk, ?_⟩
                        cases xs with
                        | nil => exact .inr ⟨by simp, rfl⟩
                        | cons => exact .inl (by simp)), (fun _ e => by cases e)⟩ (fun hs => by
                        refine .inr ⟨_, ty, by rw [updμ_same]; exact hc0, by rw [updμ_same]; exact setRow_heap w _ _ _ ty _ g1, by rw [updμ_same]; simpa using hfit, ?_, hacl, ?_⟩
                        · rw [updμ_same]
                          simp only [List.size_toArray, List.length_append, hvs, rowVals_len, List.length_drop, Array.length_toList]
                          omega
                        · intro i' p' j q hp' hq
                          obtain ⟨v, hv, hrr⟩ := row_join (T := Tot M μ L) (w := w) (vs.toList.drop (es.length * szOf P e + (rowVals (szOf P e) xs.length val).length)) hecl hcl hvs (fun i p j q hp hq => by
                            obtain ⟨v, hv, hr⟩ := g5 i p j q hp hq
                            have hlt := idx_lt (getE_lt hp) (by rw [← hecl p (List.mem_of_getElem? hp)]; exact getE_lt hq : j < szOf P e)
                            refine ⟨v, ?_, hr⟩
                            rw [List.getElem?_take, if_pos hlt]
                            simpa using hv) hrel i' p' j q hp' hq
                          refine ⟨v, ?_, hrr.stp hs⟩
                          simpa using hv)
                    refine .val (run _ _ (by rw [hxx]; exact hr)) ⟨_, _, _, hK, hr', hrv _ (μ k) _ (.inr ⟨hc0, ?_⟩) ⟨_, _, by rw [List.length_append, ← hn]⟩, hbelow, hs⟩
                    simp [hn]
              · -- a new array
                have hcap : (μ k).cap < es.length + xs.length := by omega
                obtain ⟨f1, f2⟩ := app_fit (cap := (μ k).cap) hbg' hb4 hcap
                -- the old elements
                have hold : ∃ (ad : Option Addr) (olds : List Value), a.eval x = .slice ad es.length (μ k).cap ∧ (Builtin.firstCells (szOf P e) es.length (.slice ad es.length (μ k).cap)).run P w.drew = .ok olds.toArray w.drew ∧ olds.length = es.length * szOf P e ∧
                    ∀ (i : Nat) p (j : Nat) q, es[i]? = some p → p.cells[j]? = some q → ∃ v, olds[i * szOf P e + j]? = some v ∧ RelP (Tot M μ L) w q v := by
                  rcases hbuf with ⟨hc0, h0, ad, hxx⟩ | ⟨hc0, hxx⟩
                  · have hee : es = [] := List.length_eq_zero_iff.1 (by omega)
                    subst hee
                    refine ⟨ad, [], by rw [hxx, hc0]; rfl, ?_, by simp, fun i p j q hp _ => by simp at hp⟩
                    cases ad <;> simp [Builtin.firstCells, loadCells, loadCellsFrom]
                  · rcases h.obj k _ hk with ⟨g0, _⟩ | ⟨vs, ty, g0, g1, g2, g3, g4, g5⟩
                    · exact absurd g0 hc0
                    · have hrow : RowAt (Tot M μ L) w (μ k).blk 0 (szOf P e) es (fun i j => (vs[i * szOf P e + j]?).getD undef) := by
                        intro i p j q hp hq
                        obtain ⟨v, hv, hr⟩ := g5 i p j q hp hq
                        simp [World.cell?, g1, hv, hr]
                      refine ⟨some ⟨(μ k).blk, 0, none⟩, rowVals (szOf P e) es.length (fun i j => (vs[i * szOf P e + j]?).getD undef), by rw [hxx, hn], ?_, rowVals_len _ _ _, fun i p j q hp hq => ?_⟩
                      · simp only [Builtin.firstCells]
                        exact row_load hrow hecl w.drew rfl
                      · have hj : j < szOf P e := by rw [← hecl p (List.mem_of_getElem? hp)]; exact getE_lt hq
                        exact ⟨_, rowVals_get _ (getE_lt hp) hj, (hrow i p j q hp hq).2⟩
                obtain ⟨ad, olds, hxx, hfo, hol, hor⟩ := hold
                have hr := run_append_more (P := P) (w := w) t t2 o.type e i v0 hu e2 ht2 hi hv0 ad es.length (μ k).cap xs.length (a.eval y) olds.toArray _ (hlen w) (by rw [hsz]; exact hfo) (by rw [hsz]; exact hfc w.drew rfl) hcap f1 (by rw [hby]; exact f2)
                have hge := grown_ge (w := w) (es.length + xs.length) (μ k).cap e
                have hold' : ∀ b, b < w.heap.size → (w.drew.alloc (.cells (olds.toArray ++ (rowVals (szOf P e) xs.length val).toArray ++ Builtin.zeroCells v0.cells (grownCap w (es.length + xs.length) (μ k).cap e - (es.length + xs.length))) e)).heap[b]? = w.heap[b]? := fun b hb => heap_push_old w.drew _ hb
                obtain ⟨hs, hr'⟩ := h.upd (L' := L.put k (.arr (szOf P e) (es ++ xs))) (w' := w.drew.alloc (.cells (olds.toArray ++ (rowVals (szOf P e) xs.length val).toArray ++ Builtin.zeroCells v0.cells (grownCap w (es.length + xs.length) (μ k).cap e - (es.length + xs.length))) e)) k (.arr (szOf P e) (es ++ xs)) ⟨w.heap.size, grownCap w (es.length + xs.length) (μ k).cap e⟩
                  (DH.put_same L k _) (fun j hj => DH.put_ne L _ hj) (Nat.le_refl _) rfl rfl hkn rfl rfl rfl rfl (by simp) (fun b hb _ => hold' b hb) (fun j ob _ hj hl => hold' _ (h.live j ob hj hl).1)
                  (fun _ => .inr ⟨Nat.le_refl _, by simp⟩) (fun _ => ⟨(fun _ e => by cases e), (fun _ e => by cases e), (fun _ _ e => by
                    cases e
                    refine ⟨es, hk, .inl ?_⟩
                    have : es.length ≤ (μ k).cap := by
                      rcases h.obj k _ hk with ⟨g0, g1⟩ | ⟨vs, ty, g0, g1, g2, g3, g4, g5⟩
                      · subst g1; simp
                      · exact g2
                    simp only [List.length_append]; omega), (fun _ e => by cases e)⟩) (fun hs => by
                    refine .inr ⟨_, e, by rw [updμ_same]; simp only; omega, by rw [updμ_same]; exact heap_push_new w.drew _, by rw [updμ_same]; simpa using hge, ?_, hacl, ?_⟩
                    · rw [updμ_same]
                      simp only [Array.size_append, List.size_toArray, rowVals_len, size_zeroCells, hzs, hol]
                      rw [← Nat.add_mul, ← Nat.add_mul]
                      exact Nat.mul_le_mul_right _ (by omega)
                    · intro i' p' j q hp' hq
                      obtain ⟨v, hv, hrr⟩ := row_join (T := Tot M μ L) (w := w) (Builtin.zeroCells v0.cells (grownCap w (es.length + xs.length) (μ k).cap e - (es.length + xs.length))).toList hecl hcl hol hor hrel i' p' j q hp' hq
                      refine ⟨v, ?_, hrr.stp hs⟩
                      rw [← Array.getElem?_toList]
                      simpa using hv)
                refine .val (run _ _ (by rw [hxx]; exact hr)) ⟨_, _, _, hK, hr', hrv _ _ _ (.inr ⟨by simp only; omega, ?_⟩) ⟨_, _, by rw [List.length_append, ← hn]⟩, hbelow, hs⟩
                simp
          all_goals exact hv.elim
      · exact hv.elim
end
end Go.Dv
