/- The layer Dv, part 4: one object of the heap turns, all else stays. -/
import Derived.Test.YtlmgodcfjaagpaaDv3
namespace Go.Dv
open Go.RowKit (Below)

theorem getE_lt {α : Type} {l : List α} {i : Nat} {x : α} (h : l[i]? = some x) : i < l.length := by
  rcases Nat.lt_or_ge i l.length with h' | h'
  · exact h'
  · rw [List.getElem?_eq_none h'] at h; cases h

theorem add_none (b o j : Nat) : (⟨b, o, none⟩ : Addr).add j = ⟨b, o + j, none⟩ := by
  unfold Addr.add
  split
  · rename_i h; subst h; rfl
  · rfl

theorem DObj.under_mono {n m : Nat} (h : n ≤ m) (o : DObj) (ho : o.under n = true) : o.under m = true := by
  cases o with
  | var cs => exact DV.unders_mono h cs ho
  | _ => rfl

theorem ObjRel.stp {M : Nat → Prop} {L L' : DH} {μ μ' : Nat → Loc} {w w' : World} {k : Nat} {o : DObj} (h : ObjRel (Tot M μ L) w μ L k o) (hs : Stp L μ w L' μ' w')
    (hμ : μ' k = μ k) (hb : liveAt (μ k) o → w'.heap[(μ k).blk]? = w.heap[(μ k).blk]?) (hu : o.under L.next = true) : ObjRel (Tot M μ' L') w' μ' L' k o := by
  cases o with
  | var cs =>
    obtain ⟨vs, ty, h1, h2, h3⟩ := h
    refine ⟨vs, ty, by rw [hμ, hb trivial]; exact h1, h2, fun i d v hi hv => (h3 i d v hi hv).stp hs (unders_iff.1 hu i d hi)⟩
  | arr sz es =>
    rcases h with ⟨h1, h2⟩ | ⟨vs, ty, h0, h1, h2, h3, h4, h5⟩
    · exact .inl ⟨by rw [hμ]; exact h1, h2⟩
    · refine .inr ⟨vs, ty, by rw [hμ]; exact h0, by rw [hμ, hb h0]; exact h1, by rw [hμ]; exact h2, by rw [hμ]; exact h3, h4, fun i p j q hi hj => ?_⟩
      obtain ⟨v, hv, hr⟩ := h5 i p j q hi hj
      exact ⟨v, hv, hr.stp hs⟩
  | fz l =>
    rcases h with ⟨h1, h2⟩ | ⟨h1, h2, h3⟩
    · exact .inl ⟨by rw [hμ]; exact h1, h2⟩
    · refine .inr ⟨by rw [hμ]; exact h1, by rw [hμ]; exact h2, ?_⟩
      rw [hμ]; exact h3.stp hs
  | mp es =>
    obtain ⟨ents, clock, h1, h2, h3⟩ := h
    exact ⟨ents, clock, by rw [hμ, hb trivial]; exact h1, h2, fun i kv e hi he => ⟨(h3 i kv e hi he).1.stp hs, (h3 i kv e hi he).2.stp hs⟩⟩

/-- How one object may turn. -/
structure EvoAt (L : DH) (k : Nat) (o' : DObj) (m m' : Loc) : Prop where
  var : ∀ cs', o' = .var cs' → ∃ cs, L.get k = some (.var cs) ∧ m' = m
  mp : ∀ es', o' = .mp es' → ∃ es, L.get k = some (.mp es) ∧ m' = m
  arr : ∀ sz es', o' = .arr sz es' → ∃ es, L.get k = some (.arr sz es) ∧ (es.length < es'.length ∨ (es.length = es'.length ∧ m' = m))
  fz : ∀ es', o' = .fz es' → (L.get k = some (.fz es') ∧ m' = m) ∨ ∃ sz es, L.get k = some (.arr sz es) ∧ (∀ q, q ∈ es' → q.cells.length = sz) ∧ (es.length < es'.length ∨ (es.length = es'.length ∧ m' = m))

def updμ (μ : Nat → Loc) (k : Nat) (m : Loc) : Nat → Loc := fun j => if j = k then m else μ j
theorem updμ_same (μ : Nat → Loc) (k : Nat) (m : Loc) : updμ μ k m k = m := by simp [updμ]
theorem updμ_ne (μ : Nat → Loc) {k j : Nat} (m : Loc) (h : j ≠ k) : updμ μ k m j = μ j := by simp [updμ, h]

theorem HR.upd {M : Nat → Prop} {w0 : World} {μ : Nat → Loc} {L L' : DH} {w w' : World} (h : HR M w0 μ L w) (k : Nat) (o' : DObj) (m' : Loc)
    (hg : L'.get k = some o') (hg' : ∀ j, j ≠ k → L'.get j = L.get j) (hn : L.next ≤ L'.next) (hlo : L'.lo = L.lo) (hb : L'.base = L.base)
    (hk : k < L'.next) (hu : o'.under L'.next = true)
    (hos : w'.os = w.os) (htape : w'.tape = w.tape) (hout : w'.output = w.output) (hsz : w.heap.size ≤ w'.heap.size)
    (hsame : ∀ b, b < w.heap.size → ¬ Wbl μ L b → w'.heap[b]? = w.heap[b]?)
    (hother : ∀ j o, j ≠ k → L.get j = some o → liveAt (μ j) o → w'.heap[(μ j).blk]? = w.heap[(μ j).blk]?)
    (hm : liveAt m' o' → (k < L.next ∧ (∃ o, L.get k = some o ∧ liveAt (μ k) o) ∧ m'.blk = (μ k).blk) ∨ (w.heap.size ≤ m'.blk ∧ m'.blk < w'.heap.size))
    (hevo : k < L.next → EvoAt L k o' (μ k) m')
    (hobj : Stp L μ w L' (updμ μ k m') w' → ObjRel (Tot M (updμ μ k m') L') w' (updμ μ k m') L' k o') :
    Stp L μ w L' (updμ μ k m') w' ∧ HR M w0 (updμ μ k m') L' w' := by
  have hstp : Stp L μ w L' (updμ μ k m') w' := by
    refine ⟨⟨?_, ?_, ?_, ?_⟩, hos, htape, hout, hsz, hsame, ?_, hn, hlo, hb⟩
    · intro j cs' hj hc
      by_cases e : j = k
      · subst e; rw [hg] at hc; rw [updμ_same]; exact (hevo hj).var cs' (Option.some.inj hc)
      · rw [hg' j e] at hc; exact ⟨cs', hc, updμ_ne μ m' e⟩
    · intro j cs' hj hc
      by_cases e : j = k
      · subst e; rw [hg] at hc; rw [updμ_same]; exact (hevo hj).mp cs' (Option.some.inj hc)
      · rw [hg' j e] at hc; exact ⟨cs', hc, updμ_ne μ m' e⟩
    · intro j sz es' hj hc
      by_cases e : j = k
      · subst e; rw [hg] at hc; rw [updμ_same]; exact (hevo hj).arr sz es' (Option.some.inj hc)
      · rw [hg' j e] at hc; exact ⟨es', hc, .inr ⟨rfl, updμ_ne μ m' e⟩⟩
    · intro j es' hj hc
      by_cases e : j = k
      · subst e; rw [hg] at hc; rw [updμ_same]; exact (hevo hj).fz es' (Option.some.inj hc)
      · rw [hg' j e] at hc; exact .inl ⟨hc, updμ_ne μ m' e⟩
    · intro j o hj hl
      by_cases e : j = k
      · subst e; rw [hg] at hj; obtain rfl := Option.some.inj hj; rw [updμ_same] at hl ⊢
        rcases hm hl with h1 | h1
        · exact .inl h1
        · exact .inr h1.1
      · rw [hg' j e] at hj; rw [updμ_ne μ m' e] at hl ⊢; exact .inl ⟨(h.keys j o hj).1, ⟨o, hj, hl⟩, rfl⟩
  refine ⟨hstp, ?_, ?_, ?_, ?_, ?_, ?_, ?_, ?_⟩
  · refine h.ext.trans ⟨hos, htape, hout, hsz, fun b hb => ?_⟩
    refine hsame b (Nat.lt_of_lt_of_le hb h.ext.size) ?_
    rintro ⟨j, o, h1, h2, h3, rfl⟩
    have := (h.live j o h2 h3).2.2 h1
    omega
  · exact fun b hb => Nat.lt_of_lt_of_le (h.mlt b hb) hsz
  · intro j o hj
    by_cases e : j = k
    · subst e; rw [hg] at hj; obtain rfl := Option.some.inj hj; exact ⟨hk, hu⟩
    · rw [hg' j e] at hj
      exact ⟨Nat.lt_of_lt_of_le (h.keys j o hj).1 hn, DObj.under_mono hn o (h.keys j o hj).2⟩
  · intro j o hj hl
    by_cases e : j = k
    · subst e; rw [hg] at hj; obtain rfl := Option.some.inj hj; rw [updμ_same] at hl ⊢
      rcases hm hl with ⟨h1, ⟨o0, h2, h3⟩, h4⟩ | ⟨h1, h2⟩
      · rw [h4, hlo]
        have h5 := h.live j o0 h2 h3
        exact ⟨Nat.lt_of_lt_of_le h5.1 hsz, h5.2.1, h5.2.2⟩
      · exact ⟨h2, fun hM => by have := h.mlt _ hM; omega, fun _ => Nat.le_trans h.ext.size h1⟩
    · rw [hg' j e] at hj; rw [updμ_ne μ m' e] at hl ⊢
      have h5 := h.live j o hj hl
      exact ⟨Nat.lt_of_lt_of_le h5.1 hsz, h5.2.1, by rw [hlo]; exact h5.2.2⟩
  · intro j o j' o2 hj hl hj' hl' he
    by_cases e : j = k <;> by_cases e' : j' = k
    · rw [e, e']
    · subst e; rw [hg] at hj; obtain rfl := Option.some.inj hj; rw [updμ_same] at hl he
      rw [hg' j' e'] at hj'; rw [updμ_ne μ m' e'] at hl' he
      rcases hm hl with ⟨h1, ⟨o0, h2, h3⟩, h4⟩ | ⟨h1, h2⟩
      · exact h.inj j o0 j' o2 h2 h3 hj' hl' (by rw [← h4]; exact he)
      · have := (h.live j' o2 hj' hl').1; omega
    · subst e'; rw [hg] at hj'; obtain rfl := Option.some.inj hj'; rw [updμ_same] at hl' he
      rw [hg' j e] at hj; rw [updμ_ne μ m' e] at hl he
      rcases hm hl' with ⟨h1, ⟨o0, h2, h3⟩, h4⟩ | ⟨h1, h2⟩
      · exact h.inj j o j' o0 hj hl h2 h3 (by rw [← h4]; exact he)
      · have := (h.live j o hj hl).1; omega
    · rw [hg' j e] at hj; rw [updμ_ne μ m' e] at hl he
      rw [hg' j' e'] at hj'; rw [updμ_ne μ m' e'] at hl' he
      exact h.inj j o j' o2 hj hl hj' hl' he
  · intro j o hj
    by_cases e : j = k
    · subst e; rw [hg] at hj; obtain rfl := Option.some.inj hj; exact hobj hstp
    · rw [hg' j e] at hj
      exact (h.obj j o hj).stp hstp (updμ_ne μ m' e) (hother j o e hj) (h.keys j o hj).2
  · rw [hb]; exact Nat.le_trans h.base hn
  · rw [hlo]; exact Nat.le_trans h.lob hn

theorem DH.put_same (L : DH) (k : Nat) (o : DObj) : (L.put k o).get k = some o := by simp [DH.put]
theorem DH.put_ne (L : DH) {k j : Nat} (o : DObj) (h : j ≠ k) : (L.put k o).get j = L.get j := by
  have : Nat.beq j k = false := by
    cases hb : Nat.beq j k with
    | false => rfl
    | true => exact absurd (Nat.eq_of_beq_eq_true hb) h
  simp only [DH.put, this, cond_false]
theorem DH.push_same (L : DH) (o : DObj) : (L.push o).get L.next = some o := by simp [DH.push]
theorem DH.push_ne (L : DH) {j : Nat} (o : DObj) (h : j ≠ L.next) : (L.push o).get j = L.get j := by
  have : Nat.beq j L.next = false := by
    cases hb : Nat.beq j L.next with
    | false => rfl
    | true => exact absurd (Nat.eq_of_beq_eq_true hb) h
  simp only [DH.push, this, cond_false]

theorem heap_push_old (w : World) (o : Obj) {b : Nat} (h : b < w.heap.size) : (w.alloc o).heap[b]? = w.heap[b]? := Below.heap_alloc w o b h
theorem heap_push_new (w : World) (o : Obj) : (w.alloc o).heap[w.heap.size]? = some o := heap_alloc_new w o

/-- A new object in a new block. -/
theorem HR.new {M : Nat → Prop} {w0 : World} {μ : Nat → Loc} {L : DH} {w w1 : World} (h : HR M w0 μ L w) (o' : DObj) (m' : Loc) (ob : Obj)
    (hw : w1.heap = w.heap ∧ w1.os = w.os ∧ w1.tape = w.tape ∧ w1.output = w.output) (hm : m'.blk = w.heap.size) (hu : o'.under (L.next + 1) = true)
    (hobj : Stp L μ w (L.push o') (updμ μ L.next m') (w1.alloc ob) → ObjRel (Tot M (updμ μ L.next m') (L.push o')) (w1.alloc ob) (updμ μ L.next m') (L.push o') L.next o') :
    Stp L μ w (L.push o') (updμ μ L.next m') (w1.alloc ob) ∧ HR M w0 (updμ μ L.next m') (L.push o') (w1.alloc ob) := by
  obtain ⟨hh, h1, h2, h3⟩ := hw
  have hold : ∀ b, b < w.heap.size → (w1.alloc ob).heap[b]? = w.heap[b]? := fun b hb => by rw [heap_push_old w1 ob (by rw [hh]; exact hb), hh]
  refine h.upd L.next o' m' (DH.push_same L o') (fun j hj => DH.push_ne L o' hj) (Nat.le_succ _) rfl rfl (Nat.lt_succ_self _) hu h1 h2 h3 (by simp [hh]) (fun b hb _ => hold b hb)
    (fun j o _ hj hl => hold _ (h.live j o hj hl).1) (fun _ => .inr ⟨by omega, by simp [hh, hm]⟩) (fun hlt => absurd hlt (Nat.lt_irrefl _)) hobj

/-- An object is written in its own block. -/
theorem HR.write {M : Nat → Prop} {w0 : World} {μ : Nat → Loc} {L : DH} {w w' : World} (h : HR M w0 μ L w) (k : Nat) (o o' : DObj)
    (hk : L.get k = some o) (hl : liveAt (μ k) o) (hlo : L.lo ≤ k) (hu : o'.under L.next = true)
    (hos : w'.os = w.os) (htape : w'.tape = w.tape) (hout : w'.output = w.output) (hsz : w.heap.size = w'.heap.size)
    (hsame : ∀ b, b ≠ (μ k).blk → w'.heap[b]? = w.heap[b]?) (hevo : EvoAt L k o' (μ k) (μ k))
    (hobj : Stp L μ w (L.put k o') (updμ μ k (μ k)) w' → ObjRel (Tot M (updμ μ k (μ k)) (L.put k o')) w' (updμ μ k (μ k)) (L.put k o') k o') :
    Stp L μ w (L.put k o') (updμ μ k (μ k)) w' ∧ HR M w0 (updμ μ k (μ k)) (L.put k o') w' := by
  have hkn := (h.keys k o hk).1
  refine h.upd k o' (μ k) (DH.put_same L k o') (fun j hj => DH.put_ne L o' hj) (Nat.le_refl _) rfl rfl hkn hu hos htape hout (Nat.le_of_eq hsz)
    (fun b _ hW => hsame b fun e => hW ⟨k, o, hlo, hk, hl, e.symm⟩) (fun j o2 hj hj2 hl2 => hsame _ fun e => hj (h.inj j o2 k o hj2 hl2 hk hl e)) (fun _ => .inl ⟨hkn, ⟨o, hk, hl⟩, rfl⟩) (fun _ => hevo) hobj

end Go.Dv
