/- The layer Dv, part 3: what a step of the heap leaves as it was. -/
import Derived.Test.YtlmgodcfjaagpaaDv2
namespace Go.Dv
open Go.RowKit (Below)

theorem unders_iff {n : Nat} {l : List DV} : DV.unders n l = true ↔ ∀ (i : Nat) d, l[i]? = some d → d.under n = true := by
  induction l with
  | nil => simp [DV.unders]
  | cons a r ih =>
    simp only [DV.unders, Bool.and_eq_true, ih]
    constructor
    · rintro ⟨h1, h2⟩ i d hd
      cases i with
      | zero => simp at hd; exact hd ▸ h1
      | succ i => exact h2 i d (by simpa using hd)
    · intro h
      exact ⟨h 0 a rfl, fun i d hd => h (i + 1) d (by simpa using hd)⟩
theorem unders_mem {n : Nat} {l : List DV} : DV.unders n l = true ↔ ∀ d, d ∈ l → d.under n = true := by
  rw [unders_iff]
  constructor
  · intro h d hd
    obtain ⟨i, hi⟩ := List.mem_iff_getElem?.1 hd
    exact h i d hi
  · intro h i d hd
    exact h d (List.mem_of_getElem? hd)

theorem blt_iff {a b : Nat} : Nat.blt a b = true ↔ a < b := by
  rw [Nat.blt_eq]

mutual
theorem DV.under_mono {n m : Nat} (h : n ≤ m) : ∀ (d : DV), d.under n = true → d.under m = true
  | .agg l => fun hd => by simp only [DV.under] at hd ⊢; exact DV.unders_mono h l hd
  | .tup l => fun hd => by simp only [DV.under] at hd ⊢; exact DV.unders_mono h l hd
  | .ref k _ => fun hd => by simp only [DV.under, blt_iff] at hd ⊢; omega
  | .aref k _ _ _ => fun hd => by simp only [DV.under, blt_iff] at hd ⊢; omega
  | .buf k _ => fun hd => by simp only [DV.under, blt_iff] at hd ⊢; omega
  | .mp k => fun hd => by simp only [DV.under, blt_iff] at hd ⊢; omega
  | .when c d => fun hd => by simp only [DV.under, Bool.or_eq_true] at hd ⊢; exact hd.imp id (DV.under_mono h d)
  | .clo _ a b => fun hd => by simp only [DV.under, Bool.and_eq_true] at hd ⊢; exact ⟨DV.unders_mono h a hd.1, DV.unders_mono h b hd.2⟩
  | .pv _ => fun _ => rfl
  | .e0 => fun _ => rfl
  | .eptr _ _ => fun _ => rfl
  | .fnv _ => fun _ => rfl
  | .raw _ => fun _ => rfl
  | .any => fun _ => rfl
theorem DV.unders_mono {n m : Nat} (h : n ≤ m) : ∀ (l : List DV), DV.unders n l = true → DV.unders m l = true
  | [] => fun _ => rfl
  | d :: r => fun hd => by simp only [DV.unders, Bool.and_eq_true] at hd ⊢; exact ⟨DV.under_mono h d hd.1, DV.unders_mono h r hd.2⟩
end

theorem RelP.mono {T T' : Nat → Prop} {w w' : World} {p : PV} {v : Value} (h : RelP T w p v) (hT : ∀ b, T' b → T b ∨ w.heap.size ≤ b)
    (hs : w.heap.size ≤ w'.heap.size) (hh : ∀ b, b < w.heap.size → ¬ T b → w'.heap[b]? = w.heap[b]?) : RelP T' w' p v := by
  induction h with
  | int k n => exact .int k n
  | bool b => exact .bool b
  | str s => exact .str s
  | nil => exact .nil
  | e0 a c => exact .e0 a c
  | sl b off sz cap l val h1 h2 h3 h4 h5 _ ih =>
    refine .sl b off sz cap l val (fun h => ?_) (Nat.lt_of_lt_of_le h2 hs) h3 h4 (fun i p j q hi hj => ?_) ih
    · rcases hT b h with h | h
      · exact h1 h
      · omega
    · rw [World.cell?_of_block (w := w) (hh b h2 h1)]
      exact h5 i p j q hi hj
  | agg l vs h1 _ ih => exact .agg l vs h1 ih
  | tup l vs h1 _ ih => exact .tup l vs h1 ih

theorem Stp.tot {L L' : DH} {μ μ' : Nat → Loc} {w w' : World} {M : Nat → Prop} (h : Stp L μ w L' μ' w') : ∀ b, Tot M μ' L' b → Tot M μ L b ∨ w.heap.size ≤ b := by
  rintro b (hb | ⟨k, o, hk, hl, rfl⟩)
  · exact .inl (.inl hb)
  · rcases h.blk k o hk hl with ⟨_, ⟨o0, h0, h1⟩, h2⟩ | h2
    · exact .inl (.inr ⟨k, o0, h0, h1, h2.symm⟩)
    · exact .inr h2
theorem Wbl.tot {L : DH} {μ : Nat → Loc} {M : Nat → Prop} {b : Nat} (h : Wbl μ L b) : Tot M μ L b := by
  obtain ⟨k, o, _, h1, h2, h3⟩ := h
  exact .inr ⟨k, o, h1, h2, h3⟩
theorem RelP.stp {M : Nat → Prop} {L L' : DH} {μ μ' : Nat → Loc} {w w' : World} {p : PV} {v : Value} (h : RelP (Tot M μ L) w p v) (hs : Stp L μ w L' μ' w') :
    RelP (Tot M μ' L') w' p v :=
  h.mono hs.tot hs.size fun b hb hT => hs.same b hb fun hw => hT hw.tot

theorem bufVal_congr {m m' : Loc} {n : Nat} {v : Value} (h : m' = m) (hv : bufVal m n v) : bufVal m' n v := h ▸ hv

theorem RelV.stp {M : Nat → Prop} {L L' : DH} {μ μ' : Nat → Loc} {w w' : World} {d : DV} {v : Value} (h : RelV (Tot M μ L) w μ L d v) (hs : Stp L μ w L' μ' w')
    (hu : d.under L.next = true) : RelV (Tot M μ' L') w' μ' L' d v := by
  induction h with
  | pv p v h => exact .pv p v (h.stp hs)
  | e0 a => exact .e0 a
  | agg l vs h1 _ ih =>
    simp only [DV.under] at hu
    exact .agg l vs h1 fun i d v hi hv => ih i d v hi hv (unders_iff.1 hu i d hi)
  | tup l vs h1 _ ih =>
    simp only [DV.under] at hu
    exact .tup l vs h1 fun i d v hi hv => ih i d v hi hv (unders_iff.1 hu i d hi)
  | ref k c v h0 h =>
    simp only [DV.under, blt_iff] at hu
    refine .ref k c v h0 fun cs hk => ?_
    obtain ⟨cs0, g0, hm⟩ := hs.evo.var k cs hu hk
    rw [hm]; exact h cs0 g0
  | aref k n i c v hone h hf =>
    simp only [DV.under, blt_iff] at hu
    refine .aref k n i c v hone (fun sz es hk => ?_) (fun es hk => ?_)
    · obtain ⟨es0, h0, hl | ⟨hl, hm⟩⟩ := hs.evo.arr k sz es hu hk
      · exact ⟨by have := (h sz es0 h0).1; omega, fun hn => by have := (h sz es0 h0).1; omega⟩
      · obtain ⟨h1, h2⟩ := h sz es0 h0
        exact ⟨by omega, fun hn hi => by rw [hm]; exact h2 (by omega) hi⟩
    · rcases hs.evo.fz k es hu hk with ⟨h0, hm⟩ | ⟨sz, es0, h0, hq, hl | ⟨hl, hm⟩⟩
      · rw [hm]; exact hf es h0
      · exact ⟨by have := (h sz es0 h0).1; omega, fun hn => by have := (h sz es0 h0).1; omega⟩
      · obtain ⟨h1, h2⟩ := h sz es0 h0
        refine ⟨by omega, fun hn p hp => ⟨sz, hq, ?_⟩⟩
        rw [hm]
        refine h2 (by omega) ?_
        rcases Nat.lt_or_ge i es.length with h' | h'
        · omega
        · rw [List.getElem?_eq_none h'] at hp; cases hp
  | eptr p c b off val h1 h2 h3 h4 =>
    refine .eptr p c b off val (fun h => ?_) (Nat.lt_of_lt_of_le h2 hs.size) (fun j q hj => ?_) (fun j q hj => (h4 j q hj).stp hs)
    · rcases hs.tot b h with h | h
      · exact h1 h
      · omega
    · rw [World.cell?_of_block (w := w) (hs.same b h2 fun hw => h1 hw.tot)]
      exact h3 j q hj
  | buf k n v hone h hf =>
    simp only [DV.under, blt_iff] at hu
    refine .buf k n v hone (fun sz es hk => ?_) (fun es hk => ?_)
    · obtain ⟨es0, h0, hl | ⟨hl, hm⟩⟩ := hs.evo.arr k sz es hu hk
      · exact ⟨by have := (h sz es0 h0).1; omega, fun hn => by have := (h sz es0 h0).1; omega⟩
      · obtain ⟨h1, h2⟩ := h sz es0 h0
        exact ⟨by omega, fun hn => by rw [hm]; exact h2 (by omega)⟩
    · rcases hs.evo.fz k es hu hk with ⟨h0, hm⟩ | ⟨sz, es0, h0, hq, hl | ⟨hl, hm⟩⟩
      · rw [hm]; exact hf es h0
      · exact ⟨by have := (h sz es0 h0).1; omega, fun hn => by have := (h sz es0 h0).1; omega⟩
      · obtain ⟨h1, h2⟩ := h sz es0 h0
        exact ⟨by omega, fun hn => by rw [hm]; exact h2 (by omega)⟩
  | mp k v hone h =>
    simp only [DV.under, blt_iff] at hu
    refine .mp k v hone fun es hk => ?_
    obtain ⟨es0, h0, hm⟩ := hs.evo.mp k es hu hk
    rw [hm]; exact h es0 h0
  | clo f first caps fs cs h1 h2 _ _ ih1 ih2 =>
    simp only [DV.under, Bool.and_eq_true] at hu
    exact .clo f first caps fs cs h1 h2 (fun i d v hi hv => ih1 i d v hi hv (unders_iff.1 hu.1 i d hi)) (fun i d v hi hv => ih2 i d v hi hv (unders_iff.1 hu.2 i d hi))
  | fnv v => exact .fnv v
  | when c d v _ h2 ih => exact .when c d v (fun hc => ih hc (by simpa [DV.under, hc] using hu)) h2
  | raw v => exact .raw v
  | any v => exact .any v

theorem Evo.refl (L : DH) (μ : Nat → Loc) : Evo L μ L μ :=
  ⟨fun _ cs _ h => ⟨cs, h, rfl⟩, fun _ es _ h => ⟨es, h, rfl⟩, fun _ _ es _ h => ⟨es, h, .inr ⟨rfl, rfl⟩⟩, fun _ _ _ h => .inl ⟨h, rfl⟩⟩
theorem Stp.refl (L : DH) (μ : Nat → Loc) (w : World) (hk : ∀ k o, L.get k = some o → k < L.next) : Stp L μ w L μ w :=
  ⟨Evo.refl L μ, rfl, rfl, rfl, Nat.le_refl _, fun _ _ _ => rfl, fun k o h hl => .inl ⟨hk k o h, ⟨o, h, hl⟩, rfl⟩, Nat.le_refl _, rfl, rfl⟩
theorem Evo.trans {L L' L'' : DH} {μ μ' μ'' : Nat → Loc} (h : Evo L μ L' μ') (k : Evo L' μ' L'' μ'') (hn : L.next ≤ L'.next) : Evo L μ L'' μ'' where
  var := fun i cs hi hc => by
    obtain ⟨cs1, h1, m1⟩ := k.var i cs (by omega) hc
    obtain ⟨cs0, h0, m0⟩ := h.var i cs1 hi h1
    exact ⟨cs0, h0, m1.trans m0⟩
  mp := fun i cs hi hc => by
    obtain ⟨cs1, h1, m1⟩ := k.mp i cs (by omega) hc
    obtain ⟨cs0, h0, m0⟩ := h.mp i cs1 hi h1
    exact ⟨cs0, h0, m1.trans m0⟩
  arr := fun i sz es hi hc => by
    obtain ⟨es1, h1, g1⟩ := k.arr i sz es (by omega) hc
    obtain ⟨es0, h0, g0⟩ := h.arr i sz es1 hi h1
    refine ⟨es0, h0, ?_⟩
    rcases g1 with g1 | ⟨g1, m1⟩ <;> rcases g0 with g0 | ⟨g0, m0⟩
    · exact .inl (by omega)
    · exact .inl (by omega)
    · exact .inl (by omega)
    · exact .inr ⟨by omega, m1.trans m0⟩
  fz := fun i es hi hc => by
    rcases k.fz i es (by omega) hc with ⟨h1, m1⟩ | ⟨sz, es1, h1, q1, g1⟩
    · rcases h.fz i es hi h1 with ⟨h0, m0⟩ | ⟨sz, es0, h0, q0, g0⟩
      · exact .inl ⟨h0, m1.trans m0⟩
      · refine .inr ⟨sz, es0, h0, q0, ?_⟩
        rcases g0 with g0 | ⟨g0, m0⟩
        · exact .inl g0
        · exact .inr ⟨g0, m1.trans m0⟩
    · obtain ⟨es0, h0, g0⟩ := h.arr i sz es1 hi h1
      refine .inr ⟨sz, es0, h0, q1, ?_⟩
      rcases g1 with g1 | ⟨g1, m1⟩ <;> rcases g0 with g0 | ⟨g0, m0⟩
      · exact .inl (by omega)
      · exact .inl (by omega)
      · exact .inl (by omega)
      · exact .inr ⟨by omega, m1.trans m0⟩
theorem Stp.trans {L L' L'' : DH} {μ μ' μ'' : Nat → Loc} {w w' w'' : World} (h : Stp L μ w L' μ' w') (k : Stp L' μ' w' L'' μ'' w'') : Stp L μ w L'' μ'' w'' where
  evo := h.evo.trans k.evo h.next
  os := k.os.trans h.os
  tape := k.tape.trans h.tape
  output := k.output.trans h.output
  size := Nat.le_trans h.size k.size
  same := fun b hb hW => by
    rw [k.same b (Nat.lt_of_lt_of_le hb h.size) ?_, h.same b hb hW]
    rintro ⟨i, o, hlo, hi, hl, rfl⟩
    rcases h.blk i o hi hl with ⟨_, ⟨o0, h0, h1⟩, h2⟩ | h2
    · exact hW ⟨i, o0, by rw [← h.lo]; exact hlo, h0, h1, h2.symm⟩
    · omega
  blk := fun i o hi hl => by
    rcases k.blk i o hi hl with ⟨_, ⟨o0, h0, h1⟩, h2⟩ | h2
    · rcases h.blk i o0 h0 h1 with ⟨a, b, c⟩ | c
      · exact .inl ⟨a, b, h2.trans c⟩
      · exact .inr (by omega)
    · exact .inr (Nat.le_trans h.size h2)
  next := Nat.le_trans h.next k.next
  lo := k.lo.trans h.lo
  base := k.base.trans h.base

end Go.Dv
