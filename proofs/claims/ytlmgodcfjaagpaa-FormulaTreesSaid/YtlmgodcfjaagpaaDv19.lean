/- The layer Dv, part 19: a call sees only a part of the heap; what a result may be taken for. -/
import Derived.Test.YtlmgodcfjaagpaaDv18
namespace Go.Dv
open Go.RowKit (Below)
section
variable {P : Program} {M : Nat → Prop} {w0 : World}

theorem RelV.re {T T' : Nat → Prop} {w : World} {μ μ' : Nat → Loc} {L L' : DH} {n : Nat} {d : DV} {v : Value} (h : RelV T w μ L d v) (hu : d.under n = true) (hT : ∀ b, T' b → T b)
    (hL : ∀ k, k < n → L'.get k = L.get k ∧ μ' k = μ k) : RelV T' w μ' L' d v := by
  induction h with
  | pv p v h => exact .pv p v (h.sub hT)
  | e0 a => exact .e0 a
  | agg l vs h1 _ ih => simp only [DV.under] at hu; exact .agg l vs h1 fun i d v hi hv => ih i d v hi hv (unders_iff.1 hu i d hi)
  | tup l vs h1 _ ih => simp only [DV.under] at hu; exact .tup l vs h1 fun i d v hi hv => ih i d v hi hv (unders_iff.1 hu i d hi)
  | ref k c v h1 h2 =>
    simp only [DV.under, blt_iff] at hu
    obtain ⟨e1, e2⟩ := hL k hu
    exact .ref k c v h1 fun cs hc => by rw [e2]; exact h2 cs (by rw [← e1]; exact hc)
  | aref k m i c v h1 h2 h3 =>
    simp only [DV.under, blt_iff] at hu
    obtain ⟨e1, e2⟩ := hL k hu
    exact .aref k m i c v h1 (fun sz es hc => by rw [e2]; exact h2 sz es (by rw [← e1]; exact hc)) (fun es hc => by rw [e2]; exact h3 es (by rw [← e1]; exact hc))
  | eptr p c b off val h1 h2 h3 h4 => exact .eptr p c b off val (fun hb => h1 (hT b hb)) h2 h3 fun j q hj => (h4 j q hj).sub hT
  | buf k m v h1 h2 h3 =>
    simp only [DV.under, blt_iff] at hu
    obtain ⟨e1, e2⟩ := hL k hu
    exact .buf k m v h1 (fun sz es hc => by rw [e2]; exact h2 sz es (by rw [← e1]; exact hc)) (fun es hc => by rw [e2]; exact h3 es (by rw [← e1]; exact hc))
  | mp k v h1 h2 =>
    simp only [DV.under, blt_iff] at hu
    obtain ⟨e1, e2⟩ := hL k hu
    exact .mp k v h1 fun es hc => by rw [e2]; exact h2 es (by rw [← e1]; exact hc)
  | clo f first caps fs cs h1 h2 _ _ ih1 ih2 =>
    simp only [DV.under, Bool.and_eq_true] at hu
    exact .clo f first caps fs cs h1 h2 (fun i d v hi hv => ih1 i d v hi hv (unders_iff.1 hu.1 i d hi)) (fun i d v hi hv => ih2 i d v hi hv (unders_iff.1 hu.2 i d hi))
  | fnv v => exact .fnv v
  | when c d v _ h2 ih => exact .when c d v (fun hc => ih hc (by simpa [DV.under, hc] using hu)) h2
  | raw v => exact .raw v
  | any v => exact .any v

theorem ObjRel.re {T T' : Nat → Prop} {w : World} {μ μ' : Nat → Loc} {L L' : DH} {n k : Nat} {o : DObj} (h : ObjRel T w μ L k o) (hu : o.under n = true) (hk : μ' k = μ k) (hT : ∀ b, T' b → T b)
    (hL : ∀ k, k < n → L'.get k = L.get k ∧ μ' k = μ k) : ObjRel T' w μ' L' k o := by
  cases o with
  | var cs =>
    obtain ⟨vs, ty, h1, h2, h3⟩ := h
    exact ⟨vs, ty, by rw [hk]; exact h1, h2, fun i d v hi hv => (h3 i d v hi hv).re (unders_iff.1 hu i d hi) hT hL⟩
  | arr sz es =>
    rcases h with ⟨h1, h2⟩ | ⟨vs, ty, h1, h2, h3, h4, h5, h6⟩
    · exact .inl ⟨by rw [hk]; exact h1, h2⟩
    · refine .inr ⟨vs, ty, by rw [hk]; exact h1, by rw [hk]; exact h2, by rw [hk]; exact h3, by rw [hk]; exact h4, h5, fun i p j q hp hq => ?_⟩
      obtain ⟨v, g1, g2⟩ := h6 i p j q hp hq
      exact ⟨v, g1, g2.sub hT⟩
  | fz l =>
    rcases h with ⟨h1, h2⟩ | ⟨h1, h2, h3⟩
    · exact .inl ⟨by rw [hk]; exact h1, h2⟩
    · exact .inr ⟨by rw [hk]; exact h1, by rw [hk]; exact h2, by rw [hk]; exact h3.sub hT⟩
  | mp es =>
    obtain ⟨ents, clock, h1, h2, h3⟩ := h
    exact ⟨ents, clock, by rw [hk]; exact h1, h2, fun i kv e hi he => ⟨(h3 i kv e hi he).1.sub hT, (h3 i kv e hi he).2.sub hT⟩⟩

/-- The heap behind a call that sees the keys below a number. -/
def DH.merge (L L' : DH) (n : Nat) : DH := { L with get := fun k => bif Nat.blt k n then L'.get k else L.get k }

theorem merge_lt {L L' : DH} {n k : Nat} (h : k < n) : (L.merge L' n).get k = L'.get k := by
  have : Nat.blt k n = true := by simpa using h
  simp only [DH.merge, this, cond_true]
theorem merge_ge {L L' : DH} {n k : Nat} (h : n ≤ k) : (L.merge L' n).get k = L.get k := by
  have : Nat.blt k n = false := by
    cases hb : Nat.blt k n with
    | false => rfl
    | true => have : k < n := by simpa using hb
              omega
  simp only [DH.merge, this, cond_false]

/-- A call sees only the keys below a number. -/
theorem DC.frame {f : FuncId} {args : List DV} {L H : DH} {K : DV → DH → Prop} (hag : ∀ k, k < H.next → H.get k = L.get k) (hnone : ∀ k, H.next ≤ k → H.get k = none) (hnx : H.next ≤ L.next) (hlo : H.lo = L.lo) (hlob : H.lo ≤ H.next)
    (hbase : H.base ≤ H.next) (hkeys : ∀ k o, H.get k = some o → o.under H.next = true) (hargs : DV.unders H.next args = true)
    (h : ∀ M, DC P M w0 f args H fun d L' => L'.next = H.next ∧ K d (L.merge L' H.next)) : DC P M w0 f args L K := by
  refine DC.mk ⟨(h M).elim.1, fun μ w vs hr hu hrel => ?_⟩
  have hlt : ∀ k o, H.get k = some o → k < H.next := fun k o hk => by
    rcases Nat.lt_or_ge k H.next with h' | h'
    · exact h'
    · rw [hnone k h'] at hk; cases hk
  have hsub : ∀ k o, H.get k = some o → L.get k = some o := fun k o hk => by rw [← hag k (hlt k o hk)]; exact hk
  let M' : Nat → Prop := fun b => M b ∨ ∃ k o, H.next ≤ k ∧ L.get k = some o ∧ liveAt (μ k) o ∧ (μ k).blk = b
  have hT : ∀ b, Tot M' μ H b ↔ Tot M μ L b := fun b => by
    constructor
    · rintro ((hb | ⟨k, o, _, h2, h3, h4⟩) | ⟨k, o, h1, h2, h3⟩)
      · exact .inl hb
      · exact .inr ⟨k, o, h2, h3, h4⟩
      · exact .inr ⟨k, o, hsub k o h1, h2, h3⟩
    · rintro (hb | ⟨k, o, h1, h2, h3⟩)
      · exact .inl (.inl hb)
      · rcases Nat.lt_or_ge k H.next with h' | h'
        · exact .inr ⟨k, o, by rw [hag k h']; exact h1, h2, h3⟩
        · exact .inl (.inr ⟨k, o, h', h1, h2, h3⟩)
  have hrH : HR M' w0 μ H w := by
    refine ⟨hr.ext, ?_, fun k o hk => ⟨hlt k o hk, hkeys k o hk⟩, ?_, ?_, ?_, hbase, hlob⟩
    · rintro b (hb | ⟨k, o, _, h2, h3, rfl⟩)
      · exact hr.mlt b hb
      · exact (hr.live k o h2 h3).1
    · intro k o hk hl
      obtain ⟨g1, g2, g3⟩ := hr.live k o (hsub k o hk) hl
      refine ⟨g1, ?_, by rw [hlo]; exact g3⟩
      rintro (hb | ⟨k', o', hk', h2, h3, h4⟩)
      · exact g2 hb
      · have := hr.inj k' o' k o h2 h3 (hsub k o hk) hl h4
        have := hlt k o hk
        omega
    · exact fun k o k' o' h1 h2 h3 h4 h5 => hr.inj k o k' o' (hsub k o h1) h2 (hsub k' o' h3) h4 h5
    · intro k o hk
      exact (hr.obj k o (hsub k o hk)).re (hkeys k o hk) rfl (fun b hb => (hT b).1 hb) fun k hk => ⟨hag k hk, rfl⟩
  have hrelH : RelVs (Tot M' μ H) w μ H args vs := ⟨hrel.1, fun i d v hd hv => (hrel.2 i d v hd hv).re (unders_iff.1 hargs i d hd) (fun b hb => (hT b).1 hb) fun k hk => ⟨hag k hk, rfl⟩⟩
  refine ((h M').elim.2 μ w vs hrH hargs hrelH).mono ?_
  rintro e w' ⟨v, he, μ', d, L', ⟨hn', hK⟩, hr', hv, hdu, hs⟩
  refine ⟨v, he, (fun k => if k < H.next then μ' k else μ k), d, L.merge L' H.next, hK, ?_⟩
  have hμlt : ∀ k, k < H.next → (if k < H.next then μ' k else μ k) = μ' k := fun k hk => if_pos hk
  have hμge : ∀ k, H.next ≤ k → (if k < H.next then μ' k else μ k) = μ k := fun k hk => if_neg (by omega)
  have hk' : ∀ k o, L'.get k = some o → k < H.next := fun k o hk => by have := (hr'.keys k o hk).1; omega
  -- the blocks of the frame stay
  have hframe : ∀ k o, H.next ≤ k → L.get k = some o → liveAt (μ k) o → w'.heap[(μ k).blk]? = w.heap[(μ k).blk]? := by
    intro k o hk hg hl
    refine hs.same _ (hr.live k o hg hl).1 ?_
    rintro ⟨j, o', h1, h2, h3, h4⟩
    have := hr.inj j o' k o (hsub j o' h2) h3 hg hl h4
    have := hlt j o' h2
    omega
  have hW : ∀ b, Wbl μ H b → Wbl μ L b := by
    rintro b ⟨k, o, h1, h2, h3, h4⟩
    exact ⟨k, o, by rw [← hlo]; exact h1, hsub k o h2, h3, h4⟩
  have hstp : Stp L μ w (L.merge L' H.next) (fun k => if k < H.next then μ' k else μ k) w' := by
    refine ⟨⟨?_, ?_, ?_, ?_⟩, hs.os, hs.tape, hs.output, hs.size, fun b hb hn => hs.same b hb fun hw => hn (hW b hw), ?_, Nat.le_refl _, rfl, rfl⟩
    · intro k cs' hkl hc
      rcases Nat.lt_or_ge k H.next with h' | h'
      · rw [merge_lt h'] at hc
        simp only [hμlt k h']
        obtain ⟨cs, h1, h2⟩ := hs.evo.var k cs' h' hc
        exact ⟨cs, hsub k _ h1, h2⟩
      · rw [merge_ge h'] at hc
        simp only [hμge k h']
        exact ⟨cs', hc, trivial⟩
    · intro k cs' hkl hc
      rcases Nat.lt_or_ge k H.next with h' | h'
      · rw [merge_lt h'] at hc
        simp only [hμlt k h']
        obtain ⟨cs, h1, h2⟩ := hs.evo.mp k cs' h' hc
        exact ⟨cs, hsub k _ h1, h2⟩
      · rw [merge_ge h'] at hc
        simp only [hμge k h']
        exact ⟨cs', hc, trivial⟩
    · intro k sz es' hkl hc
      rcases Nat.lt_or_ge k H.next with h' | h'
      · rw [merge_lt h'] at hc
        simp only [hμlt k h']
        obtain ⟨cs, h1, h2⟩ := hs.evo.arr k sz es' h' hc
        exact ⟨cs, hsub k _ h1, h2⟩
      · rw [merge_ge h'] at hc
        simp only [hμge k h']
        exact ⟨es', hc, .inr ⟨rfl, trivial⟩⟩
    · intro k es' hkl hc
      rcases Nat.lt_or_ge k H.next with h' | h'
      · rw [merge_lt h'] at hc
        simp only [hμlt k h']
        rcases hs.evo.fz k es' h' hc with ⟨h1, h2⟩ | ⟨sz, es, h1, h2⟩
        · exact .inl ⟨hsub k _ h1, h2⟩
        · exact .inr ⟨sz, es, hsub k _ h1, h2⟩
      · rw [merge_ge h'] at hc
        simp only [hμge k h']
        exact .inl ⟨hc, trivial⟩
    · intro k o hc hl
      rcases Nat.lt_or_ge k H.next with h' | h'
      · rw [merge_lt h'] at hc
        simp only [hμlt k h'] at hl ⊢
        rcases hs.blk k o hc hl with ⟨h1, ⟨o0, h2, h3⟩, h4⟩ | h1
        · exact .inl ⟨by omega, ⟨o0, hsub k o0 h2, h3⟩, h4⟩
        · exact .inr h1
      · rw [merge_ge h'] at hc
        simp only [hμge k h'] at hl ⊢
        exact .inl ⟨(hr.keys k o hc).1, ⟨o, hc, hl⟩, trivial⟩
  have hT' : ∀ b, Tot M (fun k => if k < H.next then μ' k else μ k) (L.merge L' H.next) b → Tot M' μ' L' b := by
    rintro b (hb | ⟨k, o, h1, h2, h3⟩)
    · exact .inl (.inl hb)
    · rcases Nat.lt_or_ge k H.next with h' | h'
      · rw [merge_lt h'] at h1
        simp only [hμlt k h'] at h2 h3
        exact .inr ⟨k, o, h1, h2, h3⟩
      · rw [merge_ge h'] at h1
        simp only [hμge k h'] at h2 h3
        exact .inl (.inr ⟨k, o, h', h1, h2, h3⟩)
  have hL' : ∀ k, k < L'.next → (L.merge L' H.next).get k = L'.get k ∧ (if k < H.next then μ' k else μ k) = μ' k := fun k hk => by
    rw [hn'] at hk
    exact ⟨merge_lt hk, hμlt k hk⟩
  have hnew : ∀ k o, L'.get k = some o → liveAt (μ' k) o → ∀ j oj, H.next ≤ j → L.get j = some oj → liveAt (μ j) oj → (μ' k).blk ≠ (μ j).blk := by
    intro k o hk hl j oj hj h2 h3 he
    exact (hr'.live k o hk hl).2.1 (.inr ⟨j, oj, hj, h2, h3, he.symm⟩)
  refine ⟨⟨hr'.ext, fun b hb => hr'.mlt b (.inl hb), ?_, ?_, ?_, ?_, hr.base, hr.lob⟩, hv.re hdu hT' hL', DV.under_mono (by rw [hn']; exact hnx) d hdu, hstp⟩
  · intro k o hk
    rcases Nat.lt_or_ge k H.next with h' | h'
    · rw [merge_lt h'] at hk
      exact ⟨Nat.lt_of_lt_of_le h' hnx, DObj.under_mono (by rw [hn']; exact hnx) o (hr'.keys k o hk).2⟩
    · rw [merge_ge h'] at hk
      exact hr.keys k o hk
  · intro k o hk hl
    rcases Nat.lt_or_ge k H.next with h' | h'
    · rw [merge_lt h'] at hk
      simp only [hμlt k h'] at hl ⊢
      obtain ⟨g1, g2, g3⟩ := hr'.live k o hk hl
      refine ⟨g1, fun hM => g2 (.inl hM), fun hlo' => g3 ?_⟩
      rw [hs.lo, hlo]; exact hlo'
    · rw [merge_ge h'] at hk
      simp only [hμge k h'] at hl ⊢
      obtain ⟨g1, g2, g3⟩ := hr.live k o hk hl
      exact ⟨Nat.lt_of_lt_of_le g1 hs.size, g2, g3⟩
  · intro k o k' o' h1 h2 h3 h4 h5
    rcases Nat.lt_or_ge k H.next with g | g <;> rcases Nat.lt_or_ge k' H.next with g' | g'
    · rw [merge_lt g] at h1; rw [merge_lt g'] at h3
      simp only [hμlt k g, hμlt k' g'] at h2 h4 h5
      exact hr'.inj k o k' o' h1 h2 h3 h4 h5
    · rw [merge_lt g] at h1; rw [merge_ge g'] at h3
      simp only [hμlt k g, hμge k' g'] at h2 h4 h5
      exact absurd h5 (hnew k o h1 h2 k' o' g' h3 h4)
    · rw [merge_ge g] at h1; rw [merge_lt g'] at h3
      simp only [hμge k g, hμlt k' g'] at h2 h4 h5
      exact absurd h5.symm (hnew k' o' h3 h4 k o g h1 h2)
    · rw [merge_ge g] at h1; rw [merge_ge g'] at h3
      simp only [hμge k g, hμge k' g'] at h2 h4 h5
      exact hr.inj k o k' o' h1 h2 h3 h4 h5
  · intro k o hk
    rcases Nat.lt_or_ge k H.next with h' | h'
    · rw [merge_lt h'] at hk
      exact (hr'.obj k o hk).re (hr'.keys k o hk).2 (hμlt k h') hT' hL'
    · rw [merge_ge h'] at hk
      exact (hr.obj k o hk).stp hstp (hμge k h') (hframe k o h' hk) (hr.keys k o hk).2
end
end Go.Dv
