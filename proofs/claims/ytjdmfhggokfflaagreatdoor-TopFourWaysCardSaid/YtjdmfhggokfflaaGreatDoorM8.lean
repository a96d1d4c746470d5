/- Parts of the proof, one after the other: The layer Dv, part 23: a call sees a part of the heap, under other numbers. The layer Dv, part 24: objects whose numbers are not literals; own arrays lent to calls. Products: what the law ProductKeeps asks (plain). Models: Restrict, and announcements, of the program walked. The dynamic language: where its formulas hold (plain). The dynamic language: sets, static formulas, requests (plain). Models: closed parts of models; formulas that are put together (plain). The dynamic language: formulas that are put together; models taken twice (plain). The dynamic language: announcing twice; the axioms (plain). The dynamic language: the axioms; public events; events as steps (plain). The dynamic language: formulas whose operands are formulas; what the law DynamicMerges asks (plain). Reductions of announcements: where they hold (plain). Reductions: what the nodes of a reduction are (plain). Reductions: a formula and its reduction hold at the same worlds (plain). Formulas: constructors, where nothing is told from an empty list. Reductions of announcements: the program walked. -/
import Derived.Test.YtjdmfhggokfflaaGreatDoorM7
namespace Go.Dv
open Go.RowKit (Below)
mutual
/-- A value whose objects bear other numbers. -/
def DV.ren (ρ : Nat → Nat) : DV → DV
  | .agg l => .agg (DV.rens ρ l)
  | .tup l => .tup (DV.rens ρ l)
  | .ref k c => .ref (ρ k) c
  | .aref k n i c => .aref (ρ k) n i c
  | .buf k n => .buf (ρ k) n
  | .mp k => .mp (ρ k)
  | .vbuf k n => .vbuf (ρ k) n
  | .clo f a b => .clo f (DV.rens ρ a) (DV.rens ρ b)
  | .when c d => .when c (d.ren ρ)
  | .pv p => .pv p
  | .e0 => .e0
  | .eptr p c => .eptr p c
  | .fnv v => .fnv v
  | .raw v => .raw v
  | .any => .any
def DV.rens (ρ : Nat → Nat) : List DV → List DV
  | [] => []
  | d :: r => d.ren ρ :: DV.rens ρ r
end
def DObj.ren (ρ : Nat → Nat) : DObj → DObj
  | .var cs => .var (DV.rens ρ cs)
  | .arr sz es => .arr sz es
  | .fz l => .fz l
  | .mp es => .mp es
  | .gone => .gone
mutual
/-- All objects of a value are of a kind. -/
def DV.keys (p : Nat → Bool) : DV → Bool
  | .agg l => DV.keyss p l
  | .tup l => DV.keyss p l
  | .ref k _ => p k
  | .aref k _ _ _ => p k
  | .buf k _ => p k
  | .mp k => p k
  | .vbuf k _ => p k
  | .clo _ a b => DV.keyss p a && DV.keyss p b
  | .when c d => !c || d.keys p
  | _ => true
def DV.keyss (p : Nat → Bool) : List DV → Bool
  | [] => true
  | d :: r => d.keys p && DV.keyss p r
end
def DObj.keys (p : Nat → Bool) : DObj → Bool
  | .var cs => DV.keyss p cs
  | _ => true
theorem keyss_iff {p : Nat → Bool} : ∀ {l : List DV}, DV.keyss p l = true → ∀ (i : Nat) (d : DV), l[i]? = some d → d.keys p = true
  | [], _, i, d, h => by simp at h
  | x :: r, hk, i, d, h => by
    simp only [DV.keyss, Bool.and_eq_true] at hk
    cases i with
    | zero => simp at h; subst h; exact hk.1
    | succ i => exact keyss_iff hk.2 i d (by simpa using h)
theorem rens_len {ρ : Nat → Nat} : ∀ (l : List DV), (DV.rens ρ l).length = l.length
  | [] => rfl
  | _ :: r => by rw [DV.rens, List.length_cons, List.length_cons, rens_len r]
theorem rens_get {ρ : Nat → Nat} : ∀ {l : List DV} {i : Nat} {d : DV}, (DV.rens ρ l)[i]? = some d → ∃ d0, l[i]? = some d0 ∧ d = d0.ren ρ
  | [], i, d, h => by simp [DV.rens] at h
  | x :: r, i, d, h => by
    rw [DV.rens] at h
    cases i with
    | zero => simp at h; exact ⟨x, by simp, h.symm⟩
    | succ i =>
      obtain ⟨d0, h1, h2⟩ := rens_get (l := r) (i := i) (by simpa using h)
      exact ⟨d0, by simpa using h1, h2⟩
theorem ren_var {ρ : Nat → Nat} {o : Option DObj} {cs : List DV} (h : o.map (DObj.ren ρ) = some (.var cs)) : ∃ c0, o = some (.var c0) ∧ cs = DV.rens ρ c0 := by
  cases o with
  | none => cases h
  | some o =>
    cases o with
    | var c0 => exact ⟨c0, rfl, by simpa [DObj.ren] using h.symm⟩
    | arr => simp [DObj.ren] at h
    | fz => simp [DObj.ren] at h
    | mp => simp [DObj.ren] at h
    | gone => simp [DObj.ren] at h
theorem ren_arr {ρ : Nat → Nat} {o : Option DObj} {sz : Nat} {es : List PV} (h : o.map (DObj.ren ρ) = some (.arr sz es)) : o = some (.arr sz es) := by
  cases o with
  | none => cases h
  | some o => cases o <;> simp [DObj.ren] at h; obtain ⟨rfl, rfl⟩ := h; rfl
theorem ren_fz {ρ : Nat → Nat} {o : Option DObj} {es : List PV} (h : o.map (DObj.ren ρ) = some (.fz es)) : o = some (.fz es) := by
  cases o with
  | none => cases h
  | some o => cases o <;> simp [DObj.ren] at h; subst h; rfl
theorem ren_mp {ρ : Nat → Nat} {o : Option DObj} {es : List (PV × PV)} (h : o.map (DObj.ren ρ) = some (.mp es)) : o = some (.mp es) := by
  cases o with
  | none => cases h
  | some o => cases o <;> simp [DObj.ren] at h; subst h; rfl
theorem ren_some {ρ : Nat → Nat} {o : Option DObj} {x : DObj} (h : o.map (DObj.ren ρ) = some x) : ∃ y, o = some y ∧ x = y.ren ρ := by
  cases o with
  | none => cases h
  | some y => exact ⟨y, rfl, by simpa using h.symm⟩
theorem live_ren {ρ : Nat → Nat} {m : Loc} {o : DObj} : liveAt m (o.ren ρ) ↔ liveAt m o := by cases o <;> exact Iff.rfl
section
variable {P : Program} {M : Nat → Prop} {w0 : World}
theorem RelV.ren {T T' : Nat → Prop} {w : World} {μ μ' : Nat → Loc} {L L' : DH} {ρ : Nat → Nat} {p : Nat → Bool} {d : DV} {v : Value} (h : RelV T w μ L d v) (hu : d.keys p = true) (hT : ∀ b, T' b → T b)
    (hL : ∀ k, p k = true → L'.get (ρ k) = (L.get k).map (DObj.ren ρ) ∧ μ' (ρ k) = μ k) : RelV T' w μ' L' (d.ren ρ) v := by
  induction h with
  | pv q v h => exact .pv q v (h.sub hT)
  | e0 a => exact .e0 a
  | agg l vs h1 _ ih =>
    simp only [DV.keys] at hu
    refine .agg _ vs (by rw [rens_len]; exact h1) fun i d v hi hv => ?_
    obtain ⟨d0, g1, rfl⟩ := rens_get hi
    exact ih i d0 v g1 hv (keyss_iff hu i d0 g1)
  | tup l vs h1 _ ih =>
    simp only [DV.keys] at hu
    refine .tup _ vs (by rw [rens_len]; exact h1) fun i d v hi hv => ?_
    obtain ⟨d0, g1, rfl⟩ := rens_get hi
    exact ih i d0 v g1 hv (keyss_iff hu i d0 g1)
  | ref k c v h1 h2 =>
    obtain ⟨e1, e2⟩ := hL k hu
    refine .ref (ρ k) c v h1 fun cs hc => ?_
    rw [e1] at hc
    obtain ⟨c0, hc0, _⟩ := ren_var hc
    rw [e2]; exact h2 c0 hc0
  | aref k m i c v h1 h2 h3 =>
    obtain ⟨e1, e2⟩ := hL k hu
    exact .aref (ρ k) m i c v h1 (fun sz es hc => by rw [e1] at hc; rw [e2]; exact h2 sz es (ren_arr hc)) (fun es hc => by rw [e1] at hc; rw [e2]; exact h3 es (ren_fz hc))
  | eptr q c b off val h1 h2 h3 h4 => exact .eptr q c b off val (fun hb => h1 (hT b hb)) h2 h3 fun j q hj => (h4 j q hj).sub hT
  | buf k m v h1 h2 h3 =>
    obtain ⟨e1, e2⟩ := hL k hu
    exact .buf (ρ k) m v h1 (fun sz es hc => by rw [e1] at hc; rw [e2]; exact h2 sz es (ren_arr hc)) (fun es hc => by rw [e1] at hc; rw [e2]; exact h3 es (ren_fz hc))
  | vbuf k n v h1 h2 =>
    obtain ⟨e1, e2⟩ := hL k hu
    refine .vbuf (ρ k) n v h1 fun cs hc => ?_
    rw [e1] at hc
    obtain ⟨c0, hc0, _⟩ := ren_var hc
    rw [e2]; exact h2 c0 hc0
  | mp k v h1 h2 =>
    obtain ⟨e1, e2⟩ := hL k hu
    exact .mp (ρ k) v h1 fun es hc => by rw [e1] at hc; rw [e2]; exact h2 es (ren_mp hc)
  | clo f first caps fs cs h1 h2 _ _ ih1 ih2 =>
    simp only [DV.keys, Bool.and_eq_true] at hu
    refine .clo f _ _ fs cs (by rw [rens_len]; exact h1) (by rw [rens_len]; exact h2) (fun i d v hi hv => ?_) (fun i d v hi hv => ?_)
    · obtain ⟨d0, g1, rfl⟩ := rens_get hi
      exact ih1 i d0 v g1 hv (keyss_iff hu.1 i d0 g1)
    · obtain ⟨d0, g1, rfl⟩ := rens_get hi
      exact ih2 i d0 v g1 hv (keyss_iff hu.2 i d0 g1)
  | fnv v => exact .fnv v
  | when c d v _ h2 ih => exact .when c _ v (fun hc => ih hc (by simpa [DV.keys, hc] using hu)) h2
  | raw v => exact .raw v
  | any v => exact .any v
theorem ObjRel.ren {T T' : Nat → Prop} {w : World} {μ μ' : Nat → Loc} {L L' : DH} {ρ : Nat → Nat} {p : Nat → Bool} {k k' : Nat} {o : DObj} (h : ObjRel T w μ L k o) (hu : o.keys p = true) (hk : μ' k' = μ k) (hT : ∀ b, T' b → T b)
    (hL : ∀ k, p k = true → L'.get (ρ k) = (L.get k).map (DObj.ren ρ) ∧ μ' (ρ k) = μ k) : ObjRel T' w μ' L' k' (o.ren ρ) := by
  cases o with
  | var cs =>
    obtain ⟨vs, ty, h1, h2, h3⟩ := h
    refine ⟨vs, ty, by rw [hk]; exact h1, by rw [rens_len]; exact h2, fun i d v hi hv => ?_⟩
    obtain ⟨d0, g1, rfl⟩ := rens_get hi
    exact (h3 i d0 v g1 hv).ren (keyss_iff hu i d0 g1) hT hL
  | arr sz es =>
    rcases h with ⟨h1, h2⟩ | ⟨vs, ty, h1, h2, h3, h4, h5, h6⟩
    · exact .inl ⟨by rw [hk]; exact h1, h2⟩
    · refine .inr ⟨vs, ty, by rw [hk]; exact h1, by rw [hk]; exact h2, by rw [hk]; exact h3, by rw [hk]; exact h4, h5, fun i p j q hp hq => ?_⟩
      obtain ⟨v, g1, g2⟩ := h6 i p j q hp hq
      exact ⟨v, g1, g2.sub hT⟩
  | fz l =>
    rcases h with ⟨h1, h2⟩ | ⟨h1, h2, h3⟩
    · exact .inl ⟨by rw [hk]; exact h1, h2⟩
    · exact .inr ⟨by rw [hk]; exact h1, by rw [hk]; exact h2, by rw [hk]; exact h3.sub hT⟩
  | gone => trivial
  | mp es =>
    obtain ⟨ents, clock, h1, h2, h3⟩ := h
    exact ⟨ents, clock, by rw [hk]; exact h1, h2, fun i kv e hi he => ⟨(h3 i kv e hi he).1.sub hT, (h3 i kv e hi he).2.sub hT⟩⟩
mutual
theorem keys_under (n : Nat) : ∀ d : DV, d.keys (fun k => Nat.blt k n) = d.under n
  | .agg l => by simp only [DV.keys, DV.under]; exact keyss_unders n l
  | .tup l => by simp only [DV.keys, DV.under]; exact keyss_unders n l
  | .ref _ _ => rfl
  | .aref _ _ _ _ => rfl
  | .buf _ _ => rfl
  | .mp _ => rfl
  | .vbuf _ _ => rfl
  | .clo _ a b => by simp only [DV.keys, DV.under, keyss_unders n a, keyss_unders n b]
  | .when c d => by simp only [DV.keys, DV.under, keys_under n d]
  | .pv _ => rfl
  | .e0 => rfl
  | .eptr _ _ => rfl
  | .fnv _ => rfl
  | .raw _ => rfl
  | .any => rfl
theorem keyss_unders (n : Nat) : ∀ l : List DV, DV.keyss (fun k => Nat.blt k n) l = DV.unders n l
  | [] => rfl
  | d :: r => by simp only [DV.keyss, DV.unders, keys_under n d, keyss_unders n r]
end
mutual
theorem ren_under {n m : Nat} {ρ : Nat → Nat} (hρ : ∀ k, k < n → ρ k < m) : ∀ d : DV, d.under n = true → (d.ren ρ).under m = true
  | .agg l, h => by simp only [DV.under, DV.ren] at h ⊢; exact rens_under hρ l h
  | .tup l, h => by simp only [DV.under, DV.ren] at h ⊢; exact rens_under hρ l h
  | .ref k _, h => by simp only [DV.under, DV.ren, Nat.blt_eq] at h ⊢; exact hρ k h
  | .aref k _ _ _, h => by simp only [DV.under, DV.ren, Nat.blt_eq] at h ⊢; exact hρ k h
  | .buf k _, h => by simp only [DV.under, DV.ren, Nat.blt_eq] at h ⊢; exact hρ k h
  | .mp k, h => by simp only [DV.under, DV.ren, Nat.blt_eq] at h ⊢; exact hρ k h
  | .vbuf k _, h => by simp only [DV.under, DV.ren, Nat.blt_eq] at h ⊢; exact hρ k h
  | .clo _ a b, h => by
    simp only [DV.under, DV.ren, Bool.and_eq_true] at h ⊢
    exact ⟨rens_under hρ a h.1, rens_under hρ b h.2⟩
  | .when c d, h => by
    simp only [DV.under, DV.ren] at h ⊢
    cases c with
    | false => rfl
    | true => simpa using ren_under hρ d (by simpa using h)
  | .pv _, _ => rfl
  | .e0, _ => rfl
  | .eptr _ _, _ => rfl
  | .fnv _, _ => rfl
  | .raw _, _ => rfl
  | .any, _ => rfl
theorem rens_under {n m : Nat} {ρ : Nat → Nat} (hρ : ∀ k, k < n → ρ k < m) : ∀ l : List DV, DV.unders n l = true → DV.unders m (DV.rens ρ l) = true
  | [], _ => rfl
  | d :: r, h => by
    simp only [DV.unders, DV.rens, Bool.and_eq_true] at h ⊢
    exact ⟨ren_under hρ d h.1, rens_under hρ r h.2⟩
end
theorem obj_keys {n : Nat} : ∀ {o : DObj}, o.under n = true → o.keys (fun k => Nat.blt k n) = true
  | .var cs, h => by simp only [DObj.under] at h; simp only [DObj.keys]; rw [keyss_unders]; exact h
  | .arr _ _, _ => rfl
  | .fz _, _ => rfl
  | .mp _, _ => rfl
  | .gone, _ => rfl
theorem obj_ren_under {n m : Nat} {ρ : Nat → Nat} (hρ : ∀ k, k < n → ρ k < m) : ∀ {o : DObj}, o.under n = true → (o.ren ρ).under m = true
  | .var cs, h => rens_under hρ cs h
  | .arr _ _, _ => rfl
  | .fz _, _ => rfl
  | .mp _, _ => rfl
  | .gone, _ => rfl
/-- The heap behind a call that sees some objects under other numbers. -/
def DH.mergeR (L : DH) (ρ σ : Nat → Nat) (p : Nat → Bool) (L' : DH) : DH := { L with get := fun k => bif p k then (L'.get (σ k)).map (DObj.ren ρ) else L.get k }
theorem mergeR_in {L L' : DH} {ρ σ : Nat → Nat} {p : Nat → Bool} {k : Nat} (h : p k = true) : (L.mergeR ρ σ p L').get k = (L'.get (σ k)).map (DObj.ren ρ) := by
  simp only [DH.mergeR, h, cond_true]
theorem mergeR_out {L L' : DH} {ρ σ : Nat → Nat} {p : Nat → Bool} {k : Nat} (h : p k = false) : (L.mergeR ρ σ p L').get k = L.get k := by
  simp only [DH.mergeR, h, cond_false]
theorem DC.ren {f : FuncId} {args : List DV} {L H : DH} {K : DV → DH → Prop} (ρ σ : Nat → Nat) (p : Nat → Bool) (h1 : ∀ k, k < H.next → p (ρ k) = true ∧ σ (ρ k) = k ∧ ρ k < L.next) (h2 : ∀ k, p k = true → σ k < H.next ∧ ρ (σ k) = k)
    (hag : ∀ k, k < H.next → H.get k = (L.get (ρ k)).map (DObj.ren σ)) (hkp : ∀ k o, k < H.next → L.get (ρ k) = some o → o.keys p = true) (hnone : ∀ k, H.next ≤ k → H.get k = none) (hlo : H.lo = 0) (hlo' : L.lo = 0)
    (hbase : H.base ≤ H.next) (hkeys : ∀ k o, H.get k = some o → o.under H.next = true) (hargs : DV.keyss p args = true) (hargsU : DV.unders H.next (DV.rens σ args) = true)
    (h : ∀ M, DC P M w0 f (DV.rens σ args) H fun d L' => L'.next = H.next ∧ K (d.ren ρ) (L.mergeR ρ σ p L')) : DC P M w0 f args L K := by
  refine DC.mk ⟨(h M).elim.1, fun μ w vs hr hu hrel => ?_⟩
  have hlt : ∀ k o, H.get k = some o → k < H.next := fun k o hk => by
    rcases Nat.lt_or_ge k H.next with h' | h'
    · exact h'
    · rw [hnone k h'] at hk; cases hk
  have hsub : ∀ k o, H.get k = some o → ∃ o', L.get (ρ k) = some o' ∧ o = o'.ren σ := fun k o hk => by
    rw [hag k (hlt k o hk)] at hk
    exact ren_some hk
  let M' : Nat → Prop := fun b => M b ∨ ∃ k o, p k = false ∧ L.get k = some o ∧ liveAt (μ k) o ∧ (μ k).blk = b
  let μH : Nat → Loc := fun k => μ (ρ k)
  have hin : ∀ k o, p k = true → L.get k = some o → H.get (σ k) = some (o.ren σ) := fun k o hk ho => by
    obtain ⟨g1, g2⟩ := h2 k hk
    rw [hag _ g1, g2, ho]; rfl
  have hT : ∀ b, Tot M' μH H b ↔ Tot M μ L b := fun b => by
    constructor
    · rintro ((hb | ⟨k, o, _, h2, h3, h4⟩) | ⟨k, o, q1, q2, q3⟩)
      · exact .inl hb
      · exact .inr ⟨k, o, h2, h3, h4⟩
      · obtain ⟨o', g1, rfl⟩ := hsub k o q1
        exact .inr ⟨ρ k, o', g1, live_ren.1 q2, q3⟩
    · rintro (hb | ⟨k, o, q1, q2, q3⟩)
      · exact .inl (.inl hb)
      · cases hp : p k with
        | true =>
          obtain ⟨g1, g2⟩ := h2 k hp
          refine .inr ⟨σ k, o.ren σ, hin k o hp q1, ?_, ?_⟩
          · show liveAt (μ (ρ (σ k))) _
            rw [g2]; exact live_ren.2 q2
          · show (μ (ρ (σ k))).blk = b
            rw [g2]; exact q3
        | false => exact .inl (.inr ⟨k, o, hp, q1, q2, q3⟩)
  have hLH : ∀ k, p k = true → H.get (σ k) = (L.get k).map (DObj.ren σ) ∧ μH (σ k) = μ k := fun k hk => by
    obtain ⟨g1, g2⟩ := h2 k hk
    exact ⟨by rw [hag _ g1, g2], by show μ (ρ (σ k)) = μ k; rw [g2]⟩
  have hrH : HR M' w0 μH H w := by
    refine ⟨hr.ext, ?_, fun k o hk => ⟨hlt k o hk, hkeys k o hk⟩, ?_, ?_, ?_, hbase, by rw [hlo]; exact Nat.zero_le _, hr.glb⟩
    · rintro b (hb | ⟨k, o, _, q2, q3, rfl⟩)
      · exact hr.mlt b hb
      · exact (hr.live k o q2 q3).1
    · intro k o hk hl
      obtain ⟨o', g0, rfl⟩ := hsub k o hk
      obtain ⟨g1, g2, g3⟩ := hr.live (ρ k) o' g0 (live_ren.1 hl)
      refine ⟨g1, ?_, fun _ => g3 (by rw [hlo']; exact Nat.zero_le _)⟩
      rintro (hb | ⟨k', o2, hk', q2, q3, q4⟩)
      · exact g2 hb
      · have := hr.inj k' o2 (ρ k) o' q2 q3 g0 (live_ren.1 hl) q4
        rw [this, (h1 k (hlt k _ hk)).1] at hk'
        cases hk'
    · intro k o k' o' q1 q2 q3 q4 q5
      obtain ⟨a, a1, rfl⟩ := hsub k o q1
      obtain ⟨b, b1, rfl⟩ := hsub k' o' q3
      have e := hr.inj (ρ k) a (ρ k') b a1 (live_ren.1 q2) b1 (live_ren.1 q4) q5
      rw [← (h1 k (hlt k _ q1)).2.1, ← (h1 k' (hlt k' _ q3)).2.1, e]
    · intro k o hk
      obtain ⟨o', g0, rfl⟩ := hsub k o hk
      exact (hr.obj (ρ k) o' g0).ren (hkp k o' (hlt k _ hk) g0) rfl (fun b hb => (hT b).1 hb) hLH
  have hrelH : RelVs (Tot M' μH H) w μH H (DV.rens σ args) vs := ⟨by rw [rens_len]; exact hrel.1, fun i d v hd hv => by
    obtain ⟨d0, g1, rfl⟩ := rens_get hd
    exact (hrel.2 i d0 v g1 hv).ren (keyss_iff hargs i d0 g1) (fun b hb => (hT b).1 hb) hLH⟩
  refine ((h M').elim.2 μH w vs hrH hargsU hrelH).mono ?_
  rintro e w' ⟨v, he, μ', d, L', ⟨hn', hK⟩, hr', hv, hdu, hs⟩
  let μL : Nat → Loc := fun k => bif p k then μ' (σ k) else μ k
  have hμin : ∀ k, p k = true → μL k = μ' (σ k) := fun k hk => by show (bif p k then _ else _) = _; rw [hk]; rfl
  have hμout : ∀ k, p k = false → μL k = μ k := fun k hk => by show (bif p k then _ else _) = _; rw [hk]; rfl
  refine ⟨v, he, μL, d.ren ρ, L.mergeR ρ σ p L', hK, ?_⟩
  have hk' : ∀ k o, L'.get k = some o → k < H.next := fun k o hk => by have := (hr'.keys k o hk).1; omega
  have hframe : ∀ k o, p k = false → L.get k = some o → liveAt (μ k) o → w'.heap[(μ k).blk]? = w.heap[(μ k).blk]? := by
    intro k o hk hg hl
    refine hs.same _ (hr.live k o hg hl).1 ?_
    rintro ⟨j, o', q1, q2, q3, q4⟩
    obtain ⟨a, a1, rfl⟩ := hsub j o' q2
    have := hr.inj (ρ j) a k o a1 (live_ren.1 q3) hg hl q4
    rw [← this, (h1 j (hlt j _ q2)).1] at hk
    cases hk
  have hW : ∀ b, Wbl μH H b → Wbl μ L b := by
    rintro b ⟨k, o, q1, q2, q3, q4⟩
    obtain ⟨a, a1, rfl⟩ := hsub k o q2
    exact ⟨ρ k, a, by rw [hlo']; exact Nat.zero_le _, a1, live_ren.1 q3, q4⟩
  have hback : ∀ k o, p k = true → (L.mergeR ρ σ p L').get k = some o → ∃ o', L'.get (σ k) = some o' ∧ o = o'.ren ρ := fun k o hk ho => by
    rw [mergeR_in hk] at ho
    exact ren_some ho
  have hstp : Stp L μ w (L.mergeR ρ σ p L') μL w' := by
    refine ⟨⟨?_, ?_, ?_, ?_⟩, hs.os, hs.tape, hs.output, hs.size, fun b hb hn => hs.same b hb fun hw => hn (hW b hw), ?_, Nat.le_refl _, rfl, rfl⟩
    · intro k cs' hkl hc
      cases hp : p k with
      | true =>
        rw [mergeR_in hp] at hc
        rw [hμin k hp]
        obtain ⟨c0, g1, _⟩ := ren_var hc
        obtain ⟨cs, g2, g3⟩ := hs.evo.var (σ k) c0 (h2 k hp).1 g1
        obtain ⟨a, a1, a2⟩ := hsub (σ k) _ g2
        rw [(h2 k hp).2] at a1
        cases a with
        | var ca => exact ⟨ca, a1, by rw [g3]; show μ (ρ (σ k)) = μ k; rw [(h2 k hp).2]⟩
        | arr => simp [DObj.ren] at a2
        | fz => simp [DObj.ren] at a2
        | mp => simp [DObj.ren] at a2
        | gone => simp [DObj.ren] at a2
      | false =>
        rw [mergeR_out hp] at hc
        rw [hμout k hp]
        exact ⟨cs', hc, rfl⟩
    · intro k cs' hkl hc
      cases hp : p k with
      | true =>
        rw [mergeR_in hp] at hc
        rw [hμin k hp]
        obtain ⟨cs, g2, g3⟩ := hs.evo.mp (σ k) cs' (h2 k hp).1 (ren_mp hc)
        obtain ⟨a, a1, a2⟩ := hsub (σ k) _ g2
        rw [(h2 k hp).2] at a1
        have a3 := ren_mp (ρ := σ) (o := some a) (es := cs) (by rw [a2]; rfl)
        exact ⟨cs, by rw [a1]; exact a3, by rw [g3]; show μ (ρ (σ k)) = μ k; rw [(h2 k hp).2]⟩
      | false =>
        rw [mergeR_out hp] at hc
        rw [hμout k hp]
        exact ⟨cs', hc, rfl⟩
    · intro k sz es' hkl hc
      cases hp : p k with
      | true =>
        rw [mergeR_in hp] at hc
        rw [hμin k hp]
        obtain ⟨es, g2, g3⟩ := hs.evo.arr (σ k) sz es' (h2 k hp).1 (ren_arr hc)
        obtain ⟨a, a1, a2⟩ := hsub (σ k) _ g2
        rw [(h2 k hp).2] at a1
        have a3 := ren_arr (ρ := σ) (o := some a) (sz := sz) (es := es) (by rw [a2]; rfl)
        refine ⟨es, by rw [a1]; exact a3, ?_⟩
        rcases g3 with g3 | ⟨g3, g4⟩
        · exact .inl g3
        · exact .inr ⟨g3, by rw [g4]; show μ (ρ (σ k)) = μ k; rw [(h2 k hp).2]⟩
      | false =>
        rw [mergeR_out hp] at hc
        rw [hμout k hp]
        exact ⟨es', hc, .inr ⟨rfl, rfl⟩⟩
    · intro k es' hkl hc
      cases hp : p k with
      | true =>
        rw [mergeR_in hp] at hc
        rw [hμin k hp]
        have em : μH (σ k) = μ k := by show μ (ρ (σ k)) = μ k; rw [(h2 k hp).2]
        rcases hs.evo.fz (σ k) es' (h2 k hp).1 (ren_fz hc) with ⟨g2, g3⟩ | ⟨sz, es, g2, g3, g4⟩
        · obtain ⟨a, a1, a2⟩ := hsub (σ k) _ g2
          rw [(h2 k hp).2] at a1
          have a3 := ren_fz (ρ := σ) (o := some a) (es := es') (by rw [a2]; rfl)
          exact .inl ⟨by rw [a1]; exact a3, by rw [g3]; exact em⟩
        · obtain ⟨a, a1, a2⟩ := hsub (σ k) _ g2
          rw [(h2 k hp).2] at a1
          have a3 := ren_arr (ρ := σ) (o := some a) (sz := sz) (es := es) (by rw [a2]; rfl)
          refine .inr ⟨sz, es, by rw [a1]; exact a3, g3, ?_⟩
          rcases g4 with g4 | ⟨g4, g5⟩
          · exact .inl g4
          · exact .inr ⟨g4, by rw [g5]; exact em⟩
      | false =>
        rw [mergeR_out hp] at hc
        rw [hμout k hp]
        exact .inl ⟨hc, rfl⟩
    · intro k o hc hl
      cases hp : p k with
      | true =>
        obtain ⟨o', g1, rfl⟩ := hback k o hp hc
        rw [hμin k hp] at hl ⊢
        rcases hs.blk (σ k) o' g1 (live_ren.1 hl) with ⟨q1, ⟨o0, q2, q3⟩, q4⟩ | q1
        · obtain ⟨a, a1, rfl⟩ := hsub (σ k) _ q2
          rw [(h2 k hp).2] at a1
          have em : μH (σ k) = μ k := by show μ (ρ (σ k)) = μ k; rw [(h2 k hp).2]
          rw [em] at q3 q4
          exact .inl ⟨(hr.keys k a a1).1, ⟨a, a1, live_ren.1 q3⟩, q4⟩
        · exact .inr q1
      | false =>
        rw [mergeR_out hp] at hc
        rw [hμout k hp] at hl ⊢
        exact .inl ⟨(hr.keys k o hc).1, ⟨o, hc, hl⟩, rfl⟩
  have hT' : ∀ b, Tot M μL (L.mergeR ρ σ p L') b → Tot M' μ' L' b := by
    rintro b (hb | ⟨k, o, q1, q2, q3⟩)
    · exact .inl (.inl hb)
    · cases hp : p k with
      | true =>
        obtain ⟨o', g1, rfl⟩ := hback k o hp q1
        rw [hμin k hp] at q2 q3
        exact .inr ⟨σ k, o', g1, live_ren.1 q2, q3⟩
      | false =>
        rw [mergeR_out hp] at q1
        rw [hμout k hp] at q2 q3
        exact .inl (.inr ⟨k, o, hp, q1, q2, q3⟩)
  have hL' : ∀ k, Nat.blt k H.next = true → (L.mergeR ρ σ p L').get (ρ k) = (L'.get k).map (DObj.ren ρ) ∧ μL (ρ k) = μ' k := fun k hk => by
    have hk : k < H.next := by simpa using hk
    obtain ⟨g1, g2, _⟩ := h1 k hk
    exact ⟨by rw [mergeR_in g1, g2], by rw [hμin _ g1, g2]⟩
  have hnew : ∀ k o, L'.get k = some o → liveAt (μ' k) o → ∀ j oj, p j = false → L.get j = some oj → liveAt (μ j) oj → (μ' k).blk ≠ (μ j).blk := by
    intro k o hk hl j oj hj q2 q3 he
    exact (hr'.live k o hk hl).2.1 (.inr ⟨j, oj, hj, q2, q3, he.symm⟩)
  have hdk : d.keys (fun k => Nat.blt k H.next) = true := by rw [keys_under, ← hn']; exact hdu
  have hρu : ∀ k, k < H.next → ρ k < L.next := fun k hk => (h1 k hk).2.2
  refine ⟨⟨hr'.ext, fun b hb => hr'.mlt b (.inl hb), ?_, ?_, ?_, ?_, hr.base, hr.lob, hr.glb⟩, hv.ren hdk hT' hL', ren_under hρu d (by rw [← hn']; exact hdu), hstp⟩
  · intro k o hk
    cases hp : p k with
    | true =>
      obtain ⟨o', g1, rfl⟩ := hback k o hp hk
      have g2 := (hr'.keys (σ k) o' g1).2
      rw [hn'] at g2
      have := hρu (σ k) (h2 k hp).1
      rw [(h2 k hp).2] at this
      exact ⟨this, obj_ren_under hρu g2⟩
    | false => rw [mergeR_out hp] at hk; exact hr.keys k o hk
  · intro k o hk hl
    cases hp : p k with
    | true =>
      obtain ⟨o', g1, rfl⟩ := hback k o hp hk
      rw [hμin k hp] at hl ⊢
      obtain ⟨q1, q2, q3⟩ := hr'.live (σ k) o' g1 (live_ren.1 hl)
      refine ⟨q1, fun hM => q2 (.inl hM), fun _ => q3 (by rw [hs.lo, hlo]; exact Nat.zero_le _)⟩
    | false =>
      rw [mergeR_out hp] at hk
      rw [hμout k hp] at hl ⊢
      obtain ⟨q1, q2, q3⟩ := hr.live k o hk hl
      exact ⟨Nat.lt_of_lt_of_le q1 hs.size, q2, q3⟩
  · intro k o k' o' q1 q2 q3 q4 q5
    cases hp : p k with
    | true =>
      cases hp' : p k' with
      | true =>
        obtain ⟨a, a1, rfl⟩ := hback k o hp q1
        obtain ⟨b, b1, rfl⟩ := hback k' o' hp' q3
        rw [hμin k hp] at q2 q5
        rw [hμin k' hp'] at q4 q5
        have e := hr'.inj (σ k) a (σ k') b a1 (live_ren.1 q2) b1 (live_ren.1 q4) q5
        rw [← (h2 k hp).2, ← (h2 k' hp').2, e]
      | false =>
        obtain ⟨a, a1, rfl⟩ := hback k o hp q1
        rw [mergeR_out hp'] at q3
        rw [hμin k hp] at q2 q5
        rw [hμout k' hp'] at q4 q5
        exact absurd q5 (hnew (σ k) a a1 (live_ren.1 q2) k' o' hp' q3 q4)
    | false =>
      cases hp' : p k' with
      | true =>
        obtain ⟨b, b1, rfl⟩ := hback k' o' hp' q3
        rw [mergeR_out hp] at q1
        rw [hμout k hp] at q2 q5
        rw [hμin k' hp'] at q4 q5
        exact absurd q5.symm (hnew (σ k') b b1 (live_ren.1 q4) k o hp q1 q2)
      | false =>
        rw [mergeR_out hp] at q1
        rw [mergeR_out hp'] at q3
        rw [hμout k hp] at q2 q5
        rw [hμout k' hp'] at q4 q5
        exact hr.inj k o k' o' q1 q2 q3 q4 q5
  · intro k o hk
    cases hp : p k with
    | true =>
      obtain ⟨a, a1, rfl⟩ := hback k o hp hk
      have g2 := (hr'.keys (σ k) a a1).2
      rw [hn'] at g2
      exact (hr'.obj (σ k) a a1).ren (obj_keys g2) (hμin k hp) hT' hL'
    | false =>
      rw [mergeR_out hp] at hk
      exact (hr.obj k o hk).stp hstp (hμout k hp) (hframe k o hp hk) (hr.keys k o hk).2

/-! the renaming told by a list: key k of the callee's heap is the k-th of the list -/
def rhoR (rs : List Nat) (k : Nat) : Nat := rs.getD k 0
def memR : List Nat → Nat → Bool
  | [], _ => false
  | x :: r, k => bif Nat.beq k x then true else memR r k
def sigR : List Nat → Nat → Nat
  | [], _ => 0
  | x :: r, k => bif Nat.beq k x then 0 else sigR r k + 1
def nodR : List Nat → Bool
  | [] => true
  | x :: r => bif memR r x then false else nodR r
theorem sigR_in : ∀ {rs : List Nat} {k : Nat}, memR rs k = true → sigR rs k < rs.length ∧ rhoR rs (sigR rs k) = k
  | [], _, h => by cases h
  | x :: r, k, h => by
    cases hk : Nat.beq k x with
    | true =>
      have e : k = x := Nat.eq_of_beq_eq_true hk
      simp only [sigR, hk, cond_true]
      exact ⟨by simp, e.symm⟩
    | false =>
      simp only [memR, hk, cond_false] at h
      obtain ⟨h1, h2⟩ := sigR_in h
      simp only [sigR, hk, cond_false]
      exact ⟨by simpa using h1, by simpa [rhoR] using h2⟩
theorem memR_get : ∀ {rs : List Nat} {i : Nat}, i < rs.length → memR rs (rhoR rs i) = true
  | [], _, h => by simp at h
  | x :: r, 0, _ => by simp [rhoR, memR, Nat.beq_refl]
  | x :: r, i + 1, h => by
    have := memR_get (rs := r) (i := i) (by simpa using h)
    have e : rhoR (x :: r) (i + 1) = rhoR r i := by simp [rhoR]
    rw [e, memR]
    cases Nat.beq (rhoR r i) x with
    | true => rfl
    | false => exact this
theorem sigR_get : ∀ {rs : List Nat} {i : Nat}, nodR rs = true → i < rs.length → sigR rs (rhoR rs i) = i
  | [], _, _, h => by simp at h
  | x :: r, 0, _, _ => by simp [rhoR, sigR, Nat.beq_refl]
  | x :: r, i + 1, hn, h => by
    have e : rhoR (x :: r) (i + 1) = rhoR r i := by simp [rhoR]
    have hi : i < r.length := by simpa using h
    rw [nodR] at hn
    cases hm : memR r x with
    | true => rw [hm] at hn; cases hn
    | false =>
      rw [hm, cond_false] at hn
      have h1 := sigR_get hn hi
      have h2 := memR_get hi
      rw [e, sigR]
      cases hb : Nat.beq (rhoR r i) x with
      | true => rw [Nat.eq_of_beq_eq_true hb, hm] at h2; cases h2
      | false => rw [cond_false, h1]
def agrR (g g' : Nat → Option DObj) (rs : List Nat) : Nat → Prop
  | 0 => True
  | n + 1 => (g n = (g' (rhoR rs n)).map (DObj.ren (sigR rs)) ∧ (g' (rhoR rs n)).elim true (DObj.keys (memR rs)) = true) ∧ agrR g g' rs n
theorem agrR_lt {g g' : Nat → Option DObj} {rs : List Nat} : ∀ {n : Nat}, agrR g g' rs n → ∀ k, k < n → g k = (g' (rhoR rs k)).map (DObj.ren (sigR rs)) ∧ (g' (rhoR rs k)).elim true (DObj.keys (memR rs)) = true
  | 0, _, k, h => by omega
  | n + 1, ha, k, h => by
    by_cases e : k = n
    · subst e; exact ha.1
    · exact agrR_lt ha.2 k (by omega)
theorem DC.callR {f : FuncId} {args : List DV} {L : DH} {K : DV → DH → Prop} (rs : List Nat) (Hl : List (Nat × DObj)) (hn : nodR rs = true) (hlt : (rs.all fun k => Nat.blt k L.next) = true) (hlo : L.lo = 0) (hag : agrR (objsOf Hl) L.get rs rs.length)
    (hu : wkU rs.length [] Hl = true) (hargs : DV.keyss (memR rs) args = true) (hargsU : DV.unders rs.length (DV.rens (sigR rs) args) = true)
    (h : ∀ M, DC P M w0 f (DV.rens (sigR rs) args) ⟨rs.length, 0, rs.length, objsOf Hl⟩ fun d L' => L'.next = rs.length ∧ K (d.ren (rhoR rs)) (L.mergeR (rhoR rs) (sigR rs) (memR rs) L')) : DC P M w0 f args L K := by
  simp only [wkU, List.all_nil, Bool.true_and, List.all_eq_true, Bool.and_eq_true] at hu
  refine DC.ren (H := ⟨rs.length, 0, rs.length, objsOf Hl⟩) (rhoR rs) (sigR rs) (memR rs) (fun k hk => ⟨memR_get hk, sigR_get hn hk, ?_⟩) (fun k hk => sigR_in hk) (fun k hk => (agrR_lt hag k hk).1) (fun k o hk ho => ?_) (fun k hk => ?_) rfl hlo (Nat.le_refl _)
    (fun k o hk => (hu _ (objsOf_mem hk)).2) hargs hargsU h
  · rw [List.all_eq_true] at hlt
    have hk : k < rs.length := hk
    have := hlt (rhoR rs k) (by rw [rhoR, List.getD_eq_getElem?_getD, List.getElem?_eq_getElem hk]; exact List.getElem_mem hk)
    simpa using this
  · have := (agrR_lt hag k hk).2
    rw [ho] at this
    exact this
  · cases hg : objsOf Hl k with
    | none => exact hg
    | some o =>
      have := (hu _ (objsOf_mem hg)).1
      have h1 : k < rs.length := by simpa using this
      have h2 : rs.length ≤ k := hk
      omega
end
end Go.Dv
namespace Go.Dv
section
variable {P : Program} {M : Nat → Prop} {w0 : World}

theorem whenOff {c : Bool} {A B : DV → Prop} (hc : c = false) (h2 : B (.pv (.bool false))) : WhenQ (fun d => c = true → A d) B :=
  WhenQ.mk (d := .pv (.bool false)) (fun h => by rw [hc] at h; cases h) h2
/-! operations at objects that are told by a hypothesis -/
/-! own arrays lent to a call -/
/-! a poorer state whose last objects are told by a property -/
/-- What a function yields may be taken for more. -/
theorem PureFn.res {f : FuncId} {ps : List PV} {p q : PV} (h : PureFn P f ps p) (hle : PLe p q) : PureFn P f ps q :=
  PureFn.mk ⟨h.elim.1, fun M w vs hG hM hrel => (h.elim.2 M w vs hG hM hrel).mono fun _ _ ⟨v, he, hv, hb⟩ => ⟨v, he, hle.rel hv, hb⟩⟩
end
end Go.Dv
set_option maxRecDepth 100000
set_option maxHeartbeats 4000000
namespace Go.Proofs.YtjdmfhggokfflaaGreatDoor
open Go Go.Dv

theorem updI_ok {m : Mo} {a : Act} (h : (updI m a).2.2 = 0) : moaI m a = 0 ∧ (updI m a).2.1 = pairsL m a ∧ (updI m a).1 = prodM m a (pairsL m a) ∧ 1 ≤ (pairsL m a).length ∧ (pairsL m a).length ≤ 64 := by
  unfold updI at h ⊢
  cases h1 : ((worldsI m a).2 != 0) with
  | true => rw [h1] at h; simp only [cond_true] at h; rw [h] at h1; cases h1
  | false =>
    rw [h1] at h
    obtain ⟨k1, k2, k3⟩ := worldsI_ok (m := m) (a := a) (by simpa using h1)
    cases h2 : decide (((worldsI m a).1.length : Int) > 64) with
    | true => rw [h2] at h; cases h
    | false =>
      have := of_decide_eq_false h2
      rw [k2] at this
      refine ⟨k1, ?_, ?_, k3, by omega⟩
      · rw [k2]; rfl
      · rw [k2]; rfl
theorem getD_map_range {β : Type} {f : Nat → β} {n i : Nat} {d : β} (h : i < n) : ((List.range n).map f).getD i d = f i := by
  rw [List.getD_eq_getElem?_getD, List.getElem?_map, List.getElem?_range h]; rfl
end Go.Proofs.YtjdmfhggokfflaaGreatDoor
set_option maxRecDepth 100000
set_option maxHeartbeats 4000000
namespace Go.Proofs.YtjdmfhggokfflaaGreatDoor
open Go Go.Dv

def restPV (x : Mo × List Nat × Int) : PV := .tup [x.1.pv, intsPV x.2.1, .int .i64 x.2.2]
theorem le_rest (e : Int) : PLe (.tup [.agg [.int .i64 0, .nil, .nil], .nil, .int .i64 e]) (restPV (noMo, [], e)) := PLe.tups ⟨le_noMo, .nil, .refl _, trivial⟩
theorem nand_all {s n : Nat} (hs : s < 2 ^ n) (hn : n ≤ 64) : andNotU (s : Nat) ((2 ^ n - 1 : Nat) : Int) = 0 := by
  have h64 : s < 2 ^ 64 := Nat.lt_of_lt_of_le hs (pow64_le hn)
  rw [andNotU_eq h64, Nat.and_two_pow_sub_one_eq_mod, Nat.mod_eq_of_lt hs, Nat.xor_self]; rfl
theorem md_Restrict (m : Mo) (n s : Nat) (hM : OkM m n) (hs : s < 2 ^ n) (h0 : s ≠ 0) : PureFn Tryz.prog 34 [m.pv, u64 s] (restPV (arrI m (memL s), memL s, 0)) := by
  refine PureFn.intro mixed (fn := Tryz.f34) rfl rfl rfl fun M w0 => ?_
  have hn64 := hM.n64
  have hs64 : s < 2 ^ 64 := Nat.lt_of_lt_of_le hs (pow64_le hn64)
  have hC := md_Check m hM.fit
  rw [ok_moI hM] at hC
  have hA := md_all n (by omega)
  rw [show i64 n = .int .i64 m.n by rw [hM.nn]; rfl] at hA
  have hB := md_members s hs64
  have hR := md_arrange m (memL s) n hM (fun w hw => bit_lt hs (memL_mem.1 hw).2) (memL_len s)
  have hz := nand_all hs hn64
  have h0' : ¬ (s : Int) = 0 := by omega
  generalize memL s = ws at hB hR
  (try conv=>whnf);repeat' (first|(apply And.intro<;>try conv=>whnf)|(intro h;try conv=>whnf)|(refine PureFn.dcq (f := 58) rfl ?_;try conv=>whnf)|(refine PureFn.dcq (f := 59) rfl ?_;try conv=>whnf)|(refine PureFn.dcq (f := 60) rfl ?_;try conv=>whnf)|(refine PureFn.dcq (f := 61) rfl ?_;try conv=>whnf)|(refine ⟨_, _, hC, ?_, ?_⟩;(focus first|(refine ⟨?_, trivial⟩<;>first|exact PLe.refl _|exact PLe.nil)|exact trivial);try conv=>whnf)|(refine ⟨_, _, hA, ?_, ?_⟩;(focus first|(refine ⟨?_, trivial⟩<;>first|exact PLe.refl _|exact PLe.nil)|exact trivial);try conv=>whnf)|(refine ⟨_, _, hB, ?_, ?_⟩;(focus first|(refine ⟨?_, trivial⟩<;>first|exact PLe.refl _|exact PLe.nil)|exact trivial);try conv=>whnf)|(refine ⟨_, _, hR, ?_, ?_⟩;(focus first|(refine ⟨?_, ?_, trivial⟩<;>first|exact PLe.refl _|exact PLe.nil)|exact trivial);try conv=>whnf)|fail)
  · exact absurd (show ((0 : Int) != 0) = true from h) (by decide)
  · have h1 : (andNotU (s : Nat) ((2 ^ n - 1 : Nat) : Int) != 0) = true := h
    rw [hz] at h1; exact absurd h1 (by decide)
  · have h1 : ((s : Int) == 0) = true := h
    exact absurd (by simpa using h1) h0'
  · exact .refl _
theorem holds_split' {m : Mo} {f : List Nd} (h : (holdsI m f).2 = 0) : reqI m f = 0 := by
  by_cases q : reqI m f = 0
  · exact q
  · rw [holdsI, show (reqI m f != 0) = true by simpa using q] at h
    exact absurd h q
/-- An announcement. -/
def annI (m : Mo) (f : List Nd) : Mo × List Nat × Int := bif (holdsI m f).2 != 0 then (noMo, [], (holdsI m f).2) else bif (holdsI m f).1 == 0 then (noMo, [], 11) else (arrI m (memL (holdsI m f).1), memL (holdsI m f).1, 0)
theorem an_Update (m : Mo) (f : List Nd) (hf : FitM m) : PureFn Tryz.prog 13 [m.pv, fpv f] (restPV (annI m f)) := by
  have hH := ck_Holds m f hf
  by_cases h0 : (holdsI m f).2 = 0
  · obtain ⟨n, hM⟩ := (reqI_ok (holds_split' h0)).1
    have hlt := holds_lt (f := f) n hM
    have hR := fun hs => md_Restrict m n (holdsI m f).1 hM hlt hs
    have hX : annI m f = bif (holdsI m f).1 == 0 then (noMo, [], 11) else (arrI m (memL (holdsI m f).1), memL (holdsI m f).1, 0) := by rw [annI, h0]; rfl
    rw [hX]
    rw [show holdsI m f = ((holdsI m f).1, 0) from Prod.ext rfl h0] at hH
    generalize (holdsI m f).1 = s at hH hR
    by_cases hs : s = 0
    · subst hs
      refine PureFn.intro mixed (fn := Tryz.f13) rfl rfl rfl fun M w0 => ?_
      (try conv=>whnf);repeat' (first|(apply And.intro<;>try conv=>whnf)|(intro h;try conv=>whnf)|(refine PureFn.dcq (f := 11) rfl ?_;try conv=>whnf)|(refine ⟨_, _, hH, ?_, ?_⟩;(focus first|(refine ⟨?_, ?_, trivial⟩<;>first|exact PLe.refl _|exact PLe.nil)|exact trivial);try conv=>whnf)|fail)
      all_goals first
        | exact absurd (show ((0 : Int) != 0) = true from h) (by decide)
        | exact absurd (show ((0 : Int) == 0) = false from h) (by decide)
        | exact le_rest _
    · have hR := hR hs
      have hb : (s == 0) = false := by simpa using hs
      rw [hb]
      refine PureFn.intro mixed (fn := Tryz.f13) rfl rfl rfl fun M w0 => ?_
      (try conv=>whnf);repeat' (first|(apply And.intro<;>try conv=>whnf)|(intro h;try conv=>whnf)|(refine PureFn.dcq (f := 11) rfl ?_;try conv=>whnf)|(refine PureFn.dcq (f := 34) rfl ?_;try conv=>whnf)|(refine ⟨_, _, hH, ?_, ?_⟩;(focus first|(refine ⟨?_, ?_, trivial⟩<;>first|exact PLe.refl _|exact PLe.nil)|exact trivial);try conv=>whnf)|(refine ⟨_, _, hR, ?_, ?_⟩;(focus first|(refine ⟨?_, ?_, trivial⟩<;>first|exact PLe.refl _|exact PLe.nil)|exact trivial);try conv=>whnf)|fail)
      · exact absurd (show ((0 : Int) != 0) = true from h) (by decide)
      · have h1 : ((s : Int) == 0) = true := h
        have : (s : Int) = 0 := by simpa using h1
        omega
      · exact .refl _
  · have hb : ((holdsI m f).2 != 0) = true := by simpa using h0
    rw [annI, hb]
    generalize holdsI m f = X at hH hb
    obtain ⟨s, e⟩ := X
    refine PureFn.introC [4] mixed (fn := Tryz.f13) rfl rfl rfl fun M w0 => ?_
    (try conv=>whnf);repeat' (first|(refine PureFn.dcq (f := 11) rfl ?_;try conv=>whnf)|(refine ⟨_, _, hH, ?_, ?_⟩;(focus first|(refine ⟨?_, ?_, trivial⟩<;>first|exact PLe.refl _|exact PLe.nil)|exact trivial);try conv=>whnf)|fail)
    refine ⟨{ _x : Unit // False }, fun _ => [], fun _ => 0, fun _ => [], ?_, fun ⟨_, h⟩ => h.elim⟩
    (try conv=>whnf);repeat' (first|(apply And.intro<;>try conv=>whnf)|(intro h;first|with_reducible exact tf (by assumption) h|try conv=>whnf)|fail)
    · exact le_rest _

/-! the product with a public announcement -/
theorem map_getD' {α β : Type} {l : List α} {g : α → β} {d : α} : (List.range l.length).map (fun i => g (l.getD i d)) = l.map g := by
  apply List.ext_getElem (by simp)
  intro i h1 h2
  have h3 : i < l.length := by simpa using h2
  rw [List.getElem_map, List.getElem_map, List.getElem_range, List.getD_eq_getElem?_getD, List.getElem?_eq_getElem h3]; rfl
theorem pairs_one {p : Nat → Nat} : ∀ n, pairsW p 1 n = ((List.range n).filter (p 0).testBit).map fun w => (w, 0)
  | 0 => rfl
  | n + 1 => by
    rw [pairsW, pairs_one n, List.range_succ, List.filter_append, List.map_append]
    congr 1
    rw [pairsE, pairsE, List.filter_cons, List.filter_nil]
    cases (p 0).testBit n <;> rfl
theorem filter_more {s n : Nat} (hs : s < 2 ^ n) : ∀ d, (List.range (n + d)).filter s.testBit = (List.range n).filter s.testBit
  | 0 => rfl
  | d + 1 => by
    rw [show n + (d + 1) = n + d + 1 by omega, List.range_succ, List.filter_append, filter_more hs d, List.filter_cons, List.filter_nil, Nat.testBit_lt_two_pow (Nat.lt_of_lt_of_le hs (Nat.pow_le_pow_right (by decide) (by omega)))]
    simp
theorem memL_range {s n : Nat} (hs : s < 2 ^ n) (hn : n ≤ 64) : memL s = (List.range n).filter s.testBit := by
  have := filter_more hs (64 - n)
  rw [show n + (64 - n) = 64 by omega] at this
  exact this
def pubA (A : Nat) (f : List Nd) : Act := ⟨[comp f], [[]], onesL A⟩
theorem pubA_act {A F : Nat} {f : List Nd} (hA : A ≤ 4) (hF : F ≤ 8) (hs : statI A F f = 0) : actI (pubA A f) A F = 0 := by
  have hrl : (onesL A).length = A := by simp [onesL]
  have hrb : rowsBad (onesL A) 1 = false := by
    rw [rowsBad, List.any_eq_false]
    intro r hr
    rw [List.eq_of_mem_replicate hr]; simp
  have hbb : bitsBad (onesL A) 1 = false := by
    rw [bitsBad, List.any_eq_false]
    intro r hr
    rw [List.eq_of_mem_replicate hr]; decide
  have hsh : shapeI (pubA A f) A = 0 := by
    unfold shapeI pubA
    simp only [List.length_singleton, hrl, hrb, hbb]
    simp
  have hc : statI A F (comp f) = 0 := by
    obtain ⟨h1, h2⟩ := statM_iff.1 hs
    exact statM_iff.2 ⟨comp_check h1, by rw [comp_comp h1]; exact h2⟩
  rw [actI, decide_eq_false (show ¬ (A : Int) < 0 by omega), decide_eq_false (show ¬ (A : Int) > 4 by omega), decide_eq_false (show ¬ (F : Int) < 0 by omega), decide_eq_false (show ¬ (F : Int) > 8 by omega), hsh]
  show evs' A F [comp f] [[]] = 0
  rw [evs', hc]; rfl
theorem holds_compr {m : Mo} {n : Nat} {f : List Nd} (hM : OkM m n) (hs : statI m.rel.length m.val.length f = 0) : holdsI m (comp f) = holdsI m f := by
  obtain ⟨h1, h2⟩ := statM_iff.1 hs
  have hc : statI m.rel.length m.val.length (comp f) = 0 := statM_iff.2 ⟨comp_check h1, by rw [comp_comp h1]; exact h2⟩
  have k1 : reqI m f = 0 := by rw [reqI, ok_moI hM]; exact hs
  have k2 : reqI m (comp f) = 0 := by rw [reqI, ok_moI hM]; exact hc
  rw [holdsI, holdsI, k1, k2, root_comp h1]
/-- The product with a public announcement is the part of the model where the formula holds. -/
theorem pub_prod {m : Mo} {n : Nat} {f : List Nd} (hM : OkM m n) (hs : statI m.rel.length m.val.length f = 0) :
    pairsL m (pubA m.rel.length f) = (memL (holdsI m f).1).map (fun w => (w, 0)) ∧ prodM m (pubA m.rel.length f) (pairsL m (pubA m.rel.length f)) = arrI m (memL (holdsI m f).1) := by
  have hag := hM.ag
  have hfa := hM.fa
  have hact := pubA_act hag hfa hs
  have hp0 : possP m (pubA m.rel.length f) 0 = (holdsI m f).1 := by
    show (holdsI m (comp f)).1 = _
    rw [holds_compr hM hs]
  have hlt := holds_lt (f := f) n hM
  have hl : pairsL m (pubA m.rel.length f) = (memL (holdsI m f).1).map (fun w => (w, 0)) := by
    rw [pairsL, hM.nn, Int.toNat_natCast, show (pubA m.rel.length f).pre.length = 1 from rfl, pairs_one, hp0, memL_range hlt hM.n64]
  refine ⟨hl, ?_⟩
  rw [hl]
  obtain ⟨ws, hws⟩ : ∃ ws, ws = memL (holdsI m f).1 := ⟨_, rfl⟩
  rw [← hws]
  have hlen : (ws.map fun w => (w, 0)).length = ws.length := List.length_map _
  have hgd : ∀ k, k < ws.length → (ws.map fun w => (w, 0)).getD k (0, 0) = (ws.getD k 0, 0) := fun k hk => by
    rw [List.getD_eq_getElem?_getD, List.getElem?_map, getD_mem hk (d := 0)]; rfl
  have hal := (act_alone hfa hact).1
  rw [prodM, arrI, hlen]
  congr 1
  · rw [← map_getD' (l := m.val) (g := fun s => pullN s ws) (d := 0)]
    apply List.map_congr_left
    intro i hi
    have hi := List.mem_range.1 hi
    have hvi : valI (pubA m.rel.length f) (0 : Nat) (i : Nat) = (buildL (nI 3 i) [], 0) := by
      rw [valI, hal, badF_of (show i < 8 by omega)]; rfl
    have hv : valuP m (pubA m.rel.length f) 0 i = m.val.getD i 0 := by rw [valuP, hvi, holds_fact hM hi]
    rw [valP, pullN, hlen]
    refine maskOf_congr fun k hk => ?_
    rw [hgd k hk]
    show (valuP m (pubA m.rel.length f) 0 i).testBit _ = _
    rw [hv]
  · rw [← map_getD' (l := m.rel) (g := fun r => ws.map fun w => pullN (r.getD w 0) ws) (d := [])]
    apply List.map_congr_left
    intro i hi
    have hi := List.mem_range.1 hi
    have hone : (pubA m.rel.length f).rel.getD i [] = [1] := by
      show (onesL m.rel.length).getD i [] = [1]
      rw [List.getD_eq_getElem?_getD, onesL, List.getElem?_replicate, if_pos hi]; rfl
    rw [relP, hone, List.map_map]
    apply List.map_congr_left
    intro w _
    show rowP (m.rel.getD i []) [1] (ws.map fun w => (w, 0)) (w, 0) = pullN ((m.rel.getD i []).getD w 0) ws
    rw [rowP, pullN, hlen]
    refine maskOf_congr fun k hk => ?_
    rw [hgd k hk, seesP]
    show (bif ((m.rel.getD i []).getD w 0).testBit (ws.getD k 0) then ([1] : List Nat).getD 0 0 |>.testBit 0 else false) = _
    cases ((m.rel.getD i []).getD w 0).testBit (ws.getD k 0) <;> rfl
end Go.Proofs.YtjdmfhggokfflaaGreatDoor
set_option maxRecDepth 100000
set_option maxHeartbeats 4000000
namespace Go.Proofs.YtjdmfhggokfflaaGreatDoor
open Go Go.Dv

/-- A set whose members are told by their places in a list, added to a set. -/
def sprG (t : Nat) : List Nat → Nat → Nat → Nat
  | [], _, acc => acc
  | w :: r, i, acc => sprG t r (i + 1) (acc ||| (bif t.testBit i then 2 ^ w else 0))
theorem sprG_lt {t n : Nat} : ∀ {ws : List Nat} {i acc : Nat}, (∀ w, w ∈ ws → w < n) → acc < 2 ^ n → sprG t ws i acc < 2 ^ n
  | [], _, _, _, h => h
  | w :: r, i, acc, hw, h => by
    rw [sprG]
    refine sprG_lt (fun x hx => hw x (List.mem_cons_of_mem _ hx)) (Nat.or_lt_two_pow h ?_)
    cases t.testBit i with
    | true => exact Nat.pow_lt_pow_right (by decide) (hw w (by simp))
    | false => exact Nat.two_pow_pos n
theorem sprG_drop {t : Nat} {ws : List Nat} {i acc w : Nat} (h : ws[i]? = some w) : sprG t (ws.drop i) i acc = sprG t (ws.drop (i + 1)) (i + 1) (acc ||| (bif t.testBit i then 2 ^ w else 0)) := by
  obtain ⟨h1, h2⟩ := List.getElem?_eq_some_iff.1 h
  rw [List.drop_eq_getElem_cons h1, h2]; rfl
theorem sprG_bit {t : Nat} : ∀ {ws : List Nat} {i acc v : Nat}, (sprG t ws i acc).testBit v = true ↔ acc.testBit v = true ∨ ∃ k : Nat, ws[k]? = some v ∧ t.testBit (i + k) = true
  | [], i, acc, v => by simp [sprG]
  | w :: r, i, acc, v => by
    rw [sprG, sprG_bit, Nat.testBit_or, Bool.or_eq_true]
    constructor
    · rintro ((h | h) | ⟨k, h1, h2⟩)
      · exact .inl h
      · cases hb : t.testBit i with
        | true =>
          rw [hb, cond_true, Nat.testBit_two_pow, decide_eq_true_eq] at h
          exact .inr ⟨0, by rw [h]; rfl, hb⟩
        | false => rw [hb, cond_false, Nat.zero_testBit] at h; cases h
      · exact .inr ⟨k + 1, by simpa using h1, by rw [← h2]; congr 1; omega⟩
    · rintro (h | ⟨k, h1, h2⟩)
      · exact .inl (.inl h)
      · cases k with
        | zero =>
          refine .inl (.inr ?_)
          have : w = v := by simpa using h1
          rw [show t.testBit i = true from h2, cond_true, this, Nat.testBit_two_pow]; simp
        | succ k => exact .inr ⟨k, by simpa using h1, by rw [← h2]; congr 1; omega⟩
/-- A set without the worlds of the pairs of an event whose places are not in a set. -/
def clrN (acc w : Nat) : Nat := acc ^^^ (acc &&& 2 ^ w)
def evG (e : Int) (t : Nat) : List (Nat × Nat) → Nat → Nat → Nat
  | [], _, acc => acc
  | q :: r, i, acc => evG e t r (i + 1) (bif (bif (q.2 : Int) == e then !t.testBit i else false) then clrN acc q.1 else acc)
theorem evG_drop {e : Int} {t : Nat} {l : List (Nat × Nat)} {i acc : Nat} {q : Nat × Nat} (h : l[i]? = some q) : evG e t (l.drop i) i acc = evG e t (l.drop (i + 1)) (i + 1) (bif (bif (q.2 : Int) == e then !t.testBit i else false) then clrN acc q.1 else acc) := by
  obtain ⟨h1, h2⟩ := List.getElem?_eq_some_iff.1 h
  rw [List.drop_eq_getElem_cons h1, h2]; rfl
theorem clrN_lt {acc w n : Nat} (h : acc < 2 ^ n) : clrN acc w < 2 ^ n := Nat.xor_lt_two_pow h (Nat.lt_of_le_of_lt Nat.and_le_left h)
theorem evG_lt {e : Int} {t n : Nat} : ∀ {l : List (Nat × Nat)} {i acc : Nat}, acc < 2 ^ n → evG e t l i acc < 2 ^ n
  | [], _, _, h => h
  | q :: r, i, acc, h => by
    rw [evG]
    refine evG_lt ?_
    cases (bif (q.2 : Int) == e then !t.testBit i else false) with
    | true => exact clrN_lt h
    | false => exact h

/-! where a formula of the dynamic language holds; nothing, if a product is too large -/
def dvT (acts : List Act) : Tr → Mo → Option Nat
  | .none, _ => some 0
  | .nd op i e g a b, m =>
    bif op == 16 then
      match dvT acts a m with
      | none => none
      | some s => bif s == 0 then some (2 ^ m.n.toNat - 1) else match dvT acts b (arrI m (memL s)) with
        | none => none
        | some t => some (sprG t (memL s) 0 (notN m.n.toNat s))
    else bif op == 17 then
      bif (holdsI m ((acts.getD i.toNat noAct).pre.getD e.toNat [])).1 == 0 then some (2 ^ m.n.toNat - 1)
      else bif (updI m (acts.getD i.toNat noAct)).2.2 != 0 then none
      else match dvT acts a (updI m (acts.getD i.toNat noAct)).1 with
        | none => none
        | some t => some (evG e t (updI m (acts.getD i.toNat noAct)).2.1 0 (2 ^ m.n.toNat - 1))
    else match dvT acts a m, dvT acts b m with
      | some x, some y => some (vlN m m.n.toNat op i g x y)
      | _, _ => none
/-- A model and an environment that fit. -/
structure OkD (acts : List Act) (m : Mo) (n : Nat) : Prop where
  okm : OkM m n
  act : ∀ a, a ∈ acts → actI a m.rel.length m.val.length = 0
theorem arr_ok {m : Mo} {n : Nat} (hM : OkM m n) {ws : List Nat} (h1 : 1 ≤ ws.length) (h64 : ws.length ≤ 64) : OkM (arrI m ws) ws.length := by
  refine ⟨rfl, h1, h64, by simp [arrI]; exact hM.ag, by simp [arrI]; exact hM.fa, fun r hr => ?_, fun s hs => ?_, fun r hr s hs => ?_⟩
  · obtain ⟨r0, _, rfl⟩ := List.mem_map.1 hr
    simp
  · obtain ⟨s0, _, rfl⟩ := List.mem_map.1 hs
    exact maskOf_lt _ _
  · obtain ⟨r0, _, rfl⟩ := List.mem_map.1 hr
    obtain ⟨w, _, rfl⟩ := List.mem_map.1 hs
    exact maskOf_lt _ _
theorem OkD.arr {acts : List Act} {m : Mo} {n s : Nat} (h : OkD acts m n) (hs : s < 2 ^ n) (h0 : s ≠ 0) : OkD acts (arrI m (memL s)) (memL s).length := by
  refine ⟨arr_ok h.okm (memL_pos h0 (Nat.lt_of_lt_of_le hs (pow64_le h.okm.n64))) (memL_len s), fun a ha => ?_⟩
  have e1 : (arrI m (memL s)).rel.length = m.rel.length := by simp [arrI]
  have e2 : (arrI m (memL s)).val.length = m.val.length := by simp [arrI]
  rw [e1, e2]
  exact h.act a ha
theorem OkD.upd {acts : List Act} {m : Mo} {n : Nat} {a : Act} (h : OkD acts m n) (h0 : (updI m a).2.2 = 0) : OkD acts (updI m a).1 (updI m a).2.1.length ∧ ∀ q, q ∈ (updI m a).2.1 → q.1 < n := by
  obtain ⟨k1, k2, k3, k4, k5⟩ := updI_ok h0
  rw [k2, k3]
  refine ⟨⟨prod_ok h.okm k4 k5, fun b hb => ?_⟩, fun q hq => ?_⟩
  · have e1 : (prodM m a (pairsL m a)).rel.length = m.rel.length := by simp [prodM]
    have e2 : (prodM m a (pairsL m a)).val.length = m.val.length := by simp [prodM]
    rw [e1, e2]
    exact h.act b hb
  · rw [pairsL, h.okm.nn] at hq
    exact (pairsW_mem.1 hq).1
end Go.Proofs.YtjdmfhggokfflaaGreatDoor
set_option maxRecDepth 100000
set_option maxHeartbeats 4000000
namespace Go.Proofs.YtjdmfhggokfflaaGreatDoor
open Go Go.Dv

theorem dvT_lt {acts : List Act} : ∀ (t : Tr) {m : Mo} {n s : Nat}, OkM m n → dvT acts t m = some s → s < 2 ^ n
  | .none, m, n, s, hM, h => by
    rw [dvT] at h
    cases h
    exact Nat.two_pow_pos n
  | .nd op i e g a b, m, n, s, hM, h => by
    have hnn : m.n.toNat = n := by rw [hM.nn, Int.toNat_natCast]
    have hall : 2 ^ n - 1 < 2 ^ n := by have := Nat.two_pow_pos n; omega
    rw [dvT] at h
    cases h16 : (op == 16) with
    | true =>
      rw [h16, cond_true] at h
      cases hx : dvT acts a m with
      | none => rw [hx] at h; cases h
      | some x =>
        rw [hx] at h
        have hxl := dvT_lt a hM hx
        simp only at h
        cases hz : (x == 0) with
        | true => rw [hz, cond_true, hnn] at h; cases h; exact hall
        | false =>
          rw [hz, cond_false] at h
          cases hy : dvT acts b (arrI m (memL x)) with
          | none => rw [hy] at h; cases h
          | some y =>
            rw [hy] at h
            have h := Option.some.inj h
            rw [← h, hnn]
            exact sprG_lt (fun w hw => bit_lt hxl (memL_mem.1 hw).2) (notN_lt _ _)
    | false =>
      rw [h16, cond_false] at h
      cases h17 : (op == 17) with
      | true =>
        rw [h17, cond_true] at h
        cases hp : ((holdsI m ((acts.getD i.toNat noAct).pre.getD e.toNat [])).1 == 0) with
        | true => rw [hp, cond_true, hnn] at h; cases h; exact hall
        | false =>
          rw [hp, cond_false] at h
          cases hc : ((updI m (acts.getD i.toNat noAct)).2.2 != 0) with
          | true => rw [hc, cond_true] at h; cases h
          | false =>
            rw [hc, cond_false] at h
            cases hy : dvT acts a (updI m (acts.getD i.toNat noAct)).1 with
            | none => rw [hy] at h; cases h
            | some y =>
              rw [hy] at h
              have h := Option.some.inj h
              rw [← h, hnn]
              exact evG_lt hall
      | false =>
        rw [h17, cond_false] at h
        cases hx : dvT acts a m with
        | none => rw [hx] at h; cases h
        | some x =>
          cases hy : dvT acts b m with
          | none => rw [hx, hy] at h; cases h
          | some y =>
            rw [hx, hy] at h
            have h := Option.some.inj h
            rw [← h, hnn]
            exact vlN_lt hM.vbits (dvT_lt a hM hx) (dvT_lt b hM hy)
/-- Nodes of the static language. -/
def stOp (op _i _e _g : Int) : Bool := decide (op ≤ 13)
theorem dvT_static {acts : List Act} {m : Mo} : ∀ (t : Tr), allT stOp t = true → dvT acts t m = some (vlT m m.n.toNat t)
  | .none, _ => rfl
  | .nd op i e g a b, h => by
    rw [allT, Bool.and_eq_true, Bool.and_eq_true] at h
    obtain ⟨⟨h0, h1⟩, h2⟩ := h
    have h13 : op ≤ 13 := of_decide_eq_true h0
    rw [dvT, show (op == 16) = false by simp; omega, show (op == 17) = false by simp; omega, cond_false, cond_false, dvT_static a h1, dvT_static b h2, vlT]
/-! requests -/
def actsI (A F : Int) : List Act → Int
  | [] => 0
  | a :: r => bif actI a A F != 0 then actI a A F else actsI A F r
def chkD (m : Mo) (acts : List Act) : Int := bif moI m != 0 then moI m else bif decide ((acts.length : Int) > 8) then 8 else actsI (m.rel.length : Int) (m.val.length : Int) acts
def badA (acts : List Act) (x : Nd) : Bool := bif x.op == 17 then (bif decide (x.i ≥ (acts.length : Int)) then true else decide (x.e ≥ ((acts.getD x.i.toNat noAct).pre.length : Int))) else false
def reqD (m : Mo) (acts : List Act) (f : List Nd) : Int :=
  bif chkD m acts != 0 then chkD m acts else bif check f != 0 then check f else bif nand64' (frags f : Nat) 207 != 0 then 10 else bif !fits f (m.rel.length : Int) (m.val.length : Int) then 2 else bif (comp f).any (badA acts) then 6 else 0
def dynI (m : Mo) (acts : List Act) (f : List Nd) : Nat × Int := bif reqD m acts f != 0 then (0, reqD m acts f) else match dvT acts (root f) m with
  | none => (0, 8)
  | some s => (s, 0)
theorem actsI_ok {A F : Int} : ∀ {l : List Act}, actsI A F l = 0 → ∀ a, a ∈ l → actI a A F = 0
  | [], _, a, ha => by cases ha
  | b :: r, h, a, ha => by
    rw [actsI] at h
    cases hb : (actI b A F != 0) with
    | true => rw [hb] at h; simp only [cond_true] at h; rw [h] at hb; cases hb
    | false =>
      rw [hb] at h
      rcases List.mem_cons.1 ha with rfl | ha
      · simpa using hb
      · exact actsI_ok (show actsI A F r = 0 from h) a ha
theorem ok_actsI {A F : Int} : ∀ {l : List Act}, (∀ a, a ∈ l → actI a A F = 0) → actsI A F l = 0
  | [], _ => rfl
  | b :: r, h => by
    rw [actsI, h b (by simp)]
    exact ok_actsI fun a ha => h a (List.mem_cons_of_mem _ ha)
theorem chkD_ok {m : Mo} {acts : List Act} (h : chkD m acts = 0) : ∃ n, OkD acts m n ∧ acts.length ≤ 8 := by
  unfold chkD at h
  cases h1 : (moI m != 0) with
  | true => rw [h1] at h; simp only [cond_true] at h; rw [h] at h1; cases h1
  | false =>
    rw [h1, cond_false] at h
    cases h2 : decide ((acts.length : Int) > 8) with
    | true => rw [h2] at h; cases h
    | false =>
      rw [h2, cond_false] at h
      obtain ⟨n, hM⟩ := moI_ok (m := m) (by simpa using h1)
      have := of_decide_eq_false h2
      exact ⟨n, ⟨hM, actsI_ok h⟩, by omega⟩
theorem ok_chkD {m : Mo} {acts : List Act} {n : Nat} (h : OkD acts m n) (h8 : acts.length ≤ 8) : chkD m acts = 0 := by
  rw [chkD, ok_moI h.okm, decide_eq_false (by omega), ok_actsI h.act]; rfl
/-- May a node of a formula be asked for? -/
def ndQ (A F : Nat) (acts : List Act) (op i e g : Int) : Bool :=
  decide (fragN ⟨op, i, e, g, 0, 0⟩ &&& 207 = fragN ⟨op, i, e, g, 0, 0⟩) && decide (agN ⟨op, i, e, g, 0, 0⟩ < 2 ^ A) && decide (factN ⟨op, i, e, g, 0, 0⟩ < 2 ^ F) && !badA acts ⟨op, i, e, g, 0, 0⟩
theorem nand_sub {a b : Nat} (ha : a < 2 ^ 62) : nand64' (a : Int) (b : Int) = 0 ↔ subM a b = true := by rw [← nand_zero ha, beq_iff_eq]
theorem orN_in {m : Nd → Nat} : ∀ {c : List Nd} {y : Nd}, y ∈ c → Sub (m y) (orN m c)
  | x :: r, y, h => by
    rw [orN_cons]
    intro i hi
    rw [Nat.testBit_or, Bool.or_eq_true]
    rcases List.mem_cons.1 h with rfl | h
    · exact .inl hi
    · exact .inr (orN_in h i hi)
theorem orN_all {m : Nd → Nat} {b : Nat} : ∀ {c : List Nd}, (∀ x, x ∈ c → Sub (m x) b) → Sub (orN m c) b
  | [], _ => fun i hi => by simp [orN] at hi
  | x :: r, h => by
    rw [orN_cons]
    exact or_sub (h x (by simp)) (orN_all fun y hy => h y (List.mem_cons_of_mem _ hy))
theorem and_self_sub {a b : Nat} : a &&& b = a ↔ Sub a b := by
  constructor
  · intro h i hi
    rw [← h, Nat.testBit_and, Bool.and_eq_true] at hi
    exact hi.2
  · intro h
    apply Nat.eq_of_testBit_eq
    intro i
    rw [Nat.testBit_and]
    cases hb : a.testBit i with
    | false => rfl
    | true => rw [h i hb]; rfl
theorem reqD_iff {m : Mo} {acts : List Act} {f : List Nd} : reqD m acts f = 0 ↔ chkD m acts = 0 ∧ check f = 0 ∧ ∀ x, x ∈ comp f → ndQ m.rel.length m.val.length acts x.op x.i x.e x.g = true := by
  have hfr : frags f < 2 ^ 62 := Nat.lt_of_lt_of_le (frags_lt f) (by decide)
  have hag := agents_lt f
  have hfa := facts_lt f
  have e1 : ∀ x : Nd, fragN ⟨x.op, x.i, x.e, x.g, 0, 0⟩ = fragN x := fun x => rfl
  have e2 : ∀ x : Nd, agN ⟨x.op, x.i, x.e, x.g, 0, 0⟩ = agN x := fun x => rfl
  have e3 : ∀ x : Nd, factN ⟨x.op, x.i, x.e, x.g, 0, 0⟩ = factN x := fun x => rfl
  have e4 : ∀ x : Nd, badA acts ⟨x.op, x.i, x.e, x.g, 0, 0⟩ = badA acts x := fun x => rfl
  constructor
  · intro h
    unfold reqD at h
    cases h1 : (chkD m acts != 0) with
    | true => rw [h1] at h; simp only [cond_true] at h; rw [h] at h1; cases h1
    | false =>
      rw [h1, cond_false] at h
      cases h2 : (check f != 0) with
      | true => rw [h2] at h; simp only [cond_true] at h; rw [h] at h2; cases h2
      | false =>
        rw [h2, cond_false] at h
        cases h3 : (nand64' (frags f : Nat) 207 != 0) with
        | true => rw [h3] at h; cases h
        | false =>
          rw [h3, cond_false] at h
          cases h4 : (!fits f (m.rel.length : Int) (m.val.length : Int)) with
          | true => rw [h4] at h; cases h
          | false =>
            rw [h4, cond_false] at h
            cases h5 : (comp f).any (badA acts) with
            | true => rw [h5] at h; cases h
            | false =>
              have hc : check f = 0 := by simpa using h2
              have hfit : fits f (m.rel.length : Int) (m.val.length : Int) = true := by simpa using h4
              have h6 : belowB (agents f) (m.rel.length : Int) = true ∧ belowB (facts f) (m.val.length : Int) = true := by
                unfold fits at hfit
                rw [hc] at hfit
                cases hb : belowB (agents f) (m.rel.length : Int) with
                | true => rw [hb] at hfit; exact ⟨rfl, hfit⟩
                | false => rw [hb] at hfit; cases hfit
              rw [below_lt hag (by decide), below_lt hfa (by decide)] at h6
              have h7 : subM (frags f) 207 = true := (nand_sub hfr).1 (by simpa using h3)
              rw [subM_iff] at h7
              refine ⟨by simpa using h1, hc, fun x hx => ?_⟩
              simp only [ndQ, e1, e2, e3, e4, Bool.and_eq_true, decide_eq_true_eq]
              refine ⟨⟨⟨and_self_sub.2 ((orN_in hx).trans h7), Nat.lt_of_le_of_lt (orN_le hx) h6.1⟩, Nat.lt_of_le_of_lt (orN_le hx) h6.2⟩, ?_⟩
              have := List.any_eq_false.1 h5 x hx
              simpa using this
  · rintro ⟨h1, h2, h3⟩
    have h4 : ∀ x, x ∈ comp f → fragN x &&& 207 = fragN x ∧ agN x < 2 ^ m.rel.length ∧ factN x < 2 ^ m.val.length ∧ badA acts x = false := fun x hx => by
      have := h3 x hx
      simp only [ndQ, e1, e2, e3, e4, Bool.and_eq_true, decide_eq_true_eq] at this
      exact ⟨this.1.1.1, this.1.1.2, this.1.2, by simpa using this.2⟩
    have h5 : nand64' (frags f : Nat) 207 = 0 := (nand_sub (b := 207) hfr).2 (subM_iff.2 (orN_all fun x hx => and_self_sub.1 (h4 x hx).1))
    have h6 : agents f < 2 ^ m.rel.length := orN_lt fun x hx => (h4 x hx).2.1
    have h7 : facts f < 2 ^ m.val.length := orN_lt fun x hx => (h4 x hx).2.2.1
    have h8 : fits f (m.rel.length : Int) (m.val.length : Int) = true := by
      unfold fits
      rw [h2, (below_lt hag (by decide)).2 h6, show belowB (facts f) (m.val.length : Int) = true from (below_lt hfa (by decide)).2 h7]; rfl
    have h9 : (comp f).any (badA acts) = false := List.any_eq_false.2 fun x hx => by rw [(h4 x hx).2.2.2]; simp
    rw [reqD, h1, h2, h5, h8, h9]; rfl
theorem can_reqD {m : Mo} {acts : List Act} {f : List Nd} (h : reqD m acts f = 0) : Can (comp f) ∧ (comp f).length ≤ f.length ∧ root (comp f) = root f ∧ allT (ndQ m.rel.length m.val.length acts) (root f) = true := by
  obtain ⟨_, h1, h2⟩ := reqD_iff.1 h
  refine ⟨comp_can h1, comp_le h1, root_comp h1, ?_⟩
  rw [← root_comp h1]
  exact trn_all h2 _ _
end Go.Proofs.YtjdmfhggokfflaaGreatDoor
set_option maxRecDepth 100000
set_option maxHeartbeats 4000000
namespace Go.Proofs.YtjdmfhggokfflaaGreatDoor
open Go Go.Dv

theorem comN_nil (n c s : Nat) : comN n [] c s = 2 ^ n - 1 := by
  have hz : ∀ w, pathN n [] c w = 0 := fun w => by
    have hall : ∀ m, rndR [([] : List Nat).map fun a => a &&& c] 0 m = 0 := fun m => by
      induction m with
      | zero => rfl
      | succ m ih => rw [rndR, ih, inP, Nat.zero_testBit]; rfl
    have hs : ∀ k, seqR [([] : List Nat).map fun a => a &&& c] n 0 k = 0 := fun k => by
      induction k with
      | zero => rfl
      | succ k ih => rw [seqR, ih, hall]
    rw [pathN, List.getD_nil, Nat.zero_and, hs]
  apply Nat.eq_of_testBit_eq
  intro i
  rw [comN, maskOf_bit, Nat.testBit_two_pow_sub_one, hz]
  rw [show subM 0 s = true from subM_iff.2 fun j hj => (by rw [Nat.zero_testBit] at hj; cases hj), Bool.and_true]
theorem comN_eq {n : Nat} {r : List Nat} {c s : Nat} (hn : n ≤ 64) (hl : r.length = n) (hb : ∀ s, s ∈ r → s < 2 ^ n) : comN n r c s = comP n r c s 64 := by
  rcases comP_stop (c := c) (s := s) (getD_lt2 hb) 64 with h | h
  · exact (comP_comN hl hb h).symm
  · omega
section
variable {n N : Nat} {φ : Nat → Nat}
end
section
variable {m p : Mo} {n N : Nat} {φ : Nat → Nat}
theorem OkM.get {m : Mo} {n : Nat} (h : OkM m n) (a w : Nat) : (m.rel.getD a []).getD w 0 < 2 ^ n := by
  rw [List.getD_eq_getElem?_getD (l := m.rel)]
  cases hr : m.rel[a]? with
  | none => simp; exact Nat.two_pow_pos _
  | some r => exact getD_lt2 (h.bits r (List.mem_iff_getElem?.2 ⟨a, hr⟩)) w
theorem join_or {rel : List (List Nat)} {g : Int} {w j : Nat} : ∀ i, (joinA orF rel g 0 w i).testBit j = true ↔ ∃ a, a < i ∧ (and64 (shr64 g a) 1 == 1) = true ∧ ((rel.getD a []).getD w 0).testBit j = true
  | 0 => by
    rw [joinA, Nat.zero_testBit]
    exact ⟨fun h => (by cases h), fun ⟨a, h, _⟩ => (by omega)⟩
  | i + 1 => by
    have ih := join_or (rel := rel) (g := g) (w := w) (j := j) i
    rw [joinA]
    cases hg : (and64 (shr64 g i) 1 == 1) with
    | false =>
      rw [cond_false, ih]
      constructor
      · rintro ⟨a, h1, h2⟩; exact ⟨a, by omega, h2⟩
      · rintro ⟨a, h1, h2, h3⟩
        by_cases e : a = i
        · rw [e, hg] at h2; cases h2
        · exact ⟨a, by omega, h2, h3⟩
    | true =>
      rw [cond_true, orF, Nat.testBit_or, Bool.or_eq_true, ih]
      constructor
      · rintro (⟨a, h1, h2⟩ | h)
        · exact ⟨a, by omega, h2⟩
        · exact ⟨i, by omega, hg, h⟩
      · rintro ⟨a, h1, h2, h3⟩
        by_cases e : a = i
        · exact .inr (by rw [← e]; exact h3)
        · exact .inl ⟨a, by omega, h2, h3⟩
theorem join_and {rel : List (List Nat)} {g : Int} {n w j : Nat} : ∀ i, (joinA andF rel g (2 ^ n - 1) w i).testBit j = true ↔ j < n ∧ ∀ a, a < i → (and64 (shr64 g a) 1 == 1) = true → ((rel.getD a []).getD w 0).testBit j = true
  | 0 => by
    rw [joinA, Nat.testBit_two_pow_sub_one, decide_eq_true_eq]
    exact ⟨fun h => ⟨h, fun a h => (by omega)⟩, fun h => h.1⟩
  | i + 1 => by
    have ih := join_and (rel := rel) (g := g) (n := n) (w := w) (j := j) i
    rw [joinA]
    cases hg : (and64 (shr64 g i) 1 == 1) with
    | false =>
      rw [cond_false, ih]
      refine and_congr_right fun _ => ⟨fun h a h1 h2 => ?_, fun h a h1 h2 => h a (by omega) h2⟩
      by_cases e : a = i
      · rw [e, hg] at h2; cases h2
      · exact h a (by omega) h2
    | true =>
      rw [cond_true, andF, Nat.testBit_and, Bool.and_eq_true, ih]
      constructor
      · rintro ⟨⟨h0, h1⟩, h2⟩
        refine ⟨h0, fun a h3 h4 => ?_⟩
        by_cases e : a = i
        · rw [e]; exact h2
        · exact h1 a (by omega) h4
      · rintro ⟨h0, h1⟩
        exact ⟨⟨h0, fun a h3 h4 => h1 a (by omega) h4⟩, h1 i (by omega) hg⟩
theorem grpM_get {op : Nat → Nat → Nat} {m : Mo} {g : Int} {first n w : Nat} (hM : OkM m n) (hb : badGM m g = false) (hw : w < n) : (grpM op m g first).getD w 0 = joinA op m.rel g first w m.rel.length := by
  rw [grpM, hb, hM.nn, Int.toNat_natCast]
  exact getD_map_range hw
theorem grpM_lt {op : Nat → Nat → Nat} {m : Mo} {n : Nat} (hM : OkM m n) (hop : ∀ x y, x < 2 ^ n → y < 2 ^ n → op x y < 2 ^ n) {g : Int} {first : Nat} (hfi : first < 2 ^ n) (w : Nat) : (grpM op m g first).getD w 0 < 2 ^ n := by
  cases hb : badGM m g with
  | true => rw [grpM, hb, cond_true, List.getD_nil]; exact Nat.two_pow_pos _
  | false =>
    have hg' := hb
    unfold badGM at hg'
    rw [ok_moI hM] at hg'
    by_cases q1 : g < 1
    · rw [decide_eq_true q1] at hg'; cases hg'
    · rw [decide_eq_false q1] at hg'
      have := of_decide_eq_false (show decide (g ≥ shl64 1 (m.rel.length : Int)) = false from hg')
      exact getD_lt2 (grp_facts hM hop hfi (by omega) (by omega)).2 w
theorem orF_lt (n : Nat) : ∀ x y, x < 2 ^ n → y < 2 ^ n → orF x y < 2 ^ n := fun _ _ h1 h2 => Nat.or_lt_two_pow h1 h2
theorem andF_lt (n : Nat) : ∀ x y, x < 2 ^ n → y < 2 ^ n → andF x y < 2 ^ n := fun x _ _ h2 => Nat.and_lt_two_pow x h2
theorem pow_less (n : Nat) : 2 ^ n - 1 < 2 ^ n := by have := Nat.two_pow_pos n; omega
theorem holds_split {m : Mo} {f : List Nd} (h : (holdsI m f).2 = 0) : reqI m f = 0 ∧ holdsI m f = (vlT m m.n.toNat (root f), 0) := by
  by_cases q : reqI m f = 0
  · exact ⟨q, by rw [holdsI, q]; rfl⟩
  · rw [holdsI, show (reqI m f != 0) = true by simpa using q] at h
    exact absurd h q
/-! formulas that are put together -/
theorem bin_canX {x : Nd} {f g : List Nd} (hf : Can f) (hg : Can g) (hx : usesX x.op = true) (hy : usesY x.op = true) (hok : OkNd (binN x f g) (f ++ g.map (shN f.length)).length) (hs : f.length + g.length + 1 ≤ 200) :
    Can (buildL x [f, g]) ∧ root (buildL x [f, g]) = .nd x.op x.i x.e x.g (root f) (root g) ∧ (buildL x [f, g]).length ≤ f.length + g.length + 1 := by
  have hp := hf.pos
  have hq := hg.pos
  have hA := okl_append hf.ok hg.ok
  have hF := okl_snoc hA hok
  obtain ⟨u1, u2⟩ := bin_last hf.ok hg.ok hp hq
  have hl : 1 ≤ (f ++ g.map (shN f.length)).length := by rw [List.length_append]; omega
  have hT : tree (f ++ g.map (shN f.length) ++ [binN x f g]) (f ++ g.map (shN f.length)).length = .nd x.op x.i x.e x.g (root f) (root g) := by
    rw [tree_nd hF (x := binN x f g) (by simp)]
    simp only [show (binN x f g).op = x.op from rfl, hx, hy, cond_true]
    have n1 : (binN x f g).x.toNat = f.length - 1 := by show ((f.length : Int) - 1).toNat = _; omega
    have n2 : (binN x f g).y.toNat = (f ++ g.map (shN f.length)).length - 1 := by show (((f ++ g.map (shN f.length)).length : Int) - 1).toNat = _; omega
    rw [n1, n2, tree_append hA (by rw [List.length_append]; omega), tree_append hA (by omega), u1, u2]; rfl
  have hk : (f ++ g.map (shN f.length)).length < (f ++ g.map (shN f.length) ++ [binN x f g]).length := by simp
  have h1 := canon_can hF (by simp only [List.length_append, List.length_map, List.length_singleton]; omega) hk
  have h2 := (canon_root hF hk).2
  have e : buildL x [f, g] = canon (f ++ g.map (shN f.length) ++ [binN x f g]) (f ++ g.map (shN f.length)).length := by
    rw [build_bin x f g hx hy]
    refine bin_tree (t := canon (f ++ g.map (shN f.length) ++ [binN x f g]) (f ++ g.map (shN f.length)).length) hf hg hx hy hok ?_ h1.len
    rw [canon_tree hF hk, hT]
  rw [e]
  refine ⟨h1, h2.trans hT, ?_⟩
  have := canon_len (f := f ++ g.map (shN f.length) ++ [binN x f g]) hF.wf hk
  simp only [List.length_append, List.length_map] at this ⊢
  exact this
theorem buildL_comp2 {x : Nd} {f g : List Nd} (h : check f = 0) (h' : check g = 0) : buildL x [f, g] = buildL x [comp f, comp g] := by
  simp [buildL, bfold, h, comp_check h, h', comp_check h', bstep, comp_comp h, comp_comp h']
end
end Go.Proofs.YtjdmfhggokfflaaGreatDoor
set_option maxRecDepth 100000
set_option maxHeartbeats 4000000
namespace Go.Proofs.YtjdmfhggokfflaaGreatDoor
open Go Go.Dv

theorem bin_any {op : Int} {f g : List Nd} (hop : op = 5 ∨ op = 6 ∨ op = 7 ∨ op = 8 ∨ op = 16) (hf : check f = 0) (hg : check g = 0) (hs : f.length + g.length + 1 ≤ 200) :
    Can (buildL (n0 op) [f, g]) ∧ root (buildL (n0 op) [f, g]) = .nd op 0 0 0 (root f) (root g) ∧ (buildL (n0 op) [f, g]).length ≤ f.length + g.length + 1 := by
  have cf := comp_can hf
  have cg := comp_can hg
  have lf := comp_le hf
  have lg := comp_le hg
  have pf := cf.pos
  have pg := cg.pos
  rw [buildL_comp2 hf hg]
  have hok : OkNd (binN (n0 op) (comp f) (comp g)) (comp f ++ (comp g).map (shN (comp f).length)).length := by
    rcases hop with rfl | rfl | rfl | rfl | rfl <;> constructor <;> simp [n0, binN, usesX, usesY, isAgent, isGroup] <;> omega
  obtain ⟨g1, g2, g3⟩ := bin_canX (x := n0 op) cf cg (by rcases hop with rfl | rfl | rfl | rfl | rfl <;> rfl) (by rcases hop with rfl | rfl | rfl | rfl | rfl <;> rfl) hok (by omega)
  rw [root_comp hf, root_comp hg] at g2
  exact ⟨g1, g2, by omega⟩
/-! ascending lists -/
end Go.Proofs.YtjdmfhggokfflaaGreatDoor
set_option maxRecDepth 100000
set_option maxHeartbeats 4000000
namespace Go.Proofs.YtjdmfhggokfflaaGreatDoor
open Go Go.Dv

section
variable {acts : List Act} {m : Mo} {n : Nat} {a b g : Tr}
theorem dv_ann0 {i e k : Int} (h : dvT acts a m = some 0) : dvT acts (.nd 16 i e k a b) m = some (2 ^ m.n.toNat - 1) := by rw [dvT, h]; rfl
theorem dv_ann1 {i e k : Int} {s : Nat} (h : dvT acts a m = some s) (h0 : s ≠ 0) : dvT acts (.nd 16 i e k a b) m = match dvT acts b (arrI m (memL s)) with
    | none => none
    | some t => some (sprG t (memL s) 0 (notN m.n.toNat s)) := by
  have hb : (s == 0) = false := by simpa using h0
  rw [dvT, h]
  show (bif s == 0 then _ else _) = _
  rw [hb, cond_false]
  all_goals (cases dvT acts b (arrI m (memL s)) <;> rfl)
theorem dv_annN {i e k : Int} (h : dvT acts a m = none) : dvT acts (.nd 16 i e k a b) m = none := by rw [dvT, h]; rfl
theorem notN_bit {n s w : Nat} : (notN n s).testBit w = (decide (w < n) && !s.testBit w) := by rw [notN, maskOf_bit]
end
end Go.Proofs.YtjdmfhggokfflaaGreatDoor
set_option maxRecDepth 100000
set_option maxHeartbeats 4000000
namespace Go.Proofs.YtjdmfhggokfflaaGreatDoor
open Go Go.Dv

section
variable {acts : List Act} {m : Mo} {n : Nat} {a b : Tr}
theorem ann_some {i e k : Int} {x : Nat} (h2 : dvT acts (.nd 16 i e k a b) m = some x) : ∃ s, dvT acts a m = some s := by
  cases h : dvT acts a m with
  | none => rw [dv_annN h] at h2; cases h2
  | some s => exact ⟨s, rfl⟩
theorem memL_at {s w : Nat} (hs : s < 2 ^ 64) (hw : s.testBit w = true) : ∃ j : Nat, (memL s)[j]? = some w := List.mem_iff_getElem?.1 (memL_mem.2 ⟨bit_lt hs hw, hw⟩)
end
end Go.Proofs.YtjdmfhggokfflaaGreatDoor
set_option maxRecDepth 100000
set_option maxHeartbeats 4000000
namespace Go.Proofs.YtjdmfhggokfflaaGreatDoor
open Go Go.Dv

theorem check_nil : check [] ≠ 0 := by decide
theorem build_inv2 {x : Nd} {f g : List Nd} (h : check (buildL x [f, g]) = 0) : check f = 0 ∧ check g = 0 := by
  by_cases q : check f = 0
  · by_cases q2 : check g = 0
    · exact ⟨q, q2⟩
    · exfalso
      refine check_nil ?_
      have e : buildL x [f, g] = [] := by
        unfold buildL
        rw [show bfold 0 [f, g] (x, []) = none by rw [bfold, show (check f != 0) = false by simpa using q, cond_false, bfold, show (check g != 0) = true by simpa using q2]; rfl]
      rw [e] at h; exact h
  · exfalso
    refine check_nil ?_
    have e : buildL x [f, g] = [] := by
      unfold buildL
      rw [show bfold 0 [f, g] (x, []) = none by rw [bfold, show (check f != 0) = true by simpa using q]; rfl]
    rw [e] at h; exact h
/-- A formula that the checker takes. -/
theorem dyn_ok {m : Mo} {acts : List Act} {f : List Nd} (h : (dynI m acts f).2 = 0) : reqD m acts f = 0 ∧ ∃ s, dvT acts (root f) m = some s ∧ dynI m acts f = (s, 0) := by
  unfold dynI at h ⊢
  cases h0 : (reqD m acts f != 0) with
  | true => rw [h0] at h; simp only [cond_true] at h; rw [h] at h0; cases h0
  | false =>
    rw [h0] at h
    simp only [cond_false] at h ⊢
    refine ⟨by simpa using h0, ?_⟩
    cases hd : dvT acts (root f) m with
    | none => rw [hd] at h; cases h
    | some s => exact ⟨s, rfl, rfl⟩
theorem ok_dyn {m : Mo} {acts : List Act} {f : List Nd} {s : Nat} (h : reqD m acts f = 0) (hd : dvT acts (root f) m = some s) : dynI m acts f = (s, 0) := by
  rw [dynI, h, hd]; rfl
theorem req_check {m : Mo} {acts : List Act} {f : List Nd} (h : reqD m acts f = 0) : check f = 0 := (reqD_iff.1 h).2.1
end Go.Proofs.YtjdmfhggokfflaaGreatDoor
set_option maxRecDepth 100000
set_option maxHeartbeats 4000000
namespace Go.Proofs.YtjdmfhggokfflaaGreatDoor
open Go Go.Dv

theorem getD_past {α : Type} {l : List α} {i : Nat} {d : α} (h : l.length ≤ i) : l.getD i d = d := by
  rw [List.getD_eq_getElem?_getD, List.getElem?_eq_none h]; rfl
/-- Static trees whose nodes have their operands. -/
def swT : Tr → Prop
  | .none => True
  | .nd op _ _ _ a b => (1 ≤ op ∧ op ≤ 13) ∧ (usesX op = true → a ≠ .none) ∧ (usesY op = true → b ≠ .none) ∧ swT a ∧ swT b
/-- A set of the worlds of a part of a model, and a set of the model: alike in the part. -/
def Ag (s x t : Nat) : Prop := ∀ k w, (memL s)[k]? = some w → x.testBit k = t.testBit w
section
variable {s n : Nat} (hs : s < 2 ^ n)
theorem ag_at {k w : Nat} (h : (memL s)[k]? = some w) : k < (memL s).length ∧ s.testBit w = true :=
  ⟨(List.getElem?_eq_some_iff.1 h).1, (memL_mem.1 (List.mem_iff_getElem?.2 ⟨k, h⟩)).2⟩
theorem ag_zero : Ag s 0 0 := fun k w _ => by rw [Nat.zero_testBit, Nat.zero_testBit]
include hs in
theorem ag_all : Ag s (2 ^ (memL s).length - 1) (2 ^ n - 1) := fun k w h => by
  obtain ⟨h1, h2⟩ := ag_at h
  rw [all_bit h1, all_bit (bit_lt hs h2)]
include hs in
theorem ag_not {x t : Nat} (h : Ag s x t) : Ag s (notN (memL s).length x) (notN n t) := fun k w hk => by
  obtain ⟨h1, h2⟩ := ag_at hk
  rw [notN_bit, notN_bit, decide_eq_true h1, decide_eq_true (bit_lt hs h2), h k w hk]
theorem ag_and {x t x' t' : Nat} (h : Ag s x t) (h' : Ag s x' t') : Ag s (x &&& x') (t &&& t') := fun k w hk => by rw [Nat.testBit_and, Nat.testBit_and, h k w hk, h' k w hk]
theorem ag_or {x t x' t' : Nat} (h : Ag s x t) (h' : Ag s x' t') : Ag s (x ||| x') (t ||| t') := fun k w hk => by rw [Nat.testBit_or, Nat.testBit_or, h k w hk, h' k w hk]
theorem ag_xor {x t x' t' : Nat} (h : Ag s x t) (h' : Ag s x' t') : Ag s (x ^^^ x') (t ^^^ t') := fun k w hk => by rw [Nat.testBit_xor, Nat.testBit_xor, h k w hk, h' k w hk]
theorem ag_in {x t : Nat} (h : Ag s x t) : Ag s x (s &&& t) := fun k w hk => by rw [Nat.testBit_and, (ag_at hk).2, Bool.true_and, h k w hk]
/-- Rows of a part. -/
def AgR (s : Nat) (r1 r : List Nat) : Prop := ∀ k w, (memL s)[k]? = some w → ∀ j, (r1.getD k 0).testBit j = true ↔ ∃ v, (memL s)[j]? = some v ∧ (r.getD w 0).testBit v = true
include hs in
theorem ag_box {r1 r : List Nat} {x t : Nat} (h64 : n ≤ 64) (hr : ∀ w, r.getD w 0 < 2 ^ n) (hR : AgR s r1 r) (h : Ag s x t) (ho : ∀ v, v < n → s.testBit v = false → t.testBit v = true) : Ag s (boxN (memL s).length r1 x) (boxN n r t) := fun k w hk => by
  obtain ⟨h1, h2⟩ := ag_at hk
  rw [Bool.eq_iff_iff, boxN_bit, boxN_bit]
  constructor
  · rintro ⟨_, g⟩
    refine ⟨bit_lt hs h2, fun v hv => ?_⟩
    have hvn := bit_lt (hr w) hv
    cases hb : s.testBit v with
    | false => exact ho v hvn hb
    | true =>
      obtain ⟨j, hj⟩ := memL_at (Nat.lt_of_lt_of_le hs (pow64_le h64)) hb
      rw [← h j v hj]
      exact g j ((hR k w hk j).2 ⟨v, hj, hv⟩)
  · rintro ⟨_, g⟩
    refine ⟨h1, fun j hj => ?_⟩
    obtain ⟨v, h3, h4⟩ := (hR k w hk j).1 hj
    rw [h j v h3]
    exact g v h4
theorem notN_out {t v : Nat} (hv : v < n) (h : s.testBit v = false) : (notN n (s &&& t)).testBit v = true := by
  rw [notN_bit, Nat.testBit_and, h, decide_eq_true hv]; rfl
include hs in
theorem ag_comP {r1 r : List Nat} {c1 c x t : Nat} (h64 : n ≤ 64) (hr : ∀ w, r.getD w 0 < 2 ^ n) (hR : AgR s r1 r) (hc : Ag s c1 c) (h : Ag s x t) : ∀ k, Ag s (comP (memL s).length r1 c1 x k) (comP n r (s &&& c) t k)
  | 0 => ag_all hs
  | k + 1 => by
    refine ag_box hs h64 hr hR (ag_or (ag_not hs (ag_in hc)) (ag_and h (ag_comP h64 hr hR hc h k))) fun v hv hb => ?_
    rw [Nat.testBit_or, notN_out hv hb]; rfl
end
section
variable {m : Mo} {n s : Nat} (hM : OkM m n) (hs : s < 2 ^ n) (h0 : s ≠ 0)
include hM hs h0 in
theorem arr_okM : OkM (arrI m (memL s)) (memL s).length := arr_ok hM (memL_pos h0 (Nat.lt_of_lt_of_le hs (pow64_le hM.n64))) (memL_len s)
theorem arr_row (i : Nat) : AgR s ((arrI m (memL s)).rel.getD i []) (m.rel.getD i []) := fun k w hk j => by
  by_cases hi : i < m.rel.length
  · have e : ((arrI m (memL s)).rel.getD i []).getD k 0 = pullN ((m.rel.getD i []).getD w 0) (memL s) := by
      rw [arrI, List.getD_eq_getElem?_getD (l := m.rel.map _), List.getElem?_map, getD_mem hi (d := [])]
      show ((memL s).map fun w => pullN ((m.rel.getD i []).getD w 0) (memL s)).getD k 0 = _
      rw [List.getD_eq_getElem?_getD, List.getElem?_map, hk]; rfl
    rw [e, pullN, maskOf_bit, Bool.and_eq_true, decide_eq_true_eq]
    constructor
    · rintro ⟨h1, h2⟩
      exact ⟨_, getD_mem h1, h2⟩
    · rintro ⟨v, h1, h2⟩
      refine ⟨(List.getElem?_eq_some_iff.1 h1).1, ?_⟩
      rw [show (memL s).getD j 0 = v by rw [List.getD_eq_getElem?_getD, h1]; rfl]
      exact h2
  · have el : (arrI m (memL s)).rel.length = m.rel.length := by simp [arrI]
    rw [getD_past (l := m.rel) (i := i) (by omega), getD_past (l := (arrI m (memL s)).rel) (i := i) (by omega)]
    simp
theorem agR_nil : AgR s [] [] := fun k w _ j => by simp
include hM hs h0 in
theorem arr_bad (g : Int) : badGM (arrI m (memL s)) g = badGM m g := by
  rw [badGM, badGM, ok_moI hM, ok_moI (arr_okM hM hs h0), show (arrI m (memL s)).rel.length = m.rel.length by simp [arrI]]
include hM hs h0 in
theorem arr_or (g : Int) : AgR s (grpM orF (arrI m (memL s)) g 0) (grpM orF m g 0) := by
  cases hg : badGM m g with
  | true => rw [grpM, grpM, arr_bad hM hs h0, hg]; exact agR_nil
  | false =>
    intro k w hk j
    obtain ⟨h1, h2⟩ := ag_at hk
    rw [grpM_get hM hg (bit_lt hs h2), grpM_get (arr_okM hM hs h0) (by rw [arr_bad hM hs h0, hg]) h1, join_or, show (arrI m (memL s)).rel.length = m.rel.length by simp [arrI]]
    constructor
    · rintro ⟨a, g1, g2, g3⟩
      obtain ⟨v, g4, g5⟩ := (arr_row (m := m) a k w hk j).1 g3
      exact ⟨v, g4, (join_or _).2 ⟨a, g1, g2, g5⟩⟩
    · rintro ⟨v, g4, g5⟩
      obtain ⟨a, g1, g2, g3⟩ := (join_or _).1 g5
      exact ⟨a, g1, g2, (arr_row (m := m) a k w hk j).2 ⟨v, g4, g3⟩⟩
include hM hs h0 in
theorem arr_and (g : Int) : AgR s (grpM andF (arrI m (memL s)) g (2 ^ (memL s).length - 1)) (grpM andF m g (2 ^ n - 1)) := by
  cases hg : badGM m g with
  | true => rw [grpM, grpM, arr_bad hM hs h0, hg]; exact agR_nil
  | false =>
    intro k w hk j
    obtain ⟨h1, h2⟩ := ag_at hk
    rw [grpM_get hM hg (bit_lt hs h2), grpM_get (arr_okM hM hs h0) (by rw [arr_bad hM hs h0, hg]) h1, join_and, show (arrI m (memL s)).rel.length = m.rel.length by simp [arrI]]
    constructor
    · rintro ⟨hj, g1⟩
      have hv := getD_mem hj (d := 0)
      refine ⟨_, hv, (join_and _).2 ⟨bit_lt hs (ag_at hv).2, fun a g2 g3 => ?_⟩⟩
      obtain ⟨v, g4, g5⟩ := (arr_row (m := m) a k w hk j).1 (g1 a g2 g3)
      rw [hv] at g4
      rw [Option.some.inj g4]
      exact g5
    · rintro ⟨v, g4, g5⟩
      obtain ⟨_, g6⟩ := (join_and _).1 g5
      exact ⟨(ag_at g4).1, fun a g2 g3 => (arr_row (m := m) a k w hk j).2 ⟨v, g4, g6 a g2 g3⟩⟩
theorem vl7 (x y : Nat) (i g : Int) : vlN m n 7 i g x y = notN n x ||| y := rfl
theorem vl5 (x y : Nat) (i g : Int) : vlN m n 5 i g x y = x &&& y := rfl
theorem ann_vl {P : Tr} {op i e g : Int} {a b : Tr} : vlT m n (annT P (.nd op i e g a b)) = notN n (vlT m n P) ||| vlN m n op i g (bif isPC op then vlT m n P &&& vlT m n (annT P a) else vlT m n (annT P a)) (vlT m n (annT P b)) := by
  rw [annT, vlT, vl7, vlT]
  congr 2
  cases isPC op with
  | true => simp only [cond_true]; rw [vlT, vl5]
  | false => rfl
theorem ann_out {P t : Tr} (ht : t ≠ .none) {v : Nat} (hv : v < n) (h : (vlT m n P).testBit v = false) : (vlT m n (annT P t)).testBit v = true := by
  cases t with
  | none => exact absurd rfl ht
  | nd op i e g a b => rw [ann_vl, Nat.testBit_or, notN_bit, h, decide_eq_true hv]; rfl
include hM hs h0 in
/-- What is announced is true where the rest is looked at. -/
theorem ann_ag {P : Tr} (hP : vlT m n P = s) : ∀ t, swT t → Ag s (vlT (arrI m (memL s)) (memL s).length t) (vlT m n (annT P t))
  | .none, _ => ag_zero
  | .nd op i e g a b, hw => by
    obtain ⟨⟨o1, o2⟩, n1, n2, w1, w2⟩ := hw
    have hx := ann_ag hP a w1
    have hy := ann_ag hP b w2
    have h64 := hM.n64
    have hox : usesX op = true → ∀ v, v < n → s.testBit v = false → (vlT m n (annT P a)).testBit v = true := fun u v hv hb => ann_out (n1 u) hv (by rw [hP]; exact hb)
    rw [ann_vl, vlT, hP]
    generalize vlT m n (annT P a) = t at hx hox ⊢
    generalize vlT (arrI m (memL s)) (memL s).length a = x at hx ⊢
    generalize vlT m n (annT P b) = u at hy ⊢
    generalize vlT (arrI m (memL s)) (memL s).length b = y at hy ⊢
    have key : Ag s (vlN (arrI m (memL s)) (memL s).length op i g x y) (vlN m n op i g (bif isPC op then s &&& t else t) u) := by
      have : op = 1 ∨ op = 2 ∨ op = 3 ∨ op = 4 ∨ op = 5 ∨ op = 6 ∨ op = 7 ∨ op = 8 ∨ op = 9 ∨ op = 10 ∨ op = 11 ∨ op = 12 ∨ op = 13 := by omega
      rcases this with rfl | rfl | rfl | rfl | rfl | rfl | rfl | rfl | rfl | rfl | rfl | rfl | rfl
      · exact ag_all hs
      · exact ag_zero
      · intro k w hk
        show ((arrI m (memL s)).val.getD i.toNat 0).testBit k = (m.val.getD i.toNat 0).testBit w
        obtain ⟨h1, h2⟩ := ag_at hk
        by_cases hi : i.toNat < m.val.length
        · rw [arrI, List.getD_eq_getElem?_getD (l := m.val.map _), List.getElem?_map, getD_mem hi (d := 0)]
          show (pullN (m.val.getD i.toNat 0) (memL s)).testBit k = _
          rw [pullN, maskOf_bit, decide_eq_true h1, Bool.true_and, show (memL s).getD k 0 = w by rw [List.getD_eq_getElem?_getD, hk]; rfl]
        · have el : (arrI m (memL s)).val.length = m.val.length := by simp [arrI]
          rw [getD_past (l := m.val) (i := i.toNat) (by omega), getD_past (l := (arrI m (memL s)).val) (i := i.toNat) (by omega), Nat.zero_testBit, Nat.zero_testBit]
      · exact ag_not hs hx
      · exact ag_and hx hy
      · exact ag_or hx hy
      · exact ag_or (ag_not hs hx) hy
      · exact ag_not hs (ag_xor hx hy)
      · exact ag_box hs h64 (hM.get _) (arr_row _) hx (hox rfl)
      · show Ag s (diaN _ _ x) (diaN n _ (s &&& t))
        exact ag_not hs (ag_box hs h64 (hM.get _) (arr_row _) (ag_not hs (ag_in hx)) fun v hv hb => notN_out hv hb)
      · exact ag_box hs h64 (grpM_lt hM (orF_lt n) (Nat.two_pow_pos n)) (arr_or hM hs h0 g) hx (hox rfl)
      · exact ag_box hs h64 (grpM_lt hM (andF_lt n) (pow_less n)) (arr_and hM hs h0 g) hx (hox rfl)
      · show Ag s (comN _ _ x y) (comN n _ (s &&& t) u)
        cases hg : badGM m g with
        | true =>
          rw [grpM, grpM, arr_bad hM hs h0, hg, cond_true, cond_true, comN_nil, comN_nil]
          exact ag_all hs
        | false =>
          have hg' := hg
          unfold badGM at hg'
          rw [ok_moI hM] at hg'
          have hg1 : 1 ≤ g ∧ g < shl64 1 (m.rel.length : Int) := by
            by_cases q1 : g < 1
            · rw [decide_eq_true q1] at hg'; cases hg'
            · rw [decide_eq_false q1] at hg'
              have := of_decide_eq_false (show decide (g ≥ shl64 1 (m.rel.length : Int)) = false from hg')
              exact ⟨by omega, by omega⟩
          have hM1 := arr_okM hM hs h0
          have f1 := grp_facts hM (orF_lt n) (Nat.two_pow_pos n) hg1.1 hg1.2
          have f2 := grp_facts hM1 (orF_lt _) (Nat.two_pow_pos (memL s).length) hg1.1 (by rw [show (arrI m (memL s)).rel.length = m.rel.length by simp [arrI]]; exact hg1.2)
          rw [comN_eq hM1.n64 f2.1 f2.2, comN_eq h64 f1.1 f1.2]
          exact ag_comP hs h64 (getD_lt2 f1.2) (arr_or hM hs h0 g) hx hy 64
    intro k w hk
    rw [Nat.testBit_or, notN_bit, (ag_at hk).2, Bool.not_true, Bool.and_false, Bool.false_or]
    exact key k w hk
theorem all_lt' {t : Nat} (h : t < 2 ^ n) (hall : ∀ w, w < n → t.testBit w = true) : t = 2 ^ n - 1 := by
  apply Nat.eq_of_testBit_eq
  intro w
  rw [Nat.testBit_two_pow_sub_one]
  by_cases hw : w < n
  · rw [hall w hw, decide_eq_true hw]
  · rw [decide_eq_false hw]
    cases hb : t.testBit w with
    | false => rfl
    | true => exact absurd (bit_lt h hb) hw
include hM in
/-- The reduction of an announcement holds where the announcement makes the formula true. -/
theorem ann_sem {P t : Tr} (hP : vlT m n P = s) (ht : swT t) (hn : t ≠ .none) :
    vlT m n (annT P t) = bif s == 0 then 2 ^ n - 1 else sprG (vlT (arrI m (memL s)) (memL s).length t) (memL s) 0 (notN n s) := by
  have hs : s < 2 ^ n := hP ▸ vlT_lt hM.vbits P
  by_cases h0 : s = 0
  · subst h0
    exact all_lt' (vlT_lt hM.vbits _) fun w hw => ann_out hn hw (by rw [hP, Nat.zero_testBit])
  · have hag := ann_ag hM hs h0 hP t ht
    rw [show (s == 0) = false by simpa using h0, cond_false]
    apply Nat.eq_of_testBit_eq
    intro w
    rw [Bool.eq_iff_iff, sprG_bit, notN_bit]
    constructor
    · intro h
      have hw := bit_lt (vlT_lt hM.vbits _) h
      cases hb : s.testBit w with
      | false => left; rw [decide_eq_true hw]; rfl
      | true =>
        right
        obtain ⟨k, hk⟩ := memL_at (Nat.lt_of_lt_of_le hs (pow64_le hM.n64)) hb
        exact ⟨k, hk, by rw [Nat.zero_add, hag k w hk]; exact h⟩
    · rintro (h | ⟨k, hk, h⟩)
      · rw [Bool.and_eq_true, decide_eq_true_eq] at h
        exact ann_out hn h.1 (by rw [hP]; simpa using h.2)
      · rw [Nat.zero_add, hag k w hk] at h
        exact h
end
end Go.Proofs.YtjdmfhggokfflaaGreatDoor
set_option maxRecDepth 100000
set_option maxHeartbeats 4000000
namespace Go.Proofs.YtjdmfhggokfflaaGreatDoor
open Go Go.Dv

/-- What a property of nodes must be that a reduction hands on. -/
structure Clo (Q : Int → Int → Int → Int → Bool) : Prop where
  tt : Q 1 0 0 0 = true
  ff : Q 2 0 0 0 = true
  an : Q 5 0 0 0 = true
  oo : Q 6 0 0 0 = true
  im : Q 7 0 0 0 = true
  kn : ∀ i e g, Q 9 i e g = true → Q 9 ((i.toNat : Nat) : Int) 0 0 = true
  po : ∀ i e g, Q 10 i e g = true → Q 10 i 0 0 = true
  di : ∀ i e g, Q 12 i e g = true → Q 12 0 0 g = true
  ev : ∀ i e g (j : Nat), Q 11 i e g = true → (and64 (shr64 g j) 1 == 1) = true → j < 4 → Q 9 (j : Int) 0 0 = true
section
variable {Q : Int → Int → Int → Int → Bool} (hQ : Clo Q)
include hQ in
theorem annT_all {P : Tr} (hP : allT Q P = true) : ∀ t, allT Q t = true → allT Q (annT P t) = true
  | .none, _ => rfl
  | .nd op i e g a b, h => by
    rw [allT, Bool.and_eq_true, Bool.and_eq_true] at h
    obtain ⟨⟨h1, h2⟩, h3⟩ := h
    have ha := annT_all hP a h2
    have hb := annT_all hP b h3
    rw [annT, allT, allT, hQ.im, hP, h1, hb]
    cases isPC op with
    | true => simp only [cond_true]; rw [allT, hQ.an, hP, ha]; rfl
    | false => simp only [cond_false]; rw [ha]; rfl
end
/-- A property, and groups in range. -/
def rgQ (Q : Int → Int → Int → Int → Bool) (op i e g : Int) : Bool := Q op i e g && (bif isGroup op then decide (1 ≤ g) && decide (g < 16) else true)
theorem rg_iff {Q : Int → Int → Int → Int → Bool} {op i e g : Int} : rgQ Q op i e g = true ↔ Q op i e g = true ∧ (isGroup op = true → 1 ≤ g ∧ g < 16) := by
  rw [rgQ, Bool.and_eq_true]
  cases isGroup op <;> simp
theorem rg_no {Q : Int → Int → Int → Int → Bool} {op i e g : Int} (h : Q op i e g = true) (hg : isGroup op = false) : rgQ Q op i e g = true := rg_iff.2 ⟨h, fun u => by rw [hg] at u; cases u⟩
theorem grp_bit {g : Int} {A j : Nat} (h1 : 1 ≤ g) (h16 : g < 16) (h : g.toNat < 2 ^ A) (hj : (and64 (shr64 g j) 1 == 1) = true) (h4 : j < 4) : j < A := by
  obtain ⟨k, rfl⟩ : ∃ k : Nat, g = k := ⟨g.toNat, by omega⟩
  rw [bit64_one (show k < 2 ^ 62 by have : (16 : Nat) < 2 ^ 62 := by decide
                                    omega) (by omega)] at hj
  rw [Int.toNat_natCast] at h
  exact bit_lt h hj
theorem stM_iff {A F : Nat} {op i e g : Int} : stM A F op i e g = true ↔ (fragN ⟨op, i, e, g, 0, 0⟩ < 16 ∧ agN ⟨op, i, e, g, 0, 0⟩ < 2 ^ A) ∧ factN ⟨op, i, e, g, 0, 0⟩ < 2 ^ F := by
  simp only [stM, Bool.and_eq_true, decide_eq_true_eq]
/-- Being static and fitting is handed on. -/
theorem stM_clo (A F : Nat) : Clo (rgQ (stM A F)) := by
  have hA := Nat.two_pow_pos A
  have hF := Nat.two_pow_pos F
  refine ⟨?_, ?_, ?_, ?_, ?_, fun i e g h => ?_, fun i e g h => ?_, fun i e g h => ?_, fun i e g j h hj h4 => ?_⟩
  · exact rg_no (stM_iff.2 ⟨⟨show 0 < 16 by decide, hA⟩, hF⟩) rfl
  · exact rg_no (stM_iff.2 ⟨⟨show 0 < 16 by decide, hA⟩, hF⟩) rfl
  · exact rg_no (stM_iff.2 ⟨⟨show 0 < 16 by decide, hA⟩, hF⟩) rfl
  · exact rg_no (stM_iff.2 ⟨⟨show 0 < 16 by decide, hA⟩, hF⟩) rfl
  · exact rg_no (stM_iff.2 ⟨⟨show 0 < 16 by decide, hA⟩, hF⟩) rfl
  · obtain ⟨⟨_, h2⟩, _⟩ := stM_iff.1 (rg_iff.1 h).1
    refine rg_no (stM_iff.2 ⟨⟨show 1 < 16 by decide, ?_⟩, hF⟩) rfl
    show 2 ^ ((i.toNat : Nat) : Int).toNat < 2 ^ A
    rw [Int.toNat_natCast]; exact h2
  · obtain ⟨⟨_, h2⟩, _⟩ := stM_iff.1 (rg_iff.1 h).1
    exact rg_no (stM_iff.2 ⟨⟨show 1 < 16 by decide, h2⟩, hF⟩) rfl
  · obtain ⟨h1, hg⟩ := rg_iff.1 h
    obtain ⟨⟨_, h2⟩, _⟩ := stM_iff.1 h1
    exact rg_iff.2 ⟨stM_iff.2 ⟨⟨show 4 < 16 by decide, h2⟩, hF⟩, hg⟩
  · obtain ⟨h1, hg⟩ := rg_iff.1 h
    obtain ⟨⟨_, h2⟩, _⟩ := stM_iff.1 h1
    obtain ⟨g1, g2⟩ := hg rfl
    refine rg_no (stM_iff.2 ⟨⟨show 1 < 16 by decide, ?_⟩, hF⟩) rfl
    have h2 : g.toNat < 2 ^ A := h2
    show 2 ^ ((j : Nat) : Int).toNat < 2 ^ A
    rw [Int.toNat_natCast]
    exact Nat.pow_lt_pow_right (by decide) (grp_bit g1 g2 h2 hj h4)
theorem stat_all {A F : Nat} {f : List Nd} (hc : Can f) (h : allT (rgQ (stM A F)) (root f) = true) : statI A F f = 0 := by
  refine statM_iff.2 ⟨hc.check, fun x hx => ?_⟩
  rw [comp_root hc.check] at hx
  exact (rg_iff.1 (finT_all (Q := rgQ (stM A F)) _ _ h (by simp) x hx)).1
end Go.Proofs.YtjdmfhggokfflaaGreatDoor
set_option maxRecDepth 100000
set_option maxHeartbeats 4000000
namespace Go.Proofs.YtjdmfhggokfflaaGreatDoor
open Go Go.Dv

theorem stat13 {op : Nat} (h : op < 22) (hf : (frag (op : Int)).toNat < 16) : op ≤ 13 := by
  have key : ∀ op : Nat, op < 22 → (frag (op : Int)).toNat < 16 → op ≤ 13 := by decide
  exact key op h hf
theorem shape_at {A F : Nat} {f : List Nd} (hf : Okl f) (hs : ∀ x, x ∈ f → stM A F x.op x.i x.e x.g = true) : ∀ (n i : Nat), i < n → i < f.length → tree f i ≠ .none ∧ swT (tree f i)
  | 0, i, h, _ => by omega
  | n + 1, i, hn, hi => by
    have hx : f[i]? = some f[i] := List.getElem?_eq_getElem hi
    have hm := hs _ (List.getElem_mem hi)
    generalize f[i] = x at hx hm
    have ok := hf i x hx
    have h13 : x.op ≤ 13 := by
      obtain ⟨⟨h1, _⟩, _⟩ := stM_iff.1 hm
      have ho := ok.op
      have := stat13 (op := x.op.toNat) (by omega) (by rw [show ((x.op.toNat : Nat) : Int) = x.op by omega]; exact h1)
      omega
    rw [tree_nd hf hx]
    refine ⟨(by intro e; cases e), ⟨⟨ok.op.1, h13⟩, fun u => ?_, fun u => ?_, ?_, ?_⟩⟩
    · rw [u]; have := ok.x u; exact (shape_at hf hs n x.x.toNat (by omega) (by omega)).1
    · rw [u]; have := ok.y u; exact (shape_at hf hs n x.y.toNat (by omega) (by omega)).1
    · cases hu : usesX x.op with
      | false => trivial
      | true => have := ok.x hu; exact (shape_at hf hs n x.x.toNat (by omega) (by omega)).2
    · cases hu : usesY x.op with
      | false => trivial
      | true => have := ok.y hu; exact (shape_at hf hs n x.y.toNat (by omega) (by omega)).2
theorem can_nodes {A F : Nat} {z : List Nd} (hz : Can z) (ha : allT (rgQ (stM A F)) (root z) = true) : ∀ x, x ∈ z → stM A F x.op x.i x.e x.g = true := fun x hx => by
  rw [← hz.fix] at hx
  exact (rg_iff.1 (finT_all (Q := rgQ (stM A F)) _ _ ha (by simp) x hx)).1
theorem can_sw {A F : Nat} {z : List Nd} (hz : Can z) (ha : allT (rgQ (stM A F)) (root z) = true) : root z ≠ .none ∧ swT (root z) := by
  have := hz.pos
  exact shape_at hz.ok (can_nodes hz ha) z.length (z.length - 1) (by omega) (by omega)
end Go.Proofs.YtjdmfhggokfflaaGreatDoor
set_option maxRecDepth 100000
set_option maxHeartbeats 4000000
namespace Go.Proofs.YtjdmfhggokfflaaGreatDoor
open Go Go.Dv

def npv (f : List Nd) : PV := match f with
  | [] => .nil
  | _ :: _ => fpv f
theorem npv_ge {f : List Nd} (h : f ≠ []) : PLe (fpv f) (npv f) := by
  cases f with
  | nil => exact absurd rfl h
  | cons a r => exact .refl _
theorem npv_le (f : List Nd) : PLe (npv f) (fpv f) := by
  cases f with
  | nil => exact .nil
  | cons a r => exact .refl _
theorem fm_buildN (x : Nd) (l : List (List Nd)) (hl : l.length ≤ 2) : PureFn Tryz.prog 29 [x.pv, .sl (l.map fpv)] (npv (buildL x l)) := by
  refine PureFn.introC [14, 16] mixed (fn := Tryz.f29) rfl rfl rfl fun M w0 => ?_
  try conv=>whnf
  refine ⟨{ q : Nat × Nd × List Nd // q.1 ≤ l.length ∧ bfold 0 l (x, []) = bfold q.1 (l.drop q.1) q.2 ∧ Okl q.2.2 ∧ q.2.2.length ≤ 200 * q.1 },
    fun q => [(2, .ref 0 0), (5, .buf 1 (q.1.2.2.map Nd.pv).length), (14, .pv (.sl (l.map fpv))), (15, .pv (.int .i64 (l.map fpv).length)), (16, .pv (.int .i64 (q.1.1 : Nat)))], fun _ => 2,
    fun q => [(0, .var q.1.2.1.dvs), (1, .arr 6 (q.1.2.2.map Nd.pv))], fun q => l.length - q.1.1, ⟨⟨(0, x, []), Nat.zero_le _, rfl, (fun i x h => by simp at h), Nat.zero_le _⟩, (by refine Wk.of ?_ ?_ rfl rfl rfl<;>repeat' (first|exact trivial|exact WkD.same _|exact WkO.same _ _ rfl|exact WkD.new' rfl rfl rfl|exact WkO.new _ _ rfl|exact rfl|refine ⟨?_, ?_⟩|fail))⟩, ?_⟩
  rintro ⟨⟨k, y, F⟩, hk, he, hF, hFl⟩
  simp only at hk he hF hFl
  (try conv=>whnf);repeat' (first|(apply And.intro<;>try conv=>whnf)|(intro h;try conv=>whnf)|(apply infoT;rfl)|fail)
  · have hk' : k < l.length := by simpa using h
    obtain ⟨o, ho⟩ : ∃ o, l[k]? = some o := ⟨_, List.getElem?_eq_getElem hk'⟩
    have hd : l.drop k = o :: l.drop (k + 1) := by
      rw [List.drop_eq_getElem_cons hk']
      rw [List.getElem?_eq_getElem hk'] at ho
      rw [Option.some.inj ho]
    rw [hd] at he
    have hol := comp_len o
    (try conv=>whnf);repeat' (first|(apply And.intro<;>try conv=>whnf)|(intro h;try conv=>whnf)|(refine ⟨_, _, rfl, idx_map (by with_reducible assumption), rfl, ?_⟩;try conv=>whnf)|(refine PureFn.dcq (f := 30) rfl ?_;try conv=>whnf)|(refine PureFn.dcq (f := 26) rfl ?_;try conv=>whnf)|(refine ⟨_, _, fm_Check ?_, ?_, ?_⟩;rotate_left 1;(focus first|(refine ⟨?_, trivial⟩<;>first|exact PLe.refl _|exact PLe.nil)|exact trivial);try conv=>whnf)|(refine ⟨_, _, fm_Compact ?_, ?_, ?_⟩;rotate_left 1;(focus first|(refine ⟨?_, trivial⟩<;>first|exact PLe.refl _|exact PLe.nil)|exact trivial);try conv=>whnf)|fail)
    · have hb : bfold 0 l (x, []) = none := by rw [he]; simp only [bfold, h]; rfl
      have : buildL x l = [] := by rw [buildL, hb]
      rw [this]; exact .refl _
    · have hb : bfold 0 l (x, []) = bfold (k + 1) (l.drop (k + 1)) (bstep k (y, F) o) := by rw [he]; simp only [bfold, h]; rfl
      have hz := shL_zero F (comp o)
      refine ⟨{ j : Nat // j ≤ (comp o).length }, fun j => [(2, .ref 0 0), (5, .buf 1 (shL F (comp o) j.1).length), (6, .pv (.int .i64 (k : Nat))), (8, .pv (.int .i64 (F.map Nd.pv).length)), (14, .pv (.sl (l.map fpv))), (15, .pv (.int .i64 (l.map fpv).length)), (16, .pv (.int .i64 (k : Nat))), (27, .pv (fpv (comp o))), (28, .pv (.int .i64 ((comp o).map Nd.pv).length)), (29, .pv (.int .i64 (j.1 : Nat)))], fun _ => 2,
        fun j => [(0, .var y.dvs), (1, .arr 6 (shL F (comp o) j.1))], fun j => (comp o).length - j.1, ⟨⟨0, Nat.zero_le _⟩, (by refine Wk.of ?_ ?_ rfl rfl rfl<;>repeat' (first|exact trivial|exact WkD.same _|exact WkO.same _ _ rfl|exact WkD.eq (congrArg (fun z : List PV => DV.buf _ z.length) hz)|exact WkO.same _ _ (congrArg (fun z => some (DObj.arr _ z)) hz)|refine ⟨?_, ?_⟩|fail))⟩, ?_⟩
      rintro ⟨j, hj⟩
      (try conv=>whnf);repeat' (first|(apply And.intro<;>try conv=>whnf)|(intro h;try conv=>whnf)|(apply infoT;rfl)|fail)
      · have hj' : j < (comp o).length := by simpa using h
        have hn : (comp o)[j]? = some (comp o)[j] := List.getElem?_eq_getElem hj'
        have hs := shL_succ (F := F) hj'
        have hok := comp_okl o j _ hn
        generalize (comp o)[j] = n at hn hs hok
        (try conv=>whnf);repeat' (first|(refine ⟨_, _, rfl, idx_map (by with_reducible assumption), rfl, ?_⟩;try conv=>whnf)|(refine PureFn.dcq (f := 45) rfl ?_;try conv=>whnf)|(refine ⟨_, _, fm_uses ?_, ?_, ?_⟩;rotate_left 1;(focus first|(refine ⟨?_, trivial⟩<;>first|exact PLe.refl _|exact PLe.nil)|exact trivial);try conv=>whnf)|fail)
        refine ⟨{ z : Nd // z = shX F.length n }, fun z => [(2, .ref 0 0), (5, .buf 1 (shL F (comp o) j).length), (6, .pv (.int .i64 (k : Nat))), (8, .pv (.int .i64 (F.map Nd.pv).length)), (14, .pv (.sl (l.map fpv))), (15, .pv (.int .i64 (l.map fpv).length)), (16, .pv (.int .i64 (k : Nat))), (27, .pv (fpv (comp o))), (28, .pv (.int .i64 ((comp o).map Nd.pv).length)), (29, .pv (.int .i64 (j : Nat))), (10, .ref 2 0), (11, .ref 3 0)], fun _ => 4,
          fun z => [(0, .var y.dvs), (1, .arr 6 (shL F (comp o) j)), (2, .var z.1.dvs), (3, .var (usesDvs n.op))], ?_, ?_⟩
        · (try conv=>whnf);repeat' (first|(apply And.intro<;>try conv=>whnf)|(intro h;try conv=>whnf)|fail)
          · have := hok.x h
            refine ⟨⟨{ n with x := n.x + F.length }, by rw [shX, h]; rfl⟩, ?_⟩
            (refine Wk.of ?_ ?_ rfl rfl rfl<;>repeat' (first|exact trivial|exact WkD.same _|exact WkO.same _ _ rfl|refine WkD.int ?_|refine WkO.vars rfl ?_|refine ⟨?_, ?_⟩|fail))
            exact wrapA (by simp) (by rw [List.length_map]; omega) (by rw [List.length_map]; omega)
          · exact ⟨⟨n, by rw [shX, h]; rfl⟩, (by refine Wk.of ?_ ?_ rfl rfl rfl<;>repeat' (first|exact trivial|exact WkD.same _|exact WkO.same _ _ rfl|refine ⟨?_, ?_⟩|fail))⟩
        · rintro ⟨z, rfl⟩
          try conv=>whnf
          refine ⟨{ z : Nd // z = shN F.length n }, fun z => [(2, .ref 0 0), (5, .buf 1 (shL F (comp o) j).length), (6, .pv (.int .i64 (k : Nat))), (8, .pv (.int .i64 (F.map Nd.pv).length)), (14, .pv (.sl (l.map fpv))), (15, .pv (.int .i64 (l.map fpv).length)), (16, .pv (.int .i64 (k : Nat))), (27, .pv (fpv (comp o))), (28, .pv (.int .i64 ((comp o).map Nd.pv).length)), (29, .pv (.int .i64 (j : Nat))), (10, .ref 2 0)], fun _ => 3,
            fun z => [(0, .var y.dvs), (1, .arr 6 (shL F (comp o) j)), (2, .var z.1.dvs)], ?_, ?_⟩
          · (try conv=>whnf);repeat' (first|(apply And.intro<;>try conv=>whnf)|(intro h;try conv=>whnf)|fail)
            · have := hok.y h
              refine ⟨⟨{ shX F.length n with y := n.y + F.length }, by rw [shN, h]; rfl⟩, ?_⟩
              (refine Wk.of ?_ ?_ rfl rfl rfl<;>repeat' (first|exact trivial|exact WkD.same _|exact WkO.same _ _ rfl|refine WkD.int ?_|refine WkO.vars rfl ?_|refine ⟨?_, ?_⟩|fail))
              refine (congrArg (fun v => IntKind.wrap .i64 (v + ((F.map Nd.pv).length : Int))) (shX_y F.length n)).trans ?_
              exact wrapA (by simp) (by rw [List.length_map]; omega) (by rw [List.length_map]; omega)
            · exact ⟨⟨shX F.length n, by rw [shN, h]; rfl⟩, (by refine Wk.of ?_ ?_ rfl rfl rfl<;>repeat' (first|exact trivial|exact WkD.same _|exact WkO.same _ _ rfl|refine ⟨?_, ?_⟩|fail))⟩
          · rintro ⟨z, rfl⟩
            (try conv=>whnf);repeat' (first|(apply And.intro<;>try conv=>whnf)|(apply cellsI;rfl)|(apply szI;rfl)|fail)
            · show (shL F (comp o) j).length + 1 ≤ 4294967296
              rw [shL_len hj]; omega
            · exact ⟨⟨j + 1, hj'⟩, by show (comp o).length - (j + 1) < (comp o).length - j; omega, (by refine Wk.of ?_ ?_ rfl rfl rfl<;>repeat' (first|exact trivial|exact WkD.same _|exact WkO.same _ _ rfl|exact WkD.eq (congrArg (fun z : List PV => DV.buf _ z.length) hs)|exact WkO.same _ _ (congrArg (fun z => some (DObj.arr _ z)) hs)|refine WkD.int ?_|refine ⟨?_, ?_⟩|(refine wrapA ?_ ?_ ?_;(focus simp;done);(focus (try dsimp only);omega);(focus (try dsimp only);omega))|fail))⟩
      · have hs := bstep_t (y := y) (F := F) (o := o) h
        have hj' : j = (comp o).length := by simp at *; omega
        subst hj'
        have hse := shL_end F (comp o)
        rw [hs] at hb
        have hG := okl_append hF (comp_okl o)
        have hGl : (F ++ (comp o).map (shN F.length)).length ≤ 200 * (k + 1) := by rw [List.length_append, List.length_map]; omega
        generalize (F ++ (comp o).map (shN F.length)) = G at hse hb hG hGl
        have hGn : ((shL F (comp o) (comp o).length).length : Int) = G.length := by rw [hse, List.length_map]
        refine ⟨⟨(k + 1, { y with x := (G.length : Int) - 1 }, G), hk', hb, hG, hGl⟩, by show l.length - (k + 1) < l.length - k; omega, ?_⟩
        (refine Wk.of ?_ ?_ rfl rfl rfl<;>repeat' (first|exact trivial|exact WkD.same _|exact WkD.eq (congrArg (fun z : List PV => DV.buf _ z.length) hse)|exact WkO.same _ _ (congrArg (fun z => some (DObj.arr _ z)) hse)|refine WkD.int ?_|refine WkO.vars rfl ?_|refine ⟨?_, ?_⟩|(refine wrapA ?_ ?_ ?_;(focus simp;done);(focus (try dsimp only);omega);(focus (try dsimp only);omega))|fail))
        exact (congrArg (fun z : Int => IntKind.wrap .i64 (z - 1)) hGn).trans (wrapA rfl (by omega) (by omega))
      · have hs := bstep_f (y := y) (F := F) (o := o) h
        have hj' : j = (comp o).length := by simp at *; omega
        subst hj'
        have hse := shL_end F (comp o)
        rw [hs] at hb
        have hG := okl_append hF (comp_okl o)
        have hGl : (F ++ (comp o).map (shN F.length)).length ≤ 200 * (k + 1) := by rw [List.length_append, List.length_map]; omega
        generalize (F ++ (comp o).map (shN F.length)) = G at hse hb hG hGl
        have hGn : ((shL F (comp o) (comp o).length).length : Int) = G.length := by rw [hse, List.length_map]
        refine ⟨⟨(k + 1, { y with y := (G.length : Int) - 1 }, G), hk', hb, hG, hGl⟩, by show l.length - (k + 1) < l.length - k; omega, ?_⟩
        (refine Wk.of ?_ ?_ rfl rfl rfl<;>repeat' (first|exact trivial|exact WkD.same _|exact WkD.eq (congrArg (fun z : List PV => DV.buf _ z.length) hse)|exact WkO.same _ _ (congrArg (fun z => some (DObj.arr _ z)) hse)|refine WkD.int ?_|refine WkO.vars rfl ?_|refine ⟨?_, ?_⟩|(refine wrapA ?_ ?_ ?_;(focus simp;done);(focus (try dsimp only);omega);(focus (try dsimp only);omega))|fail))
        exact (congrArg (fun z : Int => IntKind.wrap .i64 (z - 1)) hGn).trans (wrapA rfl (by omega) (by omega))
  · have hk' : k = l.length := by simp at *; omega
    subst hk'
    rw [List.drop_length] at he
    have hbl : buildL x l = bfin (y, F) := by rw [buildL, he]; rfl
    rw [hbl]
    rw [bfin]
    simp only
    have hne := fm_nodeError y (F.map Nd.pv).length
    have hFl' : F.length ≤ 400 := by omega
    (try conv=>whnf);repeat' (first|(apply And.intro<;>try conv=>whnf)|(intro h;try conv=>whnf)|(apply cellsI;rfl)|(apply szI;rfl)|(refine PureFn.dcq (f := 52) rfl ?_;try conv=>whnf)|(refine ⟨_, _, hne, ?_, ?_⟩;(focus first|(refine ⟨?_, ?_, trivial⟩<;>first|exact PLe.refl _|exact PLe.nil)|exact trivial);try conv=>whnf)|fail)
    · rw [List.length_map] at h
      rw [h]; exact .refl _
    · show (F.map Nd.pv).length + 1 ≤ 4294967296
      rw [List.length_map]; omega
    · rw [List.length_map] at h
      have hok : OkNd y F.length := nodeErr_ok.1 (by simpa using h)
      have hcp : PureFn Tryz.prog 53 [.sl (F.map Nd.pv ++ [y.pv]), .int .i64 ((F.map Nd.pv).length : Int)] (fpv (canon (F ++ [y]) F.length)) := by
        have := fm_compact (F ++ [y]) F.length (okl_snoc hF hok).wf (by simp) (by simp; omega)
        rw [show fpv (F ++ [y]) = .sl (F.map Nd.pv ++ [y.pv]) from congrArg PV.sl List.map_append] at this
        rw [List.length_map]; exact this
      rw [h]
      (try conv=>whnf);repeat' (first|(apply And.intro<;>try conv=>whnf)|(intro h;try conv=>whnf)|(apply bleI;rfl)|(refine PureFn.dcq (f := 53) rfl ?_;try conv=>whnf)|(refine ⟨_, _, hcp, ?_, ?_⟩;(focus first|(refine ⟨?_, ?_, trivial⟩<;>first|exact PLe.refl _|exact PLe.nil)|exact trivial);try conv=>whnf)|fail)
      · rw [List.length_map] at h
        rw [h]; exact .refl _
      · rw [List.length_map] at h
        rw [h]; exact npv_ge (by intro e; have := (canon_ok (okl_snoc hF hok) (show F.length < (F ++ [y]).length by simp)).2; rw [e] at this; simp at this)
theorem fn_True  : PureFn Tryz.prog 98 [] (npv (buildL (n0 1) [])) := by
  have hb := fm_buildN (n0 1) [] (by simp)
  generalize buildL (n0 1) [] = z at hb ⊢
  refine PureFn.intro mixed (fn := Tryz.f98) rfl rfl rfl fun M w0 => ?_
  cases z with
  | nil =>
    (try conv=>whnf);repeat' (first|(refine PureFn.dcq (f := 29) rfl ?_;try conv=>whnf)|(refine ⟨_, _, hb, ?_, ?_⟩;(focus first|(refine ⟨?_, ?_, trivial⟩<;>first|exact PLe.refl _|exact PLe.nil)|exact trivial);try conv=>whnf)|fail)
    exact .refl _
  | cons a r =>
    (try conv=>whnf);repeat' (first|(refine PureFn.dcq (f := 29) rfl ?_;try conv=>whnf)|(refine ⟨_, _, hb, ?_, ?_⟩;(focus first|(refine ⟨?_, ?_, trivial⟩<;>first|exact PLe.refl _|exact PLe.nil)|exact trivial);try conv=>whnf)|fail)
    exact .refl _
theorem fn_False  : PureFn Tryz.prog 99 [] (npv (buildL (n0 2) [])) := by
  have hb := fm_buildN (n0 2) [] (by simp)
  generalize buildL (n0 2) [] = z at hb ⊢
  refine PureFn.intro mixed (fn := Tryz.f99) rfl rfl rfl fun M w0 => ?_
  cases z with
  | nil =>
    (try conv=>whnf);repeat' (first|(refine PureFn.dcq (f := 29) rfl ?_;try conv=>whnf)|(refine ⟨_, _, hb, ?_, ?_⟩;(focus first|(refine ⟨?_, ?_, trivial⟩<;>first|exact PLe.refl _|exact PLe.nil)|exact trivial);try conv=>whnf)|fail)
    exact .refl _
  | cons a r =>
    (try conv=>whnf);repeat' (first|(refine PureFn.dcq (f := 29) rfl ?_;try conv=>whnf)|(refine ⟨_, _, hb, ?_, ?_⟩;(focus first|(refine ⟨?_, ?_, trivial⟩<;>first|exact PLe.refl _|exact PLe.nil)|exact trivial);try conv=>whnf)|fail)
    exact .refl _
theorem fn_Fact (i : Int) : PureFn Tryz.prog 17 [.int .i64 i] (npv (buildL (nI 3 i) [])) := by
  have hb := fm_buildN (nI 3 i) [] (by simp)
  generalize buildL (nI 3 i) [] = z at hb ⊢
  refine PureFn.intro mixed (fn := Tryz.f17) rfl rfl rfl fun M w0 => ?_
  cases z with
  | nil =>
    (try conv=>whnf);repeat' (first|(refine PureFn.dcq (f := 29) rfl ?_;try conv=>whnf)|(refine ⟨_, _, hb, ?_, ?_⟩;(focus first|(refine ⟨?_, ?_, trivial⟩<;>first|exact PLe.refl _|exact PLe.nil)|exact trivial);try conv=>whnf)|fail)
    exact .refl _
  | cons a r =>
    (try conv=>whnf);repeat' (first|(refine PureFn.dcq (f := 29) rfl ?_;try conv=>whnf)|(refine ⟨_, _, hb, ?_, ?_⟩;(focus first|(refine ⟨?_, ?_, trivial⟩<;>first|exact PLe.refl _|exact PLe.nil)|exact trivial);try conv=>whnf)|fail)
    exact .refl _
theorem fn_Not (f : List Nd) : PureFn Tryz.prog 100 [fpv f] (npv (buildL (n0 4) [f])) := by
  have hb := fm_buildN (n0 4) [f] (by simp)
  generalize buildL (n0 4) [f] = z at hb ⊢
  refine PureFn.intro mixed (fn := Tryz.f100) rfl rfl rfl fun M w0 => ?_
  cases z with
  | nil =>
    (try conv=>whnf);repeat' (first|(apply And.intro<;>try conv=>whnf)|(apply cellsI;rfl)|(refine PureFn.dcq (f := 29) rfl ?_;try conv=>whnf)|(refine ⟨_, _, hb, ?_, ?_⟩;(focus first|(refine ⟨?_, ?_, trivial⟩<;>first|exact PLe.refl _|exact PLe.nil)|exact trivial);try conv=>whnf)|fail)
    exact .refl _
  | cons a r =>
    (try conv=>whnf);repeat' (first|(apply And.intro<;>try conv=>whnf)|(apply cellsI;rfl)|(refine PureFn.dcq (f := 29) rfl ?_;try conv=>whnf)|(refine ⟨_, _, hb, ?_, ?_⟩;(focus first|(refine ⟨?_, ?_, trivial⟩<;>first|exact PLe.refl _|exact PLe.nil)|exact trivial);try conv=>whnf)|fail)
    exact .refl _
theorem fn_And (f g : List Nd) : PureFn Tryz.prog 80 [fpv f, fpv g] (npv (buildL (n0 5) [f, g])) := by
  have hb := fm_buildN (n0 5) [f, g] (by simp)
  generalize buildL (n0 5) [f, g] = z at hb ⊢
  refine PureFn.intro mixed (fn := Tryz.f80) rfl rfl rfl fun M w0 => ?_
  cases z with
  | nil =>
    (try conv=>whnf);repeat' (first|(apply And.intro<;>try conv=>whnf)|(apply cellsI;rfl)|(refine PureFn.dcq (f := 29) rfl ?_;try conv=>whnf)|(refine ⟨_, _, hb, ?_, ?_⟩;(focus first|(refine ⟨?_, ?_, trivial⟩<;>first|exact PLe.refl _|exact PLe.nil)|exact trivial);try conv=>whnf)|fail)
    exact .refl _
  | cons a r =>
    (try conv=>whnf);repeat' (first|(apply And.intro<;>try conv=>whnf)|(apply cellsI;rfl)|(refine PureFn.dcq (f := 29) rfl ?_;try conv=>whnf)|(refine ⟨_, _, hb, ?_, ?_⟩;(focus first|(refine ⟨?_, ?_, trivial⟩<;>first|exact PLe.refl _|exact PLe.nil)|exact trivial);try conv=>whnf)|fail)
    exact .refl _
theorem fn_Or (f g : List Nd) : PureFn Tryz.prog 101 [fpv f, fpv g] (npv (buildL (n0 6) [f, g])) := by
  have hb := fm_buildN (n0 6) [f, g] (by simp)
  generalize buildL (n0 6) [f, g] = z at hb ⊢
  refine PureFn.intro mixed (fn := Tryz.f101) rfl rfl rfl fun M w0 => ?_
  cases z with
  | nil =>
    (try conv=>whnf);repeat' (first|(apply And.intro<;>try conv=>whnf)|(apply cellsI;rfl)|(refine PureFn.dcq (f := 29) rfl ?_;try conv=>whnf)|(refine ⟨_, _, hb, ?_, ?_⟩;(focus first|(refine ⟨?_, ?_, trivial⟩<;>first|exact PLe.refl _|exact PLe.nil)|exact trivial);try conv=>whnf)|fail)
    exact .refl _
  | cons a r =>
    (try conv=>whnf);repeat' (first|(apply And.intro<;>try conv=>whnf)|(apply cellsI;rfl)|(refine PureFn.dcq (f := 29) rfl ?_;try conv=>whnf)|(refine ⟨_, _, hb, ?_, ?_⟩;(focus first|(refine ⟨?_, ?_, trivial⟩<;>first|exact PLe.refl _|exact PLe.nil)|exact trivial);try conv=>whnf)|fail)
    exact .refl _
theorem fn_Imp (f g : List Nd) : PureFn Tryz.prog 20 [fpv f, fpv g] (npv (buildL (n0 7) [f, g])) := by
  have hb := fm_buildN (n0 7) [f, g] (by simp)
  generalize buildL (n0 7) [f, g] = z at hb ⊢
  refine PureFn.intro mixed (fn := Tryz.f20) rfl rfl rfl fun M w0 => ?_
  cases z with
  | nil =>
    (try conv=>whnf);repeat' (first|(apply And.intro<;>try conv=>whnf)|(apply cellsI;rfl)|(refine PureFn.dcq (f := 29) rfl ?_;try conv=>whnf)|(refine ⟨_, _, hb, ?_, ?_⟩;(focus first|(refine ⟨?_, ?_, trivial⟩<;>first|exact PLe.refl _|exact PLe.nil)|exact trivial);try conv=>whnf)|fail)
    exact .refl _
  | cons a r =>
    (try conv=>whnf);repeat' (first|(apply And.intro<;>try conv=>whnf)|(apply cellsI;rfl)|(refine PureFn.dcq (f := 29) rfl ?_;try conv=>whnf)|(refine ⟨_, _, hb, ?_, ?_⟩;(focus first|(refine ⟨?_, ?_, trivial⟩<;>first|exact PLe.refl _|exact PLe.nil)|exact trivial);try conv=>whnf)|fail)
    exact .refl _
theorem fn_Iff (f g : List Nd) : PureFn Tryz.prog 102 [fpv f, fpv g] (npv (buildL (n0 8) [f, g])) := by
  have hb := fm_buildN (n0 8) [f, g] (by simp)
  generalize buildL (n0 8) [f, g] = z at hb ⊢
  refine PureFn.intro mixed (fn := Tryz.f102) rfl rfl rfl fun M w0 => ?_
  cases z with
  | nil =>
    (try conv=>whnf);repeat' (first|(apply And.intro<;>try conv=>whnf)|(apply cellsI;rfl)|(refine PureFn.dcq (f := 29) rfl ?_;try conv=>whnf)|(refine ⟨_, _, hb, ?_, ?_⟩;(focus first|(refine ⟨?_, ?_, trivial⟩<;>first|exact PLe.refl _|exact PLe.nil)|exact trivial);try conv=>whnf)|fail)
    exact .refl _
  | cons a r =>
    (try conv=>whnf);repeat' (first|(apply And.intro<;>try conv=>whnf)|(apply cellsI;rfl)|(refine PureFn.dcq (f := 29) rfl ?_;try conv=>whnf)|(refine ⟨_, _, hb, ?_, ?_⟩;(focus first|(refine ⟨?_, ?_, trivial⟩<;>first|exact PLe.refl _|exact PLe.nil)|exact trivial);try conv=>whnf)|fail)
    exact .refl _
theorem fn_Know (i : Int) (f : List Nd) : PureFn Tryz.prog 18 [.int .i64 i, fpv f] (npv (buildL (nI 9 i) [f])) := by
  have hb := fm_buildN (nI 9 i) [f] (by simp)
  generalize buildL (nI 9 i) [f] = z at hb ⊢
  refine PureFn.intro mixed (fn := Tryz.f18) rfl rfl rfl fun M w0 => ?_
  cases z with
  | nil =>
    (try conv=>whnf);repeat' (first|(apply And.intro<;>try conv=>whnf)|(apply cellsI;rfl)|(refine PureFn.dcq (f := 29) rfl ?_;try conv=>whnf)|(refine ⟨_, _, hb, ?_, ?_⟩;(focus first|(refine ⟨?_, ?_, trivial⟩<;>first|exact PLe.refl _|exact PLe.nil)|exact trivial);try conv=>whnf)|fail)
    exact .refl _
  | cons a r =>
    (try conv=>whnf);repeat' (first|(apply And.intro<;>try conv=>whnf)|(apply cellsI;rfl)|(refine PureFn.dcq (f := 29) rfl ?_;try conv=>whnf)|(refine ⟨_, _, hb, ?_, ?_⟩;(focus first|(refine ⟨?_, ?_, trivial⟩<;>first|exact PLe.refl _|exact PLe.nil)|exact trivial);try conv=>whnf)|fail)
    exact .refl _
theorem fn_Poss (i : Int) (f : List Nd) : PureFn Tryz.prog 79 [.int .i64 i, fpv f] (npv (buildL (nI 10 i) [f])) := by
  have hb := fm_buildN (nI 10 i) [f] (by simp)
  generalize buildL (nI 10 i) [f] = z at hb ⊢
  refine PureFn.intro mixed (fn := Tryz.f79) rfl rfl rfl fun M w0 => ?_
  cases z with
  | nil =>
    (try conv=>whnf);repeat' (first|(apply And.intro<;>try conv=>whnf)|(apply cellsI;rfl)|(refine PureFn.dcq (f := 29) rfl ?_;try conv=>whnf)|(refine ⟨_, _, hb, ?_, ?_⟩;(focus first|(refine ⟨?_, ?_, trivial⟩<;>first|exact PLe.refl _|exact PLe.nil)|exact trivial);try conv=>whnf)|fail)
    exact .refl _
  | cons a r =>
    (try conv=>whnf);repeat' (first|(apply And.intro<;>try conv=>whnf)|(apply cellsI;rfl)|(refine PureFn.dcq (f := 29) rfl ?_;try conv=>whnf)|(refine ⟨_, _, hb, ?_, ?_⟩;(focus first|(refine ⟨?_, ?_, trivial⟩<;>first|exact PLe.refl _|exact PLe.nil)|exact trivial);try conv=>whnf)|fail)
    exact .refl _
theorem fn_Every (i : Int) (f : List Nd) : PureFn Tryz.prog 103 [.int .i64 i, fpv f] (npv (buildL (nG 11 i) [f])) := by
  have hb := fm_buildN (nG 11 i) [f] (by simp)
  generalize buildL (nG 11 i) [f] = z at hb ⊢
  refine PureFn.intro mixed (fn := Tryz.f103) rfl rfl rfl fun M w0 => ?_
  cases z with
  | nil =>
    (try conv=>whnf);repeat' (first|(apply And.intro<;>try conv=>whnf)|(apply cellsI;rfl)|(refine PureFn.dcq (f := 29) rfl ?_;try conv=>whnf)|(refine ⟨_, _, hb, ?_, ?_⟩;(focus first|(refine ⟨?_, ?_, trivial⟩<;>first|exact PLe.refl _|exact PLe.nil)|exact trivial);try conv=>whnf)|fail)
    exact .refl _
  | cons a r =>
    (try conv=>whnf);repeat' (first|(apply And.intro<;>try conv=>whnf)|(apply cellsI;rfl)|(refine PureFn.dcq (f := 29) rfl ?_;try conv=>whnf)|(refine ⟨_, _, hb, ?_, ?_⟩;(focus first|(refine ⟨?_, ?_, trivial⟩<;>first|exact PLe.refl _|exact PLe.nil)|exact trivial);try conv=>whnf)|fail)
    exact .refl _
theorem fn_Dist (i : Int) (f : List Nd) : PureFn Tryz.prog 104 [.int .i64 i, fpv f] (npv (buildL (nG 12 i) [f])) := by
  have hb := fm_buildN (nG 12 i) [f] (by simp)
  generalize buildL (nG 12 i) [f] = z at hb ⊢
  refine PureFn.intro mixed (fn := Tryz.f104) rfl rfl rfl fun M w0 => ?_
  cases z with
  | nil =>
    (try conv=>whnf);repeat' (first|(apply And.intro<;>try conv=>whnf)|(apply cellsI;rfl)|(refine PureFn.dcq (f := 29) rfl ?_;try conv=>whnf)|(refine ⟨_, _, hb, ?_, ?_⟩;(focus first|(refine ⟨?_, ?_, trivial⟩<;>first|exact PLe.refl _|exact PLe.nil)|exact trivial);try conv=>whnf)|fail)
    exact .refl _
  | cons a r =>
    (try conv=>whnf);repeat' (first|(apply And.intro<;>try conv=>whnf)|(apply cellsI;rfl)|(refine PureFn.dcq (f := 29) rfl ?_;try conv=>whnf)|(refine ⟨_, _, hb, ?_, ?_⟩;(focus first|(refine ⟨?_, ?_, trivial⟩<;>first|exact PLe.refl _|exact PLe.nil)|exact trivial);try conv=>whnf)|fail)
    exact .refl _
theorem fn_Common (i : Int) (f g : List Nd) : PureFn Tryz.prog 81 [.int .i64 i, fpv f, fpv g] (npv (buildL (nG 13 i) [f, g])) := by
  have hb := fm_buildN (nG 13 i) [f, g] (by simp)
  generalize buildL (nG 13 i) [f, g] = z at hb ⊢
  refine PureFn.intro mixed (fn := Tryz.f81) rfl rfl rfl fun M w0 => ?_
  cases z with
  | nil =>
    (try conv=>whnf);repeat' (first|(apply And.intro<;>try conv=>whnf)|(apply cellsI;rfl)|(refine PureFn.dcq (f := 29) rfl ?_;try conv=>whnf)|(refine ⟨_, _, hb, ?_, ?_⟩;(focus first|(refine ⟨?_, ?_, trivial⟩<;>first|exact PLe.refl _|exact PLe.nil)|exact trivial);try conv=>whnf)|fail)
    exact .refl _
  | cons a r =>
    (try conv=>whnf);repeat' (first|(apply And.intro<;>try conv=>whnf)|(apply cellsI;rfl)|(refine PureFn.dcq (f := 29) rfl ?_;try conv=>whnf)|(refine ⟨_, _, hb, ?_, ?_⟩;(focus first|(refine ⟨?_, ?_, trivial⟩<;>first|exact PLe.refl _|exact PLe.nil)|exact trivial);try conv=>whnf)|fail)
    exact .refl _
end Go.Proofs.YtjdmfhggokfflaaGreatDoor
set_option maxRecDepth 100000
set_option maxHeartbeats 4000000
namespace Go.Proofs.YtjdmfhggokfflaaGreatDoor
open Go Go.Dv

theorem red_apply0 (x : Nd) (X Y : List Nd) (hx : 1 ≤ x.op ∧ x.op ≤ 13) : PureFn Tryz.prog 82 [x.pv, fpv X, fpv Y] (npv (apN x X Y)) := by
  obtain ⟨z, hz⟩ : ∃ z, apN x X Y = z := ⟨_, rfl⟩
  rw [hz]
  unfold apN at hz
  have c1 := fn_True
  have c2 := fn_False
  have c3 := fn_Fact x.i
  have c4 := fn_Not X
  have c5 := fn_And X Y
  have c6 := fn_Or X Y
  have c7 := fn_Imp X Y
  have c8 := fn_Iff X Y
  have c9 := fn_Know x.i X
  have c10 := fn_Poss x.i X
  have c11 := fn_Every x.g X
  have c12 := fn_Dist x.g X
  have c13 := fn_Common x.g X Y
  have e1 : x.op = 1 → buildL (n0 1) [] = z := fun e => by rw [← hz, e]; exact build_one _
  have e2 : x.op = 2 → buildL (n0 2) [] = z := fun e => by rw [← hz, e]; exact build_one _
  have e3 : x.op = 3 → buildL (nI 3 x.i) [] = z := fun e => by rw [← hz, e]; exact build_one _
  have e4 : x.op = 4 → buildL (n0 4) [X] = z := fun e => by rw [← hz, e]; exact build_un _ _ rfl rfl rfl
  have e5 : x.op = 5 → buildL (n0 5) [X, Y] = z := fun e => by rw [← hz, e]; exact build_bin _ _ _ rfl rfl
  have e6 : x.op = 6 → buildL (n0 6) [X, Y] = z := fun e => by rw [← hz, e]; exact build_bin _ _ _ rfl rfl
  have e7 : x.op = 7 → buildL (n0 7) [X, Y] = z := fun e => by rw [← hz, e]; exact build_bin _ _ _ rfl rfl
  have e8 : x.op = 8 → buildL (n0 8) [X, Y] = z := fun e => by rw [← hz, e]; exact build_bin _ _ _ rfl rfl
  have e9 : x.op = 9 → buildL (nI 9 x.i) [X] = z := fun e => by rw [← hz, e]; exact build_un _ _ rfl rfl rfl
  have e10 : x.op = 10 → buildL (nI 10 x.i) [X] = z := fun e => by rw [← hz, e]; exact build_un _ _ rfl rfl rfl
  have e11 : x.op = 11 → buildL (nG 11 x.g) [X] = z := fun e => by rw [← hz, e]; exact build_un _ _ rfl rfl rfl
  have e12 : x.op = 12 → buildL (nG 12 x.g) [X] = z := fun e => by rw [← hz, e]; exact build_un _ _ rfl rfl rfl
  have e13 : x.op = 13 → buildL (nG 13 x.g) [X, Y] = z := fun e => by rw [← hz, e]; exact build_bin _ _ _ rfl rfl
  have d1 := fun e => e1 e ▸ c1
  have d2 := fun e => e2 e ▸ c2
  have d3 := fun e => e3 e ▸ c3
  have d4 := fun e => e4 e ▸ c4
  have d5 := fun e => e5 e ▸ c5
  have d6 := fun e => e6 e ▸ c6
  have d7 := fun e => e7 e ▸ c7
  have d8 := fun e => e8 e ▸ c8
  have d9 := fun e => e9 e ▸ c9
  have d10 := fun e => e10 e ▸ c10
  have d11 := fun e => e11 e ▸ c11
  have d12 := fun e => e12 e ▸ c12
  have d13 := fun e => e13 e ▸ c13
  clear c1 c2 c3 c4 c5 c6 c7 c8 c9 c10 c11 c12 c13 e1 e2 e3 e4 e5 e6 e7 e8 e9 e10 e11 e12 e13 hz
  refine PureFn.intro mixed (fn := Tryz.f82) rfl rfl rfl fun M w0 => ?_
  cases z with
  | nil =>
    (try conv=>whnf);repeat' (first|(apply And.intro<;>try conv=>whnf)|(intro h;try conv=>whnf)|(refine PureFn.dcq (f := 98) rfl ?_;try conv=>whnf)|(refine PureFn.dcq (f := 99) rfl ?_;try conv=>whnf)|(refine PureFn.dcq (f := 17) rfl ?_;try conv=>whnf)|(refine PureFn.dcq (f := 100) rfl ?_;try conv=>whnf)|(refine PureFn.dcq (f := 80) rfl ?_;try conv=>whnf)|(refine PureFn.dcq (f := 101) rfl ?_;try conv=>whnf)|(refine PureFn.dcq (f := 20) rfl ?_;try conv=>whnf)|(refine PureFn.dcq (f := 102) rfl ?_;try conv=>whnf)|(refine PureFn.dcq (f := 18) rfl ?_;try conv=>whnf)|(refine PureFn.dcq (f := 79) rfl ?_;try conv=>whnf)|(refine PureFn.dcq (f := 103) rfl ?_;try conv=>whnf)|(refine PureFn.dcq (f := 104) rfl ?_;try conv=>whnf)|(refine PureFn.dcq (f := 81) rfl ?_;try conv=>whnf)|(refine ⟨_, _, d1 ?_, ?_, ?_⟩;rotate_left 1;(focus first|(refine ⟨trivial⟩<;>first|exact PLe.refl _|exact PLe.nil)|exact trivial);try conv=>whnf)|(refine ⟨_, _, d2 ?_, ?_, ?_⟩;rotate_left 1;(focus first|(refine ⟨trivial⟩<;>first|exact PLe.refl _|exact PLe.nil)|exact trivial);try conv=>whnf)|(refine ⟨_, _, d3 ?_, ?_, ?_⟩;rotate_left 1;(focus first|(refine ⟨?_, trivial⟩<;>first|exact PLe.refl _|exact PLe.nil)|exact trivial);try conv=>whnf)|(refine ⟨_, _, d4 ?_, ?_, ?_⟩;rotate_left 1;(focus first|(refine ⟨?_, trivial⟩<;>first|exact PLe.refl _|exact PLe.nil)|exact trivial);try conv=>whnf)|(refine ⟨_, _, d5 ?_, ?_, ?_⟩;rotate_left 1;(focus first|(refine ⟨?_, ?_, trivial⟩<;>first|exact PLe.refl _|exact PLe.nil)|exact trivial);try conv=>whnf)|(refine ⟨_, _, d6 ?_, ?_, ?_⟩;rotate_left 1;(focus first|(refine ⟨?_, ?_, trivial⟩<;>first|exact PLe.refl _|exact PLe.nil)|exact trivial);try conv=>whnf)|(refine ⟨_, _, d7 ?_, ?_, ?_⟩;rotate_left 1;(focus first|(refine ⟨?_, ?_, trivial⟩<;>first|exact PLe.refl _|exact PLe.nil)|exact trivial);try conv=>whnf)|(refine ⟨_, _, d8 ?_, ?_, ?_⟩;rotate_left 1;(focus first|(refine ⟨?_, ?_, trivial⟩<;>first|exact PLe.refl _|exact PLe.nil)|exact trivial);try conv=>whnf)|(refine ⟨_, _, d9 ?_, ?_, ?_⟩;rotate_left 1;(focus first|(refine ⟨?_, ?_, trivial⟩<;>first|exact PLe.refl _|exact PLe.nil)|exact trivial);try conv=>whnf)|(refine ⟨_, _, d10 ?_, ?_, ?_⟩;rotate_left 1;(focus first|(refine ⟨?_, ?_, trivial⟩<;>first|exact PLe.refl _|exact PLe.nil)|exact trivial);try conv=>whnf)|(refine ⟨_, _, d11 ?_, ?_, ?_⟩;rotate_left 1;(focus first|(refine ⟨?_, ?_, trivial⟩<;>first|exact PLe.refl _|exact PLe.nil)|exact trivial);try conv=>whnf)|(refine ⟨_, _, d12 ?_, ?_, ?_⟩;rotate_left 1;(focus first|(refine ⟨?_, ?_, trivial⟩<;>first|exact PLe.refl _|exact PLe.nil)|exact trivial);try conv=>whnf)|(refine ⟨_, _, d13 ?_, ?_, ?_⟩;rotate_left 1;(focus first|(refine ⟨?_, ?_, ?_, trivial⟩<;>first|exact PLe.refl _|exact PLe.nil)|exact trivial);try conv=>whnf)|fail)
    all_goals first
      | exact .refl _
      | exact eq_of_beq (by with_reducible assumption)
      | (simp only [beq_eq_false_iff_ne, ne_eq] at *; omega)
  | cons a r =>
    (try conv=>whnf);repeat' (first|(apply And.intro<;>try conv=>whnf)|(intro h;try conv=>whnf)|(refine PureFn.dcq (f := 98) rfl ?_;try conv=>whnf)|(refine PureFn.dcq (f := 99) rfl ?_;try conv=>whnf)|(refine PureFn.dcq (f := 17) rfl ?_;try conv=>whnf)|(refine PureFn.dcq (f := 100) rfl ?_;try conv=>whnf)|(refine PureFn.dcq (f := 80) rfl ?_;try conv=>whnf)|(refine PureFn.dcq (f := 101) rfl ?_;try conv=>whnf)|(refine PureFn.dcq (f := 20) rfl ?_;try conv=>whnf)|(refine PureFn.dcq (f := 102) rfl ?_;try conv=>whnf)|(refine PureFn.dcq (f := 18) rfl ?_;try conv=>whnf)|(refine PureFn.dcq (f := 79) rfl ?_;try conv=>whnf)|(refine PureFn.dcq (f := 103) rfl ?_;try conv=>whnf)|(refine PureFn.dcq (f := 104) rfl ?_;try conv=>whnf)|(refine PureFn.dcq (f := 81) rfl ?_;try conv=>whnf)|(refine ⟨_, _, d1 ?_, ?_, ?_⟩;rotate_left 1;(focus first|(refine ⟨trivial⟩<;>first|exact PLe.refl _|exact PLe.nil)|exact trivial);try conv=>whnf)|(refine ⟨_, _, d2 ?_, ?_, ?_⟩;rotate_left 1;(focus first|(refine ⟨trivial⟩<;>first|exact PLe.refl _|exact PLe.nil)|exact trivial);try conv=>whnf)|(refine ⟨_, _, d3 ?_, ?_, ?_⟩;rotate_left 1;(focus first|(refine ⟨?_, trivial⟩<;>first|exact PLe.refl _|exact PLe.nil)|exact trivial);try conv=>whnf)|(refine ⟨_, _, d4 ?_, ?_, ?_⟩;rotate_left 1;(focus first|(refine ⟨?_, trivial⟩<;>first|exact PLe.refl _|exact PLe.nil)|exact trivial);try conv=>whnf)|(refine ⟨_, _, d5 ?_, ?_, ?_⟩;rotate_left 1;(focus first|(refine ⟨?_, ?_, trivial⟩<;>first|exact PLe.refl _|exact PLe.nil)|exact trivial);try conv=>whnf)|(refine ⟨_, _, d6 ?_, ?_, ?_⟩;rotate_left 1;(focus first|(refine ⟨?_, ?_, trivial⟩<;>first|exact PLe.refl _|exact PLe.nil)|exact trivial);try conv=>whnf)|(refine ⟨_, _, d7 ?_, ?_, ?_⟩;rotate_left 1;(focus first|(refine ⟨?_, ?_, trivial⟩<;>first|exact PLe.refl _|exact PLe.nil)|exact trivial);try conv=>whnf)|(refine ⟨_, _, d8 ?_, ?_, ?_⟩;rotate_left 1;(focus first|(refine ⟨?_, ?_, trivial⟩<;>first|exact PLe.refl _|exact PLe.nil)|exact trivial);try conv=>whnf)|(refine ⟨_, _, d9 ?_, ?_, ?_⟩;rotate_left 1;(focus first|(refine ⟨?_, ?_, trivial⟩<;>first|exact PLe.refl _|exact PLe.nil)|exact trivial);try conv=>whnf)|(refine ⟨_, _, d10 ?_, ?_, ?_⟩;rotate_left 1;(focus first|(refine ⟨?_, ?_, trivial⟩<;>first|exact PLe.refl _|exact PLe.nil)|exact trivial);try conv=>whnf)|(refine ⟨_, _, d11 ?_, ?_, ?_⟩;rotate_left 1;(focus first|(refine ⟨?_, ?_, trivial⟩<;>first|exact PLe.refl _|exact PLe.nil)|exact trivial);try conv=>whnf)|(refine ⟨_, _, d12 ?_, ?_, ?_⟩;rotate_left 1;(focus first|(refine ⟨?_, ?_, trivial⟩<;>first|exact PLe.refl _|exact PLe.nil)|exact trivial);try conv=>whnf)|(refine ⟨_, _, d13 ?_, ?_, ?_⟩;rotate_left 1;(focus first|(refine ⟨?_, ?_, ?_, trivial⟩<;>first|exact PLe.refl _|exact PLe.nil)|exact trivial);try conv=>whnf)|fail)
    all_goals first
      | exact .refl _
      | exact eq_of_beq (by with_reducible assumption)
      | (simp only [beq_eq_false_iff_ne, ne_eq] at *; omega)
theorem red_apply (x : Nd) (X Y : List Nd) (hx : 1 ≤ x.op ∧ x.op ≤ 13) : PureFn Tryz.prog 82 [x.pv, fpv X, fpv Y] (fpv (apN x X Y)) := (red_apply0 x X Y hx).res (npv_le _)
theorem red_announced (p : List Nd) (x : Nd) (X Y : List Nd) (hx : 1 ≤ x.op ∧ x.op ≤ 13) : PureFn Tryz.prog 55 [fpv p, x.pv, fpv X, fpv Y] (npv (annN p x X Y)) := by
  obtain ⟨z, hz⟩ : ∃ z, annN p x X Y = z := ⟨_, rfl⟩
  rw [hz]
  have e1 : x.op = 10 → buildL (n0 7) [p, buildL (nI 10 x.i) [buildL (n0 5) [p, X]]] = z := fun e => by
    rw [← hz]
    unfold annN apN impL conL
    rw [e]
    show _ = buildL (n0 7) [p, wantL 10 x.i x.e x.g (buildL (n0 5) [p, X]) Y]
    rw [build_un (nI 10 x.i) _ rfl rfl rfl]; rfl
  have e2 : x.op = 13 → buildL (n0 7) [p, buildL (nG 13 x.g) [buildL (n0 5) [p, X], Y]] = z := fun e => by
    rw [← hz]
    unfold annN apN impL conL
    rw [e]
    show _ = buildL (n0 7) [p, wantL 13 x.i x.e x.g (buildL (n0 5) [p, X]) Y]
    rw [build_bin (nG 13 x.g) _ _ rfl rfl]; rfl
  have e3 : (x.op == 10) = false → (x.op == 13) = false → buildL (n0 7) [p, apN x X Y] = z := fun h1 h2 => by
    rw [← hz]
    unfold annN isPC
    rw [h1, h2]; rfl
  have hAp := red_apply x X Y hx
  have no : ∀ {a b : Int} {p : Prop}, (a == b) = false → a = b → p := fun h e => by rw [e] at h; simp at h
  by_cases h10 : x.op = 10
  · have d := e1 h10 ▸ fn_Imp p (buildL (nI 10 x.i) [buildL (n0 5) [p, X]])
    clear e1 e2 e3 hz
    refine PureFn.intro mixed (fn := Tryz.f55) rfl rfl rfl fun M w0 => ?_
    cases z with
    | nil =>
      (try conv=>whnf);repeat' (first|(apply And.intro<;>try conv=>whnf)|(intro h;try conv=>whnf)|(refine lin_plan (by kernel_rfl) ?_;try conv=>whnf)|(refine ⟨_, (by (conv=>whnf);exact d), rfl, ?_⟩;try conv=>whnf)|(refine ⟨_, (by (conv=>whnf);exact fm_And _ _), rfl, ?_⟩;try conv=>whnf)|(refine ⟨_, (by (conv=>whnf);exact fm_Poss _ _), rfl, ?_⟩;try conv=>whnf)|fail)
      all_goals first
        | exact .refl _
        | exact no (by with_reducible assumption) h10
    | cons a r =>
      (try conv=>whnf);repeat' (first|(apply And.intro<;>try conv=>whnf)|(intro h;try conv=>whnf)|(refine lin_plan (by kernel_rfl) ?_;try conv=>whnf)|(refine ⟨_, (by (conv=>whnf);exact d), rfl, ?_⟩;try conv=>whnf)|(refine ⟨_, (by (conv=>whnf);exact fm_And _ _), rfl, ?_⟩;try conv=>whnf)|(refine ⟨_, (by (conv=>whnf);exact fm_Poss _ _), rfl, ?_⟩;try conv=>whnf)|fail)
      all_goals first
        | exact .refl _
        | exact no (by with_reducible assumption) h10
  · by_cases h13 : x.op = 13
    · have d := e2 h13 ▸ fn_Imp p (buildL (nG 13 x.g) [buildL (n0 5) [p, X], Y])
      clear e1 e2 e3 hz
      refine PureFn.intro mixed (fn := Tryz.f55) rfl rfl rfl fun M w0 => ?_
      cases z with
      | nil =>
        (try conv=>whnf);repeat' (first|(apply And.intro<;>try conv=>whnf)|(intro h;try conv=>whnf)|(refine lin_plan (by kernel_rfl) ?_;try conv=>whnf)|(refine ⟨_, (by (conv=>whnf);exact d), rfl, ?_⟩;try conv=>whnf)|(refine ⟨_, (by (conv=>whnf);exact fm_And _ _), rfl, ?_⟩;try conv=>whnf)|(refine ⟨_, (by (conv=>whnf);exact fm_Common _ _ _), rfl, ?_⟩;try conv=>whnf)|fail)
        all_goals first
          | exact .refl _
          | exact absurd (eq_of_beq (by with_reducible assumption)) h10
          | exact no (by with_reducible assumption) h13
      | cons a r =>
        (try conv=>whnf);repeat' (first|(apply And.intro<;>try conv=>whnf)|(intro h;try conv=>whnf)|(refine lin_plan (by kernel_rfl) ?_;try conv=>whnf)|(refine ⟨_, (by (conv=>whnf);exact d), rfl, ?_⟩;try conv=>whnf)|(refine ⟨_, (by (conv=>whnf);exact fm_And _ _), rfl, ?_⟩;try conv=>whnf)|(refine ⟨_, (by (conv=>whnf);exact fm_Common _ _ _), rfl, ?_⟩;try conv=>whnf)|fail)
        all_goals first
          | exact .refl _
          | exact absurd (eq_of_beq (by with_reducible assumption)) h10
          | exact no (by with_reducible assumption) h13
    · have d := e3 (by simpa using h10) (by simpa using h13) ▸ fn_Imp p (apN x X Y)
      clear e1 e2 e3 hz
      refine PureFn.intro mixed (fn := Tryz.f55) rfl rfl rfl fun M w0 => ?_
      cases z with
      | nil =>
        (try conv=>whnf);repeat' (first|(apply And.intro<;>try conv=>whnf)|(intro h;try conv=>whnf)|(refine lin_plan (by kernel_rfl) ?_;try conv=>whnf)|(refine PureFn.dcq (f := 20) rfl ?_;try conv=>whnf)|(refine PureFn.dcq (f := 82) rfl ?_;try conv=>whnf)|(refine ⟨_, _, d, ?_, ?_⟩;(focus first|(refine ⟨?_, ?_, trivial⟩<;>first|exact PLe.refl _|exact PLe.nil)|exact trivial);try conv=>whnf)|(refine ⟨_, _, hAp, ?_, ?_⟩;(focus first|(refine ⟨?_, ?_, ?_, trivial⟩<;>first|exact PLe.refl _|exact PLe.nil)|exact trivial);try conv=>whnf)|fail)
        all_goals first
          | exact .refl _
          | exact absurd (eq_of_beq (by with_reducible assumption)) h10
          | exact absurd (eq_of_beq (by with_reducible assumption)) h13
      | cons a r =>
        (try conv=>whnf);repeat' (first|(apply And.intro<;>try conv=>whnf)|(intro h;try conv=>whnf)|(refine lin_plan (by kernel_rfl) ?_;try conv=>whnf)|(refine PureFn.dcq (f := 20) rfl ?_;try conv=>whnf)|(refine PureFn.dcq (f := 82) rfl ?_;try conv=>whnf)|(refine ⟨_, _, d, ?_, ?_⟩;(focus first|(refine ⟨?_, ?_, trivial⟩<;>first|exact PLe.refl _|exact PLe.nil)|exact trivial);try conv=>whnf)|(refine ⟨_, _, hAp, ?_, ?_⟩;(focus first|(refine ⟨?_, ?_, ?_, trivial⟩<;>first|exact PLe.refl _|exact PLe.nil)|exact trivial);try conv=>whnf)|fail)
        all_goals first
          | exact .refl _
          | exact absurd (eq_of_beq (by with_reducible assumption)) h10
          | exact absurd (eq_of_beq (by with_reducible assumption)) h13
end Go.Proofs.YtjdmfhggokfflaaGreatDoor
