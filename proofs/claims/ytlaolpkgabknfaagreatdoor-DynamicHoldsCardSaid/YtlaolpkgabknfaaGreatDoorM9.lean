/- Parts of the proof, one after the other: The layer Dv, part 23: a call sees a part of the heap, under other numbers. The dynamic language: the evaluation of the program walked: at. The dynamic language: the evaluation of the program walked: nodes. Models: closed parts of models; formulas that are put together (plain). The dynamic language: the evaluation of the program walked: agents and groups. The dynamic language: the evaluation of the program walked: announcements. The dynamic language: the evaluation of the program walked: events. The dynamic language: announcing twice; the axioms (plain). -/
import Derived.Test.YtlaolpkgabknfaaGreatDoorM8
namespace Go.Dv
open Go.RowKit (Below)
mutual
/-- A value whose objects bear other numbers. -/
def DV.ren (ρ : Nat → Nat) : DV → DV
  | .agg l => .agg (DV.rens ρ l)
  | .tup l => .tup (DV.rens ρ l)
  | .ref k c => .ref (ρ k) c
  | .aref k n i c => .aref (ρ k) n i c
  | .buf k n => .buf (ρ k) n
  | .mp k => .mp (ρ k)
  | .vbuf k n => .vbuf (ρ k) n
  | .clo f a b => .clo f (DV.rens ρ a) (DV.rens ρ b)
  | .when c d => .when c (d.ren ρ)
  | .pv p => .pv p
  | .e0 => .e0
  | .eptr p c => .eptr p c
  | .fnv v => .fnv v
  | .raw v => .raw v
  | .any => .any
def DV.rens (ρ : Nat → Nat) : List DV → List DV
  | [] => []
  | d :: r => d.ren ρ :: DV.rens ρ r
end
def DObj.ren (ρ : Nat → Nat) : DObj → DObj
  | .var cs => .var (DV.rens ρ cs)
  | .arr sz es => .arr sz es
  | .fz l => .fz l
  | .mp es => .mp es
  | .gone => .gone
mutual
/-- All objects of a value are of a kind. -/
def DV.keys (p : Nat → Bool) : DV → Bool
  | .agg l => DV.keyss p l
  | .tup l => DV.keyss p l
  | .ref k _ => p k
  | .aref k _ _ _ => p k
  | .buf k _ => p k
  | .mp k => p k
  | .vbuf k _ => p k
  | .clo _ a b => DV.keyss p a && DV.keyss p b
  | .when c d => !c || d.keys p
  | _ => true
def DV.keyss (p : Nat → Bool) : List DV → Bool
  | [] => true
  | d :: r => d.keys p && DV.keyss p r
end
def DObj.keys (p : Nat → Bool) : DObj → Bool
  | .var cs => DV.keyss p cs
  | _ => true
theorem keyss_iff {p : Nat → Bool} : ∀ {l : List DV}, DV.keyss p l = true → ∀ (i : Nat) (d : DV), l[i]? = some d → d.keys p = true
  | [], _, i, d, h => by simp at h
  | x :: r, hk, i, d, h => by
    simp only [DV.keyss, Bool.and_eq_true] at hk
    cases i with
    | zero => simp at h; subst h; exact hk.1
    | succ i => exact keyss_iff hk.2 i d (by simpa using h)
theorem rens_len {ρ : Nat → Nat} : ∀ (l : List DV), (DV.rens ρ l).length = l.length
  | [] => rfl
  | _ :: r => by rw [DV.rens, List.length_cons, List.length_cons, rens_len r]
theorem rens_get {ρ : Nat → Nat} : ∀ {l : List DV} {i : Nat} {d : DV}, (DV.rens ρ l)[i]? = some d → ∃ d0, l[i]? = some d0 ∧ d = d0.ren ρ
  | [], i, d, h => by simp [DV.rens] at h
  | x :: r, i, d, h => by
    rw [DV.rens] at h
    cases i with
    | zero => simp at h; exact ⟨x, by simp, h.symm⟩
    | succ i =>
      obtain ⟨d0, h1, h2⟩ := rens_get (l := r) (i := i) (by simpa using h)
      exact ⟨d0, by simpa using h1, h2⟩
theorem ren_var {ρ : Nat → Nat} {o : Option DObj} {cs : List DV} (h : o.map (DObj.ren ρ) = some (.var cs)) : ∃ c0, o = some (.var c0) ∧ cs = DV.rens ρ c0 := by
  cases o with
  | none => cases h
  | some o =>
    cases o with
    | var c0 => exact ⟨c0, rfl, by simpa [DObj.ren] using h.symm⟩
    | arr => simp [DObj.ren] at h
    | fz => simp [DObj.ren] at h
    | mp => simp [DObj.ren] at h
    | gone => simp [DObj.ren] at h
theorem ren_arr {ρ : Nat → Nat} {o : Option DObj} {sz : Nat} {es : List PV} (h : o.map (DObj.ren ρ) = some (.arr sz es)) : o = some (.arr sz es) := by
  cases o with
  | none => cases h
  | some o => cases o <;> simp [DObj.ren] at h; obtain ⟨rfl, rfl⟩ := h; rfl
theorem ren_fz {ρ : Nat → Nat} {o : Option DObj} {es : List PV} (h : o.map (DObj.ren ρ) = some (.fz es)) : o = some (.fz es) := by
  cases o with
  | none => cases h
  | some o => cases o <;> simp [DObj.ren] at h; subst h; rfl
theorem ren_mp {ρ : Nat → Nat} {o : Option DObj} {es : List (PV × PV)} (h : o.map (DObj.ren ρ) = some (.mp es)) : o = some (.mp es) := by
  cases o with
  | none => cases h
  | some o => cases o <;> simp [DObj.ren] at h; subst h; rfl
theorem ren_some {ρ : Nat → Nat} {o : Option DObj} {x : DObj} (h : o.map (DObj.ren ρ) = some x) : ∃ y, o = some y ∧ x = y.ren ρ := by
  cases o with
  | none => cases h
  | some y => exact ⟨y, rfl, by simpa using h.symm⟩
theorem live_ren {ρ : Nat → Nat} {m : Loc} {o : DObj} : liveAt m (o.ren ρ) ↔ liveAt m o := by cases o <;> exact Iff.rfl
section
variable {P : Program} {M : Nat → Prop} {w0 : World}
theorem RelV.ren {T T' : Nat → Prop} {w : World} {μ μ' : Nat → Loc} {L L' : DH} {ρ : Nat → Nat} {p : Nat → Bool} {d : DV} {v : Value} (h : RelV T w μ L d v) (hu : d.keys p = true) (hT : ∀ b, T' b → T b)
    (hL : ∀ k, p k = true → L'.get (ρ k) = (L.get k).map (DObj.ren ρ) ∧ μ' (ρ k) = μ k) : RelV T' w μ' L' (d.ren ρ) v := by
  induction h with
  | pv q v h => exact .pv q v (h.sub hT)
  | e0 a => exact .e0 a
  | agg l vs h1 _ ih =>
    simp only [DV.keys] at hu
    refine .agg _ vs (by rw [rens_len]; exact h1) fun i d v hi hv => ?_
    obtain ⟨d0, g1, rfl⟩ := rens_get hi
    exact ih i d0 v g1 hv (keyss_iff hu i d0 g1)
  | tup l vs h1 _ ih =>
    simp only [DV.keys] at hu
    refine .tup _ vs (by rw [rens_len]; exact h1) fun i d v hi hv => ?_
    obtain ⟨d0, g1, rfl⟩ := rens_get hi
    exact ih i d0 v g1 hv (keyss_iff hu i d0 g1)
  | ref k c v h1 h2 =>
    obtain ⟨e1, e2⟩ := hL k hu
    refine .ref (ρ k) c v h1 fun cs hc => ?_
    rw [e1] at hc
    obtain ⟨c0, hc0, _⟩ := ren_var hc
    rw [e2]; exact h2 c0 hc0
  | aref k m i c v h1 h2 h3 =>
    obtain ⟨e1, e2⟩ := hL k hu
    exact .aref (ρ k) m i c v h1 (fun sz es hc => by rw [e1] at hc; rw [e2]; exact h2 sz es (ren_arr hc)) (fun es hc => by rw [e1] at hc; rw [e2]; exact h3 es (ren_fz hc))
  | eptr q c b off val h1 h2 h3 h4 => exact .eptr q c b off val (fun hb => h1 (hT b hb)) h2 h3 fun j q hj => (h4 j q hj).sub hT
  | buf k m v h1 h2 h3 =>
    obtain ⟨e1, e2⟩ := hL k hu
    exact .buf (ρ k) m v h1 (fun sz es hc => by rw [e1] at hc; rw [e2]; exact h2 sz es (ren_arr hc)) (fun es hc => by rw [e1] at hc; rw [e2]; exact h3 es (ren_fz hc))
  | vbuf k n v h1 h2 =>
    obtain ⟨e1, e2⟩ := hL k hu
    refine .vbuf (ρ k) n v h1 fun cs hc => ?_
    rw [e1] at hc
    obtain ⟨c0, hc0, _⟩ := ren_var hc
    rw [e2]; exact h2 c0 hc0
  | mp k v h1 h2 =>
    obtain ⟨e1, e2⟩ := hL k hu
    exact .mp (ρ k) v h1 fun es hc => by rw [e1] at hc; rw [e2]; exact h2 es (ren_mp hc)
  | clo f first caps fs cs h1 h2 _ _ ih1 ih2 =>
    simp only [DV.keys, Bool.and_eq_true] at hu
    refine .clo f _ _ fs cs (by rw [rens_len]; exact h1) (by rw [rens_len]; exact h2) (fun i d v hi hv => ?_) (fun i d v hi hv => ?_)
    · obtain ⟨d0, g1, rfl⟩ := rens_get hi
      exact ih1 i d0 v g1 hv (keyss_iff hu.1 i d0 g1)
    · obtain ⟨d0, g1, rfl⟩ := rens_get hi
      exact ih2 i d0 v g1 hv (keyss_iff hu.2 i d0 g1)
  | fnv v => exact .fnv v
  | when c d v _ h2 ih => exact .when c _ v (fun hc => ih hc (by simpa [DV.keys, hc] using hu)) h2
  | raw v => exact .raw v
  | any v => exact .any v
theorem ObjRel.ren {T T' : Nat → Prop} {w : World} {μ μ' : Nat → Loc} {L L' : DH} {ρ : Nat → Nat} {p : Nat → Bool} {k k' : Nat} {o : DObj} (h : ObjRel T w μ L k o) (hu : o.keys p = true) (hk : μ' k' = μ k) (hT : ∀ b, T' b → T b)
    (hL : ∀ k, p k = true → L'.get (ρ k) = (L.get k).map (DObj.ren ρ) ∧ μ' (ρ k) = μ k) : ObjRel T' w μ' L' k' (o.ren ρ) := by
  cases o with
  | var cs =>
    obtain ⟨vs, ty, h1, h2, h3⟩ := h
    refine ⟨vs, ty, by rw [hk]; exact h1, by rw [rens_len]; exact h2, fun i d v hi hv => ?_⟩
    obtain ⟨d0, g1, rfl⟩ := rens_get hi
    exact (h3 i d0 v g1 hv).ren (keyss_iff hu i d0 g1) hT hL
  | arr sz es =>
    rcases h with ⟨h1, h2⟩ | ⟨vs, ty, h1, h2, h3, h4, h5, h6⟩
    · exact .inl ⟨by rw [hk]; exact h1, h2⟩
    · refine .inr ⟨vs, ty, by rw [hk]; exact h1, by rw [hk]; exact h2, by rw [hk]; exact h3, by rw [hk]; exact h4, h5, fun i p j q hp hq => ?_⟩
      obtain ⟨v, g1, g2⟩ := h6 i p j q hp hq
      exact ⟨v, g1, g2.sub hT⟩
  | fz l =>
    rcases h with ⟨h1, h2⟩ | ⟨h1, h2, h3⟩
    · exact .inl ⟨by rw [hk]; exact h1, h2⟩
    · exact .inr ⟨by rw [hk]; exact h1, by rw [hk]; exact h2, by rw [hk]; exact h3.sub hT⟩
  | gone => trivial
  | mp es =>
    obtain ⟨ents, clock, h1, h2, h3⟩ := h
    exact ⟨ents, clock, by rw [hk]; exact h1, h2, fun i kv e hi he => ⟨(h3 i kv e hi he).1.sub hT, (h3 i kv e hi he).2.sub hT⟩⟩
mutual
theorem keys_under (n : Nat) : ∀ d : DV, d.keys (fun k => Nat.blt k n) = d.under n
  | .agg l => by simp only [DV.keys, DV.under]; exact keyss_unders n l
  | .tup l => by simp only [DV.keys, DV.under]; exact keyss_unders n l
  | .ref _ _ => rfl
  | .aref _ _ _ _ => rfl
  | .buf _ _ => rfl
  | .mp _ => rfl
  | .vbuf _ _ => rfl
  | .clo _ a b => by simp only [DV.keys, DV.under, keyss_unders n a, keyss_unders n b]
  | .when c d => by simp only [DV.keys, DV.under, keys_under n d]
  | .pv _ => rfl
  | .e0 => rfl
  | .eptr _ _ => rfl
  | .fnv _ => rfl
  | .raw _ => rfl
  | .any => rfl
theorem keyss_unders (n : Nat) : ∀ l : List DV, DV.keyss (fun k => Nat.blt k n) l = DV.unders n l
  | [] => rfl
  | d :: r => by simp only [DV.keyss, DV.unders, keys_under n d, keyss_unders n r]
end
mutual
theorem ren_under {n m : Nat} {ρ : Nat → Nat} (hρ : ∀ k, k < n → ρ k < m) : ∀ d : DV, d.under n = true → (d.ren ρ).under m = true
  | .agg l, h => by simp only [DV.under, DV.ren] at h ⊢; exact rens_under hρ l h
  | .tup l, h => by simp only [DV.under, DV.ren] at h ⊢; exact rens_under hρ l h
  | .ref k _, h => by simp only [DV.under, DV.ren, Nat.blt_eq] at h ⊢; exact hρ k h
  | .aref k _ _ _, h => by simp only [DV.under, DV.ren, Nat.blt_eq] at h ⊢; exact hρ k h
  | .buf k _, h => by simp only [DV.under, DV.ren, Nat.blt_eq] at h ⊢; exact hρ k h
  | .mp k, h => by simp only [DV.under, DV.ren, Nat.blt_eq] at h ⊢; exact hρ k h
  | .vbuf k _, h => by simp only [DV.under, DV.ren, Nat.blt_eq] at h ⊢; exact hρ k h
  | .clo _ a b, h => by
    simp only [DV.under, DV.ren, Bool.and_eq_true] at h ⊢
    exact ⟨rens_under hρ a h.1, rens_under hρ b h.2⟩
  | .when c d, h => by
    simp only [DV.under, DV.ren] at h ⊢
    cases c with
    | false => rfl
    | true => simpa using ren_under hρ d (by simpa using h)
  | .pv _, _ => rfl
  | .e0, _ => rfl
  | .eptr _ _, _ => rfl
  | .fnv _, _ => rfl
  | .raw _, _ => rfl
  | .any, _ => rfl
theorem rens_under {n m : Nat} {ρ : Nat → Nat} (hρ : ∀ k, k < n → ρ k < m) : ∀ l : List DV, DV.unders n l = true → DV.unders m (DV.rens ρ l) = true
  | [], _ => rfl
  | d :: r, h => by
    simp only [DV.unders, DV.rens, Bool.and_eq_true] at h ⊢
    exact ⟨ren_under hρ d h.1, rens_under hρ r h.2⟩
end
theorem obj_keys {n : Nat} : ∀ {o : DObj}, o.under n = true → o.keys (fun k => Nat.blt k n) = true
  | .var cs, h => by simp only [DObj.under] at h; simp only [DObj.keys]; rw [keyss_unders]; exact h
  | .arr _ _, _ => rfl
  | .fz _, _ => rfl
  | .mp _, _ => rfl
  | .gone, _ => rfl
theorem obj_ren_under {n m : Nat} {ρ : Nat → Nat} (hρ : ∀ k, k < n → ρ k < m) : ∀ {o : DObj}, o.under n = true → (o.ren ρ).under m = true
  | .var cs, h => rens_under hρ cs h
  | .arr _ _, _ => rfl
  | .fz _, _ => rfl
  | .mp _, _ => rfl
  | .gone, _ => rfl
/-- The heap behind a call that sees some objects under other numbers. -/
def DH.mergeR (L : DH) (ρ σ : Nat → Nat) (p : Nat → Bool) (L' : DH) : DH := { L with get := fun k => bif p k then (L'.get (σ k)).map (DObj.ren ρ) else L.get k }
theorem mergeR_in {L L' : DH} {ρ σ : Nat → Nat} {p : Nat → Bool} {k : Nat} (h : p k = true) : (L.mergeR ρ σ p L').get k = (L'.get (σ k)).map (DObj.ren ρ) := by
  simp only [DH.mergeR, h, cond_true]
theorem mergeR_out {L L' : DH} {ρ σ : Nat → Nat} {p : Nat → Bool} {k : Nat} (h : p k = false) : (L.mergeR ρ σ p L').get k = L.get k := by
  simp only [DH.mergeR, h, cond_false]
theorem DC.ren {f : FuncId} {args : List DV} {L H : DH} {K : DV → DH → Prop} (ρ σ : Nat → Nat) (p : Nat → Bool) (h1 : ∀ k, k < H.next → p (ρ k) = true ∧ σ (ρ k) = k ∧ ρ k < L.next) (h2 : ∀ k, p k = true → σ k < H.next ∧ ρ (σ k) = k)
    (hag : ∀ k, k < H.next → H.get k = (L.get (ρ k)).map (DObj.ren σ)) (hkp : ∀ k o, k < H.next → L.get (ρ k) = some o → o.keys p = true) (hnone : ∀ k, H.next ≤ k → H.get k = none) (hlo : H.lo = 0) (hlo' : L.lo = 0)
    (hbase : H.base ≤ H.next) (hkeys : ∀ k o, H.get k = some o → o.under H.next = true) (hargs : DV.keyss p args = true) (hargsU : DV.unders H.next (DV.rens σ args) = true)
    (h : ∀ M, DC P M w0 f (DV.rens σ args) H fun d L' => L'.next = H.next ∧ K (d.ren ρ) (L.mergeR ρ σ p L')) : DC P M w0 f args L K := by
  refine DC.mk ⟨(h M).elim.1, fun μ w vs hr hu hrel => ?_⟩
  have hlt : ∀ k o, H.get k = some o → k < H.next := fun k o hk => by
    rcases Nat.lt_or_ge k H.next with h' | h'
    · exact h'
    · rw [hnone k h'] at hk; cases hk
  have hsub : ∀ k o, H.get k = some o → ∃ o', L.get (ρ k) = some o' ∧ o = o'.ren σ := fun k o hk => by
    rw [hag k (hlt k o hk)] at hk
    exact ren_some hk
  let M' : Nat → Prop := fun b => M b ∨ ∃ k o, p k = false ∧ L.get k = some o ∧ liveAt (μ k) o ∧ (μ k).blk = b
  let μH : Nat → Loc := fun k => μ (ρ k)
  have hin : ∀ k o, p k = true → L.get k = some o → H.get (σ k) = some (o.ren σ) := fun k o hk ho => by
    obtain ⟨g1, g2⟩ := h2 k hk
    rw [hag _ g1, g2, ho]; rfl
  have hT : ∀ b, Tot M' μH H b ↔ Tot M μ L b := fun b => by
    constructor
    · rintro ((hb | ⟨k, o, _, h2, h3, h4⟩) | ⟨k, o, q1, q2, q3⟩)
      · exact .inl hb
      · exact .inr ⟨k, o, h2, h3, h4⟩
      · obtain ⟨o', g1, rfl⟩ := hsub k o q1
        exact .inr ⟨ρ k, o', g1, live_ren.1 q2, q3⟩
    · rintro (hb | ⟨k, o, q1, q2, q3⟩)
      · exact .inl (.inl hb)
      · cases hp : p k with
        | true =>
          obtain ⟨g1, g2⟩ := h2 k hp
          refine .inr ⟨σ k, o.ren σ, hin k o hp q1, ?_, ?_⟩
          · show liveAt (μ (ρ (σ k))) _
            rw [g2]; exact live_ren.2 q2
          · show (μ (ρ (σ k))).blk = b
            rw [g2]; exact q3
        | false => exact .inl (.inr ⟨k, o, hp, q1, q2, q3⟩)
  have hLH : ∀ k, p k = true → H.get (σ k) = (L.get k).map (DObj.ren σ) ∧ μH (σ k) = μ k := fun k hk => by
    obtain ⟨g1, g2⟩ := h2 k hk
    exact ⟨by rw [hag _ g1, g2], by show μ (ρ (σ k)) = μ k; rw [g2]⟩
  have hrH : HR M' w0 μH H w := by
    refine ⟨hr.ext, ?_, fun k o hk => ⟨hlt k o hk, hkeys k o hk⟩, ?_, ?_, ?_, hbase, by rw [hlo]; exact Nat.zero_le _, hr.glb⟩
    · rintro b (hb | ⟨k, o, _, q2, q3, rfl⟩)
      · exact hr.mlt b hb
      · exact (hr.live k o q2 q3).1
    · intro k o hk hl
      obtain ⟨o', g0, rfl⟩ := hsub k o hk
      obtain ⟨g1, g2, g3⟩ := hr.live (ρ k) o' g0 (live_ren.1 hl)
      refine ⟨g1, ?_, fun _ => g3 (by rw [hlo']; exact Nat.zero_le _)⟩
      rintro (hb | ⟨k', o2, hk', q2, q3, q4⟩)
      · exact g2 hb
      · have := hr.inj k' o2 (ρ k) o' q2 q3 g0 (live_ren.1 hl) q4
        rw [this, (h1 k (hlt k _ hk)).1] at hk'
        cases hk'
    · intro k o k' o' q1 q2 q3 q4 q5
      obtain ⟨a, a1, rfl⟩ := hsub k o q1
      obtain ⟨b, b1, rfl⟩ := hsub k' o' q3
      have e := hr.inj (ρ k) a (ρ k') b a1 (live_ren.1 q2) b1 (live_ren.1 q4) q5
      rw [← (h1 k (hlt k _ q1)).2.1, ← (h1 k' (hlt k' _ q3)).2.1, e]
    · intro k o hk
      obtain ⟨o', g0, rfl⟩ := hsub k o hk
      exact (hr.obj (ρ k) o' g0).ren (hkp k o' (hlt k _ hk) g0) rfl (fun b hb => (hT b).1 hb) hLH
  have hrelH : RelVs (Tot M' μH H) w μH H (DV.rens σ args) vs := ⟨by rw [rens_len]; exact hrel.1, fun i d v hd hv => by
    obtain ⟨d0, g1, rfl⟩ := rens_get hd
    exact (hrel.2 i d0 v g1 hv).ren (keyss_iff hargs i d0 g1) (fun b hb => (hT b).1 hb) hLH⟩
  refine ((h M').elim.2 μH w vs hrH hargsU hrelH).mono ?_
  rintro e w' ⟨v, he, μ', d, L', ⟨hn', hK⟩, hr', hv, hdu, hs⟩
  let μL : Nat → Loc := fun k => bif p k then μ' (σ k) else μ k
  have hμin : ∀ k, p k = true → μL k = μ' (σ k) := fun k hk => by show (bif p k then _ else _) = _; rw [hk]; rfl
  have hμout : ∀ k, p k = false → μL k = μ k := fun k hk => by show (bif p k then _ else _) = _; rw [hk]; rfl
  refine ⟨v, he, μL, d.ren ρ, L.mergeR ρ σ p L', hK, ?_⟩
  have hk' : ∀ k o, L'.get k = some o → k < H.next := fun k o hk => by have := (hr'.keys k o hk).1; omega
  have hframe : ∀ k o, p k = false → L.get k = some o → liveAt (μ k) o → w'.heap[(μ k).blk]? = w.heap[(μ k).blk]? := by
    intro k o hk hg hl
    refine hs.same _ (hr.live k o hg hl).1 ?_
    rintro ⟨j, o', q1, q2, q3, q4⟩
    obtain ⟨a, a1, rfl⟩ := hsub j o' q2
    have := hr.inj (ρ j) a k o a1 (live_ren.1 q3) hg hl q4
    rw [← this, (h1 j (hlt j _ q2)).1] at hk
    cases hk
  have hW : ∀ b, Wbl μH H b → Wbl μ L b := by
    rintro b ⟨k, o, q1, q2, q3, q4⟩
    obtain ⟨a, a1, rfl⟩ := hsub k o q2
    exact ⟨ρ k, a, by rw [hlo']; exact Nat.zero_le _, a1, live_ren.1 q3, q4⟩
  have hback : ∀ k o, p k = true → (L.mergeR ρ σ p L').get k = some o → ∃ o', L'.get (σ k) = some o' ∧ o = o'.ren ρ := fun k o hk ho => by
    rw [mergeR_in hk] at ho
    exact ren_some ho
  have hstp : Stp L μ w (L.mergeR ρ σ p L') μL w' := by
    refine ⟨⟨?_, ?_, ?_, ?_⟩, hs.os, hs.tape, hs.output, hs.size, fun b hb hn => hs.same b hb fun hw => hn (hW b hw), ?_, Nat.le_refl _, rfl, rfl⟩
    · intro k cs' hkl hc
      cases hp : p k with
      | true =>
        rw [mergeR_in hp] at hc
        rw [hμin k hp]
        obtain ⟨c0, g1, _⟩ := ren_var hc
        obtain ⟨cs, g2, g3⟩ := hs.evo.var (σ k) c0 (h2 k hp).1 g1
        obtain ⟨a, a1, a2⟩ := hsub (σ k) _ g2
        rw [(h2 k hp).2] at a1
        cases a with
        | var ca => exact ⟨ca, a1, by rw [g3]; show μ (ρ (σ k)) = μ k; rw [(h2 k hp).2]⟩
        | arr => simp [DObj.ren] at a2
        | fz => simp [DObj.ren] at a2
        | mp => simp [DObj.ren] at a2
        | gone => simp [DObj.ren] at a2
      | false =>
        rw [mergeR_out hp] at hc
        rw [hμout k hp]
        exact ⟨cs', hc, rfl⟩
    · intro k cs' hkl hc
      cases hp : p k with
      | true =>
        rw [mergeR_in hp] at hc
        rw [hμin k hp]
        obtain ⟨cs, g2, g3⟩ := hs.evo.mp (σ k) cs' (h2 k hp).1 (ren_mp hc)
        obtain ⟨a, a1, a2⟩ := hsub (σ k) _ g2
        rw [(h2 k hp).2] at a1
        have a3 := ren_mp (ρ := σ) (o := some a) (es := cs) (by rw [a2]; rfl)
        exact ⟨cs, by rw [a1]; exact a3, by rw [g3]; show μ (ρ (σ k)) = μ k; rw [(h2 k hp).2]⟩
      | false =>
        rw [mergeR_out hp] at hc
        rw [hμout k hp]
        exact ⟨cs', hc, rfl⟩
    · intro k sz es' hkl hc
      cases hp : p k with
      | true =>
        rw [mergeR_in hp] at hc
        rw [hμin k hp]
        obtain ⟨es, g2, g3⟩ := hs.evo.arr (σ k) sz es' (h2 k hp).1 (ren_arr hc)
        obtain ⟨a, a1, a2⟩ := hsub (σ k) _ g2
        rw [(h2 k hp).2] at a1
        have a3 := ren_arr (ρ := σ) (o := some a) (sz := sz) (es := es) (by rw [a2]; rfl)
        refine ⟨es, by rw [a1]; exact a3, ?_⟩
        rcases g3 with g3 | ⟨g3, g4⟩
        · exact .inl g3
        · exact .inr ⟨g3, by rw [g4]; show μ (ρ (σ k)) = μ k; rw [(h2 k hp).2]⟩
      | false =>
        rw [mergeR_out hp] at hc
        rw [hμout k hp]
        exact ⟨es', hc, .inr ⟨rfl, rfl⟩⟩
    · intro k es' hkl hc
      cases hp : p k with
      | true =>
        rw [mergeR_in hp] at hc
        rw [hμin k hp]
        have em : μH (σ k) = μ k := by show μ (ρ (σ k)) = μ k; rw [(h2 k hp).2]
        rcases hs.evo.fz (σ k) es' (h2 k hp).1 (ren_fz hc) with ⟨g2, g3⟩ | ⟨sz, es, g2, g3, g4⟩
        · obtain ⟨a, a1, a2⟩ := hsub (σ k) _ g2
          rw [(h2 k hp).2] at a1
          have a3 := ren_fz (ρ := σ) (o := some a) (es := es') (by rw [a2]; rfl)
          exact .inl ⟨by rw [a1]; exact a3, by rw [g3]; exact em⟩
        · obtain ⟨a, a1, a2⟩ := hsub (σ k) _ g2
          rw [(h2 k hp).2] at a1
          have a3 := ren_arr (ρ := σ) (o := some a) (sz := sz) (es := es) (by rw [a2]; rfl)
          refine .inr ⟨sz, es, by rw [a1]; exact a3, g3, ?_⟩
          rcases g4 with g4 | ⟨g4, g5⟩
          · exact .inl g4
          · exact .inr ⟨g4, by rw [g5]; exact em⟩
      | false =>
        rw [mergeR_out hp] at hc
        rw [hμout k hp]
        exact .inl ⟨hc, rfl⟩
    · intro k o hc hl
      cases hp : p k with
      | true =>
        obtain ⟨o', g1, rfl⟩ := hback k o hp hc
        rw [hμin k hp] at hl ⊢
        rcases hs.blk (σ k) o' g1 (live_ren.1 hl) with ⟨q1, ⟨o0, q2, q3⟩, q4⟩ | q1
        · obtain ⟨a, a1, rfl⟩ := hsub (σ k) _ q2
          rw [(h2 k hp).2] at a1
          have em : μH (σ k) = μ k := by show μ (ρ (σ k)) = μ k; rw [(h2 k hp).2]
          rw [em] at q3 q4
          exact .inl ⟨(hr.keys k a a1).1, ⟨a, a1, live_ren.1 q3⟩, q4⟩
        · exact .inr q1
      | false =>
        rw [mergeR_out hp] at hc
        rw [hμout k hp] at hl ⊢
        exact .inl ⟨(hr.keys k o hc).1, ⟨o, hc, hl⟩, rfl⟩
  have hT' : ∀ b, Tot M μL (L.mergeR ρ σ p L') b → Tot M' μ' L' b := by
    rintro b (hb | ⟨k, o, q1, q2, q3⟩)
    · exact .inl (.inl hb)
    · cases hp : p k with
      | true =>
        obtain ⟨o', g1, rfl⟩ := hback k o hp q1
        rw [hμin k hp] at q2 q3
        exact .inr ⟨σ k, o', g1, live_ren.1 q2, q3⟩
      | false =>
        rw [mergeR_out hp] at q1
        rw [hμout k hp] at q2 q3
        exact .inl (.inr ⟨k, o, hp, q1, q2, q3⟩)
  have hL' : ∀ k, Nat.blt k H.next = true → (L.mergeR ρ σ p L').get (ρ k) = (L'.get k).map (DObj.ren ρ) ∧ μL (ρ k) = μ' k := fun k hk => by
    have hk : k < H.next := by simpa using hk
    obtain ⟨g1, g2, _⟩ := h1 k hk
    exact ⟨by rw [mergeR_in g1, g2], by rw [hμin _ g1, g2]⟩
  have hnew : ∀ k o, L'.get k = some o → liveAt (μ' k) o → ∀ j oj, p j = false → L.get j = some oj → liveAt (μ j) oj → (μ' k).blk ≠ (μ j).blk := by
    intro k o hk hl j oj hj q2 q3 he
    exact (hr'.live k o hk hl).2.1 (.inr ⟨j, oj, hj, q2, q3, he.symm⟩)
  have hdk : d.keys (fun k => Nat.blt k H.next) = true := by rw [keys_under, ← hn']; exact hdu
  have hρu : ∀ k, k < H.next → ρ k < L.next := fun k hk => (h1 k hk).2.2
  refine ⟨⟨hr'.ext, fun b hb => hr'.mlt b (.inl hb), ?_, ?_, ?_, ?_, hr.base, hr.lob, hr.glb⟩, hv.ren hdk hT' hL', ren_under hρu d (by rw [← hn']; exact hdu), hstp⟩
  · intro k o hk
    cases hp : p k with
    | true =>
      obtain ⟨o', g1, rfl⟩ := hback k o hp hk
      have g2 := (hr'.keys (σ k) o' g1).2
      rw [hn'] at g2
      have := hρu (σ k) (h2 k hp).1
      rw [(h2 k hp).2] at this
      exact ⟨this, obj_ren_under hρu g2⟩
    | false => rw [mergeR_out hp] at hk; exact hr.keys k o hk
  · intro k o hk hl
    cases hp : p k with
    | true =>
      obtain ⟨o', g1, rfl⟩ := hback k o hp hk
      rw [hμin k hp] at hl ⊢
      obtain ⟨q1, q2, q3⟩ := hr'.live (σ k) o' g1 (live_ren.1 hl)
      refine ⟨q1, fun hM => q2 (.inl hM), fun _ => q3 (by rw [hs.lo, hlo]; exact Nat.zero_le _)⟩
    | false =>
      rw [mergeR_out hp] at hk
      rw [hμout k hp] at hl ⊢
      obtain ⟨q1, q2, q3⟩ := hr.live k o hk hl
      exact ⟨Nat.lt_of_lt_of_le q1 hs.size, q2, q3⟩
  · intro k o k' o' q1 q2 q3 q4 q5
    cases hp : p k with
    | true =>
      cases hp' : p k' with
      | true =>
        obtain ⟨a, a1, rfl⟩ := hback k o hp q1
        obtain ⟨b, b1, rfl⟩ := hback k' o' hp' q3
        rw [hμin k hp] at q2 q5
        rw [hμin k' hp'] at q4 q5
        have e := hr'.inj (σ k) a (σ k') b a1 (live_ren.1 q2) b1 (live_ren.1 q4) q5
        rw [← (h2 k hp).2, ← (h2 k' hp').2, e]
      | false =>
        obtain ⟨a, a1, rfl⟩ := hback k o hp q1
        rw [mergeR_out hp'] at q3
        rw [hμin k hp] at q2 q5
        rw [hμout k' hp'] at q4 q5
        exact absurd q5 (hnew (σ k) a a1 (live_ren.1 q2) k' o' hp' q3 q4)
    | false =>
      cases hp' : p k' with
      | true =>
        obtain ⟨b, b1, rfl⟩ := hback k' o' hp' q3
        rw [mergeR_out hp] at q1
        rw [hμout k hp] at q2 q5
        rw [hμin k' hp'] at q4 q5
        exact absurd q5.symm (hnew (σ k') b b1 (live_ren.1 q4) k o hp q1 q2)
      | false =>
        rw [mergeR_out hp] at q1
        rw [mergeR_out hp'] at q3
        rw [hμout k hp] at q2 q5
        rw [hμout k' hp'] at q4 q5
        exact hr.inj k o k' o' q1 q2 q3 q4 q5
  · intro k o hk
    cases hp : p k with
    | true =>
      obtain ⟨a, a1, rfl⟩ := hback k o hp hk
      have g2 := (hr'.keys (σ k) a a1).2
      rw [hn'] at g2
      exact (hr'.obj (σ k) a a1).ren (obj_keys g2) (hμin k hp) hT' hL'
    | false =>
      rw [mergeR_out hp] at hk
      exact (hr.obj k o hk).stp hstp (hμout k hp) (hframe k o hp hk) (hr.keys k o hk).2

/-! the renaming told by a list: key k of the callee's heap is the k-th of the list -/
def rhoR (rs : List Nat) (k : Nat) : Nat := rs.getD k 0
def memR : List Nat → Nat → Bool
  | [], _ => false
  | x :: r, k => bif Nat.beq k x then true else memR r k
def sigR : List Nat → Nat → Nat
  | [], _ => 0
  | x :: r, k => bif Nat.beq k x then 0 else sigR r k + 1
def nodR : List Nat → Bool
  | [] => true
  | x :: r => bif memR r x then false else nodR r
theorem sigR_in : ∀ {rs : List Nat} {k : Nat}, memR rs k = true → sigR rs k < rs.length ∧ rhoR rs (sigR rs k) = k
  | [], _, h => by cases h
  | x :: r, k, h => by
    cases hk : Nat.beq k x with
    | true =>
      have e : k = x := Nat.eq_of_beq_eq_true hk
      simp only [sigR, hk, cond_true]
      exact ⟨by simp, e.symm⟩
    | false =>
      simp only [memR, hk, cond_false] at h
      obtain ⟨h1, h2⟩ := sigR_in h
      simp only [sigR, hk, cond_false]
      exact ⟨by simpa using h1, by simpa [rhoR] using h2⟩
theorem memR_get : ∀ {rs : List Nat} {i : Nat}, i < rs.length → memR rs (rhoR rs i) = true
  | [], _, h => by simp at h
  | x :: r, 0, _ => by simp [rhoR, memR, Nat.beq_refl]
  | x :: r, i + 1, h => by
    have := memR_get (rs := r) (i := i) (by simpa using h)
    have e : rhoR (x :: r) (i + 1) = rhoR r i := by simp [rhoR]
    rw [e, memR]
    cases Nat.beq (rhoR r i) x with
    | true => rfl
    | false => exact this
theorem sigR_get : ∀ {rs : List Nat} {i : Nat}, nodR rs = true → i < rs.length → sigR rs (rhoR rs i) = i
  | [], _, _, h => by simp at h
  | x :: r, 0, _, _ => by simp [rhoR, sigR, Nat.beq_refl]
  | x :: r, i + 1, hn, h => by
    have e : rhoR (x :: r) (i + 1) = rhoR r i := by simp [rhoR]
    have hi : i < r.length := by simpa using h
    rw [nodR] at hn
    cases hm : memR r x with
    | true => rw [hm] at hn; cases hn
    | false =>
      rw [hm, cond_false] at hn
      have h1 := sigR_get hn hi
      have h2 := memR_get hi
      rw [e, sigR]
      cases hb : Nat.beq (rhoR r i) x with
      | true => rw [Nat.eq_of_beq_eq_true hb, hm] at h2; cases h2
      | false => rw [cond_false, h1]
def agrR (g g' : Nat → Option DObj) (rs : List Nat) : Nat → Prop
  | 0 => True
  | n + 1 => (g n = (g' (rhoR rs n)).map (DObj.ren (sigR rs)) ∧ (g' (rhoR rs n)).elim true (DObj.keys (memR rs)) = true) ∧ agrR g g' rs n
theorem agrR_lt {g g' : Nat → Option DObj} {rs : List Nat} : ∀ {n : Nat}, agrR g g' rs n → ∀ k, k < n → g k = (g' (rhoR rs k)).map (DObj.ren (sigR rs)) ∧ (g' (rhoR rs k)).elim true (DObj.keys (memR rs)) = true
  | 0, _, k, h => by omega
  | n + 1, ha, k, h => by
    by_cases e : k = n
    · subst e; exact ha.1
    · exact agrR_lt ha.2 k (by omega)
theorem DC.callR {f : FuncId} {args : List DV} {L : DH} {K : DV → DH → Prop} (rs : List Nat) (Hl : List (Nat × DObj)) (hn : nodR rs = true) (hlt : (rs.all fun k => Nat.blt k L.next) = true) (hlo : L.lo = 0) (hag : agrR (objsOf Hl) L.get rs rs.length)
    (hu : wkU rs.length [] Hl = true) (hargs : DV.keyss (memR rs) args = true) (hargsU : DV.unders rs.length (DV.rens (sigR rs) args) = true)
    (h : ∀ M, DC P M w0 f (DV.rens (sigR rs) args) ⟨rs.length, 0, rs.length, objsOf Hl⟩ fun d L' => L'.next = rs.length ∧ K (d.ren (rhoR rs)) (L.mergeR (rhoR rs) (sigR rs) (memR rs) L')) : DC P M w0 f args L K := by
  simp only [wkU, List.all_nil, Bool.true_and, List.all_eq_true, Bool.and_eq_true] at hu
  refine DC.ren (H := ⟨rs.length, 0, rs.length, objsOf Hl⟩) (rhoR rs) (sigR rs) (memR rs) (fun k hk => ⟨memR_get hk, sigR_get hn hk, ?_⟩) (fun k hk => sigR_in hk) (fun k hk => (agrR_lt hag k hk).1) (fun k o hk ho => ?_) (fun k hk => ?_) rfl hlo (Nat.le_refl _)
    (fun k o hk => (hu _ (objsOf_mem hk)).2) hargs hargsU h
  · rw [List.all_eq_true] at hlt
    have hk : k < rs.length := hk
    have := hlt (rhoR rs k) (by rw [rhoR, List.getD_eq_getElem?_getD, List.getElem?_eq_getElem hk]; exact List.getElem_mem hk)
    simpa using this
  · have := (agrR_lt hag k hk).2
    rw [ho] at this
    exact this
  · cases hg : objsOf Hl k with
    | none => exact hg
    | some o =>
      have := (hu _ (objsOf_mem hg)).1
      have h1 : k < rs.length := by simpa using this
      have h2 : rs.length ≤ k := hk
      omega
end
end Go.Dv
set_option maxRecDepth 100000
set_option maxHeartbeats 4000000
namespace Go.Proofs.YtlaolpkgabknfaaGreatDoor
open Go Go.Dv

def setM (es : List (Nat × Nat)) : List (PV × PV) := es.map fun e => (.int .i64 (e.1 : Int), u64 e.2)
theorem mfnd_setM (i : Nat) : ∀ (es : List (Nat × Nat)) (s : Nat), (mfnd (.int .i64 (i : Int)) (setM es) s).map Prod.snd = (look i es).map u64
  | [], s => rfl
  | e :: r, s => by
    simp only [setM, List.map_cons, mfnd, look]
    by_cases h : e.1 = i
    · rw [if_pos (int_eq.2 h), if_pos h]; rfl
    · rw [if_neg (fun e => h (int_eq.1 e)), if_neg h]
      exact mfnd_setM i r (s + 1)
theorem mfind_setM (i : Nat) (es : List (Nat × Nat)) : mfind (setM es) (.int .i64 (i : Int)) = (look i es).map u64 := mfnd_setM i es 0
theorem mput_setM (i k : Nat) : ∀ (es : List (Nat × Nat)), mput (setM es) (.int .i64 (i : Int)) (u64 k) = setM (dput i k es)
  | [] => rfl
  | e :: r => by
    simp only [setM, List.map_cons, mput_cons, dput]
    by_cases h : e.1 = i
    · rw [if_pos (int_eq.2 h), if_pos h]; rfl
    · rw [if_neg (fun e => h (int_eq.1 e)), if_neg h]
      rw [List.map_cons]
      congr 1
      exact mput_setM i k r
def actsPV (acts : List Act) : PV := .sl (acts.map Act.pv)
def evC (m : Mo) (acts : List Act) (c : List Nd) : List DV := [.pv (.int .i64 m.n), .pv (.sl (m.val.map u64)), .pv (.sl (m.rel.map rowPV)), .pv (u64 (2 ^ m.n.toNat - 1)), .pv (actsPV acts), .pv (fpv c), .mp 2, .ref 0 0]
def H0 (m : Mo) (acts : List Act) (c : List Nd) (es : List (Nat × Nat)) (err : Int) : List (Nat × DObj) := [(0, .var [.pv (.int .i64 err)]), (1, .var (evC m acts c)), (2, .mp (setM es))]
/-- What is reckoned already. -/
def InvE (acts : List Act) (c : List Nd) (m : Mo) (n : Nat) (es : List (Nat × Nat)) (err : Int) : Prop := ∀ k s, look k es = some s → s < 2 ^ n ∧ (err = 0 → dvT acts (tree c k) m = some s)
structure PostE (acts : List Act) (c : List Nd) (m : Mo) (n : Nat) (i : Nat) (err : Int) (s : Nat) (es' : List (Nat × Nat)) (err' : Int) : Prop where
  lt : s < 2 ^ n
  inv : InvE acts c m n es' err'
  er : err' = 0 ∨ err' = 8
  ok : err' = 0 → err = 0 ∧ dvT acts (tree c i) m = some s
  no : err' ≠ 0 → err ≠ 0 ∨ dvT acts (tree c i) m = none
/-- Nodes that may be asked for. -/
structure CxD (A F : Nat) (acts : List Act) (c : List Nd) : Prop where
  okl : Okl c
  len : c.length ≤ 1000
  op : ∀ x, x ∈ c → x.op ≤ 13 ∨ x.op = 16 ∨ x.op = 17
  fact : ∀ x, x ∈ c → x.op = 3 → x.i < F
  ag : ∀ x, x ∈ c → x.op = 9 ∨ x.op = 10 → x.i < A
  gr : ∀ x, x ∈ c → x.op = 11 ∨ x.op = 12 ∨ x.op = 13 → 1 ≤ x.g ∧ x.g < shl64 1 (A : Int)
  ev : ∀ x, x ∈ c → x.op = 17 → 0 ≤ x.i ∧ x.i < acts.length ∧ 0 ≤ x.e ∧ x.e < (acts.getD x.i.toNat noAct).pre.length
structure ModD (acts : List Act) (m : Mo) (n A F : Nat) : Prop where
  okd : OkD acts m n
  ra : m.rel.length = A
  rf : m.val.length = F
/-- What a call of at or of value does to the evaluation. -/
def ConE (fid : Nat) (arg : DV) (acts : List Act) (c : List Nd) (A F i : Nat) : Prop := ∀ (m : Mo) (n : Nat) (es : List (Nat × Nat)) (err : Int), ModD acts m n A F → InvE acts c m n es err → (err = 0 ∨ err = 8) →
  ∀ (M : Nat → Prop) (w0 : World) (base : Nat) (K : DV → DH → Prop), (∀ s es' err', PostE acts c m n i err s es' err' → K (.pv (u64 s)) ⟨3, 0, base, objsOf (H0 m acts c es' err')⟩) →
    DC Tryz.prog M w0 fid [.ref 1 0, arg] ⟨3, 0, base, objsOf (H0 m acts c es err)⟩ K
theorem con_L {fid : Nat} {arg : DV} {acts : List Act} {c : List Nd} {A F i : Nat} (h : ConE fid arg acts c A F i) (hu : DV.under 3 arg = true) {m : Mo} {n : Nat} {es : List (Nat × Nat)} {err : Int} (hM : ModD acts m n A F) (hI : InvE acts c m n es err) (hE : err = 0 ∨ err = 8)
    {M : Nat → Prop} {w0 : World} {L : DH} {K : DV → DH → Prop} (h0 : L.lo = 0) (hn : Nat.ble 3 L.next = true) (g0 : L.get 0 = some (.var [.pv (.int .i64 err)])) (g1 : L.get 1 = some (.var (evC m acts c))) (g2 : L.get 2 = some (.mp (setM es)))
    (hK : ∀ s es' err', PostE acts c m n i err s es' err' → K (.pv (u64 s)) (L.merge ⟨3, 0, 3, objsOf (H0 m acts c es' err')⟩ 3)) : DC Tryz.prog M w0 fid [.ref 1 0, arg] L K := by
  refine DC.call 3 (H0 m acts c es err) ⟨g2.symm, g1.symm, g0.symm, trivial⟩ rfl hn (by rw [h0]; rfl) ?_ fun M' => ?_
  · show (Nat.blt 1 3 && (arg.under 3 && true)) = true
    rw [hu]; rfl
  · rw [h0]
    exact h m n es err hM hI hE M' w0 3 _ fun s es' err' hp => ⟨rfl, hK s es' err' hp⟩
theorem lt64 {acts : List Act} {c : List Nd} {m : Mo} {n i : Nat} {err err' : Int} {s : Nat} {es' : List (Nat × Nat)} (hM : OkM m n) (p : PostE acts c m n i err s es' err') : s < 2 ^ 64 := Nat.lt_of_lt_of_le p.lt (pow64_le hM.n64)
theorem at_dc {acts : List Act} {c : List Nd} {A F i : Nat} (hC : CxD A F acts c) (hi : i < c.length) (hv : ∀ x, c[i]? = some x → ConE 59 (.agg x.dvs) acts c A F i) : ConE 36 (.pv (.int .i64 (i : Nat))) acts c A F i := by
  intro m n es err hM hI hE M w0 base K hK
  have hlen := hC.len
  obtain ⟨x, hx⟩ : ∃ x, c[i]? = some x := ⟨_, List.getElem?_eq_getElem hi⟩
  have hv' := hv
  have hmf := mfind_setM i es
  refine DC.weaken (DC.intro mixed (fn := Tryz.f36) rfl rfl rfl ?_)
  cases hl : look i es with
  | some s =>
    rw [hl] at hmf
    have hoff : (!true) = false := rfl
    (try conv=>whnf);repeat' (first|(apply And.intro<;>try conv=>whnf)|(intro h;first|with_reducible exact nt0 h|try conv=>whnf)|(apply infoT;rfl)|(apply fitI;rfl)|(apply whenOff;(focus with_reducible assumption);try conv=>whnf)|(refine ⟨_, _, rfl, idx_map (by with_reducible assumption), rfl, ?_⟩;try conv=>whnf)|(apply ex2;(focus with_reducible assumption);try conv=>whnf)|fail)
    · obtain ⟨e, _, rfl⟩ := List.mem_map.1 h; rfl
    · exact absurd (show (bif !true then false else false) = true from h) (by decide)
    · obtain ⟨q1, q2⟩ := hI i s hl
      exact ⟨.pv (u64 s), 3, H0 m acts c es err, (by refine Wk.of ?_ ?_ rfl rfl rfl<;>repeat' (first|exact trivial|exact WkD.same _|exact WkO.same _ _ rfl|refine ⟨?_, ?_⟩|fail)), hK s es err ⟨q1, hI, hE, fun h => ⟨h, q2 h⟩, fun h => .inl h⟩⟩
  | none =>
    rw [hl] at hmf
    rcases hE with rfl | rfl
    · (try conv=>whnf);repeat' (first|(apply And.intro<;>try conv=>whnf)|(intro h;try conv=>whnf)|apply True.intro|(apply infoT;rfl)|(apply fitI;rfl)|(apply WhenQ.mk;(try conv=>whnf);rotate_left;(try conv=>whnf);rotate_right)|with_reducible assumption|(refine ⟨_, _, rfl, idx_map (by with_reducible assumption), rfl, ?_⟩;try conv=>whnf)|(apply ex2;(focus with_reducible assumption);try conv=>whnf)|fail)
      · obtain ⟨e, _, rfl⟩ := List.mem_map.1 h; rfl
      · refine con_L (hv' x hx) rfl hM hI (.inl rfl) rfl rfl rfl rfl rfl fun s1 es1 er1 p1 => ?_
        (try conv=>whnf);repeat' (first|(apply And.intro<;>try conv=>whnf)|(intro h;try conv=>whnf)|(apply fitI;rfl)|fail)
        · obtain ⟨e, _, rfl⟩ := List.mem_map.1 h; rfl
        · refine ⟨.pv (u64 s1), 3, H0 m acts c (dput i s1 es1) er1, ?_, hK s1 (dput i s1 es1) er1 ⟨p1.lt, fun k s hk => ?_, p1.er, p1.ok, p1.no⟩⟩
          · (refine Wk.of ?_ ?_ rfl rfl rfl<;>repeat' (first|exact trivial|exact WkD.same _|exact WkO.same _ _ rfl|refine ⟨?_, ?_⟩|fail))
            exact WkO.same _ _ (congrArg (fun z => some (DObj.mp z)) (mput_setM i s1 es1))
          · rw [look_dput] at hk
            by_cases e : k = i
            · rw [if_pos e] at hk
              have hk := Option.some.inj hk
              subst hk
              rw [e]
              exact ⟨p1.lt, fun h => (p1.ok h).2⟩
            · rw [if_neg e] at hk
              exact p1.inv k s hk
      · exact absurd (show (bif !false then (0 : Int) == 0 else false) = false from h) (by decide)
    · (try conv=>whnf);repeat' (first|(apply And.intro<;>try conv=>whnf)|(intro h;try conv=>whnf)|apply True.intro|(apply infoT;rfl)|(apply fitI;rfl)|(apply WhenQ.mk;(try conv=>whnf);rotate_left;(try conv=>whnf);rotate_right)|with_reducible assumption|(refine ⟨_, _, rfl, idx_map (by with_reducible assumption), rfl, ?_⟩;try conv=>whnf)|(apply ex2;(focus with_reducible assumption);try conv=>whnf)|fail)
      · obtain ⟨e, _, rfl⟩ := List.mem_map.1 h; rfl
      · exact absurd (show (bif !false then (8 : Int) == 0 else false) = true from h) (by decide)
      · exact ⟨.pv (u64 0), 3, H0 m acts c es 8, (by refine Wk.of ?_ ?_ rfl rfl rfl<;>repeat' (first|exact trivial|exact WkD.same _|exact WkO.same _ _ rfl|refine ⟨?_, ?_⟩|fail)), hK 0 es 8 ⟨Nat.two_pow_pos n, hI, .inr rfl, fun h => absurd h (by decide), fun _ => .inl (by decide)⟩⟩
end Go.Proofs.YtlaolpkgabknfaaGreatDoor
set_option maxRecDepth 100000
set_option maxHeartbeats 8000000
namespace Go.Proofs.YtlaolpkgabknfaaGreatDoor
open Go Go.Dv

section
variable {acts : List Act} {c : List Nd} {m : Mo} {n i : Nat} {err : Int} {es : List (Nat × Nat)} {op fi ei gi xx yy : Int}
theorem post0 (hc : Okl c) (hM : OkM m n) (hx : c[i]? = some ⟨op, fi, ei, gi, xx, yy⟩) (h16 : (op == 16) = false) (h17 : (op == 17) = false) (hu : usesX op = false) (hv : usesY op = false) (hI : InvE acts c m n es err) (hE : err = 0 ∨ err = 8) {s : Nat} (hs : s < 2 ^ n) (he : vlN m n op fi gi 0 0 = s) :
    PostE acts c m n i err s es err := by
  have hnn : m.n.toNat = n := by rw [hM.nn, Int.toNat_natCast]
  refine ⟨hs, hI, hE, fun h => ⟨h, ?_⟩, fun h => .inl h⟩
  rw [tree_nd hc hx]
  show dvT acts (.nd op fi ei gi (bif usesX op then _ else _) (bif usesY op then _ else _)) m = _
  rw [hu, hv, dvT, h16, h17, hnn, ← he]; rfl
theorem post1 (hc : Okl c) (hM : OkM m n) (hx : c[i]? = some ⟨op, fi, ei, gi, xx, yy⟩) (h16 : (op == 16) = false) (h17 : (op == 17) = false) (hu : usesX op = true) (hv : usesY op = false) {s1 : Nat} {es1 : List (Nat × Nat)} {err1 : Int} (p : PostE acts c m n xx.toNat err s1 es1 err1) {s : Nat} (hs : s < 2 ^ n) (he : vlN m n op fi gi s1 0 = s) :
    PostE acts c m n i err s es1 err1 := by
  have hnn : m.n.toNat = n := by rw [hM.nn, Int.toNat_natCast]
  have ht : tree c i = .nd op fi ei gi (tree c xx.toNat) .none := by rw [tree_nd hc hx]; show Tr.nd op fi ei gi (bif usesX op then _ else _) (bif usesY op then _ else _) = _; rw [hu, hv]; rfl
  refine ⟨hs, p.inv, p.er, fun h => ?_, fun h => ?_⟩
  · obtain ⟨h1, h2⟩ := p.ok h
    refine ⟨h1, ?_⟩
    rw [ht, dvT, h16, h17, h2, hnn, ← he]; rfl
  · rcases p.no h with h1 | h1
    · exact .inl h1
    · right
      rw [ht, dvT, h16, h17, h1]; rfl
theorem post2 (hc : Okl c) (hM : OkM m n) (hx : c[i]? = some ⟨op, fi, ei, gi, xx, yy⟩) (h16 : (op == 16) = false) (h17 : (op == 17) = false) (hu : usesX op = true) (hv : usesY op = true) {s1 s2 : Nat} {es1 es2 : List (Nat × Nat)} {err1 err2 : Int} (p : PostE acts c m n xx.toNat err s1 es1 err1) (q : PostE acts c m n yy.toNat err1 s2 es2 err2)
    {s : Nat} (hs : s < 2 ^ n) (he : vlN m n op fi gi s1 s2 = s) : PostE acts c m n i err s es2 err2 := by
  have hnn : m.n.toNat = n := by rw [hM.nn, Int.toNat_natCast]
  have ht : tree c i = .nd op fi ei gi (tree c xx.toNat) (tree c yy.toNat) := by rw [tree_nd hc hx]; show Tr.nd op fi ei gi (bif usesX op then _ else _) (bif usesY op then _ else _) = _; rw [hu, hv]; rfl
  refine ⟨hs, q.inv, q.er, fun h => ?_, fun h => ?_⟩
  · obtain ⟨h1, h2⟩ := q.ok h
    obtain ⟨h3, h4⟩ := p.ok h1
    refine ⟨h3, ?_⟩
    rw [ht, dvT, h16, h17, h4, h2, hnn, ← he]; rfl
  · rcases q.no h with h1 | h1
    · rcases p.no h1 with h2 | h2
      · exact .inl h2
      · right
        rw [ht, dvT, h16, h17, h2]; rfl
    · right
      rw [ht, dvT, h16, h17, h1]
      cases dvT acts (tree c xx.toNat) m <;> rfl
end
theorem val_1 {acts : List Act} {c : List Nd} {A F i : Nat} {fi ei gi xx yy : Int} (hC : CxD A F acts c) (hx : c[i]? = some ⟨1, fi, ei, gi, xx, yy⟩) (_hat : ∀ j, j < i → ConE 36 (.pv (.int .i64 (j : Nat))) acts c A F j) :
    ConE 59 (.agg (Nd.dvs ⟨1, fi, ei, gi, xx, yy⟩)) acts c A F i := by
  intro m n es err hM hI hE M w0 base K hK
  have hO := hM.okd.okm
  have hnn : m.n.toNat = n := by rw [hO.nn, Int.toNat_natCast]
  have hn64 := hO.n64
  have h64 := pow64_le hn64
  have hall : 2 ^ n - 1 < 2 ^ n := by have := Nat.two_pow_pos n; omega
  have hnd := hC.okl i _ hx
  have hmem : (⟨1, fi, ei, gi, xx, yy⟩ : Nd) ∈ c := List.mem_iff_getElem?.2 ⟨i, hx⟩
  have f1 : ((1 : Int) == 1) = true := rfl
  have f2 : ((1 : Int) == 2) = false := rfl
  have f3 : ((1 : Int) == 3) = false := rfl
  have f4 : ((1 : Int) == 4) = false := rfl
  have f5 : ((1 : Int) == 5) = false := rfl
  have f6 : ((1 : Int) == 6) = false := rfl
  have f7 : ((1 : Int) == 7) = false := rfl
  have f8 : ((1 : Int) == 8) = false := rfl
  have f9 : ((1 : Int) == 9) = false := rfl
  have f10 : ((1 : Int) == 10) = false := rfl
  have f11 : ((1 : Int) == 11) = false := rfl
  have f12 : ((1 : Int) == 12) = false := rfl
  have f13 : ((1 : Int) == 13) = false := rfl
  have f16 : ((1 : Int) == 16) = false := rfl
  refine DC.weaken (DC.intro mixed (fn := Tryz.f59) rfl rfl rfl ?_)
  (try conv=>whnf);repeat' (first|(apply And.intro<;>try conv=>whnf)|(intro h;first|with_reducible exact tf (by assumption) h|try conv=>whnf)|fail)
  all_goals
    refine ⟨.pv (u64 (2 ^ n - 1)), 3, H0 m acts c es err, ?_, hK _ _ _ ?_⟩
    · (refine Wk.of ?_ ?_ rfl rfl rfl<;>repeat' (first|exact trivial|exact WkO.same _ _ rfl|refine WkD.int ?_|refine ⟨?_, ?_⟩|fail))
      rw [hnn]
    · exact post0 hC.okl hO hx rfl rfl rfl rfl hI hE hall rfl
theorem val_2 {acts : List Act} {c : List Nd} {A F i : Nat} {fi ei gi xx yy : Int} (hC : CxD A F acts c) (hx : c[i]? = some ⟨2, fi, ei, gi, xx, yy⟩) (_hat : ∀ j, j < i → ConE 36 (.pv (.int .i64 (j : Nat))) acts c A F j) :
    ConE 59 (.agg (Nd.dvs ⟨2, fi, ei, gi, xx, yy⟩)) acts c A F i := by
  intro m n es err hM hI hE M w0 base K hK
  have hO := hM.okd.okm
  have hnn : m.n.toNat = n := by rw [hO.nn, Int.toNat_natCast]
  have hn64 := hO.n64
  have h64 := pow64_le hn64
  have hall : 2 ^ n - 1 < 2 ^ n := by have := Nat.two_pow_pos n; omega
  have hnd := hC.okl i _ hx
  have hmem : (⟨2, fi, ei, gi, xx, yy⟩ : Nd) ∈ c := List.mem_iff_getElem?.2 ⟨i, hx⟩
  have f1 : ((2 : Int) == 1) = false := rfl
  have f2 : ((2 : Int) == 2) = true := rfl
  have f3 : ((2 : Int) == 3) = false := rfl
  have f4 : ((2 : Int) == 4) = false := rfl
  have f5 : ((2 : Int) == 5) = false := rfl
  have f6 : ((2 : Int) == 6) = false := rfl
  have f7 : ((2 : Int) == 7) = false := rfl
  have f8 : ((2 : Int) == 8) = false := rfl
  have f9 : ((2 : Int) == 9) = false := rfl
  have f10 : ((2 : Int) == 10) = false := rfl
  have f11 : ((2 : Int) == 11) = false := rfl
  have f12 : ((2 : Int) == 12) = false := rfl
  have f13 : ((2 : Int) == 13) = false := rfl
  have f16 : ((2 : Int) == 16) = false := rfl
  refine DC.weaken (DC.intro mixed (fn := Tryz.f59) rfl rfl rfl ?_)
  (try conv=>whnf);repeat' (first|(apply And.intro<;>try conv=>whnf)|(intro h;first|with_reducible exact tf h (by assumption)|with_reducible exact tf (by assumption) h|try conv=>whnf)|fail)
  all_goals
    refine ⟨.pv (u64 (0)), 3, H0 m acts c es err, ?_, hK _ _ _ ?_⟩
    · (refine Wk.of ?_ ?_ rfl rfl rfl<;>repeat' (first|exact trivial|exact WkD.same _|exact WkO.same _ _ rfl|refine ⟨?_, ?_⟩|fail))
    · exact post0 hC.okl hO hx rfl rfl rfl rfl hI hE (Nat.two_pow_pos n) rfl
theorem val_3 {acts : List Act} {c : List Nd} {A F i : Nat} {fi ei gi xx yy : Int} (hC : CxD A F acts c) (hx : c[i]? = some ⟨3, fi, ei, gi, xx, yy⟩) (_hat : ∀ j, j < i → ConE 36 (.pv (.int .i64 (j : Nat))) acts c A F j) :
    ConE 59 (.agg (Nd.dvs ⟨3, fi, ei, gi, xx, yy⟩)) acts c A F i := by
  intro m n es err hM hI hE M w0 base K hK
  have hO := hM.okd.okm
  have hnn : m.n.toNat = n := by rw [hO.nn, Int.toNat_natCast]
  have hn64 := hO.n64
  have h64 := pow64_le hn64
  have hall : 2 ^ n - 1 < 2 ^ n := by have := Nat.two_pow_pos n; omega
  have hnd := hC.okl i _ hx
  have hmem : (⟨3, fi, ei, gi, xx, yy⟩ : Nd) ∈ c := List.mem_iff_getElem?.2 ⟨i, hx⟩
  have hfi := (hnd.fact rfl).1
  simp only at hfi
  have hfF := hC.fact _ hmem rfl
  simp only at hfF
  obtain ⟨q, eq⟩ : ∃ q : Nat, fi = q := ⟨fi.toNat, by omega⟩
  subst eq
  have hq : q < m.val.length := by rw [hM.rf]; omega
  have hv := getD_mem hq (d := 0)
  have hvl := hO.vbits _ (List.mem_iff_getElem?.2 ⟨q, hv⟩)
  have f1 : ((3 : Int) == 1) = false := rfl
  have f2 : ((3 : Int) == 2) = false := rfl
  have f3 : ((3 : Int) == 3) = true := rfl
  have f4 : ((3 : Int) == 4) = false := rfl
  have f5 : ((3 : Int) == 5) = false := rfl
  have f6 : ((3 : Int) == 6) = false := rfl
  have f7 : ((3 : Int) == 7) = false := rfl
  have f8 : ((3 : Int) == 8) = false := rfl
  have f9 : ((3 : Int) == 9) = false := rfl
  have f10 : ((3 : Int) == 10) = false := rfl
  have f11 : ((3 : Int) == 11) = false := rfl
  have f12 : ((3 : Int) == 12) = false := rfl
  have f13 : ((3 : Int) == 13) = false := rfl
  have f16 : ((3 : Int) == 16) = false := rfl
  refine DC.weaken (DC.intro mixed (fn := Tryz.f59) rfl rfl rfl ?_)
  (try conv=>whnf);repeat' (first|(apply And.intro<;>try conv=>whnf)|(intro h;first|with_reducible exact tf h (by assumption)|with_reducible exact tf (by assumption) h|try conv=>whnf)|(apply infoT;rfl)|(refine lin_plan (by kernel_rfl) ?_;try conv=>whnf)|(refine ⟨_, _, rfl, idx_map (by with_reducible assumption), rfl, ?_⟩;try conv=>whnf)|fail)
  all_goals
    refine ⟨.pv (u64 (m.val.getD q 0)), 3, H0 m acts c es err, ?_, hK _ _ _ ?_⟩
    · (refine Wk.of ?_ ?_ rfl rfl rfl<;>repeat' (first|exact trivial|exact WkD.same _|exact WkO.same _ _ rfl|refine ⟨?_, ?_⟩|fail))
    · exact post0 hC.okl hO hx rfl rfl rfl rfl hI hE hvl rfl
theorem val_4 {acts : List Act} {c : List Nd} {A F i : Nat} {fi ei gi xx yy : Int} (hC : CxD A F acts c) (hx : c[i]? = some ⟨4, fi, ei, gi, xx, yy⟩) (hat : ∀ j, j < i → ConE 36 (.pv (.int .i64 (j : Nat))) acts c A F j) :
    ConE 59 (.agg (Nd.dvs ⟨4, fi, ei, gi, xx, yy⟩)) acts c A F i := by
  intro m n es err hM hI hE M w0 base K hK
  have hO := hM.okd.okm
  have hnn : m.n.toNat = n := by rw [hO.nn, Int.toNat_natCast]
  have hn64 := hO.n64
  have h64 := pow64_le hn64
  have hall : 2 ^ n - 1 < 2 ^ n := by have := Nat.two_pow_pos n; omega
  have hnd := hC.okl i _ hx
  have hmem : (⟨4, fi, ei, gi, xx, yy⟩ : Nd) ∈ c := List.mem_iff_getElem?.2 ⟨i, hx⟩
  have hkx := hnd.x rfl
  simp only at hkx
  obtain ⟨X, ex⟩ : ∃ q : Nat, xx = q := ⟨xx.toNat, by omega⟩
  subst ex
  have hlx : X < i := by omega
  have hX := fun {M w0 L K} => @con_L _ _ _ _ _ _ _ (hat X hlx) rfl m n es err hM hI hE M w0 L K
  have f1 : ((4 : Int) == 1) = false := rfl
  have f2 : ((4 : Int) == 2) = false := rfl
  have f3 : ((4 : Int) == 3) = false := rfl
  have f4 : ((4 : Int) == 4) = true := rfl
  have f5 : ((4 : Int) == 5) = false := rfl
  have f6 : ((4 : Int) == 6) = false := rfl
  have f7 : ((4 : Int) == 7) = false := rfl
  have f8 : ((4 : Int) == 8) = false := rfl
  have f9 : ((4 : Int) == 9) = false := rfl
  have f10 : ((4 : Int) == 10) = false := rfl
  have f11 : ((4 : Int) == 11) = false := rfl
  have f12 : ((4 : Int) == 12) = false := rfl
  have f13 : ((4 : Int) == 13) = false := rfl
  have f16 : ((4 : Int) == 16) = false := rfl
  refine DC.weaken (DC.intro mixed (fn := Tryz.f59) rfl rfl rfl ?_)
  (try conv=>whnf);repeat' (first|(apply And.intro<;>try conv=>whnf)|(intro h;first|with_reducible exact tf h (by assumption)|with_reducible exact tf (by assumption) h|try conv=>whnf)|fail)
  refine ⟨.one 0 (.one 4 (.one 5 (.one 6 (.two 1 (.two 2 (.two 3 (.one 7 (.one 8 (.one 9 .done))) 7 (.one 3 (.one 8 (.one 9 .done)))) 7 (.one 2 (.one 3 (.one 8 (.one 9 .done))))) 7 (.one 1 (.one 2 (.one 3 (.one 8 (.one 9 .done))))))))), [7], by kernel_rfl, ?_⟩
  (try conv=>whnf);repeat' (first|(apply And.intro<;>try conv=>whnf)|(refine hX rfl rfl rfl rfl rfl ?_;intro s1 es1 er1 p1;have q1 := lt64 hO p1;try conv=>whnf)|fail)
  all_goals
    refine ⟨.pv (u64 (notN n s1)), 3, H0 m acts c es1 er1, ?_, hK _ _ _ ?_⟩
    · (refine Wk.of ?_ ?_ rfl rfl rfl<;>repeat' (first|exact trivial|exact WkO.same _ _ rfl|refine WkD.int ?_|refine ⟨?_, ?_⟩|fail))
      exact (by rw [hnn]; exact andNotU_all hn64)
    · exact post1 hC.okl hO hx rfl rfl rfl rfl p1 (notN_lt _ _) rfl
theorem bool_L {acts : List Act} {c : List Nd} {A F : Nat} {op : Int} (hop : op = 5 ∨ op = 6 ∨ op = 7 ∨ op = 8) {m : Mo} {n : Nat} {es : List (Nat × Nat)} {err : Int} (hM : ModD acts m n A F) {x y : Nat} (hx : x < 2 ^ 64) (hy : y < 2 ^ 64)
    {M : Nat → Prop} {w0 : World} {L : DH} {K : DV → DH → Prop} (h0 : L.lo = 0) (hn : Nat.ble 3 L.next = true) (g0 : L.get 0 = some (.var [.pv (.int .i64 err)])) (g1 : L.get 1 = some (.var (evC m acts c))) (g2 : L.get 2 = some (.mp (setM es)))
    (hK : K (.pv (u64 (vlN m n op 0 0 x y))) (L.merge ⟨3, 0, 3, objsOf (H0 m acts c es err)⟩ 3)) : DC Tryz.prog M w0 96 [.ref 1 0, .pv (.int .i64 op), .pv (u64 x), .pv (u64 y)] L K := by
  have hO := hM.okd.okm
  have hnn : m.n.toNat = n := by rw [hO.nn, Int.toNat_natCast]
  have hn64 := hO.n64
  have h64 := pow64_le hn64
  refine DC.call 3 (H0 m acts c es err) ⟨g2.symm, g1.symm, g0.symm, trivial⟩ rfl hn (by rw [h0]; rfl) rfl fun M' => ?_
  rw [h0]
  refine DC.weaken (DC.intro mixed (fn := Tryz.f96) rfl rfl rfl ?_)
  rcases hop with rfl | rfl | rfl | rfl
  · have f5 : ((5 : Int) == 5) = true := rfl
    have f6 : ((5 : Int) == 6) = false := rfl
    have f7 : ((5 : Int) == 7) = false := rfl
    (try conv=>whnf);repeat' (first|(apply And.intro<;>try conv=>whnf)|(intro h;first|with_reducible exact tf (by assumption) h|try conv=>whnf)|fail)
    refine ⟨.pv (u64 (x &&& y)), 3, H0 m acts c es err, ?_, ⟨rfl, hK⟩⟩
    (refine Wk.of ?_ ?_ rfl rfl rfl<;>repeat' (first|exact trivial|exact WkO.same _ _ rfl|refine WkD.int ?_|refine ⟨?_, ?_⟩|fail))
    exact andU_nat hx hy
  · have f5 : ((6 : Int) == 5) = false := rfl
    have f6 : ((6 : Int) == 6) = true := rfl
    have f7 : ((6 : Int) == 7) = false := rfl
    (try conv=>whnf);repeat' (first|(apply And.intro<;>try conv=>whnf)|(intro h;first|with_reducible exact tf h (by assumption)|with_reducible exact tf (by assumption) h|try conv=>whnf)|fail)
    refine ⟨.pv (u64 (x ||| y)), 3, H0 m acts c es err, ?_, ⟨rfl, hK⟩⟩
    (refine Wk.of ?_ ?_ rfl rfl rfl<;>repeat' (first|exact trivial|exact WkO.same _ _ rfl|refine WkD.int ?_|refine ⟨?_, ?_⟩|fail))
    exact orU_nat hx hy
  · have f5 : ((7 : Int) == 5) = false := rfl
    have f6 : ((7 : Int) == 6) = false := rfl
    have f7 : ((7 : Int) == 7) = true := rfl
    (try conv=>whnf);repeat' (first|(apply And.intro<;>try conv=>whnf)|(intro h;first|with_reducible exact tf h (by assumption)|with_reducible exact tf (by assumption) h|try conv=>whnf)|fail)
    refine ⟨.pv (u64 (notN n x ||| y)), 3, H0 m acts c es err, ?_, ⟨rfl, hK⟩⟩
    (refine Wk.of ?_ ?_ rfl rfl rfl<;>repeat' (first|exact trivial|exact WkO.same _ _ rfl|refine WkD.int ?_|refine ⟨?_, ?_⟩|fail))
    exact (by show orU (andNotU ((2 ^ m.n.toNat - 1 : Nat) : Int) (x : Nat)) (y : Nat) = _; rw [hnn, andNotU_all hn64]; exact orU_nat (Nat.lt_of_lt_of_le (notN_lt n x) h64) hy)
  · have f5 : ((8 : Int) == 5) = false := rfl
    have f6 : ((8 : Int) == 6) = false := rfl
    have f7 : ((8 : Int) == 7) = false := rfl
    (try conv=>whnf);repeat' (first|(apply And.intro<;>try conv=>whnf)|(intro h;first|with_reducible exact tf h (by assumption)|try conv=>whnf)|fail)
    refine ⟨.pv (u64 (notN n (x ^^^ y))), 3, H0 m acts c es err, ?_, ⟨rfl, hK⟩⟩
    (refine Wk.of ?_ ?_ rfl rfl rfl<;>repeat' (first|exact trivial|exact WkO.same _ _ rfl|refine WkD.int ?_|refine ⟨?_, ?_⟩|fail))
    exact (by show andNotU ((2 ^ m.n.toNat - 1 : Nat) : Int) (xorU (x : Nat) (y : Nat)) = _; rw [xorU_nat hx hy, hnn]; exact andNotU_all hn64)
theorem val_5 {acts : List Act} {c : List Nd} {A F i : Nat} {fi ei gi xx yy : Int} (hC : CxD A F acts c) (hx : c[i]? = some ⟨5, fi, ei, gi, xx, yy⟩) (hat : ∀ j, j < i → ConE 36 (.pv (.int .i64 (j : Nat))) acts c A F j) :
    ConE 59 (.agg (Nd.dvs ⟨5, fi, ei, gi, xx, yy⟩)) acts c A F i := by
  intro m n es err hM hI hE M w0 base K hK
  have hO := hM.okd.okm
  have hnn : m.n.toNat = n := by rw [hO.nn, Int.toNat_natCast]
  have hn64 := hO.n64
  have h64 := pow64_le hn64
  have hall : 2 ^ n - 1 < 2 ^ n := by have := Nat.two_pow_pos n; omega
  have hnd := hC.okl i _ hx
  have hmem : (⟨5, fi, ei, gi, xx, yy⟩ : Nd) ∈ c := List.mem_iff_getElem?.2 ⟨i, hx⟩
  have hkx := hnd.x rfl
  simp only at hkx
  obtain ⟨X, ex⟩ : ∃ q : Nat, xx = q := ⟨xx.toNat, by omega⟩
  subst ex
  have hlx : X < i := by omega
  have hky := hnd.y rfl
  simp only at hky
  obtain ⟨Y, ey⟩ : ∃ q : Nat, yy = q := ⟨yy.toNat, by omega⟩
  subst ey
  have hly : Y < i := by omega
  have hX := fun {M w0 L K} => @con_L _ _ _ _ _ _ _ (hat X hlx) rfl m n es err hM hI hE M w0 L K
  have hY := fun {s1 es1 er1} (p1 : PostE acts c m n X err s1 es1 er1) {M w0 L K} => @con_L _ _ _ _ _ _ _ (hat Y hly) rfl m n es1 er1 hM p1.inv p1.er M w0 L K
  have hop : (5 : Int) = 5 ∨ (5 : Int) = 6 ∨ (5 : Int) = 7 ∨ (5 : Int) = 8 := by decide
  have f1 : ((5 : Int) == 1) = false := rfl
  have f2 : ((5 : Int) == 2) = false := rfl
  have f3 : ((5 : Int) == 3) = false := rfl
  have f4 : ((5 : Int) == 4) = false := rfl
  have f5 : ((5 : Int) == 5) = true := rfl
  have f6 : ((5 : Int) == 6) = false := rfl
  have f7 : ((5 : Int) == 7) = false := rfl
  have f8 : ((5 : Int) == 8) = false := rfl
  have f9 : ((5 : Int) == 9) = false := rfl
  have f10 : ((5 : Int) == 10) = false := rfl
  have f11 : ((5 : Int) == 11) = false := rfl
  have f12 : ((5 : Int) == 12) = false := rfl
  have f13 : ((5 : Int) == 13) = false := rfl
  have f16 : ((5 : Int) == 16) = false := rfl
  refine DC.weaken (DC.intro mixed (fn := Tryz.f59) rfl rfl rfl ?_)
  (try conv=>whnf);repeat' (first|(apply And.intro<;>try conv=>whnf)|(intro h;first|with_reducible exact tf h (by assumption)|with_reducible exact tf (by assumption) h|try conv=>whnf)|fail)
  refine ⟨.one 0 (.one 3 (.one 4 (.one 5 (.one 7 (.three 1 (.three 2 (.two 6 (.one 8 (.one 9 (.one 10 (.one 11 (.one 12 .done))))) 8 (.two 6 (.one 9 (.one 10 (.one 11 (.one 12 .done)))) 9 (.one 6 (.one 10 (.one 11 (.one 12 .done)))))) 6 (.one 8 (.one 9 (.two 2 (.one 10 (.one 11 (.one 12 .done))) 10 (.one 2 (.one 11 (.one 12 .done)))))) 8 (.three 2 (.two 6 (.one 9 (.one 10 (.one 11 (.one 12 .done)))) 9 (.one 6 (.one 10 (.one 11 (.one 12 .done))))) 6 (.one 9 (.two 2 (.one 10 (.one 11 (.one 12 .done))) 10 (.one 2 (.one 11 (.one 12 .done))))) 9 (.two 2 (.one 6 (.one 10 (.one 11 (.one 12 .done)))) 6 (.two 2 (.one 10 (.one 11 (.one 12 .done))) 10 (.one 2 (.one 11 (.one 12 .done))))))) 6 (.one 8 (.one 9 (.two 1 (.two 2 (.one 10 (.one 11 (.one 12 .done))) 10 (.one 2 (.one 11 (.one 12 .done)))) 10 (.one 1 (.one 2 (.one 11 (.one 12 .done))))))) 8 (.three 1 (.three 2 (.two 6 (.one 9 (.one 10 (.one 11 (.one 12 .done)))) 9 (.one 6 (.one 10 (.one 11 (.one 12 .done))))) 6 (.one 9 (.two 2 (.one 10 (.one 11 (.one 12 .done))) 10 (.one 2 (.one 11 (.one 12 .done))))) 9 (.two 2 (.one 6 (.one 10 (.one 11 (.one 12 .done)))) 6 (.two 2 (.one 10 (.one 11 (.one 12 .done))) 10 (.one 2 (.one 11 (.one 12 .done)))))) 6 (.one 9 (.two 1 (.two 2 (.one 10 (.one 11 (.one 12 .done))) 10 (.one 2 (.one 11 (.one 12 .done)))) 10 (.one 1 (.one 2 (.one 11 (.one 12 .done)))))) 9 (.two 1 (.two 2 (.one 6 (.one 10 (.one 11 (.one 12 .done)))) 6 (.two 2 (.one 10 (.one 11 (.one 12 .done))) 10 (.one 2 (.one 11 (.one 12 .done))))) 6 (.two 1 (.two 2 (.one 10 (.one 11 (.one 12 .done))) 10 (.one 2 (.one 11 (.one 12 .done)))) 10 (.one 1 (.one 2 (.one 11 (.one 12 .done)))))))))))), [6, 10, 11], by kernel_rfl, ?_⟩
  (try conv=>whnf);repeat' (first|(apply And.intro<;>try conv=>whnf)|(refine hX rfl rfl rfl rfl rfl ?_;intro s1 es1 er1 p1;have q1 := lt64 hO p1;try conv=>whnf)|(refine hY p1 rfl rfl rfl rfl rfl ?_;intro s2 es2 er2 p2;have q2 := lt64 hO p2;try conv=>whnf)|(refine bool_L (es := es2) (err := er2) hop hM q1 q2 rfl rfl rfl rfl rfl ?_;try conv=>whnf)|fail)
  all_goals
    refine ⟨.pv (u64 (s1 &&& s2)), 3, H0 m acts c es2 er2, ?_, hK _ _ _ ?_⟩
    · (refine Wk.of ?_ ?_ rfl rfl rfl<;>repeat' (first|exact trivial|exact WkD.same _|exact WkO.same _ _ rfl|refine ⟨?_, ?_⟩|fail))
    · exact post2 hC.okl hO hx rfl rfl rfl rfl p1 p2 (Nat.and_lt_two_pow s1 p2.lt) rfl
theorem val_6 {acts : List Act} {c : List Nd} {A F i : Nat} {fi ei gi xx yy : Int} (hC : CxD A F acts c) (hx : c[i]? = some ⟨6, fi, ei, gi, xx, yy⟩) (hat : ∀ j, j < i → ConE 36 (.pv (.int .i64 (j : Nat))) acts c A F j) :
    ConE 59 (.agg (Nd.dvs ⟨6, fi, ei, gi, xx, yy⟩)) acts c A F i := by
  intro m n es err hM hI hE M w0 base K hK
  have hO := hM.okd.okm
  have hnn : m.n.toNat = n := by rw [hO.nn, Int.toNat_natCast]
  have hn64 := hO.n64
  have h64 := pow64_le hn64
  have hall : 2 ^ n - 1 < 2 ^ n := by have := Nat.two_pow_pos n; omega
  have hnd := hC.okl i _ hx
  have hmem : (⟨6, fi, ei, gi, xx, yy⟩ : Nd) ∈ c := List.mem_iff_getElem?.2 ⟨i, hx⟩
  have hkx := hnd.x rfl
  simp only at hkx
  obtain ⟨X, ex⟩ : ∃ q : Nat, xx = q := ⟨xx.toNat, by omega⟩
  subst ex
  have hlx : X < i := by omega
  have hky := hnd.y rfl
  simp only at hky
  obtain ⟨Y, ey⟩ : ∃ q : Nat, yy = q := ⟨yy.toNat, by omega⟩
  subst ey
  have hly : Y < i := by omega
  have hX := fun {M w0 L K} => @con_L _ _ _ _ _ _ _ (hat X hlx) rfl m n es err hM hI hE M w0 L K
  have hY := fun {s1 es1 er1} (p1 : PostE acts c m n X err s1 es1 er1) {M w0 L K} => @con_L _ _ _ _ _ _ _ (hat Y hly) rfl m n es1 er1 hM p1.inv p1.er M w0 L K
  have hop : (6 : Int) = 5 ∨ (6 : Int) = 6 ∨ (6 : Int) = 7 ∨ (6 : Int) = 8 := by decide
  have f1 : ((6 : Int) == 1) = false := rfl
  have f2 : ((6 : Int) == 2) = false := rfl
  have f3 : ((6 : Int) == 3) = false := rfl
  have f4 : ((6 : Int) == 4) = false := rfl
  have f5 : ((6 : Int) == 5) = false := rfl
  have f6 : ((6 : Int) == 6) = true := rfl
  have f7 : ((6 : Int) == 7) = false := rfl
  have f8 : ((6 : Int) == 8) = false := rfl
  have f9 : ((6 : Int) == 9) = false := rfl
  have f10 : ((6 : Int) == 10) = false := rfl
  have f11 : ((6 : Int) == 11) = false := rfl
  have f12 : ((6 : Int) == 12) = false := rfl
  have f13 : ((6 : Int) == 13) = false := rfl
  have f16 : ((6 : Int) == 16) = false := rfl
  refine DC.weaken (DC.intro mixed (fn := Tryz.f59) rfl rfl rfl ?_)
  (try conv=>whnf);repeat' (first|(apply And.intro<;>try conv=>whnf)|(intro h;first|with_reducible exact tf h (by assumption)|with_reducible exact tf (by assumption) h|try conv=>whnf)|fail)
  refine ⟨.one 0 (.one 3 (.one 4 (.one 5 (.one 7 (.three 1 (.three 2 (.two 6 (.one 8 (.one 9 (.one 10 (.one 11 (.one 12 .done))))) 8 (.two 6 (.one 9 (.one 10 (.one 11 (.one 12 .done)))) 9 (.one 6 (.one 10 (.one 11 (.one 12 .done)))))) 6 (.one 8 (.one 9 (.two 2 (.one 10 (.one 11 (.one 12 .done))) 10 (.one 2 (.one 11 (.one 12 .done)))))) 8 (.three 2 (.two 6 (.one 9 (.one 10 (.one 11 (.one 12 .done)))) 9 (.one 6 (.one 10 (.one 11 (.one 12 .done))))) 6 (.one 9 (.two 2 (.one 10 (.one 11 (.one 12 .done))) 10 (.one 2 (.one 11 (.one 12 .done))))) 9 (.two 2 (.one 6 (.one 10 (.one 11 (.one 12 .done)))) 6 (.two 2 (.one 10 (.one 11 (.one 12 .done))) 10 (.one 2 (.one 11 (.one 12 .done))))))) 6 (.one 8 (.one 9 (.two 1 (.two 2 (.one 10 (.one 11 (.one 12 .done))) 10 (.one 2 (.one 11 (.one 12 .done)))) 10 (.one 1 (.one 2 (.one 11 (.one 12 .done))))))) 8 (.three 1 (.three 2 (.two 6 (.one 9 (.one 10 (.one 11 (.one 12 .done)))) 9 (.one 6 (.one 10 (.one 11 (.one 12 .done))))) 6 (.one 9 (.two 2 (.one 10 (.one 11 (.one 12 .done))) 10 (.one 2 (.one 11 (.one 12 .done))))) 9 (.two 2 (.one 6 (.one 10 (.one 11 (.one 12 .done)))) 6 (.two 2 (.one 10 (.one 11 (.one 12 .done))) 10 (.one 2 (.one 11 (.one 12 .done)))))) 6 (.one 9 (.two 1 (.two 2 (.one 10 (.one 11 (.one 12 .done))) 10 (.one 2 (.one 11 (.one 12 .done)))) 10 (.one 1 (.one 2 (.one 11 (.one 12 .done)))))) 9 (.two 1 (.two 2 (.one 6 (.one 10 (.one 11 (.one 12 .done)))) 6 (.two 2 (.one 10 (.one 11 (.one 12 .done))) 10 (.one 2 (.one 11 (.one 12 .done))))) 6 (.two 1 (.two 2 (.one 10 (.one 11 (.one 12 .done))) 10 (.one 2 (.one 11 (.one 12 .done)))) 10 (.one 1 (.one 2 (.one 11 (.one 12 .done)))))))))))), [6, 10, 11], by kernel_rfl, ?_⟩
  (try conv=>whnf);repeat' (first|(apply And.intro<;>try conv=>whnf)|(refine hX rfl rfl rfl rfl rfl ?_;intro s1 es1 er1 p1;have q1 := lt64 hO p1;try conv=>whnf)|(refine hY p1 rfl rfl rfl rfl rfl ?_;intro s2 es2 er2 p2;have q2 := lt64 hO p2;try conv=>whnf)|(refine bool_L (es := es2) (err := er2) hop hM q1 q2 rfl rfl rfl rfl rfl ?_;try conv=>whnf)|fail)
  all_goals
    refine ⟨.pv (u64 (s1 ||| s2)), 3, H0 m acts c es2 er2, ?_, hK _ _ _ ?_⟩
    · (refine Wk.of ?_ ?_ rfl rfl rfl<;>repeat' (first|exact trivial|exact WkD.same _|exact WkO.same _ _ rfl|refine ⟨?_, ?_⟩|fail))
    · exact post2 hC.okl hO hx rfl rfl rfl rfl p1 p2 (Nat.or_lt_two_pow p1.lt p2.lt) rfl
theorem val_7 {acts : List Act} {c : List Nd} {A F i : Nat} {fi ei gi xx yy : Int} (hC : CxD A F acts c) (hx : c[i]? = some ⟨7, fi, ei, gi, xx, yy⟩) (hat : ∀ j, j < i → ConE 36 (.pv (.int .i64 (j : Nat))) acts c A F j) :
    ConE 59 (.agg (Nd.dvs ⟨7, fi, ei, gi, xx, yy⟩)) acts c A F i := by
  intro m n es err hM hI hE M w0 base K hK
  have hO := hM.okd.okm
  have hnn : m.n.toNat = n := by rw [hO.nn, Int.toNat_natCast]
  have hn64 := hO.n64
  have h64 := pow64_le hn64
  have hall : 2 ^ n - 1 < 2 ^ n := by have := Nat.two_pow_pos n; omega
  have hnd := hC.okl i _ hx
  have hmem : (⟨7, fi, ei, gi, xx, yy⟩ : Nd) ∈ c := List.mem_iff_getElem?.2 ⟨i, hx⟩
  have hkx := hnd.x rfl
  simp only at hkx
  obtain ⟨X, ex⟩ : ∃ q : Nat, xx = q := ⟨xx.toNat, by omega⟩
  subst ex
  have hlx : X < i := by omega
  have hky := hnd.y rfl
  simp only at hky
  obtain ⟨Y, ey⟩ : ∃ q : Nat, yy = q := ⟨yy.toNat, by omega⟩
  subst ey
  have hly : Y < i := by omega
  have hX := fun {M w0 L K} => @con_L _ _ _ _ _ _ _ (hat X hlx) rfl m n es err hM hI hE M w0 L K
  have hY := fun {s1 es1 er1} (p1 : PostE acts c m n X err s1 es1 er1) {M w0 L K} => @con_L _ _ _ _ _ _ _ (hat Y hly) rfl m n es1 er1 hM p1.inv p1.er M w0 L K
  have hop : (7 : Int) = 5 ∨ (7 : Int) = 6 ∨ (7 : Int) = 7 ∨ (7 : Int) = 8 := by decide
  have f1 : ((7 : Int) == 1) = false := rfl
  have f2 : ((7 : Int) == 2) = false := rfl
  have f3 : ((7 : Int) == 3) = false := rfl
  have f4 : ((7 : Int) == 4) = false := rfl
  have f5 : ((7 : Int) == 5) = false := rfl
  have f6 : ((7 : Int) == 6) = false := rfl
  have f7 : ((7 : Int) == 7) = true := rfl
  have f8 : ((7 : Int) == 8) = false := rfl
  have f9 : ((7 : Int) == 9) = false := rfl
  have f10 : ((7 : Int) == 10) = false := rfl
  have f11 : ((7 : Int) == 11) = false := rfl
  have f12 : ((7 : Int) == 12) = false := rfl
  have f13 : ((7 : Int) == 13) = false := rfl
  have f16 : ((7 : Int) == 16) = false := rfl
  refine DC.weaken (DC.intro mixed (fn := Tryz.f59) rfl rfl rfl ?_)
  (try conv=>whnf);repeat' (first|(apply And.intro<;>try conv=>whnf)|(intro h;first|with_reducible exact tf h (by assumption)|with_reducible exact tf (by assumption) h|try conv=>whnf)|fail)
  refine ⟨.one 0 (.one 3 (.one 4 (.one 5 (.one 7 (.three 1 (.three 2 (.two 6 (.one 8 (.one 9 (.one 10 (.one 11 (.one 12 .done))))) 8 (.two 6 (.one 9 (.one 10 (.one 11 (.one 12 .done)))) 9 (.one 6 (.one 10 (.one 11 (.one 12 .done)))))) 6 (.one 8 (.one 9 (.two 2 (.one 10 (.one 11 (.one 12 .done))) 10 (.one 2 (.one 11 (.one 12 .done)))))) 8 (.three 2 (.two 6 (.one 9 (.one 10 (.one 11 (.one 12 .done)))) 9 (.one 6 (.one 10 (.one 11 (.one 12 .done))))) 6 (.one 9 (.two 2 (.one 10 (.one 11 (.one 12 .done))) 10 (.one 2 (.one 11 (.one 12 .done))))) 9 (.two 2 (.one 6 (.one 10 (.one 11 (.one 12 .done)))) 6 (.two 2 (.one 10 (.one 11 (.one 12 .done))) 10 (.one 2 (.one 11 (.one 12 .done))))))) 6 (.one 8 (.one 9 (.two 1 (.two 2 (.one 10 (.one 11 (.one 12 .done))) 10 (.one 2 (.one 11 (.one 12 .done)))) 10 (.one 1 (.one 2 (.one 11 (.one 12 .done))))))) 8 (.three 1 (.three 2 (.two 6 (.one 9 (.one 10 (.one 11 (.one 12 .done)))) 9 (.one 6 (.one 10 (.one 11 (.one 12 .done))))) 6 (.one 9 (.two 2 (.one 10 (.one 11 (.one 12 .done))) 10 (.one 2 (.one 11 (.one 12 .done))))) 9 (.two 2 (.one 6 (.one 10 (.one 11 (.one 12 .done)))) 6 (.two 2 (.one 10 (.one 11 (.one 12 .done))) 10 (.one 2 (.one 11 (.one 12 .done)))))) 6 (.one 9 (.two 1 (.two 2 (.one 10 (.one 11 (.one 12 .done))) 10 (.one 2 (.one 11 (.one 12 .done)))) 10 (.one 1 (.one 2 (.one 11 (.one 12 .done)))))) 9 (.two 1 (.two 2 (.one 6 (.one 10 (.one 11 (.one 12 .done)))) 6 (.two 2 (.one 10 (.one 11 (.one 12 .done))) 10 (.one 2 (.one 11 (.one 12 .done))))) 6 (.two 1 (.two 2 (.one 10 (.one 11 (.one 12 .done))) 10 (.one 2 (.one 11 (.one 12 .done)))) 10 (.one 1 (.one 2 (.one 11 (.one 12 .done)))))))))))), [6, 10, 11], by kernel_rfl, ?_⟩
  (try conv=>whnf);repeat' (first|(apply And.intro<;>try conv=>whnf)|(refine hX rfl rfl rfl rfl rfl ?_;intro s1 es1 er1 p1;have q1 := lt64 hO p1;try conv=>whnf)|(refine hY p1 rfl rfl rfl rfl rfl ?_;intro s2 es2 er2 p2;have q2 := lt64 hO p2;try conv=>whnf)|(refine bool_L (es := es2) (err := er2) hop hM q1 q2 rfl rfl rfl rfl rfl ?_;try conv=>whnf)|fail)
  all_goals
    refine ⟨.pv (u64 (notN n s1 ||| s2)), 3, H0 m acts c es2 er2, ?_, hK _ _ _ ?_⟩
    · (refine Wk.of ?_ ?_ rfl rfl rfl<;>repeat' (first|exact trivial|exact WkD.same _|exact WkO.same _ _ rfl|refine ⟨?_, ?_⟩|fail))
    · exact post2 hC.okl hO hx rfl rfl rfl rfl p1 p2 (Nat.or_lt_two_pow (notN_lt _ _) p2.lt) rfl
theorem val_8 {acts : List Act} {c : List Nd} {A F i : Nat} {fi ei gi xx yy : Int} (hC : CxD A F acts c) (hx : c[i]? = some ⟨8, fi, ei, gi, xx, yy⟩) (hat : ∀ j, j < i → ConE 36 (.pv (.int .i64 (j : Nat))) acts c A F j) :
    ConE 59 (.agg (Nd.dvs ⟨8, fi, ei, gi, xx, yy⟩)) acts c A F i := by
  intro m n es err hM hI hE M w0 base K hK
  have hO := hM.okd.okm
  have hnn : m.n.toNat = n := by rw [hO.nn, Int.toNat_natCast]
  have hn64 := hO.n64
  have h64 := pow64_le hn64
  have hall : 2 ^ n - 1 < 2 ^ n := by have := Nat.two_pow_pos n; omega
  have hnd := hC.okl i _ hx
  have hmem : (⟨8, fi, ei, gi, xx, yy⟩ : Nd) ∈ c := List.mem_iff_getElem?.2 ⟨i, hx⟩
  have hkx := hnd.x rfl
  simp only at hkx
  obtain ⟨X, ex⟩ : ∃ q : Nat, xx = q := ⟨xx.toNat, by omega⟩
  subst ex
  have hlx : X < i := by omega
  have hky := hnd.y rfl
  simp only at hky
  obtain ⟨Y, ey⟩ : ∃ q : Nat, yy = q := ⟨yy.toNat, by omega⟩
  subst ey
  have hly : Y < i := by omega
  have hX := fun {M w0 L K} => @con_L _ _ _ _ _ _ _ (hat X hlx) rfl m n es err hM hI hE M w0 L K
  have hY := fun {s1 es1 er1} (p1 : PostE acts c m n X err s1 es1 er1) {M w0 L K} => @con_L _ _ _ _ _ _ _ (hat Y hly) rfl m n es1 er1 hM p1.inv p1.er M w0 L K
  have hop : (8 : Int) = 5 ∨ (8 : Int) = 6 ∨ (8 : Int) = 7 ∨ (8 : Int) = 8 := by decide
  have f1 : ((8 : Int) == 1) = false := rfl
  have f2 : ((8 : Int) == 2) = false := rfl
  have f3 : ((8 : Int) == 3) = false := rfl
  have f4 : ((8 : Int) == 4) = false := rfl
  have f5 : ((8 : Int) == 5) = false := rfl
  have f6 : ((8 : Int) == 6) = false := rfl
  have f7 : ((8 : Int) == 7) = false := rfl
  have f8 : ((8 : Int) == 8) = true := rfl
  have f9 : ((8 : Int) == 9) = false := rfl
  have f10 : ((8 : Int) == 10) = false := rfl
  have f11 : ((8 : Int) == 11) = false := rfl
  have f12 : ((8 : Int) == 12) = false := rfl
  have f13 : ((8 : Int) == 13) = false := rfl
  have f16 : ((8 : Int) == 16) = false := rfl
  refine DC.weaken (DC.intro mixed (fn := Tryz.f59) rfl rfl rfl ?_)
  (try conv=>whnf);repeat' (first|(apply And.intro<;>try conv=>whnf)|(intro h;first|with_reducible exact tf h (by assumption)|with_reducible exact tf (by assumption) h|try conv=>whnf)|fail)
  refine ⟨.one 0 (.one 3 (.one 4 (.one 5 (.one 7 (.three 1 (.three 2 (.two 6 (.one 8 (.one 9 (.one 10 (.one 11 (.one 12 .done))))) 8 (.two 6 (.one 9 (.one 10 (.one 11 (.one 12 .done)))) 9 (.one 6 (.one 10 (.one 11 (.one 12 .done)))))) 6 (.one 8 (.one 9 (.two 2 (.one 10 (.one 11 (.one 12 .done))) 10 (.one 2 (.one 11 (.one 12 .done)))))) 8 (.three 2 (.two 6 (.one 9 (.one 10 (.one 11 (.one 12 .done)))) 9 (.one 6 (.one 10 (.one 11 (.one 12 .done))))) 6 (.one 9 (.two 2 (.one 10 (.one 11 (.one 12 .done))) 10 (.one 2 (.one 11 (.one 12 .done))))) 9 (.two 2 (.one 6 (.one 10 (.one 11 (.one 12 .done)))) 6 (.two 2 (.one 10 (.one 11 (.one 12 .done))) 10 (.one 2 (.one 11 (.one 12 .done))))))) 6 (.one 8 (.one 9 (.two 1 (.two 2 (.one 10 (.one 11 (.one 12 .done))) 10 (.one 2 (.one 11 (.one 12 .done)))) 10 (.one 1 (.one 2 (.one 11 (.one 12 .done))))))) 8 (.three 1 (.three 2 (.two 6 (.one 9 (.one 10 (.one 11 (.one 12 .done)))) 9 (.one 6 (.one 10 (.one 11 (.one 12 .done))))) 6 (.one 9 (.two 2 (.one 10 (.one 11 (.one 12 .done))) 10 (.one 2 (.one 11 (.one 12 .done))))) 9 (.two 2 (.one 6 (.one 10 (.one 11 (.one 12 .done)))) 6 (.two 2 (.one 10 (.one 11 (.one 12 .done))) 10 (.one 2 (.one 11 (.one 12 .done)))))) 6 (.one 9 (.two 1 (.two 2 (.one 10 (.one 11 (.one 12 .done))) 10 (.one 2 (.one 11 (.one 12 .done)))) 10 (.one 1 (.one 2 (.one 11 (.one 12 .done)))))) 9 (.two 1 (.two 2 (.one 6 (.one 10 (.one 11 (.one 12 .done)))) 6 (.two 2 (.one 10 (.one 11 (.one 12 .done))) 10 (.one 2 (.one 11 (.one 12 .done))))) 6 (.two 1 (.two 2 (.one 10 (.one 11 (.one 12 .done))) 10 (.one 2 (.one 11 (.one 12 .done)))) 10 (.one 1 (.one 2 (.one 11 (.one 12 .done)))))))))))), [6, 10, 11], by kernel_rfl, ?_⟩
  (try conv=>whnf);repeat' (first|(apply And.intro<;>try conv=>whnf)|(refine hX rfl rfl rfl rfl rfl ?_;intro s1 es1 er1 p1;have q1 := lt64 hO p1;try conv=>whnf)|(refine hY p1 rfl rfl rfl rfl rfl ?_;intro s2 es2 er2 p2;have q2 := lt64 hO p2;try conv=>whnf)|(refine bool_L (es := es2) (err := er2) hop hM q1 q2 rfl rfl rfl rfl rfl ?_;try conv=>whnf)|fail)
  all_goals
    refine ⟨.pv (u64 (notN n (s1 ^^^ s2))), 3, H0 m acts c es2 er2, ?_, hK _ _ _ ?_⟩
    · (refine Wk.of ?_ ?_ rfl rfl rfl<;>repeat' (first|exact trivial|exact WkD.same _|exact WkO.same _ _ rfl|refine ⟨?_, ?_⟩|fail))
    · exact post2 hC.okl hO hx rfl rfl rfl rfl p1 p2 (notN_lt _ _) rfl
end Go.Proofs.YtlaolpkgabknfaaGreatDoor
set_option maxRecDepth 100000
set_option maxHeartbeats 4000000
namespace Go.Proofs.YtlaolpkgabknfaaGreatDoor
open Go Go.Dv

section
variable {n N : Nat} {φ : Nat → Nat}
end
section
variable {m p : Mo} {n N : Nat} {φ : Nat → Nat}
theorem orF_lt (n : Nat) : ∀ x y, x < 2 ^ n → y < 2 ^ n → orF x y < 2 ^ n := fun _ _ h1 h2 => Nat.or_lt_two_pow h1 h2
theorem andF_lt (n : Nat) : ∀ x y, x < 2 ^ n → y < 2 ^ n → andF x y < 2 ^ n := fun x _ _ h2 => Nat.and_lt_two_pow x h2
theorem pow_less (n : Nat) : 2 ^ n - 1 < 2 ^ n := by have := Nat.two_pow_pos n; omega
/-! formulas that are put together -/
end
end Go.Proofs.YtlaolpkgabknfaaGreatDoor
set_option maxRecDepth 100000
set_option maxHeartbeats 16000000
namespace Go.Proofs.YtlaolpkgabknfaaGreatDoor
open Go Go.Dv

theorem val_9 {acts : List Act} {c : List Nd} {A F i : Nat} {fi ei gi xx yy : Int} (hC : CxD A F acts c) (hx : c[i]? = some ⟨9, fi, ei, gi, xx, yy⟩) (hat : ∀ j, j < i → ConE 36 (.pv (.int .i64 (j : Nat))) acts c A F j) :
    ConE 59 (.agg (Nd.dvs ⟨9, fi, ei, gi, xx, yy⟩)) acts c A F i := by
  intro m n es err hM hI hE M w0 base K hK
  have hO := hM.okd.okm
  have hnn : m.n.toNat = n := by rw [hO.nn, Int.toNat_natCast]
  have hn64 := hO.n64
  have h64 := pow64_le hn64
  have hall : 2 ^ n - 1 < 2 ^ n := by have := Nat.two_pow_pos n; omega
  have hnd := hC.okl i _ hx
  have hmem : (⟨9, fi, ei, gi, xx, yy⟩ : Nd) ∈ c := List.mem_iff_getElem?.2 ⟨i, hx⟩
  have hkx := hnd.x rfl
  simp only at hkx
  obtain ⟨X, ex⟩ : ∃ q : Nat, xx = q := ⟨xx.toNat, by omega⟩
  subst ex
  have hlx : X < i := by omega
  have hX := fun {M w0 L K} => @con_L _ _ _ _ _ _ _ (hat X hlx) rfl m n es err hM hI hE M w0 L K
  have hfi := (hnd.agent rfl).1
  simp only at hfi
  have hfA := hC.ag _ hmem (by first | exact .inl rfl | exact .inr rfl)
  simp only at hfA
  obtain ⟨q, eq⟩ : ∃ q : Nat, fi = q := ⟨fi.toNat, by omega⟩
  subst eq
  have hq : q < m.rel.length := by rw [hM.ra]; omega
  obtain ⟨r, hr, hrw⟩ : ∃ r, m.rel[q]? = some r ∧ m.rel.getD q [] = r := ⟨_, getD_mem hq, rfl⟩
  have hrm : r ∈ m.rel := List.mem_iff_getElem?.2 ⟨q, hr⟩
  have hB : ∀ s : Nat, s < 2 ^ 64 → PureFn Tryz.prog 97 [rowPV r, u64 s] (u64 (boxN n r s)) := fun s hs => rl_Box n r _ hn64 (hO.rows r hrm) (hO.bits r hrm) hs
  have f1 : ((9 : Int) == 1) = false := rfl
  have f2 : ((9 : Int) == 2) = false := rfl
  have f3 : ((9 : Int) == 3) = false := rfl
  have f4 : ((9 : Int) == 4) = false := rfl
  have f5 : ((9 : Int) == 5) = false := rfl
  have f6 : ((9 : Int) == 6) = false := rfl
  have f7 : ((9 : Int) == 7) = false := rfl
  have f8 : ((9 : Int) == 8) = false := rfl
  have f9 : ((9 : Int) == 9) = true := rfl
  have f10 : ((9 : Int) == 10) = false := rfl
  have f11 : ((9 : Int) == 11) = false := rfl
  have f12 : ((9 : Int) == 12) = false := rfl
  have f13 : ((9 : Int) == 13) = false := rfl
  have f16 : ((9 : Int) == 16) = false := rfl
  refine DC.weaken (DC.intro mixed (fn := Tryz.f59) rfl rfl rfl ?_)
  (try conv=>whnf);repeat' (first|(apply And.intro<;>try conv=>whnf)|(intro h;first|with_reducible exact tf h (by assumption)|with_reducible exact tf (by assumption) h|try conv=>whnf)|fail)
  refine ⟨.one 0 (.one 9 (.one 10 (.one 11 (.three 1 (.three 2 (.three 3 (.three 4 (.two 5 (.two 6 (.two 7 (.two 8 (.one 12 (.one 13 (.one 14 .done))) 12 (.one 8 (.one 13 (.one 14 .done)))) 12 (.one 7 (.one 8 (.one 13 (.one 14 .done))))) 12 (.one 6 (.one 7 (.one 8 (.one 13 (.one 14 .done)))))) 12 (.one 5 (.one 6 (.one 7 (.one 8 (.one 13 (.one 14 .done))))))) 5 (.three 4 (.two 6 (.two 7 (.two 8 (.one 12 (.one 13 (.one 14 .done))) 12 (.one 8 (.one 13 (.one 14 .done)))) 12 (.one 7 (.one 8 (.one 13 (.one 14 .done))))) 12 (.one 6 (.one 7 (.one 8 (.one 13 (.one 14 .done)))))) 6 (.two 4 (.two 7 (.two 8 (.one 12 (.one 13 (.one 14 .done))) 12 (.one 8 (.one 13 (.one 14 .done)))) 12 (.one 7 (.one 8 (.one 13 (.one 14 .done))))) 12 (.one 4 (.one 7 (.one 8 (.one 13 (.one 14 .done)))))) 12 (.one 4 (.one 6 (.one 7 (.one 8 (.one 13 (.one 14 .done))))))) 12 (.one 4 (.one 5 (.one 6 (.one 7 (.one 8 (.one 13 (.one 14 .done)))))))) 5 (.three 3 (.three 4 (.two 6 (.two 7 (.two 8 (.one 12 (.one 13 (.one 14 .done))) 12 (.one 8 (.one 13 (.one 14 .done)))) 12 (.one 7 (.one 8 (.one 13 (.one 14 .done))))) 12 (.one 6 (.one 7 (.one 8 (.one 13 (.one 14 .done)))))) 6 (.two 4 (.two 7 (.two 8 (.one 12 (.one 13 (.one 14 .done))) 12 (.one 8 (.one 13 (.one 14 .done)))) 12 (.one 7 (.one 8 (.one 13 (.one 14 .done))))) 12 (.one 4 (.one 7 (.one 8 (.one 13 (.one 14 .done)))))) 12 (.one 4 (.one 6 (.one 7 (.one 8 (.one 13 (.one 14 .done))))))) 6 (.two 3 (.two 4 (.two 7 (.two 8 (.one 12 (.one 13 (.one 14 .done))) 12 (.one 8 (.one 13 (.one 14 .done)))) 12 (.one 7 (.one 8 (.one 13 (.one 14 .done))))) 12 (.one 4 (.one 7 (.one 8 (.one 13 (.one 14 .done)))))) 12 (.one 3 (.one 4 (.one 7 (.one 8 (.one 13 (.one 14 .done))))))) 12 (.one 3 (.one 4 (.one 6 (.one 7 (.one 8 (.one 13 (.one 14 .done)))))))) 12 (.one 3 (.one 4 (.one 5 (.one 6 (.one 7 (.one 8 (.one 13 (.one 14 .done))))))))) 5 (.three 2 (.three 3 (.three 4 (.two 6 (.two 7 (.two 8 (.one 12 (.one 13 (.one 14 .done))) 12 (.one 8 (.one 13 (.one 14 .done)))) 12 (.one 7 (.one 8 (.one 13 (.one 14 .done))))) 12 (.one 6 (.one 7 (.one 8 (.one 13 (.one 14 .done)))))) 6 (.two 4 (.two 7 (.two 8 (.one 12 (.one 13 (.one 14 .done))) 12 (.one 8 (.one 13 (.one 14 .done)))) 12 (.one 7 (.one 8 (.one 13 (.one 14 .done))))) 12 (.one 4 (.one 7 (.one 8 (.one 13 (.one 14 .done)))))) 12 (.one 4 (.one 6 (.one 7 (.one 8 (.one 13 (.one 14 .done))))))) 6 (.two 3 (.two 4 (.two 7 (.two 8 (.one 12 (.one 13 (.one 14 .done))) 12 (.one 8 (.one 13 (.one 14 .done)))) 12 (.one 7 (.one 8 (.one 13 (.one 14 .done))))) 12 (.one 4 (.one 7 (.one 8 (.one 13 (.one 14 .done)))))) 12 (.one 3 (.one 4 (.one 7 (.one 8 (.one 13 (.one 14 .done))))))) 12 (.one 3 (.one 4 (.one 6 (.one 7 (.one 8 (.one 13 (.one 14 .done)))))))) 6 (.two 2 (.two 3 (.two 4 (.two 7 (.two 8 (.one 12 (.one 13 (.one 14 .done))) 12 (.one 8 (.one 13 (.one 14 .done)))) 12 (.one 7 (.one 8 (.one 13 (.one 14 .done))))) 12 (.one 4 (.one 7 (.one 8 (.one 13 (.one 14 .done)))))) 12 (.one 3 (.one 4 (.one 7 (.one 8 (.one 13 (.one 14 .done))))))) 12 (.one 2 (.one 3 (.one 4 (.one 7 (.one 8 (.one 13 (.one 14 .done)))))))) 12 (.one 2 (.one 3 (.one 4 (.one 6 (.one 7 (.one 8 (.one 13 (.one 14 .done))))))))) 12 (.one 2 (.one 3 (.one 4 (.one 5 (.one 6 (.one 7 (.one 8 (.one 13 (.one 14 .done)))))))))) 5 (.three 1 (.three 2 (.three 3 (.three 4 (.two 6 (.two 7 (.two 8 (.one 12 (.one 13 (.one 14 .done))) 12 (.one 8 (.one 13 (.one 14 .done)))) 12 (.one 7 (.one 8 (.one 13 (.one 14 .done))))) 12 (.one 6 (.one 7 (.one 8 (.one 13 (.one 14 .done)))))) 6 (.two 4 (.two 7 (.two 8 (.one 12 (.one 13 (.one 14 .done))) 12 (.one 8 (.one 13 (.one 14 .done)))) 12 (.one 7 (.one 8 (.one 13 (.one 14 .done))))) 12 (.one 4 (.one 7 (.one 8 (.one 13 (.one 14 .done)))))) 12 (.one 4 (.one 6 (.one 7 (.one 8 (.one 13 (.one 14 .done))))))) 6 (.two 3 (.two 4 (.two 7 (.two 8 (.one 12 (.one 13 (.one 14 .done))) 12 (.one 8 (.one 13 (.one 14 .done)))) 12 (.one 7 (.one 8 (.one 13 (.one 14 .done))))) 12 (.one 4 (.one 7 (.one 8 (.one 13 (.one 14 .done)))))) 12 (.one 3 (.one 4 (.one 7 (.one 8 (.one 13 (.one 14 .done))))))) 12 (.one 3 (.one 4 (.one 6 (.one 7 (.one 8 (.one 13 (.one 14 .done)))))))) 6 (.two 2 (.two 3 (.two 4 (.two 7 (.two 8 (.one 12 (.one 13 (.one 14 .done))) 12 (.one 8 (.one 13 (.one 14 .done)))) 12 (.one 7 (.one 8 (.one 13 (.one 14 .done))))) 12 (.one 4 (.one 7 (.one 8 (.one 13 (.one 14 .done)))))) 12 (.one 3 (.one 4 (.one 7 (.one 8 (.one 13 (.one 14 .done))))))) 12 (.one 2 (.one 3 (.one 4 (.one 7 (.one 8 (.one 13 (.one 14 .done)))))))) 12 (.one 2 (.one 3 (.one 4 (.one 6 (.one 7 (.one 8 (.one 13 (.one 14 .done))))))))) 6 (.two 1 (.two 2 (.two 3 (.two 4 (.two 7 (.two 8 (.one 12 (.one 13 (.one 14 .done))) 12 (.one 8 (.one 13 (.one 14 .done)))) 12 (.one 7 (.one 8 (.one 13 (.one 14 .done))))) 12 (.one 4 (.one 7 (.one 8 (.one 13 (.one 14 .done)))))) 12 (.one 3 (.one 4 (.one 7 (.one 8 (.one 13 (.one 14 .done))))))) 12 (.one 2 (.one 3 (.one 4 (.one 7 (.one 8 (.one 13 (.one 14 .done)))))))) 12 (.one 1 (.one 2 (.one 3 (.one 4 (.one 7 (.one 8 (.one 13 (.one 14 .done))))))))) 12 (.one 1 (.one 2 (.one 3 (.one 4 (.one 6 (.one 7 (.one 8 (.one 13 (.one 14 .done)))))))))) 12 (.one 1 (.one 2 (.one 3 (.one 4 (.one 5 (.one 6 (.one 7 (.one 8 (.one 13 (.one 14 .done)))))))))))))), [12], by kernel_rfl, ?_⟩
  (try conv=>whnf);repeat' (first|(apply And.intro<;>try conv=>whnf)|(apply infoT;rfl)|(refine ⟨_, _, rfl, idx_map (by with_reducible assumption), rfl, ?_⟩;try conv=>whnf)|(refine hX rfl rfl rfl rfl rfl ?_;intro s1 es1 er1 p1;have q1 := lt64 hO p1;try conv=>whnf)|(refine ⟨u64 (boxN n r s1), ?_, rfl, ?_⟩;(focus ((try conv=>whnf);exact hB _ q1));try conv=>whnf)|fail)
  all_goals
    refine ⟨.pv (u64 (boxN n r s1)), 3, H0 m acts c es1 er1, ?_, hK _ _ _ ?_⟩
    · (refine Wk.of ?_ ?_ rfl rfl rfl<;>repeat' (first|exact trivial|exact WkD.same _|exact WkO.same _ _ rfl|refine ⟨?_, ?_⟩|fail))
    · exact post1 hC.okl hO hx rfl rfl rfl rfl p1 (boxN_lt _ _ _) (by rw [← hrw]; rfl)
theorem val_10 {acts : List Act} {c : List Nd} {A F i : Nat} {fi ei gi xx yy : Int} (hC : CxD A F acts c) (hx : c[i]? = some ⟨10, fi, ei, gi, xx, yy⟩) (hat : ∀ j, j < i → ConE 36 (.pv (.int .i64 (j : Nat))) acts c A F j) :
    ConE 59 (.agg (Nd.dvs ⟨10, fi, ei, gi, xx, yy⟩)) acts c A F i := by
  intro m n es err hM hI hE M w0 base K hK
  have hO := hM.okd.okm
  have hnn : m.n.toNat = n := by rw [hO.nn, Int.toNat_natCast]
  have hn64 := hO.n64
  have h64 := pow64_le hn64
  have hall : 2 ^ n - 1 < 2 ^ n := by have := Nat.two_pow_pos n; omega
  have hnd := hC.okl i _ hx
  have hmem : (⟨10, fi, ei, gi, xx, yy⟩ : Nd) ∈ c := List.mem_iff_getElem?.2 ⟨i, hx⟩
  have hkx := hnd.x rfl
  simp only at hkx
  obtain ⟨X, ex⟩ : ∃ q : Nat, xx = q := ⟨xx.toNat, by omega⟩
  subst ex
  have hlx : X < i := by omega
  have hX := fun {M w0 L K} => @con_L _ _ _ _ _ _ _ (hat X hlx) rfl m n es err hM hI hE M w0 L K
  have hfi := (hnd.agent rfl).1
  simp only at hfi
  have hfA := hC.ag _ hmem (by first | exact .inl rfl | exact .inr rfl)
  simp only at hfA
  obtain ⟨q, eq⟩ : ∃ q : Nat, fi = q := ⟨fi.toNat, by omega⟩
  subst eq
  have hq : q < m.rel.length := by rw [hM.ra]; omega
  obtain ⟨r, hr, hrw⟩ : ∃ r, m.rel[q]? = some r ∧ m.rel.getD q [] = r := ⟨_, getD_mem hq, rfl⟩
  have hrm : r ∈ m.rel := List.mem_iff_getElem?.2 ⟨q, hr⟩
  have hB : ∀ s : Nat, s < 2 ^ 64 → PureFn Tryz.prog 98 [rowPV r, u64 s] (u64 (diaN n r s)) := fun s hs => rl_Diamond n r _ hn64 (hO.rows r hrm) (hO.bits r hrm) hs
  have f1 : ((10 : Int) == 1) = false := rfl
  have f2 : ((10 : Int) == 2) = false := rfl
  have f3 : ((10 : Int) == 3) = false := rfl
  have f4 : ((10 : Int) == 4) = false := rfl
  have f5 : ((10 : Int) == 5) = false := rfl
  have f6 : ((10 : Int) == 6) = false := rfl
  have f7 : ((10 : Int) == 7) = false := rfl
  have f8 : ((10 : Int) == 8) = false := rfl
  have f9 : ((10 : Int) == 9) = false := rfl
  have f10 : ((10 : Int) == 10) = true := rfl
  have f11 : ((10 : Int) == 11) = false := rfl
  have f12 : ((10 : Int) == 12) = false := rfl
  have f13 : ((10 : Int) == 13) = false := rfl
  have f16 : ((10 : Int) == 16) = false := rfl
  refine DC.weaken (DC.intro mixed (fn := Tryz.f59) rfl rfl rfl ?_)
  (try conv=>whnf);repeat' (first|(apply And.intro<;>try conv=>whnf)|(intro h;first|with_reducible exact tf h (by assumption)|with_reducible exact tf (by assumption) h|try conv=>whnf)|fail)
  refine ⟨.one 0 (.one 9 (.one 10 (.one 11 (.three 1 (.three 2 (.three 3 (.three 4 (.two 5 (.two 6 (.two 7 (.two 8 (.one 12 (.one 13 (.one 14 .done))) 12 (.one 8 (.one 13 (.one 14 .done)))) 12 (.one 7 (.one 8 (.one 13 (.one 14 .done))))) 12 (.one 6 (.one 7 (.one 8 (.one 13 (.one 14 .done)))))) 12 (.one 5 (.one 6 (.one 7 (.one 8 (.one 13 (.one 14 .done))))))) 5 (.three 4 (.two 6 (.two 7 (.two 8 (.one 12 (.one 13 (.one 14 .done))) 12 (.one 8 (.one 13 (.one 14 .done)))) 12 (.one 7 (.one 8 (.one 13 (.one 14 .done))))) 12 (.one 6 (.one 7 (.one 8 (.one 13 (.one 14 .done)))))) 6 (.two 4 (.two 7 (.two 8 (.one 12 (.one 13 (.one 14 .done))) 12 (.one 8 (.one 13 (.one 14 .done)))) 12 (.one 7 (.one 8 (.one 13 (.one 14 .done))))) 12 (.one 4 (.one 7 (.one 8 (.one 13 (.one 14 .done)))))) 12 (.one 4 (.one 6 (.one 7 (.one 8 (.one 13 (.one 14 .done))))))) 12 (.one 4 (.one 5 (.one 6 (.one 7 (.one 8 (.one 13 (.one 14 .done)))))))) 5 (.three 3 (.three 4 (.two 6 (.two 7 (.two 8 (.one 12 (.one 13 (.one 14 .done))) 12 (.one 8 (.one 13 (.one 14 .done)))) 12 (.one 7 (.one 8 (.one 13 (.one 14 .done))))) 12 (.one 6 (.one 7 (.one 8 (.one 13 (.one 14 .done)))))) 6 (.two 4 (.two 7 (.two 8 (.one 12 (.one 13 (.one 14 .done))) 12 (.one 8 (.one 13 (.one 14 .done)))) 12 (.one 7 (.one 8 (.one 13 (.one 14 .done))))) 12 (.one 4 (.one 7 (.one 8 (.one 13 (.one 14 .done)))))) 12 (.one 4 (.one 6 (.one 7 (.one 8 (.one 13 (.one 14 .done))))))) 6 (.two 3 (.two 4 (.two 7 (.two 8 (.one 12 (.one 13 (.one 14 .done))) 12 (.one 8 (.one 13 (.one 14 .done)))) 12 (.one 7 (.one 8 (.one 13 (.one 14 .done))))) 12 (.one 4 (.one 7 (.one 8 (.one 13 (.one 14 .done)))))) 12 (.one 3 (.one 4 (.one 7 (.one 8 (.one 13 (.one 14 .done))))))) 12 (.one 3 (.one 4 (.one 6 (.one 7 (.one 8 (.one 13 (.one 14 .done)))))))) 12 (.one 3 (.one 4 (.one 5 (.one 6 (.one 7 (.one 8 (.one 13 (.one 14 .done))))))))) 5 (.three 2 (.three 3 (.three 4 (.two 6 (.two 7 (.two 8 (.one 12 (.one 13 (.one 14 .done))) 12 (.one 8 (.one 13 (.one 14 .done)))) 12 (.one 7 (.one 8 (.one 13 (.one 14 .done))))) 12 (.one 6 (.one 7 (.one 8 (.one 13 (.one 14 .done)))))) 6 (.two 4 (.two 7 (.two 8 (.one 12 (.one 13 (.one 14 .done))) 12 (.one 8 (.one 13 (.one 14 .done)))) 12 (.one 7 (.one 8 (.one 13 (.one 14 .done))))) 12 (.one 4 (.one 7 (.one 8 (.one 13 (.one 14 .done)))))) 12 (.one 4 (.one 6 (.one 7 (.one 8 (.one 13 (.one 14 .done))))))) 6 (.two 3 (.two 4 (.two 7 (.two 8 (.one 12 (.one 13 (.one 14 .done))) 12 (.one 8 (.one 13 (.one 14 .done)))) 12 (.one 7 (.one 8 (.one 13 (.one 14 .done))))) 12 (.one 4 (.one 7 (.one 8 (.one 13 (.one 14 .done)))))) 12 (.one 3 (.one 4 (.one 7 (.one 8 (.one 13 (.one 14 .done))))))) 12 (.one 3 (.one 4 (.one 6 (.one 7 (.one 8 (.one 13 (.one 14 .done)))))))) 6 (.two 2 (.two 3 (.two 4 (.two 7 (.two 8 (.one 12 (.one 13 (.one 14 .done))) 12 (.one 8 (.one 13 (.one 14 .done)))) 12 (.one 7 (.one 8 (.one 13 (.one 14 .done))))) 12 (.one 4 (.one 7 (.one 8 (.one 13 (.one 14 .done)))))) 12 (.one 3 (.one 4 (.one 7 (.one 8 (.one 13 (.one 14 .done))))))) 12 (.one 2 (.one 3 (.one 4 (.one 7 (.one 8 (.one 13 (.one 14 .done)))))))) 12 (.one 2 (.one 3 (.one 4 (.one 6 (.one 7 (.one 8 (.one 13 (.one 14 .done))))))))) 12 (.one 2 (.one 3 (.one 4 (.one 5 (.one 6 (.one 7 (.one 8 (.one 13 (.one 14 .done)))))))))) 5 (.three 1 (.three 2 (.three 3 (.three 4 (.two 6 (.two 7 (.two 8 (.one 12 (.one 13 (.one 14 .done))) 12 (.one 8 (.one 13 (.one 14 .done)))) 12 (.one 7 (.one 8 (.one 13 (.one 14 .done))))) 12 (.one 6 (.one 7 (.one 8 (.one 13 (.one 14 .done)))))) 6 (.two 4 (.two 7 (.two 8 (.one 12 (.one 13 (.one 14 .done))) 12 (.one 8 (.one 13 (.one 14 .done)))) 12 (.one 7 (.one 8 (.one 13 (.one 14 .done))))) 12 (.one 4 (.one 7 (.one 8 (.one 13 (.one 14 .done)))))) 12 (.one 4 (.one 6 (.one 7 (.one 8 (.one 13 (.one 14 .done))))))) 6 (.two 3 (.two 4 (.two 7 (.two 8 (.one 12 (.one 13 (.one 14 .done))) 12 (.one 8 (.one 13 (.one 14 .done)))) 12 (.one 7 (.one 8 (.one 13 (.one 14 .done))))) 12 (.one 4 (.one 7 (.one 8 (.one 13 (.one 14 .done)))))) 12 (.one 3 (.one 4 (.one 7 (.one 8 (.one 13 (.one 14 .done))))))) 12 (.one 3 (.one 4 (.one 6 (.one 7 (.one 8 (.one 13 (.one 14 .done)))))))) 6 (.two 2 (.two 3 (.two 4 (.two 7 (.two 8 (.one 12 (.one 13 (.one 14 .done))) 12 (.one 8 (.one 13 (.one 14 .done)))) 12 (.one 7 (.one 8 (.one 13 (.one 14 .done))))) 12 (.one 4 (.one 7 (.one 8 (.one 13 (.one 14 .done)))))) 12 (.one 3 (.one 4 (.one 7 (.one 8 (.one 13 (.one 14 .done))))))) 12 (.one 2 (.one 3 (.one 4 (.one 7 (.one 8 (.one 13 (.one 14 .done)))))))) 12 (.one 2 (.one 3 (.one 4 (.one 6 (.one 7 (.one 8 (.one 13 (.one 14 .done))))))))) 6 (.two 1 (.two 2 (.two 3 (.two 4 (.two 7 (.two 8 (.one 12 (.one 13 (.one 14 .done))) 12 (.one 8 (.one 13 (.one 14 .done)))) 12 (.one 7 (.one 8 (.one 13 (.one 14 .done))))) 12 (.one 4 (.one 7 (.one 8 (.one 13 (.one 14 .done)))))) 12 (.one 3 (.one 4 (.one 7 (.one 8 (.one 13 (.one 14 .done))))))) 12 (.one 2 (.one 3 (.one 4 (.one 7 (.one 8 (.one 13 (.one 14 .done)))))))) 12 (.one 1 (.one 2 (.one 3 (.one 4 (.one 7 (.one 8 (.one 13 (.one 14 .done))))))))) 12 (.one 1 (.one 2 (.one 3 (.one 4 (.one 6 (.one 7 (.one 8 (.one 13 (.one 14 .done)))))))))) 12 (.one 1 (.one 2 (.one 3 (.one 4 (.one 5 (.one 6 (.one 7 (.one 8 (.one 13 (.one 14 .done)))))))))))))), [12], by kernel_rfl, ?_⟩
  (try conv=>whnf);repeat' (first|(apply And.intro<;>try conv=>whnf)|(apply infoT;rfl)|(refine ⟨_, _, rfl, idx_map (by with_reducible assumption), rfl, ?_⟩;try conv=>whnf)|(refine hX rfl rfl rfl rfl rfl ?_;intro s1 es1 er1 p1;have q1 := lt64 hO p1;try conv=>whnf)|(refine ⟨u64 (diaN n r s1), ?_, rfl, ?_⟩;(focus ((try conv=>whnf);exact hB _ q1));try conv=>whnf)|fail)
  all_goals
    refine ⟨.pv (u64 (diaN n r s1)), 3, H0 m acts c es1 er1, ?_, hK _ _ _ ?_⟩
    · (refine Wk.of ?_ ?_ rfl rfl rfl<;>repeat' (first|exact trivial|exact WkD.same _|exact WkO.same _ _ rfl|refine ⟨?_, ?_⟩|fail))
    · exact post1 hC.okl hO hx rfl rfl rfl rfl p1 (diaN_lt _ _ _) (by rw [← hrw]; rfl)
theorem val_11 {acts : List Act} {c : List Nd} {A F i : Nat} {fi ei gi xx yy : Int} (hC : CxD A F acts c) (hx : c[i]? = some ⟨11, fi, ei, gi, xx, yy⟩) (hat : ∀ j, j < i → ConE 36 (.pv (.int .i64 (j : Nat))) acts c A F j) :
    ConE 59 (.agg (Nd.dvs ⟨11, fi, ei, gi, xx, yy⟩)) acts c A F i := by
  intro m n es err hM hI hE M w0 base K hK
  have hO := hM.okd.okm
  have hnn : m.n.toNat = n := by rw [hO.nn, Int.toNat_natCast]
  have hn64 := hO.n64
  have h64 := pow64_le hn64
  have hall : 2 ^ n - 1 < 2 ^ n := by have := Nat.two_pow_pos n; omega
  have hnd := hC.okl i _ hx
  have hmem : (⟨11, fi, ei, gi, xx, yy⟩ : Nd) ∈ c := List.mem_iff_getElem?.2 ⟨i, hx⟩
  have hkx := hnd.x rfl
  simp only at hkx
  obtain ⟨X, ex⟩ : ∃ q : Nat, xx = q := ⟨xx.toNat, by omega⟩
  subst ex
  have hlx : X < i := by omega
  have hX := fun {M w0 L K} => @con_L _ _ _ _ _ _ _ (hat X hlx) rfl m n es err hM hI hE M w0 L K
  have hgr := hC.gr _ hmem (by first | exact .inl rfl | exact .inr (.inl rfl) | exact .inr (.inr rfl))
  simp only at hgr
  have hg1 := hgr.1
  have hg2 : gi < shl64 1 (m.rel.length : Int) := by rw [hM.ra]; exact hgr.2
  have hG := md_Group m n hO gi
  have hgf := grp_facts (g := gi) hO (orF_lt n) (Nat.two_pow_pos n) hg1 hg2
  obtain ⟨G, hGe⟩ : ∃ G, G = grpM orF m gi 0 := ⟨_, rfl⟩
  rw [← hGe] at hG hgf
  have hB : ∀ s : Nat, s < 2 ^ 64 → PureFn Tryz.prog 97 [rowPV G, u64 s] (u64 (boxN n G s)) := fun s hs => rl_Box n G _ hn64 hgf.1 hgf.2 hs
  have f1 : ((11 : Int) == 1) = false := rfl
  have f2 : ((11 : Int) == 2) = false := rfl
  have f3 : ((11 : Int) == 3) = false := rfl
  have f4 : ((11 : Int) == 4) = false := rfl
  have f5 : ((11 : Int) == 5) = false := rfl
  have f6 : ((11 : Int) == 6) = false := rfl
  have f7 : ((11 : Int) == 7) = false := rfl
  have f8 : ((11 : Int) == 8) = false := rfl
  have f9 : ((11 : Int) == 9) = false := rfl
  have f10 : ((11 : Int) == 10) = false := rfl
  have f11 : ((11 : Int) == 11) = true := rfl
  have f12 : ((11 : Int) == 12) = false := rfl
  have f13 : ((11 : Int) == 13) = false := rfl
  have f16 : ((11 : Int) == 16) = false := rfl
  refine DC.weaken (DC.intro mixed (fn := Tryz.f59) rfl rfl rfl ?_)
  (try conv=>whnf);repeat' (first|(apply And.intro<;>try conv=>whnf)|(intro h;first|with_reducible exact tf h (by assumption)|with_reducible exact tf (by assumption) h|try conv=>whnf)|fail)
  refine ⟨.one 0 (.one 1 (.one 2 (.one 3 (.one 4 (.one 5 (.one 6 (.one 7 (.one 8 (.one 9 (.one 10 (.one 11 (.one 12 .done)))))))))))), [10], by kernel_rfl, ?_⟩
  (try conv=>whnf);repeat' (first|(refine hX rfl rfl rfl rfl rfl ?_;intro s1 es1 er1 p1;have q1 := lt64 hO p1;try conv=>whnf)|(refine ⟨rowPV G, ?_, rfl, ?_⟩;(focus ((try conv=>whnf);exact hG));try conv=>whnf)|(refine ⟨u64 (boxN n G s1), ?_, rfl, ?_⟩;(focus ((try conv=>whnf);exact hB _ q1));try conv=>whnf)|fail)
  all_goals
    refine ⟨.pv (u64 (boxN n G s1)), 3, H0 m acts c es1 er1, ?_, hK _ _ _ ?_⟩
    · (refine Wk.of ?_ ?_ rfl rfl rfl<;>repeat' (first|exact trivial|exact WkD.same _|exact WkO.same _ _ rfl|refine ⟨?_, ?_⟩|fail))
    · exact post1 hC.okl hO hx rfl rfl rfl rfl p1 (boxN_lt _ _ _) (by rw [hGe]; rfl)
theorem val_12 {acts : List Act} {c : List Nd} {A F i : Nat} {fi ei gi xx yy : Int} (hC : CxD A F acts c) (hx : c[i]? = some ⟨12, fi, ei, gi, xx, yy⟩) (hat : ∀ j, j < i → ConE 36 (.pv (.int .i64 (j : Nat))) acts c A F j) :
    ConE 59 (.agg (Nd.dvs ⟨12, fi, ei, gi, xx, yy⟩)) acts c A F i := by
  intro m n es err hM hI hE M w0 base K hK
  have hO := hM.okd.okm
  have hnn : m.n.toNat = n := by rw [hO.nn, Int.toNat_natCast]
  have hn64 := hO.n64
  have h64 := pow64_le hn64
  have hall : 2 ^ n - 1 < 2 ^ n := by have := Nat.two_pow_pos n; omega
  have hnd := hC.okl i _ hx
  have hmem : (⟨12, fi, ei, gi, xx, yy⟩ : Nd) ∈ c := List.mem_iff_getElem?.2 ⟨i, hx⟩
  have hkx := hnd.x rfl
  simp only at hkx
  obtain ⟨X, ex⟩ : ∃ q : Nat, xx = q := ⟨xx.toNat, by omega⟩
  subst ex
  have hlx : X < i := by omega
  have hX := fun {M w0 L K} => @con_L _ _ _ _ _ _ _ (hat X hlx) rfl m n es err hM hI hE M w0 L K
  have hgr := hC.gr _ hmem (by first | exact .inl rfl | exact .inr (.inl rfl) | exact .inr (.inr rfl))
  simp only at hgr
  have hg1 := hgr.1
  have hg2 : gi < shl64 1 (m.rel.length : Int) := by rw [hM.ra]; exact hgr.2
  have hG := md_Meet m n hO gi
  have hgf := grp_facts (g := gi) hO (andF_lt n) hall hg1 hg2
  obtain ⟨G, hGe⟩ : ∃ G, G = grpM andF m gi (2 ^ n - 1) := ⟨_, rfl⟩
  rw [← hGe] at hG hgf
  have hB : ∀ s : Nat, s < 2 ^ 64 → PureFn Tryz.prog 97 [rowPV G, u64 s] (u64 (boxN n G s)) := fun s hs => rl_Box n G _ hn64 hgf.1 hgf.2 hs
  have f1 : ((12 : Int) == 1) = false := rfl
  have f2 : ((12 : Int) == 2) = false := rfl
  have f3 : ((12 : Int) == 3) = false := rfl
  have f4 : ((12 : Int) == 4) = false := rfl
  have f5 : ((12 : Int) == 5) = false := rfl
  have f6 : ((12 : Int) == 6) = false := rfl
  have f7 : ((12 : Int) == 7) = false := rfl
  have f8 : ((12 : Int) == 8) = false := rfl
  have f9 : ((12 : Int) == 9) = false := rfl
  have f10 : ((12 : Int) == 10) = false := rfl
  have f11 : ((12 : Int) == 11) = false := rfl
  have f12 : ((12 : Int) == 12) = true := rfl
  have f13 : ((12 : Int) == 13) = false := rfl
  have f16 : ((12 : Int) == 16) = false := rfl
  refine DC.weaken (DC.intro mixed (fn := Tryz.f59) rfl rfl rfl ?_)
  (try conv=>whnf);repeat' (first|(apply And.intro<;>try conv=>whnf)|(intro h;first|with_reducible exact tf h (by assumption)|with_reducible exact tf (by assumption) h|try conv=>whnf)|fail)
  refine ⟨.one 0 (.one 1 (.one 2 (.one 3 (.one 4 (.one 5 (.one 6 (.one 7 (.one 8 (.one 9 (.one 10 (.one 11 (.one 12 .done)))))))))))), [10], by kernel_rfl, ?_⟩
  (try conv=>whnf);repeat' (first|(refine hX rfl rfl rfl rfl rfl ?_;intro s1 es1 er1 p1;have q1 := lt64 hO p1;try conv=>whnf)|(refine ⟨rowPV G, ?_, rfl, ?_⟩;(focus ((try conv=>whnf);exact hG));try conv=>whnf)|(refine ⟨u64 (boxN n G s1), ?_, rfl, ?_⟩;(focus ((try conv=>whnf);exact hB _ q1));try conv=>whnf)|fail)
  all_goals
    refine ⟨.pv (u64 (boxN n G s1)), 3, H0 m acts c es1 er1, ?_, hK _ _ _ ?_⟩
    · (refine Wk.of ?_ ?_ rfl rfl rfl<;>repeat' (first|exact trivial|exact WkD.same _|exact WkO.same _ _ rfl|refine ⟨?_, ?_⟩|fail))
    · exact post1 hC.okl hO hx rfl rfl rfl rfl p1 (boxN_lt _ _ _) (by rw [hGe]; rfl)
theorem com_L {acts : List Act} {c : List Nd} {A F : Nat} {g : Int} {m : Mo} {n : Nat} {es : List (Nat × Nat)} {err : Int} (hM : ModD acts m n A F) (hg1 : 1 ≤ g) (hg2 : g < shl64 1 (m.rel.length : Int)) {x y : Nat} (hx : x < 2 ^ n) (hy : y < 2 ^ n)
    {M : Nat → Prop} {w0 : World} {L : DH} {K : DV → DH → Prop} (h0 : L.lo = 0) (hn : Nat.ble 3 L.next = true) (g0 : L.get 0 = some (.var [.pv (.int .i64 err)])) (g1 : L.get 1 = some (.var (evC m acts c))) (g2 : L.get 2 = some (.mp (setM es)))
    (hK : K (.pv (u64 (comN n (grpM orF m g 0) x y))) (L.merge ⟨3, 0, 3, objsOf (H0 m acts c es err)⟩ 3)) : DC Tryz.prog M w0 101 [.ref 1 0, .pv (.int .i64 g), .pv (u64 x), .pv (u64 y)] L K := by
  have hO := hM.okd.okm
  have hnn : m.n.toNat = n := by rw [hO.nn, Int.toNat_natCast]
  have hn64 := hO.n64
  have h64 := pow64_le hn64
  have hx64 : x < 2 ^ 64 := by omega
  have hy64 : y < 2 ^ 64 := by omega
  have hG := md_Group m n hO g
  have hgf := grp_facts (g := g) hO (orF_lt n) (Nat.two_pow_pos n) hg1 hg2
  refine DC.call 3 (H0 m acts c es err) ⟨g2.symm, g1.symm, g0.symm, trivial⟩ rfl hn (by rw [h0]; rfl) rfl fun M' => ?_
  rw [h0]
  generalize grpM orF m g 0 = r at hG hgf hK
  obtain ⟨hrl, hrb⟩ := hgf
  have hlt := comP_lt n r x y
  have hgd := getD_lt2 hrb
  refine DC.weaken (DC.intro mixed (fn := Tryz.f101) rfl rfl rfl ?_)
  (try conv=>whnf);repeat' (first|(refine PureFn.dcq (f := 99) rfl ?_;try conv=>whnf)|(refine ⟨_, _, hG, ?_, ?_⟩;(focus first|(refine ⟨?_, ?_, trivial⟩<;>first|exact PLe.refl _|exact PLe.nil)|exact trivial);try conv=>whnf)|fail)
  refine ⟨{ k : Nat // k ≤ n }, fun k => [(0, .ref 1 0), (2, .pv (u64 x)), (3, .pv (u64 y)), (9, .pv (rowPV r)), (10, .pv (u64 (comP n r x y k.1)))], fun _ => 3, fun _ => H0 m acts c es err, fun k => n - k.1, ⟨⟨0, Nat.zero_le _⟩, ?_⟩, ?_⟩
  · (refine Wk.of ?_ ?_ rfl rfl rfl<;>repeat' (first|exact trivial|exact WkD.same _|exact WkO.same _ _ rfl|refine WkD.int ?_|refine ⟨?_, ?_⟩|fail))
    exact congrArg (fun z : Nat => (((2 ^ z - 1 : Nat)) : Int)) hnn
  rintro ⟨k, hk⟩
  have hk1 := hlt k
  have hst := comP_stop (c := x) (s := y) hgd k
  have hcn := comP_comN (c := x) (s := y) (k := k) hrl hrb
  have hnx : comP n r x y (k + 1) = boxN n r (notN n x ||| (y &&& comP n r x y k)) := rfl
  have hB := rl_Box n r (notN n x ||| (y &&& comP n r x y k)) hn64 hrl hrb (Nat.or_lt_two_pow (Nat.lt_of_lt_of_le (notN_lt n x) h64) (Nat.and_lt_two_pow _ (by omega)))
  rw [← hnx] at hB
  have hlt2 := hlt (k + 1)
  have earg : u64 (notN n x ||| (y &&& comP n r x y k)) = .int .u64 (orU (andNotU ((2 ^ m.n.toNat - 1 : Nat) : Int) (x : Nat)) (andU (y : Nat) (comP n r x y k : Nat))) := by
    rw [hnn, andNotU_all hn64, andU_nat (by omega) (by omega), orU_nat (Nat.lt_of_lt_of_le (notN_lt n x) h64) (Nat.and_lt_two_pow _ (by omega))]; rfl
  rw [earg] at hB
  (try conv=>whnf);repeat' (first|(apply And.intro<;>try conv=>whnf)|(intro h;try conv=>whnf)|(refine PureFn.dcq (f := 97) rfl ?_;try conv=>whnf)|(refine ⟨_, _, hB, ?_, ?_⟩;(focus first|(refine ⟨?_, ?_, trivial⟩<;>first|exact PLe.refl _|exact PLe.nil)|exact trivial);try conv=>whnf)|fail)
  · have he : comP n r x y (k + 1) = comP n r x y k := by
      have : ((comP n r x y (k + 1) : Nat) : Int) = (comP n r x y k : Nat) := by simpa using h
      omega
    rw [← hcn he] at hK
    exact ⟨.pv (u64 (comP n r x y k)), 3, H0 m acts c es err, (by refine Wk.of ?_ ?_ rfl rfl rfl<;>repeat' (first|exact trivial|exact WkD.same _|exact WkO.same _ _ rfl|refine ⟨?_, ?_⟩|fail)), ⟨rfl, hK⟩⟩
  · have he : ¬ comP n r x y (k + 1) = comP n r x y k := fun e => by
      have : ¬ ((comP n r x y (k + 1) : Nat) : Int) = (comP n r x y k : Nat) := by simpa using h
      omega
    have hk2 : k + 1 ≤ n := by
      rcases hst with g | g
      · exact absurd g he
      · omega
    exact ⟨⟨k + 1, hk2⟩, by show n - (k + 1) < n - k; omega, (by refine Wk.of ?_ ?_ rfl rfl rfl<;>repeat' (first|exact trivial|exact WkD.same _|exact WkO.same _ _ rfl|refine ⟨?_, ?_⟩|fail))⟩
theorem val_13 {acts : List Act} {c : List Nd} {A F i : Nat} {fi ei gi xx yy : Int} (hC : CxD A F acts c) (hx : c[i]? = some ⟨13, fi, ei, gi, xx, yy⟩) (hat : ∀ j, j < i → ConE 36 (.pv (.int .i64 (j : Nat))) acts c A F j) :
    ConE 59 (.agg (Nd.dvs ⟨13, fi, ei, gi, xx, yy⟩)) acts c A F i := by
  intro m n es err hM hI hE M w0 base K hK
  have hO := hM.okd.okm
  have hnn : m.n.toNat = n := by rw [hO.nn, Int.toNat_natCast]
  have hn64 := hO.n64
  have h64 := pow64_le hn64
  have hall : 2 ^ n - 1 < 2 ^ n := by have := Nat.two_pow_pos n; omega
  have hnd := hC.okl i _ hx
  have hmem : (⟨13, fi, ei, gi, xx, yy⟩ : Nd) ∈ c := List.mem_iff_getElem?.2 ⟨i, hx⟩
  have hkx := hnd.x rfl
  simp only at hkx
  obtain ⟨X, ex⟩ : ∃ q : Nat, xx = q := ⟨xx.toNat, by omega⟩
  subst ex
  have hlx : X < i := by omega
  have hky := hnd.y rfl
  simp only at hky
  obtain ⟨Y, ey⟩ : ∃ q : Nat, yy = q := ⟨yy.toNat, by omega⟩
  subst ey
  have hly : Y < i := by omega
  have hX := fun {M w0 L K} => @con_L _ _ _ _ _ _ _ (hat X hlx) rfl m n es err hM hI hE M w0 L K
  have hY := fun {s1 es1 er1} (p1 : PostE acts c m n X err s1 es1 er1) {M w0 L K} => @con_L _ _ _ _ _ _ _ (hat Y hly) rfl m n es1 er1 hM p1.inv p1.er M w0 L K
  have hgr := hC.gr _ hmem (by first | exact .inl rfl | exact .inr (.inl rfl) | exact .inr (.inr rfl))
  simp only at hgr
  have hg1 := hgr.1
  have hg2 : gi < shl64 1 (m.rel.length : Int) := by rw [hM.ra]; exact hgr.2
  have f1 : ((13 : Int) == 1) = false := rfl
  have f2 : ((13 : Int) == 2) = false := rfl
  have f3 : ((13 : Int) == 3) = false := rfl
  have f4 : ((13 : Int) == 4) = false := rfl
  have f5 : ((13 : Int) == 5) = false := rfl
  have f6 : ((13 : Int) == 6) = false := rfl
  have f7 : ((13 : Int) == 7) = false := rfl
  have f8 : ((13 : Int) == 8) = false := rfl
  have f9 : ((13 : Int) == 9) = false := rfl
  have f10 : ((13 : Int) == 10) = false := rfl
  have f11 : ((13 : Int) == 11) = false := rfl
  have f12 : ((13 : Int) == 12) = false := rfl
  have f13 : ((13 : Int) == 13) = true := rfl
  have f16 : ((13 : Int) == 16) = false := rfl
  refine DC.weaken (DC.intro mixed (fn := Tryz.f59) rfl rfl rfl ?_)
  (try conv=>whnf);repeat' (first|(apply And.intro<;>try conv=>whnf)|(intro h;first|with_reducible exact tf h (by assumption)|with_reducible exact tf (by assumption) h|try conv=>whnf)|fail)
  refine ⟨.one 0 (.one 3 (.one 4 (.one 5 (.one 7 (.three 1 (.three 2 (.two 6 (.one 8 (.one 9 (.one 10 (.one 11 (.one 12 .done))))) 8 (.two 6 (.one 9 (.one 10 (.one 11 (.one 12 .done)))) 9 (.one 6 (.one 10 (.one 11 (.one 12 .done)))))) 6 (.one 8 (.one 9 (.two 2 (.one 10 (.one 11 (.one 12 .done))) 10 (.one 2 (.one 11 (.one 12 .done)))))) 8 (.three 2 (.two 6 (.one 9 (.one 10 (.one 11 (.one 12 .done)))) 9 (.one 6 (.one 10 (.one 11 (.one 12 .done))))) 6 (.one 9 (.two 2 (.one 10 (.one 11 (.one 12 .done))) 10 (.one 2 (.one 11 (.one 12 .done))))) 9 (.two 2 (.one 6 (.one 10 (.one 11 (.one 12 .done)))) 6 (.two 2 (.one 10 (.one 11 (.one 12 .done))) 10 (.one 2 (.one 11 (.one 12 .done))))))) 6 (.one 8 (.one 9 (.two 1 (.two 2 (.one 10 (.one 11 (.one 12 .done))) 10 (.one 2 (.one 11 (.one 12 .done)))) 10 (.one 1 (.one 2 (.one 11 (.one 12 .done))))))) 8 (.three 1 (.three 2 (.two 6 (.one 9 (.one 10 (.one 11 (.one 12 .done)))) 9 (.one 6 (.one 10 (.one 11 (.one 12 .done))))) 6 (.one 9 (.two 2 (.one 10 (.one 11 (.one 12 .done))) 10 (.one 2 (.one 11 (.one 12 .done))))) 9 (.two 2 (.one 6 (.one 10 (.one 11 (.one 12 .done)))) 6 (.two 2 (.one 10 (.one 11 (.one 12 .done))) 10 (.one 2 (.one 11 (.one 12 .done)))))) 6 (.one 9 (.two 1 (.two 2 (.one 10 (.one 11 (.one 12 .done))) 10 (.one 2 (.one 11 (.one 12 .done)))) 10 (.one 1 (.one 2 (.one 11 (.one 12 .done)))))) 9 (.two 1 (.two 2 (.one 6 (.one 10 (.one 11 (.one 12 .done)))) 6 (.two 2 (.one 10 (.one 11 (.one 12 .done))) 10 (.one 2 (.one 11 (.one 12 .done))))) 6 (.two 1 (.two 2 (.one 10 (.one 11 (.one 12 .done))) 10 (.one 2 (.one 11 (.one 12 .done)))) 10 (.one 1 (.one 2 (.one 11 (.one 12 .done)))))))))))), [6, 10, 11], by kernel_rfl, ?_⟩
  (try conv=>whnf);repeat' (first|(apply And.intro<;>try conv=>whnf)|(refine hX rfl rfl rfl rfl rfl ?_;intro s1 es1 er1 p1;have q1 := lt64 hO p1;try conv=>whnf)|(refine hY p1 rfl rfl rfl rfl rfl ?_;intro s2 es2 er2 p2;have q2 := lt64 hO p2;try conv=>whnf)|(refine com_L (es := es2) (err := er2) hM hg1 hg2 p1.lt p2.lt rfl rfl rfl rfl rfl ?_;try conv=>whnf)|fail)
  all_goals
    refine ⟨.pv (u64 (comN n (grpM orF m gi 0) s1 s2)), 3, H0 m acts c es2 er2, ?_, hK _ _ _ ?_⟩
    · (refine Wk.of ?_ ?_ rfl rfl rfl<;>repeat' (first|exact trivial|exact WkD.same _|exact WkO.same _ _ rfl|refine ⟨?_, ?_⟩|fail))
    · exact post2 hC.okl hO hx rfl rfl rfl rfl p1 p2 (comN_lt _ _ _ _) rfl
end Go.Proofs.YtlaolpkgabknfaaGreatDoor
set_option maxRecDepth 100000
set_option maxHeartbeats 16000000
namespace Go.Proofs.YtlaolpkgabknfaaGreatDoor
open Go Go.Dv

/-- What an announcement in a model comes to. -/
def annV (acts : List Act) (c : List Nd) (Y : Nat) (m : Mo) (n s : Nat) : Option Nat := bif s == 0 then some (2 ^ n - 1) else match dvT acts (tree c Y) (arrI m (memL s)) with
  | none => none
  | some u => some (sprG u (memL s) 0 (notN n s))
structure PostV (v : Option Nat) (n : Nat) (err : Int) (s : Nat) (err' : Int) : Prop where
  lt : s < 2 ^ n
  er : err' = 0 ∨ err' = 8
  ok : err' = 0 → err = 0 ∧ v = some s
  no : err' ≠ 0 → err ≠ 0 ∨ v = none
def evK (k : Nat) (m : Mo) (acts : List Act) (c : List Nd) : List DV := [.pv (.int .i64 m.n), .pv (.sl (m.val.map u64)), .pv (.sl (m.rel.map rowPV)), .pv (u64 (2 ^ m.n.toNat - 1)), .pv (actsPV acts), .pv (fpv c), .mp k, .ref 0 0]
def inPlan : Plan := .one 0 (.one 1 (.one 2 (.one 3 (.one 4 (.one 5 (.one 6 (.one 7 (.one 8 (.one 9 (.one 10 (.one 11 (.one 12 (.one 14 (.one 15 (.one 16 (.one 17 (.one 13 (.one 18 (.one 19 (.one 20 .done))))))))))))))))))))
theorem in_wrap {n : Nat} {k : Int} (h : k = n) (h1 : 1 ≤ n) (hn : n ≤ 64) : IntKind.wrap .i64 (64 - k) = (64 : Int) - n := by rw [h]; exact Go.Dv.wrap_small (by omega) (by omega)
theorem spr_step {acc u i w : Nat} (ha : acc < 2 ^ 64) (hu : u < 2 ^ 64) (hi : i < 64) (hw : w < 64) : orU (acc : Nat) (shlU (andU (shrU (u : Nat) (i : Nat)) 1) (w : Nat)) = ((acc ||| (bif u.testBit i then 2 ^ w else 0) : Nat) : Int) := by
  rw [bit_and u i hu hi]
  cases h : u.testBit i with
  | true =>
    rw [if_pos rfl, cond_true, show shlU 1 (w : Nat) = ((2 ^ w : Nat) : Int) from shlU_one hw, orU_nat ha (Nat.pow_lt_pow_right (by decide) hw)]
  | false =>
    rw [if_neg (by decide), cond_false, show shlU 0 (w : Nat) = ((0 : Nat) : Int) by show IntKind.wrap .u64 (0 * _) = 0; rw [Int.zero_mul]; rfl, orU_nat ha (by decide)]
/-- The evaluation in another model, its objects at other keys. -/
theorem at_R {acts : List Act} {c : List Nd} {A F j k e : Nat} (h : ConE 36 (.pv (.int .i64 (j : Nat))) acts c A F j) {m : Mo} {n : Nat} {err : Int} (hM : ModD acts m n A F) (hE : err = 0 ∨ err = 8)
    {M : Nat → Prop} {w0 : World} {L : DH} {K : DV → DH → Prop} (hne : nodR [0, e, k] = true) (hlt : ([0, e, k].all fun q => Nat.blt q L.next) = true) (h0 : L.lo = 0)
    (hag : agrR (objsOf (H0 m acts c [] err)) L.get [0, e, k] 3) (hks : DV.keyss (memR [0, e, k]) [.ref e 0, .pv (.int .i64 (j : Nat))] = true) (hre : DV.rens (sigR [0, e, k]) [.ref e 0, .pv (.int .i64 (j : Nat))] = [.ref 1 0, .pv (.int .i64 (j : Nat))])
    (hK : ∀ s es' err', PostE acts c m n j err s es' err' → K (.pv (u64 s)) (L.mergeR (rhoR [0, e, k]) (sigR [0, e, k]) (memR [0, e, k]) ⟨3, 0, 3, objsOf (H0 m acts c es' err')⟩)) : DC Tryz.prog M w0 36 [.ref e 0, .pv (.int .i64 (j : Nat))] L K := by
  refine DC.callR [0, e, k] (H0 m acts c [] err) hne hlt h0 hag rfl hks (by rw [hre]; rfl) fun M' => ?_
  rw [hre]
  exact h m n [] err hM (fun k s h => by cases h) hE M' w0 3 _ fun s es' err' hp => ⟨rfl, hK s es' err' hp⟩
theorem ann_dc {acts : List Act} {c : List Nd} {A F Y : Nat} (hat : ConE 36 (.pv (.int .i64 (Y : Nat))) acts c A F Y) {m : Mo} {n : Nat} {es : List (Nat × Nat)} {err : Int} (hM : ModD acts m n A F) (hE : err = 0 ∨ err = 8) {s : Nat} (hs : s < 2 ^ n)
    {M : Nat → Prop} {w0 : World} {base : Nat} {K : DV → DH → Prop} (hK : ∀ t err', PostV (annV acts c Y m n s) n err t err' → K (.pv (u64 t)) ⟨3, 0, base, objsOf (H0 m acts c es err')⟩) :
    DC Tryz.prog M w0 102 [.ref 1 0, .pv (u64 s), .pv (.int .i64 (Y : Nat))] ⟨3, 0, base, objsOf (H0 m acts c es err)⟩ K := by
  have hO := hM.okd.okm
  have hnn : m.n.toNat = n := by rw [hO.nn, Int.toNat_natCast]
  have hn64 := hO.n64
  have h64 := pow64_le hn64
  have hall : 2 ^ n - 1 < 2 ^ n := by have := Nat.two_pow_pos n; omega
  have hav0 : s = 0 → annV acts c Y m n s = some (2 ^ n - 1) := fun h => by rw [annV, h]; rfl
  have hav1 : s ≠ 0 → annV acts c Y m n s = match dvT acts (tree c Y) (arrI m (memL s)) with
      | none => none
      | some u => some (sprG u (memL s) 0 (notN n s)) := fun h => by
    rw [annV, show (s == 0) = false by simpa using h, cond_false]
  have hsI : ((s : Int) == 0) = decide (s = 0) := by
    by_cases h : s = 0
    · subst h; rfl
    · rw [decide_eq_false h]; simpa using h
  refine DC.weaken (DC.introC [4] mixed (fn := Tryz.f102) rfl rfl rfl ?_)
  (try conv=>whnf);repeat' (first|(apply And.intro<;>try conv=>whnf)|(intro h;try conv=>whnf)|fail)
  · rw [hsI] at h
    have hs0 := of_decide_eq_true h
    refine ⟨.pv (u64 (2 ^ n - 1)), 3, H0 m acts c es err, ?_, hK _ _ ⟨hall, hE, fun h => ⟨h, hav0 hs0⟩, fun h => .inl h⟩⟩
    (refine Wk.of ?_ ?_ rfl rfl rfl<;>repeat' (first|exact trivial|exact WkO.same _ _ rfl|refine WkD.int ?_|refine ⟨?_, ?_⟩|fail))
    exact congrArg (fun k => ((2 ^ k - 1 : Nat) : Int)) hnn
  rw [hsI] at h
  have hs0 : s ≠ 0 := of_decide_eq_false h
  clear h
  have hM1 := hM.okd.arr hs hs0
  obtain ⟨m1, em1⟩ : ∃ m1, m1 = arrI m (memL s) := ⟨_, rfl⟩
  obtain ⟨ws, ews⟩ : ∃ ws, ws = memL s := ⟨_, rfl⟩
  have hR := md_Restrict m n s hO hs hs0
  have hws : ∀ w, w ∈ ws → w < n := fun w hw => by rw [ews] at hw; exact bit_lt hs (memL_mem.1 hw).2
  have hav1 := hav1 hs0
  rw [← em1, ← ews] at hR hav1 hM1
  have hMD : ModD acts m1 ws.length A F := ⟨hM1, by rw [em1, ← hM.ra, arrI, List.length_map], by rw [em1, ← hM.rf, arrI, List.length_map]⟩
  have hl1 := hM1.okm.n1
  have hl64 := hM1.okm.n64
  have hn1 : m1.n.toNat = ws.length := by rw [hM1.okm.nn, Int.toNat_natCast]
  refine ⟨Unit, fun _ => [(0, .ref 1 0), (1, .pv (u64 s)), (2, .pv (.int .i64 (Y : Nat))), (7, .ref 3 0), (8, .pv (intsPV ws))], fun _ => 4, fun _ => H0 m acts c es err ++ [(3, .var (cellsM m1))], ?_, ?_⟩
  · (try conv=>whnf);repeat' (first|(refine PureFn.dcq (f := 44) rfl ?_;try conv=>whnf)|(refine ⟨_, _, hR, ?_, ?_⟩;(focus first|(refine ⟨?_, ?_, trivial⟩<;>first|exact PLe.refl _|exact PLe.nil)|exact trivial);try conv=>whnf)|fail)
    exact ⟨(), (by refine Wk.of ?_ ?_ rfl rfl rfl<;>repeat' (first|exact trivial|exact WkD.same _|exact WkO.same _ _ rfl|refine ⟨?_, ?_⟩|fail))⟩
  rintro ⟨⟩
  try conv=>whnf
  refine DC.weaken (DC.intro mixed (fn := Tryz.f35) rfl rfl rfl ?_)
  try conv=>whnf
  refine ⟨inPlan, [], by kernel_rfl, ?_⟩
  (try conv=>whnf);repeat' (first|(apply And.intro<;>try conv=>whnf)|fail)
  · show (0 : Int) ≤ IntKind.wrap .i64 (64 - m1.n)
    rw [in_wrap hM1.okm.nn hl1 hl64]; omega
  refine ⟨.ref 6 0, 7, H0 m acts c es err ++ [(5, .mp []), (6, .var (evK 5 m1 acts c))], ?_, ?_⟩
  · refine Wk.of ⟨WkD.same _, trivial⟩ ⟨WkO.same _ _ rfl, trivial, WkO.same _ _ rfl, trivial, WkO.same _ _ rfl, trivial, WkO.same _ _ rfl, trivial, WkO.vars rfl ⟨WkD.same _, WkD.same _, WkD.same _, WkD.int ?_, WkD.same _, WkD.same _, WkD.same _, WkD.same _, trivial⟩, trivial, trivial⟩ rfl rfl rfl
    show shrU 18446744073709551615 (IntKind.wrap .i64 (64 - m1.n)) = _
    rw [in_wrap hM1.okm.nn hl1 hl64, hn1]; exact shr_all hl1 hl64
  try conv=>whnf
  refine at_R (e := 6) (k := 5) hat hMD hE rfl rfl rfl ⟨⟨rfl, rfl⟩, ⟨rfl, rfl⟩, ⟨rfl, rfl⟩, trivial⟩ rfl rfl fun u es1 err1 p => ?_
  try conv=>whnf
  have hu : u < 2 ^ ws.length := p.lt
  have hu64 : u < 2 ^ 64 := Nat.lt_of_lt_of_le hu (pow64_le hl64)
  have hfin : PostV (annV acts c Y m n s) n err (sprG u ws 0 (notN n s)) err1 := by
    refine ⟨sprG_lt hws (notN_lt n s), p.er, fun h => ?_, fun h => ?_⟩
    · obtain ⟨h1, h2⟩ := p.ok h
      exact ⟨h1, by rw [hav1, h2]⟩
    · rcases p.no h with h1 | h1
      · exact .inl h1
      · exact .inr (by rw [hav1, h1])
  refine ⟨{ q : Nat × Nat // q.1 ≤ ws.length ∧ q.2 < 2 ^ n ∧ sprG u (ws.drop q.1) q.1 q.2 = sprG u ws 0 (notN n s) }, fun q => [(10, .pv (u64 u)), (11, .pv (u64 q.1.2)), (41, .pv (intsPV ws)), (42, .pv (i64 (ws.map i64).length)), (43, .pv (i64 q.1.1))], fun _ => 3, fun _ => H0 m acts c es err1, fun q => ws.length - q.1.1, ⟨⟨(0, notN n s), Nat.zero_le _, notN_lt n s, rfl⟩, ?_⟩, ?_⟩
  · refine Wk.of ⟨WkD.same _, WkD.int ?_, WkD.same _, WkD.same _, WkD.same _, trivial⟩ ⟨WkO.same _ _ rfl, trivial, WkO.same _ _ rfl, trivial, WkO.same _ _ rfl, trivial, trivial⟩ rfl rfl rfl
    rw [hnn]; exact andNotU_all hn64
  rintro ⟨⟨i, acc⟩, hi, ha, hd⟩
  simp only at hi ha hd
  have ha64 : acc < 2 ^ 64 := by omega
  (try conv=>whnf);repeat' (first|(apply And.intro<;>try conv=>whnf)|(intro h;try conv=>whnf)|(apply infoT;rfl)|fail)
  · have hi' : i < ws.length := by simpa using lt_dec h
    obtain ⟨w, hx, hxw⟩ : ∃ y, ws[i]? = some y ∧ ws.getD i 0 = y := ⟨_, getD_mem hi', rfl⟩
    have hwn := hws w (List.mem_iff_getElem?.2 ⟨_, hx⟩)
    have hst := spr_step (u := u) (i := i) (w := w) ha64 hu64 (by omega) (by omega)
    refine ⟨_, _, rfl, idx_map hx, rfl, ?_⟩
    (try conv=>whnf);repeat' (first|(apply And.intro<;>try conv=>whnf)|fail)
    · exact Int.natCast_nonneg _
    · exact Int.natCast_nonneg _
    · refine ⟨⟨(i + 1, acc ||| (bif u.testBit i then 2 ^ w else 0)), hi', Nat.or_lt_two_pow ha ?_, ?_⟩, by show ws.length - (i + 1) < ws.length - i; omega, ?_⟩
      · cases u.testBit i with
        | true => exact Nat.pow_lt_pow_right (by decide) hwn
        | false => exact Nat.two_pow_pos n
      · rw [← hd]; exact (sprG_drop hx).symm
      · (refine Wk.of ?_ ?_ rfl rfl rfl<;>repeat' (first|exact trivial|exact WkD.same _|exact WkO.same _ _ rfl|refine WkD.int ?_|refine ⟨?_, ?_⟩|(refine wrapA ?_ ?_ ?_;(focus simp;done);(focus (try dsimp only);omega);(focus (try dsimp only);omega))|fail))
        exact hst
  · have hi' : i = ws.length := by have := ge_dec (m := (ws.map i64).length) h (by simpa using hi); simpa using this
    rw [hi', List.drop_length] at hd
    have hd : acc = sprG u ws 0 (notN n s) := hd
    rw [← hd] at hfin
    exact ⟨.pv (u64 acc), 3, H0 m acts c es err1, (by refine Wk.of ?_ ?_ rfl rfl rfl<;>repeat' (first|exact trivial|exact WkD.same _|exact WkO.same _ _ rfl|refine ⟨?_, ?_⟩|fail)), hK _ _ hfin⟩
end Go.Proofs.YtlaolpkgabknfaaGreatDoor
set_option maxRecDepth 100000
set_option maxHeartbeats 16000000
namespace Go.Proofs.YtlaolpkgabknfaaGreatDoor
open Go Go.Dv

/-- What an event in a model comes to. -/
def evtV (acts : List Act) (c : List Nd) (X : Nat) (m : Mo) (n : Nat) (a : Act) (e : Nat) : Option Nat :=
  bif (holdsI m (a.pre.getD e [])).1 == 0 then some (2 ^ n - 1) else bif (updI m a).2.2 != 0 then none else match dvT acts (tree c X) (updI m a).1 with
  | none => none
  | some t => some (evG e t (updI m a).2.1 0 (2 ^ n - 1))
/-- An action model whose parts are not too long. -/
structure SmA (a : Act) : Prop where
  fit : Fit a
  rel : a.rel.length ≤ 1000
  post : ∀ l, l ∈ a.post → l.length ≤ 1000
def actDV (a : Act) : List DV := [.pv (.sl (a.pre.map fpv)), .pv (.sl (a.post.map postPV)), .pv (.sl (a.rel.map rowPV))]
theorem clr_step {acc w : Nat} (ha : acc < 2 ^ 64) (hw : w < 64) : andNotU (acc : Nat) (shlU 1 (w : Nat)) = ((clrN acc w : Nat) : Int) := by
  rw [show shlU 1 (w : Nat) = ((2 ^ w : Nat) : Int) from shlU_one hw, andNotU_eq ha]; rfl
theorem evb (c b : Bool) : (bif c then ((if b = true then (1 : Int) else 0) == 0) else false) = (bif c then !b else false) := by cases c <;> cases b <;> rfl
theorem upd_err {m : Mo} {n : Nat} {acts : List Act} {a : Act} (h : OkD acts m n) (ha : a ∈ acts) {e : Nat} (he : e < a.pre.length) (h0 : (holdsI m (a.pre.getD e [])).1 ≠ 0) : (updI m a).2.2 = 0 ∨ (updI m a).2.2 = 8 := by
  have hmo : moaI m a = 0 := by rw [moaI, ok_moI h.okm]; exact h.act a ha
  obtain ⟨h1, h2⟩ := pre_holds hmo he
  have hlt : (holdsI m (a.pre.getD e [])).1 < 2 ^ 64 := by
    rw [h1]
    exact Nat.lt_of_lt_of_le h2 (by rw [h.okm.nn, Int.toNat_natCast]; exact pow64_le h.okm.n64)
  obtain ⟨w, hw⟩ : ∃ w, (memL (holdsI m (a.pre.getD e [])).1)[0]? = some w := ⟨_, getD_mem (memL_pos h0 hlt) (d := 0)⟩
  have hb := (memL_mem.1 (List.mem_iff_getElem?.2 ⟨0, hw⟩)).2
  rw [h1] at hb
  have hm : (w, e) ∈ pairsL m a := pairsW_mem.2 ⟨bit_lt h2 hb, he, hb⟩
  have hl : ((pairsL m a).length : Int) ≠ 0 := by
    have := List.length_pos_of_mem hm
    omega
  have hw2 : worldsI m a = (pairsL m a, 0) := by
    rw [worldsI, hmo]
    show (bif ((pairsL m a).length : Int) == 0 then _ else _) = _
    rw [show (((pairsL m a).length : Int) == 0) = false by simpa using hl]; rfl
  rw [updI, hw2]
  show (bif decide (((pairsL m a).length : Int) > 64) then _ else _ : Mo × List (Nat × Nat) × Int).2.2 = 0 ∨ _
  cases decide (((pairsL m a).length : Int) > 64) with
  | true => exact .inr rfl
  | false => exact .inl rfl
theorem evt_dc {acts : List Act} {c : List Nd} {A F X e : Nat} {a : Act} (hS : ∀ a, a ∈ acts → SmA a) (ha : a ∈ acts) (he : e < a.pre.length) (hat : ConE 36 (.pv (.int .i64 (X : Nat))) acts c A F X) {m : Mo} {n : Nat} {es : List (Nat × Nat)} {err : Int} (hM : ModD acts m n A F) (hE : err = 0 ∨ err = 8)
    {M : Nat → Prop} {w0 : World} {base : Nat} {K : DV → DH → Prop} (hK : ∀ t err', PostV (evtV acts c X m n a e) n err t err' → K (.pv (u64 t)) ⟨3, 0, base, objsOf (H0 m acts c es err')⟩) :
    DC Tryz.prog M w0 103 [.ref 1 0, .agg (actDV a), .pv (.int .i64 (e : Nat)), .pv (.int .i64 (X : Nat))] ⟨3, 0, base, objsOf (H0 m acts c es err)⟩ K := by
  have hO := hM.okd.okm
  have hnn : m.n.toNat = n := by rw [hO.nn, Int.toNat_natCast]
  have hn64 := hO.n64
  have h64 := pow64_le hn64
  have hall : 2 ^ n - 1 < 2 ^ n := by have := Nat.two_pow_pos n; omega
  obtain ⟨pre, hx⟩ : ∃ pre, a.pre[e]? = some pre := ⟨_, getD_mem he (d := [])⟩
  have hpd : a.pre.getD e [] = pre := by rw [List.getD_eq_getElem?_getD, hx]; rfl
  have hH := ck_Holds m pre hO.fit
  have hU := pr_Update m a hO.fit (hS a ha).fit (hS a ha).rel (hS a ha).post
  obtain ⟨sp, ep, hsp⟩ : ∃ sp ep, holdsI m pre = (sp, ep) := ⟨_, _, rfl⟩
  obtain ⟨m1, ps, er, hup⟩ : ∃ m1 ps er, updI m a = (m1, ps, er) := ⟨_, _, _, rfl⟩
  have hav0 : sp = 0 → evtV acts c X m n a e = some (2 ^ n - 1) := fun h => by rw [evtV, hpd, hsp, h]; rfl
  have hav1 : sp ≠ 0 → er ≠ 0 → evtV acts c X m n a e = none := fun h h2 => by
    rw [evtV, hpd, hsp, show (((sp, ep) : Nat × Int).1 == 0) = false by simpa using h, cond_false, hup, show (((m1, ps, er) : Mo × List (Nat × Nat) × Int).2.2 != 0) = true by simpa using h2, cond_true]
  have hav2 : sp ≠ 0 → er = 0 → evtV acts c X m n a e = match dvT acts (tree c X) m1 with
      | none => none
      | some t => some (evG e t ps 0 (2 ^ n - 1)) := fun h h2 => by
    rw [evtV, hpd, hsp, show (((sp, ep) : Nat × Int).1 == 0) = false by simpa using h, cond_false, hup, h2]; rfl
  have her : sp ≠ 0 → er = 0 ∨ er = 8 := fun h => by
    have := upd_err hM.okd ha he (by rw [hpd, hsp]; exact h)
    rw [hup] at this; exact this
  have hMD : er = 0 → ModD acts m1 ps.length A F ∧ ∀ q, q ∈ ps → q.1 < n := fun h => by
    have h1 := hM.okd.upd (a := a) (by rw [hup]; exact h)
    obtain ⟨k1, k2, k3, k4, k5⟩ := updI_ok (m := m) (a := a) (by rw [hup]; exact h)
    rw [hup] at h1 k2 k3
    refine ⟨⟨h1.1, ?_, ?_⟩, h1.2⟩
    · rw [← hM.ra, show m1 = _ from k3, prodM, List.length_map, List.length_range]
    · rw [← hM.rf, show m1 = _ from k3, prodM, List.length_map, List.length_range]
  rw [hsp] at hH
  rw [hup] at hU
  have hsI : ((sp : Int) == 0) = decide (sp = 0) := by
    by_cases h : sp = 0
    · subst h; rfl
    · rw [decide_eq_false h]; simpa using h
  refine DC.weaken (DC.introC [2, 8] mixed (fn := Tryz.f103) rfl rfl rfl ?_)
  try conv=>whnf
  refine ⟨Unit, fun _ => [(0, .ref 1 0), (2, .pv (.int .i64 (e : Nat))), (3, .pv (.int .i64 (X : Nat))), (5, .ref 3 0), (9, .pv (u64 sp))], fun _ => 4, fun _ => H0 m acts c es err ++ [(3, .var (actDV a))], ?_, ?_⟩
  · (try conv=>whnf);repeat' (first|(apply And.intro<;>try conv=>whnf)|(apply infoT;rfl)|(refine lin_plan (by kernel_rfl) ?_;try conv=>whnf)|(refine ⟨_, _, rfl, idx_map (by with_reducible assumption), rfl, ?_⟩;try conv=>whnf)|(refine ⟨_, (by (conv=>whnf);exact hH), rfl, ?_⟩;try conv=>whnf)|fail)
    exact ⟨(), (by refine Wk.of ?_ ?_ rfl rfl rfl<;>repeat' (first|exact trivial|exact WkD.same _|exact WkO.same _ _ rfl|refine ⟨?_, ?_⟩|fail))⟩
  rintro ⟨⟩
  (try conv=>whnf);repeat' (first|(apply And.intro<;>try conv=>whnf)|(intro h;try conv=>whnf)|(refine lin_plan (by kernel_rfl) ?_;try conv=>whnf)|(refine ⟨_, (by (conv=>whnf);exact hU), rfl, ?_⟩;try conv=>whnf)|fail)
  · rw [hsI] at h
    have hs0 := of_decide_eq_true h
    refine ⟨.pv (u64 (2 ^ n - 1)), 3, H0 m acts c es err, ?_, hK _ _ ⟨hall, hE, fun h => ⟨h, hav0 hs0⟩, fun h => .inl h⟩⟩
    (refine Wk.of ?_ ?_ rfl rfl rfl<;>repeat' (first|exact trivial|exact WkO.same _ _ rfl|refine WkD.int ?_|refine ⟨?_, ?_⟩|fail))
    exact congrArg (fun k => ((2 ^ k - 1 : Nat) : Int)) hnn
  rw [hsI] at h
  have hs0 := of_decide_eq_false h
  clear h
  refine ⟨{ _x : Unit // sp ≠ 0 ∧ er = 0 }, fun _ => [(0, .ref 1 0), (2, .pv (.int .i64 (e : Nat))), (3, .pv (.int .i64 (X : Nat))), (11, .ref 4 0), (12, .pv (.sl (ps.map pairPV)))], fun _ => 5, fun _ => H0 m acts c es err ++ [(4, .var (cellsM m1))], ?_, ?_⟩
  · (try conv=>whnf);repeat' (first|(apply And.intro<;>try conv=>whnf)|(intro h;try conv=>whnf)|fail)
    · have he0 : er ≠ 0 := by simpa using h
      have he8 : er = 8 := by rcases her hs0 with h | h; exact absurd h he0; exact h
      subst he8
      refine ⟨.pv (u64 0), 3, H0 m acts c es 8, (by refine Wk.of ?_ ?_ rfl rfl rfl<;>repeat' (first|exact trivial|exact WkD.same _|exact WkO.same _ _ rfl|refine ⟨?_, ?_⟩|fail)), hK 0 8 ⟨Nat.two_pow_pos n, .inr rfl, fun h => absurd h (by decide), fun _ => .inr (hav1 hs0 (by decide))⟩⟩
    · have he0 : er = 0 := by simpa using h
      exact ⟨⟨(), hs0, he0⟩, (by refine Wk.of ?_ ?_ rfl rfl rfl<;>repeat' (first|exact trivial|exact WkD.same _|exact WkO.same _ _ rfl|refine ⟨?_, ?_⟩|fail))⟩
  rintro ⟨_, hs0, he0⟩
  obtain ⟨hMD, hws⟩ := hMD he0
  have hav2 := hav2 hs0 he0
  have hl1 := hMD.okd.okm.n1
  have hl64 := hMD.okd.okm.n64
  have hn1 : m1.n.toNat = ps.length := by rw [hMD.okd.okm.nn, Int.toNat_natCast]
  try conv=>whnf
  refine DC.weaken (DC.intro mixed (fn := Tryz.f35) rfl rfl rfl ?_)
  try conv=>whnf
  refine ⟨inPlan, [], by kernel_rfl, ?_⟩
  (try conv=>whnf);repeat' (first|(apply And.intro<;>try conv=>whnf)|fail)
  · show (0 : Int) ≤ IntKind.wrap .i64 (64 - m1.n)
    rw [in_wrap hMD.okd.okm.nn hl1 hl64]; omega
  refine ⟨.ref 7 0, 8, H0 m acts c es err ++ [(6, .mp []), (7, .var (evK 6 m1 acts c))], ?_, ?_⟩
  · refine Wk.of ⟨WkD.same _, trivial⟩ ⟨WkO.same _ _ rfl, trivial, WkO.same _ _ rfl, trivial, WkO.same _ _ rfl, trivial, WkO.same _ _ rfl, trivial, WkO.vars rfl ⟨WkD.same _, WkD.same _, WkD.same _, WkD.int ?_, WkD.same _, WkD.same _, WkD.same _, WkD.same _, trivial⟩, trivial, trivial⟩ rfl rfl rfl
    show shrU 18446744073709551615 (IntKind.wrap .i64 (64 - m1.n)) = _
    rw [in_wrap hMD.okd.okm.nn hl1 hl64, hn1]; exact shr_all hl1 hl64
  try conv=>whnf
  refine at_R (e := 7) (k := 6) hat hMD hE rfl rfl rfl ⟨⟨rfl, rfl⟩, ⟨rfl, rfl⟩, ⟨rfl, rfl⟩, trivial⟩ rfl rfl fun u es1 err1 p => ?_
  try conv=>whnf
  have hu : u < 2 ^ ps.length := p.lt
  have hu64 : u < 2 ^ 64 := Nat.lt_of_lt_of_le hu (pow64_le hl64)
  have hfin : PostV (evtV acts c X m n a e) n err (evG e u ps 0 (2 ^ n - 1)) err1 := by
    refine ⟨evG_lt hall, p.er, fun h => ?_, fun h => ?_⟩
    · obtain ⟨h1, h2⟩ := p.ok h
      exact ⟨h1, by rw [hav2, h2]⟩
    · rcases p.no h with h1 | h1
      · exact .inl h1
      · exact .inr (by rw [hav2, h1])
  refine ⟨{ q : Nat × Nat // q.1 ≤ ps.length ∧ q.2 < 2 ^ n ∧ evG e u (ps.drop q.1) q.1 q.2 = evG e u ps 0 (2 ^ n - 1) }, fun q => [(2, .pv (.int .i64 (e : Nat))), (14, .pv (u64 u)), (15, .pv (u64 q.1.2)), (64, .pv (.sl (ps.map pairPV))), (65, .pv (i64 (ps.map pairPV).length)), (66, .pv (i64 q.1.1))], fun _ => 3, fun _ => H0 m acts c es err1, fun q => ps.length - q.1.1, ⟨⟨(0, 2 ^ n - 1), Nat.zero_le _, hall, rfl⟩, ?_⟩, ?_⟩
  · refine Wk.of ⟨WkD.same _, WkD.same _, WkD.int ?_, WkD.same _, WkD.same _, WkD.same _, trivial⟩ ⟨WkO.same _ _ rfl, trivial, WkO.same _ _ rfl, trivial, WkO.same _ _ rfl, trivial, trivial⟩ rfl rfl rfl
    exact congrArg (fun k => ((2 ^ k - 1 : Nat) : Int)) hnn
  rintro ⟨⟨i, acc⟩, hi, hacc, hd⟩
  simp only at hi hacc hd
  have ha64 : acc < 2 ^ 64 := by omega
  (try conv=>whnf);repeat' (first|(apply And.intro<;>try conv=>whnf)|(intro h;try conv=>whnf)|(apply infoT;rfl)|fail)
  · have hi' : i < ps.length := by simpa using lt_dec h
    obtain ⟨q, hx, hxw⟩ : ∃ y, ps[i]? = some y ∧ ps.getD i (0, 0) = y := ⟨_, getD_mem hi', rfl⟩
    have hwn := hws q (List.mem_iff_getElem?.2 ⟨_, hx⟩)
    obtain ⟨w, d⟩ := q
    have hst := clr_step (acc := acc) (w := w) ha64 (by have : w < n := hwn; omega)
    have hba := bit_and u i hu64 (by omega)
    refine ⟨_, _, rfl, idx_map hx, rfl, ?_⟩
    (try conv=>whnf);repeat' (first|(apply And.intro<;>try conv=>whnf)|(intro h;try conv=>whnf)|apply True.intro|(apply WhenQ.mk;(try conv=>whnf);rotate_left;(try conv=>whnf);rotate_right)|with_reducible assumption|fail)
    · exact Int.natCast_nonneg _
    · exact Int.natCast_nonneg _
    · have h2 : (bif ((d : Int) == (e : Int)) then (andU (shrU (u : Nat) (i : Nat)) 1 == 0) else false) = true := h
      rw [hba, evb] at h2
      refine ⟨⟨(i + 1, clrN acc w), hi', clrN_lt hacc, ?_⟩, by show ps.length - (i + 1) < ps.length - i; omega, ?_⟩
      · rw [← hd, evG_drop hx]
        show _ = evG e u (ps.drop (i + 1)) (i + 1) (bif (bif ((d : Int) == (e : Int)) then !u.testBit i else false) then clrN acc w else acc)
        rw [h2]; rfl
      · (refine Wk.of ?_ ?_ rfl rfl rfl<;>repeat' (first|exact trivial|exact WkD.same _|exact WkO.same _ _ rfl|refine WkD.int ?_|refine ⟨?_, ?_⟩|(refine wrapA ?_ ?_ ?_;(focus simp;done);(focus (try dsimp only);omega);(focus (try dsimp only);omega))|fail))
        exact hst
    · have h2 : (bif ((d : Int) == (e : Int)) then (andU (shrU (u : Nat) (i : Nat)) 1 == 0) else false) = false := h
      rw [hba, evb] at h2
      refine ⟨⟨(i + 1, acc), hi', hacc, ?_⟩, by show ps.length - (i + 1) < ps.length - i; omega, (by refine Wk.of ?_ ?_ rfl rfl rfl<;>repeat' (first|exact trivial|exact WkD.same _|exact WkO.same _ _ rfl|refine WkD.int ?_|refine ⟨?_, ?_⟩|(refine wrapA ?_ ?_ ?_;(focus simp;done);(focus (try dsimp only);omega);(focus (try dsimp only);omega))|fail))⟩
      rw [← hd, evG_drop hx]
      show _ = evG e u (ps.drop (i + 1)) (i + 1) (bif (bif ((d : Int) == (e : Int)) then !u.testBit i else false) then clrN acc w else acc)
      rw [h2]; rfl
  · have hi' : i = ps.length := by have := ge_dec (m := (ps.map pairPV).length) h (by simpa using hi); simpa using this
    rw [hi', List.drop_length] at hd
    have hd : acc = evG e u ps 0 (2 ^ n - 1) := hd
    rw [← hd] at hfin
    exact ⟨.pv (u64 acc), 3, H0 m acts c es err1, (by refine Wk.of ?_ ?_ rfl rfl rfl<;>repeat' (first|exact trivial|exact WkD.same _|exact WkO.same _ _ rfl|refine ⟨?_, ?_⟩|fail)), hK _ _ hfin⟩
end Go.Proofs.YtlaolpkgabknfaaGreatDoor
set_option maxRecDepth 100000
set_option maxHeartbeats 4000000
namespace Go.Proofs.YtlaolpkgabknfaaGreatDoor
open Go Go.Dv

section
variable {acts : List Act} {m : Mo} {n : Nat} {a b g : Tr}
theorem dv_ann0 {i e k : Int} (h : dvT acts a m = some 0) : dvT acts (.nd 16 i e k a b) m = some (2 ^ m.n.toNat - 1) := by rw [dvT, h]; rfl
theorem dv_ann1 {i e k : Int} {s : Nat} (h : dvT acts a m = some s) (h0 : s ≠ 0) : dvT acts (.nd 16 i e k a b) m = match dvT acts b (arrI m (memL s)) with
    | none => none
    | some t => some (sprG t (memL s) 0 (notN m.n.toNat s)) := by
  have hb : (s == 0) = false := by simpa using h0
  rw [dvT, h]
  show (bif s == 0 then _ else _) = _
  rw [hb, cond_false]
  cases dvT acts b (arrI m (memL s)) <;> rfl
theorem dv_annN {i e k : Int} (h : dvT acts a m = none) : dvT acts (.nd 16 i e k a b) m = none := by rw [dvT, h]; rfl
theorem dv_st {op i e k : Int} (h16 : (op == 16) = false) (h17 : (op == 17) = false) : dvT acts (.nd op i e k a b) m = match dvT acts a m, dvT acts b m with
    | some x, some y => some (vlN m m.n.toNat op i k x y)
    | _, _ => none := by
  rw [dvT, h16, h17, cond_false, cond_false]
  cases dvT acts a m <;> cases dvT acts b m <;> rfl
theorem notN_bit {n s w : Nat} : (notN n s).testBit w = (decide (w < n) && !s.testBit w) := by rw [notN, maskOf_bit]
end
end Go.Proofs.YtlaolpkgabknfaaGreatDoor
