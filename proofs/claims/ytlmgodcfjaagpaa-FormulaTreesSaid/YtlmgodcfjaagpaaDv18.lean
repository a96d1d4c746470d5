/- The layer Dv, part 18: functions that only compute. -/
import Derived.Test.YtlmgodcfjaagpaaDv15
namespace Go.Dv
open Go.RowKit (Below)
section
variable {P : Program}

def noHeap : DH := ⟨0, 0, 0, fun _ => none⟩

theorem RelPs.dv {T : Nat → Prop} {w : World} {μ : Nat → Loc} {L : DH} {ps : List PV} {vs : List Value} (h : RelPs T w ps vs) : RelVs T w μ L (ps.map PV.dv) vs := by
  refine ⟨by simp [h.1], fun i d v hd hv => ?_⟩
  simp only [List.getElem?_map] at hd
  cases hp : ps[i]? with
  | none => simp [hp] at hd
  | some p => simp [hp] at hd; subst hd; exact dv_rel (h.2 i p v hp hv)

theorem unders_dv (n : Nat) (ps : List PV) : DV.unders n (ps.map PV.dv) = true := by
  rw [unders_mem]
  intro d hd
  obtain ⟨p, _, rfl⟩ := List.mem_map.1 hd
  exact dv_under n p

/-- A nil slice may be taken for an empty one. -/
inductive PLe : PV → PV → Prop where
  | refl (p : PV) : PLe p p
  | nil : PLe .nil (.sl [])
  | agg (l l' : List PV) : l.length = l'.length → (∀ (i : Nat) p q, l[i]? = some p → l'[i]? = some q → PLe p q) → PLe (.agg l) (.agg l')
  | tup (l l' : List PV) : l.length = l'.length → (∀ (i : Nat) p q, l[i]? = some p → l'[i]? = some q → PLe p q) → PLe (.tup l) (.tup l')
def PLes : List PV → List PV → Prop
  | [], [] => True
  | p :: ps, q :: qs => PLe p q ∧ PLes ps qs
  | _, _ => False

theorem PLe.rel {T : Nat → Prop} {w : World} {p q : PV} (h : PLe p q) : ∀ {v : Value}, RelP T w p v → RelP T w q v := by
  induction h with
  | refl p => exact fun h => h
  | nil => intro v h; cases h; exact .e0 none 0
  | agg l l' hl _ ih =>
    intro v h
    cases h with
    | agg _ vs h1 h2 =>
      refine .agg l' vs (by rw [← hl, h1]) fun i q v hq hv => ?_
      have hi : i < l.length := by rw [hl]; exact getE_lt hq
      exact ih i _ q (List.getElem?_eq_getElem hi) hq (h2 i _ v (List.getElem?_eq_getElem hi) hv)
  | tup l l' hl _ ih =>
    intro v h
    cases h with
    | tup _ vs h1 h2 =>
      refine .tup l' vs (by rw [← hl, h1]) fun i q v hq hv => ?_
      have hi : i < l.length := by rw [hl]; exact getE_lt hq
      exact ih i _ q (List.getElem?_eq_getElem hi) hq (h2 i _ v (List.getElem?_eq_getElem hi) hv)
theorem PLes.rel {T : Nat → Prop} {w : World} : ∀ {ps qs : List PV} {vs : List Value}, PLes ps qs → RelPs T w ps vs → RelPs T w qs vs
  | [], [], vs, _, h => h
  | [], _ :: _, vs, h, _ => h.elim
  | _ :: _, [], vs, h, _ => h.elim
  | p :: ps, q :: qs, [], _, h => by have := h.1; simp at this
  | p :: ps, q :: qs, v :: vs, hle, h => by
    have := PLes.rel (vs := vs) hle.2 ⟨by simpa using h.1, fun i p v hp hv => h.2 (i + 1) p v (by simpa using hp) (by simpa using hv)⟩
    refine ⟨by simp [this.1], fun i r u hr hu => ?_⟩
    cases i with
    | zero => simp at hr hu; subst hr; subst hu; exact hle.1.rel (h.2 0 p v rfl rfl)
    | succ i => exact this.2 i r u (by simpa using hr) (by simpa using hu)
theorem PLes.refl : ∀ (ps : List PV), PLes ps ps
  | [] => trivial
  | p :: ps => ⟨.refl p, PLes.refl ps⟩

theorem PureFn.le {f : FuncId} {ps qs : List PV} {p : PV} (h : PureFn P f qs p) (hle : PLes ps qs) : PureFn P f ps p :=
  PureFn.mk ⟨h.elim.1, fun M w vs hM hrel => h.elim.2 M w vs hM (hle.rel hrel)⟩

mutual
theorem brw_mono : ∀ (d : DV) (L : DH) (K K' : PV → Prop), (∀ p, K p → K' p) → brw d L K → brw d L K'
  | .pv p, L, K, K' => fun hk h => hk _ h
  | .e0, L, K, K' => fun hk h => hk _ h
  | .buf k n, L, K, K' => fun hk h => by
    simp only [brw] at h ⊢
    split at h
    · exact ⟨h.1, hk _ h.2⟩
    · exact ⟨h.1, hk _ h.2⟩
    · exact h.elim
  | .agg l, L, K, K' => fun hk h => by
    simp only [brw] at h ⊢
    exact brws_mono l L _ _ (fun _ h => hk _ h) h
  | .tup l, L, K, K' => fun hk h => by
    simp only [brw] at h ⊢
    exact brws_mono l L _ _ (fun _ h => hk _ h) h
  | .ref _ _, _, _, _ => fun _ h => by simp [brw] at h
  | .aref _ _ _ _, _, _, _ => fun _ h => by simp [brw] at h
  | .eptr _ _, _, _, _ => fun _ h => by simp [brw] at h
  | .mp _, _, _, _ => fun _ h => by simp [brw] at h
  | .clo _ _ _, _, _, _ => fun _ h => by simp [brw] at h
  | .fnv _, _, _, _ => fun _ h => by simp [brw] at h
  | .when _ _, _, _, _ => fun _ h => by simp [brw] at h
  | .raw _, _, _, _ => fun _ h => by simp [brw] at h
  | .any, _, _, _ => fun _ h => by simp [brw] at h
theorem brws_mono : ∀ (l : List DV) (L : DH) (K K' : List PV → Prop), (∀ p, K p → K' p) → brws l L K → brws l L K'
  | [], L, K, K' => fun hk h => hk _ h
  | d :: r, L, K, K' => fun hk h => by
    simp only [brws] at h ⊢
    exact brw_mono d L _ _ (fun p h => brws_mono r L _ _ (fun _ h => hk _ h) h) h
end

/-- A function only computes, if its code says so. -/
theorem PureFn.introC (C : List Nat) (hm : P.follows .mixedOrders = true) {f : FuncId} {fn : Func} {c : Code} {ps : List PV} {p : PV} (hf : P.funcs[f]? = some fn) (hb : fn.body = some c) (hc : callable P f = true)
    (h : ∀ (M : Nat → Prop) (w0 : World), vc P M w0 fn.ntmps C 0 0 c (retQ P fn fun d L' => frz d { L' with base := 0 } (fun q _ => PLe q p)) (argEnv (ps.map PV.dv) 0) noHeap) : PureFn P f ps p := by
  refine PureFn.mk ⟨hc, fun M w vs hM hrel => ?_⟩
  have hdc : DC P M w f (ps.map PV.dv) noHeap (fun d L' => frz d L' (fun q _ => PLe q p)) := DC.introC (L := noHeap) C hm hf hb hc (h M w)
  have hr : HR M w (fun _ => ⟨0, 0⟩) noHeap w := ⟨Below.refl _ _, hM, fun k o hk => (by cases hk), fun k o hk => (by cases hk), fun k o k' o' hk => (by cases hk), fun k o hk => (by cases hk), Nat.le_refl _, Nat.le_refl _⟩
  have hT : ∀ b, Tot M (fun _ => ⟨0, 0⟩) noHeap b → M b := fun b hb => by
    rcases hb with hb | ⟨k, o, hk, _⟩
    · exact hb
    · cases hk
  have hrel' : RelPs (Tot M (fun _ => ⟨0, 0⟩) noHeap) w ps vs := ⟨hrel.1, fun i p v hp hv => (hrel.2 i p v hp hv).sub hT⟩
  refine (hdc.elim.2 _ w vs hr (unders_dv _ ps) hrel'.dv).mono ?_
  rintro e w' ⟨v, he, μ', d, L', hK, hr', hv, hu, hs⟩
  refine ⟨v, he, ?_, ⟨hs.os, hs.tape, hs.output, hs.size, fun b hb => hs.same b hb ?_⟩⟩
  · obtain ⟨q, L2, hq, hr2, _, h4⟩ := frz_rel d L' v _ hr' hv hu hK
    exact hq.rel (h4.sub fun b hb => .inl hb)
  · rintro ⟨k, o, _, hk, _⟩
    cases hk

theorem PureFn.intro (hm : P.follows .mixedOrders = true) {f : FuncId} {fn : Func} {c : Code} {ps : List PV} {p : PV} (hf : P.funcs[f]? = some fn) (hb : fn.body = some c) (hc : callable P f = true)
    (h : ∀ (M : Nat → Prop) (w0 : World), vc P M w0 fn.ntmps [] 0 0 c (retQ P fn fun d L' => frz d { L' with base := 0 } (fun q _ => PLe q p)) (argEnv (ps.map PV.dv) 0) noHeap) : PureFn P f ps p := PureFn.introC [] hm hf hb hc h

/-- A call of such a function: what the arguments hold is frozen. -/
theorem PureFn.dc {M : Nat → Prop} {w0 : World} {f : FuncId} {args : List DV} {L : DH} {K : DV → DH → Prop} {ps : List PV} {p : PV} (h : PureFn P f ps p) (hk : frzs args L fun qs L' => PLes qs ps ∧ K p.dv L') : DC P M w0 f args L K := by
  refine DC.mk ⟨h.elim.1, fun μ w vs hr hu ⟨hl, hrel⟩ => ?_⟩
  obtain ⟨qs, L', ⟨hle, hK⟩, hr', hs, hql, hqs⟩ := frzs_rel args L vs _ hr hl hrel hu hk
  refine (h.elim.2 (Tot M μ L') w vs (fun b hb => Tot.lt hr' hb) (hle.rel ⟨hql, hqs⟩)).mono ?_
  rintro e w' ⟨v, rfl, hv, hbl⟩
  obtain ⟨hs2, hr2⟩ := hr'.more hbl
  exact ⟨v, rfl, μ, p.dv, L', hK, hr2, dv_rel hv, dv_under _ _, hs.trans hs2⟩

/-- Arrays of the call's own that the arguments hold may be written again behind it, if nothing of them can be in what it yields. -/
theorem PureFn.dcb {M : Nat → Prop} {w0 : World} {f : FuncId} {args : List DV} {L : DH} {K : DV → DH → Prop} {ps : List PV} {p : PV} (h : PureFn P f ps p) (hf : p.flat = true) (hk : brws args L fun qs => PLes qs ps) (hK : K p.dv L) : DC P M w0 f args L K := by
  refine DCD.dc h.elim.1 ⟨p, ?_, by simp [hf], hK⟩
  exact brws_mono args L _ _ (fun qs e => h.le e) hk
end
end Go.Dv
