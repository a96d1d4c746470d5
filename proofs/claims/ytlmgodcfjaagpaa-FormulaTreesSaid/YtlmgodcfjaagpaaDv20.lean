/- The layer Dv, part 20: what a state may be taken for, at a call. -/
import Derived.Test.YtlmgodcfjaagpaaDv19
import Derived.IntWalk
namespace Go.Dv
open Go.RowKit (Below)
section
variable {P : Program} {M : Nat → Prop} {w0 : World}

theorem HR.rebase {μ : Nat → Loc} {L : DH} {w : World} (h : HR M w0 μ L w) {b : Nat} (hb : b ≤ L.next) : HR M w0 μ { L with base := b } w :=
  ⟨h.ext, h.mlt, h.keys, h.live, h.inj, fun k o hk => by
      have := h.obj k o hk
      cases o with
      | var cs =>
        obtain ⟨vs, ty, q1, q2, q3⟩ := this
        exact ⟨vs, ty, q1, q2, fun i d v hi hv => (q3 i d v hi hv).base b⟩
      | arr => exact this
      | fz => exact this
      | mp => exact this, hb, h.lob⟩

/-- Behind a call the state may be taken for a poorer one. -/
theorem DC.weaken {f : FuncId} {args : List DV} {L : DH} {K : DV → DH → Prop} (h : DC P M w0 f args L fun d L' => ∃ d' nx Hl, Wk (fun _ => d) { L' with base := L.next } [(0, d')] nx Hl ∧ K d' ⟨nx, L.lo, L.base, objsOf Hl⟩) : DC P M w0 f args L K := by
  refine DC.mk ⟨h.elim.1, fun μ w vs hr hu hrel => (h.elim.2 μ w vs hr hu hrel).mono ?_⟩
  rintro e w' ⟨v, he, μ', d, L', ⟨d', nx, Hl, hk, hK⟩, hr', hv, hdu, hs⟩
  have hrb := hr'.rebase (b := L.next) hs.next
  have hstp : Stp { L with base := L.next } μ w { L' with base := L.next } μ' w' := ⟨⟨hs.evo.var, hs.evo.mp, hs.evo.arr, hs.evo.fz⟩, hs.os, hs.tape, hs.output, hs.size, hs.same, hs.blk, hs.next, hs.lo, rfl⟩
  have h1 := hk.heap hrb
  have h2 := hk.rel hrb (hk.env (0, d') (by simp)) (hv.base L.next) hdu
  have h3 := hk.stp hrb hstp hk.base
  have hb : L.base ≤ nx := Nat.le_trans hr.base hk.base
  have e1 : ({ hOf { L' with base := L.next } nx Hl with base := L.base } : DH) = ⟨nx, L.lo, L.base, objsOf Hl⟩ := by
    simp only [hOf, hs.lo]
  have h4 := h1.rebase (b := L.base) hb
  have h5 := h2.base L.base
  rw [e1] at h4 h5
  refine ⟨v, he, newμ { L' with base := L.next } μ', d', _, hK, h4, h5, hk.under (0, d') (by simp), ?_⟩
  exact ⟨⟨h3.evo.var, h3.evo.mp, h3.evo.arr, h3.evo.fz⟩, hs.os, hs.tape, hs.output, hs.size, h3.same, h3.blk, h3.next, rfl, rfl⟩

def WkDs (L : DH) (Hl : List (Nat × DObj)) : List DV → List DV → Prop
  | [], [] => True
  | d :: r, d' :: r' => WkD L Hl d d' ∧ WkDs L Hl r r'
  | _, _ => False

theorem WkDs.get {L : DH} {Hl : List (Nat × DObj)} : ∀ {ds ds' : List DV}, WkDs L Hl ds ds' → ds.length = ds'.length ∧ ∀ (i : Nat) d d', ds[i]? = some d → ds'[i]? = some d' → WkD L Hl d d'
  | [], [], _ => ⟨rfl, fun i d d' h => by simp at h⟩
  | [], _ :: _, h => h.elim
  | _ :: _, [], h => h.elim
  | d :: ds, d' :: ds', h => by
    obtain ⟨q1, q2⟩ := WkDs.get h.2
    refine ⟨by simp [q1], fun i x y hx hy => ?_⟩
    cases i with
    | zero => simp at hx hy; subst hx; subst hy; exact h.1
    | succ i => exact q2 i x y (by simpa using hx) (by simpa using hy)
theorem WkO.vars {L : DH} {Hl : List (Nat × DObj)} {k : Nat} {cs cs' : List DV} (h : L.get k = some (.var cs)) (h2 : WkDs L Hl cs cs') : WkO L Hl k (.var cs') := .var k cs cs' h h2.get.1 h2.get.2
theorem WkD.new' {L : DH} {Hl : List (Nat × DObj)} {k n sz : Nat} (h1 : L.get k = none) (h2 : objsOf Hl k = some (.arr sz [])) (hn : n = 0) : WkD L Hl (.pv .nil) (.buf k n) := hn ▸ .new _ k sz (.inl rfl) h1 h2
theorem WkDs.rel {L : DH} {Hl : List (Nat × DObj)} {nx : Nat} {μ : Nat → Loc} {w : World} {E : Env} (hr : HR M w0 μ L w) (hk : Wk E L [] nx Hl) : ∀ {ds ds' : List DV} {vs : List Value}, WkDs L Hl ds ds' → DV.unders L.next ds = true → RelVs (Tot M μ L) w μ L ds vs →
    RelVs (Tot M (newμ L μ) (hOf L nx Hl)) w (newμ L μ) (hOf L nx Hl) ds' vs
  | [], [], vs, _, _, h => ⟨h.1, fun i d v hd _ => by simp at hd⟩
  | [], _ :: _, vs, h, _, _ => h.elim
  | _ :: _, [], vs, h, _, _ => h.elim
  | d :: ds, d' :: ds', [], _, _, h => by have := h.1; simp at this
  | d :: ds, d' :: ds', v :: vs, hd, hu, h => by
    simp only [DV.unders, Bool.and_eq_true] at hu
    have := WkDs.rel (vs := vs) hr hk hd.2 hu.2 ⟨by simpa using h.1, fun i p v hp hv => h.2 (i + 1) p v (by simpa using hp) (by simpa using hv)⟩
    refine ⟨by simp [this.1], fun i r u hr' hu' => ?_⟩
    cases i with
    | zero => simp at hr' hu'; subst hr'; subst hu'; exact hk.rel hr hd.1 (h.2 0 d v rfl rfl) hu.1
    | succ i => exact this.2 i r u (by simpa using hr') (by simpa using hu')

/-- Ahead of a call the state may be taken for a poorer one. -/
theorem DC.wkIn {f : FuncId} {args args' : List DV} {L : DH} {nx : Nat} {Hl : List (Nat × DObj)} {K : DV → DH → Prop} (h : DC P M w0 f args' ⟨nx, L.lo, L.base, objsOf Hl⟩ K) (hk : Wk (fun _ => .any) L [] nx Hl) (hnx : L.next ≤ nx)
    (hd : WkDs L Hl args args') (hu' : DV.unders nx args' = true) : DC P M w0 f args L K := by
  refine DC.mk ⟨h.elim.1, fun μ w vs hr hu hrel => ?_⟩
  refine (h.elim.2 (newμ L μ) w vs (hk.heap hr) hu' (hd.rel hr hk hu hrel)).mono ?_
  rintro e w' ⟨v, he, μ', d, L', hK, hr', hv, hdu, hs⟩
  have h0 := hk.stp hr (Stp.refl L μ w fun k o hk => (hr.keys k o hk).1) hnx
  exact ⟨v, he, μ', d, L', hK, hr', hv, hdu, h0.trans hs⟩

/-- A call of a function that only computes, told by its code at no heap at all; arguments that are functions, too. -/
theorem DC.alone {f : FuncId} {args : List DV} {L : DH} {K : DV → DH → Prop} {p : PV} (hu : DV.unders 0 args = true) (h : ∀ M w0, DC P M w0 f args noHeap fun d L' => frz d L' fun q _ => PLe q p) (hK : K p.dv L) : DC P M w0 f args L K := by
  refine DC.mk ⟨(h M w0).elim.1, fun μ w vs hr hun hrel => ?_⟩
  have hr0 : HR (Tot M μ L) w (fun _ => ⟨0, 0⟩) noHeap w := ⟨Below.refl _ _, fun b hb => Tot.lt hr hb, fun k o hk => (by cases hk), fun k o hk => (by cases hk), fun k o k' o' hk => (by cases hk), fun k o hk => (by cases hk), Nat.le_refl _, Nat.le_refl _⟩
  have hT : ∀ b, Tot (Tot M μ L) (fun _ => ⟨0, 0⟩) noHeap b → Tot M μ L b := fun b hb => by
    rcases hb with hb | ⟨k, o, hk, _⟩
    · exact hb
    · cases hk
  have hrel0 : RelVs (Tot (Tot M μ L) (fun _ => ⟨0, 0⟩) noHeap) w (fun _ => ⟨0, 0⟩) noHeap args vs :=
    ⟨hrel.1, fun i d v hd hv => (hrel.2 i d v hd hv).re (unders_iff.1 hu i d hd) hT fun k hk => by omega⟩
  refine ((h _ w).elim.2 _ w vs hr0 hu hrel0).mono ?_
  rintro e w' ⟨v, he, μ', d, L', hfr, hr', hv, hdu, hs⟩
  obtain ⟨q, L2, hq, hr2, _, h4⟩ := frz_rel d L' v _ hr' hv hdu hfr
  have hbl : Below w.heap.size w w' := ⟨hs.os, hs.tape, hs.output, hs.size, fun b hb => hs.same b hb fun ⟨k, o, _, hk, _⟩ => by cases hk⟩
  obtain ⟨hs2, hr3⟩ := hr.more hbl
  exact ⟨v, he, μ, p.dv, L, hK, hr3, dv_rel (hq.rel (h4.sub fun b hb => .inl hb)), dv_under _ _, hs2⟩

theorem PureFn.dcq {f : FuncId} {args : List DV} {L : DH} {K : DV → DH → Prop} (hcb : callable P f = true) (hk : frzs args L fun qs L' => ∃ ps p, PureFn P f ps p ∧ PLes qs ps ∧ K p.dv L') : DC P M w0 f args L K := by
  refine DC.mk ⟨hcb, fun μ w vs hr hu ⟨hl, hrel⟩ => ?_⟩
  obtain ⟨qs, L', ⟨ps, p, h, hle, hK⟩, hr', hs, hql, hqs⟩ := frzs_rel args L vs _ hr hl hrel hu hk
  refine (h.elim.2 (Tot M μ L') w vs (fun b hb => Tot.lt hr' hb) (hle.rel ⟨hql, hqs⟩)).mono ?_
  rintro e w' ⟨v, rfl, hv, hbl⟩
  obtain ⟨hs2, hr2⟩ := hr'.more hbl
  exact ⟨v, rfl, μ, p.dv, L', hK, hr2, dv_rel hv, dv_under _ _, hs.trans hs2⟩

theorem tf {X : Bool} {p : Prop} (h : X = true) (h2 : X = false) : p := by rw [h] at h2; cases h2
theorem tf0 {p : Prop} (h : true = false) : p := by cases h
theorem ft0 {p : Prop} (h : false = true) : p := by cases h
theorem nt0 {p : Prop} (h : (!true) = true) : p := by cases h
theorem nf0 {p : Prop} (h : (!false) = false) : p := by cases h
theorem infoT {P : Program} {t : TypeId} (h : infoB P t = true) : infoB P t = true := h
theorem bleI {a b : Nat} (h : Nat.ble a b = true) : Nat.ble a b = true := h
theorem fitI {P : Program} {t : TypeId} {p : PV} (h : fitT P t p = true) : fitT P t p = true := h
theorem cellsI {n : Nat} {l : List PV} (h : cellsAll n l = true) : cellsAll n l = true := h
theorem szI {P : Program} {t : TypeId} {d : DV} (h : d.cells.length = szOf P t) : d.cells.length = szOf P t := h
theorem not_of {b : Bool} (h : b = false) : (!b) = true := by rw [h]; rfl
theorem and_of {a b : Bool} (h1 : a = true) (h2 : b = true) : (a && b) = true := by rw [h1, h2]; rfl
theorem left_of {a b : Bool} (h : (a && b) = true) : a = true := by cases a <;> simp_all
theorem right_of {a b : Bool} (h : (a && b) = true) : b = true := by cases a <;> simp_all
theorem le_bool {a b : Bool} (h : a = b) : PLe (.bool a) (.bool b) := h ▸ .refl _
theorem le_int {k : IntKind} {a b : Int} (h : a = b) : PLe (.int k a) (.int k b) := h ▸ .refl _

/-! a poorer state, reckoned out -/
def wkE (e : Env) (L : DH) (H : List (Nat × DObj)) : List (Nat × DV) → Prop
  | [] => True
  | q :: r => WkD L H (e q.1) q.2 ∧ wkE e L H r
def wkH (L : DH) (H : List (Nat × DObj)) : List (Nat × DObj) → Prop
  | [] => True
  | q :: r => WkO L H q.1 q.2 ∧ (match L.get q.1 with | some _ => True | none => Nat.ble L.next q.1 = true) ∧ wkH L H r
def wkU (nx : Nat) (E : List (Nat × DV)) (H : List (Nat × DObj)) : Bool := (E.all fun q => q.2.under nx) && H.all fun q => Nat.blt q.1 nx && q.2.under nx

theorem Wk.of {e : Env} {L : DH} {E : List (Nat × DV)} {nx : Nat} {H : List (Nat × DObj)} (h1 : wkE e L H E) (h2 : wkH L H H) (h3 : wkU nx E H = true) (h4 : Nat.ble L.lo nx = true) (h5 : Nat.ble L.base nx = true) : Wk e L E nx H := by
  simp only [wkU, Bool.and_eq_true, List.all_eq_true] at h3
  have g1 : ∀ (l : List (Nat × DV)), wkE e L H l → ∀ q, q ∈ l → WkD L H (e q.1) q.2 := by
    intro l
    induction l with
    | nil => intro _ q hq; simp at hq
    | cons x r ih =>
      intro h q hq
      rcases List.mem_cons.1 hq with rfl | hq
      · exact h.1
      · exact ih h.2 q hq
  have g2 : ∀ (l : List (Nat × DObj)), wkH L H l → ∀ q, q ∈ l → WkO L H q.1 q.2 ∧ (L.get q.1 = none → L.next ≤ q.1) := by
    intro l
    induction l with
    | nil => intro _ q hq; simp at hq
    | cons x r ih =>
      intro h q hq
      rcases List.mem_cons.1 hq with rfl | hq
      · refine ⟨h.1, fun hn => ?_⟩
        have := h.2.1
        rw [hn] at this
        simpa using this
      · exact ih h.2.2 q hq
  exact ⟨fun q hq => g1 E h1 q hq, fun q hq => (g2 H h2 q hq).1, fun q hq => h3.1 q hq, fun q hq => h3.2 q hq, by simpa using h4, by simpa using h5, fun q hq => (g2 H h2 q hq).2⟩
theorem WkD.eq {L : DH} {H : List (Nat × DObj)} {d d' : DV} (h : d = d') : WkD L H d d' := h ▸ .same d
theorem WkD.int {L : DH} {H : List (Nat × DObj)} {k : IntKind} {a b : Int} (h : a = b) : WkD L H (.pv (.int k a)) (.pv (.int k b)) := h ▸ .same _
theorem wrap_small {n : Int} (h1 : -9223372036854775808 ≤ n) (h2 : n ≤ 9223372036854775807) : IntKind.wrap .i64 n = n := IntWalk.i64_in n ⟨h1, h2⟩

def agr (g g' : Nat → Option DObj) : Nat → Prop
  | 0 => True
  | n + 1 => g n = g' n ∧ agr g g' n
theorem agr_lt {g g' : Nat → Option DObj} : ∀ {n : Nat}, agr g g' n → ∀ k, k < n → g k = g' k
  | 0, _, k, h => by omega
  | n + 1, ha, k, h => by
    by_cases e : k = n
    · subst e; exact ha.1
    · exact agr_lt ha.2 k (by omega)

/-- A call at a heap whose keys below a number are listed. -/
theorem DC.call {f : FuncId} {args : List DV} {L : DH} {K : DV → DH → Prop} (n : Nat) (Hl : List (Nat × DObj)) (hag : agr (objsOf Hl) L.get n) (hu : wkU n [] Hl = true) (hnx : Nat.ble n L.next = true) (hlo : Nat.ble L.lo n = true) (hargs : DV.unders n args = true)
    (h : ∀ M, DC P M w0 f args ⟨n, L.lo, n, objsOf Hl⟩ fun d L' => L'.next = n ∧ K d (L.merge L' n)) : DC P M w0 f args L K := by
  simp only [wkU, List.all_nil, Bool.true_and, List.all_eq_true, Bool.and_eq_true] at hu
  refine DC.frame (H := ⟨n, L.lo, n, objsOf Hl⟩) (fun k hk => agr_lt hag k hk) (fun k hk => ?_) (by simpa using hnx) rfl (by simpa using hlo) (Nat.le_refl n) (fun k o hk => (hu _ (objsOf_mem hk)).2) hargs h
  cases hg : objsOf Hl k with
  | none => exact hg
  | some o =>
    have := (hu _ (objsOf_mem hg)).1
    have : k < n := by simpa using this
    simp only at hk
    omega
end
end Go.Dv
