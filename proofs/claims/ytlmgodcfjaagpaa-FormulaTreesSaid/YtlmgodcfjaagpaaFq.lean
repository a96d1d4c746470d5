/- Formulas: the canonical list depends on the tree alone (plain). -/
import Derived.Test.YtlmgodcfjaagpaaFo
namespace Go.Proofs.Ytlmgodcfjaagpaa
open Go Go.Dv

inductive Tr where
  | none
  | nd (op i e g : Int) (x y : Tr)
  deriving DecidableEq

/-- The tree of a node. -/
def trn (f : List Nd) : Nat → Nat → Tr
  | 0, _ => .none
  | n + 1, i => match f[i]? with
    | none => .none
    | some x => .nd x.op x.i x.e x.g (bif usesX x.op then trn f n x.x.toNat else .none) (bif usesY x.op then trn f n x.y.toNat else .none)
def tree (f : List Nd) (i : Nat) : Tr := trn f (i + 1) i
/-- The walk over a tree. -/
def finT : Tr → List Nd → Nat × List Nd
  | .none, out => (0, out)
  | .nd op i e g a b, out => putN (finT b (finT a out).2).2 ⟨op, i, e, g, ((finT a out).1 : Int), ((finT b (finT a out).2).1 : Int)⟩
def Tr.size : Tr → Nat
  | .none => 0
  | .nd _ _ _ _ a b => a.size + b.size + 1

theorem trn_fuel {f : List Nd} (hf : Okl f) : ∀ (n m i : Nat), i < n → i < m → trn f n i = trn f m i
  | 0, _, i, h, _ => by omega
  | _ + 1, 0, i, _, h => by omega
  | n + 1, m + 1, i, hn, hm => by
    simp only [trn]
    cases hx : f[i]? with
    | none => rfl
    | some x =>
      have ok := hf i x hx
      simp only
      have e1 : (bif usesX x.op then trn f n x.x.toNat else .none) = (bif usesX x.op then trn f m x.x.toNat else .none) := by
        cases hu : usesX x.op with
        | false => rfl
        | true => have := ok.x hu; exact trn_fuel hf n m x.x.toNat (by omega) (by omega)
      have e2 : (bif usesY x.op then trn f n x.y.toNat else .none) = (bif usesY x.op then trn f m x.y.toNat else .none) := by
        cases hu : usesY x.op with
        | false => rfl
        | true => have := ok.y hu; exact trn_fuel hf n m x.y.toNat (by omega) (by omega)
      rw [e1, e2]
theorem trn_succ {f : List Nd} {n i : Nat} {x : Nd} (hx : f[i]? = some x) : trn f (n + 1) i = .nd x.op x.i x.e x.g (bif usesX x.op then trn f n x.x.toNat else .none) (bif usesY x.op then trn f n x.y.toNat else .none) := by
  simp only [trn, hx]
theorem tree_nd {f : List Nd} (hf : Okl f) {i : Nat} {x : Nd} (hx : f[i]? = some x) :
    tree f i = .nd x.op x.i x.e x.g (bif usesX x.op then tree f x.x.toNat else .none) (bif usesY x.op then tree f x.y.toNat else .none) := by
  have ok := hf i x hx
  have e0 : tree f i = _ := trn_succ (n := i) hx
  rw [e0]
  unfold tree
  have e1 : (bif usesX x.op then trn f i x.x.toNat else .none) = (bif usesX x.op then trn f (x.x.toNat + 1) x.x.toNat else .none) := by
    cases hu : usesX x.op with
    | false => rfl
    | true => have := ok.x hu; exact trn_fuel hf _ _ _ (by omega) (by omega)
  have e2 : (bif usesY x.op then trn f i x.y.toNat else .none) = (bif usesY x.op then trn f (x.y.toNat + 1) x.y.toNat else .none) := by
    cases hu : usesY x.op with
    | false => rfl
    | true => have := ok.y hu; exact trn_fuel hf _ _ _ (by omega) (by omega)
  rw [e1, e2]
theorem trn_append (f t : List Nd) (hf : Okl f) : ∀ (n i : Nat), i < f.length → trn (f ++ t) n i = trn f n i
  | 0, _, _ => rfl
  | n + 1, i, hi => by
    simp only [trn]
    rw [List.getElem?_append_left hi, List.getElem?_eq_getElem hi]
    have ok := hf i _ (List.getElem?_eq_getElem hi)
    generalize f[i] = x at ok
    simp only
    have e1 : (bif usesX x.op then trn (f ++ t) n x.x.toNat else .none) = (bif usesX x.op then trn f n x.x.toNat else .none) := by
      cases hu : usesX x.op with
      | false => rfl
      | true => have := ok.x hu; exact trn_append f t hf n x.x.toNat (by omega)
    have e2 : (bif usesY x.op then trn (f ++ t) n x.y.toNat else .none) = (bif usesY x.op then trn f n x.y.toNat else .none) := by
      cases hu : usesY x.op with
      | false => rfl
      | true => have := ok.y hu; exact trn_append f t hf n x.y.toNat (by omega)
    rw [e1, e2]
theorem tree_append {f t : List Nd} (hf : Okl f) {i : Nat} (hi : i < f.length) : tree (f ++ t) i = tree f i := trn_append f t hf _ _ hi

theorem idx_none {x : Nd} : ∀ {out : List Nd} {i : Nat}, idx x out i = none ↔ x ∉ out
  | [], i => by simp [idx]
  | n :: r, i => by
    simp only [idx, List.mem_cons, not_or]
    by_cases e : n = x
    · rw [if_pos e]; subst e; simp
    · rw [if_neg e, idx_none]
      exact ⟨fun h => ⟨fun q => e q.symm, h⟩, fun h => h.2⟩
theorem idx_of {x : Nd} {out : List Nd} (hn : out.Nodup) {v : Nat} (hv : out[v]? = some x) : idx x out 0 = some v := by
  cases h : idx x out 0 with
  | none => exact absurd (List.mem_iff_getElem?.2 ⟨v, hv⟩) (idx_none.1 h)
  | some k =>
    have h2 := (idx_some h).2
    simp only [Nat.sub_zero] at h2
    obtain ⟨l1, e1⟩ := List.getElem?_eq_some_iff.1 h2
    obtain ⟨l2, e2⟩ := List.getElem?_eq_some_iff.1 hv
    rw [(List.getElem_inj hn).1 (e1.trans e2.symm)]
theorem putN_nodup {out : List Nd} {x : Nd} (hn : out.Nodup) : (putN out x).2.Nodup := by
  unfold putN
  cases h : idx x out 0 with
  | some k => exact hn
  | none =>
    have := idx_none.1 h
    simp only
    rw [List.nodup_append]
    refine ⟨hn, by simp, fun a ha b hb => ?_⟩
    simp at hb; subst hb
    intro e; subst e; exact this ha

/-- A tree that stands in a list already. -/
theorem finT_old {out : List Nd} (ho : Okl out) (hn : out.Nodup) : ∀ (t : Tr) (v : Nat), v < out.length → tree out v = t → finT t out = (v, out)
  | .none, v, hv, ht => by
    rw [tree_nd ho (List.getElem?_eq_getElem hv)] at ht
    cases ht
  | .nd op i e g a b, v, hv, ht => by
    have hx : out[v]? = some out[v] := List.getElem?_eq_getElem hv
    have ok := ho v _ hx
    rw [tree_nd ho hx] at ht
    generalize hxx : out[v] = x at hx ok ht
    simp only [Tr.nd.injEq] at ht
    obtain ⟨h1, h2, h3, h4, ha, hb⟩ := ht
    have fa : finT a out = (x.x.toNat, out) := by
      cases hu : usesX x.op with
      | false => rw [hu] at ha; subst ha; rw [ok.nox hu]; rfl
      | true =>
        rw [hu] at ha
        have := ok.x hu
        exact finT_old ho hn a x.x.toNat (by omega) ha
    have fb : finT b out = (x.y.toNat, out) := by
      cases hu : usesY x.op with
      | false => rw [hu] at hb; subst hb; rw [ok.noy hu]; rfl
      | true =>
        rw [hu] at hb
        have := ok.y hu
        exact finT_old ho hn b x.y.toNat (by omega) hb
    have hz : (⟨op, i, e, g, ((finT a out).1 : Int), ((finT b (finT a out).2).1 : Int)⟩ : Nd) = x := by
      rw [fa]; simp only; rw [fb]
      have p1 : 0 ≤ x.x := by cases hu : usesX x.op with
        | false => rw [ok.nox hu]; exact Int.le_refl 0
        | true => exact (ok.x hu).1
      have p2 : 0 ≤ x.y := by cases hu : usesY x.op with
        | false => rw [ok.noy hu]; exact Int.le_refl 0
        | true => exact (ok.y hu).1
      cases x
      simp only at h1 h2 h3 h4 p1 p2
      subst h1; subst h2; subst h3; subst h4
      simp only [Nd.mk.injEq, true_and]
      exact ⟨by omega, by omega⟩
    simp only [finT]
    rw [hz, fa]; simp only; rw [fb]; simp only
    rw [putN, idx_of hn hx]

structure InvT (f : List Nd) (s : List Nd × List (Nat × Nat)) : Prop where
  ok : Okl s.1
  nodup : s.1.Nodup
  ds : ∀ j v, look j s.2 = some v → v < s.1.length ∧ tree s.1 v = tree f j

structure FinTr (f : List Nd) (s t : List Nd × List (Nat × Nat)) (k : Nat) (T : Tr) : Prop where
  inv : InvT f t
  lt : k < t.1.length
  val : tree t.1 k = T
  ext : ∃ u, t.1 = s.1 ++ u
  eq : finT T s.1 = (k, t.1)

theorem fin_tree {f : List Nd} (hf : Okl f) : ∀ (n i : Nat) (s : List Nd × List (Nat × Nat)), i < n → i < f.length → InvT f s → FinTr f s (fin f n i s).2 (fin f n i s).1 (tree f i)
  | 0, i, s, h, _, _ => by omega
  | n + 1, i, s, hin, hif, hs => by
    cases hl : look i s.2 with
    | some k =>
      simp only [fin, hl]
      obtain ⟨h1, h2⟩ := hs.ds i k hl
      exact ⟨hs, h1, h2, ⟨[], by simp⟩, finT_old hs.ok hs.nodup _ k h1 h2⟩
    | none =>
      have hn : f[i]? = some f[i] := List.getElem?_eq_getElem hif
      generalize hx : f[i] = x at hn
      have hok := hf i x hn
      rw [fin_none hl hn, tree_nd hf hn]
      have hA : InvT f (opA f n x s).2 ∧ (usesX x.op = true → (opA f n x s).1 < (opA f n x s).2.1.length ∧ tree (opA f n x s).2.1 (opA f n x s).1 = tree f x.x.toNat) ∧ (∃ u, (opA f n x s).2.1 = s.1 ++ u) ∧
          finT (bif usesX x.op then tree f x.x.toNat else .none) s.1 = ((opA f n x s).1, (opA f n x s).2.1) := by
        unfold opA
        cases hu : usesX x.op with
        | false => exact ⟨hs, (fun h => by cases h), ⟨[], by simp⟩, rfl⟩
        | true =>
          have := hok.x hu
          have q := fin_tree hf n x.x.toNat s (by omega) (by omega) hs
          exact ⟨q.inv, fun _ => ⟨q.lt, q.val⟩, q.ext, q.eq⟩
      generalize opA f n x s = A at hA ⊢
      obtain ⟨a1, a2, ⟨ua, a3⟩, a4⟩ := hA
      have hB : InvT f (opB f n x A.2).2 ∧ (usesY x.op = true → (opB f n x A.2).1 < (opB f n x A.2).2.1.length ∧ tree (opB f n x A.2).2.1 (opB f n x A.2).1 = tree f x.y.toNat) ∧ (∃ u, (opB f n x A.2).2.1 = A.2.1 ++ u) ∧
          finT (bif usesY x.op then tree f x.y.toNat else .none) A.2.1 = ((opB f n x A.2).1, (opB f n x A.2).2.1) := by
        unfold opB
        cases hu : usesY x.op with
        | false => exact ⟨a1, (fun h => by cases h), ⟨[], by simp⟩, rfl⟩
        | true =>
          have := hok.y hu
          have q := fin_tree hf n x.y.toNat A.2 (by omega) (by omega) a1
          exact ⟨q.inv, fun _ => ⟨q.lt, q.val⟩, q.ext, q.eq⟩
      generalize opB f n x A.2 = B at hB ⊢
      obtain ⟨b1, b2, ⟨ub, b3⟩, b4⟩ := hB
      have hz : OkNd (ndZ x A.1 B.1) B.2.1.length := ndZ_ok hok (fun u => by have := (a2 u).1; rw [b3, List.length_append]; omega) (fun u => (b2 u).1)
      change FinTr f s ((putN B.2.1 (ndZ x A.1 B.1)).2, dput i (putN B.2.1 (ndZ x A.1 B.1)).1 B.2.2) (putN B.2.1 (ndZ x A.1 B.1)).1 _
      obtain ⟨p1, p2, t, p3, _⟩ := putN_spec B.2.1 (ndZ x A.1 B.1)
      have pok := putN_ok b1.ok hz
      have hval : tree (putN B.2.1 (ndZ x A.1 B.1)).2 (putN B.2.1 (ndZ x A.1 B.1)).1 = .nd x.op x.i x.e x.g (bif usesX x.op then tree f x.x.toNat else .none) (bif usesY x.op then tree f x.y.toNat else .none) := by
        rw [tree_nd pok p1, ndZ_op, ndZ_i, ndZ_e, ndZ_g, ndZ_x, ndZ_y]
        congr 1
        · cases hu : usesX x.op with
          | false => rfl
          | true =>
            have := a2 hu
            simp only [cond_true, Int.toNat_natCast]
            rw [p3, tree_append b1.ok (by rw [b3, List.length_append]; omega), b3, tree_append a1.ok this.1]
            exact this.2
        · cases hu : usesY x.op with
          | false => rfl
          | true =>
            have := b2 hu
            simp only [cond_true, Int.toNat_natCast]
            rw [p3, tree_append b1.ok this.1]
            exact this.2
      refine ⟨⟨pok, putN_nodup b1.nodup, fun j v hv => ?_⟩, p2, hval, ⟨ua ++ ub ++ t, by simp only; rw [p3, b3, a3]; simp [List.append_assoc]⟩, ?_⟩
      · simp only [look_dput] at hv
        by_cases e : j = i
        · rw [if_pos e] at hv; simp at hv; subst hv; subst e
          exact ⟨p2, by rw [tree_nd hf hn]; exact hval⟩
        · rw [if_neg e] at hv
          obtain ⟨g1, g2⟩ := b1.ds j v hv
          simp only
          refine ⟨by rw [p3, List.length_append]; omega, ?_⟩
          rw [p3, tree_append b1.ok g1]; exact g2
      · simp only [finT]
        rw [a4]; simp only; rw [b4]; simp only
        have e : (⟨x.op, x.i, x.e, x.g, (A.1 : Int), (B.1 : Int)⟩ : Nd) = ndZ x A.1 B.1 := by
          have q1 : usesX x.op = false → (A.1 : Int) = x.x := fun u => by
            rw [u] at a4
            have : A.1 = 0 := (congrArg Prod.fst a4).symm
            rw [this, hok.nox u]; rfl
          have q2 : usesY x.op = false → (B.1 : Int) = x.y := fun u => by
            rw [u] at b4
            have : B.1 = 0 := (congrArg Prod.fst b4).symm
            rw [this, hok.noy u]; rfl
          unfold ndZ ndB ndA
          cases u1 : usesX x.op <;> cases u2 : usesY x.op <;> cases x <;> simp_all
        rw [e]

theorem invT_nil (f : List Nd) : InvT f ([], []) := ⟨fun i x h => by simp at h, List.nodup_nil, fun j v h => by simp [look] at h⟩
/-- The canonical list is told by the tree. -/
theorem canon_tree {f : List Nd} (hf : Okl f) {i : Nat} (hi : i < f.length) : canon f i = (finT (tree f i) []).2 := by
  have q := fin_tree hf (i + 1) i ([], []) (by omega) hi (invT_nil f)
  rw [q.eq]; rfl
theorem canon_nodup {f : List Nd} (hf : Okl f) {i : Nat} (hi : i < f.length) : (canon f i).Nodup := (fin_tree hf (i + 1) i ([], []) (by omega) hi (invT_nil f)).inv.nodup

theorem opA_tree {f : List Nd} (hf : Okl f) {n i : Nat} {x : Nd} (hx : f[i]? = some x) (hin : i < n + 1) (hif : i < f.length) {s : List Nd × List (Nat × Nat)} (hs : InvT f s) :
    InvT f (opA f n x s).2 ∧ (usesX x.op = true → FinTr f s (opA f n x s).2 (opA f n x s).1 (tree f x.x.toNat)) ∧ ∃ u, (opA f n x s).2.1 = s.1 ++ u := by
  have hok := hf i x hx
  unfold opA
  cases hu : usesX x.op with
  | false => exact ⟨hs, (fun h => by cases h), ⟨[], by simp⟩⟩
  | true =>
    have := hok.x hu
    have q := fin_tree hf n x.x.toNat s (by omega) (by omega) hs
    exact ⟨q.inv, fun _ => q, q.ext⟩
theorem opB_tree {f : List Nd} (hf : Okl f) {n i : Nat} {x : Nd} (hx : f[i]? = some x) (hin : i < n + 1) (hif : i < f.length) {s : List Nd × List (Nat × Nat)} (hs : InvT f s) :
    InvT f (opB f n x s).2 ∧ (usesY x.op = true → FinTr f s (opB f n x s).2 (opB f n x s).1 (tree f x.y.toNat)) ∧ ∃ u, (opB f n x s).2.1 = s.1 ++ u := by
  have hok := hf i x hx
  unfold opB
  cases hu : usesY x.op with
  | false => exact ⟨hs, (fun h => by cases h), ⟨[], by simp⟩⟩
  | true =>
    have := hok.y hu
    have q := fin_tree hf n x.y.toNat s (by omega) (by omega) hs
    exact ⟨q.inv, fun _ => q, q.ext⟩

/-- New nodes' trees are no greater than the root's; what stands ahead of the root's node is less. -/
theorem fin_size {f : List Nd} (hf : Okl f) : ∀ (n i : Nat) (s : List Nd × List (Nat × Nat)), i < n → i < f.length → InvT f s →
    ∀ v, s.1.length ≤ v → v < (fin f n i s).2.1.length → (tree (fin f n i s).2.1 v).size ≤ (tree f i).size ∧ (v ≠ (fin f n i s).1 → (tree (fin f n i s).2.1 v).size < (tree f i).size)
  | 0, i, s, h, _, _ => by omega
  | n + 1, i, s, hin, hif, hs => by
    intro v hv1 hv2
    have q := fin_tree hf (n + 1) i s hin hif hs
    cases hl : look i s.2 with
    | some k => simp only [fin, hl] at hv2; omega
    | none =>
      have hn : f[i]? = some f[i] := List.getElem?_eq_getElem hif
      generalize hx : f[i] = x at hn
      have hok := hf i x hn
      have hsz : (tree f i).size = (bif usesX x.op then tree f x.x.toNat else .none).size + (bif usesY x.op then tree f x.y.toNat else .none).size + 1 := by rw [tree_nd hf hn]; rfl
      obtain ⟨a1, a2, ua, a3⟩ := opA_tree hf hn hin hif hs
      obtain ⟨b1, b2, ub, b3⟩ := opB_tree hf hn hin hif a1
      have sA : ∀ v, s.1.length ≤ v → v < (opA f n x s).2.1.length → (tree (opA f n x s).2.1 v).size < (tree f i).size := by
        intro v h1 h2
        cases hu : usesX x.op with
        | false => rw [opA, hu] at h2; simp only [cond_false] at h2; omega
        | true =>
          have := hok.x hu
          have e : opA f n x s = fin f n x.x.toNat s := by rw [opA, hu]; rfl
          rw [e] at h2 ⊢
          have := (fin_size hf n x.x.toNat s (by omega) (by omega) hs v h1 h2).1
          rw [hsz, hu]; simp only [cond_true]; omega
      have sB : ∀ v, (opA f n x s).2.1.length ≤ v → v < (opB f n x (opA f n x s).2).2.1.length → (tree (opB f n x (opA f n x s).2).2.1 v).size < (tree f i).size := by
        intro v h1 h2
        cases hu : usesY x.op with
        | false => rw [opB, hu] at h2; simp only [cond_false] at h2; omega
        | true =>
          have := hok.y hu
          have e : opB f n x (opA f n x s).2 = fin f n x.y.toNat (opA f n x s).2 := by rw [opB, hu]; rfl
          rw [e] at h2 ⊢
          have := (fin_size hf n x.y.toNat (opA f n x s).2 (by omega) (by omega) a1 v h1 h2).1
          rw [hsz, hu]; simp only [cond_true]; omega
      have hval := q.val
      have hok' := q.inv.ok
      rw [fin_none hl hn] at hv2 hval hok' ⊢
      generalize opA f n x s = A at *
      generalize opB f n x A.2 = B at *
      obtain ⟨p1, p2, t, p3, p4⟩ := putN_spec B.2.1 (ndB x.op (ndA x A.1) B.1)
      simp only at hv2 hval hok' ⊢
      rcases Nat.lt_or_ge v B.2.1.length with hlt | hge
      · have e : tree (putN B.2.1 (ndB x.op (ndA x A.1) B.1)).2 v = tree B.2.1 v := by rw [p3, tree_append b1.ok hlt]
        rw [e]
        have : (tree B.2.1 v).size < (tree f i).size := by
          rcases Nat.lt_or_ge v A.2.1.length with h1 | h1
          · rw [b3, tree_append a1.ok h1]; exact sA v hv1 h1
          · exact sB v h1 hlt
        exact ⟨by omega, fun _ => this⟩
      · have hvk : v = (putN B.2.1 (ndB x.op (ndA x A.1) B.1)).1 := by
          unfold putN at hv2 ⊢
          cases h : idx (ndB x.op (ndA x A.1) B.1) B.2.1 0 with
          | some k => rw [h] at hv2; simp only at hv2; omega
          | none => rw [h] at hv2; simp at hv2; simp only; omega
        rw [hvk, hval]
        exact ⟨Nat.le_refl _, fun h => absurd rfl h⟩
theorem kid_size {f : List Nd} (hf : Okl f) {n i : Nat} {x : Nd} (hn : f[i]? = some x) (hin : i < n + 1) (hif : i < f.length) {s : List Nd × List (Nat × Nat)} (hs : InvT f s) :
    ∀ v, s.1.length ≤ v → v < (opB f n x (opA f n x s).2).2.1.length → (tree (opB f n x (opA f n x s).2).2.1 v).size < (tree f i).size := by
  have hok := hf i x hn
  have hsz : (tree f i).size = (bif usesX x.op then tree f x.x.toNat else .none).size + (bif usesY x.op then tree f x.y.toNat else .none).size + 1 := by rw [tree_nd hf hn]; rfl
  obtain ⟨a1, a2, ua, a3⟩ := opA_tree hf hn hin hif hs
  obtain ⟨b1, b2, ub, b3⟩ := opB_tree hf hn hin hif a1
  intro v hv1 hlt
  rcases Nat.lt_or_ge v (opA f n x s).2.1.length with h1 | h1
  · rw [b3, tree_append a1.ok h1]
    cases hu : usesX x.op with
    | false => rw [opA, hu] at h1; simp only [cond_false] at h1; omega
    | true =>
      have := hok.x hu
      have e : opA f n x s = fin f n x.x.toNat s := by rw [opA, hu]; rfl
      rw [e] at h1 ⊢
      have := (fin_size hf n x.x.toNat s (by omega) (by omega) hs v hv1 h1).1
      rw [hsz, hu]; simp only [cond_true]; omega
  · cases hu : usesY x.op with
    | false => rw [opB, hu] at hlt; simp only [cond_false] at hlt; omega
    | true =>
      have := hok.y hu
      have e : opB f n x (opA f n x s).2 = fin f n x.y.toNat (opA f n x s).2 := by rw [opB, hu]; rfl
      rw [e] at hlt ⊢
      have := (fin_size hf n x.y.toNat (opA f n x s).2 (by omega) (by omega) a1 v h1 hlt).1
      rw [hsz, hu]; simp only [cond_true]; omega
/-- The root stands last. -/
theorem canon_root {f : List Nd} (hf : Okl f) {i : Nat} (hi : i < f.length) : (canon f i).length ≠ 0 ∧ tree (canon f i) ((canon f i).length - 1) = tree f i := by
  have q := fin_tree hf (i + 1) i ([], []) (by omega) hi (invT_nil f)
  have hs := fin_size hf (i + 1) i ([], []) (by omega) hi (invT_nil f)
  have hlt := q.lt
  have hval := q.val
  have hok := q.inv.ok
  refine ⟨by unfold canon; omega, ?_⟩
  -- the root's number is the last one: what stands behind it would be less
  have hlast : (fin f (i + 1) i ([], [])).1 = (canon f i).length - 1 := by
    have hn : f[i]? = some f[i] := List.getElem?_eq_getElem hi
    generalize hx : f[i] = x at hn
    obtain ⟨a1, _, _⟩ := opA_tree hf hn (by omega) hi (invT_nil f) (n := i)
    obtain ⟨b1, _, _⟩ := opB_tree hf hn (by omega) hi a1 (n := i)
    have hkid := kid_size hf hn (by omega) hi (invT_nil f) (n := i)
    unfold canon
    rw [fin_none (f := f) (n := i) (s := ([], [])) rfl hn] at hval ⊢
    simp only at hval ⊢
    generalize opA f i x ([], []) = A at *
    generalize opB f i x A.2 = B at *
    obtain ⟨p1, p2, t, p3, _⟩ := putN_spec B.2.1 (ndB x.op (ndA x A.1) B.1)
    cases h : idx (ndB x.op (ndA x A.1) B.1) B.2.1 0 with
    | none => unfold putN; rw [h]; simp
    | some k =>
      exfalso
      have hp : putN B.2.1 (ndB x.op (ndA x A.1) B.1) = (k, B.2.1) := by unfold putN; rw [h]
      rw [hp] at hval p2
      simp only at hval p2
      have := hkid k (Nat.zero_le _) p2
      rw [hval] at this
      omega
  unfold canon at hlast ⊢
  rw [← hlast]; exact hval
end Go.Proofs.Ytlmgodcfjaagpaa
