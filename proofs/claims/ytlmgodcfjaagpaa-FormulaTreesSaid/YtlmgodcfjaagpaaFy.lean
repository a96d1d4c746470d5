/- Formulas: the order of formulas is linear; subformulas are no greater (plain). -/
import Derived.Test.YtlmgodcfjaagpaaFw
namespace Go.Proofs.Ytlmgodcfjaagpaa
open Go Go.Dv

/-- A linear order, told by numbers. -/
structure Ordr {α : Type} (c : α → α → Int) : Prop where
  vals : ∀ a b, c a b = -1 ∨ c a b = 0 ∨ c a b = 1
  anti : ∀ a b, c b a = - c a b
  eq : ∀ a b, c a b = 0 ↔ a = b
  lt : ∀ a b d, c a b = -1 → c b d = -1 → c a d = -1

theorem cmpI_cases (a b : Int) : (a < b ∧ cmpI a b = -1) ∨ (a = b ∧ cmpI a b = 0) ∨ (b < a ∧ cmpI a b = 1) := by
  unfold cmpI
  by_cases h1 : a < b
  · left; exact ⟨h1, by rw [decide_eq_true h1]; rfl⟩
  · by_cases h2 : a > b
    · right; right; exact ⟨h2, by rw [decide_eq_false h1, decide_eq_true h2]; rfl⟩
    · right; left; exact ⟨by omega, by rw [decide_eq_false h1, decide_eq_false h2]; rfl⟩
theorem ordI : Ordr cmpI := by
  constructor
  · intro a b; have := cmpI_cases a b; omega
  · intro a b; have := cmpI_cases a b; have := cmpI_cases b a; omega
  · intro a b; have := cmpI_cases a b; omega
  · intro a b d; have := cmpI_cases a b; have := cmpI_cases b d; have := cmpI_cases a d; omega

def lexI : List Int → List Int → Int
  | [], [] => 0
  | [], _ :: _ => -1
  | _ :: _, [] => 1
  | a :: r, b :: s => bif cmpI a b != 0 then cmpI a b else lexI r s
theorem lexI_ne {a b : Int} {r s : List Int} (h : a ≠ b) : lexI (a :: r) (b :: s) = cmpI a b := by
  have : (cmpI a b != 0) = true := by simpa [ordI.eq] using h
  rw [lexI, this]; rfl
theorem lexI_eq {a : Int} {r s : List Int} : lexI (a :: r) (a :: s) = lexI r s := by
  have : (cmpI a a != 0) = false := by simp [(ordI.eq a a).2 rfl]
  rw [lexI, this]; rfl
theorem ordL : Ordr lexI := by
  constructor
  · intro a
    induction a with
    | nil => intro b; cases b <;> simp [lexI]
    | cons x r ih =>
      intro b
      cases b with
      | nil => simp [lexI]
      | cons y s =>
        by_cases h : x = y
        · subst h; rw [lexI_eq]; exact ih s
        · rw [lexI_ne h]; exact ordI.vals x y
  · intro a
    induction a with
    | nil => intro b; cases b <;> simp [lexI]
    | cons x r ih =>
      intro b
      cases b with
      | nil => simp [lexI]
      | cons y s =>
        by_cases h : x = y
        · subst h; rw [lexI_eq, lexI_eq]; exact ih s
        · rw [lexI_ne h, lexI_ne (Ne.symm h)]; exact ordI.anti x y
  · intro a
    induction a with
    | nil => intro b; cases b <;> simp [lexI]
    | cons x r ih =>
      intro b
      cases b with
      | nil => simp [lexI]
      | cons y s =>
        by_cases h : x = y
        · subst h; rw [lexI_eq, ih s]; simp
        · rw [lexI_ne h, ordI.eq]; simp [h]
  · intro a
    induction a with
    | nil =>
      intro b d h1 h2
      cases b with
      | nil => simp [lexI] at h1
      | cons y s =>
        cases d with
        | nil => simp [lexI] at h2
        | cons z t => simp [lexI]
    | cons x r ih =>
      intro b d h1 h2
      cases b with
      | nil => simp [lexI] at h1
      | cons y s =>
        cases d with
        | nil => simp [lexI] at h2
        | cons z t =>
          by_cases h : x = y
          · subst h
            rw [lexI_eq] at h1
            by_cases g : x = z
            · subst g; rw [lexI_eq] at h2 ⊢; exact ih s t h1 h2
            · rw [lexI_ne g] at h2 ⊢; exact h2
          · rw [lexI_ne h] at h1
            by_cases g : y = z
            · subst g; rw [lexI_ne h]; exact h1
            · rw [lexI_ne g] at h2
              have := ordI.lt x y z h1 h2
              rw [lexI_ne (by intro e; subst e; rw [(ordI.eq x x).2 rfl] at this; simp at this)]; exact this
/-- The fields of all nodes. -/
def flat : List Nd → List Int
  | [] => []
  | n :: r => flds n ++ flat r
theorem lexI_flds (a b : Nd) (R S : List Int) : lexI (flds a ++ R) (flds b ++ S) = bif cmpNd a b != 0 then cmpNd a b else lexI R S := by
  simp only [flds, List.cons_append, List.nil_append, cmpNd]
  by_cases h1 : a.op = b.op
  · rw [h1, lexI_eq]
    by_cases h2 : a.i = b.i
    · rw [h2, lexI_eq]
      by_cases h3 : a.e = b.e
      · rw [h3, lexI_eq]
        by_cases h4 : a.g = b.g
        · rw [h4, lexI_eq]
          by_cases h5 : a.x = b.x
          · rw [h5, lexI_eq]
            by_cases h6 : a.y = b.y
            · rw [h6, lexI_eq]
              simp [orL, (ordI.eq _ _).2 rfl]
            · rw [lexI_ne h6]
              have : (cmpI a.y b.y != 0) = true := by simpa [ordI.eq] using h6
              simp [orL, (ordI.eq _ _).2 rfl, this]
          · rw [lexI_ne h5]
            have : (cmpI a.x b.x != 0) = true := by simpa [ordI.eq] using h5
            simp [orL, (ordI.eq _ _).2 rfl, this]
        · rw [lexI_ne h4]
          have : (cmpI a.g b.g != 0) = true := by simpa [ordI.eq] using h4
          simp [orL, (ordI.eq _ _).2 rfl, this]
      · rw [lexI_ne h3]
        have : (cmpI a.e b.e != 0) = true := by simpa [ordI.eq] using h3
        simp [orL, (ordI.eq _ _).2 rfl, this]
    · rw [lexI_ne h2]
      have : (cmpI a.i b.i != 0) = true := by simpa [ordI.eq] using h2
      simp [orL, (ordI.eq _ _).2 rfl, this]
  · rw [lexI_ne h1]
    have : (cmpI a.op b.op != 0) = true := by simpa [ordI.eq] using h1
    simp [orL, this]
theorem lexL_flat : ∀ (c d : List Nd), lexL c d = lexI (flat c) (flat d)
  | [], [] => rfl
  | [], _ :: _ => rfl
  | _ :: _, [] => rfl
  | a :: r, b :: s => by rw [flat, flat, lexI_flds, lexL, lexL_flat r s]
theorem flat_inj : ∀ {c d : List Nd}, flat c = flat d → c = d
  | [], [], _ => rfl
  | [], b :: s, h => by simp [flat, flds] at h
  | a :: r, [], h => by simp [flat, flds] at h
  | a :: r, b :: s, h => by
    simp only [flat, flds, List.cons_append, List.nil_append, List.cons.injEq] at h
    obtain ⟨h1, h2, h3, h4, h5, h6, h7⟩ := h
    have := flat_inj h7
    subst this
    cases a; cases b
    simp only at h1 h2 h3 h4 h5 h6
    subst h1; subst h2; subst h3; subst h4; subst h5; subst h6; rfl
theorem cmpL_key (c d : List Nd) : cmpL c d = lexI ((c.length : Int) :: flat c) ((d.length : Int) :: flat d) := by
  rw [cmpL]
  by_cases h : (c.length : Int) = d.length
  · rw [h, lexI_eq, ← lexL_flat]
    simp only [orL, (ordI.eq _ _).2 rfl]
    cases hb : (lexL c d != 0) with
    | true => simp
    | false => simp at hb; simp [hb]
  · have : (cmpI (c.length : Int) d.length != 0) = true := by simpa [ordI.eq] using h
    rw [lexI_ne h]; simp only [orL, this, cond_true]
theorem ordC : Ordr cmpL := by
  constructor
  · intro a b; rw [cmpL_key]; exact ordL.vals _ _
  · intro a b; rw [cmpL_key, cmpL_key]; exact ordL.anti _ _
  · intro a b; rw [cmpL_key, ordL.eq]
    constructor
    · intro h; exact flat_inj (List.cons.inj h).2
    · intro h; rw [h]
  · intro a b d h1 h2; rw [cmpL_key] at *; exact ordL.lt _ _ _ h1 h2

/-- What the law asks of three values. -/
def ordOk (x y z w v : Int) : Bool :=
  bif bif bif bif w != 0 - x then true else v != 0 then true else bif bif decide (x ≤ 0) then decide (y ≤ 0) else false then z != min x y else false then true else bif bif decide (x ≥ 0) then decide (y ≥ 0) else false then z != max x y else false then false else true
theorem Ordr.le {α : Type} {c : α → α → Int} (h : Ordr c) (a b d : α) : (c a b ≤ 0 → c b d ≤ 0 → c a d = min (c a b) (c b d)) ∧ (c a b ≥ 0 → c b d ≥ 0 → c a d = max (c a b) (c b d)) := by
  have v1 := h.vals a b
  have v2 := h.vals b d
  have v3 := h.vals a d
  by_cases e1 : a = b
  · subst e1
    rw [(h.eq a a).2 rfl]
    constructor <;> intro _ _ <;> omega
  · by_cases e2 : b = d
    · subst e2
      rw [(h.eq b b).2 rfl]
      constructor <;> intro _ _ <;> omega
    · have n1 : c a b ≠ 0 := fun e => e1 ((h.eq a b).1 e)
      have n2 : c b d ≠ 0 := fun e => e2 ((h.eq b d).1 e)
      constructor
      · intro p q
        have := h.lt a b d (by omega) (by omega)
        omega
      · intro p q
        have a1 := h.anti a b
        have a2 := h.anti b d
        have a3 := h.anti a d
        have := h.lt d b a (by omega) (by omega)
        omega

/-! every node but the last is used -/
def Used (out : List Nd) (v : Nat) : Prop := ∃ (j : Nat) (x : Nd), out[j]? = some x ∧ (usesX x.op = true ∧ x.x = (v : Int) ∨ usesY x.op = true ∧ x.y = (v : Int))
theorem Used.app {out : List Nd} {v : Nat} (h : Used out v) (t : List Nd) : Used (out ++ t) v := by
  obtain ⟨j, x, h1, h2⟩ := h
  exact ⟨j, x, by rw [List.getElem?_append_left (List.getElem?_eq_some_iff.1 h1).1]; exact h1, h2⟩
theorem fin_app {f : List Nd} (hf : Okl f) {n i : Nat} {s : List Nd × List (Nat × Nat)} (hi : i < n) (hif : i < f.length) (hs : InvT f s) : ∃ u, (fin f n i s).2.1 = s.1 ++ u := (fin_tree hf n i s hi hif hs).ext
theorem fin_used {f : List Nd} (hf : Okl f) : ∀ (n i : Nat) (s : List Nd × List (Nat × Nat)), i < n → i < f.length → InvT f s →
    ∀ v, s.1.length ≤ v → v < (fin f n i s).2.1.length → v ≠ (fin f n i s).1 → Used (fin f n i s).2.1 v
  | 0, i, s, h, _, _ => by omega
  | n + 1, i, s, hin, hif, hs => by
    intro v hv1 hv2 hv3
    cases hl : look i s.2 with
    | some k => simp only [fin, hl] at hv2; omega
    | none =>
      have hn : f[i]? = some f[i] := List.getElem?_eq_getElem hif
      generalize hx : f[i] = x at hn
      have hok := hf i x hn
      obtain ⟨a1, a2, ua, a3⟩ := opA_tree hf hn hin hif hs
      obtain ⟨b1, b2, ub, b3⟩ := opB_tree hf hn hin hif a1
      have sA : ∀ v, s.1.length ≤ v → v < (opA f n x s).2.1.length → Used (opA f n x s).2.1 v ∨ (usesX x.op = true ∧ v = (opA f n x s).1) := by
        intro v h1 h2
        cases hu : usesX x.op with
        | false => rw [opA, hu] at h2; simp only [cond_false] at h2; omega
        | true =>
          have := hok.x hu
          have e : opA f n x s = fin f n x.x.toNat s := by rw [opA, hu]; rfl
          rw [e] at h2 ⊢
          by_cases q : v = (fin f n x.x.toNat s).1
          · exact .inr ⟨rfl, q⟩
          · exact .inl (fin_used hf n x.x.toNat s (by omega) (by omega) hs v h1 h2 q)
      have sB : ∀ v, (opA f n x s).2.1.length ≤ v → v < (opB f n x (opA f n x s).2).2.1.length → Used (opB f n x (opA f n x s).2).2.1 v ∨ (usesY x.op = true ∧ v = (opB f n x (opA f n x s).2).1) := by
        intro v h1 h2
        cases hu : usesY x.op with
        | false => rw [opB, hu] at h2; simp only [cond_false] at h2; omega
        | true =>
          have := hok.y hu
          have e : opB f n x (opA f n x s).2 = fin f n x.y.toNat (opA f n x s).2 := by rw [opB, hu]; rfl
          rw [e] at h2 ⊢
          by_cases q : v = (fin f n x.y.toNat (opA f n x s).2).1
          · exact .inr ⟨rfl, q⟩
          · exact .inl (fin_used hf n x.y.toNat (opA f n x s).2 (by omega) (by omega) a1 v h1 h2 q)
      rw [fin_none hl hn] at hv2 hv3 ⊢
      generalize opA f n x s = A at *
      generalize opB f n x A.2 = B at *
      have hzx : usesX x.op = true → (ndB x.op (ndA x A.1) B.1).x = (A.1 : Int) := fun u => by have := ndZ_x x A.1 B.1; rw [u] at this; exact this
      have hzy : usesY x.op = true → (ndB x.op (ndA x A.1) B.1).y = (B.1 : Int) := fun u => by have := ndZ_y x A.1 B.1; rw [u] at this; exact this
      have hzo : (ndB x.op (ndA x A.1) B.1).op = x.op := ndZ_op x A.1 B.1
      obtain ⟨p1, p2, t, p3, p4⟩ := putN_spec B.2.1 (ndB x.op (ndA x A.1) B.1)
      simp only at hv2 hv3 ⊢
      have hlt : v < B.2.1.length := by
        rcases Nat.lt_or_ge v B.2.1.length with h | h
        · exact h
        · exfalso
          unfold putN at hv2 hv3
          cases hh : idx (ndB x.op (ndA x A.1) B.1) B.2.1 0 with
          | some k => rw [hh] at hv2; simp only at hv2; omega
          | none => rw [hh] at hv2 hv3; simp at hv2 hv3; omega
      rcases Nat.lt_or_ge v A.2.1.length with h1 | h1
      · rcases sA v hv1 h1 with h | ⟨h, e⟩
        · rw [p3, b3]; exact (h.app ub).app t
        · exact ⟨_, _, p1, .inl ⟨by rw [hzo]; exact h, by rw [hzx h, e]⟩⟩
      · rcases sB v h1 hlt with h | ⟨h, e⟩
        · rw [p3]; exact h.app t
        · exact ⟨_, _, p1, .inr ⟨by rw [hzo]; exact h, by rw [hzy h, e]⟩⟩
theorem canon_used {f : List Nd} (hf : Okl f) {i : Nat} (hi : i < f.length) {v : Nat} (hv : v + 1 < (canon f i).length) : Used (canon f i) v := by
  refine fin_used hf (i + 1) i ([], []) (by omega) hi (invT_nil f) v (Nat.zero_le _) (by unfold canon at hv; omega) ?_
  intro e
  have hr := canon_root hf hi
  have hz := fin_size hf (i + 1) i ([], []) (by omega) hi (invT_nil f) ((canon f i).length - 1) (Nat.zero_le _) (by unfold canon at *; omega)
  have := hz.2 (by unfold canon at *; omega)
  have h2 := hr.2
  unfold canon at h2 this
  rw [h2] at this
  omega
theorem comp_used {f : List Nd} (h : check f = 0) {v : Nat} (hv : v + 1 < (comp f).length) : ∃ (j : Nat) (x : Nd), v < j ∧ (comp f)[j]? = some x ∧ (usesX x.op = true ∧ x.x = (v : Int) ∨ usesY x.op = true ∧ x.y = (v : Int)) := by
  have hl := (check_ok h).1
  have hu : Used (comp f) v := by rw [comp_eq h] at hv ⊢; exact canon_used (check_okl h) (by omega) hv
  obtain ⟨j, x, h1, h2⟩ := hu
  have ok := comp_okl f j x h1
  refine ⟨j, x, ?_, h1, h2⟩
  rcases h2 with ⟨u, e⟩ | ⟨u, e⟩
  · have := ok.x u; omega
  · have := ok.y u; omega

/-! depth by trees -/
def modal (op : Int) : Bool := decide (9 ≤ op) && decide (op ≤ 15) || decide (18 ≤ op)
def tdep : Tr → Int
  | .none => 0
  | .nd op _ _ _ a b => bif modal op then max (tdep a) (tdep b) + 1 else max (tdep a) (tdep b)
theorem tdep_pos : ∀ t : Tr, 0 ≤ tdep t
  | .none => Int.le_refl 0
  | .nd op i e g a b => by
    have := tdep_pos a
    have := tdep_pos b
    rw [tdep]; cases modal op <;> simp only [cond_true, cond_false] <;> omega
theorem depths_tree {c : List Nd} (hc : Okl c) : ∀ n, n ≤ c.length → ∀ i, i < n → (depths (c.take n)).getD i 0 = tdep (tree c i)
  | 0, _, i, h => by omega
  | n + 1, hn, i, hi => by
    have hl : (depths (c.take n)).length = n := by rw [depths_len, List.length_take]; omega
    rw [depths_take (by omega)]
    rcases Nat.lt_or_ge i n with h | h
    · rw [List.getD_eq_getElem?_getD, List.getElem?_append_left (by omega), ← List.getD_eq_getElem?_getD]
      exact depths_tree hc n (by omega) i h
    · have e : i = n := by omega
      subst e
      have hx : c[i]? = some c[i] := List.getElem?_eq_getElem (by omega)
      rw [List.getD_eq_getElem?_getD, List.getElem?_append_right (by omega), hl, Nat.sub_self]
      simp only [List.getElem?_cons_zero, Option.getD_some]
      generalize c[i] = x at hx ⊢
      have ok := hc i x hx
      rw [tree_nd hc hx, tdep]
      have ex : (bif usesX x.op then (depths (c.take i)).getD x.x.toNat 0 else 0) = tdep (bif usesX x.op then tree c x.x.toNat else .none) := by
        cases hu : usesX x.op with
        | false => rfl
        | true => have := ok.x hu; exact depths_tree hc i (by omega) _ (by omega)
      have ey : usesY x.op = true → (depths (c.take i)).getD x.y.toNat 0 = tdep (tree c x.y.toNat) := by
        intro hu
        have := ok.y hu; exact depths_tree hc i (by omega) _ (by omega)
      have px := tdep_pos (bif usesX x.op then tree c x.x.toNat else .none)
      have hm : (decide (9 ≤ x.op) && decide (x.op ≤ 15) || decide (18 ≤ x.op)) = modal x.op := rfl
      unfold dstep
      rw [hm]
      simp only [ex]
      generalize tdep (bif usesX x.op then tree c x.x.toNat else .none) = a at px ⊢
      cases hu : usesY x.op with
      | false =>
        have e : max a (tdep Tr.none) = a := by show max a 0 = a; omega
        simp only [cond_false, e]
      | true => simp only [cond_true, ey hu]
theorem depth_root {f : List Nd} (h : check f = 0) : depth f = tdep (root f) := by
  have hp := comp_pos h
  rw [← root_comp h]
  have h2 := depths_last (f := f) rfl (by rw [depths_len]; exact hp)
  rw [h2]
  have := depths_tree (comp_okl f) (comp f).length (Nat.le_refl _) ((comp f).length - 1) (by omega)
  rw [List.take_length] at this
  rw [depths_len, this]; rfl
theorem comp_dep {f : List Nd} (h : check f = 0) : ∀ n v, v + n + 1 = (comp f).length → tdep (tree (comp f) v) ≤ tdep (root (comp f)) := by
  intro n
  induction n using Nat.strongRecOn with
  | _ n ih =>
    intro v hv
    cases n with
    | zero =>
      have : (comp f).length - 1 = v := by omega
      rw [root, this]; exact Int.le_refl _
    | succ n =>
      obtain ⟨j, x, hvj, hx, hu⟩ := comp_used h (v := v) (by omega)
      have hj := (List.getElem?_eq_some_iff.1 hx).1
      have := ih ((comp f).length - 1 - j) (by omega) j (by omega)
      refine Int.le_trans ?_ this
      rw [tree_nd (comp_okl f) hx, tdep]
      have h1 := tdep_pos (bif usesX x.op then tree (comp f) x.x.toNat else .none)
      have h2 := tdep_pos (bif usesY x.op then tree (comp f) x.y.toNat else .none)
      have : tdep (tree (comp f) v) ≤ max (tdep (bif usesX x.op then tree (comp f) x.x.toNat else .none)) (tdep (bif usesY x.op then tree (comp f) x.y.toNat else .none)) := by
        rcases hu with ⟨u, e⟩ | ⟨u, e⟩
        · rw [u, e]; simp only [cond_true, Int.toNat_natCast]; omega
        · rw [u, e]; simp only [cond_true, Int.toNat_natCast]; omega
      cases modal x.op <;> simp only [cond_true, cond_false] <;> omega

/-! operators -/
theorem fin_ops {f : List Nd} : ∀ (n i : Nat) (s : List Nd × List (Nat × Nat)) (y : Nd), y ∈ (fin f n i s).2.1 → y ∈ s.1 ∨ ∃ x, x ∈ f ∧ x.op = y.op
  | 0, i, s, y, h => .inl h
  | n + 1, i, s, y, h => by
    cases hl : look i s.2 with
    | some k => simp only [fin, hl] at h; exact .inl h
    | none =>
      cases hn : f[i]? with
      | none => simp only [fin, hl, hn] at h; exact .inl h
      | some x =>
        rw [fin_none hl hn] at h
        have sA : ∀ y, y ∈ (opA f n x s).2.1 → y ∈ s.1 ∨ ∃ x, x ∈ f ∧ x.op = y.op := by
          intro y hy
          unfold opA at hy
          cases hu : usesX x.op with
          | false => rw [hu] at hy; exact .inl hy
          | true => rw [hu] at hy; exact fin_ops n _ s y hy
        have sB : ∀ y, y ∈ (opB f n x (opA f n x s).2).2.1 → y ∈ s.1 ∨ ∃ x, x ∈ f ∧ x.op = y.op := by
          intro y hy
          unfold opB at hy
          cases hu : usesY x.op with
          | false => rw [hu] at hy; exact sA y hy
          | true =>
            rw [hu] at hy
            rcases fin_ops n _ (opA f n x s).2 y hy with h | h
            · exact sA y h
            · exact .inr h
        generalize opA f n x s = A at *
        generalize opB f n x A.2 = B at *
        obtain ⟨p1, p2, t, p3, p4⟩ := putN_spec B.2.1 (ndB x.op (ndA x A.1) B.1)
        simp only at h
        rw [p3] at h
        rcases List.mem_append.1 h with h | h
        · exact sB y h
        · rw [p4 y h]
          exact .inr ⟨x, List.mem_of_getElem? hn, (ndZ_op x A.1 B.1).symm⟩
theorem orN_mem {m : Nd → Nat} : ∀ {c : List Nd} {y : Nd}, y ∈ c → m y ||| orN m c = orN m c
  | x :: r, y, h => by
    rw [orN_cons]
    rcases List.mem_cons.1 h with rfl | h
    · rw [← Nat.or_assoc, Nat.or_self]
    · rw [← Nat.or_assoc, Nat.or_comm (m y), Nat.or_assoc, orN_mem h]
theorem orN_sub {m : Nd → Nat} {c : List Nd} : ∀ {s : List Nd}, (∀ x, x ∈ s → ∃ y, y ∈ c ∧ m x = m y) → orN m s ||| orN m c = orN m c
  | [], _ => Nat.zero_or _
  | x :: r, h => by
    obtain ⟨y, h1, h2⟩ := h x (by simp)
    rw [orN_cons, Nat.or_assoc, orN_sub fun z hz => h z (by simp [hz]), h2, orN_mem h1]

/-- Subformulas. -/
theorem canon_len' {f : List Nd} (hf : Okl f) {i : Nat} (hi : i < f.length) : (canon f i).length ≤ i + 1 := by
  have ht : Okl (f.take (i + 1)) := fun j x hx => hf j x (by
    rw [List.getElem?_take] at hx
    split at hx
    · exact hx
    · cases hx)
  have hl : (f.take (i + 1)).length = i + 1 := by rw [List.length_take]; omega
  have e : canon f i = canon (f.take (i + 1)) i := by
    rw [canon_tree hf hi, canon_tree ht (by omega)]
    have := tree_append (t := f.drop (i + 1)) ht (i := i) (by omega)
    rw [List.take_append_drop] at this
    rw [this]
  rw [e]
  have := canon_len ht.wf (i := i) (by omega)
  omega
structure SubOk (s a : List Nd) : Prop where
  cmp : compare s a ≤ 0
  dep : depth s ≤ depth a
  frg : frags s ||| frags a = frags a
theorem subs_ok {a s : List Nd} (h : s ∈ subs a) : SubOk s a := by
  obtain ⟨i, hi, rfl⟩ := List.mem_map.1 h
  have hi' : i < (comp a).length := by simpa using hi
  have hc : check a = 0 := by
    by_cases q : check a = 0
    · exact q
    · rw [comp_none q] at hi'; simp at hi'
  have hC := comp_can hc
  have hs := canon_can hC.ok hC.len hi'
  have hcs := can_comp hs
  have hl := canon_len' hC.ok hi'
  refine ⟨?_, ?_, ?_⟩
  · rw [compare, hcs]
    rcases Nat.lt_or_ge (canon (comp a) i).length (comp a).length with h | h
    · rw [cmpL_key, lexI_ne (by omega)]
      have := cmpI_cases ((canon (comp a) i).length : Int) (comp a).length
      omega
    · have e : i = (comp a).length - 1 := by omega
      have : canon (comp a) i = comp a := by rw [e, ← comp_eq (comp_check hc), comp_comp hc]
      rw [this, (ordC.eq _ _).2 rfl]; exact Int.le_refl _
  · rw [depth_root hs.check, depth_root hc, ← root_comp hc]
    have hr := (canon_root hC.ok hi').2
    rw [root, hr]
    exact comp_dep hc ((comp a).length - 1 - i) i (by omega)
  · rw [frags, frags, hcs]
    refine orN_sub fun x hx => ?_
    rcases fin_ops _ _ _ x hx with h | ⟨y, h1, h2⟩
    · simp at h
    · exact ⟨y, h1, by unfold fragN; rw [h2]⟩
end Go.Proofs.Ytlmgodcfjaagpaa
