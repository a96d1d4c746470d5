/- Formulas: the text of a tree tells the tree (plain). -/
import Derived.Test.YtlmgodcfjaagpaaFy
import Derived.Laws.Strings
namespace Go.Proofs.Ytlmgodcfjaagpaa
open Go Go.Dv

def rn (n : Int) : ByteArray := Utf8.encode (IntKind.wrap .i32 (IntKind.wrap .i64 n))
def ts0 (op i e g : Int) : ByteArray := ⟨#[40]⟩ ++ rn (65 + op) ++ rn (48 + i) ++ rn (48 + e) ++ rn (48 + g)
def tst : Tr → ByteArray
  | .none => ByteArray.empty
  | .nd op i e g a b => (bif usesY op then (bif usesX op then ts0 op i e g ++ tst a else ts0 op i e g) ++ tst b else (bif usesX op then ts0 op i e g ++ tst a else ts0 op i e g)) ++ ⟨#[41]⟩

theorem enc_size (n : Int) : (Utf8.encode n).size ≤ 4 := by
  unfold Utf8.encode
  simp only []
  generalize (if Utf8.valid n = true then n.toNat else Utf8.runeError) = c
  split
  · show 1 ≤ 4; decide
  · split
    · show 2 ≤ 4; decide
    · split
      · show 3 ≤ 4; decide
      · exact Nat.le_refl 4
theorem ts0_size (op i e g : Int) : (ts0 op i e g).size ≤ 17 := by
  have h0 : (⟨#[40]⟩ : ByteArray).size = 1 := rfl
  have h1 := enc_size (IntKind.wrap .i32 (IntKind.wrap .i64 (65 + op)))
  have h2 := enc_size (IntKind.wrap .i32 (IntKind.wrap .i64 (48 + i)))
  have h3 := enc_size (IntKind.wrap .i32 (IntKind.wrap .i64 (48 + e)))
  have h4 := enc_size (IntKind.wrap .i32 (IntKind.wrap .i64 (48 + g)))
  unfold ts0 rn
  rw [ByteArray.size_append, ByteArray.size_append, ByteArray.size_append, ByteArray.size_append]
  omega
theorem tst_size : ∀ t : Tr, (tst t).size ≤ 18 * t.size
  | .none => Nat.le_refl 0
  | .nd op i e g a b => by
    have h0 := ts0_size op i e g
    have ha := tst_size a
    have hb := tst_size b
    have h1 : (⟨#[41]⟩ : ByteArray).size = 1 := rfl
    rw [tst, Tr.size, ByteArray.size_append]
    cases usesX op <;> cases usesY op <;> simp only [cond_true, cond_false, ByteArray.size_append] <;> omega
theorem tree_sz {f : List Nd} (hf : Okl f) : ∀ (n i : Nat), i < n → i < f.length → (tree f i).size < 2 ^ (i + 1)
  | 0, i, h, _ => by omega
  | n + 1, i, hn, hi => by
    have hx : f[i]? = some f[i] := List.getElem?_eq_getElem hi
    generalize f[i] = x at hx
    have ok := hf i x hx
    rw [tree_nd hf hx, Tr.size]
    have hp : ∀ j : Nat, j < i → 2 ^ (j + 1) ≤ 2 ^ i := fun j hj => Nat.pow_le_pow_right (by decide) hj
    have e : 2 ^ (i + 1) = 2 ^ i + 2 ^ i := by rw [Nat.pow_succ]; omega
    have h2 : 1 ≤ 2 ^ i := Nat.one_le_two_pow
    have h3 : (bif usesX x.op then tree f x.x.toNat else .none).size + 1 ≤ 2 ^ i := by
      cases hu : usesX x.op with
      | false => simpa [Tr.size] using h2
      | true =>
        have := ok.x hu
        have h4 := tree_sz hf n x.x.toNat (by omega) (by omega)
        have := hp x.x.toNat (by omega)
        simp only [cond_true]; omega
    have h4 : (bif usesY x.op then tree f x.y.toNat else .none).size + 1 ≤ 2 ^ i := by
      cases hu : usesY x.op with
      | false => simpa [Tr.size] using h2
      | true =>
        have := ok.y hu
        have h4 := tree_sz hf n x.y.toNat (by omega) (by omega)
        have := hp x.y.toNat (by omega)
        simp only [cond_true]; omega
    omega
theorem tst_bd {f : List Nd} (hf : Okl f) {i : Nat} (hi : i < f.length) (h : f.length ≤ 14) : (tst (tree f i)).size ≤ 300000 := by
  have h1 := tst_size (tree f i)
  have h2 := tree_sz hf (i + 1) i (by omega) hi
  have h3 : 2 ^ (i + 1) ≤ 2 ^ 14 := Nat.pow_le_pow_right (by decide) (by omega)
  have : (2 : Nat) ^ 14 = 16384 := by decide
  omega

/-! trees that formulas have -/
def okT : Tr → Prop
  | .none => False
  | .nd op i e g a b => (1 ≤ op ∧ op ≤ 21) ∧ (0 ≤ i ∧ i < 8) ∧ (0 ≤ e ∧ e < 8) ∧ (0 ≤ g ∧ g < 16) ∧ (bif usesX op then okT a else a = .none) ∧ (bif usesY op then okT b else b = .none)
theorem tree_ok {f : List Nd} (hf : Okl f) : ∀ (n i : Nat), i < n → i < f.length → okT (tree f i)
  | 0, i, h, _ => by omega
  | n + 1, i, hn, hi => by
    have hx : f[i]? = some f[i] := List.getElem?_eq_getElem hi
    generalize f[i] = x at hx
    have ok := hf i x hx
    rw [tree_nd hf hx, okT]
    refine ⟨ok.op, ?_, ?_, ?_, ?_, ?_⟩
    · by_cases h3 : x.op = 3
      · exact ok.fact h3
      · by_cases h17 : x.op = 17
        · have := ok.act h17; omega
        · cases ha : isAgent x.op with
          | true => have := ok.agent ha; omega
          | false => have := ok.noi h3 ha h17; omega
    · by_cases h17 : x.op = 17
      · have := ok.act h17; omega
      · have := ok.noe h17; omega
    · cases hg : isGroup x.op with
      | true => have := ok.group hg; omega
      | false => have := ok.nog hg; omega
    · cases hu : usesX x.op with
      | false => rfl
      | true => have := ok.x hu; exact tree_ok hf n x.x.toNat (by omega) (by omega)
    · cases hu : usesY x.op with
      | false => rfl
      | true => have := ok.y hu; exact tree_ok hf n x.y.toNat (by omega) (by omega)

def ch (n : Int) : UInt8 := UInt8.ofNat n.toNat
theorem ch_inj {a b : Int} (ha : 0 ≤ a ∧ a < 128) (hb : 0 ≤ b ∧ b < 128) (h : ch a = ch b) : a = b := by
  have := congrArg UInt8.toNat h
  unfold ch at this
  rw [UInt8.toNat_ofNat', UInt8.toNat_ofNat'] at this
  omega
theorem rn_ch {n : Int} (h : 0 ≤ n ∧ n < 128) : (rn n).data.toList = [ch n] := by
  obtain ⟨k, rfl⟩ : ∃ k : Nat, n = k := ⟨n.toNat, by omega⟩
  have key : ∀ k : Nat, k < 128 → (rn (k : Int)).data.toList = [ch (k : Int)] := by decide +kernel
  exact key k (by omega)
def tl (t : Tr) : List UInt8 := (tst t).data.toList
theorem tl_nd {op i e g : Int} {a b : Tr} (h : okT (.nd op i e g a b)) :
    tl (.nd op i e g a b) = 40 :: ch (65 + op) :: ch (48 + i) :: ch (48 + e) :: ch (48 + g) :: ((bif usesX op then tl a else []) ++ ((bif usesY op then tl b else []) ++ [41])) := by
  obtain ⟨h1, h2, h3, h4, _, _⟩ := h
  have e0 : (ts0 op i e g).data.toList = [40, ch (65 + op), ch (48 + i), ch (48 + e), ch (48 + g)] := by
    unfold ts0
    rw [ByteArray.toList_data_append, ByteArray.toList_data_append, ByteArray.toList_data_append, ByteArray.toList_data_append, rn_ch (by omega), rn_ch (by omega), rn_ch (by omega), rn_ch (by omega)]
    rfl
  unfold tl
  rw [tst, ByteArray.toList_data_append]
  cases usesX op <;> cases usesY op <;> simp only [cond_true, cond_false, ByteArray.toList_data_append, e0] <;> simp
theorem tl_inj : ∀ (a b : Tr) (r s : List UInt8), okT a → okT b → tl a ++ r = tl b ++ s → a = b ∧ r = s
  | .none, _, _, _, h, _, _ => h.elim
  | .nd _ _ _ _ _ _, .none, _, _, _, h, _ => h.elim
  | .nd op i e g a b, .nd op' i' e' g' a' b', r, s, h, h', hl => by
    rw [tl_nd h, tl_nd h'] at hl
    obtain ⟨p1, p2, p3, p4, pa, pb⟩ := h
    obtain ⟨q1, q2, q3, q4, qa, qb⟩ := h'
    simp only [List.cons_append, List.cons.injEq, true_and] at hl
    obtain ⟨c1, c2, c3, c4, hr⟩ := hl
    have d1 := ch_inj (by omega) (by omega) c1
    have d2 := ch_inj (by omega) (by omega) c2
    have d3 := ch_inj (by omega) (by omega) c3
    have d4 := ch_inj (by omega) (by omega) c4
    have o1 : op = op' := by omega
    have o2 : i = i' := by omega
    have o3 : e = e' := by omega
    have o4 : g = g' := by omega
    subst o1; subst o2; subst o3; subst o4
    have hA : a = a' ∧ ((bif usesY op then tl b else []) ++ [41]) ++ r = ((bif usesY op then tl b' else []) ++ [41]) ++ s := by
      cases hu : usesX op with
      | false =>
        rw [hu] at pa qa hr
        simp only [cond_false, List.nil_append] at pa qa hr
        exact ⟨by rw [pa, qa], hr⟩
      | true =>
        rw [hu] at pa qa hr
        simp only [cond_true, List.append_assoc] at pa qa hr
        have := tl_inj a a' _ _ pa qa hr
        simpa [List.append_assoc] using this
    obtain ⟨ea, hr⟩ := hA
    have hB : b = b' ∧ [41] ++ r = [41] ++ s := by
      cases hu : usesY op with
      | false =>
        rw [hu] at pb qb hr
        simp only [cond_false, List.nil_append] at pb qb hr
        exact ⟨by rw [pb, qb], hr⟩
      | true =>
        rw [hu] at pb qb hr
        simp only [cond_true, List.append_assoc] at pb qb hr
        exact tl_inj b b' _ _ pb qb hr
    obtain ⟨eb, hr⟩ := hB
    exact ⟨by rw [ea, eb], by simpa using hr⟩
/-- Two formulas' texts are the same exactly if their trees are. -/
theorem tst_iff {a b : List Nd} (ha : check a = 0) (hb : check b = 0) : ((tst (root a)).toList == (tst (root b)).toList) = decide (comp a = comp b) := by
  have la := (check_ok ha).1
  have lb := (check_ok hb).1
  have oa : okT (root a) := tree_ok (check_okl ha) a.length (a.length - 1) (by omega) (by omega)
  have ob : okT (root b) := tree_ok (check_okl hb) b.length (b.length - 1) (by omega) (by omega)
  rw [Bool.eq_iff_iff, beq_iff_eq, decide_eq_true_iff, comp_eq_iff ha hb, ByteArray.toList_eq, ByteArray.toList_eq]
  constructor
  · intro h
    exact (tl_inj (root a) (root b) [] [] oa ob (by rw [List.append_nil, List.append_nil]; exact h)).1
  · intro h; rw [h]
theorem comp_zero (a b : List Nd) : (compare a b == 0) = decide (comp a = comp b) := by
  rw [Bool.eq_iff_iff, beq_iff_eq, decide_eq_true_iff, compare, ordC.eq]
theorem tree_take {f : List Nd} (hf : Okl f) {i j : Nat} (hi : i ≤ f.length) (hj : j < i) : tree (f.take i) j = tree f j ∧ Okl (f.take i) := by
  have ht : Okl (f.take i) := fun k x hx => hf k x (by
    rw [List.getElem?_take] at hx
    split at hx
    · exact hx
    · cases hx)
  refine ⟨?_, ht⟩
  have := tree_append (t := f.drop i) ht (i := j) (by rw [List.length_take]; omega)
  rw [List.take_append_drop] at this
  exact this.symm

/-! the marks of the used nodes -/
/-- Marked: the last node, and the operands of the nodes from i on. -/
structure Mk (c : List Nd) (i : Nat) (u : List Bool) : Prop where
  len : u.length = c.length
  last : u[c.length - 1]? = some true
  opx : ∀ (j : Nat) (x : Nd), i ≤ j → c[j]? = some x → usesX x.op = true → u[x.x.toNat]? = some true
  opy : ∀ (j : Nat) (x : Nd), i ≤ j → c[j]? = some x → usesY x.op = true → u[x.y.toNat]? = some true
theorem set_true {u : List Bool} {i j : Nat} (h : u[i]? = some true) : (u.set j true)[i]? = some true := by
  rw [List.getElem?_set]
  split
  · rename_i e; subst e
    rw [if_pos (List.getElem?_eq_some_iff.1 h).1]
  · exact h
def mark (x : Nd) (u : List Bool) : List Bool := bif usesY x.op then (bif usesX x.op then u.set x.x.toNat true else u).set x.y.toNat true else bif usesX x.op then u.set x.x.toNat true else u
theorem Mk.start {c : List Nd} (h : 1 ≤ c.length) : Mk c c.length ((List.replicate c.length false).set (c.length - 1) true) := by
  refine ⟨by simp, ?_, ?_, ?_⟩
  · rw [List.getElem?_set, if_pos rfl, if_pos (by simp; omega)]
  · intro j x hj hx; have := (List.getElem?_eq_some_iff.1 hx).1; omega
  · intro j x hj hx; have := (List.getElem?_eq_some_iff.1 hx).1; omega
theorem Mk.step {c : List Nd} (hc : Okl c) {i : Nat} {u : List Bool} {x : Nd} (h : Mk c (i + 1) u) (hx : c[i]? = some x) : Mk c i (mark x u) := by
  have hi := (List.getElem?_eq_some_iff.1 hx).1
  have ok := hc i x hx
  have keep : ∀ k : Nat, u[k]? = some true → (mark x u)[k]? = some true := by
    intro k hk
    unfold mark
    cases usesX x.op <;> cases usesY x.op
    · exact hk
    · exact set_true hk
    · exact set_true hk
    · exact set_true (set_true hk)
  have hlen : (mark x u).length = c.length := by
    unfold mark
    cases usesX x.op <;> cases usesY x.op <;> simp [h.len]
  refine ⟨hlen, keep _ h.last, ?_, ?_⟩
  · intro j y hj hy hu
    rcases Nat.lt_or_ge i j with q | q
    · exact keep _ (h.opx j y q hy hu)
    · have e : j = i := by omega
      subst e
      rw [hx] at hy; cases hy
      have := ok.x hu
      have hk : (u.set x.x.toNat true)[x.x.toNat]? = some true := by rw [List.getElem?_set, if_pos rfl, if_pos (by rw [h.len]; omega)]
      unfold mark
      rw [hu]
      cases usesY x.op
      · exact hk
      · exact set_true hk
  · intro j y hj hy hu
    rcases Nat.lt_or_ge i j with q | q
    · exact keep _ (h.opy j y q hy hu)
    · have e : j = i := by omega
      subst e
      rw [hx] at hy; cases hy
      have := ok.y hu
      unfold mark
      rw [hu]
      simp only [cond_true]
      rw [List.getElem?_set, if_pos rfl, if_pos]
      cases usesX x.op <;> simp [h.len] <;> omega
theorem Mk.get {f : List Nd} (hf : check f = 0) {i : Nat} {u : List Bool} (h : Mk (comp f) (i + 1) u) (hi : i < (comp f).length) : u[i]? = some true := by
  by_cases e : i + 1 = (comp f).length
  · have := h.last
    rw [show (comp f).length - 1 = i by omega] at this
    exact this
  · obtain ⟨j, x, h1, h2, h3⟩ := comp_used hf (v := i) (by omega)
    rcases h3 with ⟨q, w⟩ | ⟨q, w⟩
    · have := h.opx j x h1 h2 q
      rw [w, Int.toNat_natCast] at this; exact this
    · have := h.opy j x h1 h2 q
      rw [w, Int.toNat_natCast] at this; exact this
theorem comp_nodup {f : List Nd} (h : check f = 0) : (comp f).Nodup := by
  rw [comp_eq h]
  have := (check_ok h).1
  exact canon_nodup (check_okl h) (by omega)
end Go.Proofs.Ytlmgodcfjaagpaa
