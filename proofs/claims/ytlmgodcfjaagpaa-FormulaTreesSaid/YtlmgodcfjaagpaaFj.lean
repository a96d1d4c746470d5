/- Formulas: the canonical list is without error; depth, fragments, facts, agents (plain). -/
import Derived.Test.YtlmgodcfjaagpaaFi
namespace Go.Proofs.Ytlmgodcfjaagpaa
open Go Go.Dv

def Okl (f : List Nd) : Prop := ∀ (i : Nat) x, f[i]? = some x → OkNd x (i : Int)
theorem Okl.wf {f : List Nd} (h : Okl f) : Wf f := fun i x hx => ⟨(h i x hx).x, (h i x hx).y⟩
def DsOk (s : List Nd × List (Nat × Nat)) : Prop := ∀ j v, look j s.2 = some v → v < s.1.length

theorem idx_some {x : Nd} : ∀ {out : List Nd} {i k : Nat}, idx x out i = some k → i ≤ k ∧ out[k - i]? = some x
  | [], i, k, h => by simp [idx] at h
  | n :: r, i, k, h => by
    simp only [idx] at h
    by_cases e : n = x
    · rw [if_pos e] at h
      simp at h; subst h; subst e
      simp
    · rw [if_neg e] at h
      obtain ⟨h1, h2⟩ := idx_some h
      refine ⟨by omega, ?_⟩
      rw [show k - i = (k - (i + 1)) + 1 by omega]
      simpa using h2
theorem putN_spec (out : List Nd) (x : Nd) : (putN out x).2[(putN out x).1]? = some x ∧ (putN out x).1 < (putN out x).2.length ∧ ∃ t, (putN out x).2 = out ++ t ∧ ∀ y, y ∈ t → y = x := by
  unfold putN
  cases h : idx x out 0 with
  | some k =>
    obtain ⟨_, h2⟩ := idx_some h
    simp only [Nat.sub_zero] at h2
    exact ⟨h2, (List.getElem?_eq_some_iff.1 h2).1, [], by simp, by simp⟩
  | none => exact ⟨by simp, by simp, [x], rfl, by simp⟩
theorem putN_ok {out : List Nd} {x : Nd} (ho : Okl out) (hx : OkNd x out.length) : Okl (putN out x).2 := by
  unfold putN
  cases h : idx x out 0 with
  | some k => exact ho
  | none =>
    intro i y hy
    simp only at hy
    rcases Nat.lt_or_ge i out.length with hl | hl
    · rw [List.getElem?_append_left hl] at hy; exact ho i y hy
    · rw [List.getElem?_append_right hl] at hy
      have : i = out.length := by
        have := (List.getElem?_eq_some_iff.1 hy).1
        simp at this; omega
      subst this
      simp at hy; subst hy; exact hx
theorem OkNd.mono {x : Nd} {a b : Int} (h : OkNd x a) (hab : a ≤ b) : OkNd x b :=
  ⟨h.op, fun u => ⟨(h.x u).1, by have := (h.x u).2; omega⟩, h.nox, fun u => ⟨(h.y u).1, by have := (h.y u).2; omega⟩, h.noy, h.fact, h.agent, h.act, h.noi, h.noe, h.group, h.nog⟩

/-- The node that is put. -/
def ndZ (x : Nd) (a b : Nat) : Nd := ndB x.op (ndA x a) b
theorem ndZ_op (x : Nd) (a b : Nat) : (ndZ x a b).op = x.op := by unfold ndZ ndB ndA; cases usesX x.op <;> cases usesY x.op <;> rfl
theorem ndZ_i (x : Nd) (a b : Nat) : (ndZ x a b).i = x.i := by unfold ndZ ndB ndA; cases usesX x.op <;> cases usesY x.op <;> rfl
theorem ndZ_e (x : Nd) (a b : Nat) : (ndZ x a b).e = x.e := by unfold ndZ ndB ndA; cases usesX x.op <;> cases usesY x.op <;> rfl
theorem ndZ_g (x : Nd) (a b : Nat) : (ndZ x a b).g = x.g := by unfold ndZ ndB ndA; cases usesX x.op <;> cases usesY x.op <;> rfl
theorem ndZ_x (x : Nd) (a b : Nat) : (ndZ x a b).x = bif usesX x.op then (a : Int) else x.x := by unfold ndZ ndB ndA; cases usesX x.op <;> cases usesY x.op <;> rfl
theorem ndZ_y (x : Nd) (a b : Nat) : (ndZ x a b).y = bif usesY x.op then (b : Int) else x.y := by unfold ndZ ndB ndA; cases usesX x.op <;> cases usesY x.op <;> rfl
theorem ndZ_ok {x : Nd} {i : Int} {a b n : Nat} (h : OkNd x i) (ha : usesX x.op = true → a < n) (hb : usesY x.op = true → b < n) : OkNd (ndZ x a b) n := by
  constructor
  · rw [ndZ_op]; exact h.op
  · rw [ndZ_op, ndZ_x]; intro u; rw [u]; have := ha u; simp only [cond_true]; omega
  · rw [ndZ_op, ndZ_x]; intro u; rw [u]; exact h.nox u
  · rw [ndZ_op, ndZ_y]; intro u; rw [u]; have := hb u; simp only [cond_true]; omega
  · rw [ndZ_op, ndZ_y]; intro u; rw [u]; exact h.noy u
  · rw [ndZ_op, ndZ_i]; exact h.fact
  · rw [ndZ_op, ndZ_i]; exact h.agent
  · rw [ndZ_op, ndZ_i, ndZ_e]; exact h.act
  · rw [ndZ_op, ndZ_i]; exact h.noi
  · rw [ndZ_op, ndZ_e]; exact h.noe
  · rw [ndZ_op, ndZ_g]; exact h.group
  · rw [ndZ_op, ndZ_g]; exact h.nog

structure FinOk (s t : List Nd × List (Nat × Nat)) (k : Nat) : Prop where
  ok : Okl t.1
  ds : DsOk t
  lt : k < t.1.length
  ext : ∃ u, t.1 = s.1 ++ u

theorem fin_ok {f : List Nd} (hf : Okl f) : ∀ (n i : Nat) (s : List Nd × List (Nat × Nat)), i < n → i < f.length → Okl s.1 → DsOk s → FinOk s (fin f n i s).2 (fin f n i s).1
  | 0, i, s, h, _, _, _ => by omega
  | n + 1, i, s, hin, hif, ho, hd => by
    cases hl : look i s.2 with
    | some k => simp only [fin, hl]; exact ⟨ho, hd, hd i k hl, [], by simp⟩
    | none =>
      have hn : f[i]? = some f[i] := List.getElem?_eq_getElem hif
      generalize hx : f[i] = x at hn
      have hok := hf i x hn
      rw [fin_none hl hn]
      have hA : Okl (opA f n x s).2.1 ∧ DsOk (opA f n x s).2 ∧ (usesX x.op = true → (opA f n x s).1 < (opA f n x s).2.1.length) ∧ ∃ u, (opA f n x s).2.1 = s.1 ++ u := by
        unfold opA
        cases hu : usesX x.op with
        | false => exact ⟨ho, hd, (fun h => by cases h), [], by simp⟩
        | true =>
          have := hok.x hu
          have q := fin_ok hf n x.x.toNat s (by omega) (by omega) ho hd
          exact ⟨q.ok, q.ds, fun _ => q.lt, q.ext⟩
      generalize opA f n x s = A at hA ⊢
      obtain ⟨a1, a2, a3, ua, a4⟩ := hA
      have hB : Okl (opB f n x A.2).2.1 ∧ DsOk (opB f n x A.2).2 ∧ (usesY x.op = true → (opB f n x A.2).1 < (opB f n x A.2).2.1.length) ∧ ∃ u, (opB f n x A.2).2.1 = A.2.1 ++ u := by
        unfold opB
        cases hu : usesY x.op with
        | false => exact ⟨a1, a2, (fun h => by cases h), [], by simp⟩
        | true =>
          have := hok.y hu
          have q := fin_ok hf n x.y.toNat A.2 (by omega) (by omega) a1 a2
          exact ⟨q.ok, q.ds, fun _ => q.lt, q.ext⟩
      generalize opB f n x A.2 = B at hB ⊢
      obtain ⟨b1, b2, b3, ub, b4⟩ := hB
      have hz : OkNd (ndZ x A.1 B.1) B.2.1.length := ndZ_ok hok (fun u => by have := a3 u; rw [b4, List.length_append]; omega) b3
      change FinOk s ((putN B.2.1 (ndZ x A.1 B.1)).2, dput i (putN B.2.1 (ndZ x A.1 B.1)).1 B.2.2) (putN B.2.1 (ndZ x A.1 B.1)).1
      obtain ⟨p1, p2, t, p3, _⟩ := putN_spec B.2.1 (ndZ x A.1 B.1)
      refine ⟨putN_ok b1 hz, ?_, p2, ua ++ ub ++ t, by simp only; rw [p3, b4, a4]; simp [List.append_assoc]⟩
      intro j v hv
      simp only [look_dput] at hv
      by_cases e : j = i
      · rw [if_pos e] at hv; simp at hv; subst hv; exact p2
      · rw [if_neg e] at hv
        have := b2 j v hv
        simp only
        rw [p3, List.length_append]; omega

theorem canon_ok {f : List Nd} (hf : Okl f) {i : Nat} (hi : i < f.length) : Okl (canon f i) ∧ 1 ≤ (canon f i).length := by
  have q := fin_ok hf (i + 1) i ([], []) (by omega) hi (fun j x h => by simp at h) (fun j v h => by simp [look] at h)
  exact ⟨q.ok, by have := q.lt; unfold canon; omega⟩
theorem check_okl {f : List Nd} (h : check f = 0) : Okl f := fun i x hx => nodeErr_ok.1 ((check_ok h).2.2 i x hx)
theorem okl_check {f : List Nd} (h : Okl f) (h1 : 1 ≤ f.length) (h2 : f.length ≤ 200) : check f = 0 := by
  have e1 : ((f.length : Int) == 0) = false := by simp; intro e; subst e; simp at h1
  have e2 : decide ((f.length : Int) > 200) = false := by simp; omega
  rw [check, e1, e2]
  have : ∀ (l : List Nd) (s : Nat), (∀ (i : Nat) x, l[i]? = some x → nodeErr x ((s + i : Nat) : Int) = 0) → firstErr l s = 0 := by
    intro l
    induction l with
    | nil => intro s _; rfl
    | cons n r ih =>
      intro s hs
      have h0 : nodeErr n s = 0 := by simpa using hs 0 n rfl
      simp only [firstErr, h0]
      exact ih (s + 1) fun i x hx => by
        have := hs (i + 1) x (by simpa using hx)
        rw [show s + 1 + i = s + (i + 1) by omega]; exact this
  exact this f 0 fun i x hx => nodeErr_ok.2 (by simpa using h i x hx)
theorem sub_okl (f : List Nd) (node : Int) : Okl (sub f node) := by
  cases h : (bif bif check f != 0 then true else decide (node < 0) then true else decide (node ≥ ((f.map Nd.pv).length : Int))) with
  | true => rw [sub_no h]; intro i x hx; simp at hx
  | false =>
    obtain ⟨hc, k, rfl, hk, hs⟩ := sub_yes h
    rw [hs]
    exact (canon_ok (check_okl hc) hk).1
theorem comp_okl (f : List Nd) : Okl (comp f) := sub_okl f _
theorem comp_eq {f : List Nd} (h : check f = 0) : comp f = canon f (f.length - 1) := by
  have := (check_ok h).1
  have e1 : (check f != 0) = false := by rw [h]; rfl
  have e2 : decide (((f.length : Int) - 1) < 0) = false := by simp; omega
  have e3 : decide (((f.length : Int) - 1) ≥ (f.length : Int)) = false := by simp; omega
  rw [comp, sub, e1, e2, e3]
  exact congrArg (canon f) (by omega)
theorem comp_none {f : List Nd} (h : ¬ check f = 0) : comp f = [] := by
  have e1 : (check f != 0) = true := by simpa using h
  rw [comp, sub, e1]; rfl
theorem comp_pos {f : List Nd} (h : check f = 0) : 1 ≤ (comp f).length := by
  rw [comp_eq h]
  have := (check_ok h).1
  exact (canon_ok (check_okl h) (by omega)).2
theorem comp_check {f : List Nd} (h : check f = 0) : check (comp f) = 0 := okl_check (comp_okl f) (comp_pos h) (comp_len f)

/-! unions of masks -/
def orN (m : Nd → Nat) (c : List Nd) : Nat := c.foldl (fun a x => a ||| m x) 0
theorem foldl_or (m : Nd → Nat) : ∀ (c : List Nd) (a : Nat), c.foldl (fun a x => a ||| m x) a = a ||| orN m c
  | [], a => by simp [orN]
  | x :: r, a => by
    simp only [orN, List.foldl_cons]
    rw [foldl_or m r, foldl_or m r, Nat.zero_or, Nat.or_assoc]
theorem orN_cons (m : Nd → Nat) (x : Nd) (r : List Nd) : orN m (x :: r) = m x ||| orN m r := by
  rw [orN, List.foldl_cons, foldl_or, Nat.zero_or]
theorem orN_take {m : Nd → Nat} {c : List Nd} {i : Nat} (h : i < c.length) : orN m (c.take (i + 1)) = orN m (c.take i) ||| m c[i] := by
  rw [List.take_succ_eq_append_getElem h, orN, List.foldl_append, foldl_or]
  rw [orN_cons]; simp only [orN, List.foldl_nil, Nat.or_zero]
theorem orN_lt {m : Nd → Nat} {k : Nat} : ∀ {c : List Nd}, (∀ x, x ∈ c → m x < 2 ^ k) → orN m c < 2 ^ k
  | [], _ => Nat.two_pow_pos k
  | x :: r, h => by
    rw [orN_cons]
    exact Nat.or_lt_two_pow (h x (by simp)) (orN_lt fun y hy => h y (by simp [hy]))
theorem orN_congr {m m' : Nd → Nat} : ∀ {c : List Nd}, (∀ x, x ∈ c → m x = m' x) → orN m c = orN m' c
  | [], _ => rfl
  | x :: r, h => by rw [orN_cons, orN_cons, h x (by simp), orN_congr fun y hy => h y (by simp [hy])]

def fragN (x : Nd) : Nat := (frag x.op).toNat
def factN (x : Nd) : Nat := bif x.op == 3 then 2 ^ x.i.toNat else 0
def agN (x : Nd) : Nat := bif isAgent x.op then 2 ^ x.i.toNat else x.g.toNat
def frags (f : List Nd) : Nat := orN fragN (comp f)
def facts (f : List Nd) : Nat := orN factN (comp f)
def agents (f : List Nd) : Nat := orN agN (comp f)

theorem okl_mem {f : List Nd} (h : Okl f) {x : Nd} (hx : x ∈ f) : ∃ i : Nat, OkNd x i := by
  obtain ⟨i, hi, rfl⟩ := List.mem_iff_getElem.1 hx
  exact ⟨i, h i _ (List.getElem?_eq_getElem hi)⟩
theorem fragN_lt {x : Nd} {k : Int} (h : OkNd x k) : fragN x < 2 ^ 9 ∧ frag x.op = (fragN x : Int) := by
  have ho := h.op
  have key : ∀ op : Nat, op < 22 → (frag (op : Int)).toNat < 512 ∧ frag (op : Int) = ((frag (op : Int)).toNat : Int) := by decide
  have := key x.op.toNat (by omega)
  rw [show ((x.op.toNat : Nat) : Int) = x.op by omega] at this
  exact this
theorem pow_lt {i : Int} {a k : Nat} (h1 : 0 ≤ i) (h2 : i < a) (hk : a ≤ k) : 2 ^ i.toNat < 2 ^ k := Nat.pow_lt_pow_right (by decide) (by omega)
theorem factN_lt {x : Nd} {k : Int} (h : OkNd x k) : factN x < 2 ^ 8 := by
  unfold factN
  cases hb : (x.op == 3) with
  | false => show 0 < 2 ^ 8; decide
  | true => have := h.fact (by simpa using hb); exact pow_lt (a := 8) this.1 this.2 (by decide)
theorem agN_lt {x : Nd} {k : Int} (h : OkNd x k) : agN x < 2 ^ 4 := by
  unfold agN
  cases hb : isAgent x.op with
  | true => have := h.agent hb; exact pow_lt (a := 4) this.1 this.2 (by decide)
  | false =>
    cases hg : isGroup x.op with
    | true => have := h.group hg; show x.g.toNat < 16; omega
    | false => have := h.nog hg; show x.g.toNat < 16; omega
theorem frags_lt (f : List Nd) : frags f < 2 ^ 9 := orN_lt fun x hx => by obtain ⟨i, hi⟩ := okl_mem (comp_okl f) hx; exact (fragN_lt hi).1
theorem facts_lt (f : List Nd) : facts f < 2 ^ 8 := orN_lt fun x hx => by obtain ⟨i, hi⟩ := okl_mem (comp_okl f) hx; exact factN_lt hi
theorem agents_lt (f : List Nd) : agents f < 2 ^ 4 := orN_lt fun x hx => by obtain ⟨i, hi⟩ := okl_mem (comp_okl f) hx; exact agN_lt hi

/-! int's or, shifts -/
def or64 (a b : Int) : Int := IntKind.wrap .i64 ((BitVec.ofInt (IntKind.bits .i64) a ||| BitVec.ofInt (IntKind.bits .i64) b).toNat : Int)
theorem or64_nat {a b : Nat} (ha : a < 2 ^ 62) (hb : b < 2 ^ 62) : or64 a b = ((a ||| b : Nat) : Int) := by
  unfold or64
  have e1 : BitVec.ofInt (IntKind.bits .i64) (a : Int) = BitVec.ofNat 64 a := BitVec.ofInt_natCast 64 a
  have e2 : BitVec.ofInt (IntKind.bits .i64) (b : Int) = BitVec.ofNat 64 b := BitVec.ofInt_natCast 64 b
  have ho : a ||| b < 2 ^ 62 := Nat.or_lt_two_pow ha hb
  have h1 : (BitVec.ofInt (IntKind.bits .i64) (a : Int) ||| BitVec.ofInt (IntKind.bits .i64) (b : Int)).toNat = a ||| b := by
    rw [e1, e2]
    refine (BitVec.toNat_or (BitVec.ofNat 64 a) (BitVec.ofNat 64 b)).trans ?_
    rw [BitVec.toNat_ofNat, BitVec.toNat_ofNat, Nat.mod_eq_of_lt (by omega), Nat.mod_eq_of_lt (by omega)]
  rw [h1]
  exact wrap_small (by omega) (by omega)
def shl64 (a b : Int) : Int := IntKind.wrap .i64 (a * 2 ^ (min b.toNat (IntKind.bits .i64)))
theorem shl64_one {i : Int} (h1 : 0 ≤ i) (h2 : i < 62) : shl64 1 i = ((2 ^ i.toNat : Nat) : Int) := by
  unfold shl64
  rw [show min i.toNat (IntKind.bits .i64) = i.toNat from Nat.min_eq_left (by show i.toNat ≤ 64; omega), Int.one_mul]
  have : 2 ^ i.toNat < 2 ^ 62 := Nat.pow_lt_pow_right (by decide) (by omega)
  have e : ((2 : Int) ^ i.toNat) = ((2 ^ i.toNat : Nat) : Int) := by simp
  rw [e]
  generalize 2 ^ i.toNat = m at *
  exact wrap_small (by omega) (by omega)
def shr64 (a b : Int) : Int := a.fdiv (2 ^ (min b.toNat (IntKind.bits .i64)))
theorem shr64_nat (a k : Nat) (hk : k ≤ 64) : shr64 a k = ((a >>> k : Nat) : Int) := by
  unfold shr64
  rw [show min ((k : Int)).toNat (IntKind.bits .i64) = k from Nat.min_eq_left hk, Nat.shiftRight_eq_div_pow]
  rw [show ((2 : Int) ^ k) = ((2 ^ k : Nat) : Int) by simp, Int.fdiv_eq_ediv_of_nonneg _ (Int.natCast_nonneg _)]
  rfl
/-- The modal depth. -/
def dstep (d : List Int) (x : Nd) : Int :=
  let a := bif usesX x.op then d.getD x.x.toNat 0 else 0
  let b := bif usesY x.op then max a (d.getD x.y.toNat 0) else a
  bif decide (9 ≤ x.op) && decide (x.op ≤ 15) || decide (18 ≤ x.op) then b + 1 else b
def depths (c : List Nd) : List Int := c.foldl (fun d x => d ++ [dstep d x]) []
def depth (f : List Nd) : Int := ((depths (comp f)).getLast?).getD (-1)
theorem depths_take {c : List Nd} {i : Nat} (h : i < c.length) : depths (c.take (i + 1)) = depths (c.take i) ++ [dstep (depths (c.take i)) c[i]] := by
  rw [List.take_succ_eq_append_getElem h, depths, List.foldl_append]
  rfl
theorem depths_len : ∀ (c : List Nd), (depths c).length = c.length := by
  have : ∀ (c : List Nd) (d : List Int), (c.foldl (fun d x => d ++ [dstep d x]) d).length = d.length + c.length := by
    intro c
    induction c with
    | nil => intro d; simp
    | cons x r ih => intro d; rw [List.foldl_cons, ih]; simp; omega
  intro c
  have := this c []
  simpa [depths] using this
theorem dstep_bd {d : List Int} {x : Nd} {n : Int} (hd : ∀ v, v ∈ d → 0 ≤ v ∧ v ≤ n) (hn : 0 ≤ n) : 0 ≤ dstep d x ∧ dstep d x ≤ n + 1 := by
  have hg : ∀ k, 0 ≤ d.getD k 0 ∧ d.getD k 0 ≤ n := by
    intro k
    rw [List.getD_eq_getElem?_getD]
    cases h : d[k]? with
    | none => exact ⟨by simp, by simpa using hn⟩
    | some v => exact hd v (List.mem_iff_getElem?.2 ⟨k, h⟩)
  have h1 := hg x.x.toNat
  have h2 := hg x.y.toNat
  unfold dstep
  generalize d.getD x.x.toNat 0 = u at *
  generalize d.getD x.y.toNat 0 = v at *
  cases usesX x.op <;> cases usesY x.op <;> cases (decide (9 ≤ x.op) && decide (x.op ≤ 15) || decide (18 ≤ x.op)) <;> simp only [cond_true, cond_false] <;> omega
theorem depths_bd (c : List Nd) : ∀ v, v ∈ depths c → 0 ≤ v ∧ v ≤ c.length := by
  have : ∀ i, i ≤ c.length → ∀ v, v ∈ depths (c.take i) → 0 ≤ v ∧ v ≤ i := by
    intro i
    induction i with
    | zero => intro _ v hv; simp [depths] at hv
    | succ i ih =>
      intro hi v hv
      rw [depths_take (by omega)] at hv
      have q := ih (by omega)
      rcases List.mem_append.1 hv with h | h
      · have := q v h; omega
      · simp at h; subst h
        have := dstep_bd (x := c[i]) q (by omega)
        omega
  intro v hv
  have := this c.length (Nat.le_refl _) v (by simpa using hv)
  exact this
end Go.Proofs.Ytlmgodcfjaagpaa
