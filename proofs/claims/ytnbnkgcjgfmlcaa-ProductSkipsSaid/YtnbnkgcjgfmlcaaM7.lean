/- Parts of the proof, one after the other: Models: as values, their errors; boxes, paths, groups (plain). Models: where formulas hold (plain). Products: what they are (plain). Products: with the action model in which nothing happens; conditions that products keep (plain). Products: the pairs one after the other (plain). Lists that fill up; sets as words (plain). Models: Check of the program walked. -/
import Derived.Test.YtnbnkgcjgfmlcaaM6
set_option maxRecDepth 100000
set_option maxHeartbeats 4000000
namespace Go.Proofs.Ytnbnkgcjgfmlcaa
open Go Go.Dv

structure Mo where
  n : Int
  val : List Nat
  rel : List (List Nat)
def Mo.pv (m : Mo) : PV := .agg [.int .i64 m.n, .sl (m.val.map u64), .sl (m.rel.map rowPV)]
def cellsM (m : Mo) : List DV := [.pv (.int .i64 m.n), .pv (.sl (m.val.map u64)), .pv (.sl (m.rel.map rowPV))]
def noMo : Mo := ⟨0, [], []⟩
theorem le_noMo : PLe (.agg [.int .i64 0, .nil, .nil]) noMo.pv := PLe.aggs ⟨.refl _, .nil, .nil, trivial⟩
/-- All numbers fit a word. -/
def FitM (m : Mo) : Prop := (∀ s, s ∈ m.val → s < 2 ^ 64) ∧ ∀ r, r ∈ m.rel → ∀ s, s ∈ r → s < 2 ^ 64

/-! errors -/
def outB (n : Nat) (l : List Nat) : Bool := l.any fun s => !decide (s < 2 ^ n)
def moB1 (m : Mo) : Bool := bif decide (m.n < 1) then true else decide (m.n > 64)
def moB2 (m : Mo) : Bool := bif decide ((m.rel.length : Int) > 4) then true else decide ((m.val.length : Int) > 8)
def moB3 (m : Mo) : Bool := m.rel.any fun r => (r.length : Int) != m.n
def moB4 (m : Mo) : Bool := bif outB m.n.toNat m.val then true else m.rel.any fun r => outB m.n.toNat r
def moI (m : Mo) : Int := bif moB1 m then 2 else bif moB2 m then 8 else bif moB3 m then 3 else bif moB4 m then 2 else 0
theorem outB_no {n : Nat} {l : List Nat} : outB n l = false ↔ ∀ s, s ∈ l → s < 2 ^ n := by
  rw [outB, List.any_eq_false]
  constructor
  · intro h s hs
    have := h s hs
    simpa using this
  · intro h s hs
    simpa using h s hs
/-- What a model consists of that is without error. -/
structure OkM (m : Mo) (n : Nat) : Prop where
  nn : m.n = (n : Int)
  n1 : 1 ≤ n
  n64 : n ≤ 64
  ag : m.rel.length ≤ 4
  fa : m.val.length ≤ 8
  rows : ∀ r, r ∈ m.rel → r.length = n
  vbits : ∀ s, s ∈ m.val → s < 2 ^ n
  bits : ∀ r, r ∈ m.rel → ∀ s, s ∈ r → s < 2 ^ n
theorem moB1_no {m : Mo} (h : moB1 m = false) : ∃ n : Nat, m.n = n ∧ 1 ≤ n ∧ n ≤ 64 := by
  unfold moB1 at h
  by_cases h1 : m.n < 1
  · rw [decide_eq_true h1] at h; cases h
  · by_cases h2 : m.n > 64
    · rw [decide_eq_false h1, decide_eq_true h2] at h; cases h
    · exact ⟨m.n.toNat, by omega, by omega, by omega⟩
theorem moB2_no {m : Mo} (h : moB2 m = false) : m.rel.length ≤ 4 ∧ m.val.length ≤ 8 := by
  unfold moB2 at h
  by_cases h1 : (m.rel.length : Int) > 4
  · rw [decide_eq_true h1] at h; cases h
  · rw [decide_eq_false h1] at h
    have := of_decide_eq_false (show decide ((m.val.length : Int) > 8) = false from h)
    exact ⟨by omega, by omega⟩
theorem moI_ok {m : Mo} (h : moI m = 0) : ∃ n, OkM m n := by
  unfold moI at h
  cases h1 : moB1 m with
  | true => rw [h1] at h; cases h
  | false =>
    cases h2 : moB2 m with
    | true => rw [h1, h2] at h; cases h
    | false =>
      cases h3 : moB3 m with
      | true => rw [h1, h2, h3] at h; cases h
      | false =>
        cases h4 : moB4 m with
        | true => rw [h1, h2, h3, h4] at h; cases h
        | false =>
          obtain ⟨n, hn, g1, g2⟩ := moB1_no h1
          obtain ⟨g3, g4⟩ := moB2_no h2
          unfold moB4 at h4
          rw [hn, Int.toNat_natCast] at h4
          cases h5 : outB n m.val with
          | true => rw [h5] at h4; cases h4
          | false =>
            rw [h5] at h4
            refine ⟨n, hn, g1, g2, g3, g4, fun r hr => ?_, outB_no.1 h5, fun r hr => ?_⟩
            · have := List.any_eq_false.1 h3 r hr
              rw [hn] at this
              have h6 : ((r.length : Int) != (n : Int)) = false := by simpa using this
              have h7 : (r.length : Int) = n := by simpa using h6
              omega
            · have := List.any_eq_false.1 (show (m.rel.any fun r => outB n r) = false from h4) r hr
              exact outB_no.1 (by simpa using this)
theorem ok_moI {m : Mo} {n : Nat} (h : OkM m n) : moI m = 0 := by
  have h1 : moB1 m = false := by
    unfold moB1
    rw [h.nn, decide_eq_false (by have := h.n1; omega), decide_eq_false (by have := h.n64; omega)]; rfl
  have h2 : moB2 m = false := by
    unfold moB2
    rw [decide_eq_false (by have := h.ag; omega), decide_eq_false (by have := h.fa; omega)]; rfl
  have h3 : moB3 m = false := by
    rw [moB3, List.any_eq_false]
    intro r hr
    rw [h.rows r hr, h.nn]; simp
  have h4 : moB4 m = false := by
    unfold moB4
    rw [h.nn, Int.toNat_natCast, outB_no.2 h.vbits]
    show (m.rel.any fun r => outB n r) = false
    rw [List.any_eq_false]
    intro r hr
    rw [outB_no.2 (h.bits r hr)]; simp
  rw [moI, h1, h2, h3, h4]; rfl
theorem OkM.fit {m : Mo} {n : Nat} (h : OkM m n) : FitM m := by
  have h2 : 2 ^ n ≤ 2 ^ 64 := Nat.pow_le_pow_right (by decide) h.n64
  exact ⟨fun s hs => Nat.lt_of_lt_of_le (h.vbits s hs) h2, fun r hr s hs => Nat.lt_of_lt_of_le (h.bits r hr s hs) h2⟩

/-! sets -/
/-- Those of the first n that are not in a set. -/
def notN (n a : Nat) : Nat := maskOf (fun w => !a.testBit w) n
theorem andNotU_all {n a : Nat} (hn : n ≤ 64) : andNotU ((2 ^ n - 1 : Nat) : Int) (a : Int) = ((notN n a : Nat) : Int) := by
  have h1 : 2 ^ n - 1 < 2 ^ 64 := by
    have : 2 ^ n ≤ 2 ^ 64 := Nat.pow_le_pow_right (by decide) hn
    have := Nat.two_pow_pos n
    omega
  rw [andNotU_eq h1]
  congr 1
  apply Nat.eq_of_testBit_eq
  intro i
  rw [Nat.testBit_xor, Nat.testBit_and, Nat.testBit_two_pow_sub_one, notN, maskOf_bit]
  cases decide (i < n) <;> cases a.testBit i <;> rfl
theorem notN_lt (n a : Nat) : notN n a < 2 ^ n := maskOf_lt _ _
theorem subM_iff {a b : Nat} : subM a b = true ↔ Sub a b := by
  rw [subM, beq_iff_eq]
  constructor
  · intro h i hi
    rw [← h, Nat.testBit_and, Bool.and_eq_true] at hi
    exact hi.2
  · intro h
    apply Nat.eq_of_testBit_eq
    intro i
    rw [Nat.testBit_and]
    cases q : a.testBit i with
    | false => rfl
    | true => rw [h i q]; rfl
/-- The points all of whose successors are in a set. -/
def boxN (n : Nat) (r : List Nat) (s : Nat) : Nat := maskOf (fun w => subM (r.getD w 0) s) n
theorem boxN_lt (n : Nat) (r : List Nat) (s : Nat) : boxN n r s < 2 ^ n := maskOf_lt _ _
theorem boxN_bit {n : Nat} {r : List Nat} {s w : Nat} : (boxN n r s).testBit w = true ↔ w < n ∧ Sub (r.getD w 0) s := by
  rw [boxN, maskOf_bit, Bool.and_eq_true, decide_eq_true_eq, subM_iff]
def diaN (n : Nat) (r : List Nat) (s : Nat) : Nat := notN n (boxN n r (notN n s))
theorem diaN_lt (n : Nat) (r : List Nat) (s : Nat) : diaN n r s < 2 ^ n := maskOf_lt _ _

/-! common knowledge: the program's rounds -/
def fN (n : Nat) (r : List Nat) (c s x : Nat) : Nat := boxN n r (notN n c ||| (s &&& x))
def comP (n : Nat) (r : List Nat) (c s : Nat) : Nat → Nat
  | 0 => 2 ^ n - 1
  | k + 1 => fN n r c s (comP n r c s k)
/-- Where the worlds that one or more steps along the condition lead to are all in the set. -/
def pathN (n : Nat) (r : List Nat) (c w : Nat) : Nat := seqR [r.map fun a => a &&& c] n ((r.getD w 0) &&& c) n
def comN (n : Nat) (r : List Nat) (c s : Nat) : Nat := maskOf (fun w => subM (pathN n r c w) s) n
theorem comN_lt (n : Nat) (r : List Nat) (c s : Nat) : comN n r c s < 2 ^ n := maskOf_lt _ _
theorem comP_lt (n : Nat) (r : List Nat) (c s : Nat) : ∀ k, comP n r c s k < 2 ^ n
  | 0 => by have := Nat.two_pow_pos n; show 2 ^ n - 1 < 2 ^ n; omega
  | k + 1 => boxN_lt _ _ _
theorem fN_bit {n : Nat} {r : List Nat} {c s x w : Nat} (hb : ∀ w, r.getD w 0 < 2 ^ n) : (fN n r c s x).testBit w = true ↔ w < n ∧ ∀ v, (r.getD w 0).testBit v = true → c.testBit v = true → s.testBit v = true ∧ x.testBit v = true := by
  rw [fN, boxN_bit]
  refine and_congr_right fun hw => ?_
  constructor
  · intro h v hv hc
    have := h v hv
    rw [Nat.testBit_or, notN, maskOf_bit, hc, Nat.testBit_and] at this
    simpa using this
  · intro h v hv
    rw [Nat.testBit_or, notN, maskOf_bit, Nat.testBit_and]
    have hvn : v < n := bit_lt (hb w) hv
    cases hc : c.testBit v with
    | false => simp [hvn]
    | true =>
      obtain ⟨h1, h2⟩ := h v hv hc
      rw [h1, h2]; simp
theorem fN_mono {n : Nat} {r : List Nat} {c s x y : Nat} (hb : ∀ w, r.getD w 0 < 2 ^ n) (h : Sub x y) : Sub (fN n r c s x) (fN n r c s y) := fun w hw => by
  obtain ⟨h1, h2⟩ := (fN_bit hb).1 hw
  exact (fN_bit hb).2 ⟨h1, fun v hv hc => ⟨(h2 v hv hc).1, h v (h2 v hv hc).2⟩⟩
theorem comP_down {n : Nat} {r : List Nat} {c s : Nat} (hb : ∀ w, r.getD w 0 < 2 ^ n) : ∀ k, Sub (comP n r c s (k + 1)) (comP n r c s k)
  | 0 => fun w hw => by
    show (2 ^ n - 1).testBit w = true
    rw [Nat.testBit_two_pow_sub_one]
    exact decide_eq_true (bit_lt (comP_lt n r c s 1) hw)
  | k + 1 => fN_mono hb (comP_down hb k)
/-- As long as the rounds go on, worlds fall out. -/
theorem comP_stop {n : Nat} {r : List Nat} {c s : Nat} (hb : ∀ w, r.getD w 0 < 2 ^ n) : ∀ k, comP n r c s (k + 1) = comP n r c s k ∨ card n (comP n r c s (k + 1)) + k + 1 ≤ n
  | 0 => by
    by_cases e : comP n r c s 1 = comP n r c s 0
    · exact .inl e
    · have := card_grow (comP_down hb 0) e (comP_lt n r c s 0)
      have h2 := card_le n (comP n r c s 0)
      exact .inr (by omega)
  | k + 1 => by
    by_cases e : comP n r c s (k + 2) = comP n r c s (k + 1)
    · exact .inl e
    · rcases comP_stop (c := c) (s := s) hb k with h | h
      · exact absurd (show fN n r c s (comP n r c s (k + 1)) = comP n r c s (k + 1) by rw [h]; exact h) e
      · have := card_grow (comP_down hb (k + 1)) e (comP_lt n r c s (k + 1))
        exact .inr (by omega)

/-! the paths of the reference -/
theorem rel1_get {r : List Nat} {c e : Nat} : ([r.map fun a => a &&& c].getD 0 []).getD e 0 = r.getD e 0 &&& c := by
  show (r.map fun a => a &&& c).getD e 0 = _
  rw [List.getD_eq_getElem?_getD, List.getElem?_map, List.getD_eq_getElem?_getD]
  cases r[e]? with
  | none => simp
  | some a => rfl
theorem rel1_Rel {r : List Nat} {c n : Nat} (hl : r.length = n) (hb : ∀ s, s ∈ r → s < 2 ^ n) : Rel [r.map fun a => a &&& c] n := by
  refine ⟨fun q hq => ?_, fun q hq s hs => ?_⟩
  · rw [List.mem_singleton.1 hq, List.length_map, hl]
  · rw [List.mem_singleton.1 hq] at hs
    obtain ⟨a, ha, rfl⟩ := List.mem_map.1 hs
    exact Nat.lt_of_le_of_lt Nat.and_le_left (hb a ha)
theorem getD_lt2 {r : List Nat} {n : Nat} (hb : ∀ s, s ∈ r → s < 2 ^ n) (w : Nat) : r.getD w 0 < 2 ^ n := by
  rw [List.getD_eq_getElem?_getD]
  cases h : r[w]? with
  | none => simp; exact Nat.two_pow_pos _
  | some s => exact hb s (List.mem_iff_getElem?.2 ⟨w, h⟩)
theorem orA_one {r : List Nat} {c e : Nat} : orA [r.map fun a => a &&& c] e 1 = r.getD e 0 &&& c := by
  rw [orA, orA, Nat.zero_or]; exact rel1_get
/-- The worlds of the paths are closed under steps along the condition, and the least such set. -/
theorem pathN_closed {n : Nat} {r : List Nat} {c w : Nat} (hl : r.length = n) (hb : ∀ s, s ∈ r → s < 2 ^ n) : Closed' [r.map fun a => a &&& c] n (pathN n r c w) := by
  have hR := rel1_Rel (c := c) hl hb
  have h0 : r.getD w 0 &&& c < 2 ^ n := Nat.lt_of_le_of_lt Nat.and_le_left (getD_lt2 hb w)
  refine rndR_closed ?_
  by_cases hz : (r.getD w 0 &&& c) = 0
  · have hall : ∀ m, rndR [r.map fun a => a &&& c] 0 m = 0 := fun m => by
      induction m with
      | zero => rfl
      | succ m ih => rw [rndR, ih, inP, Nat.zero_testBit]; rfl
    have hs : ∀ k, seqR [r.map fun a => a &&& c] n 0 k = 0 := fun k => by
      induction k with
      | zero => rfl
      | succ k ih => rw [seqR, ih, hall]
    rw [pathN, hz, hs, hall]
  · have hlt := seqR_lt hR h0
    rcases grow_stops (f := fun b => rndR [r.map fun a => a &&& c] b n) (seqR [r.map fun a => a &&& c] n (r.getD w 0 &&& c)) (fun _ => rfl) hlt (fun k => rndR_sub n) hz n with g | g
    · exact g.symm
    · have := card_le n (seqR [r.map fun a => a &&& c] n (r.getD w 0 &&& c) (n + 1)); omega
theorem pathN_in {n : Nat} {r : List Nat} {c w t : Nat} (ht : Closed' [r.map fun a => a &&& c] n t) (h0 : Sub (r.getD w 0 &&& c) t) : Sub (pathN n r c w) t := seqR_in ht h0 n
theorem pathN_up {n : Nat} {r : List Nat} {c w : Nat} : Sub (r.getD w 0 &&& c) (pathN n r c w) := seqR_up n
theorem comP_comN {n : Nat} {r : List Nat} {c s k : Nat} (hl : r.length = n) (hb : ∀ s, s ∈ r → s < 2 ^ n) (hk : comP n r c s (k + 1) = comP n r c s k) : comP n r c s k = comN n r c s := by
  have hg := getD_lt2 hb
  have hlt := comP_lt n r c s
  refine sub_antisymm (fun w hw => ?_) ?_
  · rw [comN, maskOf_bit, Bool.and_eq_true, decide_eq_true_eq, subM_iff]
    refine ⟨bit_lt (hlt k) hw, ?_⟩
    have hfix : ∀ w, (comP n r c s k).testBit w = true → ∀ v, (r.getD w 0).testBit v = true → c.testBit v = true → s.testBit v = true ∧ (comP n r c s k).testBit v = true := fun w hw => by
      rw [← hk] at hw
      exact ((fN_bit hg).1 hw).2
    have hc : Closed' [r.map fun a => a &&& c] n (s &&& comP n r c s k) := fun e he hbe v hv => by
      rw [show ([r.map fun a => a &&& c] : List (List Nat)).length = 1 from rfl, orA_one, Nat.testBit_and, Bool.and_eq_true] at hv
      rw [Nat.testBit_and, Bool.and_eq_true] at hbe
      obtain ⟨h1, h2⟩ := hfix e hbe.2 v hv.1 hv.2
      rw [Nat.testBit_and, h1, h2]; rfl
    have h0 : Sub (r.getD w 0 &&& c) (s &&& comP n r c s k) := fun v hv => by
      rw [Nat.testBit_and, Bool.and_eq_true] at hv
      obtain ⟨h1, h2⟩ := hfix w hw v hv.1 hv.2
      rw [Nat.testBit_and, h1, h2]; rfl
    exact fun v hv => by
      have := pathN_in hc h0 v hv
      rw [Nat.testBit_and, Bool.and_eq_true] at this
      exact this.1
  · have key : ∀ j, Sub (comN n r c s) (comP n r c s j) := fun j => by
      induction j with
      | zero =>
        intro w hw
        show (2 ^ n - 1).testBit w = true
        rw [Nat.testBit_two_pow_sub_one]
        exact decide_eq_true (bit_lt (comN_lt n r c s) hw)
      | succ j ih =>
        intro w hw
        refine (fN_bit hg).2 ⟨bit_lt (comN_lt n r c s) hw, fun v hv hc => ?_⟩
        rw [comN, maskOf_bit, Bool.and_eq_true, subM_iff] at hw
        have hvp : (pathN n r c w).testBit v = true := pathN_up v (by rw [Nat.testBit_and, hv, hc]; rfl)
        have hvn : v < n := bit_lt (hg w) hv
        refine ⟨hw.2 v hvp, ih v ?_⟩
        rw [comN, maskOf_bit, Bool.and_eq_true, decide_eq_true_eq, subM_iff]
        refine ⟨hvn, fun u hu => hw.2 u ?_⟩
        refine pathN_in (pathN_closed hl hb) (fun u hu => ?_) u hu
        exact pathN_closed (w := w) hl hb v hvn hvp u (by rw [show ([r.map fun a => a &&& c] : List (List Nat)).length = 1 from rfl, orA_one]; exact hu)
    exact key k

/-! groups -/
/-- The relations of the agents of a group among the first i, joined; none if there is no such agent. -/
def gatP (op : Nat → Nat → Nat) (rel : List (List Nat)) (g : Int) : Nat → Option (List Nat)
  | 0 => none
  | i + 1 => bif and64 (shr64 g i) 1 == 0 then gatP op rel g i else match gatP op rel g i with
    | none => some (rel.getD i [])
    | some l => some ((List.range l.length).map fun w => op (l.getD w 0) ((rel.getD i []).getD w 0))
def badGM (m : Mo) (g : Int) : Bool := bif bif moI m != 0 then true else decide (g < 1) then true else decide (g ≥ shl64 1 (m.rel.length : Int))
def grpM (op : Nat → Nat → Nat) (m : Mo) (g : Int) (first : Nat) : List Nat := bif badGM m g then [] else (List.range m.n.toNat).map fun w => joinA op m.rel g first w m.rel.length
theorem gatP_eq {op : Nat → Nat → Nat} {rel : List (List Nat)} {n first : Nat} {g : Int} (hr : ∀ r, r ∈ rel → r.length = n) (hop : ∀ r, r ∈ rel → ∀ s, s ∈ r → op first s = s) : ∀ i, i ≤ rel.length →
    (gatP op rel g i = none → ∀ w, joinA op rel g first w i = first) ∧ ∀ l, gatP op rel g i = some l → l = (List.range n).map fun w => joinA op rel g first w i
  | 0, _ => ⟨fun _ _ => rfl, fun l h => by cases h⟩
  | i + 1, hi => by
    obtain ⟨ih1, ih2⟩ := gatP_eq (n := n) (g := g) hr hop i (by omega)
    have hn : rel[i]? = some (rel.getD i []) := getD_mem (by omega)
    have hm : rel.getD i [] ∈ rel := List.mem_iff_getElem?.2 ⟨i, hn⟩
    rw [gatP]
    have hbit : (and64 (shr64 g i) 1 == 1) = !(and64 (shr64 g i) 1 == 0) := by
      have key : ∀ a : Int, and64 a 1 = 0 ∨ and64 a 1 = 1 := fun a => by
        unfold and64
        have h1 : (BitVec.ofInt (IntKind.bits .i64) a &&& BitVec.ofInt (IntKind.bits .i64) 1).toNat ≤ 1 := by
          rw [BitVec.toNat_and]
          exact Nat.le_trans Nat.and_le_right (by decide)
        have h2 : (BitVec.ofInt (IntKind.bits .i64) a &&& BitVec.ofInt (IntKind.bits .i64) 1).toNat = 0 ∨ (BitVec.ofInt (IntKind.bits .i64) a &&& BitVec.ofInt (IntKind.bits .i64) 1).toNat = 1 := by omega
        rcases h2 with h | h <;> rw [h]
        · exact .inl rfl
        · exact .inr rfl
      rcases key (shr64 g i) with h | h <;> rw [h] <;> rfl
    cases hz : (and64 (shr64 g i) 1 == 0) with
    | true =>
      rw [hz] at hbit
      refine ⟨fun h w => ?_, fun l h => ?_⟩
      · rw [joinA, hbit]; exact ih1 h w
      · rw [ih2 l h]
        apply List.map_congr_left
        intro w _
        rw [joinA, hbit]; rfl
    | false =>
      rw [hz] at hbit
      refine ⟨fun h => ?_, fun l h => ?_⟩
      · exfalso
        simp only [cond_false] at h
        cases hg : gatP op rel g i <;> rw [hg] at h <;> cases h
      · simp only [cond_false] at h
        cases hg : gatP op rel g i with
        | none =>
          rw [hg] at h
          obtain rfl := Option.some.inj h
          apply List.ext_getElem?
          intro w
          by_cases hw : w < n
          · rw [List.getElem?_map, List.getElem?_range hw, getD_mem (show w < (rel.getD i []).length by rw [hr _ hm]; exact hw) (d := 0)]
            simp only [Option.map_some]
            rw [joinA, hbit, ih1 hg w]
            show _ = some (op first _)
            rw [hop _ hm _ (List.mem_iff_getElem?.2 ⟨w, getD_mem (show w < (rel.getD i []).length by rw [hr _ hm]; exact hw)⟩)]
          · rw [List.getElem?_eq_none (by rw [hr _ hm]; omega), List.getElem?_eq_none (by simp; omega)]
        | some l0 =>
          rw [hg] at h
          obtain rfl := Option.some.inj h
          have hl0 := ih2 l0 hg
          subst hl0
          simp only [List.length_map, List.length_range]
          apply List.map_congr_left
          intro w hw
          have hw' := List.mem_range.1 hw
          rw [List.getD_eq_getElem?_getD, List.getElem?_map, List.getElem?_range hw']
          simp only [Option.map_some, Option.getD_some]
          conv => rhs; rw [joinA, hbit]
          rfl
end Go.Proofs.Ytnbnkgcjgfmlcaa
set_option maxRecDepth 100000
set_option maxHeartbeats 4000000
namespace Go.Proofs.Ytnbnkgcjgfmlcaa
open Go Go.Dv

def orF (x y : Nat) : Nat := x ||| y
def andF (x y : Nat) : Nat := x &&& y
/-- The set of a node, given those of its operands. -/
def vlN (m : Mo) (n : Nat) (op i g : Int) (x y : Nat) : Nat :=
  bif op == 1 then 2 ^ n - 1 else bif op == 2 then 0 else bif op == 3 then m.val.getD i.toNat 0 else bif op == 4 then notN n x
  else bif op == 5 then x &&& y else bif op == 6 then x ||| y else bif op == 7 then notN n x ||| y else bif op == 8 then notN n (x ^^^ y)
  else bif op == 9 then boxN n (m.rel.getD i.toNat []) x else bif op == 10 then diaN n (m.rel.getD i.toNat []) x
  else bif op == 11 then boxN n (grpM orF m g 0) x else bif op == 12 then boxN n (grpM andF m g (2 ^ n - 1)) x else comN n (grpM orF m g 0) x y
/-- The set of a tree. -/
def vlT (m : Mo) (n : Nat) : Tr → Nat
  | .none => 0
  | .nd op i _ g a b => vlN m n op i g (vlT m n a) (vlT m n b)
theorem bif_lt {c : Bool} {a b k : Nat} (ha : a < k) (hb : b < k) : (bif c then a else b) < k := by cases c <;> assumption
theorem vlN_lt {m : Mo} {n : Nat} (hv : ∀ s, s ∈ m.val → s < 2 ^ n) {op i g : Int} {x y : Nat} (hx : x < 2 ^ n) (hy : y < 2 ^ n) : vlN m n op i g x y < 2 ^ n := by
  have hp := Nat.two_pow_pos n
  unfold vlN
  refine bif_lt (by omega) (bif_lt hp (bif_lt (getD_lt2 hv _) (bif_lt (notN_lt _ _) (bif_lt (Nat.and_lt_two_pow x hy) (bif_lt (Nat.or_lt_two_pow hx hy) (bif_lt (Nat.or_lt_two_pow (notN_lt _ _) hy) (bif_lt (notN_lt _ _) (bif_lt (boxN_lt _ _ _) (bif_lt (diaN_lt _ _ _) (bif_lt (boxN_lt _ _ _) (bif_lt (boxN_lt _ _ _) (comN_lt _ _ _ _))))))))))))
theorem vlT_lt {m : Mo} {n : Nat} (hv : ∀ s, s ∈ m.val → s < 2 ^ n) : ∀ t, vlT m n t < 2 ^ n
  | .none => Nat.two_pow_pos n
  | .nd _ _ _ _ a b => vlN_lt hv (vlT_lt hv a) (vlT_lt hv b)
/-- Is a node static, and does it fit? -/
def fitQ (m : Mo) (op i _e g : Int) : Bool :=
  bif decide (op ≤ 2) then true else bif op == 3 then !decide (i ≥ (m.val.length : Int)) else bif decide (op ≤ 8) then true
  else bif decide (op ≤ 10) then !decide (i ≥ (m.rel.length : Int)) else bif decide (op ≤ 13) then !decide (g ≥ shl64 1 (m.rel.length : Int)) else false
theorem vlN_congr {m : Mo} {n : Nat} {op i g : Int} {x y x' y' : Nat} (h1 : 1 ≤ op) (h2 : op ≤ 13) (hx : usesX op = true → x = x') (hy : usesY op = true → y = y') : vlN m n op i g x y = vlN m n op i g x' y' := by
  have : op = 1 ∨ op = 2 ∨ op = 3 ∨ op = 4 ∨ op = 5 ∨ op = 6 ∨ op = 7 ∨ op = 8 ∨ op = 9 ∨ op = 10 ∨ op = 11 ∨ op = 12 ∨ op = 13 := by omega
  rcases this with rfl | rfl | rfl | rfl | rfl | rfl | rfl | rfl | rfl | rfl | rfl | rfl | rfl
  · rfl
  · rfl
  · rfl
  · rw [hx rfl]; rfl
  · rw [hx rfl, hy rfl]
  · rw [hx rfl, hy rfl]
  · rw [hx rfl, hy rfl]
  · rw [hx rfl, hy rfl]
  · rw [hx rfl]; rfl
  · rw [hx rfl]; rfl
  · rw [hx rfl]; rfl
  · rw [hx rfl]; rfl
  · rw [hx rfl, hy rfl]
theorem fitQ_13 {m : Mo} {op i e g : Int} (h : fitQ m op i e g = true) : op ≤ 13 := by
  unfold fitQ at h
  rcases Int.lt_or_le 13 op with q | q
  · rw [show decide (op ≤ 2) = false from decide_eq_false (by omega), show (op == 3) = false by simp; omega, show decide (op ≤ 8) = false from decide_eq_false (by omega), show decide (op ≤ 10) = false from decide_eq_false (by omega), show decide (op ≤ 13) = false from decide_eq_false (by omega)] at h; cases h
  · exact q

/-! the program's way: every node, with a mark for those that are static and fit -/
def usY (op : Int) : Bool := bif (bif decide (op ≥ 5) then decide (op ≤ 8) else false) then true else op == 13
def okV (acc : List (Nat × Bool)) (x : Nd) : Bool :=
  bif usY x.op then (bif (bif decide (x.op ≥ 4) then (acc.getD x.x.toNat (0, false)).2 else true) then (acc.getD x.y.toNat (0, false)).2 else false) else (bif decide (x.op ≥ 4) then (acc.getD x.x.toNat (0, false)).2 else true)
def valV (m : Mo) (n : Nat) (x : Nd) (a b : Nat) : Nat × Bool := bif fitQ m x.op x.i x.e x.g then (vlN m n x.op x.i x.g a b, true) else (0, false)
def nodeV (m : Mo) (n : Nat) (acc : List (Nat × Bool)) (x : Nd) : Nat × Bool :=
  bif okV acc x then valV m n x (acc.getD x.x.toNat (0, false)).1 (acc.getD x.y.toNat (0, false)).1 else (0, false)
def setsV (m : Mo) (n : Nat) (f : List Nd) : List (Nat × Bool) := f.foldl (fun acc x => acc ++ [nodeV m n acc x]) []
theorem setsV_snoc (m : Mo) (n : Nat) (f : List Nd) (x : Nd) : setsV m n (f ++ [x]) = setsV m n f ++ [nodeV m n (setsV m n f) x] := by rw [setsV, List.foldl_append]; rfl
theorem setsV_take {m : Mo} {n : Nat} {f : List Nd} {i : Nat} (h : i < f.length) : setsV m n (f.take (i + 1)) = setsV m n (f.take i) ++ [nodeV m n (setsV m n (f.take i)) f[i]] := by
  rw [List.take_succ_eq_append_getElem h, setsV_snoc]
theorem setsV_len {m : Mo} {n : Nat} {f : List Nd} : ∀ i, i ≤ f.length → (setsV m n (f.take i)).length = i
  | 0, _ => rfl
  | i + 1, h => by rw [setsV_take h, List.length_append, setsV_len i (by omega)]; rfl
theorem setsV_get {m : Mo} {n : Nat} {f : List Nd} : ∀ {k i : Nat} (_h : i < k) (_hk : k ≤ f.length), (setsV m n (f.take k))[i]? = some (nodeV m n (setsV m n (f.take i)) (f[i]'(by omega)))
  | 0, i, h, _ => by omega
  | k + 1, i, h, hk => by
    rw [setsV_take hk]
    have hl := setsV_len (m := m) (n := n) (f := f) k (by omega)
    by_cases e : i = k
    · subst e
      rw [List.getElem?_append_right (by omega), hl, Nat.sub_self]; rfl
    · rw [List.getElem?_append_left (by omega)]
      exact setsV_get (by omega) (by omega)
theorem usX_eq {op : Int} (h2 : op ≤ 21) : decide (op ≥ 4) = usesX op := by
  rw [usesX, show decide (op ≤ 21) = true from decide_eq_true h2, Bool.and_true]
theorem usY_eq {op : Int} (h1 : 1 ≤ op) (h2 : op ≤ 13) : usY op = usesY op := by
  have : op = 1 ∨ op = 2 ∨ op = 3 ∨ op = 4 ∨ op = 5 ∨ op = 6 ∨ op = 7 ∨ op = 8 ∨ op = 9 ∨ op = 10 ∨ op = 11 ∨ op = 12 ∨ op = 13 := by omega
  rcases this with rfl | rfl | rfl | rfl | rfl | rfl | rfl | rfl | rfl | rfl | rfl | rfl | rfl <;> rfl
/-- Of a tree all of whose nodes are static and fit, the program reckons the set. -/
theorem setsV_tree {m : Mo} {n : Nat} {f : List Nd} (hf : Okl f) : ∀ (k i : Nat), i < k → (hi : i < f.length) → allT (fitQ m) (tree f i) = true → nodeV m n (setsV m n (f.take i)) f[i] = (vlT m n (tree f i), true)
  | 0, i, h, _, _ => by omega
  | k + 1, i, h, hi, ha => by
    have hx : f[i]? = some f[i] := List.getElem?_eq_getElem hi
    have ok := hf i _ hx
    generalize hxe : f[i] = x at hx ok
    rw [tree_nd hf hx] at ha ⊢
    rw [allT, Bool.and_eq_true, Bool.and_eq_true] at ha
    obtain ⟨⟨hq, hax⟩, hay⟩ := ha
    have h13 := fitQ_13 hq
    have sub : ∀ j : Nat, j < i → allT (fitQ m) (tree f j) = true → (setsV m n (f.take i)).getD j (0, false) = (vlT m n (tree f j), true) := fun j hj hj2 => by
      rw [List.getD_eq_getElem?_getD, setsV_get (m := m) (n := n) hj (by omega), Option.getD_some]
      exact setsV_tree hf k j (by omega) (by omega) hj2
    have hX : usesX x.op = true → (setsV m n (f.take i)).getD x.x.toNat (0, false) = (vlT m n (tree f x.x.toNat), true) := fun hu => by
      have := ok.x hu
      exact sub _ (by omega) (by rw [hu] at hax; exact hax)
    have hY : usesY x.op = true → (setsV m n (f.take i)).getD x.y.toNat (0, false) = (vlT m n (tree f x.y.toNat), true) := fun hu => by
      have := ok.y hu
      exact sub _ (by omega) (by rw [hu] at hay; exact hay)
    have hok : okV (setsV m n (f.take i)) x = true := by
      unfold okV
      rw [usX_eq ok.op.2, usY_eq ok.op.1 h13]
      cases hux : usesX x.op with
      | false =>
        have : usesY x.op = false := by
          cases huy : usesY x.op with
          | false => rfl
          | true =>
            exfalso
            simp only [usesX, usesY, Bool.and_eq_false_iff, decide_eq_false_iff_not, Bool.or_eq_true, Bool.and_eq_true, decide_eq_true_eq, beq_iff_eq] at hux huy
            omega
        rw [this]; rfl
      | true =>
        rw [hX hux]
        cases huy : usesY x.op with
        | false => rfl
        | true => rw [hY huy]; rfl
    rw [nodeV, hok, valV, hq]
    show (vlN m n x.op x.i x.g _ _, true) = (vlN m n x.op x.i x.g (vlT m n _) (vlT m n _), true)
    rw [vlN_congr (x' := vlT m n (bif usesX x.op then tree f x.x.toNat else .none)) (y' := vlT m n (bif usesY x.op then tree f x.y.toNat else .none)) ok.op.1 h13 (fun hu => by rw [hX hu, hu]; rfl) (fun hu => by rw [hY hu, hu]; rfl)]

/-! the reference's way: of a canonical list -/
/-! requests -/
def stM (A F : Nat) (op i e g : Int) : Bool := decide (fragN ⟨op, i, e, g, 0, 0⟩ < 16) && decide (agN ⟨op, i, e, g, 0, 0⟩ < 2 ^ A) && decide (factN ⟨op, i, e, g, 0, 0⟩ < 2 ^ F)
theorem statM_iff {A F : Nat} {f : List Nd} : statI A F f = 0 ↔ check f = 0 ∧ ∀ x, x ∈ comp f → stM A F x.op x.i x.e x.g = true := by
  have hfr : frags f < 2 ^ 62 := Nat.lt_of_lt_of_le (frags_lt f) (by decide)
  have hag := agents_lt f
  have hfa := facts_lt f
  have e1 : ∀ x : Nd, fragN ⟨x.op, x.i, x.e, x.g, 0, 0⟩ = fragN x := fun x => rfl
  have e2 : ∀ x : Nd, agN ⟨x.op, x.i, x.e, x.g, 0, 0⟩ = agN x := fun x => rfl
  have e3 : ∀ x : Nd, factN ⟨x.op, x.i, x.e, x.g, 0, 0⟩ = factN x := fun x => rfl
  constructor
  · intro h
    obtain ⟨h1, h2, h3⟩ := statI_ok h
    refine ⟨h1, fun x hx => ?_⟩
    rw [frag_low hfr] at h2
    have h4 : belowB (agents f) A = true ∧ belowB (facts f) F = true := by
      unfold fits at h3
      rw [h1] at h3
      cases hb : belowB (agents f) A with
      | true => rw [hb] at h3; exact ⟨rfl, h3⟩
      | false => rw [hb] at h3; cases h3
    rw [below_lt hag (by decide), below_lt hfa (by decide)] at h4
    have h5 : fragN x ≤ frags f := orN_le hx
    have h6 : agN x ≤ agents f := orN_le hx
    have h7 : factN x ≤ facts f := orN_le hx
    simp only [stM, e1, e2, e3, Bool.and_eq_true, decide_eq_true_eq]
    exact ⟨⟨by omega, by omega⟩, by omega⟩
  · rintro ⟨h1, h2⟩
    have h3 : frags f < 16 := orN_lt (k := 4) fun x hx => by
      have := h2 x hx
      simp only [stM, e1, e2, e3, Bool.and_eq_true, decide_eq_true_eq] at this
      exact this.1.1
    have h4 : agents f < 2 ^ A := orN_lt fun x hx => by
      have := h2 x hx
      simp only [stM, e1, e2, e3, Bool.and_eq_true, decide_eq_true_eq] at this
      exact this.1.2
    have h6 : facts f < 2 ^ F := orN_lt fun x hx => by
      have := h2 x hx
      simp only [stM, e1, e2, e3, Bool.and_eq_true, decide_eq_true_eq] at this
      exact this.2
    have h5 : fits f A F = true := by
      unfold fits
      rw [h1, (below_lt hag (by decide)).2 h4, show belowB (facts f) F = true from (below_lt hfa (by decide)).2 h6]; rfl
    rw [statI, h1, (frag_low hfr).2 h3, h5]; rfl
theorem fitQ_of {m : Mo} {x : Nd} {k : Int} (hA : m.rel.length ≤ 4) (h : OkNd x k) (hs : stM m.rel.length m.val.length x.op x.i x.e x.g = true) : fitQ m x.op x.i x.e x.g = true := by
  simp only [stM, Bool.and_eq_true, decide_eq_true_eq] at hs
  obtain ⟨⟨h1, h2⟩, h3⟩ := hs
  have h1 : fragN x < 16 := h1
  have h2 : agN x < 2 ^ m.rel.length := h2
  have h3 : factN x < 2 ^ m.val.length := h3
  have ho := h.op
  have h13 : x.op ≤ 13 := by
    have key : ∀ op : Nat, op < 22 → (frag (op : Int)).toNat < 16 → op ≤ 13 := by decide
    have := key x.op.toNat (by omega)
    rw [show ((x.op.toNat : Nat) : Int) = x.op by omega] at this
    have := this h1
    omega
  unfold fitQ
  rcases Int.lt_or_le 2 x.op with g1 | g1
  · rw [decide_eq_false (by omega), cond_false]
    by_cases g2 : x.op = 3
    · have hf := h.fact g2
      rw [factN, show (x.op == 3) = true by simpa using g2] at h3
      have := (Nat.pow_lt_pow_iff_right (by decide : 1 < 2)).1 (show 2 ^ x.i.toNat < 2 ^ m.val.length from h3)
      rw [show (x.op == 3) = true by simpa using g2, cond_true, decide_eq_false (by omega)]; rfl
    · rw [show (x.op == 3) = false by simpa using g2, cond_false]
      rcases Int.lt_or_le 8 x.op with g3 | g3
      · rw [decide_eq_false (by omega), cond_false]
        rcases Int.lt_or_le 10 x.op with g4 | g4
        · have hia : isAgent x.op = false := by simp [isAgent]; omega
          have hig : isGroup x.op = true := by simp [isGroup]; omega
          have hg := h.group hig
          rw [agN, hia] at h2
          have h2 : x.g.toNat < 2 ^ m.rel.length := h2
          rw [decide_eq_false (by omega), cond_false, decide_eq_true (by omega), cond_true, shl_n hA, decide_eq_false (by omega)]; rfl
        · have hia : isAgent x.op = true := by simp [isAgent]; omega
          have ha := h.agent hia
          rw [agN, hia] at h2
          have := (Nat.pow_lt_pow_iff_right (by decide : 1 < 2)).1 (show 2 ^ x.i.toNat < 2 ^ m.rel.length from h2)
          rw [decide_eq_true (by omega), cond_true, decide_eq_false (by omega)]; rfl
      · rw [decide_eq_true (by omega), cond_true]
  · rw [decide_eq_true (by omega), cond_true]
def reqI (m : Mo) (f : List Nd) : Int := bif moI m != 0 then moI m else statI (m.rel.length : Int) (m.val.length : Int) f
def holdsI (m : Mo) (f : List Nd) : Nat × Int := bif reqI m f != 0 then (0, reqI m f) else (vlT m m.n.toNat (root f), 0)
theorem reqI_ok {m : Mo} {f : List Nd} (h : reqI m f = 0) : (∃ n, OkM m n) ∧ statI (m.rel.length : Int) (m.val.length : Int) f = 0 := by
  unfold reqI at h
  cases h1 : (moI m != 0) with
  | true => rw [h1] at h; simp only [cond_true] at h; rw [h] at h1; cases h1
  | false =>
    rw [h1] at h
    exact ⟨moI_ok (by simpa using h1), h⟩
theorem all_fit {m : Mo} {f : List Nd} (hA : m.rel.length ≤ 4) (h : statI (m.rel.length : Int) (m.val.length : Int) f = 0) (i : Nat) : allT (fitQ m) (tree (comp f) i) = true := by
  obtain ⟨h1, h2⟩ := statM_iff.1 h
  refine trn_all (fun x hx => ?_) _ _
  obtain ⟨k, hk⟩ := okl_mem (comp_okl f) hx
  exact fitQ_of hA hk (h2 x hx)
theorem last_V {m : Mo} {n : Nat} {f : List Nd} (hA : m.rel.length ≤ 4) (h : statI (m.rel.length : Int) (m.val.length : Int) f = 0) : ∃ v, (setsV m n f)[f.length - 1]? = some v ∧ v.1 = vlT m n (root f) := by
  have h1 := (statM_iff.1 h).1
  have hp : 1 ≤ f.length := (check_ok h1).1
  have ha : allT (fitQ m) (tree f (f.length - 1)) = true := by
    have := all_fit hA h ((comp f).length - 1)
    rw [show tree (comp f) ((comp f).length - 1) = root f from root_comp h1] at this
    exact this
  have hg := setsV_get (m := m) (n := n) (f := f) (k := f.length) (i := f.length - 1) (by omega) (Nat.le_refl _)
  rw [List.take_length, setsV_tree (check_okl h1) (f.length) (f.length - 1) (by omega) (by omega) ha] at hg
  exact ⟨_, hg, rfl⟩
end Go.Proofs.Ytnbnkgcjgfmlcaa
set_option maxRecDepth 100000
set_option maxHeartbeats 4000000
namespace Go.Proofs.Ytnbnkgcjgfmlcaa
open Go Go.Dv

/-! action models for some agents and facts -/
theorem stat_mono {A F : Nat} {f : List Nd} (hF : F ≤ 8) (h : statI A F f = 0) : statI A 8 f = 0 := by
  obtain ⟨h1, h2⟩ := statM_iff.1 h
  refine (statM_iff (F := 8)).2 ⟨h1, fun x hx => ?_⟩
  have := h2 x hx
  simp only [stM, Bool.and_eq_true, decide_eq_true_eq] at this ⊢
  exact ⟨this.1, Nat.lt_of_lt_of_le this.2 (Nat.pow_le_pow_right (by decide) hF)⟩
theorem chgs_mono {A F : Nat} (hF : F ≤ 8) : ∀ {l : List Asg} {last : Int}, chgs A F l last = 0 → chgs A 8 l last = 0
  | [], _, _ => rfl
  | x :: r, last, h => by
    rw [chgs] at h ⊢
    cases h1 : decide (x.fact < 0) with
    | true => rw [h1] at h; cases h
    | false =>
      cases h2 : decide (x.fact ≥ (F : Int)) with
      | true => rw [h1, h2] at h; cases h
      | false =>
        rw [h1, h2] at h
        have q2 := of_decide_eq_false h2
        rw [decide_eq_false (show ¬ x.fact ≥ 8 by omega)]
        cases h3 : decide (x.fact ≤ last) with
        | true => rw [h3] at h; cases h
        | false =>
          rw [h3] at h
          have h4 : statI A F x.to = 0 := by
            by_cases q : statI A F x.to = 0
            · exact q
            · rw [show (statI A F x.to != 0) = true by simpa using q] at h; exact h
          rw [h4] at h
          rw [stat_mono hF h4]
          exact chgs_mono hF h
theorem act_alone {a : Act} {A F : Nat} (hF : F ≤ 8) (h : actI a A F = 0) : aloneI a = 0 ∧ a.rel.length = A := by
  have hO := actI_ok h
  have hA : a.rel.length = A := by have := hO.ags; omega
  subst hA
  obtain ⟨e1, e2⟩ := evs_all hO.ev
  refine ⟨valid_of hO.agn hO.n1 hO.n8 hO.post hO.rows hO.bits (fun f hf => stat_mono hF (e1 f hf)) fun l hl => ?_, rfl⟩
  obtain ⟨e, he, rfl⟩ := List.mem_iff_getElem.1 hl
  have := e2 e (by rw [← hO.post]; exact he)
  rw [List.getD_eq_getElem?_getD, List.getElem?_eq_getElem he] at this
  exact chgs_mono hF this

/-! pairs -/
/-- Where the precondition of an event holds. -/
def possP (m : Mo) (a : Act) (e : Nat) : Nat := (holdsI m (a.pre.getD e [])).1
/-- The pairs with a world, those with the first e events. -/
def pairsE (p : Nat → Nat) (w : Nat) : Nat → List (Nat × Nat)
  | 0 => []
  | e + 1 => bif (p e).testBit w then pairsE p w e ++ [(w, e)] else pairsE p w e
/-- The pairs with the first w worlds. -/
def pairsW (p : Nat → Nat) (k : Nat) : Nat → List (Nat × Nat)
  | 0 => []
  | w + 1 => pairsW p k w ++ pairsE p w k
theorem pairsE_mem {p : Nat → Nat} {w : Nat} {q : Nat × Nat} : ∀ {e : Nat}, q ∈ pairsE p w e ↔ q.1 = w ∧ q.2 < e ∧ (p q.2).testBit w = true
  | 0 => by simp [pairsE]
  | e + 1 => by
    have ih := pairsE_mem (p := p) (w := w) (q := q) (e := e)
    rw [pairsE]
    cases h : (p e).testBit w with
    | true =>
      rw [cond_true, List.mem_append, ih, List.mem_singleton]
      constructor
      · rintro (⟨h1, h2, h3⟩ | rfl)
        · exact ⟨h1, by omega, h3⟩
        · exact ⟨rfl, by show e < e + 1; omega, h⟩
      · rintro ⟨h1, h2, h3⟩
        by_cases q2 : q.2 = e
        · exact .inr (by rw [← h1, ← q2])
        · exact .inl ⟨h1, by omega, h3⟩
    | false =>
      rw [cond_false, ih]
      constructor
      · rintro ⟨h1, h2, h3⟩; exact ⟨h1, by omega, h3⟩
      · rintro ⟨h1, h2, h3⟩
        refine ⟨h1, ?_, h3⟩
        by_cases q2 : q.2 = e
        · rw [q2, h] at h3; cases h3
        · omega
theorem pairsW_mem {p : Nat → Nat} {k : Nat} {q : Nat × Nat} : ∀ {w : Nat}, q ∈ pairsW p k w ↔ q.1 < w ∧ q.2 < k ∧ (p q.2).testBit q.1 = true
  | 0 => by simp [pairsW]
  | w + 1 => by
    rw [pairsW, List.mem_append, pairsW_mem, pairsE_mem]
    constructor
    · rintro (⟨h1, h2, h3⟩ | ⟨h1, h2, h3⟩)
      · exact ⟨by omega, h2, h3⟩
      · exact ⟨by omega, h2, by rw [h1]; exact h3⟩
    · rintro ⟨h1, h2, h3⟩
      by_cases e : q.1 = w
      · exact .inr ⟨e, h2, by rw [← e]; exact h3⟩
      · exact .inl ⟨by omega, h2, h3⟩
theorem pairsE_len (p : Nat → Nat) (w : Nat) : ∀ e, (pairsE p w e).length ≤ e
  | 0 => Nat.le_refl _
  | e + 1 => by
    have := pairsE_len p w e
    rw [pairsE]
    cases (p e).testBit w with
    | true => rw [cond_true, List.length_append, List.length_singleton]; omega
    | false => rw [cond_false]; omega
theorem pairsW_len (p : Nat → Nat) (k : Nat) : ∀ w, (pairsW p k w).length ≤ w * k
  | 0 => by simp [pairsW]
  | w + 1 => by
    have h1 := pairsW_len p k w
    have h2 := pairsE_len p w k
    rw [pairsW, List.length_append, Nat.add_mul]; omega
def pairPV (q : Nat × Nat) : PV := .agg [i64 q.1, i64 q.2]
def pairsL (m : Mo) (a : Act) : List (Nat × Nat) := pairsW (possP m a) a.pre.length m.n.toNat
/-- The error of a model and an action model. -/
def moaI (m : Mo) (a : Act) : Int := bif moI m != 0 then moI m else actI a (m.rel.length : Int) (m.val.length : Int)
def worldsI (m : Mo) (a : Act) : List (Nat × Nat) × Int :=
  bif moaI m a != 0 then ([], moaI m a) else bif ((pairsL m a).length : Int) == 0 then ([], 11) else (pairsL m a, 0)
def worldsPV (x : List (Nat × Nat) × Int) : PV := .tup [.sl (x.1.map pairPV), .int .i64 x.2]
theorem le_worlds (e : Int) : PLe (.tup [.nil, .int .i64 e]) (worldsPV ([], e)) := PLe.tups ⟨.nil, .refl _, trivial⟩
theorem moaI_ok {m : Mo} {a : Act} (h : moaI m a = 0) : (∃ n, OkM m n) ∧ actI a (m.rel.length : Int) (m.val.length : Int) = 0 := by
  unfold moaI at h
  cases h1 : (moI m != 0) with
  | true => rw [h1] at h; simp only [cond_true] at h; rw [h] at h1; cases h1
  | false =>
    rw [h1] at h
    exact ⟨moI_ok (by simpa using h1), h⟩
/-- The preconditions have sets. -/
theorem pre_holds {m : Mo} {a : Act} (h : moaI m a = 0) {e : Nat} (he : e < a.pre.length) : holdsI m (a.pre.getD e []) = (possP m a e, 0) ∧ possP m a e < 2 ^ m.n.toNat := by
  obtain ⟨⟨n, hM⟩, hA⟩ := moaI_ok h
  have hs := (evs_all (actI_ok hA).ev).1 _ (List.mem_iff_getElem?.2 ⟨e, getD_mem he (d := [])⟩)
  have hr : reqI m (a.pre.getD e []) = 0 := by rw [reqI, ok_moI hM]; exact hs
  have hh : holdsI m (a.pre.getD e []) = (vlT m m.n.toNat (root (a.pre.getD e [])), 0) := by rw [holdsI, hr]; rfl
  refine ⟨by rw [possP, hh], ?_⟩
  rw [possP, hh, hM.nn, Int.toNat_natCast]
  exact vlT_lt hM.vbits _

/-! products -/
/-- Where a fact gets a true formula by an event. -/
def valuP (m : Mo) (a : Act) (e i : Nat) : Nat := (holdsI m (valI a e i).1).1
def valP (m : Mo) (a : Act) (l : List (Nat × Nat)) (i : Nat) : Nat := maskOf (fun k => (valuP m a (l.getD k (0, 0)).2 i).testBit (l.getD k (0, 0)).1) l.length
def seesP (r q : List Nat) (x y : Nat × Nat) : Bool := bif (r.getD x.1 0).testBit y.1 then (q.getD x.2 0).testBit y.2 else false
def rowP (r q : List Nat) (l : List (Nat × Nat)) (x : Nat × Nat) : Nat := maskOf (fun k => seesP r q x (l.getD k (0, 0))) l.length
def relP (m : Mo) (a : Act) (l : List (Nat × Nat)) (i : Nat) : List Nat := l.map (rowP (m.rel.getD i []) (a.rel.getD i []) l)
def prodM (m : Mo) (a : Act) (l : List (Nat × Nat)) : Mo := ⟨(l.length : Int), (List.range m.val.length).map (valP m a l), (List.range m.rel.length).map (relP m a l)⟩
def updI (m : Mo) (a : Act) : Mo × List (Nat × Nat) × Int :=
  bif (worldsI m a).2 != 0 then (noMo, [], (worldsI m a).2) else bif decide (((worldsI m a).1.length : Int) > 64) then (noMo, [], 8) else (prodM m a (worldsI m a).1, (worldsI m a).1, 0)
def updPV (x : Mo × List (Nat × Nat) × Int) : PV := .tup [x.1.pv, .sl (x.2.1.map pairPV), .int .i64 x.2.2]
theorem le_upd (e : Int) : PLe (.tup [.agg [.int .i64 0, .nil, .nil], .nil, .int .i64 e]) (updPV (noMo, [], e)) := PLe.tups ⟨le_noMo, .nil, .refl _, trivial⟩
theorem worldsI_ok {m : Mo} {a : Act} (h : (worldsI m a).2 = 0) : moaI m a = 0 ∧ (worldsI m a).1 = pairsL m a ∧ 1 ≤ (pairsL m a).length := by
  unfold worldsI at h ⊢
  cases h1 : (moaI m a != 0) with
  | true => rw [h1] at h; simp only [cond_true] at h; rw [h] at h1; cases h1
  | false =>
    rw [h1] at h
    cases h2 : (((pairsL m a).length : Int) == 0) with
    | true => rw [h2] at h; cases h
    | false =>
      have : ¬ ((pairsL m a).length : Int) = 0 := by simpa using h2
      exact ⟨by simpa using h1, rfl, by omega⟩
theorem valI_ok {m : Mo} {a : Act} (h : moaI m a = 0) {e i : Nat} (he : e < a.pre.length) (hi : i < m.val.length) : (valI a e i).2 = 0 := by
  obtain ⟨⟨n, hM⟩, hA⟩ := moaI_ok h
  have h1 := (act_alone hM.fa hA).1
  have h2 : badEv a (e : Int) = false := by
    unfold badEv
    rw [decide_eq_false (by omega), decide_eq_false (by omega)]; rfl
  have h3 : badF (i : Int) = false := by
    have := hM.fa
    unfold badF
    rw [decide_eq_false (by omega), decide_eq_false (by omega)]; rfl
  rw [valI, h1, h2, h3]; rfl
theorem holds_lt {m : Mo} {f : List Nd} (n : Nat) (hM : OkM m n) : (holdsI m f).1 < 2 ^ n := by
  unfold holdsI
  cases (reqI m f != 0) with
  | true => exact Nat.two_pow_pos n
  | false =>
    show vlT m m.n.toNat (root f) < 2 ^ n
    rw [hM.nn, Int.toNat_natCast]
    exact vlT_lt hM.vbits _
def badW (m : Mo) (w : Int) : Bool := bif decide (w < 0) then true else decide (w ≥ m.n)
def atI (m : Mo) (w : Int) (a : Act) (e : Int) : Mo × Int × Int :=
  bif (updI m a).2.2 != 0 then (noMo, 0, (updI m a).2.2) else bif badW m w then (noMo, 0, 2) else bif badEv a e then (noMo, 0, 6)
  else match (updI m a).2.1.findIdx? fun q => (bif (q.1 : Int) == w then (q.2 : Int) == e else false) with
    | none => (noMo, 0, 11)
    | some i => ((updI m a).1, (i : Int), 0)
def atPV (x : Mo × Int × Int) : PV := .tup [x.1.pv, .int .i64 x.2.1, .int .i64 x.2.2]
end Go.Proofs.Ytnbnkgcjgfmlcaa
set_option maxRecDepth 100000
set_option maxHeartbeats 4000000
namespace Go.Proofs.Ytnbnkgcjgfmlcaa
open Go Go.Dv

theorem true_stat : ∀ A : Nat, A < 5 → ∀ F : Nat, F < 9 → statI A F (buildL (n0 1) []) = 0 := by decide +kernel
theorem fact_stat : ∀ A : Nat, A < 5 → ∀ F : Nat, F < 9 → ∀ i : Nat, i < F → statI A F (buildL (nI 3 i) []) = 0 := by decide +kernel
theorem true_root : root (buildL (n0 1) []) = .nd 1 0 0 0 .none .none := by decide +kernel
theorem fact_root : ∀ i : Nat, i < 8 → root (buildL (nI 3 i) []) = .nd 3 i 0 0 .none .none := by decide +kernel
theorem holds_true {m : Mo} {n : Nat} (hM : OkM m n) : holdsI m (buildL (n0 1) []) = (2 ^ n - 1, 0) := by
  have hr : reqI m (buildL (n0 1) []) = 0 := by
    rw [reqI, ok_moI hM]
    exact true_stat _ (by have := hM.ag; omega) _ (by have := hM.fa; omega)
  rw [holdsI, hr, true_root, hM.nn]; rfl
theorem holds_fact {m : Mo} {n : Nat} (hM : OkM m n) {i : Nat} (hi : i < m.val.length) : holdsI m (buildL (nI 3 i) []) = (m.val.getD i 0, 0) := by
  have hr : reqI m (buildL (nI 3 i) []) = 0 := by
    rw [reqI, ok_moI hM]
    exact fact_stat _ (by have := hM.ag; omega) _ (by have := hM.fa; omega) i hi
  rw [holdsI, hr, fact_root i (by have := hM.fa; omega)]; rfl
def skipA (A : Nat) : Act := ⟨[buildL (n0 1) []], [[]], onesL A⟩
theorem skip_act : ∀ A : Nat, A < 5 → ∀ F : Nat, F < 9 → actI (skipA A) A F = 0 := by decide +kernel
theorem skip_pub {A : Nat} (hA : A ≤ 4) : pubI A (buildL (n0 1) []) = (skipA A, 0) := by
  have h1 : badAg (A : Int) = false := by
    unfold badAg
    rw [decide_eq_false (by omega), decide_eq_false (by omega)]; rfl
  rw [pubI, h1, stat_true hA, comp_true]; rfl
theorem all_bit {n i : Nat} (h : i < n) : (2 ^ n - 1).testBit i = true := by rw [Nat.testBit_two_pow_sub_one]; exact decide_eq_true h
theorem skip_pairs {n k : Nat} (hk : k ≤ n) {p : Nat → Nat} (hp : p 0 = 2 ^ n - 1) : pairsW p 1 k = (List.range k).map fun w => (w, 0) := by
  induction k with
  | zero => rfl
  | succ k ih =>
    rw [pairsW, ih (by omega), List.range_succ, List.map_append, pairsE, hp, all_bit (show k < n by omega)]; rfl
/-- The product with the action model in which nothing happens is the model. -/
theorem prod_skip {m : Mo} {n : Nat} (hM : OkM m n) : updI m (skipA m.rel.length) = (m, (List.range n).map fun w => (w, 0), 0) := by
  have hag := hM.ag
  have hfa := hM.fa
  have hE : moaI m (skipA m.rel.length) = 0 := by
    rw [moaI, ok_moI hM]; exact skip_act _ (by omega) _ (by omega)
  have hp0 : possP m (skipA m.rel.length) 0 = 2 ^ n - 1 := by
    show (holdsI m (buildL (n0 1) [])).1 = _
    rw [holds_true hM]
  have hl : pairsL m (skipA m.rel.length) = (List.range n).map fun w => (w, 0) := by
    rw [pairsL, hM.nn]; exact skip_pairs (Nat.le_refl n) hp0
  have hn1 := hM.n1
  have hn64 := hM.n64
  have hW : worldsI m (skipA m.rel.length) = ((List.range n).map (fun w => (w, 0)), 0) := by
    rw [worldsI, hE, hl]
    rw [show (((((List.range n).map fun w => (w, 0)) : List (Nat × Nat)).length : Int) == 0) = false by rw [List.length_map, List.length_range]; simp; omega]; rfl
  have hgd : ∀ k, k < n → ((List.range n).map fun w => (w, 0)).getD k (0, 0) = (k, 0) := fun k hk => by
    rw [List.getD_eq_getElem?_getD, List.getElem?_map, List.getElem?_range hk]; rfl
  have hlen : ((List.range n).map fun w => (w, 0)).length = n := by simp
  rw [updI, hW]
  show (bif decide ((((List.range n).map fun w => (w, 0)).length : Int) > 64) then _ else _) = _
  rw [decide_eq_false (by rw [hlen]; omega)]
  show (prodM m (skipA m.rel.length) _, _, (0 : Int)) = _
  congr 1
  obtain ⟨mn, val, rel⟩ := m
  have e0 : mn = (n : Int) := hM.nn
  have e1 : (List.range val.length).map (valP ⟨mn, val, rel⟩ (skipA rel.length) ((List.range n).map fun w => (w, 0))) = val := by
    apply List.ext_getElem (by simp)
    intro i h1 h2
    rw [List.getElem_map, List.getElem_range]
    have hvi : valI (skipA rel.length) (0 : Nat) (i : Nat) = (buildL (nI 3 i) [], 0) := by
      have h3 : badF (i : Int) = false := by
        have : val.length ≤ 8 := hfa
        unfold badF
        rw [decide_eq_false (by omega), decide_eq_false (by omega)]; rfl
      have h4 := (act_alone (F := 8) (Nat.le_refl 8) (skip_act rel.length (by have : rel.length ≤ 4 := hag; omega) 8 (by decide))).1
      rw [valI, h4, h3]; rfl
    have hv : valuP ⟨mn, val, rel⟩ (skipA rel.length) 0 i = val[i] := by
      rw [valuP, hvi, holds_fact hM h2]
      show val.getD i 0 = val[i]
      rw [List.getD_eq_getElem?_getD, List.getElem?_eq_getElem h2]; rfl
    rw [valP, hlen, maskOf_congr (r := (val[i]).testBit) fun k hk => by rw [hgd k hk, hv]]
    exact maskOf_self (hM.vbits _ (List.getElem_mem h2))
  have e2 : (List.range rel.length).map (relP ⟨mn, val, rel⟩ (skipA rel.length) ((List.range n).map fun w => (w, 0))) = rel := by
    apply List.ext_getElem (by simp)
    intro i h1 h2
    rw [List.getElem_map, List.getElem_range]
    have hri : rel.getD i [] = rel[i] := by rw [List.getD_eq_getElem?_getD, List.getElem?_eq_getElem h2]; rfl
    have hrl : rel[i].length = n := hM.rows _ (List.getElem_mem h2)
    have hone : (skipA rel.length).rel.getD i [] = [1] := by
      show (onesL rel.length).getD i [] = [1]
      rw [List.getD_eq_getElem?_getD, onesL, List.getElem?_replicate, if_pos h2]; rfl
    rw [relP]
    show List.map (rowP (rel.getD i []) ((skipA rel.length).rel.getD i []) _) _ = rel[i]
    rw [hri, hone, List.map_map]
    apply List.ext_getElem (by simp [hrl])
    intro w g1 g2
    have hwn : w < n := by omega
    simp only [List.getElem_map, List.getElem_range, Function.comp]
    rw [rowP, hlen, maskOf_congr (r := (rel[i][w]).testBit) fun k hk => by
      rw [hgd k hk, seesP]
      show (bif (rel[i].getD w 0).testBit k then ([1].getD 0 0).testBit 0 else false) = _
      rw [List.getD_eq_getElem?_getD, List.getElem?_eq_getElem g2, Option.getD_some]
      cases (rel[i][w]).testBit k <;> rfl]
    exact maskOf_self (hM.bits _ (List.getElem_mem h2) _ (List.getElem_mem g2))
  rw [prodM]
  show Mo.mk _ ((List.range val.length).map _) ((List.range rel.length).map _) = _
  rw [e1, e2, hlen, e0]
end Go.Proofs.Ytnbnkgcjgfmlcaa
set_option maxRecDepth 100000
set_option maxHeartbeats 4000000
namespace Go.Proofs.Ytnbnkgcjgfmlcaa
open Go Go.Dv

/-- The pairs before (w, e). -/
def pairsB (p : Nat → Nat) (k w e : Nat) : List (Nat × Nat) := pairsW p k w ++ pairsE p w e
theorem pairsB_zero (p : Nat → Nat) (k w : Nat) : pairsB p k w 0 = pairsW p k w := List.append_nil _
theorem pairsB_full (p : Nat → Nat) (k w : Nat) : pairsB p k w k = pairsW p k (w + 1) := rfl
theorem pairsB_succ (p : Nat → Nat) (k w e : Nat) : pairsB p k w (e + 1) = bif (p e).testBit w then pairsB p k w e ++ [(w, e)] else pairsB p k w e := by
  unfold pairsB
  rw [pairsE]
  cases (p e).testBit w with
  | true => exact (List.append_assoc _ _ _).symm
  | false => rfl
end Go.Proofs.Ytnbnkgcjgfmlcaa
set_option maxRecDepth 100000
set_option maxHeartbeats 4000000
namespace Go.Proofs.Ytnbnkgcjgfmlcaa
open Go Go.Dv

/-- A list of n elements of which the first e are new. -/
def mixV (n : Nat) (p q : Nat → PV) (e : Nat) : List PV := (List.range n).map fun j => bif decide (j < e) then p j else q j
theorem mixV_len (n : Nat) (p q : Nat → PV) (e : Nat) : (mixV n p q e).length = n := by simp [mixV]
theorem mixV_get {n : Nat} {p q : Nat → PV} {e j : Nat} (h : j < n) : (mixV n p q e)[j]? = some (bif decide (j < e) then p j else q j) := by
  simp [mixV, List.getElem?_map, List.getElem?_range h]
theorem mixV_old {n : Nat} {p q : Nat → PV} {e : Nat} (h : e < n) : (mixV n p q e)[e]? = some (q e) := by
  rw [mixV_get h, decide_eq_false (Nat.lt_irrefl e)]; rfl
theorem mixV_new {n : Nat} {p q : Nat → PV} {e j : Nat} (h : j < n) (hj : j < e) : (mixV n p q e)[j]? = some (p j) := by
  rw [mixV_get h, decide_eq_true hj]; rfl
theorem mixV_set {n : Nat} {p q : Nat → PV} {e : Nat} : (mixV n p q e).set e (p e) = mixV n p q (e + 1) := by
  apply List.ext_getElem?
  intro i
  rw [List.getElem?_set]
  by_cases hi : i < n
  · rw [mixV_get hi, mixV_get hi, mixV_len]
    by_cases he : e = i
    · subst he; simp [hi]
    · have : decide (i < e + 1) = decide (i < e) := by
        by_cases q : i < e
        · simp [q, Nat.lt_succ_of_lt q]
        · have : ¬ i < e + 1 := by omega
          simp [q, this]
      simp [he, this]
  · rw [List.getElem?_eq_none (by rw [mixV_len]; omega), List.getElem?_eq_none (by rw [mixV_len]; omega), mixV_len]
    split
    · split
      · rename_i h3 h4; omega
      · rfl
    · rfl
theorem mixV_zero (n : Nat) (p q : Nat → PV) : mixV n p q 0 = (List.range n).map q := by simp [mixV]
theorem mixV_rep (n : Nat) (p : Nat → PV) (z : PV) : List.replicate n z = mixV n p (fun _ => z) 0 := by
  rw [mixV_zero]
  apply List.ext_getElem (by simp)
  intro i h1 h2
  simp
theorem mixV_full (n : Nat) (p q : Nat → PV) : mixV n p q n = (List.range n).map p := by
  apply List.map_congr_left
  intro j hj
  rw [decide_eq_true (List.mem_range.1 hj)]; rfl
theorem range_map {α : Type} {g : α → PV} {d : α} (l : List α) : (List.range l.length).map (fun j => g (l.getD j d)) = l.map g := map_getD rfl

/-! sets as words -/
theorem pow64_le {n : Nat} (hn : n ≤ 64) : 2 ^ n ≤ 2 ^ 64 := Nat.pow_le_pow_right (by decide) hn
def xorU (a b : Int) : Int := IntKind.wrap .u64 ((BitVec.ofInt (IntKind.bits .u64) a ^^^ BitVec.ofInt (IntKind.bits .u64) b).toNat : Int)
theorem xorU_nat {a b : Nat} (ha : a < 2 ^ 64) (hb : b < 2 ^ 64) : xorU a b = ((a ^^^ b : Nat) : Int) := by
  have hlt : a ^^^ b < 2 ^ 64 := Nat.xor_lt_two_pow ha hb
  unfold xorU
  show IntKind.wrap .u64 ((BitVec.ofInt 64 (a : Int) ^^^ BitVec.ofInt 64 (b : Int)).toNat : Int) = _
  rw [ofInt_nat, ofInt_nat, BitVec.toNat_xor, ofNat_toNat ha, ofNat_toNat hb, wrapU (by omega) (by omega)]
/-- All bits but those of a word. -/
def complN (a : Nat) : Nat := (2 ^ 64 - 1) ^^^ a
theorem complN_lt {a : Nat} (ha : a < 2 ^ 64) : complN a < 2 ^ 64 := Nat.xor_lt_two_pow (by decide) ha
theorem complN_bit {a i : Nat} (hi : i < 64) : (complN a).testBit i = !a.testBit i := by
  rw [complN, Nat.testBit_xor, Nat.testBit_two_pow_sub_one, decide_eq_true hi]; cases a.testBit i <;> rfl
theorem compl_run {a : Nat} (ha : a < 2 ^ 64) : IntKind.wrap .u64 ((BitVec.ofInt (IntKind.bits .u64) (if (IntKind.u64).signed then -1 else IntKind.max .u64) ^^^ BitVec.ofInt (IntKind.bits .u64) (a : Int)).toNat : Int) = ((complN a : Nat) : Int) :=
  xorU_nat (a := 2 ^ 64 - 1) (by decide) ha
theorem shr_all {n : Nat} (h1 : 1 ≤ n) (hn : n ≤ 64) : shrU 18446744073709551615 ((64 : Int) - n) = ((2 ^ n - 1 : Nat) : Int) := by
  have e : ((64 : Int) - n) = ((64 - n : Nat) : Int) := by omega
  rw [e, show (18446744073709551615 : Int) = ((2 ^ 64 - 1 : Nat) : Int) from rfl, shrU_nat _ _ (by omega)]
  congr 1
  apply Nat.eq_of_testBit_eq
  intro i
  rw [Nat.testBit_shiftRight, Nat.testBit_two_pow_sub_one, Nat.testBit_two_pow_sub_one]
  congr 1
  rw [eq_iff_iff]; omega
theorem andNotU_out {n s : Nat} (hn : n ≤ 64) (hs : s < 2 ^ 64) : (andNotU (s : Int) ((2 ^ n - 1 : Nat) : Int) != 0) = !decide (s < 2 ^ n) := by
  have h := andNotU_subM (b := 2 ^ n - 1) hs
  rw [bne, h]
  congr 1
  rw [Bool.eq_iff_iff, subM_iff, decide_eq_true_eq]
  constructor
  · intro h
    apply Nat.lt_pow_two_of_testBit
    intro i hi
    cases hb : s.testBit i with
    | false => rfl
    | true =>
      have := h i hb
      rw [Nat.testBit_two_pow_sub_one, decide_eq_true_eq] at this
      omega
  · intro h i hi
    exact all_bit (bit_lt h hi)
theorem andNotU_sub {a b : Nat} (ha : a < 2 ^ 64) : (andNotU (a : Int) (b : Int) == 0) = subM a b := andNotU_subM ha
theorem box_compl {n : Nat} {r : List Nat} {s : Nat} (hn : n ≤ 64) (hb : ∀ s, s ∈ r → s < 2 ^ n) : boxN n r (complN s) = boxN n r (notN n s) := by
  refine maskOf_congr fun w _ => ?_
  rw [Bool.eq_iff_iff, subM_iff, subM_iff]
  have hg := getD_lt2 hb w
  constructor
  · intro h i hi
    have := h i hi
    have hin := bit_lt hg hi
    rw [complN_bit (by omega)] at this
    rw [notN, maskOf_bit, this, decide_eq_true hin]; rfl
  · intro h i hi
    have := h i hi
    have hin := bit_lt hg hi
    rw [notN, maskOf_bit, Bool.and_eq_true] at this
    rw [complN_bit (by omega)]; exact this.2
theorem mask_or {q : Nat → Bool} {w : Nat} (hq : q w = true) : maskOf q w ||| 2 ^ w = maskOf q (w + 1) := by rw [maskOf, hq]; rfl
theorem mask_no {q : Nat → Bool} {w : Nat} (hq : q w = false) : maskOf q w = maskOf q (w + 1) := by rw [maskOf, hq]; rfl
theorem mask_lt64 (q : Nat → Bool) {w : Nat} (hw : w ≤ 64) : maskOf q w < 2 ^ 64 := Nat.lt_of_lt_of_le (maskOf_lt q w) (pow64_le hw)
theorem or_shl {q : Nat → Bool} {w : Nat} (hw : w < 64) (hq : q w = true) : orU (maskOf q w : Nat) (shlU 1 (w : Int)) = ((maskOf q (w + 1) : Nat) : Int) := by
  rw [shlU_one hw, orU_nat (mask_lt64 q (by omega)) (Nat.pow_lt_pow_right (by decide) hw), mask_or hq]
end Go.Proofs.Ytnbnkgcjgfmlcaa
set_option maxRecDepth 100000
set_option maxHeartbeats 4000000
namespace Go.Proofs.Ytnbnkgcjgfmlcaa
open Go Go.Dv

theorem all_nat {n : Nat} (hn : n < 64) : IntKind.wrap .u64 (shlU 1 (n : Int) - 1) = ((2 ^ n - 1 : Nat) : Int) := by
  have h2 := Nat.two_pow_pos n
  have h3 : 2 ^ n < 2 ^ 64 := Nat.pow_lt_pow_right (by decide) hn
  rw [shlU_one hn, wrapU (by omega) (by omega)]; omega
theorem md_all (n : Nat) (hn : n ≤ 64) : PureFn Try.prog 82 [i64 n] (u64 (2 ^ n - 1)) := by
  refine PureFn.intro mixed (fn := Try.f82) rfl rfl rfl fun M w0 => ?_
  (try (conv => whnf)); repeat' (first | (apply And.intro <;> (try (conv => whnf))) | (intro h; first | (with_reducible exact tf0 h) | (with_reducible exact ft0 h) | (with_reducible exact nt0 h) | (with_reducible exact nf0 h) | (exact litz h rfl) | (with_reducible exact tf h (by with_reducible assumption)) | (with_reducible exact tf (by with_reducible assumption) h) | (try (conv => whnf))) | (with_reducible rfl) | (apply True.intro) | (apply infoT; rfl) | (apply bleI; rfl) | (apply fitI; rfl) | (apply cellsI; rfl) | (apply szI; rfl) | (apply guardI; kernel_rfl) | (apply WhenQ.mk; (try (conv => whnf)); rotate_left; (try (conv => whnf)); rotate_right) | (with_reducible assumption) | (apply not_of; with_reducible assumption) | (apply left_of; with_reducible assumption) | (apply left_of; apply left_of; with_reducible assumption) | (apply and_of <;> first | (with_reducible assumption) | (apply not_of; with_reducible assumption))| (refine lin_plan (by kernel_rfl) ?_; (try (conv => whnf))) | (refine ⟨_, _, rfl, idx_map (by with_reducible assumption), rfl, ?_⟩; (try (conv => whnf))) | (refine ⟨rfl, ?_⟩; (try (conv => whnf))) | (exact Nat.le_refl 1) | ((apply ex3); (focus (with_reducible assumption)); (focus (with_reducible assumption)); (try (conv => whnf))) | ((apply ex2); (focus (with_reducible assumption)); (try (conv => whnf))) | fail)
  · have h1 := of_decide_eq_true h
    obtain rfl : n = 64 := by omega
    exact .refl _
  · exact Int.natCast_nonneg _
  · have h1 := of_decide_eq_false h
    exact le_int (all_nat (by omega))
def HO (n : Nat) : List (Nat × DObj) := [(0, .var [.pv (i64 n)])]
theorem out1 {M : Nat → Prop} {w0 : World} (n s : Nat) (hn : n ≤ 64) (hs : s < 2 ^ 64) (base : Nat) (K : DV → DH → Prop) (hK : K (.pv (.bool (!decide (s < 2 ^ n)))) ⟨1, 0, base, objsOf (HO n)⟩) :
    DC Try.prog M w0 81 [.pv (u64 s), .ref 0 0] ⟨1, 0, base, objsOf (HO n)⟩ K := by
  refine DC.weaken (DC.intro mixed (fn := Try.f81) rfl rfl rfl ?_)
  have hA := md_all n hn
  rw [← andNotU_out hn hs] at hK
  (try (conv => whnf)); repeat' (first | (apply And.intro <;> (try (conv => whnf))) | (intro h; first | (with_reducible exact tf0 h) | (with_reducible exact ft0 h) | (with_reducible exact nt0 h) | (with_reducible exact nf0 h) | (exact litz h rfl) | (with_reducible exact tf h (by with_reducible assumption)) | (with_reducible exact tf (by with_reducible assumption) h) | (try (conv => whnf))) | (with_reducible rfl) | (apply True.intro) | (apply infoT; rfl) | (apply bleI; rfl) | (apply fitI; rfl) | (apply cellsI; rfl) | (apply szI; rfl) | (apply guardI; kernel_rfl) | (apply WhenQ.mk; (try (conv => whnf)); rotate_left; (try (conv => whnf)); rotate_right) | (with_reducible assumption) | (apply not_of; with_reducible assumption) | (apply left_of; with_reducible assumption) | (apply left_of; apply left_of; with_reducible assumption) | (apply and_of <;> first | (with_reducible assumption) | (apply not_of; with_reducible assumption))| (refine lin_plan (by kernel_rfl) ?_; (try (conv => whnf))) | (refine ⟨_, _, rfl, idx_map (by with_reducible assumption), rfl, ?_⟩; (try (conv => whnf))) | (refine ⟨rfl, ?_⟩; (try (conv => whnf))) | (exact Nat.le_refl 1) | ((apply ex3); (focus (with_reducible assumption)); (focus (with_reducible assumption)); (try (conv => whnf))) | ((apply ex2); (focus (with_reducible assumption)); (try (conv => whnf))) | (refine PureFn.dcq (f := 82) rfl ?_; (try (conv => whnf))) | ((refine ⟨_, _, hA, ?_, ?_⟩); (focus (first | (refine ⟨?_, trivial⟩ <;> first | (exact PLe.refl _) | (exact PLe.nil)) | (exact trivial))); (try (conv => whnf))) | (refine ⟨_, (by (conv => whnf); exact hA), rfl, ?_⟩; (try (conv => whnf))) | fail)
  exact ⟨_, 1, HO n, (by refine Wk.of ?_ ?_ rfl rfl rfl <;> (repeat' (first | (exact trivial) | (exact WkD.same _) | (exact WkO.same _ _ rfl) | (exact WkD.any _) | (exact WkD.nil _ (Or.inl rfl)) | (exact WkD.nil _ (Or.inr rfl)) | (exact WkD.fz _ _ _ rfl (Or.inl ⟨_, rfl⟩) rfl) | (exact WkD.fz _ _ _ rfl (Or.inr rfl) rfl) | (refine WkD.int ?_) | (exact WkD.new' rfl rfl rfl) | (exact WkO.new _ _ rfl) | (refine WkO.vars rfl ?_) | (with_reducible rfl) | (exact rfl) | (refine ⟨?_, ?_⟩) | ((refine wrapA ?_ ?_ ?_); (focus (simp; done)); (focus ((try dsimp only); omega)); (focus ((try dsimp only); omega))) | fail))), hK⟩
theorem idx_U {M : Nat → Prop} {w0 : World} (n : Nat) (hn : n ≤ 64) (l : List Nat) (hl : l.length ≤ 1000) (hs : ∀ s, s ∈ l → s < 2 ^ 64) (base : Nat) (K : DV → DH → Prop) (hK : ∀ r : Int, decide (r ≥ 0) = outB n l → K (.pv (.int .i64 r)) ⟨1, 0, base, objsOf (HO n)⟩) :
    DC Try.prog M w0 104 [.pv (.sl (l.map u64)), .clo 81 [] [.ref 0 0]] ⟨1, 0, base, objsOf (HO n)⟩ K := by
  refine DC.weaken (DC.intro mixed (fn := Try.f104) rfl rfl rfl ?_)
  (try (conv => whnf)); repeat' (first | (apply And.intro <;> (try (conv => whnf))) | (intro h; first | (with_reducible exact tf0 h) | (with_reducible exact ft0 h) | (with_reducible exact nt0 h) | (with_reducible exact nf0 h) | (exact litz h rfl) | (with_reducible exact tf h (by with_reducible assumption)) | (with_reducible exact tf (by with_reducible assumption) h) | (try (conv => whnf))) | (with_reducible rfl) | (apply True.intro) | (apply infoT; rfl) | (apply bleI; rfl) | (apply fitI; rfl) | (apply cellsI; rfl) | (apply szI; rfl) | (apply guardI; kernel_rfl) | (apply WhenQ.mk; (try (conv => whnf)); rotate_left; (try (conv => whnf)); rotate_right) | (with_reducible assumption) | (apply not_of; with_reducible assumption) | (apply left_of; with_reducible assumption) | (apply left_of; apply left_of; with_reducible assumption) | (apply and_of <;> first | (with_reducible assumption) | (apply not_of; with_reducible assumption))| (refine lin_plan (by kernel_rfl) ?_; (try (conv => whnf))) | (refine ⟨_, _, rfl, idx_map (by with_reducible assumption), rfl, ?_⟩; (try (conv => whnf))) | (refine ⟨rfl, ?_⟩; (try (conv => whnf))) | (exact Nat.le_refl 1) | ((apply ex3); (focus (with_reducible assumption)); (focus (with_reducible assumption)); (try (conv => whnf))) | ((apply ex2); (focus (with_reducible assumption)); (try (conv => whnf))) | fail)
  refine ⟨{ i : Nat // i ≤ l.length ∧ (l.take i).any (fun s => !decide (s < 2 ^ n)) = false }, fun i => [(0, .pv (.sl (l.map u64))), (1, .clo 81 [] [.ref 0 0]), (7, .pv (i64 (l.map u64).length)), (8, .pv (i64 i.1))], fun _ => 1, fun _ => HO n, fun i => l.length - i.1, ⟨⟨0, Nat.zero_le _, rfl⟩, (by refine Wk.of ?_ ?_ rfl rfl rfl <;> (repeat' (first | (exact trivial) | (exact WkD.same _) | (exact WkO.same _ _ rfl) | (exact WkD.any _) | (exact WkD.nil _ (Or.inl rfl)) | (exact WkD.nil _ (Or.inr rfl)) | (exact WkD.fz _ _ _ rfl (Or.inl ⟨_, rfl⟩) rfl) | (exact WkD.fz _ _ _ rfl (Or.inr rfl) rfl) | (refine WkD.int ?_) | (exact WkD.new' rfl rfl rfl) | (exact WkO.new _ _ rfl) | (refine WkO.vars rfl ?_) | (with_reducible rfl) | (exact rfl) | (refine ⟨?_, ?_⟩) | ((refine wrapA ?_ ?_ ?_); (focus (simp; done)); (focus ((try dsimp only); omega)); (focus ((try dsimp only); omega))) | fail)))⟩, ?_⟩
  rintro ⟨i, hi, ha⟩
  (try (conv => whnf)); repeat' (first | (apply And.intro <;> (try (conv => whnf))) | (intro h; first | (with_reducible exact tf0 h) | (with_reducible exact ft0 h) | (with_reducible exact nt0 h) | (with_reducible exact nf0 h) | (exact litz h rfl) | (with_reducible exact tf h (by with_reducible assumption)) | (with_reducible exact tf (by with_reducible assumption) h) | (try (conv => whnf))) | (with_reducible rfl) | (apply True.intro) | (apply infoT; rfl) | (apply bleI; rfl) | (apply fitI; rfl) | (apply cellsI; rfl) | (apply szI; rfl) | (apply guardI; kernel_rfl) | (apply WhenQ.mk; (try (conv => whnf)); rotate_left; (try (conv => whnf)); rotate_right) | (with_reducible assumption) | (apply not_of; with_reducible assumption) | (apply left_of; with_reducible assumption) | (apply left_of; apply left_of; with_reducible assumption) | (apply and_of <;> first | (with_reducible assumption) | (apply not_of; with_reducible assumption))| (refine lin_plan (by kernel_rfl) ?_; (try (conv => whnf))) | (refine ⟨_, _, rfl, idx_map (by with_reducible assumption), rfl, ?_⟩; (try (conv => whnf))) | (refine ⟨rfl, ?_⟩; (try (conv => whnf))) | (exact Nat.le_refl 1) | ((apply ex3); (focus (with_reducible assumption)); (focus (with_reducible assumption)); (try (conv => whnf))) | ((apply ex2); (focus (with_reducible assumption)); (try (conv => whnf))) | fail)
  · have hi' : i < l.length := by simpa using lt_dec h
    have hm : l[i]? = some l[i] := List.getElem?_eq_getElem hi'
    have hsi := hs _ (List.getElem_mem hi')
    refine ⟨_, _, rfl, idx_map hm, rfl, ?_⟩
    (try (conv => whnf)); repeat' (first | (apply And.intro <;> (try (conv => whnf))) | (intro h; first | (with_reducible exact tf0 h) | (with_reducible exact ft0 h) | (with_reducible exact nt0 h) | (with_reducible exact nf0 h) | (exact litz h rfl) | (with_reducible exact tf h (by with_reducible assumption)) | (with_reducible exact tf (by with_reducible assumption) h) | (try (conv => whnf))) | (with_reducible rfl) | (apply True.intro) | (apply infoT; rfl) | (apply bleI; rfl) | (apply fitI; rfl) | (apply cellsI; rfl) | (apply szI; rfl) | (apply guardI; kernel_rfl) | (apply WhenQ.mk; (try (conv => whnf)); rotate_left; (try (conv => whnf)); rotate_right) | (with_reducible assumption) | (apply not_of; with_reducible assumption) | (apply left_of; with_reducible assumption) | (apply left_of; apply left_of; with_reducible assumption) | (apply and_of <;> first | (with_reducible assumption) | (apply not_of; with_reducible assumption))| (refine lin_plan (by kernel_rfl) ?_; (try (conv => whnf))) | (refine ⟨_, _, rfl, idx_map (by with_reducible assumption), rfl, ?_⟩; (try (conv => whnf))) | (refine ⟨rfl, ?_⟩; (try (conv => whnf))) | (exact Nat.le_refl 1) | ((apply ex3); (focus (with_reducible assumption)); (focus (with_reducible assumption)); (try (conv => whnf))) | ((apply ex2); (focus (with_reducible assumption)); (try (conv => whnf))) | fail)
    refine out1 n l[i] hn hsi _ _ ?_
    (try (conv => whnf)); repeat' (first | (apply And.intro <;> (try (conv => whnf))) | (intro h; first | (with_reducible exact tf0 h) | (with_reducible exact ft0 h) | (with_reducible exact nt0 h) | (with_reducible exact nf0 h) | (exact litz h rfl) | (with_reducible exact tf h (by with_reducible assumption)) | (with_reducible exact tf (by with_reducible assumption) h) | (try (conv => whnf))) | (with_reducible rfl) | (apply True.intro) | (apply infoT; rfl) | (apply bleI; rfl) | (apply fitI; rfl) | (apply cellsI; rfl) | (apply szI; rfl) | (apply guardI; kernel_rfl) | (apply WhenQ.mk; (try (conv => whnf)); rotate_left; (try (conv => whnf)); rotate_right) | (with_reducible assumption) | (apply not_of; with_reducible assumption) | (apply left_of; with_reducible assumption) | (apply left_of; apply left_of; with_reducible assumption) | (apply and_of <;> first | (with_reducible assumption) | (apply not_of; with_reducible assumption))| (refine lin_plan (by kernel_rfl) ?_; (try (conv => whnf))) | (refine ⟨_, _, rfl, idx_map (by with_reducible assumption), rfl, ?_⟩; (try (conv => whnf))) | (refine ⟨rfl, ?_⟩; (try (conv => whnf))) | (exact Nat.le_refl 1) | ((apply ex3); (focus (with_reducible assumption)); (focus (with_reducible assumption)); (try (conv => whnf))) | ((apply ex2); (focus (with_reducible assumption)); (try (conv => whnf))) | fail)
    · have e : outB n l = true := any_at hi' h
      exact ⟨.pv (.int .i64 (i : Int)), 1, HO n, (by refine Wk.of ?_ ?_ rfl rfl rfl <;> (repeat' (first | (exact trivial) | (exact WkD.same _) | (exact WkO.same _ _ rfl) | (exact WkD.any _) | (exact WkD.nil _ (Or.inl rfl)) | (exact WkD.nil _ (Or.inr rfl)) | (exact WkD.fz _ _ _ rfl (Or.inl ⟨_, rfl⟩) rfl) | (exact WkD.fz _ _ _ rfl (Or.inr rfl) rfl) | (refine WkD.int ?_) | (exact WkD.new' rfl rfl rfl) | (exact WkO.new _ _ rfl) | (refine WkO.vars rfl ?_) | (with_reducible rfl) | (exact rfl) | (refine ⟨?_, ?_⟩) | ((refine wrapA ?_ ?_ ?_); (focus (simp; done)); (focus ((try dsimp only); omega)); (focus ((try dsimp only); omega))) | fail))), hK i (by rw [e]; simp)⟩
    · exact ⟨⟨i + 1, hi', any_take hi' ha h⟩, by show l.length - (i + 1) < l.length - i; omega, (by refine Wk.of ?_ ?_ rfl rfl rfl <;> (repeat' (first | (exact trivial) | (exact WkD.same _) | (exact WkO.same _ _ rfl) | (exact WkD.any _) | (exact WkD.nil _ (Or.inl rfl)) | (exact WkD.nil _ (Or.inr rfl)) | (exact WkD.fz _ _ _ rfl (Or.inl ⟨_, rfl⟩) rfl) | (exact WkD.fz _ _ _ rfl (Or.inr rfl) rfl) | (refine WkD.int ?_) | (exact WkD.new' rfl rfl rfl) | (exact WkO.new _ _ rfl) | (refine WkO.vars rfl ?_) | (with_reducible rfl) | (exact rfl) | (refine ⟨?_, ?_⟩) | ((refine wrapA ?_ ?_ ?_); (focus (simp; done)); (focus ((try dsimp only); omega)); (focus ((try dsimp only); omega))) | fail)))⟩
  · have hi' : i = l.length := by have := ge_dec (m := (l.map u64).length) h (by simpa using hi); simpa using this
    subst hi'
    rw [List.take_length] at ha
    exact ⟨.pv (.int .i64 (-1)), 1, HO n, (by refine Wk.of ?_ ?_ rfl rfl rfl <;> (repeat' (first | (exact trivial) | (exact WkD.same _) | (exact WkO.same _ _ rfl) | (exact WkD.any _) | (exact WkD.nil _ (Or.inl rfl)) | (exact WkD.nil _ (Or.inr rfl)) | (exact WkD.fz _ _ _ rfl (Or.inl ⟨_, rfl⟩) rfl) | (exact WkD.fz _ _ _ rfl (Or.inr rfl) rfl) | (refine WkD.int ?_) | (exact WkD.new' rfl rfl rfl) | (exact WkO.new _ _ rfl) | (refine WkO.vars rfl ?_) | (with_reducible rfl) | (exact rfl) | (refine ⟨?_, ?_⟩) | ((refine wrapA ?_ ?_ ?_); (focus (simp; done)); (focus ((try dsimp only); omega)); (focus ((try dsimp only); omega))) | fail))), hK (-1) (by rw [show outB n l = false from ha]; decide)⟩
theorem cont_U {M : Nat → Prop} {w0 : World} (n : Nat) (hn : n ≤ 64) (l : List Nat) (hl : l.length ≤ 1000) (hs : ∀ s, s ∈ l → s < 2 ^ 64) (base : Nat) (K : DV → DH → Prop) (hK : K (.pv (.bool (outB n l))) ⟨1, 0, base, objsOf (HO n)⟩) :
    DC Try.prog M w0 80 [.pv (.sl (l.map u64)), .clo 81 [] [.ref 0 0]] ⟨1, 0, base, objsOf (HO n)⟩ K := by
  refine DC.intro mixed (fn := Try.f80) rfl rfl rfl ?_
  (try (conv => whnf)); repeat' (first | (apply And.intro <;> (try (conv => whnf))) | (intro h; first | (with_reducible exact tf0 h) | (with_reducible exact ft0 h) | (with_reducible exact nt0 h) | (with_reducible exact nf0 h) | (exact litz h rfl) | (with_reducible exact tf h (by with_reducible assumption)) | (with_reducible exact tf (by with_reducible assumption) h) | (try (conv => whnf))) | (with_reducible rfl) | (apply True.intro) | (apply infoT; rfl) | (apply bleI; rfl) | (apply fitI; rfl) | (apply cellsI; rfl) | (apply szI; rfl) | (apply guardI; kernel_rfl) | (apply WhenQ.mk; (try (conv => whnf)); rotate_left; (try (conv => whnf)); rotate_right) | (with_reducible assumption) | (apply not_of; with_reducible assumption) | (apply left_of; with_reducible assumption) | (apply left_of; apply left_of; with_reducible assumption) | (apply and_of <;> first | (with_reducible assumption) | (apply not_of; with_reducible assumption))| (refine lin_plan (by kernel_rfl) ?_; (try (conv => whnf))) | (refine ⟨_, _, rfl, idx_map (by with_reducible assumption), rfl, ?_⟩; (try (conv => whnf))) | (refine ⟨rfl, ?_⟩; (try (conv => whnf))) | (exact Nat.le_refl 1) | ((apply ex3); (focus (with_reducible assumption)); (focus (with_reducible assumption)); (try (conv => whnf))) | ((apply ex2); (focus (with_reducible assumption)); (try (conv => whnf))) | fail)
  refine idx_U n hn l hl hs 1 _ fun r e => ?_
  rw [← e] at hK
  (try (conv => whnf)); repeat' (first | (apply And.intro <;> (try (conv => whnf))) | (intro h; first | (with_reducible exact tf0 h) | (with_reducible exact ft0 h) | (with_reducible exact nt0 h) | (with_reducible exact nf0 h) | (exact litz h rfl) | (with_reducible exact tf h (by with_reducible assumption)) | (with_reducible exact tf (by with_reducible assumption) h) | (try (conv => whnf))) | (with_reducible rfl) | (apply True.intro) | (apply infoT; rfl) | (apply bleI; rfl) | (apply fitI; rfl) | (apply cellsI; rfl) | (apply szI; rfl) | (apply guardI; kernel_rfl) | (apply WhenQ.mk; (try (conv => whnf)); rotate_left; (try (conv => whnf)); rotate_right) | (with_reducible assumption) | (apply not_of; with_reducible assumption) | (apply left_of; with_reducible assumption) | (apply left_of; apply left_of; with_reducible assumption) | (apply and_of <;> first | (with_reducible assumption) | (apply not_of; with_reducible assumption))| (refine lin_plan (by kernel_rfl) ?_; (try (conv => whnf))) | (refine ⟨_, _, rfl, idx_map (by with_reducible assumption), rfl, ?_⟩; (try (conv => whnf))) | (refine ⟨rfl, ?_⟩; (try (conv => whnf))) | (exact Nat.le_refl 1) | ((apply ex3); (focus (with_reducible assumption)); (focus (with_reducible assumption)); (try (conv => whnf))) | ((apply ex2); (focus (with_reducible assumption)); (try (conv => whnf))) | fail)
  exact hK
theorem md_outside (n : Nat) (l : List Nat) (hn : n ≤ 64) (hl : l.length ≤ 1000) (hs : ∀ s, s ∈ l → s < 2 ^ 64) : PureFn Try.prog 53 [.sl (l.map u64), i64 n] (.bool (outB n l)) := by
  refine PureFn.intro mixed (fn := Try.f53) rfl rfl rfl fun M w0 => ?_
  (try (conv => whnf)); repeat' (first | (apply And.intro <;> (try (conv => whnf))) | (intro h; first | (with_reducible exact tf0 h) | (with_reducible exact ft0 h) | (with_reducible exact nt0 h) | (with_reducible exact nf0 h) | (exact litz h rfl) | (with_reducible exact tf h (by with_reducible assumption)) | (with_reducible exact tf (by with_reducible assumption) h) | (try (conv => whnf))) | (with_reducible rfl) | (apply True.intro) | (apply infoT; rfl) | (apply bleI; rfl) | (apply fitI; rfl) | (apply cellsI; rfl) | (apply szI; rfl) | (apply guardI; kernel_rfl) | (apply WhenQ.mk; (try (conv => whnf)); rotate_left; (try (conv => whnf)); rotate_right) | (with_reducible assumption) | (apply not_of; with_reducible assumption) | (apply left_of; with_reducible assumption) | (apply left_of; apply left_of; with_reducible assumption) | (apply and_of <;> first | (with_reducible assumption) | (apply not_of; with_reducible assumption))| (refine lin_plan (by kernel_rfl) ?_; (try (conv => whnf))) | (refine ⟨_, _, rfl, idx_map (by with_reducible assumption), rfl, ?_⟩; (try (conv => whnf))) | (refine ⟨rfl, ?_⟩; (try (conv => whnf))) | (exact Nat.le_refl 1) | ((apply ex3); (focus (with_reducible assumption)); (focus (with_reducible assumption)); (try (conv => whnf))) | ((apply ex2); (focus (with_reducible assumption)); (try (conv => whnf))) | fail)
  refine cont_U n hn l hl hs 0 _ ?_
  (try (conv => whnf)); repeat' (first | (apply And.intro <;> (try (conv => whnf))) | (intro h; first | (with_reducible exact tf0 h) | (with_reducible exact ft0 h) | (with_reducible exact nt0 h) | (with_reducible exact nf0 h) | (exact litz h rfl) | (with_reducible exact tf h (by with_reducible assumption)) | (with_reducible exact tf (by with_reducible assumption) h) | (try (conv => whnf))) | (with_reducible rfl) | (apply True.intro) | (apply infoT; rfl) | (apply bleI; rfl) | (apply fitI; rfl) | (apply cellsI; rfl) | (apply szI; rfl) | (apply guardI; kernel_rfl) | (apply WhenQ.mk; (try (conv => whnf)); rotate_left; (try (conv => whnf)); rotate_right) | (with_reducible assumption) | (apply not_of; with_reducible assumption) | (apply left_of; with_reducible assumption) | (apply left_of; apply left_of; with_reducible assumption) | (apply and_of <;> first | (with_reducible assumption) | (apply not_of; with_reducible assumption))| (refine lin_plan (by kernel_rfl) ?_; (try (conv => whnf))) | (refine ⟨_, _, rfl, idx_map (by with_reducible assumption), rfl, ?_⟩; (try (conv => whnf))) | (refine ⟨rfl, ?_⟩; (try (conv => whnf))) | (exact Nat.le_refl 1) | ((apply ex3); (focus (with_reducible assumption)); (focus (with_reducible assumption)); (try (conv => whnf))) | ((apply ex2); (focus (with_reducible assumption)); (try (conv => whnf))) | fail)
  exact .refl _
def HM (m : Mo) : List (Nat × DObj) := [(0, .var (cellsM m))]
theorem chk1 {M : Nat → Prop} {w0 : World} (m : Mo) (n : Nat) (hmn : m.n = n) (hn : n ≤ 64) (r : List Nat) (hl : r.length ≤ 1000) (hs : ∀ s, s ∈ r → s < 2 ^ 64) (base : Nat) (K : DV → DH → Prop) (hK : K (.pv (.bool (outB n r))) ⟨1, 0, base, objsOf (HM m)⟩) :
    DC Try.prog M w0 55 [.pv (rowPV r), .ref 0 0] ⟨1, 0, base, objsOf (HM m)⟩ K := by
  refine DC.weaken (DC.intro mixed (fn := Try.f55) rfl rfl rfl ?_)
  have hA := md_outside n r hn hl hs
  rw [show i64 n = .int .i64 m.n by rw [hmn]; rfl] at hA
  (try (conv => whnf)); repeat' (first | (apply And.intro <;> (try (conv => whnf))) | (intro h; first | (with_reducible exact tf0 h) | (with_reducible exact ft0 h) | (with_reducible exact nt0 h) | (with_reducible exact nf0 h) | (exact litz h rfl) | (with_reducible exact tf h (by with_reducible assumption)) | (with_reducible exact tf (by with_reducible assumption) h) | (try (conv => whnf))) | (with_reducible rfl) | (apply True.intro) | (apply infoT; rfl) | (apply bleI; rfl) | (apply fitI; rfl) | (apply cellsI; rfl) | (apply szI; rfl) | (apply guardI; kernel_rfl) | (apply WhenQ.mk; (try (conv => whnf)); rotate_left; (try (conv => whnf)); rotate_right) | (with_reducible assumption) | (apply not_of; with_reducible assumption) | (apply left_of; with_reducible assumption) | (apply left_of; apply left_of; with_reducible assumption) | (apply and_of <;> first | (with_reducible assumption) | (apply not_of; with_reducible assumption))| (refine lin_plan (by kernel_rfl) ?_; (try (conv => whnf))) | (refine ⟨_, _, rfl, idx_map (by with_reducible assumption), rfl, ?_⟩; (try (conv => whnf))) | (refine ⟨rfl, ?_⟩; (try (conv => whnf))) | (exact Nat.le_refl 1) | ((apply ex3); (focus (with_reducible assumption)); (focus (with_reducible assumption)); (try (conv => whnf))) | ((apply ex2); (focus (with_reducible assumption)); (try (conv => whnf))) | (refine PureFn.dcq (f := 53) rfl ?_; (try (conv => whnf))) | ((refine ⟨_, _, hA, ?_, ?_⟩); (focus (first | (refine ⟨?_, ?_, trivial⟩ <;> first | (exact PLe.refl _) | (exact PLe.nil)) | (exact trivial))); (try (conv => whnf))) | (refine ⟨_, (by (conv => whnf); exact hA), rfl, ?_⟩; (try (conv => whnf))) | fail)
  exact ⟨_, 1, HM m, (by refine Wk.of ?_ ?_ rfl rfl rfl <;> (repeat' (first | (exact trivial) | (exact WkD.same _) | (exact WkO.same _ _ rfl) | (exact WkD.any _) | (exact WkD.nil _ (Or.inl rfl)) | (exact WkD.nil _ (Or.inr rfl)) | (exact WkD.fz _ _ _ rfl (Or.inl ⟨_, rfl⟩) rfl) | (exact WkD.fz _ _ _ rfl (Or.inr rfl) rfl) | (refine WkD.int ?_) | (exact WkD.new' rfl rfl rfl) | (exact WkO.new _ _ rfl) | (refine WkO.vars rfl ?_) | (with_reducible rfl) | (exact rfl) | (refine ⟨?_, ?_⟩) | ((refine wrapA ?_ ?_ ?_); (focus (simp; done)); (focus ((try dsimp only); omega)); (focus ((try dsimp only); omega))) | fail))), hK⟩
theorem idx_M {M : Nat → Prop} {w0 : World} (m : Mo) (n : Nat) (hmn : m.n = n) (hn : n ≤ 64) (rows : List (List Nat)) (hl : rows.length ≤ 1000) (hr : ∀ r, r ∈ rows → r.length ≤ 1000 ∧ ∀ s, s ∈ r → s < 2 ^ 64) (base : Nat) (K : DV → DH → Prop) (hK : ∀ r : Int, decide (r ≥ 0) = rows.any (fun r => outB n r) → K (.pv (.int .i64 r)) ⟨1, 0, base, objsOf (HM m)⟩) :
    DC Try.prog M w0 83 [.pv (.sl (rows.map rowPV)), .clo 55 [] [.ref 0 0]] ⟨1, 0, base, objsOf (HM m)⟩ K := by
  refine DC.weaken (DC.intro mixed (fn := Try.f83) rfl rfl rfl ?_)
  (try (conv => whnf)); repeat' (first | (apply And.intro <;> (try (conv => whnf))) | (intro h; first | (with_reducible exact tf0 h) | (with_reducible exact ft0 h) | (with_reducible exact nt0 h) | (with_reducible exact nf0 h) | (exact litz h rfl) | (with_reducible exact tf h (by with_reducible assumption)) | (with_reducible exact tf (by with_reducible assumption) h) | (try (conv => whnf))) | (with_reducible rfl) | (apply True.intro) | (apply infoT; rfl) | (apply bleI; rfl) | (apply fitI; rfl) | (apply cellsI; rfl) | (apply szI; rfl) | (apply guardI; kernel_rfl) | (apply WhenQ.mk; (try (conv => whnf)); rotate_left; (try (conv => whnf)); rotate_right) | (with_reducible assumption) | (apply not_of; with_reducible assumption) | (apply left_of; with_reducible assumption) | (apply left_of; apply left_of; with_reducible assumption) | (apply and_of <;> first | (with_reducible assumption) | (apply not_of; with_reducible assumption))| (refine lin_plan (by kernel_rfl) ?_; (try (conv => whnf))) | (refine ⟨_, _, rfl, idx_map (by with_reducible assumption), rfl, ?_⟩; (try (conv => whnf))) | (refine ⟨rfl, ?_⟩; (try (conv => whnf))) | (exact Nat.le_refl 1) | ((apply ex3); (focus (with_reducible assumption)); (focus (with_reducible assumption)); (try (conv => whnf))) | ((apply ex2); (focus (with_reducible assumption)); (try (conv => whnf))) | fail)
  refine ⟨{ i : Nat // i ≤ rows.length ∧ (rows.take i).any (fun r => outB n r) = false }, fun i => [(0, .pv (.sl (rows.map rowPV))), (1, .clo 55 [] [.ref 0 0]), (7, .pv (i64 (rows.map rowPV).length)), (8, .pv (i64 i.1))], fun _ => 1, fun _ => HM m, fun i => rows.length - i.1, ⟨⟨0, Nat.zero_le _, rfl⟩, (by refine Wk.of ?_ ?_ rfl rfl rfl <;> (repeat' (first | (exact trivial) | (exact WkD.same _) | (exact WkO.same _ _ rfl) | (exact WkD.any _) | (exact WkD.nil _ (Or.inl rfl)) | (exact WkD.nil _ (Or.inr rfl)) | (exact WkD.fz _ _ _ rfl (Or.inl ⟨_, rfl⟩) rfl) | (exact WkD.fz _ _ _ rfl (Or.inr rfl) rfl) | (refine WkD.int ?_) | (exact WkD.new' rfl rfl rfl) | (exact WkO.new _ _ rfl) | (refine WkO.vars rfl ?_) | (with_reducible rfl) | (exact rfl) | (refine ⟨?_, ?_⟩) | ((refine wrapA ?_ ?_ ?_); (focus (simp; done)); (focus ((try dsimp only); omega)); (focus ((try dsimp only); omega))) | fail)))⟩, ?_⟩
  rintro ⟨i, hi, ha⟩
  (try (conv => whnf)); repeat' (first | (apply And.intro <;> (try (conv => whnf))) | (intro h; first | (with_reducible exact tf0 h) | (with_reducible exact ft0 h) | (with_reducible exact nt0 h) | (with_reducible exact nf0 h) | (exact litz h rfl) | (with_reducible exact tf h (by with_reducible assumption)) | (with_reducible exact tf (by with_reducible assumption) h) | (try (conv => whnf))) | (with_reducible rfl) | (apply True.intro) | (apply infoT; rfl) | (apply bleI; rfl) | (apply fitI; rfl) | (apply cellsI; rfl) | (apply szI; rfl) | (apply guardI; kernel_rfl) | (apply WhenQ.mk; (try (conv => whnf)); rotate_left; (try (conv => whnf)); rotate_right) | (with_reducible assumption) | (apply not_of; with_reducible assumption) | (apply left_of; with_reducible assumption) | (apply left_of; apply left_of; with_reducible assumption) | (apply and_of <;> first | (with_reducible assumption) | (apply not_of; with_reducible assumption))| (refine lin_plan (by kernel_rfl) ?_; (try (conv => whnf))) | (refine ⟨_, _, rfl, idx_map (by with_reducible assumption), rfl, ?_⟩; (try (conv => whnf))) | (refine ⟨rfl, ?_⟩; (try (conv => whnf))) | (exact Nat.le_refl 1) | ((apply ex3); (focus (with_reducible assumption)); (focus (with_reducible assumption)); (try (conv => whnf))) | ((apply ex2); (focus (with_reducible assumption)); (try (conv => whnf))) | fail)
  · have hi' : i < rows.length := by simpa using lt_dec h
    have hm : rows[i]? = some rows[i] := List.getElem?_eq_getElem hi'
    have hri := hr _ (List.getElem_mem hi')
    refine ⟨_, _, rfl, idx_map hm, rfl, ?_⟩
    (try (conv => whnf)); repeat' (first | (apply And.intro <;> (try (conv => whnf))) | (intro h; first | (with_reducible exact tf0 h) | (with_reducible exact ft0 h) | (with_reducible exact nt0 h) | (with_reducible exact nf0 h) | (exact litz h rfl) | (with_reducible exact tf h (by with_reducible assumption)) | (with_reducible exact tf (by with_reducible assumption) h) | (try (conv => whnf))) | (with_reducible rfl) | (apply True.intro) | (apply infoT; rfl) | (apply bleI; rfl) | (apply fitI; rfl) | (apply cellsI; rfl) | (apply szI; rfl) | (apply guardI; kernel_rfl) | (apply WhenQ.mk; (try (conv => whnf)); rotate_left; (try (conv => whnf)); rotate_right) | (with_reducible assumption) | (apply not_of; with_reducible assumption) | (apply left_of; with_reducible assumption) | (apply left_of; apply left_of; with_reducible assumption) | (apply and_of <;> first | (with_reducible assumption) | (apply not_of; with_reducible assumption))| (refine lin_plan (by kernel_rfl) ?_; (try (conv => whnf))) | (refine ⟨_, _, rfl, idx_map (by with_reducible assumption), rfl, ?_⟩; (try (conv => whnf))) | (refine ⟨rfl, ?_⟩; (try (conv => whnf))) | (exact Nat.le_refl 1) | ((apply ex3); (focus (with_reducible assumption)); (focus (with_reducible assumption)); (try (conv => whnf))) | ((apply ex2); (focus (with_reducible assumption)); (try (conv => whnf))) | fail)
    refine chk1 m n hmn hn rows[i] hri.1 hri.2 _ _ ?_
    (try (conv => whnf)); repeat' (first | (apply And.intro <;> (try (conv => whnf))) | (intro h; first | (with_reducible exact tf0 h) | (with_reducible exact ft0 h) | (with_reducible exact nt0 h) | (with_reducible exact nf0 h) | (exact litz h rfl) | (with_reducible exact tf h (by with_reducible assumption)) | (with_reducible exact tf (by with_reducible assumption) h) | (try (conv => whnf))) | (with_reducible rfl) | (apply True.intro) | (apply infoT; rfl) | (apply bleI; rfl) | (apply fitI; rfl) | (apply cellsI; rfl) | (apply szI; rfl) | (apply guardI; kernel_rfl) | (apply WhenQ.mk; (try (conv => whnf)); rotate_left; (try (conv => whnf)); rotate_right) | (with_reducible assumption) | (apply not_of; with_reducible assumption) | (apply left_of; with_reducible assumption) | (apply left_of; apply left_of; with_reducible assumption) | (apply and_of <;> first | (with_reducible assumption) | (apply not_of; with_reducible assumption))| (refine lin_plan (by kernel_rfl) ?_; (try (conv => whnf))) | (refine ⟨_, _, rfl, idx_map (by with_reducible assumption), rfl, ?_⟩; (try (conv => whnf))) | (refine ⟨rfl, ?_⟩; (try (conv => whnf))) | (exact Nat.le_refl 1) | ((apply ex3); (focus (with_reducible assumption)); (focus (with_reducible assumption)); (try (conv => whnf))) | ((apply ex2); (focus (with_reducible assumption)); (try (conv => whnf))) | fail)
    · have e : rows.any (fun r => outB n r) = true := any_at hi' h
      exact ⟨.pv (.int .i64 (i : Int)), 1, HM m, (by refine Wk.of ?_ ?_ rfl rfl rfl <;> (repeat' (first | (exact trivial) | (exact WkD.same _) | (exact WkO.same _ _ rfl) | (exact WkD.any _) | (exact WkD.nil _ (Or.inl rfl)) | (exact WkD.nil _ (Or.inr rfl)) | (exact WkD.fz _ _ _ rfl (Or.inl ⟨_, rfl⟩) rfl) | (exact WkD.fz _ _ _ rfl (Or.inr rfl) rfl) | (refine WkD.int ?_) | (exact WkD.new' rfl rfl rfl) | (exact WkO.new _ _ rfl) | (refine WkO.vars rfl ?_) | (with_reducible rfl) | (exact rfl) | (refine ⟨?_, ?_⟩) | ((refine wrapA ?_ ?_ ?_); (focus (simp; done)); (focus ((try dsimp only); omega)); (focus ((try dsimp only); omega))) | fail))), hK i (by rw [e]; simp)⟩
    · exact ⟨⟨i + 1, hi', any_take hi' ha h⟩, by show rows.length - (i + 1) < rows.length - i; omega, (by refine Wk.of ?_ ?_ rfl rfl rfl <;> (repeat' (first | (exact trivial) | (exact WkD.same _) | (exact WkO.same _ _ rfl) | (exact WkD.any _) | (exact WkD.nil _ (Or.inl rfl)) | (exact WkD.nil _ (Or.inr rfl)) | (exact WkD.fz _ _ _ rfl (Or.inl ⟨_, rfl⟩) rfl) | (exact WkD.fz _ _ _ rfl (Or.inr rfl) rfl) | (refine WkD.int ?_) | (exact WkD.new' rfl rfl rfl) | (exact WkO.new _ _ rfl) | (refine WkO.vars rfl ?_) | (with_reducible rfl) | (exact rfl) | (refine ⟨?_, ?_⟩) | ((refine wrapA ?_ ?_ ?_); (focus (simp; done)); (focus ((try dsimp only); omega)); (focus ((try dsimp only); omega))) | fail)))⟩
  · have hi' : i = rows.length := by have := ge_dec (m := (rows.map rowPV).length) h (by simpa using hi); simpa using this
    subst hi'
    rw [List.take_length] at ha
    exact ⟨.pv (.int .i64 (-1)), 1, HM m, (by refine Wk.of ?_ ?_ rfl rfl rfl <;> (repeat' (first | (exact trivial) | (exact WkD.same _) | (exact WkO.same _ _ rfl) | (exact WkD.any _) | (exact WkD.nil _ (Or.inl rfl)) | (exact WkD.nil _ (Or.inr rfl)) | (exact WkD.fz _ _ _ rfl (Or.inl ⟨_, rfl⟩) rfl) | (exact WkD.fz _ _ _ rfl (Or.inr rfl) rfl) | (refine WkD.int ?_) | (exact WkD.new' rfl rfl rfl) | (exact WkO.new _ _ rfl) | (refine WkO.vars rfl ?_) | (with_reducible rfl) | (exact rfl) | (refine ⟨?_, ?_⟩) | ((refine wrapA ?_ ?_ ?_); (focus (simp; done)); (focus ((try dsimp only); omega)); (focus ((try dsimp only); omega))) | fail))), hK (-1) (by rw [ha]; decide)⟩
theorem cont_M {M : Nat → Prop} {w0 : World} (m : Mo) (n : Nat) (hmn : m.n = n) (hn : n ≤ 64) (rows : List (List Nat)) (hl : rows.length ≤ 1000) (hr : ∀ r, r ∈ rows → r.length ≤ 1000 ∧ ∀ s, s ∈ r → s < 2 ^ 64) (base : Nat) (K : DV → DH → Prop) (hK : K (.pv (.bool (rows.any (fun r => outB n r)))) ⟨1, 0, base, objsOf (HM m)⟩) :
    DC Try.prog M w0 54 [.pv (.sl (rows.map rowPV)), .clo 55 [] [.ref 0 0]] ⟨1, 0, base, objsOf (HM m)⟩ K := by
  refine DC.intro mixed (fn := Try.f54) rfl rfl rfl ?_
  (try (conv => whnf)); repeat' (first | (apply And.intro <;> (try (conv => whnf))) | (intro h; first | (with_reducible exact tf0 h) | (with_reducible exact ft0 h) | (with_reducible exact nt0 h) | (with_reducible exact nf0 h) | (exact litz h rfl) | (with_reducible exact tf h (by with_reducible assumption)) | (with_reducible exact tf (by with_reducible assumption) h) | (try (conv => whnf))) | (with_reducible rfl) | (apply True.intro) | (apply infoT; rfl) | (apply bleI; rfl) | (apply fitI; rfl) | (apply cellsI; rfl) | (apply szI; rfl) | (apply guardI; kernel_rfl) | (apply WhenQ.mk; (try (conv => whnf)); rotate_left; (try (conv => whnf)); rotate_right) | (with_reducible assumption) | (apply not_of; with_reducible assumption) | (apply left_of; with_reducible assumption) | (apply left_of; apply left_of; with_reducible assumption) | (apply and_of <;> first | (with_reducible assumption) | (apply not_of; with_reducible assumption))| (refine lin_plan (by kernel_rfl) ?_; (try (conv => whnf))) | (refine ⟨_, _, rfl, idx_map (by with_reducible assumption), rfl, ?_⟩; (try (conv => whnf))) | (refine ⟨rfl, ?_⟩; (try (conv => whnf))) | (exact Nat.le_refl 1) | ((apply ex3); (focus (with_reducible assumption)); (focus (with_reducible assumption)); (try (conv => whnf))) | ((apply ex2); (focus (with_reducible assumption)); (try (conv => whnf))) | fail)
  refine idx_M m n hmn hn rows hl hr 1 _ fun r e => ?_
  rw [← e] at hK
  (try (conv => whnf)); repeat' (first | (apply And.intro <;> (try (conv => whnf))) | (intro h; first | (with_reducible exact tf0 h) | (with_reducible exact ft0 h) | (with_reducible exact nt0 h) | (with_reducible exact nf0 h) | (exact litz h rfl) | (with_reducible exact tf h (by with_reducible assumption)) | (with_reducible exact tf (by with_reducible assumption) h) | (try (conv => whnf))) | (with_reducible rfl) | (apply True.intro) | (apply infoT; rfl) | (apply bleI; rfl) | (apply fitI; rfl) | (apply cellsI; rfl) | (apply szI; rfl) | (apply guardI; kernel_rfl) | (apply WhenQ.mk; (try (conv => whnf)); rotate_left; (try (conv => whnf)); rotate_right) | (with_reducible assumption) | (apply not_of; with_reducible assumption) | (apply left_of; with_reducible assumption) | (apply left_of; apply left_of; with_reducible assumption) | (apply and_of <;> first | (with_reducible assumption) | (apply not_of; with_reducible assumption))| (refine lin_plan (by kernel_rfl) ?_; (try (conv => whnf))) | (refine ⟨_, _, rfl, idx_map (by with_reducible assumption), rfl, ?_⟩; (try (conv => whnf))) | (refine ⟨rfl, ?_⟩; (try (conv => whnf))) | (exact Nat.le_refl 1) | ((apply ex3); (focus (with_reducible assumption)); (focus (with_reducible assumption)); (try (conv => whnf))) | ((apply ex2); (focus (with_reducible assumption)); (try (conv => whnf))) | fail)
  exact hK
theorem md_Check (m : Mo) (hf : FitM m) : PureFn Try.prog 13 [m.pv] (.int .i64 (moI m)) := by
  refine PureFn.introC [3, 5, 11] mixed (fn := Try.f13) rfl rfl rfl fun M w0 => ?_
  have e1 : ((m.val.map u64).length : Int) = (m.val.length : Int) := by simp
  have e2 : ((m.rel.map rowPV).length : Int) = (m.rel.length : Int) := by simp
  (try (conv => whnf)); repeat' (first | (apply And.intro <;> (try (conv => whnf))) | (intro h; first | (with_reducible exact tf0 h) | (with_reducible exact ft0 h) | (with_reducible exact nt0 h) | (with_reducible exact nf0 h) | (exact litz h rfl) | (with_reducible exact tf h (by with_reducible assumption)) | (with_reducible exact tf (by with_reducible assumption) h) | (try (conv => whnf))) | (with_reducible rfl) | (apply True.intro) | (apply infoT; rfl) | (apply bleI; rfl) | (apply fitI; rfl) | (apply cellsI; rfl) | (apply szI; rfl) | (apply guardI; kernel_rfl) | (apply WhenQ.mk; (try (conv => whnf)); rotate_left; (try (conv => whnf)); rotate_right) | (with_reducible assumption) | (apply not_of; with_reducible assumption) | (apply left_of; with_reducible assumption) | (apply left_of; apply left_of; with_reducible assumption) | (apply and_of <;> first | (with_reducible assumption) | (apply not_of; with_reducible assumption))| (refine lin_plan (by kernel_rfl) ?_; (try (conv => whnf))) | (refine ⟨_, _, rfl, idx_map (by with_reducible assumption), rfl, ?_⟩; (try (conv => whnf))) | (refine ⟨rfl, ?_⟩; (try (conv => whnf))) | (exact Nat.le_refl 1) | ((apply ex3); (focus (with_reducible assumption)); (focus (with_reducible assumption)); (try (conv => whnf))) | ((apply ex2); (focus (with_reducible assumption)); (try (conv => whnf))) | fail)
  refine ⟨{ _x : Unit // moB1 m = false }, fun _ => [(1, .ref 0 0)], fun _ => 1, fun _ => HM m, ?_, ?_⟩
  · (try (conv => whnf)); repeat' (first | (apply And.intro <;> (try (conv => whnf))) | (intro h; first | (with_reducible exact tf0 h) | (with_reducible exact ft0 h) | (with_reducible exact nt0 h) | (with_reducible exact nf0 h) | (exact litz h rfl) | (with_reducible exact tf h (by with_reducible assumption)) | (with_reducible exact tf (by with_reducible assumption) h) | (try (conv => whnf))) | (with_reducible rfl) | (apply True.intro) | (apply infoT; rfl) | (apply bleI; rfl) | (apply fitI; rfl) | (apply cellsI; rfl) | (apply szI; rfl) | (apply guardI; kernel_rfl) | (apply WhenQ.mk; (try (conv => whnf)); rotate_left; (try (conv => whnf)); rotate_right) | (with_reducible assumption) | (apply not_of; with_reducible assumption) | (apply left_of; with_reducible assumption) | (apply left_of; apply left_of; with_reducible assumption) | (apply and_of <;> first | (with_reducible assumption) | (apply not_of; with_reducible assumption))| (refine lin_plan (by kernel_rfl) ?_; (try (conv => whnf))) | (refine ⟨_, _, rfl, idx_map (by with_reducible assumption), rfl, ?_⟩; (try (conv => whnf))) | (refine ⟨rfl, ?_⟩; (try (conv => whnf))) | (exact Nat.le_refl 1) | ((apply ex3); (focus (with_reducible assumption)); (focus (with_reducible assumption)); (try (conv => whnf))) | ((apply ex2); (focus (with_reducible assumption)); (try (conv => whnf))) | fail)
    · refine le_int ?_
      rw [moI, show moB1 m = true from h]; rfl
    · exact ⟨⟨(), h⟩, (by refine Wk.of ?_ ?_ rfl rfl rfl <;> (repeat' (first | (exact trivial) | (exact WkD.same _) | (exact WkO.same _ _ rfl) | (exact WkD.any _) | (exact WkD.nil _ (Or.inl rfl)) | (exact WkD.nil _ (Or.inr rfl)) | (exact WkD.fz _ _ _ rfl (Or.inl ⟨_, rfl⟩) rfl) | (exact WkD.fz _ _ _ rfl (Or.inr rfl) rfl) | (refine WkD.int ?_) | (exact WkD.new' rfl rfl rfl) | (exact WkO.new _ _ rfl) | (refine WkO.vars rfl ?_) | (with_reducible rfl) | (exact rfl) | (refine ⟨?_, ?_⟩) | ((refine wrapA ?_ ?_ ?_); (focus (simp; done)); (focus ((try dsimp only); omega)); (focus ((try dsimp only); omega))) | fail)))⟩
  rintro ⟨_, h1⟩
  obtain ⟨n, hmn, n1, n64⟩ := moB1_no h1
  refine ⟨{ _x : Unit // moB2 m = false }, fun _ => [(1, .ref 0 0)], fun _ => 1, fun _ => HM m, ?_, ?_⟩
  · (try (conv => whnf)); repeat' (first | (apply And.intro <;> (try (conv => whnf))) | (intro h; first | (with_reducible exact tf0 h) | (with_reducible exact ft0 h) | (with_reducible exact nt0 h) | (with_reducible exact nf0 h) | (exact litz h rfl) | (with_reducible exact tf h (by with_reducible assumption)) | (with_reducible exact tf (by with_reducible assumption) h) | (try (conv => whnf))) | (with_reducible rfl) | (apply True.intro) | (apply infoT; rfl) | (apply bleI; rfl) | (apply fitI; rfl) | (apply cellsI; rfl) | (apply szI; rfl) | (apply guardI; kernel_rfl) | (apply WhenQ.mk; (try (conv => whnf)); rotate_left; (try (conv => whnf)); rotate_right) | (with_reducible assumption) | (apply not_of; with_reducible assumption) | (apply left_of; with_reducible assumption) | (apply left_of; apply left_of; with_reducible assumption) | (apply and_of <;> first | (with_reducible assumption) | (apply not_of; with_reducible assumption))| (refine lin_plan (by kernel_rfl) ?_; (try (conv => whnf))) | (refine ⟨_, _, rfl, idx_map (by with_reducible assumption), rfl, ?_⟩; (try (conv => whnf))) | (refine ⟨rfl, ?_⟩; (try (conv => whnf))) | (exact Nat.le_refl 1) | ((apply ex3); (focus (with_reducible assumption)); (focus (with_reducible assumption)); (try (conv => whnf))) | ((apply ex2); (focus (with_reducible assumption)); (try (conv => whnf))) | fail)
    · have h9 : moB2 m = true := by rw [moB2, ← e1, ← e2]; exact h
      refine le_int ?_
      rw [moI, h1, h9]; rfl
    · have h9 : moB2 m = false := by rw [moB2, ← e1, ← e2]; exact h
      exact ⟨⟨(), h9⟩, (by refine Wk.of ?_ ?_ rfl rfl rfl <;> (repeat' (first | (exact trivial) | (exact WkD.same _) | (exact WkO.same _ _ rfl) | (exact WkD.any _) | (exact WkD.nil _ (Or.inl rfl)) | (exact WkD.nil _ (Or.inr rfl)) | (exact WkD.fz _ _ _ rfl (Or.inl ⟨_, rfl⟩) rfl) | (exact WkD.fz _ _ _ rfl (Or.inr rfl) rfl) | (refine WkD.int ?_) | (exact WkD.new' rfl rfl rfl) | (exact WkO.new _ _ rfl) | (refine WkO.vars rfl ?_) | (with_reducible rfl) | (exact rfl) | (refine ⟨?_, ?_⟩) | ((refine wrapA ?_ ?_ ?_); (focus (simp; done)); (focus ((try dsimp only); omega)); (focus ((try dsimp only); omega))) | fail)))⟩
  rintro ⟨_, h2⟩
  obtain ⟨ag, fa⟩ := moB2_no h2
  refine ⟨{ _x : Unit // moB3 m = false }, fun _ => [(1, .ref 0 0)], fun _ => 1, fun _ => HM m, ?_, ?_⟩
  · (try (conv => whnf)); repeat' (first | (apply And.intro <;> (try (conv => whnf))) | (intro h; first | (with_reducible exact tf0 h) | (with_reducible exact ft0 h) | (with_reducible exact nt0 h) | (with_reducible exact nf0 h) | (exact litz h rfl) | (with_reducible exact tf h (by with_reducible assumption)) | (with_reducible exact tf (by with_reducible assumption) h) | (try (conv => whnf))) | (with_reducible rfl) | (apply True.intro) | (apply infoT; rfl) | (apply bleI; rfl) | (apply fitI; rfl) | (apply cellsI; rfl) | (apply szI; rfl) | (apply guardI; kernel_rfl) | (apply WhenQ.mk; (try (conv => whnf)); rotate_left; (try (conv => whnf)); rotate_right) | (with_reducible assumption) | (apply not_of; with_reducible assumption) | (apply left_of; with_reducible assumption) | (apply left_of; apply left_of; with_reducible assumption) | (apply and_of <;> first | (with_reducible assumption) | (apply not_of; with_reducible assumption))| (refine lin_plan (by kernel_rfl) ?_; (try (conv => whnf))) | (refine ⟨_, _, rfl, idx_map (by with_reducible assumption), rfl, ?_⟩; (try (conv => whnf))) | (refine ⟨rfl, ?_⟩; (try (conv => whnf))) | (exact Nat.le_refl 1) | ((apply ex3); (focus (with_reducible assumption)); (focus (with_reducible assumption)); (try (conv => whnf))) | ((apply ex2); (focus (with_reducible assumption)); (try (conv => whnf))) | fail)
    refine ⟨{ i : Nat // i ≤ m.rel.length ∧ (m.rel.take i).any (fun r => (r.length : Int) != m.n) = false }, fun i => [(1, .ref 0 0), (24, .pv (.sl (m.rel.map rowPV))), (25, .pv (i64 (m.rel.map rowPV).length)), (26, .pv (i64 i.1))], fun _ => 1, fun _ => HM m, fun i => m.rel.length - i.1, ⟨⟨0, Nat.zero_le _, rfl⟩, (by refine Wk.of ?_ ?_ rfl rfl rfl <;> (repeat' (first | (exact trivial) | (exact WkD.same _) | (exact WkO.same _ _ rfl) | (exact WkD.any _) | (exact WkD.nil _ (Or.inl rfl)) | (exact WkD.nil _ (Or.inr rfl)) | (exact WkD.fz _ _ _ rfl (Or.inl ⟨_, rfl⟩) rfl) | (exact WkD.fz _ _ _ rfl (Or.inr rfl) rfl) | (refine WkD.int ?_) | (exact WkD.new' rfl rfl rfl) | (exact WkO.new _ _ rfl) | (refine WkO.vars rfl ?_) | (with_reducible rfl) | (exact rfl) | (refine ⟨?_, ?_⟩) | ((refine wrapA ?_ ?_ ?_); (focus (simp; done)); (focus ((try dsimp only); omega)); (focus ((try dsimp only); omega))) | fail)))⟩, ?_⟩
    rintro ⟨i, hi, ha⟩
    (try (conv => whnf)); repeat' (first | (apply And.intro <;> (try (conv => whnf))) | (intro h; first | (with_reducible exact tf0 h) | (with_reducible exact ft0 h) | (with_reducible exact nt0 h) | (with_reducible exact nf0 h) | (exact litz h rfl) | (with_reducible exact tf h (by with_reducible assumption)) | (with_reducible exact tf (by with_reducible assumption) h) | (try (conv => whnf))) | (with_reducible rfl) | (apply True.intro) | (apply infoT; rfl) | (apply bleI; rfl) | (apply fitI; rfl) | (apply cellsI; rfl) | (apply szI; rfl) | (apply guardI; kernel_rfl) | (apply WhenQ.mk; (try (conv => whnf)); rotate_left; (try (conv => whnf)); rotate_right) | (with_reducible assumption) | (apply not_of; with_reducible assumption) | (apply left_of; with_reducible assumption) | (apply left_of; apply left_of; with_reducible assumption) | (apply and_of <;> first | (with_reducible assumption) | (apply not_of; with_reducible assumption))| (refine lin_plan (by kernel_rfl) ?_; (try (conv => whnf))) | (refine ⟨_, _, rfl, idx_map (by with_reducible assumption), rfl, ?_⟩; (try (conv => whnf))) | (refine ⟨rfl, ?_⟩; (try (conv => whnf))) | (exact Nat.le_refl 1) | ((apply ex3); (focus (with_reducible assumption)); (focus (with_reducible assumption)); (try (conv => whnf))) | ((apply ex2); (focus (with_reducible assumption)); (try (conv => whnf))) | fail)
    · have hi' : i < m.rel.length := by simpa using lt_dec h
      have hm : m.rel[i]? = some m.rel[i] := List.getElem?_eq_getElem hi'
      have e3 : (((m.rel[i]).map u64).length : Int) = ((m.rel[i]).length : Int) := by simp
      refine ⟨_, _, rfl, idx_map hm, rfl, ?_⟩
      (try (conv => whnf)); repeat' (first | (apply And.intro <;> (try (conv => whnf))) | (intro h; first | (with_reducible exact tf0 h) | (with_reducible exact ft0 h) | (with_reducible exact nt0 h) | (with_reducible exact nf0 h) | (exact litz h rfl) | (with_reducible exact tf h (by with_reducible assumption)) | (with_reducible exact tf (by with_reducible assumption) h) | (try (conv => whnf))) | (with_reducible rfl) | (apply True.intro) | (apply infoT; rfl) | (apply bleI; rfl) | (apply fitI; rfl) | (apply cellsI; rfl) | (apply szI; rfl) | (apply guardI; kernel_rfl) | (apply WhenQ.mk; (try (conv => whnf)); rotate_left; (try (conv => whnf)); rotate_right) | (with_reducible assumption) | (apply not_of; with_reducible assumption) | (apply left_of; with_reducible assumption) | (apply left_of; apply left_of; with_reducible assumption) | (apply and_of <;> first | (with_reducible assumption) | (apply not_of; with_reducible assumption))| (refine lin_plan (by kernel_rfl) ?_; (try (conv => whnf))) | (refine ⟨_, _, rfl, idx_map (by with_reducible assumption), rfl, ?_⟩; (try (conv => whnf))) | (refine ⟨rfl, ?_⟩; (try (conv => whnf))) | (exact Nat.le_refl 1) | ((apply ex3); (focus (with_reducible assumption)); (focus (with_reducible assumption)); (try (conv => whnf))) | ((apply ex2); (focus (with_reducible assumption)); (try (conv => whnf))) | fail)
      · have e : moB3 m = true := any_at hi' (by rw [← e3]; exact h)
        refine le_int ?_
        rw [moI, h1, h2, e]; rfl
      · exact ⟨⟨i + 1, hi', any_take hi' ha (by rw [← e3]; exact h)⟩, by show m.rel.length - (i + 1) < m.rel.length - i; omega, (by refine Wk.of ?_ ?_ rfl rfl rfl <;> (repeat' (first | (exact trivial) | (exact WkD.same _) | (exact WkO.same _ _ rfl) | (exact WkD.any _) | (exact WkD.nil _ (Or.inl rfl)) | (exact WkD.nil _ (Or.inr rfl)) | (exact WkD.fz _ _ _ rfl (Or.inl ⟨_, rfl⟩) rfl) | (exact WkD.fz _ _ _ rfl (Or.inr rfl) rfl) | (refine WkD.int ?_) | (exact WkD.new' rfl rfl rfl) | (exact WkO.new _ _ rfl) | (refine WkO.vars rfl ?_) | (with_reducible rfl) | (exact rfl) | (refine ⟨?_, ?_⟩) | ((refine wrapA ?_ ?_ ?_); (focus (simp; done)); (focus ((try dsimp only); omega)); (focus ((try dsimp only); omega))) | fail)))⟩
    · have hi' : i = m.rel.length := by have := ge_dec (m := (m.rel.map rowPV).length) h (by simpa using hi); simpa using this
      subst hi'
      rw [List.take_length] at ha
      exact ⟨⟨(), ha⟩, (by refine Wk.of ?_ ?_ rfl rfl rfl <;> (repeat' (first | (exact trivial) | (exact WkD.same _) | (exact WkO.same _ _ rfl) | (exact WkD.any _) | (exact WkD.nil _ (Or.inl rfl)) | (exact WkD.nil _ (Or.inr rfl)) | (exact WkD.fz _ _ _ rfl (Or.inl ⟨_, rfl⟩) rfl) | (exact WkD.fz _ _ _ rfl (Or.inr rfl) rfl) | (refine WkD.int ?_) | (exact WkD.new' rfl rfl rfl) | (exact WkO.new _ _ rfl) | (refine WkO.vars rfl ?_) | (with_reducible rfl) | (exact rfl) | (refine ⟨?_, ?_⟩) | ((refine wrapA ?_ ?_ ?_); (focus (simp; done)); (focus ((try dsimp only); omega)); (focus ((try dsimp only); omega))) | fail)))⟩
  rintro ⟨_, h3⟩
  have hrl : ∀ r, r ∈ m.rel → r.length ≤ 1000 := fun r hr => by
    have := List.any_eq_false.1 h3 r hr
    have h6 : ((r.length : Int) != m.n) = false := by simpa using this
    have h7 : (r.length : Int) = m.n := by simpa using h6
    omega
  have hO := md_outside n m.val n64 (by omega) hf.1
  rw [show i64 n = .int .i64 m.n by rw [hmn]; rfl] at hO
  have e4 : moB4 m = bif outB n m.val then true else m.rel.any fun r => outB n r := by rw [moB4, hmn, Int.toNat_natCast]
  (try (conv => whnf)); repeat' (first | (apply And.intro <;> (try (conv => whnf))) | (intro h; first | (with_reducible exact tf0 h) | (with_reducible exact ft0 h) | (with_reducible exact nt0 h) | (with_reducible exact nf0 h) | (exact litz h rfl) | (with_reducible exact tf h (by with_reducible assumption)) | (with_reducible exact tf (by with_reducible assumption) h) | (try (conv => whnf))) | (with_reducible rfl) | (apply True.intro) | (apply infoT; rfl) | (apply bleI; rfl) | (apply fitI; rfl) | (apply cellsI; rfl) | (apply szI; rfl) | (apply guardI; kernel_rfl) | (apply WhenQ.mk; (try (conv => whnf)); rotate_left; (try (conv => whnf)); rotate_right) | (with_reducible assumption) | (apply not_of; with_reducible assumption) | (apply left_of; with_reducible assumption) | (apply left_of; apply left_of; with_reducible assumption) | (apply and_of <;> first | (with_reducible assumption) | (apply not_of; with_reducible assumption))| (refine lin_plan (by kernel_rfl) ?_; (try (conv => whnf))) | (refine ⟨_, _, rfl, idx_map (by with_reducible assumption), rfl, ?_⟩; (try (conv => whnf))) | (refine ⟨rfl, ?_⟩; (try (conv => whnf))) | (exact Nat.le_refl 1) | ((apply ex3); (focus (with_reducible assumption)); (focus (with_reducible assumption)); (try (conv => whnf))) | ((apply ex2); (focus (with_reducible assumption)); (try (conv => whnf))) | (refine PureFn.dcq (f := 53) rfl ?_; (try (conv => whnf))) | ((refine ⟨_, _, hO, ?_, ?_⟩); (focus (first | (refine ⟨?_, ?_, trivial⟩ <;> first | (exact PLe.refl _) | (exact PLe.nil)) | (exact trivial))); (try (conv => whnf))) | (refine ⟨_, (by (conv => whnf); exact hO), rfl, ?_⟩; (try (conv => whnf))) | fail)
  · refine cont_M m n hmn n64 m.rel (by omega) (fun r hr => ⟨hrl r hr, hf.2 r hr⟩) 0 _ ?_
    (try (conv => whnf)); repeat' (first | (apply And.intro <;> (try (conv => whnf))) | (intro h; first | (with_reducible exact tf0 h) | (with_reducible exact ft0 h) | (with_reducible exact nt0 h) | (with_reducible exact nf0 h) | (exact litz h rfl) | (with_reducible exact tf h (by with_reducible assumption)) | (with_reducible exact tf (by with_reducible assumption) h) | (try (conv => whnf))) | (with_reducible rfl) | (apply True.intro) | (apply infoT; rfl) | (apply bleI; rfl) | (apply fitI; rfl) | (apply cellsI; rfl) | (apply szI; rfl) | (apply guardI; kernel_rfl) | (apply WhenQ.mk; (try (conv => whnf)); rotate_left; (try (conv => whnf)); rotate_right) | (with_reducible assumption) | (apply not_of; with_reducible assumption) | (apply left_of; with_reducible assumption) | (apply left_of; apply left_of; with_reducible assumption) | (apply and_of <;> first | (with_reducible assumption) | (apply not_of; with_reducible assumption))| (refine lin_plan (by kernel_rfl) ?_; (try (conv => whnf))) | (refine ⟨_, _, rfl, idx_map (by with_reducible assumption), rfl, ?_⟩; (try (conv => whnf))) | (refine ⟨rfl, ?_⟩; (try (conv => whnf))) | (exact Nat.le_refl 1) | ((apply ex3); (focus (with_reducible assumption)); (focus (with_reducible assumption)); (try (conv => whnf))) | ((apply ex2); (focus (with_reducible assumption)); (try (conv => whnf))) | fail)
  · (try (conv => whnf)); repeat' (first | (apply And.intro <;> (try (conv => whnf))) | (intro h; first | (with_reducible exact tf0 h) | (with_reducible exact ft0 h) | (with_reducible exact nt0 h) | (with_reducible exact nf0 h) | (exact litz h rfl) | (with_reducible exact tf h (by with_reducible assumption)) | (with_reducible exact tf (by with_reducible assumption) h) | (try (conv => whnf))) | (with_reducible rfl) | (apply True.intro) | (apply infoT; rfl) | (apply bleI; rfl) | (apply fitI; rfl) | (apply cellsI; rfl) | (apply szI; rfl) | (apply guardI; kernel_rfl) | (apply WhenQ.mk; (try (conv => whnf)); rotate_left; (try (conv => whnf)); rotate_right) | (with_reducible assumption) | (apply not_of; with_reducible assumption) | (apply left_of; with_reducible assumption) | (apply left_of; apply left_of; with_reducible assumption) | (apply and_of <;> first | (with_reducible assumption) | (apply not_of; with_reducible assumption))| (refine lin_plan (by kernel_rfl) ?_; (try (conv => whnf))) | (refine ⟨_, _, rfl, idx_map (by with_reducible assumption), rfl, ?_⟩; (try (conv => whnf))) | (refine ⟨rfl, ?_⟩; (try (conv => whnf))) | (exact Nat.le_refl 1) | ((apply ex3); (focus (with_reducible assumption)); (focus (with_reducible assumption)); (try (conv => whnf))) | ((apply ex2); (focus (with_reducible assumption)); (try (conv => whnf))) | fail)
    · refine le_int ?_
      rw [moI, h1, h2, h3, e4, h]; rfl
    · refine le_int ?_
      rw [moI, h1, h2, h3, e4, h]; rfl
end Go.Proofs.Ytnbnkgcjgfmlcaa
