/- Parts of the proof, one after the other: Models: as values, their errors; boxes, paths, groups (plain). Models: where formulas hold (plain). Products: what they are (plain). Products: with the action model in which nothing happens; conditions that products keep (plain). Products: the pairs one after the other (plain). Lists that fill up; sets as words (plain). Models: Check of the program walked. Relations and groups: of the program, walked. Groups of a model: of the program, walked. The checker of the program walked: common knowledge, requests, nodes. The checker of the program walked: a node. -/
import Derived.Test.YtlaolpkgabknfaaDoorM5
set_option maxRecDepth 100000
set_option maxHeartbeats 4000000
namespace Go.Proofs.YtlaolpkgabknfaaDoor
open Go Go.Dv

structure Mo where
  n : Int
  val : List Nat
  rel : List (List Nat)
def Mo.pv (m : Mo) : PV := .agg [.int .i64 m.n, .sl (m.val.map u64), .sl (m.rel.map rowPV)]
def cellsM (m : Mo) : List DV := [.pv (.int .i64 m.n), .pv (.sl (m.val.map u64)), .pv (.sl (m.rel.map rowPV))]
def noMo : Mo := ⟨0, [], []⟩
theorem le_noMo : PLe (.agg [.int .i64 0, .nil, .nil]) noMo.pv := PLe.aggs ⟨.refl _, .nil, .nil, trivial⟩
/-- All numbers fit a word. -/
def FitM (m : Mo) : Prop := (∀ s, s ∈ m.val → s < 2 ^ 64) ∧ ∀ r, r ∈ m.rel → ∀ s, s ∈ r → s < 2 ^ 64

/-! errors -/
def outB (n : Nat) (l : List Nat) : Bool := l.any fun s => !decide (s < 2 ^ n)
def moB1 (m : Mo) : Bool := bif decide (m.n < 1) then true else decide (m.n > 64)
def moB2 (m : Mo) : Bool := bif decide ((m.rel.length : Int) > 4) then true else decide ((m.val.length : Int) > 8)
def moB3 (m : Mo) : Bool := m.rel.any fun r => (r.length : Int) != m.n
def moB4 (m : Mo) : Bool := bif outB m.n.toNat m.val then true else m.rel.any fun r => outB m.n.toNat r
def moI (m : Mo) : Int := bif moB1 m then 2 else bif moB2 m then 8 else bif moB3 m then 3 else bif moB4 m then 2 else 0
theorem outB_no {n : Nat} {l : List Nat} : outB n l = false ↔ ∀ s, s ∈ l → s < 2 ^ n := by
  rw [outB, List.any_eq_false]
  constructor
  · intro h s hs
    have := h s hs
    simpa using this
  · intro h s hs
    simpa using h s hs
/-- What a model consists of that is without error. -/
structure OkM (m : Mo) (n : Nat) : Prop where
  nn : m.n = (n : Int)
  n1 : 1 ≤ n
  n64 : n ≤ 64
  ag : m.rel.length ≤ 4
  fa : m.val.length ≤ 8
  rows : ∀ r, r ∈ m.rel → r.length = n
  vbits : ∀ s, s ∈ m.val → s < 2 ^ n
  bits : ∀ r, r ∈ m.rel → ∀ s, s ∈ r → s < 2 ^ n
theorem moB1_no {m : Mo} (h : moB1 m = false) : ∃ n : Nat, m.n = n ∧ 1 ≤ n ∧ n ≤ 64 := by
  unfold moB1 at h
  by_cases h1 : m.n < 1
  · rw [decide_eq_true h1] at h; cases h
  · by_cases h2 : m.n > 64
    · rw [decide_eq_false h1, decide_eq_true h2] at h; cases h
    · exact ⟨m.n.toNat, by omega, by omega, by omega⟩
theorem moB2_no {m : Mo} (h : moB2 m = false) : m.rel.length ≤ 4 ∧ m.val.length ≤ 8 := by
  unfold moB2 at h
  by_cases h1 : (m.rel.length : Int) > 4
  · rw [decide_eq_true h1] at h; cases h
  · rw [decide_eq_false h1] at h
    have := of_decide_eq_false (show decide ((m.val.length : Int) > 8) = false from h)
    exact ⟨by omega, by omega⟩
theorem moI_ok {m : Mo} (h : moI m = 0) : ∃ n, OkM m n := by
  unfold moI at h
  cases h1 : moB1 m with
  | true => rw [h1] at h; cases h
  | false =>
    cases h2 : moB2 m with
    | true => rw [h1, h2] at h; cases h
    | false =>
      cases h3 : moB3 m with
      | true => rw [h1, h2, h3] at h; cases h
      | false =>
        cases h4 : moB4 m with
        | true => rw [h1, h2, h3, h4] at h; cases h
        | false =>
          obtain ⟨n, hn, g1, g2⟩ := moB1_no h1
          obtain ⟨g3, g4⟩ := moB2_no h2
          unfold moB4 at h4
          rw [hn, Int.toNat_natCast] at h4
          cases h5 : outB n m.val with
          | true => rw [h5] at h4; cases h4
          | false =>
            rw [h5] at h4
            refine ⟨n, hn, g1, g2, g3, g4, fun r hr => ?_, outB_no.1 h5, fun r hr => ?_⟩
            · have := List.any_eq_false.1 h3 r hr
              rw [hn] at this
              have h6 : ((r.length : Int) != (n : Int)) = false := by simpa using this
              have h7 : (r.length : Int) = n := by simpa using h6
              omega
            · have := List.any_eq_false.1 (show (m.rel.any fun r => outB n r) = false from h4) r hr
              exact outB_no.1 (by simpa using this)
theorem ok_moI {m : Mo} {n : Nat} (h : OkM m n) : moI m = 0 := by
  have h1 : moB1 m = false := by
    unfold moB1
    rw [h.nn, decide_eq_false (by have := h.n1; omega), decide_eq_false (by have := h.n64; omega)]; rfl
  have h2 : moB2 m = false := by
    unfold moB2
    rw [decide_eq_false (by have := h.ag; omega), decide_eq_false (by have := h.fa; omega)]; rfl
  have h3 : moB3 m = false := by
    rw [moB3, List.any_eq_false]
    intro r hr
    rw [h.rows r hr, h.nn]; simp
  have h4 : moB4 m = false := by
    unfold moB4
    rw [h.nn, Int.toNat_natCast, outB_no.2 h.vbits]
    show (m.rel.any fun r => outB n r) = false
    rw [List.any_eq_false]
    intro r hr
    rw [outB_no.2 (h.bits r hr)]; simp
  rw [moI, h1, h2, h3, h4]; rfl
theorem OkM.fit {m : Mo} {n : Nat} (h : OkM m n) : FitM m := by
  have h2 : 2 ^ n ≤ 2 ^ 64 := Nat.pow_le_pow_right (by decide) h.n64
  exact ⟨fun s hs => Nat.lt_of_lt_of_le (h.vbits s hs) h2, fun r hr s hs => Nat.lt_of_lt_of_le (h.bits r hr s hs) h2⟩

/-! sets -/
/-- Those of the first n that are not in a set. -/
def notN (n a : Nat) : Nat := maskOf (fun w => !a.testBit w) n
theorem andNotU_all {n a : Nat} (hn : n ≤ 64) : andNotU ((2 ^ n - 1 : Nat) : Int) (a : Int) = ((notN n a : Nat) : Int) := by
  have h1 : 2 ^ n - 1 < 2 ^ 64 := by
    have : 2 ^ n ≤ 2 ^ 64 := Nat.pow_le_pow_right (by decide) hn
    have := Nat.two_pow_pos n
    omega
  rw [andNotU_eq h1]
  congr 1
  apply Nat.eq_of_testBit_eq
  intro i
  rw [Nat.testBit_xor, Nat.testBit_and, Nat.testBit_two_pow_sub_one, notN, maskOf_bit]
  cases decide (i < n) <;> cases a.testBit i <;> rfl
theorem notN_lt (n a : Nat) : notN n a < 2 ^ n := maskOf_lt _ _
theorem subM_iff {a b : Nat} : subM a b = true ↔ Sub a b := by
  rw [subM, beq_iff_eq]
  constructor
  · intro h i hi
    rw [← h, Nat.testBit_and, Bool.and_eq_true] at hi
    exact hi.2
  · intro h
    apply Nat.eq_of_testBit_eq
    intro i
    rw [Nat.testBit_and]
    cases q : a.testBit i with
    | false => rfl
    | true => rw [h i q]; rfl
/-- The points all of whose successors are in a set. -/
def boxN (n : Nat) (r : List Nat) (s : Nat) : Nat := maskOf (fun w => subM (r.getD w 0) s) n
theorem boxN_lt (n : Nat) (r : List Nat) (s : Nat) : boxN n r s < 2 ^ n := maskOf_lt _ _
theorem boxN_bit {n : Nat} {r : List Nat} {s w : Nat} : (boxN n r s).testBit w = true ↔ w < n ∧ Sub (r.getD w 0) s := by
  rw [boxN, maskOf_bit, Bool.and_eq_true, decide_eq_true_eq, subM_iff]
def diaN (n : Nat) (r : List Nat) (s : Nat) : Nat := notN n (boxN n r (notN n s))
theorem diaN_lt (n : Nat) (r : List Nat) (s : Nat) : diaN n r s < 2 ^ n := maskOf_lt _ _

/-! common knowledge: the program's rounds -/
def fN (n : Nat) (r : List Nat) (c s x : Nat) : Nat := boxN n r (notN n c ||| (s &&& x))
def comP (n : Nat) (r : List Nat) (c s : Nat) : Nat → Nat
  | 0 => 2 ^ n - 1
  | k + 1 => fN n r c s (comP n r c s k)
/-- Where the worlds that one or more steps along the condition lead to are all in the set. -/
def pathN (n : Nat) (r : List Nat) (c w : Nat) : Nat := seqR [r.map fun a => a &&& c] n ((r.getD w 0) &&& c) n
def comN (n : Nat) (r : List Nat) (c s : Nat) : Nat := maskOf (fun w => subM (pathN n r c w) s) n
theorem comN_lt (n : Nat) (r : List Nat) (c s : Nat) : comN n r c s < 2 ^ n := maskOf_lt _ _
theorem comP_lt (n : Nat) (r : List Nat) (c s : Nat) : ∀ k, comP n r c s k < 2 ^ n
  | 0 => by have := Nat.two_pow_pos n; show 2 ^ n - 1 < 2 ^ n; omega
  | k + 1 => boxN_lt _ _ _
theorem fN_bit {n : Nat} {r : List Nat} {c s x w : Nat} (hb : ∀ w, r.getD w 0 < 2 ^ n) : (fN n r c s x).testBit w = true ↔ w < n ∧ ∀ v, (r.getD w 0).testBit v = true → c.testBit v = true → s.testBit v = true ∧ x.testBit v = true := by
  rw [fN, boxN_bit]
  refine and_congr_right fun hw => ?_
  constructor
  · intro h v hv hc
    have := h v hv
    rw [Nat.testBit_or, notN, maskOf_bit, hc, Nat.testBit_and] at this
    simpa using this
  · intro h v hv
    rw [Nat.testBit_or, notN, maskOf_bit, Nat.testBit_and]
    have hvn : v < n := bit_lt (hb w) hv
    cases hc : c.testBit v with
    | false => simp [hvn]
    | true =>
      obtain ⟨h1, h2⟩ := h v hv hc
      rw [h1, h2]; simp
theorem fN_mono {n : Nat} {r : List Nat} {c s x y : Nat} (hb : ∀ w, r.getD w 0 < 2 ^ n) (h : Sub x y) : Sub (fN n r c s x) (fN n r c s y) := fun w hw => by
  obtain ⟨h1, h2⟩ := (fN_bit hb).1 hw
  exact (fN_bit hb).2 ⟨h1, fun v hv hc => ⟨(h2 v hv hc).1, h v (h2 v hv hc).2⟩⟩
theorem comP_down {n : Nat} {r : List Nat} {c s : Nat} (hb : ∀ w, r.getD w 0 < 2 ^ n) : ∀ k, Sub (comP n r c s (k + 1)) (comP n r c s k)
  | 0 => fun w hw => by
    show (2 ^ n - 1).testBit w = true
    rw [Nat.testBit_two_pow_sub_one]
    exact decide_eq_true (bit_lt (comP_lt n r c s 1) hw)
  | k + 1 => fN_mono hb (comP_down hb k)
/-- As long as the rounds go on, worlds fall out. -/
theorem comP_stop {n : Nat} {r : List Nat} {c s : Nat} (hb : ∀ w, r.getD w 0 < 2 ^ n) : ∀ k, comP n r c s (k + 1) = comP n r c s k ∨ card n (comP n r c s (k + 1)) + k + 1 ≤ n
  | 0 => by
    by_cases e : comP n r c s 1 = comP n r c s 0
    · exact .inl e
    · have := card_grow (comP_down hb 0) e (comP_lt n r c s 0)
      have h2 := card_le n (comP n r c s 0)
      exact .inr (by omega)
  | k + 1 => by
    by_cases e : comP n r c s (k + 2) = comP n r c s (k + 1)
    · exact .inl e
    · rcases comP_stop (c := c) (s := s) hb k with h | h
      · exact absurd (show fN n r c s (comP n r c s (k + 1)) = comP n r c s (k + 1) by rw [h]; exact h) e
      · have := card_grow (comP_down hb (k + 1)) e (comP_lt n r c s (k + 1))
        exact .inr (by omega)

/-! the paths of the reference -/
theorem rel1_get {r : List Nat} {c e : Nat} : ([r.map fun a => a &&& c].getD 0 []).getD e 0 = r.getD e 0 &&& c := by
  show (r.map fun a => a &&& c).getD e 0 = _
  rw [List.getD_eq_getElem?_getD, List.getElem?_map, List.getD_eq_getElem?_getD]
  cases r[e]? with
  | none => simp
  | some a => rfl
theorem rel1_Rel {r : List Nat} {c n : Nat} (hl : r.length = n) (hb : ∀ s, s ∈ r → s < 2 ^ n) : Rel [r.map fun a => a &&& c] n := by
  refine ⟨fun q hq => ?_, fun q hq s hs => ?_⟩
  · rw [List.mem_singleton.1 hq, List.length_map, hl]
  · rw [List.mem_singleton.1 hq] at hs
    obtain ⟨a, ha, rfl⟩ := List.mem_map.1 hs
    exact Nat.lt_of_le_of_lt Nat.and_le_left (hb a ha)
theorem getD_lt2 {r : List Nat} {n : Nat} (hb : ∀ s, s ∈ r → s < 2 ^ n) (w : Nat) : r.getD w 0 < 2 ^ n := by
  rw [List.getD_eq_getElem?_getD]
  cases h : r[w]? with
  | none => simp; exact Nat.two_pow_pos _
  | some s => exact hb s (List.mem_iff_getElem?.2 ⟨w, h⟩)
theorem orA_one {r : List Nat} {c e : Nat} : orA [r.map fun a => a &&& c] e 1 = r.getD e 0 &&& c := by
  rw [orA, orA, Nat.zero_or]; exact rel1_get
/-- The worlds of the paths are closed under steps along the condition, and the least such set. -/
theorem pathN_closed {n : Nat} {r : List Nat} {c w : Nat} (hl : r.length = n) (hb : ∀ s, s ∈ r → s < 2 ^ n) : Closed' [r.map fun a => a &&& c] n (pathN n r c w) := by
  have hR := rel1_Rel (c := c) hl hb
  have h0 : r.getD w 0 &&& c < 2 ^ n := Nat.lt_of_le_of_lt Nat.and_le_left (getD_lt2 hb w)
  refine rndR_closed ?_
  by_cases hz : (r.getD w 0 &&& c) = 0
  · have hall : ∀ m, rndR [r.map fun a => a &&& c] 0 m = 0 := fun m => by
      induction m with
      | zero => rfl
      | succ m ih => rw [rndR, ih, inP, Nat.zero_testBit]; rfl
    have hs : ∀ k, seqR [r.map fun a => a &&& c] n 0 k = 0 := fun k => by
      induction k with
      | zero => rfl
      | succ k ih => rw [seqR, ih, hall]
    rw [pathN, hz, hs, hall]
  · have hlt := seqR_lt hR h0
    rcases grow_stops (f := fun b => rndR [r.map fun a => a &&& c] b n) (seqR [r.map fun a => a &&& c] n (r.getD w 0 &&& c)) (fun _ => rfl) hlt (fun k => rndR_sub n) hz n with g | g
    · exact g.symm
    · have := card_le n (seqR [r.map fun a => a &&& c] n (r.getD w 0 &&& c) (n + 1)); omega
theorem pathN_in {n : Nat} {r : List Nat} {c w t : Nat} (ht : Closed' [r.map fun a => a &&& c] n t) (h0 : Sub (r.getD w 0 &&& c) t) : Sub (pathN n r c w) t := seqR_in ht h0 n
theorem pathN_up {n : Nat} {r : List Nat} {c w : Nat} : Sub (r.getD w 0 &&& c) (pathN n r c w) := seqR_up n
theorem comP_comN {n : Nat} {r : List Nat} {c s k : Nat} (hl : r.length = n) (hb : ∀ s, s ∈ r → s < 2 ^ n) (hk : comP n r c s (k + 1) = comP n r c s k) : comP n r c s k = comN n r c s := by
  have hg := getD_lt2 hb
  have hlt := comP_lt n r c s
  refine sub_antisymm (fun w hw => ?_) ?_
  · rw [comN, maskOf_bit, Bool.and_eq_true, decide_eq_true_eq, subM_iff]
    refine ⟨bit_lt (hlt k) hw, ?_⟩
    have hfix : ∀ w, (comP n r c s k).testBit w = true → ∀ v, (r.getD w 0).testBit v = true → c.testBit v = true → s.testBit v = true ∧ (comP n r c s k).testBit v = true := fun w hw => by
      rw [← hk] at hw
      exact ((fN_bit hg).1 hw).2
    have hc : Closed' [r.map fun a => a &&& c] n (s &&& comP n r c s k) := fun e he hbe v hv => by
      rw [show ([r.map fun a => a &&& c] : List (List Nat)).length = 1 from rfl, orA_one, Nat.testBit_and, Bool.and_eq_true] at hv
      rw [Nat.testBit_and, Bool.and_eq_true] at hbe
      obtain ⟨h1, h2⟩ := hfix e hbe.2 v hv.1 hv.2
      rw [Nat.testBit_and, h1, h2]; rfl
    have h0 : Sub (r.getD w 0 &&& c) (s &&& comP n r c s k) := fun v hv => by
      rw [Nat.testBit_and, Bool.and_eq_true] at hv
      obtain ⟨h1, h2⟩ := hfix w hw v hv.1 hv.2
      rw [Nat.testBit_and, h1, h2]; rfl
    exact fun v hv => by
      have := pathN_in hc h0 v hv
      rw [Nat.testBit_and, Bool.and_eq_true] at this
      exact this.1
  · have key : ∀ j, Sub (comN n r c s) (comP n r c s j) := fun j => by
      induction j with
      | zero =>
        intro w hw
        show (2 ^ n - 1).testBit w = true
        rw [Nat.testBit_two_pow_sub_one]
        exact decide_eq_true (bit_lt (comN_lt n r c s) hw)
      | succ j ih =>
        intro w hw
        refine (fN_bit hg).2 ⟨bit_lt (comN_lt n r c s) hw, fun v hv hc => ?_⟩
        rw [comN, maskOf_bit, Bool.and_eq_true, subM_iff] at hw
        have hvp : (pathN n r c w).testBit v = true := pathN_up v (by rw [Nat.testBit_and, hv, hc]; rfl)
        have hvn : v < n := bit_lt (hg w) hv
        refine ⟨hw.2 v hvp, ih v ?_⟩
        rw [comN, maskOf_bit, Bool.and_eq_true, decide_eq_true_eq, subM_iff]
        refine ⟨hvn, fun u hu => hw.2 u ?_⟩
        refine pathN_in (pathN_closed hl hb) (fun u hu => ?_) u hu
        exact pathN_closed (w := w) hl hb v hvn hvp u (by rw [show ([r.map fun a => a &&& c] : List (List Nat)).length = 1 from rfl, orA_one]; exact hu)
    exact key k

/-! groups -/
/-- The relations of the agents of a group among the first i, joined; none if there is no such agent. -/
def gatP (op : Nat → Nat → Nat) (rel : List (List Nat)) (g : Int) : Nat → Option (List Nat)
  | 0 => none
  | i + 1 => bif and64 (shr64 g i) 1 == 0 then gatP op rel g i else match gatP op rel g i with
    | none => some (rel.getD i [])
    | some l => some ((List.range l.length).map fun w => op (l.getD w 0) ((rel.getD i []).getD w 0))
def badGM (m : Mo) (g : Int) : Bool := bif bif moI m != 0 then true else decide (g < 1) then true else decide (g ≥ shl64 1 (m.rel.length : Int))
def grpM (op : Nat → Nat → Nat) (m : Mo) (g : Int) (first : Nat) : List Nat := bif badGM m g then [] else (List.range m.n.toNat).map fun w => joinA op m.rel g first w m.rel.length
theorem gatP_eq {op : Nat → Nat → Nat} {rel : List (List Nat)} {n first : Nat} {g : Int} (hr : ∀ r, r ∈ rel → r.length = n) (hop : ∀ r, r ∈ rel → ∀ s, s ∈ r → op first s = s) : ∀ i, i ≤ rel.length →
    (gatP op rel g i = none → ∀ w, joinA op rel g first w i = first) ∧ ∀ l, gatP op rel g i = some l → l = (List.range n).map fun w => joinA op rel g first w i
  | 0, _ => ⟨fun _ _ => rfl, fun l h => by cases h⟩
  | i + 1, hi => by
    obtain ⟨ih1, ih2⟩ := gatP_eq (n := n) (g := g) hr hop i (by omega)
    have hn : rel[i]? = some (rel.getD i []) := getD_mem (by omega)
    have hm : rel.getD i [] ∈ rel := List.mem_iff_getElem?.2 ⟨i, hn⟩
    rw [gatP]
    have hbit : (and64 (shr64 g i) 1 == 1) = !(and64 (shr64 g i) 1 == 0) := by
      have key : ∀ a : Int, and64 a 1 = 0 ∨ and64 a 1 = 1 := fun a => by
        unfold and64
        have h1 : (BitVec.ofInt (IntKind.bits .i64) a &&& BitVec.ofInt (IntKind.bits .i64) 1).toNat ≤ 1 := by
          rw [BitVec.toNat_and]
          exact Nat.le_trans Nat.and_le_right (by decide)
        have h2 : (BitVec.ofInt (IntKind.bits .i64) a &&& BitVec.ofInt (IntKind.bits .i64) 1).toNat = 0 ∨ (BitVec.ofInt (IntKind.bits .i64) a &&& BitVec.ofInt (IntKind.bits .i64) 1).toNat = 1 := by omega
        rcases h2 with h | h <;> rw [h]
        · exact .inl rfl
        · exact .inr rfl
      rcases key (shr64 g i) with h | h <;> rw [h] <;> rfl
    cases hz : (and64 (shr64 g i) 1 == 0) with
    | true =>
      rw [hz] at hbit
      refine ⟨fun h w => ?_, fun l h => ?_⟩
      · rw [joinA, hbit]; exact ih1 h w
      · rw [ih2 l h]
        apply List.map_congr_left
        intro w _
        rw [joinA, hbit]; rfl
    | false =>
      rw [hz] at hbit
      refine ⟨fun h => ?_, fun l h => ?_⟩
      · exfalso
        simp only [cond_false] at h
        cases hg : gatP op rel g i <;> rw [hg] at h <;> cases h
      · simp only [cond_false] at h
        cases hg : gatP op rel g i with
        | none =>
          rw [hg] at h
          obtain rfl := Option.some.inj h
          apply List.ext_getElem?
          intro w
          by_cases hw : w < n
          · rw [List.getElem?_map, List.getElem?_range hw, getD_mem (show w < (rel.getD i []).length by rw [hr _ hm]; exact hw) (d := 0)]
            simp only [Option.map_some]
            rw [joinA, hbit, ih1 hg w]
            show _ = some (op first _)
            rw [hop _ hm _ (List.mem_iff_getElem?.2 ⟨w, getD_mem (show w < (rel.getD i []).length by rw [hr _ hm]; exact hw)⟩)]
          · rw [List.getElem?_eq_none (by rw [hr _ hm]; omega), List.getElem?_eq_none (by simp; omega)]
        | some l0 =>
          rw [hg] at h
          obtain rfl := Option.some.inj h
          have hl0 := ih2 l0 hg
          subst hl0
          simp only [List.length_map, List.length_range]
          apply List.map_congr_left
          intro w hw
          have hw' := List.mem_range.1 hw
          rw [List.getD_eq_getElem?_getD, List.getElem?_map, List.getElem?_range hw']
          simp only [Option.map_some, Option.getD_some]
          conv => rhs; rw [joinA, hbit]
          rfl
end Go.Proofs.YtlaolpkgabknfaaDoor
set_option maxRecDepth 100000
set_option maxHeartbeats 4000000
namespace Go.Proofs.YtlaolpkgabknfaaDoor
open Go Go.Dv

def orF (x y : Nat) : Nat := x ||| y
def andF (x y : Nat) : Nat := x &&& y
/-- The set of a node, given those of its operands. -/
def vlN (m : Mo) (n : Nat) (op i g : Int) (x y : Nat) : Nat :=
  bif op == 1 then 2 ^ n - 1 else bif op == 2 then 0 else bif op == 3 then m.val.getD i.toNat 0 else bif op == 4 then notN n x
  else bif op == 5 then x &&& y else bif op == 6 then x ||| y else bif op == 7 then notN n x ||| y else bif op == 8 then notN n (x ^^^ y)
  else bif op == 9 then boxN n (m.rel.getD i.toNat []) x else bif op == 10 then diaN n (m.rel.getD i.toNat []) x
  else bif op == 11 then boxN n (grpM orF m g 0) x else bif op == 12 then boxN n (grpM andF m g (2 ^ n - 1)) x else comN n (grpM orF m g 0) x y
/-- The set of a tree. -/
def vlT (m : Mo) (n : Nat) : Tr → Nat
  | .none => 0
  | .nd op i _ g a b => vlN m n op i g (vlT m n a) (vlT m n b)
theorem bif_lt {c : Bool} {a b k : Nat} (ha : a < k) (hb : b < k) : (bif c then a else b) < k := by cases c <;> assumption
theorem vlN_lt {m : Mo} {n : Nat} (hv : ∀ s, s ∈ m.val → s < 2 ^ n) {op i g : Int} {x y : Nat} (hx : x < 2 ^ n) (hy : y < 2 ^ n) : vlN m n op i g x y < 2 ^ n := by
  have hp := Nat.two_pow_pos n
  unfold vlN
  refine bif_lt (by omega) (bif_lt hp (bif_lt (getD_lt2 hv _) (bif_lt (notN_lt _ _) (bif_lt (Nat.and_lt_two_pow x hy) (bif_lt (Nat.or_lt_two_pow hx hy) (bif_lt (Nat.or_lt_two_pow (notN_lt _ _) hy) (bif_lt (notN_lt _ _) (bif_lt (boxN_lt _ _ _) (bif_lt (diaN_lt _ _ _) (bif_lt (boxN_lt _ _ _) (bif_lt (boxN_lt _ _ _) (comN_lt _ _ _ _))))))))))))
theorem vlT_lt {m : Mo} {n : Nat} (hv : ∀ s, s ∈ m.val → s < 2 ^ n) : ∀ t, vlT m n t < 2 ^ n
  | .none => Nat.two_pow_pos n
  | .nd _ _ _ _ a b => vlN_lt hv (vlT_lt hv a) (vlT_lt hv b)
/-- Is a node static, and does it fit? -/
def fitQ (m : Mo) (op i _e g : Int) : Bool :=
  bif decide (op ≤ 2) then true else bif op == 3 then !decide (i ≥ (m.val.length : Int)) else bif decide (op ≤ 8) then true
  else bif decide (op ≤ 10) then !decide (i ≥ (m.rel.length : Int)) else bif decide (op ≤ 13) then !decide (g ≥ shl64 1 (m.rel.length : Int)) else false
theorem vlN_congr {m : Mo} {n : Nat} {op i g : Int} {x y x' y' : Nat} (h1 : 1 ≤ op) (h2 : op ≤ 13) (hx : usesX op = true → x = x') (hy : usesY op = true → y = y') : vlN m n op i g x y = vlN m n op i g x' y' := by
  have : op = 1 ∨ op = 2 ∨ op = 3 ∨ op = 4 ∨ op = 5 ∨ op = 6 ∨ op = 7 ∨ op = 8 ∨ op = 9 ∨ op = 10 ∨ op = 11 ∨ op = 12 ∨ op = 13 := by omega
  rcases this with rfl | rfl | rfl | rfl | rfl | rfl | rfl | rfl | rfl | rfl | rfl | rfl | rfl
  · rfl
  · rfl
  · rfl
  · rw [hx rfl]; rfl
  · rw [hx rfl, hy rfl]
  · rw [hx rfl, hy rfl]
  · rw [hx rfl, hy rfl]
  · rw [hx rfl, hy rfl]
  · rw [hx rfl]; rfl
  · rw [hx rfl]; rfl
  · rw [hx rfl]; rfl
  · rw [hx rfl]; rfl
  · rw [hx rfl, hy rfl]
theorem fitQ_13 {m : Mo} {op i e g : Int} (h : fitQ m op i e g = true) : op ≤ 13 := by
  unfold fitQ at h
  rcases Int.lt_or_le 13 op with q | q
  · rw [show decide (op ≤ 2) = false from decide_eq_false (by omega), show (op == 3) = false by simp; omega, show decide (op ≤ 8) = false from decide_eq_false (by omega), show decide (op ≤ 10) = false from decide_eq_false (by omega), show decide (op ≤ 13) = false from decide_eq_false (by omega)] at h; cases h
  · exact q

/-! the program's way: every node, with a mark for those that are static and fit -/
def usY (op : Int) : Bool := bif (bif decide (op ≥ 5) then decide (op ≤ 8) else false) then true else op == 13
def okV (acc : List (Nat × Bool)) (x : Nd) : Bool :=
  bif usY x.op then (bif (bif decide (x.op ≥ 4) then (acc.getD x.x.toNat (0, false)).2 else true) then (acc.getD x.y.toNat (0, false)).2 else false) else (bif decide (x.op ≥ 4) then (acc.getD x.x.toNat (0, false)).2 else true)
def valV (m : Mo) (n : Nat) (x : Nd) (a b : Nat) : Nat × Bool := bif fitQ m x.op x.i x.e x.g then (vlN m n x.op x.i x.g a b, true) else (0, false)
def nodeV (m : Mo) (n : Nat) (acc : List (Nat × Bool)) (x : Nd) : Nat × Bool :=
  bif okV acc x then valV m n x (acc.getD x.x.toNat (0, false)).1 (acc.getD x.y.toNat (0, false)).1 else (0, false)
def setsV (m : Mo) (n : Nat) (f : List Nd) : List (Nat × Bool) := f.foldl (fun acc x => acc ++ [nodeV m n acc x]) []
theorem setsV_snoc (m : Mo) (n : Nat) (f : List Nd) (x : Nd) : setsV m n (f ++ [x]) = setsV m n f ++ [nodeV m n (setsV m n f) x] := by rw [setsV, List.foldl_append]; rfl
theorem setsV_take {m : Mo} {n : Nat} {f : List Nd} {i : Nat} (h : i < f.length) : setsV m n (f.take (i + 1)) = setsV m n (f.take i) ++ [nodeV m n (setsV m n (f.take i)) f[i]] := by
  rw [List.take_succ_eq_append_getElem h, setsV_snoc]
theorem setsV_len {m : Mo} {n : Nat} {f : List Nd} : ∀ i, i ≤ f.length → (setsV m n (f.take i)).length = i
  | 0, _ => rfl
  | i + 1, h => by rw [setsV_take h, List.length_append, setsV_len i (by omega)]; rfl
theorem setsV_get {m : Mo} {n : Nat} {f : List Nd} : ∀ {k i : Nat} (_h : i < k) (_hk : k ≤ f.length), (setsV m n (f.take k))[i]? = some (nodeV m n (setsV m n (f.take i)) (f[i]'(by omega)))
  | 0, i, h, _ => by omega
  | k + 1, i, h, hk => by
    rw [setsV_take hk]
    have hl := setsV_len (m := m) (n := n) (f := f) k (by omega)
    by_cases e : i = k
    · subst e
      rw [List.getElem?_append_right (by omega), hl, Nat.sub_self]; rfl
    · rw [List.getElem?_append_left (by omega)]
      exact setsV_get (by omega) (by omega)
theorem usX_eq {op : Int} (h2 : op ≤ 21) : decide (op ≥ 4) = usesX op := by
  rw [usesX, show decide (op ≤ 21) = true from decide_eq_true h2, Bool.and_true]
theorem usY_eq {op : Int} (h1 : 1 ≤ op) (h2 : op ≤ 13) : usY op = usesY op := by
  have : op = 1 ∨ op = 2 ∨ op = 3 ∨ op = 4 ∨ op = 5 ∨ op = 6 ∨ op = 7 ∨ op = 8 ∨ op = 9 ∨ op = 10 ∨ op = 11 ∨ op = 12 ∨ op = 13 := by omega
  rcases this with rfl | rfl | rfl | rfl | rfl | rfl | rfl | rfl | rfl | rfl | rfl | rfl | rfl <;> rfl
/-- Of a tree all of whose nodes are static and fit, the program reckons the set. -/
theorem setsV_tree {m : Mo} {n : Nat} {f : List Nd} (hf : Okl f) : ∀ (k i : Nat), i < k → (hi : i < f.length) → allT (fitQ m) (tree f i) = true → nodeV m n (setsV m n (f.take i)) f[i] = (vlT m n (tree f i), true)
  | 0, i, h, _, _ => by omega
  | k + 1, i, h, hi, ha => by
    have hx : f[i]? = some f[i] := List.getElem?_eq_getElem hi
    have ok := hf i _ hx
    generalize hxe : f[i] = x at hx ok
    rw [tree_nd hf hx] at ha ⊢
    rw [allT, Bool.and_eq_true, Bool.and_eq_true] at ha
    obtain ⟨⟨hq, hax⟩, hay⟩ := ha
    have h13 := fitQ_13 hq
    have sub : ∀ j : Nat, j < i → allT (fitQ m) (tree f j) = true → (setsV m n (f.take i)).getD j (0, false) = (vlT m n (tree f j), true) := fun j hj hj2 => by
      rw [List.getD_eq_getElem?_getD, setsV_get (m := m) (n := n) hj (by omega), Option.getD_some]
      exact setsV_tree hf k j (by omega) (by omega) hj2
    have hX : usesX x.op = true → (setsV m n (f.take i)).getD x.x.toNat (0, false) = (vlT m n (tree f x.x.toNat), true) := fun hu => by
      have := ok.x hu
      exact sub _ (by omega) (by rw [hu] at hax; exact hax)
    have hY : usesY x.op = true → (setsV m n (f.take i)).getD x.y.toNat (0, false) = (vlT m n (tree f x.y.toNat), true) := fun hu => by
      have := ok.y hu
      exact sub _ (by omega) (by rw [hu] at hay; exact hay)
    have hok : okV (setsV m n (f.take i)) x = true := by
      unfold okV
      rw [usX_eq ok.op.2, usY_eq ok.op.1 h13]
      cases hux : usesX x.op with
      | false =>
        have : usesY x.op = false := by
          cases huy : usesY x.op with
          | false => rfl
          | true =>
            exfalso
            simp only [usesX, usesY, Bool.and_eq_false_iff, decide_eq_false_iff_not, Bool.or_eq_true, Bool.and_eq_true, decide_eq_true_eq, beq_iff_eq] at hux huy
            omega
        rw [this]; rfl
      | true =>
        rw [hX hux]
        cases huy : usesY x.op with
        | false => rfl
        | true => rw [hY huy]; rfl
    rw [nodeV, hok, valV, hq]
    show (vlN m n x.op x.i x.g _ _, true) = (vlN m n x.op x.i x.g (vlT m n _) (vlT m n _), true)
    rw [vlN_congr (x' := vlT m n (bif usesX x.op then tree f x.x.toNat else .none)) (y' := vlT m n (bif usesY x.op then tree f x.y.toNat else .none)) ok.op.1 h13 (fun hu => by rw [hX hu, hu]; rfl) (fun hu => by rw [hY hu, hu]; rfl)]

/-! the reference's way: of a canonical list -/
/-! requests -/
def stM (A F : Nat) (op i e g : Int) : Bool := decide (fragN ⟨op, i, e, g, 0, 0⟩ < 16) && decide (agN ⟨op, i, e, g, 0, 0⟩ < 2 ^ A) && decide (factN ⟨op, i, e, g, 0, 0⟩ < 2 ^ F)
theorem statM_iff {A F : Nat} {f : List Nd} : statI A F f = 0 ↔ check f = 0 ∧ ∀ x, x ∈ comp f → stM A F x.op x.i x.e x.g = true := by
  have hfr : frags f < 2 ^ 62 := Nat.lt_of_lt_of_le (frags_lt f) (by decide)
  have hag := agents_lt f
  have hfa := facts_lt f
  have e1 : ∀ x : Nd, fragN ⟨x.op, x.i, x.e, x.g, 0, 0⟩ = fragN x := fun x => rfl
  have e2 : ∀ x : Nd, agN ⟨x.op, x.i, x.e, x.g, 0, 0⟩ = agN x := fun x => rfl
  have e3 : ∀ x : Nd, factN ⟨x.op, x.i, x.e, x.g, 0, 0⟩ = factN x := fun x => rfl
  constructor
  · intro h
    obtain ⟨h1, h2, h3⟩ := statI_ok h
    refine ⟨h1, fun x hx => ?_⟩
    rw [frag_low hfr] at h2
    have h4 : belowB (agents f) A = true ∧ belowB (facts f) F = true := by
      unfold fits at h3
      rw [h1] at h3
      cases hb : belowB (agents f) A with
      | true => rw [hb] at h3; exact ⟨rfl, h3⟩
      | false => rw [hb] at h3; cases h3
    rw [below_lt hag (by decide), below_lt hfa (by decide)] at h4
    have h5 : fragN x ≤ frags f := orN_le hx
    have h6 : agN x ≤ agents f := orN_le hx
    have h7 : factN x ≤ facts f := orN_le hx
    simp only [stM, e1, e2, e3, Bool.and_eq_true, decide_eq_true_eq]
    exact ⟨⟨by omega, by omega⟩, by omega⟩
  · rintro ⟨h1, h2⟩
    have h3 : frags f < 16 := orN_lt (k := 4) fun x hx => by
      have := h2 x hx
      simp only [stM, e1, e2, e3, Bool.and_eq_true, decide_eq_true_eq] at this
      exact this.1.1
    have h4 : agents f < 2 ^ A := orN_lt fun x hx => by
      have := h2 x hx
      simp only [stM, e1, e2, e3, Bool.and_eq_true, decide_eq_true_eq] at this
      exact this.1.2
    have h6 : facts f < 2 ^ F := orN_lt fun x hx => by
      have := h2 x hx
      simp only [stM, e1, e2, e3, Bool.and_eq_true, decide_eq_true_eq] at this
      exact this.2
    have h5 : fits f A F = true := by
      unfold fits
      rw [h1, (below_lt hag (by decide)).2 h4, show belowB (facts f) F = true from (below_lt hfa (by decide)).2 h6]; rfl
    rw [statI, h1, (frag_low hfr).2 h3, h5]; rfl
theorem fitQ_of {m : Mo} {x : Nd} {k : Int} (hA : m.rel.length ≤ 4) (h : OkNd x k) (hs : stM m.rel.length m.val.length x.op x.i x.e x.g = true) : fitQ m x.op x.i x.e x.g = true := by
  simp only [stM, Bool.and_eq_true, decide_eq_true_eq] at hs
  obtain ⟨⟨h1, h2⟩, h3⟩ := hs
  have h1 : fragN x < 16 := h1
  have h2 : agN x < 2 ^ m.rel.length := h2
  have h3 : factN x < 2 ^ m.val.length := h3
  have ho := h.op
  have h13 : x.op ≤ 13 := by
    have key : ∀ op : Nat, op < 22 → (frag (op : Int)).toNat < 16 → op ≤ 13 := by decide
    have := key x.op.toNat (by omega)
    rw [show ((x.op.toNat : Nat) : Int) = x.op by omega] at this
    have := this h1
    omega
  unfold fitQ
  rcases Int.lt_or_le 2 x.op with g1 | g1
  · rw [decide_eq_false (by omega), cond_false]
    by_cases g2 : x.op = 3
    · have hf := h.fact g2
      rw [factN, show (x.op == 3) = true by simpa using g2] at h3
      have := (Nat.pow_lt_pow_iff_right (by decide : 1 < 2)).1 (show 2 ^ x.i.toNat < 2 ^ m.val.length from h3)
      rw [show (x.op == 3) = true by simpa using g2, cond_true, decide_eq_false (by omega)]; rfl
    · rw [show (x.op == 3) = false by simpa using g2, cond_false]
      rcases Int.lt_or_le 8 x.op with g3 | g3
      · rw [decide_eq_false (by omega), cond_false]
        rcases Int.lt_or_le 10 x.op with g4 | g4
        · have hia : isAgent x.op = false := by simp [isAgent]; omega
          have hig : isGroup x.op = true := by simp [isGroup]; omega
          have hg := h.group hig
          rw [agN, hia] at h2
          have h2 : x.g.toNat < 2 ^ m.rel.length := h2
          rw [decide_eq_false (by omega), cond_false, decide_eq_true (by omega), cond_true, shl_n hA, decide_eq_false (by omega)]; rfl
        · have hia : isAgent x.op = true := by simp [isAgent]; omega
          have ha := h.agent hia
          rw [agN, hia] at h2
          have := (Nat.pow_lt_pow_iff_right (by decide : 1 < 2)).1 (show 2 ^ x.i.toNat < 2 ^ m.rel.length from h2)
          rw [decide_eq_true (by omega), cond_true, decide_eq_false (by omega)]; rfl
      · rw [decide_eq_true (by omega), cond_true]
  · rw [decide_eq_true (by omega), cond_true]
def reqI (m : Mo) (f : List Nd) : Int := bif moI m != 0 then moI m else statI (m.rel.length : Int) (m.val.length : Int) f
def holdsI (m : Mo) (f : List Nd) : Nat × Int := bif reqI m f != 0 then (0, reqI m f) else (vlT m m.n.toNat (root f), 0)
theorem reqI_ok {m : Mo} {f : List Nd} (h : reqI m f = 0) : (∃ n, OkM m n) ∧ statI (m.rel.length : Int) (m.val.length : Int) f = 0 := by
  unfold reqI at h
  cases h1 : (moI m != 0) with
  | true => rw [h1] at h; simp only [cond_true] at h; rw [h] at h1; cases h1
  | false =>
    rw [h1] at h
    exact ⟨moI_ok (by simpa using h1), h⟩
theorem all_fit {m : Mo} {f : List Nd} (hA : m.rel.length ≤ 4) (h : statI (m.rel.length : Int) (m.val.length : Int) f = 0) (i : Nat) : allT (fitQ m) (tree (comp f) i) = true := by
  obtain ⟨h1, h2⟩ := statM_iff.1 h
  refine trn_all (fun x hx => ?_) _ _
  obtain ⟨k, hk⟩ := okl_mem (comp_okl f) hx
  exact fitQ_of hA hk (h2 x hx)
theorem last_V {m : Mo} {n : Nat} {f : List Nd} (hA : m.rel.length ≤ 4) (h : statI (m.rel.length : Int) (m.val.length : Int) f = 0) : ∃ v, (setsV m n f)[f.length - 1]? = some v ∧ v.1 = vlT m n (root f) := by
  have h1 := (statM_iff.1 h).1
  have hp : 1 ≤ f.length := (check_ok h1).1
  have ha : allT (fitQ m) (tree f (f.length - 1)) = true := by
    have := all_fit hA h ((comp f).length - 1)
    rw [show tree (comp f) ((comp f).length - 1) = root f from root_comp h1] at this
    exact this
  have hg := setsV_get (m := m) (n := n) (f := f) (k := f.length) (i := f.length - 1) (by omega) (Nat.le_refl _)
  rw [List.take_length, setsV_tree (check_okl h1) (f.length) (f.length - 1) (by omega) (by omega) ha] at hg
  exact ⟨_, hg, rfl⟩
end Go.Proofs.YtlaolpkgabknfaaDoor
set_option maxRecDepth 100000
set_option maxHeartbeats 4000000
namespace Go.Proofs.YtlaolpkgabknfaaDoor
open Go Go.Dv

/-! action models for some agents and facts -/
theorem stat_mono {A F : Nat} {f : List Nd} (hF : F ≤ 8) (h : statI A F f = 0) : statI A 8 f = 0 := by
  obtain ⟨h1, h2⟩ := statM_iff.1 h
  refine (statM_iff (F := 8)).2 ⟨h1, fun x hx => ?_⟩
  have := h2 x hx
  simp only [stM, Bool.and_eq_true, decide_eq_true_eq] at this ⊢
  exact ⟨this.1, Nat.lt_of_lt_of_le this.2 (Nat.pow_le_pow_right (by decide) hF)⟩
theorem chgs_mono {A F : Nat} (hF : F ≤ 8) : ∀ {l : List Asg} {last : Int}, chgs A F l last = 0 → chgs A 8 l last = 0
  | [], _, _ => rfl
  | x :: r, last, h => by
    rw [chgs] at h ⊢
    cases h1 : decide (x.fact < 0) with
    | true => rw [h1] at h; cases h
    | false =>
      cases h2 : decide (x.fact ≥ (F : Int)) with
      | true => rw [h1, h2] at h; cases h
      | false =>
        rw [h1, h2] at h
        have q2 := of_decide_eq_false h2
        rw [decide_eq_false (show ¬ x.fact ≥ 8 by omega)]
        cases h3 : decide (x.fact ≤ last) with
        | true => rw [h3] at h; cases h
        | false =>
          rw [h3] at h
          have h4 : statI A F x.to = 0 := by
            by_cases q : statI A F x.to = 0
            · exact q
            · rw [show (statI A F x.to != 0) = true by simpa using q] at h; exact h
          rw [h4] at h
          rw [stat_mono hF h4]
          exact chgs_mono hF h
theorem act_alone {a : Act} {A F : Nat} (hF : F ≤ 8) (h : actI a A F = 0) : aloneI a = 0 ∧ a.rel.length = A := by
  have hO := actI_ok h
  have hA : a.rel.length = A := by have := hO.ags; omega
  subst hA
  obtain ⟨e1, e2⟩ := evs_all hO.ev
  refine ⟨valid_of hO.agn hO.n1 hO.n8 hO.post hO.rows hO.bits (fun f hf => stat_mono hF (e1 f hf)) fun l hl => ?_, rfl⟩
  obtain ⟨e, he, rfl⟩ := List.mem_iff_getElem.1 hl
  have := e2 e (by rw [← hO.post]; exact he)
  rw [List.getD_eq_getElem?_getD, List.getElem?_eq_getElem he] at this
  exact chgs_mono hF this

/-! pairs -/
/-- Where the precondition of an event holds. -/
def possP (m : Mo) (a : Act) (e : Nat) : Nat := (holdsI m (a.pre.getD e [])).1
/-- The pairs with a world, those with the first e events. -/
def pairsE (p : Nat → Nat) (w : Nat) : Nat → List (Nat × Nat)
  | 0 => []
  | e + 1 => bif (p e).testBit w then pairsE p w e ++ [(w, e)] else pairsE p w e
/-- The pairs with the first w worlds. -/
def pairsW (p : Nat → Nat) (k : Nat) : Nat → List (Nat × Nat)
  | 0 => []
  | w + 1 => pairsW p k w ++ pairsE p w k
theorem pairsE_mem {p : Nat → Nat} {w : Nat} {q : Nat × Nat} : ∀ {e : Nat}, q ∈ pairsE p w e ↔ q.1 = w ∧ q.2 < e ∧ (p q.2).testBit w = true
  | 0 => by simp [pairsE]
  | e + 1 => by
    have ih := pairsE_mem (p := p) (w := w) (q := q) (e := e)
    rw [pairsE]
    cases h : (p e).testBit w with
    | true =>
      rw [cond_true, List.mem_append, ih, List.mem_singleton]
      constructor
      · rintro (⟨h1, h2, h3⟩ | rfl)
        · exact ⟨h1, by omega, h3⟩
        · exact ⟨rfl, by show e < e + 1; omega, h⟩
      · rintro ⟨h1, h2, h3⟩
        by_cases q2 : q.2 = e
        · exact .inr (by rw [← h1, ← q2])
        · exact .inl ⟨h1, by omega, h3⟩
    | false =>
      rw [cond_false, ih]
      constructor
      · rintro ⟨h1, h2, h3⟩; exact ⟨h1, by omega, h3⟩
      · rintro ⟨h1, h2, h3⟩
        refine ⟨h1, ?_, h3⟩
        by_cases q2 : q.2 = e
        · rw [q2, h] at h3; cases h3
        · omega
theorem pairsW_mem {p : Nat → Nat} {k : Nat} {q : Nat × Nat} : ∀ {w : Nat}, q ∈ pairsW p k w ↔ q.1 < w ∧ q.2 < k ∧ (p q.2).testBit q.1 = true
  | 0 => by simp [pairsW]
  | w + 1 => by
    rw [pairsW, List.mem_append, pairsW_mem, pairsE_mem]
    constructor
    · rintro (⟨h1, h2, h3⟩ | ⟨h1, h2, h3⟩)
      · exact ⟨by omega, h2, h3⟩
      · exact ⟨by omega, h2, by rw [h1]; exact h3⟩
    · rintro ⟨h1, h2, h3⟩
      by_cases e : q.1 = w
      · exact .inr ⟨e, h2, by rw [← e]; exact h3⟩
      · exact .inl ⟨by omega, h2, h3⟩
theorem pairsE_len (p : Nat → Nat) (w : Nat) : ∀ e, (pairsE p w e).length ≤ e
  | 0 => Nat.le_refl _
  | e + 1 => by
    have := pairsE_len p w e
    rw [pairsE]
    cases (p e).testBit w with
    | true => rw [cond_true, List.length_append, List.length_singleton]; omega
    | false => rw [cond_false]; omega
theorem pairsW_len (p : Nat → Nat) (k : Nat) : ∀ w, (pairsW p k w).length ≤ w * k
  | 0 => by simp [pairsW]
  | w + 1 => by
    have h1 := pairsW_len p k w
    have h2 := pairsE_len p w k
    rw [pairsW, List.length_append, Nat.add_mul]; omega
def pairPV (q : Nat × Nat) : PV := .agg [i64 q.1, i64 q.2]
def pairsL (m : Mo) (a : Act) : List (Nat × Nat) := pairsW (possP m a) a.pre.length m.n.toNat
/-- The error of a model and an action model. -/
def moaI (m : Mo) (a : Act) : Int := bif moI m != 0 then moI m else actI a (m.rel.length : Int) (m.val.length : Int)
def worldsI (m : Mo) (a : Act) : List (Nat × Nat) × Int :=
  bif moaI m a != 0 then ([], moaI m a) else bif ((pairsL m a).length : Int) == 0 then ([], 11) else (pairsL m a, 0)
def worldsPV (x : List (Nat × Nat) × Int) : PV := .tup [.sl (x.1.map pairPV), .int .i64 x.2]
theorem le_worlds (e : Int) : PLe (.tup [.nil, .int .i64 e]) (worldsPV ([], e)) := PLe.tups ⟨.nil, .refl _, trivial⟩
theorem moaI_ok {m : Mo} {a : Act} (h : moaI m a = 0) : (∃ n, OkM m n) ∧ actI a (m.rel.length : Int) (m.val.length : Int) = 0 := by
  unfold moaI at h
  cases h1 : (moI m != 0) with
  | true => rw [h1] at h; simp only [cond_true] at h; rw [h] at h1; cases h1
  | false =>
    rw [h1] at h
    exact ⟨moI_ok (by simpa using h1), h⟩
/-- The preconditions have sets. -/
theorem pre_holds {m : Mo} {a : Act} (h : moaI m a = 0) {e : Nat} (he : e < a.pre.length) : holdsI m (a.pre.getD e []) = (possP m a e, 0) ∧ possP m a e < 2 ^ m.n.toNat := by
  obtain ⟨⟨n, hM⟩, hA⟩ := moaI_ok h
  have hs := (evs_all (actI_ok hA).ev).1 _ (List.mem_iff_getElem?.2 ⟨e, getD_mem he (d := [])⟩)
  have hr : reqI m (a.pre.getD e []) = 0 := by rw [reqI, ok_moI hM]; exact hs
  have hh : holdsI m (a.pre.getD e []) = (vlT m m.n.toNat (root (a.pre.getD e [])), 0) := by rw [holdsI, hr]; rfl
  refine ⟨by rw [possP, hh], ?_⟩
  rw [possP, hh, hM.nn, Int.toNat_natCast]
  exact vlT_lt hM.vbits _

/-! products -/
/-- Where a fact gets a true formula by an event. -/
def valuP (m : Mo) (a : Act) (e i : Nat) : Nat := (holdsI m (valI a e i).1).1
def valP (m : Mo) (a : Act) (l : List (Nat × Nat)) (i : Nat) : Nat := maskOf (fun k => (valuP m a (l.getD k (0, 0)).2 i).testBit (l.getD k (0, 0)).1) l.length
def seesP (r q : List Nat) (x y : Nat × Nat) : Bool := bif (r.getD x.1 0).testBit y.1 then (q.getD x.2 0).testBit y.2 else false
def rowP (r q : List Nat) (l : List (Nat × Nat)) (x : Nat × Nat) : Nat := maskOf (fun k => seesP r q x (l.getD k (0, 0))) l.length
def relP (m : Mo) (a : Act) (l : List (Nat × Nat)) (i : Nat) : List Nat := l.map (rowP (m.rel.getD i []) (a.rel.getD i []) l)
def prodM (m : Mo) (a : Act) (l : List (Nat × Nat)) : Mo := ⟨(l.length : Int), (List.range m.val.length).map (valP m a l), (List.range m.rel.length).map (relP m a l)⟩
def updI (m : Mo) (a : Act) : Mo × List (Nat × Nat) × Int :=
  bif (worldsI m a).2 != 0 then (noMo, [], (worldsI m a).2) else bif decide (((worldsI m a).1.length : Int) > 64) then (noMo, [], 8) else (prodM m a (worldsI m a).1, (worldsI m a).1, 0)
def updPV (x : Mo × List (Nat × Nat) × Int) : PV := .tup [x.1.pv, .sl (x.2.1.map pairPV), .int .i64 x.2.2]
theorem le_upd (e : Int) : PLe (.tup [.agg [.int .i64 0, .nil, .nil], .nil, .int .i64 e]) (updPV (noMo, [], e)) := PLe.tups ⟨le_noMo, .nil, .refl _, trivial⟩
theorem worldsI_ok {m : Mo} {a : Act} (h : (worldsI m a).2 = 0) : moaI m a = 0 ∧ (worldsI m a).1 = pairsL m a ∧ 1 ≤ (pairsL m a).length := by
  unfold worldsI at h ⊢
  cases h1 : (moaI m a != 0) with
  | true => rw [h1] at h; simp only [cond_true] at h; rw [h] at h1; cases h1
  | false =>
    rw [h1] at h
    cases h2 : (((pairsL m a).length : Int) == 0) with
    | true => rw [h2] at h; cases h
    | false =>
      have : ¬ ((pairsL m a).length : Int) = 0 := by simpa using h2
      exact ⟨by simpa using h1, rfl, by omega⟩
theorem valI_ok {m : Mo} {a : Act} (h : moaI m a = 0) {e i : Nat} (he : e < a.pre.length) (hi : i < m.val.length) : (valI a e i).2 = 0 := by
  obtain ⟨⟨n, hM⟩, hA⟩ := moaI_ok h
  have h1 := (act_alone hM.fa hA).1
  have h2 : badEv a (e : Int) = false := by
    unfold badEv
    rw [decide_eq_false (by omega), decide_eq_false (by omega)]; rfl
  have h3 : badF (i : Int) = false := by
    have := hM.fa
    unfold badF
    rw [decide_eq_false (by omega), decide_eq_false (by omega)]; rfl
  rw [valI, h1, h2, h3]; rfl
theorem holds_lt {m : Mo} {f : List Nd} (n : Nat) (hM : OkM m n) : (holdsI m f).1 < 2 ^ n := by
  unfold holdsI
  cases (reqI m f != 0) with
  | true => exact Nat.two_pow_pos n
  | false =>
    show vlT m m.n.toNat (root f) < 2 ^ n
    rw [hM.nn, Int.toNat_natCast]
    exact vlT_lt hM.vbits _
/-- The product is a model without error. -/
theorem prod_ok {m : Mo} {a : Act} {n : Nat} (hM : OkM m n) {l : List (Nat × Nat)} (h1 : 1 ≤ l.length) (h64 : l.length ≤ 64) : OkM (prodM m a l) l.length := by
  refine ⟨rfl, h1, h64, by simp [prodM]; exact hM.ag, by simp [prodM]; exact hM.fa, fun r hr => ?_, fun s hs => ?_, fun r hr s hs => ?_⟩
  · obtain ⟨i, _, rfl⟩ := List.mem_map.1 hr
    simp [relP]
  · obtain ⟨i, _, rfl⟩ := List.mem_map.1 hs
    exact maskOf_lt _ _
  · obtain ⟨i, _, rfl⟩ := List.mem_map.1 hr
    obtain ⟨x, _, rfl⟩ := List.mem_map.1 hs
    exact maskOf_lt _ _
def badW (m : Mo) (w : Int) : Bool := bif decide (w < 0) then true else decide (w ≥ m.n)
def atPV (x : Mo × Int × Int) : PV := .tup [x.1.pv, .int .i64 x.2.1, .int .i64 x.2.2]
end Go.Proofs.YtlaolpkgabknfaaDoor
set_option maxRecDepth 100000
set_option maxHeartbeats 4000000
namespace Go.Proofs.YtlaolpkgabknfaaDoor
open Go Go.Dv

theorem fact_stat : ∀ A : Nat, A < 5 → ∀ F : Nat, F < 9 → ∀ i : Nat, i < F → statI A F (buildL (nI 3 i) []) = 0 := by decide +kernel
theorem fact_root : ∀ i : Nat, i < 8 → root (buildL (nI 3 i) []) = .nd 3 i 0 0 .none .none := by decide +kernel
theorem holds_fact {m : Mo} {n : Nat} (hM : OkM m n) {i : Nat} (hi : i < m.val.length) : holdsI m (buildL (nI 3 i) []) = (m.val.getD i 0, 0) := by
  have hr : reqI m (buildL (nI 3 i) []) = 0 := by
    rw [reqI, ok_moI hM]
    exact fact_stat _ (by have := hM.ag; omega) _ (by have := hM.fa; omega) i hi
  rw [holdsI, hr, fact_root i (by have := hM.fa; omega)]; rfl
theorem all_bit {n i : Nat} (h : i < n) : (2 ^ n - 1).testBit i = true := by rw [Nat.testBit_two_pow_sub_one]; exact decide_eq_true h
end Go.Proofs.YtlaolpkgabknfaaDoor
set_option maxRecDepth 100000
set_option maxHeartbeats 4000000
namespace Go.Proofs.YtlaolpkgabknfaaDoor
open Go Go.Dv

/-- The pairs before (w, e). -/
def pairsB (p : Nat → Nat) (k w e : Nat) : List (Nat × Nat) := pairsW p k w ++ pairsE p w e
theorem pairsB_zero (p : Nat → Nat) (k w : Nat) : pairsB p k w 0 = pairsW p k w := List.append_nil _
theorem pairsB_full (p : Nat → Nat) (k w : Nat) : pairsB p k w k = pairsW p k (w + 1) := rfl
theorem pairsB_succ (p : Nat → Nat) (k w e : Nat) : pairsB p k w (e + 1) = bif (p e).testBit w then pairsB p k w e ++ [(w, e)] else pairsB p k w e := by
  unfold pairsB
  rw [pairsE]
  cases (p e).testBit w with
  | true => exact (List.append_assoc _ _ _).symm
  | false => rfl
end Go.Proofs.YtlaolpkgabknfaaDoor
set_option maxRecDepth 100000
set_option maxHeartbeats 4000000
namespace Go.Proofs.YtlaolpkgabknfaaDoor
open Go Go.Dv

/-- A list of n elements of which the first e are new. -/
def mixV (n : Nat) (p q : Nat → PV) (e : Nat) : List PV := (List.range n).map fun j => bif decide (j < e) then p j else q j
theorem mixV_len (n : Nat) (p q : Nat → PV) (e : Nat) : (mixV n p q e).length = n := by simp [mixV]
theorem mixV_get {n : Nat} {p q : Nat → PV} {e j : Nat} (h : j < n) : (mixV n p q e)[j]? = some (bif decide (j < e) then p j else q j) := by
  simp [mixV, List.getElem?_map, List.getElem?_range h]
theorem mixV_old {n : Nat} {p q : Nat → PV} {e : Nat} (h : e < n) : (mixV n p q e)[e]? = some (q e) := by
  rw [mixV_get h, decide_eq_false (Nat.lt_irrefl e)]; rfl
theorem mixV_new {n : Nat} {p q : Nat → PV} {e j : Nat} (h : j < n) (hj : j < e) : (mixV n p q e)[j]? = some (p j) := by
  rw [mixV_get h, decide_eq_true hj]; rfl
theorem mixV_set {n : Nat} {p q : Nat → PV} {e : Nat} : (mixV n p q e).set e (p e) = mixV n p q (e + 1) := by
  apply List.ext_getElem?
  intro i
  rw [List.getElem?_set]
  by_cases hi : i < n
  · rw [mixV_get hi, mixV_get hi, mixV_len]
    by_cases he : e = i
    · subst he; simp [hi]
    · have : decide (i < e + 1) = decide (i < e) := by
        by_cases q : i < e
        · simp [q, Nat.lt_succ_of_lt q]
        · have : ¬ i < e + 1 := by omega
          simp [q, this]
      simp [he, this]
  · rw [List.getElem?_eq_none (by rw [mixV_len]; omega), List.getElem?_eq_none (by rw [mixV_len]; omega), mixV_len]
    split
    · split
      · rename_i h3 h4; omega
      · rfl
    · rfl
theorem mixV_zero (n : Nat) (p q : Nat → PV) : mixV n p q 0 = (List.range n).map q := by simp [mixV]
theorem mixV_rep (n : Nat) (p : Nat → PV) (z : PV) : List.replicate n z = mixV n p (fun _ => z) 0 := by
  rw [mixV_zero]
  apply List.ext_getElem (by simp)
  intro i h1 h2
  simp
theorem mixV_full (n : Nat) (p q : Nat → PV) : mixV n p q n = (List.range n).map p := by
  apply List.map_congr_left
  intro j hj
  rw [decide_eq_true (List.mem_range.1 hj)]; rfl
theorem range_map {α : Type} {g : α → PV} {d : α} (l : List α) : (List.range l.length).map (fun j => g (l.getD j d)) = l.map g := map_getD rfl

/-! sets as words -/
theorem pow64_le {n : Nat} (hn : n ≤ 64) : 2 ^ n ≤ 2 ^ 64 := Nat.pow_le_pow_right (by decide) hn
def xorU (a b : Int) : Int := IntKind.wrap .u64 ((BitVec.ofInt (IntKind.bits .u64) a ^^^ BitVec.ofInt (IntKind.bits .u64) b).toNat : Int)
theorem xorU_nat {a b : Nat} (ha : a < 2 ^ 64) (hb : b < 2 ^ 64) : xorU a b = ((a ^^^ b : Nat) : Int) := by
  have hlt : a ^^^ b < 2 ^ 64 := Nat.xor_lt_two_pow ha hb
  unfold xorU
  show IntKind.wrap .u64 ((BitVec.ofInt 64 (a : Int) ^^^ BitVec.ofInt 64 (b : Int)).toNat : Int) = _
  rw [ofInt_nat, ofInt_nat, BitVec.toNat_xor, ofNat_toNat ha, ofNat_toNat hb, wrapU (by omega) (by omega)]
/-- All bits but those of a word. -/
def complN (a : Nat) : Nat := (2 ^ 64 - 1) ^^^ a
theorem complN_lt {a : Nat} (ha : a < 2 ^ 64) : complN a < 2 ^ 64 := Nat.xor_lt_two_pow (by decide) ha
theorem complN_bit {a i : Nat} (hi : i < 64) : (complN a).testBit i = !a.testBit i := by
  rw [complN, Nat.testBit_xor, Nat.testBit_two_pow_sub_one, decide_eq_true hi]; cases a.testBit i <;> rfl
theorem compl_run {a : Nat} (ha : a < 2 ^ 64) : IntKind.wrap .u64 ((BitVec.ofInt (IntKind.bits .u64) (if (IntKind.u64).signed then -1 else IntKind.max .u64) ^^^ BitVec.ofInt (IntKind.bits .u64) (a : Int)).toNat : Int) = ((complN a : Nat) : Int) :=
  xorU_nat (a := 2 ^ 64 - 1) (by decide) ha
theorem shr_all {n : Nat} (h1 : 1 ≤ n) (hn : n ≤ 64) : shrU 18446744073709551615 ((64 : Int) - n) = ((2 ^ n - 1 : Nat) : Int) := by
  have e : ((64 : Int) - n) = ((64 - n : Nat) : Int) := by omega
  rw [e, show (18446744073709551615 : Int) = ((2 ^ 64 - 1 : Nat) : Int) from rfl, shrU_nat _ _ (by omega)]
  congr 1
  apply Nat.eq_of_testBit_eq
  intro i
  rw [Nat.testBit_shiftRight, Nat.testBit_two_pow_sub_one, Nat.testBit_two_pow_sub_one]
  congr 1
  rw [eq_iff_iff]; omega
theorem andNotU_out {n s : Nat} (_hn : n ≤ 64) (hs : s < 2 ^ 64) : (andNotU (s : Int) ((2 ^ n - 1 : Nat) : Int) != 0) = !decide (s < 2 ^ n) := by
  have h := andNotU_subM (b := 2 ^ n - 1) hs
  rw [bne, h]
  congr 1
  rw [Bool.eq_iff_iff, subM_iff, decide_eq_true_eq]
  constructor
  · intro h
    apply Nat.lt_pow_two_of_testBit
    intro i hi
    cases hb : s.testBit i with
    | false => rfl
    | true =>
      have := h i hb
      rw [Nat.testBit_two_pow_sub_one, decide_eq_true_eq] at this
      omega
  · intro h i hi
    exact all_bit (bit_lt h hi)
theorem andNotU_sub {a b : Nat} (ha : a < 2 ^ 64) : (andNotU (a : Int) (b : Int) == 0) = subM a b := andNotU_subM ha
theorem box_compl {n : Nat} {r : List Nat} {s : Nat} (hn : n ≤ 64) (hb : ∀ s, s ∈ r → s < 2 ^ n) : boxN n r (complN s) = boxN n r (notN n s) := by
  refine maskOf_congr fun w _ => ?_
  rw [Bool.eq_iff_iff, subM_iff, subM_iff]
  have hg := getD_lt2 hb w
  constructor
  · intro h i hi
    have := h i hi
    have hin := bit_lt hg hi
    rw [complN_bit (by omega)] at this
    rw [notN, maskOf_bit, this, decide_eq_true hin]; rfl
  · intro h i hi
    have := h i hi
    have hin := bit_lt hg hi
    rw [notN, maskOf_bit, Bool.and_eq_true] at this
    rw [complN_bit (by omega)]; exact this.2
theorem mask_or {q : Nat → Bool} {w : Nat} (hq : q w = true) : maskOf q w ||| 2 ^ w = maskOf q (w + 1) := by rw [maskOf, hq]; rfl
theorem mask_no {q : Nat → Bool} {w : Nat} (hq : q w = false) : maskOf q w = maskOf q (w + 1) := by rw [maskOf, hq]; rfl
theorem mask_lt64 (q : Nat → Bool) {w : Nat} (hw : w ≤ 64) : maskOf q w < 2 ^ 64 := Nat.lt_of_lt_of_le (maskOf_lt q w) (pow64_le hw)
theorem or_shl {q : Nat → Bool} {w : Nat} (hw : w < 64) (hq : q w = true) : orU (maskOf q w : Nat) (shlU 1 (w : Int)) = ((maskOf q (w + 1) : Nat) : Int) := by
  rw [shlU_one hw, orU_nat (mask_lt64 q (by omega)) (Nat.pow_lt_pow_right (by decide) hw), mask_or hq]
end Go.Proofs.YtlaolpkgabknfaaDoor
set_option maxRecDepth 100000
set_option maxHeartbeats 4000000
namespace Go.Proofs.YtlaolpkgabknfaaDoor
open Go Go.Dv

theorem all_nat {n : Nat} (hn : n < 64) : IntKind.wrap .u64 (shlU 1 (n : Int) - 1) = ((2 ^ n - 1 : Nat) : Int) := by
  have h2 := Nat.two_pow_pos n
  have h3 : 2 ^ n < 2 ^ 64 := Nat.pow_lt_pow_right (by decide) hn
  rw [shlU_one hn, wrapU (by omega) (by omega)]; omega
theorem md_all (n : Nat) (hn : n ≤ 64) : PureFn Tryd.prog 53 [i64 n] (u64 (2 ^ n - 1)) := by
  refine PureFn.intro mixed (fn := Tryd.f53) rfl rfl rfl fun M w0 => ?_
  (try conv=>whnf);repeat' (first|(apply And.intro<;>try conv=>whnf)|(intro h;try conv=>whnf)|fail)
  · have h1 := of_decide_eq_true h
    obtain rfl : n = 64 := by omega
    exact .refl _
  · exact Int.natCast_nonneg _
  · have h1 := of_decide_eq_false h
    exact le_int (all_nat (by omega))
def HO (n : Nat) : List (Nat × DObj) := [(0, .var [.pv (i64 n)])]
theorem out1 {M : Nat → Prop} {w0 : World} (n s : Nat) (hn : n ≤ 64) (hs : s < 2 ^ 64) (base : Nat) (K : DV → DH → Prop) (hK : K (.pv (.bool (!decide (s < 2 ^ n)))) ⟨1, 0, base, objsOf (HO n)⟩) :
    DC Tryd.prog M w0 88 [.pv (u64 s), .ref 0 0] ⟨1, 0, base, objsOf (HO n)⟩ K := by
  refine DC.weaken (DC.intro mixed (fn := Tryd.f88) rfl rfl rfl ?_)
  have hA := md_all n hn
  rw [← andNotU_out hn hs] at hK
  (try conv=>whnf);repeat' (first|(refine PureFn.dcq (f := 53) rfl ?_;try conv=>whnf)|(refine ⟨_, _, hA, ?_, ?_⟩;(focus first|(refine ⟨?_, trivial⟩<;>first|exact PLe.refl _|exact PLe.nil)|exact trivial);try conv=>whnf)|fail)
  exact ⟨_, 1, HO n, (by refine Wk.of ?_ ?_ rfl rfl rfl<;>repeat' (first|exact trivial|exact WkD.same _|exact WkO.same _ _ rfl|refine ⟨?_, ?_⟩|fail)), hK⟩
theorem idx_U {M : Nat → Prop} {w0 : World} (n : Nat) (hn : n ≤ 64) (l : List Nat) (hl : l.length ≤ 1000) (hs : ∀ s, s ∈ l → s < 2 ^ 64) (base : Nat) (K : DV → DH → Prop) (hK : ∀ r : Int, decide (r ≥ 0) = outB n l → K (.pv (.int .i64 r)) ⟨1, 0, base, objsOf (HO n)⟩) :
    DC Tryd.prog M w0 101 [.pv (.sl (l.map u64)), .clo 88 [] [.ref 0 0]] ⟨1, 0, base, objsOf (HO n)⟩ K := by
  refine DC.weaken (DC.intro mixed (fn := Tryd.f101) rfl rfl rfl ?_)
  try conv=>whnf
  refine ⟨{ i : Nat // i ≤ l.length ∧ (l.take i).any (fun s => !decide (s < 2 ^ n)) = false }, fun i => [(0, .pv (.sl (l.map u64))), (1, .clo 88 [] [.ref 0 0]), (7, .pv (i64 (l.map u64).length)), (8, .pv (i64 i.1))], fun _ => 1, fun _ => HO n, fun i => l.length - i.1, ⟨⟨0, Nat.zero_le _, rfl⟩, (by refine Wk.of ?_ ?_ rfl rfl rfl<;>repeat' (first|exact trivial|exact WkD.same _|exact WkO.same _ _ rfl|refine ⟨?_, ?_⟩|fail))⟩, ?_⟩
  rintro ⟨i, hi, ha⟩
  (try conv=>whnf);repeat' (first|(apply And.intro<;>try conv=>whnf)|(intro h;try conv=>whnf)|(apply infoT;rfl)|fail)
  · have hi' : i < l.length := by simpa using lt_dec h
    have hm : l[i]? = some l[i] := List.getElem?_eq_getElem hi'
    have hsi := hs _ (List.getElem_mem hi')
    refine ⟨_, _, rfl, idx_map hm, rfl, ?_⟩
    try conv=>whnf
    refine out1 n l[i] hn hsi _ _ ?_
    (try conv=>whnf);repeat' (first|(apply And.intro<;>try conv=>whnf)|(intro h;try conv=>whnf)|fail)
    · have e : outB n l = true := any_at hi' h
      exact ⟨.pv (.int .i64 (i : Int)), 1, HO n, (by refine Wk.of ?_ ?_ rfl rfl rfl<;>repeat' (first|exact trivial|exact WkD.same _|exact WkO.same _ _ rfl|refine ⟨?_, ?_⟩|fail)), hK i (by rw [e]; simp)⟩
    · exact ⟨⟨i + 1, hi', any_take hi' ha h⟩, by show l.length - (i + 1) < l.length - i; omega, (by refine Wk.of ?_ ?_ rfl rfl rfl<;>repeat' (first|exact trivial|exact WkD.same _|exact WkO.same _ _ rfl|refine WkD.int ?_|refine ⟨?_, ?_⟩|(refine wrapA ?_ ?_ ?_;(focus simp;done);(focus (try dsimp only);omega);(focus (try dsimp only);omega))|fail))⟩
  · have hi' : i = l.length := by have := ge_dec (m := (l.map u64).length) h (by simpa using hi); simpa using this
    subst hi'
    rw [List.take_length] at ha
    exact ⟨.pv (.int .i64 (-1)), 1, HO n, (by refine Wk.of ?_ ?_ rfl rfl rfl<;>repeat' (first|exact trivial|exact WkD.same _|exact WkO.same _ _ rfl|refine ⟨?_, ?_⟩|fail)), hK (-1) (by rw [show outB n l = false from ha]; decide)⟩
theorem cont_U {M : Nat → Prop} {w0 : World} (n : Nat) (hn : n ≤ 64) (l : List Nat) (hl : l.length ≤ 1000) (hs : ∀ s, s ∈ l → s < 2 ^ 64) (base : Nat) (K : DV → DH → Prop) (hK : K (.pv (.bool (outB n l))) ⟨1, 0, base, objsOf (HO n)⟩) :
    DC Tryd.prog M w0 87 [.pv (.sl (l.map u64)), .clo 88 [] [.ref 0 0]] ⟨1, 0, base, objsOf (HO n)⟩ K := by
  refine DC.intro mixed (fn := Tryd.f87) rfl rfl rfl ?_
  try conv=>whnf
  refine idx_U n hn l hl hs 1 _ fun r e => ?_
  rw [← e] at hK
  try conv=>whnf
  exact hK
theorem md_outside (n : Nat) (l : List Nat) (hn : n ≤ 64) (hl : l.length ≤ 1000) (hs : ∀ s, s ∈ l → s < 2 ^ 64) : PureFn Tryd.prog 59 [.sl (l.map u64), i64 n] (.bool (outB n l)) := by
  refine PureFn.intro mixed (fn := Tryd.f59) rfl rfl rfl fun M w0 => ?_
  try conv=>whnf
  refine cont_U n hn l hl hs 0 _ ?_
  try conv=>whnf
  exact .refl _
def HM (m : Mo) : List (Nat × DObj) := [(0, .var (cellsM m))]
theorem chk1 {M : Nat → Prop} {w0 : World} (m : Mo) (n : Nat) (hmn : m.n = n) (hn : n ≤ 64) (r : List Nat) (hl : r.length ≤ 1000) (hs : ∀ s, s ∈ r → s < 2 ^ 64) (base : Nat) (K : DV → DH → Prop) (hK : K (.pv (.bool (outB n r))) ⟨1, 0, base, objsOf (HM m)⟩) :
    DC Tryd.prog M w0 61 [.pv (rowPV r), .ref 0 0] ⟨1, 0, base, objsOf (HM m)⟩ K := by
  refine DC.weaken (DC.intro mixed (fn := Tryd.f61) rfl rfl rfl ?_)
  have hA := md_outside n r hn hl hs
  rw [show i64 n = .int .i64 m.n by rw [hmn]; rfl] at hA
  (try conv=>whnf);repeat' (first|(refine PureFn.dcq (f := 59) rfl ?_;try conv=>whnf)|(refine ⟨_, _, hA, ?_, ?_⟩;(focus first|(refine ⟨?_, ?_, trivial⟩<;>first|exact PLe.refl _|exact PLe.nil)|exact trivial);try conv=>whnf)|fail)
  exact ⟨_, 1, HM m, (by refine Wk.of ?_ ?_ rfl rfl rfl<;>repeat' (first|exact trivial|exact WkD.same _|exact WkO.same _ _ rfl|refine ⟨?_, ?_⟩|fail)), hK⟩
theorem idx_M {M : Nat → Prop} {w0 : World} (m : Mo) (n : Nat) (hmn : m.n = n) (hn : n ≤ 64) (rows : List (List Nat)) (hl : rows.length ≤ 1000) (hr : ∀ r, r ∈ rows → r.length ≤ 1000 ∧ ∀ s, s ∈ r → s < 2 ^ 64) (base : Nat) (K : DV → DH → Prop) (hK : ∀ r : Int, decide (r ≥ 0) = rows.any (fun r => outB n r) → K (.pv (.int .i64 r)) ⟨1, 0, base, objsOf (HM m)⟩) :
    DC Tryd.prog M w0 89 [.pv (.sl (rows.map rowPV)), .clo 61 [] [.ref 0 0]] ⟨1, 0, base, objsOf (HM m)⟩ K := by
  refine DC.weaken (DC.intro mixed (fn := Tryd.f89) rfl rfl rfl ?_)
  try conv=>whnf
  refine ⟨{ i : Nat // i ≤ rows.length ∧ (rows.take i).any (fun r => outB n r) = false }, fun i => [(0, .pv (.sl (rows.map rowPV))), (1, .clo 61 [] [.ref 0 0]), (7, .pv (i64 (rows.map rowPV).length)), (8, .pv (i64 i.1))], fun _ => 1, fun _ => HM m, fun i => rows.length - i.1, ⟨⟨0, Nat.zero_le _, rfl⟩, (by refine Wk.of ?_ ?_ rfl rfl rfl<;>repeat' (first|exact trivial|exact WkD.same _|exact WkO.same _ _ rfl|refine ⟨?_, ?_⟩|fail))⟩, ?_⟩
  rintro ⟨i, hi, ha⟩
  (try conv=>whnf);repeat' (first|(apply And.intro<;>try conv=>whnf)|(intro h;try conv=>whnf)|(apply infoT;rfl)|fail)
  · have hi' : i < rows.length := by simpa using lt_dec h
    have hm : rows[i]? = some rows[i] := List.getElem?_eq_getElem hi'
    have hri := hr _ (List.getElem_mem hi')
    refine ⟨_, _, rfl, idx_map hm, rfl, ?_⟩
    try conv=>whnf
    refine chk1 m n hmn hn rows[i] hri.1 hri.2 _ _ ?_
    (try conv=>whnf);repeat' (first|(apply And.intro<;>try conv=>whnf)|(intro h;try conv=>whnf)|fail)
    · have e : rows.any (fun r => outB n r) = true := any_at hi' h
      exact ⟨.pv (.int .i64 (i : Int)), 1, HM m, (by refine Wk.of ?_ ?_ rfl rfl rfl<;>repeat' (first|exact trivial|exact WkD.same _|exact WkO.same _ _ rfl|refine ⟨?_, ?_⟩|fail)), hK i (by rw [e]; simp)⟩
    · exact ⟨⟨i + 1, hi', any_take hi' ha h⟩, by show rows.length - (i + 1) < rows.length - i; omega, (by refine Wk.of ?_ ?_ rfl rfl rfl<;>repeat' (first|exact trivial|exact WkD.same _|exact WkO.same _ _ rfl|refine WkD.int ?_|refine ⟨?_, ?_⟩|(refine wrapA ?_ ?_ ?_;(focus simp;done);(focus (try dsimp only);omega);(focus (try dsimp only);omega))|fail))⟩
  · have hi' : i = rows.length := by have := ge_dec (m := (rows.map rowPV).length) h (by simpa using hi); simpa using this
    subst hi'
    rw [List.take_length] at ha
    exact ⟨.pv (.int .i64 (-1)), 1, HM m, (by refine Wk.of ?_ ?_ rfl rfl rfl<;>repeat' (first|exact trivial|exact WkD.same _|exact WkO.same _ _ rfl|refine ⟨?_, ?_⟩|fail)), hK (-1) (by rw [ha]; decide)⟩
theorem cont_M {M : Nat → Prop} {w0 : World} (m : Mo) (n : Nat) (hmn : m.n = n) (hn : n ≤ 64) (rows : List (List Nat)) (hl : rows.length ≤ 1000) (hr : ∀ r, r ∈ rows → r.length ≤ 1000 ∧ ∀ s, s ∈ r → s < 2 ^ 64) (base : Nat) (K : DV → DH → Prop) (hK : K (.pv (.bool (rows.any (fun r => outB n r)))) ⟨1, 0, base, objsOf (HM m)⟩) :
    DC Tryd.prog M w0 60 [.pv (.sl (rows.map rowPV)), .clo 61 [] [.ref 0 0]] ⟨1, 0, base, objsOf (HM m)⟩ K := by
  refine DC.intro mixed (fn := Tryd.f60) rfl rfl rfl ?_
  try conv=>whnf
  refine idx_M m n hmn hn rows hl hr 1 _ fun r e => ?_
  rw [← e] at hK
  try conv=>whnf
  exact hK
theorem md_Check (m : Mo) (hf : FitM m) : PureFn Tryd.prog 42 [m.pv] (.int .i64 (moI m)) := by
  refine PureFn.introC [3, 5, 11] mixed (fn := Tryd.f42) rfl rfl rfl fun M w0 => ?_
  have e1 : ((m.val.map u64).length : Int) = (m.val.length : Int) := by simp
  have e2 : ((m.rel.map rowPV).length : Int) = (m.rel.length : Int) := by simp
  try conv=>whnf
  refine ⟨{ _x : Unit // moB1 m = false }, fun _ => [(1, .ref 0 0)], fun _ => 1, fun _ => HM m, ?_, ?_⟩
  · (try conv=>whnf);repeat' (first|(apply And.intro<;>try conv=>whnf)|(intro h;try conv=>whnf)|apply True.intro|(apply WhenQ.mk;(try conv=>whnf);rotate_left;(try conv=>whnf);rotate_right)|with_reducible assumption|(apply not_of;with_reducible assumption)|fail)
    · refine le_int ?_
      rw [moI, show moB1 m = true from h]; rfl
    · exact ⟨⟨(), h⟩, (by refine Wk.of ?_ ?_ rfl rfl rfl<;>repeat' (first|exact trivial|exact WkD.same _|exact WkO.same _ _ rfl|refine ⟨?_, ?_⟩|fail))⟩
  rintro ⟨_, h1⟩
  obtain ⟨n, hmn, n1, n64⟩ := moB1_no h1
  refine ⟨{ _x : Unit // moB2 m = false }, fun _ => [(1, .ref 0 0)], fun _ => 1, fun _ => HM m, ?_, ?_⟩
  · (try conv=>whnf);repeat' (first|(apply And.intro<;>try conv=>whnf)|(intro h;try conv=>whnf)|apply True.intro|(apply WhenQ.mk;(try conv=>whnf);rotate_left;(try conv=>whnf);rotate_right)|with_reducible assumption|(apply not_of;with_reducible assumption)|fail)
    · have h9 : moB2 m = true := by rw [moB2, ← e1, ← e2]; exact h
      refine le_int ?_
      rw [moI, h1, h9]; rfl
    · have h9 : moB2 m = false := by rw [moB2, ← e1, ← e2]; exact h
      exact ⟨⟨(), h9⟩, (by refine Wk.of ?_ ?_ rfl rfl rfl<;>repeat' (first|exact trivial|exact WkD.same _|exact WkO.same _ _ rfl|refine ⟨?_, ?_⟩|fail))⟩
  rintro ⟨_, h2⟩
  obtain ⟨ag, fa⟩ := moB2_no h2
  refine ⟨{ _x : Unit // moB3 m = false }, fun _ => [(1, .ref 0 0)], fun _ => 1, fun _ => HM m, ?_, ?_⟩
  · try conv=>whnf
    refine ⟨{ i : Nat // i ≤ m.rel.length ∧ (m.rel.take i).any (fun r => (r.length : Int) != m.n) = false }, fun i => [(1, .ref 0 0), (24, .pv (.sl (m.rel.map rowPV))), (25, .pv (i64 (m.rel.map rowPV).length)), (26, .pv (i64 i.1))], fun _ => 1, fun _ => HM m, fun i => m.rel.length - i.1, ⟨⟨0, Nat.zero_le _, rfl⟩, (by refine Wk.of ?_ ?_ rfl rfl rfl<;>repeat' (first|exact trivial|exact WkD.same _|exact WkO.same _ _ rfl|refine ⟨?_, ?_⟩|fail))⟩, ?_⟩
    rintro ⟨i, hi, ha⟩
    (try conv=>whnf);repeat' (first|(apply And.intro<;>try conv=>whnf)|(intro h;try conv=>whnf)|(apply infoT;rfl)|fail)
    · have hi' : i < m.rel.length := by simpa using lt_dec h
      have hm : m.rel[i]? = some m.rel[i] := List.getElem?_eq_getElem hi'
      have e3 : (((m.rel[i]).map u64).length : Int) = ((m.rel[i]).length : Int) := by simp
      refine ⟨_, _, rfl, idx_map hm, rfl, ?_⟩
      (try conv=>whnf);repeat' (first|(apply And.intro<;>try conv=>whnf)|(intro h;try conv=>whnf)|fail)
      · have e : moB3 m = true := any_at hi' (by rw [← e3]; exact h)
        refine le_int ?_
        rw [moI, h1, h2, e]; rfl
      · exact ⟨⟨i + 1, hi', any_take hi' ha (by rw [← e3]; exact h)⟩, by show m.rel.length - (i + 1) < m.rel.length - i; omega, (by refine Wk.of ?_ ?_ rfl rfl rfl<;>repeat' (first|exact trivial|exact WkD.same _|exact WkO.same _ _ rfl|refine WkD.int ?_|refine ⟨?_, ?_⟩|(refine wrapA ?_ ?_ ?_;(focus simp;done);(focus (try dsimp only);omega);(focus (try dsimp only);omega))|fail))⟩
    · have hi' : i = m.rel.length := by have := ge_dec (m := (m.rel.map rowPV).length) h (by simpa using hi); simpa using this
      subst hi'
      rw [List.take_length] at ha
      exact ⟨⟨(), ha⟩, (by refine Wk.of ?_ ?_ rfl rfl rfl<;>repeat' (first|exact trivial|exact WkD.same _|exact WkO.same _ _ rfl|refine ⟨?_, ?_⟩|fail))⟩
  rintro ⟨_, h3⟩
  have hrl : ∀ r, r ∈ m.rel → r.length ≤ 1000 := fun r hr => by
    have := List.any_eq_false.1 h3 r hr
    have h6 : ((r.length : Int) != m.n) = false := by simpa using this
    have h7 : (r.length : Int) = m.n := by simpa using h6
    omega
  have hO := md_outside n m.val n64 (by omega) hf.1
  rw [show i64 n = .int .i64 m.n by rw [hmn]; rfl] at hO
  have e4 : moB4 m = bif outB n m.val then true else m.rel.any fun r => outB n r := by rw [moB4, hmn, Int.toNat_natCast]
  (try conv=>whnf);repeat' (first|(apply And.intro<;>try conv=>whnf)|(intro h;try conv=>whnf)|apply True.intro|(apply WhenQ.mk;(try conv=>whnf);rotate_left;(try conv=>whnf);rotate_right)|with_reducible assumption|(refine PureFn.dcq (f := 59) rfl ?_;try conv=>whnf)|(refine ⟨_, _, hO, ?_, ?_⟩;(focus first|(refine ⟨?_, ?_, trivial⟩<;>first|exact PLe.refl _|exact PLe.nil)|exact trivial);try conv=>whnf)|fail)
  · refine cont_M m n hmn n64 m.rel (by omega) (fun r hr => ⟨hrl r hr, hf.2 r hr⟩) 0 _ ?_
    (try conv=>whnf);repeat' (first|(apply And.intro<;>try conv=>whnf)|fail)
  · (try conv=>whnf);repeat' (first|(apply And.intro<;>try conv=>whnf)|(intro h;try conv=>whnf)|(apply not_of;with_reducible assumption)|fail)
    · refine le_int ?_
      rw [moI, h1, h2, h3, e4, h]; rfl
    · refine le_int ?_
      rw [moI, h1, h2, h3, e4, h]; rfl
end Go.Proofs.YtlaolpkgabknfaaDoor
set_option maxRecDepth 100000
set_option maxHeartbeats 4000000
namespace Go.Proofs.YtlaolpkgabknfaaDoor
open Go Go.Dv

theorem rl_all (n : Nat) (hn : n ≤ 64) : PureFn Tryd.prog 95 [i64 n] (u64 (2 ^ n - 1)) := by
  refine PureFn.intro mixed (fn := Tryd.f95) rfl rfl rfl fun M w0 => ?_
  (try conv=>whnf);repeat' (first|(apply And.intro<;>try conv=>whnf)|(intro h;try conv=>whnf)|fail)
  · have h1 := of_decide_eq_true h
    obtain rfl : n = 64 := by omega
    exact .refl _
  · exact Int.natCast_nonneg _
  · have h1 := of_decide_eq_false h
    exact le_int (all_nat (by omega))
theorem rl_Check (n : Nat) (r : List Nat) (hn : n ≤ 64) (hl : r.length = n) (hb : ∀ s, s ∈ r → s < 2 ^ n) : PureFn Tryd.prog 94 [i64 n, rowPV r] (.int .i64 0) := by
  refine PureFn.introC [3, 5] mixed (fn := Tryd.f94) rfl rfl rfl fun M w0 => ?_
  have hA := rl_all n hn
  try conv=>whnf
  refine ⟨Unit, fun _ => [(0, .pv (i64 n)), (1, .pv (rowPV r))], fun _ => 0, fun _ => [], ?_, ?_⟩
  · (try conv=>whnf);repeat' (first|(apply And.intro<;>try conv=>whnf)|(intro h;try conv=>whnf)|apply True.intro|(apply WhenQ.mk;(try conv=>whnf);rotate_left;(try conv=>whnf);rotate_right)|with_reducible assumption|(apply not_of;with_reducible assumption)|fail)
    · exfalso
      have h9 : (bif decide ((n : Int) < 0) then true else decide ((n : Int) > 64)) = true := h
      rw [decide_eq_false (by omega), decide_eq_false (by omega)] at h9; cases h9
    · exact ⟨(), (by refine Wk.of ?_ ?_ rfl rfl rfl<;>repeat' (first|exact trivial|exact WkD.same _|refine ⟨?_, ?_⟩|fail))⟩
  rintro ⟨⟩
  refine ⟨Unit, fun _ => [(0, .pv (i64 n)), (1, .pv (rowPV r))], fun _ => 0, fun _ => [], ?_, ?_⟩
  · (try conv=>whnf);repeat' (first|(apply And.intro<;>try conv=>whnf)|(intro h;try conv=>whnf)|fail)
    · simp [hl] at h
    · exact ⟨(), (by refine Wk.of ?_ ?_ rfl rfl rfl<;>repeat' (first|exact trivial|exact WkD.same _|refine ⟨?_, ?_⟩|fail))⟩
  rintro ⟨⟩
  try conv=>whnf
  refine ⟨{ i : Nat // i ≤ r.length }, fun i => [(0, .pv (i64 n)), (17, .pv (rowPV r)), (18, .pv (i64 (r.map u64).length)), (19, .pv (i64 i.1))], fun _ => 0, fun _ => [], fun i => r.length - i.1, ⟨⟨0, Nat.zero_le _⟩, (by refine Wk.of ?_ ?_ rfl rfl rfl<;>repeat' (first|exact trivial|exact WkD.same _|refine ⟨?_, ?_⟩|fail))⟩, ?_⟩
  rintro ⟨i, hi⟩
  (try conv=>whnf);repeat' (first|(apply And.intro<;>try conv=>whnf)|(intro h;try conv=>whnf)|(apply infoT;rfl)|fail)
  · have hi' : i < r.length := by simpa using lt_dec h
    have hm : r[i]? = some r[i] := List.getElem?_eq_getElem hi'
    have hbi := hb _ (List.getElem_mem hi')
    have hob := andNotU_out (s := r[i]) hn (Nat.lt_of_lt_of_le hbi (pow64_le hn))
    rw [decide_eq_true hbi] at hob
    refine ⟨_, _, rfl, idx_map hm, rfl, ?_⟩
    (try conv=>whnf);repeat' (first|(apply And.intro<;>try conv=>whnf)|(intro h;try conv=>whnf)|(refine PureFn.dcq (f := 95) rfl ?_;try conv=>whnf)|(refine ⟨_, _, hA, ?_, ?_⟩;(focus first|(refine ⟨?_, trivial⟩<;>first|exact PLe.refl _|exact PLe.nil)|exact trivial);try conv=>whnf)|fail)
    · rw [show (andNotU (r[i] : Nat) ((2 ^ n - 1 : Nat) : Int) != 0) = true from h] at hob; cases hob
    · exact ⟨⟨i + 1, hi'⟩, by show r.length - (i + 1) < r.length - i; omega, (by refine Wk.of ?_ ?_ rfl rfl rfl<;>repeat' (first|exact trivial|exact WkD.same _|refine WkD.int ?_|refine ⟨?_, ?_⟩|(refine wrapA ?_ ?_ ?_;(focus simp;done);(focus (try dsimp only);omega);(focus (try dsimp only);omega))|fail))⟩
  · exact .refl _
theorem rl_Box (n : Nat) (r : List Nat) (s : Nat) (hn : n ≤ 64) (hl : r.length = n) (hb : ∀ s, s ∈ r → s < 2 ^ n) (_hs : s < 2 ^ 64) : PureFn Tryd.prog 69 [rowPV r, u64 s] (u64 (boxN n r s)) := by
  refine PureFn.introC [3] mixed (fn := Tryd.f69) rfl rfl rfl fun M w0 => ?_
  have hC := rl_Check n r hn hl hb
  rw [show i64 n = i64 (r.map u64).length by rw [List.length_map, hl]] at hC
  try conv=>whnf
  refine ⟨Unit, fun _ => [(0, .pv (rowPV r)), (1, .pv (u64 s))], fun _ => 0, fun _ => [], ?_, ?_⟩
  · (try conv=>whnf);repeat' (first|(apply And.intro<;>try conv=>whnf)|(intro h;try conv=>whnf)|(refine PureFn.dcq (f := 94) rfl ?_;try conv=>whnf)|(refine ⟨_, _, hC, ?_, ?_⟩;(focus first|(refine ⟨?_, ?_, trivial⟩<;>first|exact PLe.refl _|exact PLe.nil)|exact trivial);try conv=>whnf)|fail)
    · cases h
    · exact ⟨(), (by refine Wk.of ?_ ?_ rfl rfl rfl<;>repeat' (first|exact trivial|exact WkD.same _|refine ⟨?_, ?_⟩|fail))⟩
  rintro ⟨⟩
  try conv=>whnf
  refine ⟨{ i : Nat // i ≤ r.length }, fun i => [(0, .pv (rowPV r)), (1, .pv (u64 s)), (5, .pv (u64 (maskOf (fun w => subM (r.getD w 0) s) i.1))), (13, .pv (i64 (r.map u64).length)), (14, .pv (i64 i.1))], fun _ => 0, fun _ => [], fun i => r.length - i.1, ⟨⟨0, Nat.zero_le _⟩, (by refine Wk.of ?_ ?_ rfl rfl rfl<;>repeat' (first|exact trivial|exact WkD.same _|refine ⟨?_, ?_⟩|fail))⟩, ?_⟩
  rintro ⟨i, hi⟩
  (try conv=>whnf);repeat' (first|(apply And.intro<;>try conv=>whnf)|(intro h;try conv=>whnf)|(apply infoT;rfl)|fail)
  · have hi' : i < r.length := by simpa using lt_dec h
    obtain ⟨x, hm, hx⟩ : ∃ x, r[i]? = some x ∧ r.getD i 0 = x := ⟨_, getD_mem hi', rfl⟩
    have hxb : x < 2 ^ 64 := Nat.lt_of_lt_of_le (hb x (List.mem_iff_getElem?.2 ⟨i, hm⟩)) (pow64_le hn)
    have hsb : (andNotU (x : Nat) (s : Nat) == 0) = subM x s := andNotU_sub hxb
    refine ⟨_, _, rfl, idx_map hm, rfl, ?_⟩
    (try conv=>whnf);repeat' (first|(apply And.intro<;>try conv=>whnf)|(intro h;try conv=>whnf)|fail)
    · exact Int.natCast_nonneg _
    · have hq : subM (r.getD i 0) s = true := by rw [hx, ← hsb]; exact h
      refine ⟨⟨i + 1, hi'⟩, by show r.length - (i + 1) < r.length - i; omega, ?_⟩
      (refine Wk.of ?_ ?_ rfl rfl rfl<;>repeat' (first|exact trivial|exact WkD.same _|refine WkD.int ?_|refine ⟨?_, ?_⟩|(refine wrapA ?_ ?_ ?_;(focus simp;done);(focus (try dsimp only);omega);(focus (try dsimp only);omega))|fail))
      exact or_shl (q := fun w => subM (r.getD w 0) s) (w := i) (by omega) hq
    · have hq : subM (r.getD i 0) s = false := by rw [hx, ← hsb]; exact h
      refine ⟨⟨i + 1, hi'⟩, by show r.length - (i + 1) < r.length - i; omega, ?_⟩
      (refine Wk.of ?_ ?_ rfl rfl rfl<;>repeat' (first|exact trivial|exact WkD.same _|refine WkD.int ?_|refine ⟨?_, ?_⟩|(refine wrapA ?_ ?_ ?_;(focus simp;done);(focus (try dsimp only);omega);(focus (try dsimp only);omega))|fail))
      exact congrArg (fun z : Nat => (z : Int)) (mask_no (q := fun w => subM (r.getD w 0) s) hq)
  · have hi' : i = r.length := by have := ge_dec (m := (r.map u64).length) h (by simpa using hi); simpa using this
    subst hi'
    exact le_int (congrArg (fun z : Nat => ((maskOf (fun w => subM (r.getD w 0) s) z : Nat) : Int)) hl)
theorem rl_Diamond (n : Nat) (r : List Nat) (s : Nat) (hn : n ≤ 64) (hl : r.length = n) (hb : ∀ s, s ∈ r → s < 2 ^ n) (hs : s < 2 ^ 64) : PureFn Tryd.prog 70 [rowPV r, u64 s] (u64 (diaN n r s)) := by
  refine PureFn.introC [3] mixed (fn := Tryd.f70) rfl rfl rfl fun M w0 => ?_
  have hC := rl_Check n r hn hl hb
  have hA := rl_all n hn
  have hB := rl_Box n r (complN s) hn hl hb (complN_lt hs)
  have hcm := compl_run hs
  rw [show i64 n = i64 (r.map u64).length by rw [List.length_map, hl]] at hC hA
  try conv=>whnf
  refine ⟨Unit, fun _ => [(0, .pv (rowPV r)), (1, .pv (u64 s))], fun _ => 0, fun _ => [], ?_, ?_⟩
  · (try conv=>whnf);repeat' (first|(apply And.intro<;>try conv=>whnf)|(intro h;try conv=>whnf)|(refine PureFn.dcq (f := 94) rfl ?_;try conv=>whnf)|(refine ⟨_, _, hC, ?_, ?_⟩;(focus first|(refine ⟨?_, ?_, trivial⟩<;>first|exact PLe.refl _|exact PLe.nil)|exact trivial);try conv=>whnf)|fail)
    · cases h
    · exact ⟨(), (by refine Wk.of ?_ ?_ rfl rfl rfl<;>repeat' (first|exact trivial|exact WkD.same _|refine ⟨?_, ?_⟩|fail))⟩
  rintro ⟨⟩
  rw [show u64 (complN s) = .int .u64 (IntKind.wrap .u64 ((BitVec.ofInt (IntKind.bits .u64) (if (IntKind.u64).signed then -1 else IntKind.max .u64) ^^^ BitVec.ofInt (IntKind.bits .u64) (s : Int)).toNat : Int)) by rw [hcm]; rfl] at hB
  (try conv=>whnf);repeat' (first|(refine PureFn.dcq (f := 95) rfl ?_;try conv=>whnf)|(refine PureFn.dcq (f := 69) rfl ?_;try conv=>whnf)|(refine ⟨_, _, hA, ?_, ?_⟩;(focus first|(refine ⟨?_, trivial⟩<;>first|exact PLe.refl _|exact PLe.nil)|exact trivial);try conv=>whnf)|(refine ⟨_, _, hB, ?_, ?_⟩;(focus first|(refine ⟨?_, ?_, trivial⟩<;>first|exact PLe.refl _|exact PLe.nil)|exact trivial);try conv=>whnf)|fail)
  refine le_int ?_
  rw [diaN, ← box_compl hn hb]
  exact andNotU_all hn
theorem sl_Clone {M : Nat → Prop} {w0 : World} (l : List Nat) (h1 : 1 ≤ l.length) (hl : l.length ≤ 1000) (L : DH) (K : DV → DH → Prop) (hK : K (.buf L.next (l.map u64).length) (L.push (.arr 1 (l.map u64)))) :
    DC Tryd.prog M w0 102 [.pv (rowPV l)] L K := by
  cases l with
  | nil => simp at h1
  | cons a r =>
    refine DC.intro mixed (fn := Tryd.f102) rfl rfl rfl ?_
    (try conv=>whnf);repeat' (first|(apply And.intro<;>try conv=>whnf)|(intro h;first|with_reducible exact ft0 h|try conv=>whnf)|(apply cellsI;rfl)|(apply szI;rfl)|fail)
    · exact cells_u64 _
    · show (List.map u64 (a :: r)).length ≤ 4294967296
      rw [List.length_map]; omega
    · exact hK
end Go.Proofs.YtlaolpkgabknfaaDoor
set_option maxRecDepth 100000
set_option maxHeartbeats 4000000
namespace Go.Proofs.YtlaolpkgabknfaaDoor
open Go Go.Dv

theorem md_or (x y : Nat) (hx : x < 2 ^ 64) (hy : y < 2 ^ 64) : PureFn Tryd.prog 97 [u64 x, u64 y] (u64 (x ||| y)) := by
  refine PureFn.intro mixed (fn := Tryd.f97) rfl rfl rfl fun M w0 => ?_
  try conv=>whnf
  exact le_int (orU_nat hx hy)
theorem md_and (x y : Nat) (hx : x < 2 ^ 64) (hy : y < 2 ^ 64) : PureFn Tryd.prog 98 [u64 x, u64 y] (u64 (x &&& y)) := by
  refine PureFn.intro mixed (fn := Tryd.f98) rfl rfl rfl fun M w0 => ?_
  try conv=>whnf
  exact le_int (andU_nat hx hy)
theorem gat_none {op : Nat → Nat → Nat} {rel : List (List Nat)} {g : Int} : ∀ {i : Nat}, gatP op rel g i = none → ∀ j, j < i → (and64 (shr64 g j) 1 == 0) = true
  | 0, _, j, hj => by omega
  | i + 1, h, j, hj => by
    rw [gatP] at h
    cases hz : (and64 (shr64 g i) 1 == 0) with
    | false =>
      rw [hz] at h
      simp only [cond_false] at h
      cases hg : gatP op rel g i <;> rw [hg] at h <;> cases h
    | true =>
      rw [hz] at h
      by_cases q : j = i
      · rw [q]; exact hz
      · exact gat_none h j (by omega)
theorem gat_some {op : Nat → Nat → Nat} {m : Mo} {n : Nat} {g : Int} (hM : OkM m n) (hb : badGM m g = false) : gatP op m.rel g m.rel.length ≠ none := by
  intro h
  unfold badGM at hb
  rw [ok_moI hM] at hb
  cases h1 : decide (g < 1) with
  | true => rw [h1] at hb; cases hb
  | false =>
    rw [h1] at hb
    have h2 := of_decide_eq_false (show decide (g ≥ shl64 1 (m.rel.length : Int)) = false from hb)
    have h3 := of_decide_eq_false h1
    have hag := hM.ag
    rw [shl_n hag] at h2
    obtain ⟨k, rfl⟩ : ∃ k : Nat, g = k := ⟨g.toNat, by omega⟩
    have h16 : 2 ^ m.rel.length ≤ 2 ^ 4 := Nat.pow_le_pow_right (by decide) hag
    have hk : k = 0 := by
      apply Nat.eq_of_testBit_eq
      intro j
      rw [Nat.zero_testBit]
      by_cases hj : j < m.rel.length
      · have := gat_none h j hj
        rw [bit64_and (by omega) (by omega)] at this
        cases hb2 : k.testBit j with
        | false => rfl
        | true => rw [hb2] at this; cases this
      · exact Nat.testBit_lt_two_pow (Nat.lt_of_lt_of_le (show k < 2 ^ m.rel.length by omega) (Nat.pow_le_pow_right (by decide) (by omega)))
    omega
theorem gat_rows {op : Nat → Nat → Nat} {rel : List (List Nat)} {n k : Nat} (hop : ∀ x y, x < k → y < k → op x y < k) (hr : ∀ r, r ∈ rel → r.length = n) (hb : ∀ r, r ∈ rel → ∀ s, s ∈ r → s < k) {g : Int} : ∀ {i : Nat} {l : List Nat}, i ≤ rel.length → gatP op rel g i = some l → l.length = n ∧ ∀ s, s ∈ l → s < k
  | 0, l, _, h => by cases h
  | i + 1, l, hi, h => by
    have hn : rel[i]? = some (rel.getD i []) := getD_mem (by omega)
    have hm : rel.getD i [] ∈ rel := List.mem_iff_getElem?.2 ⟨i, hn⟩
    rw [gatP] at h
    cases hz : (and64 (shr64 g i) 1 == 0) with
    | true => rw [hz] at h; exact gat_rows hop hr hb (by omega) h
    | false =>
      rw [hz] at h
      simp only [cond_false] at h
      cases hg : gatP op rel g i with
      | none =>
        rw [hg] at h
        obtain rfl := Option.some.inj h
        exact ⟨hr _ hm, hb _ hm⟩
      | some l0 =>
        rw [hg] at h
        obtain rfl := Option.some.inj h
        obtain ⟨g1, g2⟩ := gat_rows hop hr hb (i := i) (by omega) hg
        refine ⟨by simp [g1], fun s hs => ?_⟩
        obtain ⟨w, hw, rfl⟩ := List.mem_map.1 hs
        have hw' := List.mem_range.1 hw
        refine hop _ _ (g2 _ (getD_in hw')) (hb _ hm _ (getD_in ?_))
        rw [hr _ hm, ← g1]; exact hw'
theorem md_gatOr (m : Mo) (g : Int) (hf : FitM m) (first : Nat) (hfi : ∀ n, OkM m n → ∀ r, r ∈ m.rel → ∀ s, s ∈ r → orF first s = s) (M : Nat → Prop) (w0 : World) :
    DC Tryd.prog M w0 96 [.agg (cellsM m), .pv (.int .i64 g), .clo 97 [] []] noHeap fun d L' => frz d L' fun q _ => PLe q (rowPV (grpM orF m g first)) := by
  refine DC.introC [3] mixed (fn := Tryd.f96) rfl rfl rfl ?_
  have hC := md_Check m hf
  have e3 : ((m.rel.map rowPV).length : Int) = (m.rel.length : Int) := by simp
  try conv=>whnf
  refine ⟨{ _x : Unit // badGM m g = false }, fun _ => [(1, .pv (.int .i64 g)), (2, .clo 97 [] []), (3, .ref 0 0)], fun _ => 1, fun _ => HM m, ?_, ?_⟩
  · (try conv=>whnf);repeat' (first|(apply And.intro<;>try conv=>whnf)|(intro h;try conv=>whnf)|apply True.intro|(apply WhenQ.mk;(try conv=>whnf);rotate_left;(try conv=>whnf);rotate_right)|with_reducible assumption|(apply not_of;with_reducible assumption)|(refine PureFn.dcq (f := 42) rfl ?_;try conv=>whnf)|(refine ⟨_, _, hC, ?_, ?_⟩;(focus first|(refine ⟨?_, trivial⟩<;>first|exact PLe.refl _|exact PLe.nil)|exact trivial);try conv=>whnf)|fail)
    · exact Int.natCast_nonneg _
    · have hb : badGM m g = true := by rw [badGM, ← e3]; exact h
      rw [grpM, hb]; exact .nil
    · have hb : badGM m g = false := by rw [badGM, ← e3]; exact h
      exact ⟨⟨(), hb⟩, (by refine Wk.of ?_ ?_ rfl rfl rfl<;>repeat' (first|exact trivial|exact WkD.same _|exact WkO.same _ _ rfl|refine ⟨?_, ?_⟩|fail))⟩
  rintro ⟨_, hb⟩
  have h0 : moI m = 0 := by
    by_cases h : moI m = 0
    · exact h
    · have : (moI m != 0) = true := by simpa using h
      rw [badGM, this] at hb; cases hb
  obtain ⟨n, hM⟩ := moI_ok h0
  have hag := hM.ag
  have hn64 := hM.n64
  have hn1 := hM.n1
  have hge := gatP_eq (g := g) (op := orF) (first := first) hM.rows (hfi n hM) m.rel.length (Nat.le_refl _)
  have hgs := gat_some (op := orF) hM hb
  have hR : rowPV (grpM orF m g first) = rowPV ((List.range n).map fun w => joinA orF m.rel g first w m.rel.length) := by
    rw [grpM, hb, hM.nn]; rfl
  rw [hR]
  clear hR
  try conv=>whnf
  refine ⟨{ q : Nat × Option (List Nat) // q.1 ≤ m.rel.length ∧ gatP orF m.rel g q.1 = q.2 }, fun q => match q.1.2 with | none => [(1, .pv (.int .i64 g)), (2, .clo 97 [] []), (3, .ref 0 0), (7, .pv .nil), (27, .pv (.sl (m.rel.map rowPV))), (28, .pv (i64 (m.rel.map rowPV).length)), (29, .pv (i64 q.1.1))] | some l => [(1, .pv (.int .i64 g)), (2, .clo 97 [] []), (3, .ref 0 0), (7, .buf 1 (l.map u64).length), (27, .pv (.sl (m.rel.map rowPV))), (28, .pv (i64 (m.rel.map rowPV).length)), (29, .pv (i64 q.1.1))], fun q => match q.1.2 with | none => 1 | some _ => 2, fun q => match q.1.2 with | none => HM m | some l => [(0, .var (cellsM m)), (1, .arr 1 (l.map u64))], fun q => m.rel.length - q.1.1, ⟨⟨(0, none), Nat.zero_le _, rfl⟩, (by refine Wk.of ?_ ?_ rfl rfl rfl<;>repeat' (first|exact trivial|exact WkD.same _|exact WkO.same _ _ rfl|refine ⟨?_, ?_⟩|fail))⟩, ?_⟩
  rintro ⟨⟨i, _ | l⟩, hi, hg⟩
  · (try conv=>whnf);repeat' (first|(apply And.intro<;>try conv=>whnf)|(intro h;try conv=>whnf)|(apply infoT;rfl)|fail)
    · have hi' : i < m.rel.length := by simpa using lt_dec h
      obtain ⟨r, hr, hrw⟩ : ∃ r, m.rel[i]? = some r ∧ m.rel.getD i [] = r := ⟨_, getD_mem hi', rfl⟩
      have hrm : r ∈ m.rel := List.mem_iff_getElem?.2 ⟨i, hr⟩
      have hrl := hM.rows r hrm
      refine ⟨_, _, rfl, idx_map hr, rfl, ?_⟩
      (try conv=>whnf);repeat' (first|(apply And.intro<;>try conv=>whnf)|(intro h;first|with_reducible exact tf0 h|try conv=>whnf)|fail)
      · exact Int.natCast_nonneg _
      · have hz : (and64 (shr64 g i) 1 == 0) = true := h
        refine ⟨⟨(i + 1, none), hi', by rw [gatP, hz]; exact hg⟩, by show m.rel.length - (i + 1) < m.rel.length - i; omega, ?_⟩
        (refine Wk.of ?_ ?_ rfl rfl rfl<;>repeat' (first|exact trivial|exact WkD.same _|exact WkO.same _ _ rfl|refine WkD.int ?_|refine ⟨?_, ?_⟩|(refine wrapA ?_ ?_ ?_;(focus simp;done);(focus (try dsimp only);omega);(focus (try dsimp only);omega))|fail))
      · rename_i hz0
        have hz : (and64 (shr64 g i) 1 == 0) = false := hz0
        have hg2 : gatP orF m.rel g i = none := hg
        refine sl_Clone r (by omega) (by omega) _ _ ?_
        try conv=>whnf
        refine ⟨⟨(i + 1, some r), hi', by rw [gatP, hz, hg2, hrw]; rfl⟩, by show m.rel.length - (i + 1) < m.rel.length - i; omega, ?_⟩
        (refine Wk.of ?_ ?_ rfl rfl rfl<;>repeat' (first|exact trivial|exact WkD.same _|exact WkO.same _ _ rfl|refine WkD.int ?_|refine ⟨?_, ?_⟩|(refine wrapA ?_ ?_ ?_;(focus simp;done);(focus (try dsimp only);omega);(focus (try dsimp only);omega))|fail))
    · have hi' : i = m.rel.length := by have := ge_dec (m := (m.rel.map rowPV).length) h (by simpa using hi); simpa using this
      subst hi'
      exact absurd hg hgs
  · obtain ⟨hll, hlb⟩ := gat_rows (op := orF) (n := n) (k := 2 ^ 64) (fun _ _ hx hy => Nat.or_lt_two_pow hx hy) hM.rows hM.fit.2 hi hg
    (try conv=>whnf);repeat' (first|(apply And.intro<;>try conv=>whnf)|(intro h;try conv=>whnf)|(apply infoT;rfl)|(apply bleI;rfl)|fail)
    · have hi' : i < m.rel.length := by simpa using lt_dec h
      obtain ⟨r, hr, hrw⟩ : ∃ r, m.rel[i]? = some r ∧ m.rel.getD i [] = r := ⟨_, getD_mem hi', rfl⟩
      have hrm : r ∈ m.rel := List.mem_iff_getElem?.2 ⟨i, hr⟩
      have hrl := hM.rows r hrm
      have hrb := hM.fit.2 r hrm
      refine ⟨_, _, rfl, idx_map hr, rfl, ?_⟩
      (try conv=>whnf);repeat' (first|(apply And.intro<;>try conv=>whnf)|(intro h;first|with_reducible exact ft0 h|try conv=>whnf)|fail)
      · exact Int.natCast_nonneg _
      · have hz : (and64 (shr64 g i) 1 == 0) = true := h
        refine ⟨⟨(i + 1, some l), hi', by rw [gatP, hz]; exact hg⟩, by show m.rel.length - (i + 1) < m.rel.length - i; omega, ?_⟩
        (refine Wk.of ?_ ?_ rfl rfl rfl<;>repeat' (first|exact trivial|exact WkD.same _|exact WkO.same _ _ rfl|refine WkD.int ?_|refine ⟨?_, ?_⟩|(refine wrapA ?_ ?_ ?_;(focus simp;done);(focus (try dsimp only);omega);(focus (try dsimp only);omega))|fail))
      · show 0 < (l.map u64).length
        rw [List.length_map]; omega
      · rename_i hz0
        have hz : (and64 (shr64 g i) 1 == 0) = false := hz0
        have hg2 : gatP orF m.rel g i = some l := hg
        have hin : l.map u64 = mixV l.length (fun w => u64 (orF (l.getD w 0) (r.getD w 0))) (fun w => u64 (l.getD w 0)) 0 := by rw [mixV_zero]; exact (range_map (g := u64) (d := 0) l).symm
        have hout : mixV l.length (fun w => u64 (orF (l.getD w 0) (r.getD w 0))) (fun w => u64 (l.getD w 0)) l.length = ((List.range l.length).map fun w => orF (l.getD w 0) (r.getD w 0)).map u64 := by rw [mixV_full, List.map_map]; rfl
        have hml := mixV_len l.length (fun w => u64 (orF (l.getD w 0) (r.getD w 0))) (fun w => u64 (l.getD w 0))
        refine ⟨{ w : Nat // w ≤ l.length }, fun w => [(1, .pv (.int .i64 g)), (2, .clo 97 [] []), (3, .ref 0 0), (7, .buf 1 (mixV l.length (fun w => u64 (orF (l.getD w 0) (r.getD w 0))) (fun w => u64 (l.getD w 0)) w.1).length), (9, .pv (rowPV r)), (27, .pv (.sl (m.rel.map rowPV))), (28, .pv (i64 (m.rel.map rowPV).length)), (29, .pv (i64 i)), (44, .pv (i64 l.length)), (45, .pv (i64 w.1))], fun _ => 2, fun w => [(0, .var (cellsM m)), (1, .arr 1 (mixV l.length (fun w => u64 (orF (l.getD w 0) (r.getD w 0))) (fun w => u64 (l.getD w 0)) w.1))], fun w => l.length - w.1, ⟨⟨0, Nat.zero_le _⟩, ?_⟩, ?_⟩
        · (refine Wk.of ?_ ?_ rfl rfl rfl<;>repeat' (first|exact trivial|exact WkD.same _|exact WkO.same _ _ rfl|refine WkD.int ?_|refine ⟨?_, ?_⟩|fail))
          · exact WkD.eq (congrArg (fun z : List PV => DV.buf 1 z.length) hin)
          · exact congrArg (fun z : Nat => (z : Int)) (List.length_map _)
          · exact WkO.same _ _ (congrArg (fun z => some (DObj.arr 1 z)) hin)
        rintro ⟨w, hw⟩
        have hmw := hml w
        (try conv=>whnf);repeat' (first|(apply And.intro<;>try conv=>whnf)|(intro h;try conv=>whnf)|fail)
        · have hw' : w < l.length := lt_dec h
          have hlw := hlb _ (getD_in hw')
          have hrw2 : w < r.length := by omega
          have hrn : r[w]? = some (r.getD w 0) := getD_mem hrw2
          have hPF := md_or _ _ hlw (hrb _ (getD_in hrw2))
          refine ⟨Plan.lin 0 14, [13], by kernel_rfl, ?_⟩
          have hst := mixV_set (n := l.length) (p := fun w => u64 (orF (l.getD w 0) (r.getD w 0))) (q := fun w => u64 (l.getD w 0)) (e := w)
          (try conv=>whnf);repeat' (first|(apply And.intro<;>try conv=>whnf)|fail)
          refine ⟨w, rfl, by rw [hmw]; exact hw', ?_⟩
          (try conv=>whnf);repeat' (first|(apply And.intro<;>try conv=>whnf)|fail)
          refine ⟨_, mixV_old hw', ?_⟩
          (try conv=>whnf);repeat' (first|(apply And.intro<;>try conv=>whnf)|(apply infoT;rfl)|(refine ⟨_, _, rfl, idx_map (by with_reducible assumption), rfl, ?_⟩;try conv=>whnf)|(refine ⟨_, (by (conv=>whnf);exact hPF), rfl, ?_⟩;try conv=>whnf)|fail)
          refine ⟨w, rfl, by rw [hmw]; exact hw', ?_⟩
          (try conv=>whnf);repeat' (first|(apply And.intro<;>try conv=>whnf)|fail)
          refine ⟨_, mixV_old hw', Nat.le_refl 1, ?_⟩
          try conv=>whnf
          refine ⟨⟨w + 1, hw'⟩, by show l.length - (w + 1) < l.length - w; omega, ?_⟩
          (refine Wk.of ?_ ?_ rfl rfl rfl<;>repeat' (first|exact trivial|exact WkD.same _|exact WkO.same _ _ rfl|refine WkD.int ?_|refine ⟨?_, ?_⟩|(refine wrapA ?_ ?_ ?_;(focus simp;done);(focus (try dsimp only);omega);(focus (try dsimp only);omega))|fail))
          · exact WkD.eq (congrArg (DV.buf 1) (hmw.trans (hml (w + 1)).symm))
          · exact WkO.same _ _ (congrArg (fun z => some (DObj.arr 1 z)) hst)
        · have hw' : w = l.length := ge_dec h hw
          subst hw'
          refine ⟨⟨(i + 1, some ((List.range l.length).map fun w => orF (l.getD w 0) (r.getD w 0))), hi', by rw [gatP, hz, hg2, hrw]; rfl⟩, by show m.rel.length - (i + 1) < m.rel.length - i; omega, ?_⟩
          (refine Wk.of ?_ ?_ rfl rfl rfl<;>repeat' (first|exact trivial|exact WkD.same _|exact WkO.same _ _ rfl|refine WkD.int ?_|refine ⟨?_, ?_⟩|(refine wrapA ?_ ?_ ?_;(focus simp;done);(focus (try dsimp only);omega);(focus (try dsimp only);omega))|fail))
          · exact WkD.eq (congrArg (fun z : List PV => DV.buf 1 z.length) hout)
          · exact WkO.same _ _ (congrArg (fun z => some (DObj.arr 1 z)) hout)
    · have hi' : i = m.rel.length := by have := ge_dec (m := (m.rel.map rowPV).length) h (by simpa using hi); simpa using this
      subst hi'
      rw [← hge.2 l hg]
      exact .refl _
theorem md_gatAnd (m : Mo) (g : Int) (hf : FitM m) (first : Nat) (hfi : ∀ n, OkM m n → ∀ r, r ∈ m.rel → ∀ s, s ∈ r → andF first s = s) (M : Nat → Prop) (w0 : World) :
    DC Tryd.prog M w0 96 [.agg (cellsM m), .pv (.int .i64 g), .clo 98 [] []] noHeap fun d L' => frz d L' fun q _ => PLe q (rowPV (grpM andF m g first)) := by
  refine DC.introC [3] mixed (fn := Tryd.f96) rfl rfl rfl ?_
  have hC := md_Check m hf
  have e3 : ((m.rel.map rowPV).length : Int) = (m.rel.length : Int) := by simp
  try conv=>whnf
  refine ⟨{ _x : Unit // badGM m g = false }, fun _ => [(1, .pv (.int .i64 g)), (2, .clo 98 [] []), (3, .ref 0 0)], fun _ => 1, fun _ => HM m, ?_, ?_⟩
  · (try conv=>whnf);repeat' (first|(apply And.intro<;>try conv=>whnf)|(intro h;try conv=>whnf)|apply True.intro|(apply WhenQ.mk;(try conv=>whnf);rotate_left;(try conv=>whnf);rotate_right)|with_reducible assumption|(apply not_of;with_reducible assumption)|(refine PureFn.dcq (f := 42) rfl ?_;try conv=>whnf)|(refine ⟨_, _, hC, ?_, ?_⟩;(focus first|(refine ⟨?_, trivial⟩<;>first|exact PLe.refl _|exact PLe.nil)|exact trivial);try conv=>whnf)|fail)
    · exact Int.natCast_nonneg _
    · have hb : badGM m g = true := by rw [badGM, ← e3]; exact h
      rw [grpM, hb]; exact .nil
    · have hb : badGM m g = false := by rw [badGM, ← e3]; exact h
      exact ⟨⟨(), hb⟩, (by refine Wk.of ?_ ?_ rfl rfl rfl<;>repeat' (first|exact trivial|exact WkD.same _|exact WkO.same _ _ rfl|refine ⟨?_, ?_⟩|fail))⟩
  rintro ⟨_, hb⟩
  have h0 : moI m = 0 := by
    by_cases h : moI m = 0
    · exact h
    · have : (moI m != 0) = true := by simpa using h
      rw [badGM, this] at hb; cases hb
  obtain ⟨n, hM⟩ := moI_ok h0
  have hag := hM.ag
  have hn64 := hM.n64
  have hn1 := hM.n1
  have hge := gatP_eq (g := g) (op := andF) (first := first) hM.rows (hfi n hM) m.rel.length (Nat.le_refl _)
  have hgs := gat_some (op := andF) hM hb
  have hR : rowPV (grpM andF m g first) = rowPV ((List.range n).map fun w => joinA andF m.rel g first w m.rel.length) := by
    rw [grpM, hb, hM.nn]; rfl
  rw [hR]
  clear hR
  try conv=>whnf
  refine ⟨{ q : Nat × Option (List Nat) // q.1 ≤ m.rel.length ∧ gatP andF m.rel g q.1 = q.2 }, fun q => match q.1.2 with | none => [(1, .pv (.int .i64 g)), (2, .clo 98 [] []), (3, .ref 0 0), (7, .pv .nil), (27, .pv (.sl (m.rel.map rowPV))), (28, .pv (i64 (m.rel.map rowPV).length)), (29, .pv (i64 q.1.1))] | some l => [(1, .pv (.int .i64 g)), (2, .clo 98 [] []), (3, .ref 0 0), (7, .buf 1 (l.map u64).length), (27, .pv (.sl (m.rel.map rowPV))), (28, .pv (i64 (m.rel.map rowPV).length)), (29, .pv (i64 q.1.1))], fun q => match q.1.2 with | none => 1 | some _ => 2, fun q => match q.1.2 with | none => HM m | some l => [(0, .var (cellsM m)), (1, .arr 1 (l.map u64))], fun q => m.rel.length - q.1.1, ⟨⟨(0, none), Nat.zero_le _, rfl⟩, (by refine Wk.of ?_ ?_ rfl rfl rfl<;>repeat' (first|exact trivial|exact WkD.same _|exact WkO.same _ _ rfl|refine ⟨?_, ?_⟩|fail))⟩, ?_⟩
  rintro ⟨⟨i, _ | l⟩, hi, hg⟩
  · (try conv=>whnf);repeat' (first|(apply And.intro<;>try conv=>whnf)|(intro h;try conv=>whnf)|(apply infoT;rfl)|fail)
    · have hi' : i < m.rel.length := by simpa using lt_dec h
      obtain ⟨r, hr, hrw⟩ : ∃ r, m.rel[i]? = some r ∧ m.rel.getD i [] = r := ⟨_, getD_mem hi', rfl⟩
      have hrm : r ∈ m.rel := List.mem_iff_getElem?.2 ⟨i, hr⟩
      have hrl := hM.rows r hrm
      refine ⟨_, _, rfl, idx_map hr, rfl, ?_⟩
      (try conv=>whnf);repeat' (first|(apply And.intro<;>try conv=>whnf)|(intro h;first|with_reducible exact tf0 h|try conv=>whnf)|fail)
      · exact Int.natCast_nonneg _
      · have hz : (and64 (shr64 g i) 1 == 0) = true := h
        refine ⟨⟨(i + 1, none), hi', by rw [gatP, hz]; exact hg⟩, by show m.rel.length - (i + 1) < m.rel.length - i; omega, ?_⟩
        (refine Wk.of ?_ ?_ rfl rfl rfl<;>repeat' (first|exact trivial|exact WkD.same _|exact WkO.same _ _ rfl|refine WkD.int ?_|refine ⟨?_, ?_⟩|(refine wrapA ?_ ?_ ?_;(focus simp;done);(focus (try dsimp only);omega);(focus (try dsimp only);omega))|fail))
      · rename_i hz0
        have hz : (and64 (shr64 g i) 1 == 0) = false := hz0
        have hg2 : gatP andF m.rel g i = none := hg
        refine sl_Clone r (by omega) (by omega) _ _ ?_
        try conv=>whnf
        refine ⟨⟨(i + 1, some r), hi', by rw [gatP, hz, hg2, hrw]; rfl⟩, by show m.rel.length - (i + 1) < m.rel.length - i; omega, ?_⟩
        (refine Wk.of ?_ ?_ rfl rfl rfl<;>repeat' (first|exact trivial|exact WkD.same _|exact WkO.same _ _ rfl|refine WkD.int ?_|refine ⟨?_, ?_⟩|(refine wrapA ?_ ?_ ?_;(focus simp;done);(focus (try dsimp only);omega);(focus (try dsimp only);omega))|fail))
    · have hi' : i = m.rel.length := by have := ge_dec (m := (m.rel.map rowPV).length) h (by simpa using hi); simpa using this
      subst hi'
      exact absurd hg hgs
  · obtain ⟨hll, hlb⟩ := gat_rows (op := andF) (n := n) (k := 2 ^ 64) (fun _ _ hx _ => Nat.lt_of_le_of_lt Nat.and_le_left hx) hM.rows hM.fit.2 hi hg
    (try conv=>whnf);repeat' (first|(apply And.intro<;>try conv=>whnf)|(intro h;try conv=>whnf)|(apply infoT;rfl)|(apply bleI;rfl)|fail)
    · have hi' : i < m.rel.length := by simpa using lt_dec h
      obtain ⟨r, hr, hrw⟩ : ∃ r, m.rel[i]? = some r ∧ m.rel.getD i [] = r := ⟨_, getD_mem hi', rfl⟩
      have hrm : r ∈ m.rel := List.mem_iff_getElem?.2 ⟨i, hr⟩
      have hrl := hM.rows r hrm
      have hrb := hM.fit.2 r hrm
      refine ⟨_, _, rfl, idx_map hr, rfl, ?_⟩
      (try conv=>whnf);repeat' (first|(apply And.intro<;>try conv=>whnf)|(intro h;first|with_reducible exact ft0 h|try conv=>whnf)|fail)
      · exact Int.natCast_nonneg _
      · have hz : (and64 (shr64 g i) 1 == 0) = true := h
        refine ⟨⟨(i + 1, some l), hi', by rw [gatP, hz]; exact hg⟩, by show m.rel.length - (i + 1) < m.rel.length - i; omega, ?_⟩
        (refine Wk.of ?_ ?_ rfl rfl rfl<;>repeat' (first|exact trivial|exact WkD.same _|exact WkO.same _ _ rfl|refine WkD.int ?_|refine ⟨?_, ?_⟩|(refine wrapA ?_ ?_ ?_;(focus simp;done);(focus (try dsimp only);omega);(focus (try dsimp only);omega))|fail))
      · show 0 < (l.map u64).length
        rw [List.length_map]; omega
      · rename_i hz0
        have hz : (and64 (shr64 g i) 1 == 0) = false := hz0
        have hg2 : gatP andF m.rel g i = some l := hg
        have hin : l.map u64 = mixV l.length (fun w => u64 (andF (l.getD w 0) (r.getD w 0))) (fun w => u64 (l.getD w 0)) 0 := by rw [mixV_zero]; exact (range_map (g := u64) (d := 0) l).symm
        have hout : mixV l.length (fun w => u64 (andF (l.getD w 0) (r.getD w 0))) (fun w => u64 (l.getD w 0)) l.length = ((List.range l.length).map fun w => andF (l.getD w 0) (r.getD w 0)).map u64 := by rw [mixV_full, List.map_map]; rfl
        have hml := mixV_len l.length (fun w => u64 (andF (l.getD w 0) (r.getD w 0))) (fun w => u64 (l.getD w 0))
        refine ⟨{ w : Nat // w ≤ l.length }, fun w => [(1, .pv (.int .i64 g)), (2, .clo 98 [] []), (3, .ref 0 0), (7, .buf 1 (mixV l.length (fun w => u64 (andF (l.getD w 0) (r.getD w 0))) (fun w => u64 (l.getD w 0)) w.1).length), (9, .pv (rowPV r)), (27, .pv (.sl (m.rel.map rowPV))), (28, .pv (i64 (m.rel.map rowPV).length)), (29, .pv (i64 i)), (44, .pv (i64 l.length)), (45, .pv (i64 w.1))], fun _ => 2, fun w => [(0, .var (cellsM m)), (1, .arr 1 (mixV l.length (fun w => u64 (andF (l.getD w 0) (r.getD w 0))) (fun w => u64 (l.getD w 0)) w.1))], fun w => l.length - w.1, ⟨⟨0, Nat.zero_le _⟩, ?_⟩, ?_⟩
        · (refine Wk.of ?_ ?_ rfl rfl rfl<;>repeat' (first|exact trivial|exact WkD.same _|exact WkO.same _ _ rfl|refine WkD.int ?_|refine ⟨?_, ?_⟩|fail))
          · exact WkD.eq (congrArg (fun z : List PV => DV.buf 1 z.length) hin)
          · exact congrArg (fun z : Nat => (z : Int)) (List.length_map _)
          · exact WkO.same _ _ (congrArg (fun z => some (DObj.arr 1 z)) hin)
        rintro ⟨w, hw⟩
        have hmw := hml w
        (try conv=>whnf);repeat' (first|(apply And.intro<;>try conv=>whnf)|(intro h;try conv=>whnf)|fail)
        · have hw' : w < l.length := lt_dec h
          have hlw := hlb _ (getD_in hw')
          have hrw2 : w < r.length := by omega
          have hrn : r[w]? = some (r.getD w 0) := getD_mem hrw2
          have hPF := md_and _ _ hlw (hrb _ (getD_in hrw2))
          refine ⟨Plan.lin 0 14, [13], by kernel_rfl, ?_⟩
          have hst := mixV_set (n := l.length) (p := fun w => u64 (andF (l.getD w 0) (r.getD w 0))) (q := fun w => u64 (l.getD w 0)) (e := w)
          (try conv=>whnf);repeat' (first|(apply And.intro<;>try conv=>whnf)|fail)
          refine ⟨w, rfl, by rw [hmw]; exact hw', ?_⟩
          (try conv=>whnf);repeat' (first|(apply And.intro<;>try conv=>whnf)|fail)
          refine ⟨_, mixV_old hw', ?_⟩
          (try conv=>whnf);repeat' (first|(apply And.intro<;>try conv=>whnf)|(apply infoT;rfl)|(refine ⟨_, _, rfl, idx_map (by with_reducible assumption), rfl, ?_⟩;try conv=>whnf)|(refine ⟨_, (by (conv=>whnf);exact hPF), rfl, ?_⟩;try conv=>whnf)|fail)
          refine ⟨w, rfl, by rw [hmw]; exact hw', ?_⟩
          (try conv=>whnf);repeat' (first|(apply And.intro<;>try conv=>whnf)|fail)
          refine ⟨_, mixV_old hw', Nat.le_refl 1, ?_⟩
          try conv=>whnf
          refine ⟨⟨w + 1, hw'⟩, by show l.length - (w + 1) < l.length - w; omega, ?_⟩
          (refine Wk.of ?_ ?_ rfl rfl rfl<;>repeat' (first|exact trivial|exact WkD.same _|exact WkO.same _ _ rfl|refine WkD.int ?_|refine ⟨?_, ?_⟩|(refine wrapA ?_ ?_ ?_;(focus simp;done);(focus (try dsimp only);omega);(focus (try dsimp only);omega))|fail))
          · exact WkD.eq (congrArg (DV.buf 1) (hmw.trans (hml (w + 1)).symm))
          · exact WkO.same _ _ (congrArg (fun z => some (DObj.arr 1 z)) hst)
        · have hw' : w = l.length := ge_dec h hw
          subst hw'
          refine ⟨⟨(i + 1, some ((List.range l.length).map fun w => andF (l.getD w 0) (r.getD w 0))), hi', by rw [gatP, hz, hg2, hrw]; rfl⟩, by show m.rel.length - (i + 1) < m.rel.length - i; omega, ?_⟩
          (refine Wk.of ?_ ?_ rfl rfl rfl<;>repeat' (first|exact trivial|exact WkD.same _|exact WkO.same _ _ rfl|refine WkD.int ?_|refine ⟨?_, ?_⟩|(refine wrapA ?_ ?_ ?_;(focus simp;done);(focus (try dsimp only);omega);(focus (try dsimp only);omega))|fail))
          · exact WkD.eq (congrArg (fun z : List PV => DV.buf 1 z.length) hout)
          · exact WkO.same _ _ (congrArg (fun z => some (DObj.arr 1 z)) hout)
    · have hi' : i = m.rel.length := by have := ge_dec (m := (m.rel.map rowPV).length) h (by simpa using hi); simpa using this
      subst hi'
      rw [← hge.2 l hg]
      exact .refl _
theorem md_Group (m : Mo) (n : Nat) (hM : OkM m n) (g : Int) : PureFn Tryd.prog 71 [m.pv, .int .i64 g] (rowPV (grpM orF m g 0)) := by
  refine PureFn.intro mixed (fn := Tryd.f71) rfl rfl rfl fun M w0 => ?_
  try conv=>whnf
  refine DC.alone (p := rowPV (grpM orF m g 0)) rfl (fun M w0 => md_gatOr m g hM.fit 0 (fun _ _ _ _ s _ => Nat.zero_or s) M w0) ?_
  try conv=>whnf
  exact .refl _
theorem md_Meet (m : Mo) (n : Nat) (hM : OkM m n) (g : Int) : PureFn Tryd.prog 72 [m.pv, .int .i64 g] (rowPV (grpM andF m g (2 ^ n - 1))) := by
  refine PureFn.intro mixed (fn := Tryd.f72) rfl rfl rfl fun M w0 => ?_
  try conv=>whnf
  refine DC.alone (p := rowPV (grpM andF m g (2 ^ n - 1))) rfl (fun M w0 => md_gatAnd m g hM.fit (2 ^ n - 1) (fun k hk r hr s hs => ?_) M w0) ?_
  · have e : k = n := by have := hM.nn; have := hk.nn; omega
    subst e
    have hb := hk.bits r hr s hs
    show (2 ^ k - 1) &&& s = s
    rw [Nat.and_comm, Nat.and_two_pow_sub_one_of_lt_two_pow hb]
  try conv=>whnf
  exact .refl _
end Go.Proofs.YtlaolpkgabknfaaDoor
set_option maxRecDepth 100000
set_option maxHeartbeats 4000000
namespace Go.Proofs.YtlaolpkgabknfaaDoor
open Go Go.Dv

theorem ck_common (n : Nat) (r : List Nat) (c s : Nat) (hn : n ≤ 64) (hl : r.length = n) (hb : ∀ s, s ∈ r → s < 2 ^ n) (hs : s < 2 ^ n) : PureFn Tryd.prog 105 [rowPV r, u64 (2 ^ n - 1), u64 c, u64 s] (u64 (comN n r c s)) := by
  refine PureFn.intro mixed (fn := Tryd.f105) rfl rfl rfl fun M w0 => ?_
  have hlt := comP_lt n r c s
  have h64 := pow64_le hn
  have hgd := getD_lt2 hb
  try conv=>whnf
  refine ⟨{ k : Nat // k ≤ n }, fun k => [(0, .pv (rowPV r)), (1, .pv (u64 (2 ^ n - 1))), (2, .pv (u64 c)), (3, .pv (u64 s)), (9, .pv (u64 (comP n r c s k.1)))], fun _ => 0, fun _ => [], fun k => n - k.1, ⟨⟨0, Nat.zero_le _⟩, (by refine Wk.of ?_ ?_ rfl rfl rfl<;>repeat' (first|exact trivial|exact WkD.same _|refine ⟨?_, ?_⟩|fail))⟩, ?_⟩
  rintro ⟨k, hk⟩
  have hk1 := hlt k
  have hst := comP_stop (c := c) (s := s) hgd k
  have hcn := comP_comN (c := c) (s := s) (k := k) hl hb
  have hnx : comP n r c s (k + 1) = boxN n r (notN n c ||| (s &&& comP n r c s k)) := rfl
  have hB := rl_Box n r (notN n c ||| (s &&& comP n r c s k)) hn hl hb (Nat.or_lt_two_pow (Nat.lt_of_lt_of_le (notN_lt n c) h64) (Nat.and_lt_two_pow _ (by omega)))
  rw [← hnx] at hB
  have hlt2 := hlt (k + 1)
  have earg : u64 (notN n c ||| (s &&& comP n r c s k)) = .int .u64 (orU (andNotU ((2 ^ n - 1 : Nat) : Int) (c : Nat)) (andU (s : Nat) (comP n r c s k : Nat))) := by
    rw [andNotU_all hn, andU_nat (by omega) (by omega), orU_nat (Nat.lt_of_lt_of_le (notN_lt n c) h64) (Nat.and_lt_two_pow _ (by omega))]; rfl
  rw [earg] at hB
  (try conv=>whnf);repeat' (first|(apply And.intro<;>try conv=>whnf)|(intro h;try conv=>whnf)|(refine PureFn.dcq (f := 69) rfl ?_;try conv=>whnf)|(refine ⟨_, _, hB, ?_, ?_⟩;(focus first|(refine ⟨?_, ?_, trivial⟩<;>first|exact PLe.refl _|exact PLe.nil)|exact trivial);try conv=>whnf)|fail)
  · have he : comP n r c s (k + 1) = comP n r c s k := by
      have : ((comP n r c s (k + 1) : Nat) : Int) = (comP n r c s k : Nat) := by simpa using h
      omega
    rw [← hcn he]
    exact .refl _
  · have he : ¬ comP n r c s (k + 1) = comP n r c s k := fun e => by
      have : ¬ ((comP n r c s (k + 1) : Nat) : Int) = (comP n r c s k : Nat) := by simpa using h
      omega
    have hk2 : k + 1 ≤ n := by
      rcases hst with g | g
      · exact absurd g he
      · omega
    exact ⟨⟨k + 1, hk2⟩, by show n - (k + 1) < n - k; omega, (by refine Wk.of ?_ ?_ rfl rfl rfl<;>repeat' (first|exact trivial|exact WkD.same _|refine ⟨?_, ?_⟩|fail))⟩
theorem ck_request (m : Mo) (f : List Nd) (hf : FitM m) : PureFn Tryd.prog 103 [m.pv, fpv f] (.int .i64 (reqI m f)) := by
  refine PureFn.introC [4, 7, 9] mixed (fn := Tryd.f103) rfl rfl rfl fun M w0 => ?_
  have hC := md_Check m hf
  have hK := fm_Check f
  have hR := fm_Frags f
  have hT := fm_Fits f (m.rel.length : Nat) (m.val.length : Nat)
  rw [show PV.int .i64 ((m.rel.length : Nat) : Int) = .int .i64 ((m.rel.map rowPV).length : Nat) by rw [List.length_map], show PV.int .i64 ((m.val.length : Nat) : Int) = .int .i64 ((m.val.map u64).length : Nat) by rw [List.length_map]] at hT
  try conv=>whnf
  refine ⟨{ _x : Unit // (moI m != 0) = false }, fun _ => [(1, .pv (fpv f)), (2, .ref 0 0)], fun _ => 1, fun _ => HM m, ?_, ?_⟩
  · (try conv=>whnf);repeat' (first|(apply And.intro<;>try conv=>whnf)|(intro h;try conv=>whnf)|(refine PureFn.dcq (f := 42) rfl ?_;try conv=>whnf)|(refine ⟨_, _, hC, ?_, ?_⟩;(focus first|(refine ⟨?_, trivial⟩<;>first|exact PLe.refl _|exact PLe.nil)|exact trivial);try conv=>whnf)|fail)
    · refine le_int ?_
      rw [reqI, h]; rfl
    · exact ⟨⟨(), h⟩, (by refine Wk.of ?_ ?_ rfl rfl rfl<;>repeat' (first|exact trivial|exact WkD.same _|exact WkO.same _ _ rfl|refine ⟨?_, ?_⟩|fail))⟩
  rintro ⟨_, h1⟩
  refine ⟨{ _x : Unit // (check f != 0) = false }, fun _ => [(1, .pv (fpv f)), (2, .ref 0 0)], fun _ => 1, fun _ => HM m, ?_, ?_⟩
  · (try conv=>whnf);repeat' (first|(apply And.intro<;>try conv=>whnf)|(intro h;try conv=>whnf)|(refine PureFn.dcq (f := 45) rfl ?_;try conv=>whnf)|(refine ⟨_, _, hK, ?_, ?_⟩;(focus first|(refine ⟨?_, trivial⟩<;>first|exact PLe.refl _|exact PLe.nil)|exact trivial);try conv=>whnf)|fail)
    · refine le_int ?_
      rw [reqI, h1, statI, h]; rfl
    · exact ⟨⟨(), h⟩, (by refine Wk.of ?_ ?_ rfl rfl rfl<;>repeat' (first|exact trivial|exact WkD.same _|exact WkO.same _ _ rfl|refine ⟨?_, ?_⟩|fail))⟩
  rintro ⟨_, h2⟩
  refine ⟨{ _x : Unit // (nand64' (frags f : Nat) 15 != 0) = false }, fun _ => [(1, .pv (fpv f)), (2, .ref 0 0)], fun _ => 1, fun _ => HM m, ?_, ?_⟩
  · (try conv=>whnf);repeat' (first|(apply And.intro<;>try conv=>whnf)|(intro h;try conv=>whnf)|(refine PureFn.dcq (f := 10) rfl ?_;try conv=>whnf)|(refine ⟨_, _, hR, ?_, ?_⟩;(focus first|(refine ⟨?_, trivial⟩<;>first|exact PLe.refl _|exact PLe.nil)|exact trivial);try conv=>whnf)|fail)
    · refine le_int ?_
      rw [reqI, h1, statI, h2, show (nand64' (frags f : Nat) 15 != 0) = true from h]; rfl
    · exact ⟨⟨(), h⟩, (by refine Wk.of ?_ ?_ rfl rfl rfl<;>repeat' (first|exact trivial|exact WkD.same _|exact WkO.same _ _ rfl|refine ⟨?_, ?_⟩|fail))⟩
  rintro ⟨_, h3⟩
  (try conv=>whnf);repeat' (first|(apply And.intro<;>try conv=>whnf)|(intro h;try conv=>whnf)|(refine PureFn.dcq (f := 46) rfl ?_;try conv=>whnf)|(refine ⟨_, _, hT, ?_, ?_⟩;(focus first|(refine ⟨?_, ?_, ?_, trivial⟩<;>first|exact PLe.refl _|exact PLe.nil)|exact trivial);try conv=>whnf)|fail)
  · refine le_int ?_
    rw [reqI, h1, statI, h2, h3, show fits f (m.rel.length : Nat) (m.val.length : Nat) = false by simpa using h]; rfl
  · refine le_int ?_
    rw [reqI, h1, statI, h2, h3, show fits f (m.rel.length : Nat) (m.val.length : Nat) = true by simpa using h]; rfl
theorem grp_facts {op : Nat → Nat → Nat} {m : Mo} {n : Nat} (hM : OkM m n) (hop : ∀ x y, x < 2 ^ n → y < 2 ^ n → op x y < 2 ^ n) {g : Int} {first : Nat} (hfi : first < 2 ^ n) (h1 : 1 ≤ g) (h2 : g < shl64 1 (m.rel.length : Int)) :
    (grpM op m g first).length = n ∧ ∀ s, s ∈ grpM op m g first → s < 2 ^ n := by
  have hb : badGM m g = false := by
    rw [badGM, ok_moI hM, decide_eq_false (by omega), decide_eq_false (by omega)]; rfl
  rw [grpM, hb, hM.nn, Int.toNat_natCast]
  refine ⟨by simp, fun s hs => ?_⟩
  obtain ⟨w, _, rfl⟩ := List.mem_map.1 (show s ∈ (List.range n).map fun w => joinA op m.rel g first w m.rel.length from hs)
  have key : ∀ i, joinA op m.rel g first w i < 2 ^ n := fun i => by
    induction i with
    | zero => exact hfi
    | succ i ih =>
      rw [joinA]
      cases and64 (shr64 g i) 1 == 1 with
      | false => exact ih
      | true =>
        refine hop _ _ ih ?_
        rw [List.getD_eq_getElem?_getD (l := m.rel)]
        cases hr : m.rel[i]? with
        | none => simp; exact Nat.two_pow_pos _
        | some r => exact getD_lt2 (hM.bits r (List.mem_iff_getElem?.2 ⟨i, hr⟩)) w
  exact key _
def valPV (x : Nat × Bool) : PV := .tup [u64 x.1, .bool x.2]
end Go.Proofs.YtlaolpkgabknfaaDoor
set_option maxRecDepth 100000
set_option maxHeartbeats 4000000
namespace Go.Proofs.YtlaolpkgabknfaaDoor
open Go Go.Dv

def cellsN (op i e g x y : Int) : List DV := [.pv (.int .i64 op), .pv (.int .i64 i), .pv (.int .i64 e), .pv (.int .i64 g), .pv (.int .i64 x), .pv (.int .i64 y)]
theorem le_val {v : Int} {b : Bool} {q : Nat × Bool} (h1 : v = (q.1 : Int)) (h2 : b = q.2) : PLe (.tup [.int .u64 v, .bool b]) (valPV q) := by subst h1; subst h2; exact .refl _
theorem ck_value (m : Mo) (n : Nat) (hM : OkM m n) (x : Nd) (k : Int) (hk : OkNd x k) (a b : Nat) (ha : a < 2 ^ n) (hb : b < 2 ^ n) : PureFn Tryd.prog 104 [m.pv, x.pv, u64 a, u64 b] (valPV (valV m n x a b)) := by
  obtain ⟨op, i, e, g, xx, yy⟩ := x
  refine PureFn.introC [2] mixed (fn := Tryd.f104) rfl rfl rfl fun M w0 => ?_
  have hn1 := hM.n1
  have hn := hM.n64
  have h64 := pow64_le hn
  have hag := hM.ag
  have ha64 : a < 2 ^ 64 := by omega
  have hb64 : b < 2 ^ 64 := by omega
  have hmn := hM.nn
  have hw : IntKind.wrap .i64 (64 - m.n) = (64 : Int) - n := by rw [hmn, wrap_small (by omega) (by omega)]
  have e1 : ((m.val.map u64).length : Int) = (m.val.length : Int) := by simp
  have e2 : ((m.rel.map rowPV).length : Int) = (m.rel.length : Int) := by simp
  try conv=>whnf
  refine ⟨Unit, fun _ => [(2, .pv (u64 a)), (3, .pv (u64 b)), (4, .ref 0 0), (5, .ref 1 0), (10, .pv (u64 (2 ^ n - 1)))], fun _ => 2, fun _ => [(0, .var (cellsM m)), (1, .var (cellsN op i e g xx yy))], ?_, ?_⟩
  · (try conv=>whnf);repeat' (first|(apply And.intro<;>try conv=>whnf)|fail)
    · show (0 : Int) ≤ IntKind.wrap .i64 (64 - m.n)
      rw [hw]; omega
    · refine ⟨(), ?_⟩
      (refine Wk.of ?_ ?_ rfl rfl rfl<;>repeat' (first|exact trivial|exact WkD.same _|exact WkO.same _ _ rfl|refine WkD.int ?_|refine ⟨?_, ?_⟩|fail))
      show shrU 18446744073709551615 (IntKind.wrap .i64 (64 - m.n)) = _
      rw [hw]; exact shr_all hn1 hn
  rintro ⟨⟩
  have hop : op = 1 ∨ op = 2 ∨ op = 3 ∨ op = 4 ∨ op = 5 ∨ op = 6 ∨ op = 7 ∨ op = 8 ∨ op = 9 ∨ op = 10 ∨ op = 11 ∨ op = 12 ∨ op = 13 ∨ 14 ≤ op := by have := hk.op.1; simp only at this; omega
  rcases hop with rfl | rfl | rfl | rfl | rfl | rfl | rfl | rfl | rfl | rfl | rfl | rfl | rfl | hop
  · skip
    have f1 : ((1 : Int) == 1) = true := rfl
    have f2 : ((1 : Int) == 2) = false := rfl
    have f3 : ((1 : Int) == 3) = false := rfl
    have f4 : ((1 : Int) == 4) = false := rfl
    have f5 : ((1 : Int) == 5) = false := rfl
    have f6 : ((1 : Int) == 6) = false := rfl
    have f7 : ((1 : Int) == 7) = false := rfl
    have f8 : ((1 : Int) == 8) = false := rfl
    have f9 : ((1 : Int) == 9) = false := rfl
    have f10 : ((1 : Int) == 10) = false := rfl
    have f11 : ((1 : Int) == 11) = false := rfl
    have f12 : ((1 : Int) == 12) = false := rfl
    have f13 : ((1 : Int) == 13) = false := rfl
    (try conv=>whnf);repeat' (first|(apply And.intro<;>try conv=>whnf)|(intro h;first|with_reducible exact tf (by assumption) h|try conv=>whnf)|fail)
    exact le_val rfl rfl
  · skip
    have f1 : ((2 : Int) == 1) = false := rfl
    have f2 : ((2 : Int) == 2) = true := rfl
    have f3 : ((2 : Int) == 3) = false := rfl
    have f4 : ((2 : Int) == 4) = false := rfl
    have f5 : ((2 : Int) == 5) = false := rfl
    have f6 : ((2 : Int) == 6) = false := rfl
    have f7 : ((2 : Int) == 7) = false := rfl
    have f8 : ((2 : Int) == 8) = false := rfl
    have f9 : ((2 : Int) == 9) = false := rfl
    have f10 : ((2 : Int) == 10) = false := rfl
    have f11 : ((2 : Int) == 11) = false := rfl
    have f12 : ((2 : Int) == 12) = false := rfl
    have f13 : ((2 : Int) == 13) = false := rfl
    (try conv=>whnf);repeat' (first|(apply And.intro<;>try conv=>whnf)|(intro h;first|with_reducible exact tf h (by assumption)|with_reducible exact tf (by assumption) h|try conv=>whnf)|fail)
    exact le_val rfl rfl
  · skip
    have f1 : ((3 : Int) == 1) = false := rfl
    have f2 : ((3 : Int) == 2) = false := rfl
    have f3 : ((3 : Int) == 3) = true := rfl
    have f4 : ((3 : Int) == 4) = false := rfl
    have f5 : ((3 : Int) == 5) = false := rfl
    have f6 : ((3 : Int) == 6) = false := rfl
    have f7 : ((3 : Int) == 7) = false := rfl
    have f8 : ((3 : Int) == 8) = false := rfl
    have f9 : ((3 : Int) == 9) = false := rfl
    have f10 : ((3 : Int) == 10) = false := rfl
    have f11 : ((3 : Int) == 11) = false := rfl
    have f12 : ((3 : Int) == 12) = false := rfl
    have f13 : ((3 : Int) == 13) = false := rfl
    have hi := (hk.fact rfl).1
    simp only at hi
    obtain ⟨j, rfl⟩ : ∃ j : Nat, i = j := ⟨i.toNat, by omega⟩
    have hv : valV m n ⟨3, j, e, g, xx, yy⟩ a b = bif !decide ((j : Int) ≥ (m.val.length : Int)) then (m.val.getD j 0, true) else (0, false) := rfl
    (try conv=>whnf);repeat' (first|(apply And.intro<;>try conv=>whnf)|(intro h;first|with_reducible exact tf h (by assumption)|with_reducible exact tf (by assumption) h|try conv=>whnf)|(apply infoT;rfl)|fail)
    · rw [hv, show decide ((j : Int) ≥ (m.val.length : Int)) = true by rw [← e1]; exact h]
      exact le_val rfl rfl
    · have h9 : decide ((j : Int) ≥ (m.val.length : Int)) = false := by rw [← e1]; exact h
      have h8 := of_decide_eq_false h9
      refine ⟨j, _, rfl, idx_map (getD_mem (show j < m.val.length by omega) (d := 0)), rfl, ?_⟩
      try conv=>whnf
      rw [hv, h9]
      exact le_val rfl rfl
  · skip
    have f1 : ((4 : Int) == 1) = false := rfl
    have f2 : ((4 : Int) == 2) = false := rfl
    have f3 : ((4 : Int) == 3) = false := rfl
    have f4 : ((4 : Int) == 4) = true := rfl
    have f5 : ((4 : Int) == 5) = false := rfl
    have f6 : ((4 : Int) == 6) = false := rfl
    have f7 : ((4 : Int) == 7) = false := rfl
    have f8 : ((4 : Int) == 8) = false := rfl
    have f9 : ((4 : Int) == 9) = false := rfl
    have f10 : ((4 : Int) == 10) = false := rfl
    have f11 : ((4 : Int) == 11) = false := rfl
    have f12 : ((4 : Int) == 12) = false := rfl
    have f13 : ((4 : Int) == 13) = false := rfl
    (try conv=>whnf);repeat' (first|(apply And.intro<;>try conv=>whnf)|(intro h;first|with_reducible exact tf h (by assumption)|with_reducible exact tf (by assumption) h|try conv=>whnf)|fail)
    exact le_val (andNotU_all hn) rfl
  · skip
    have f1 : ((5 : Int) == 1) = false := rfl
    have f2 : ((5 : Int) == 2) = false := rfl
    have f3 : ((5 : Int) == 3) = false := rfl
    have f4 : ((5 : Int) == 4) = false := rfl
    have f5 : ((5 : Int) == 5) = true := rfl
    have f6 : ((5 : Int) == 6) = false := rfl
    have f7 : ((5 : Int) == 7) = false := rfl
    have f8 : ((5 : Int) == 8) = false := rfl
    have f9 : ((5 : Int) == 9) = false := rfl
    have f10 : ((5 : Int) == 10) = false := rfl
    have f11 : ((5 : Int) == 11) = false := rfl
    have f12 : ((5 : Int) == 12) = false := rfl
    have f13 : ((5 : Int) == 13) = false := rfl
    (try conv=>whnf);repeat' (first|(apply And.intro<;>try conv=>whnf)|(intro h;first|with_reducible exact tf h (by assumption)|with_reducible exact tf (by assumption) h|try conv=>whnf)|fail)
    exact le_val (andU_nat ha64 hb64) rfl
  · skip
    have f1 : ((6 : Int) == 1) = false := rfl
    have f2 : ((6 : Int) == 2) = false := rfl
    have f3 : ((6 : Int) == 3) = false := rfl
    have f4 : ((6 : Int) == 4) = false := rfl
    have f5 : ((6 : Int) == 5) = false := rfl
    have f6 : ((6 : Int) == 6) = true := rfl
    have f7 : ((6 : Int) == 7) = false := rfl
    have f8 : ((6 : Int) == 8) = false := rfl
    have f9 : ((6 : Int) == 9) = false := rfl
    have f10 : ((6 : Int) == 10) = false := rfl
    have f11 : ((6 : Int) == 11) = false := rfl
    have f12 : ((6 : Int) == 12) = false := rfl
    have f13 : ((6 : Int) == 13) = false := rfl
    (try conv=>whnf);repeat' (first|(apply And.intro<;>try conv=>whnf)|(intro h;first|with_reducible exact tf h (by assumption)|with_reducible exact tf (by assumption) h|try conv=>whnf)|fail)
    exact le_val (orU_nat ha64 hb64) rfl
  · skip
    have f1 : ((7 : Int) == 1) = false := rfl
    have f2 : ((7 : Int) == 2) = false := rfl
    have f3 : ((7 : Int) == 3) = false := rfl
    have f4 : ((7 : Int) == 4) = false := rfl
    have f5 : ((7 : Int) == 5) = false := rfl
    have f6 : ((7 : Int) == 6) = false := rfl
    have f7 : ((7 : Int) == 7) = true := rfl
    have f8 : ((7 : Int) == 8) = false := rfl
    have f9 : ((7 : Int) == 9) = false := rfl
    have f10 : ((7 : Int) == 10) = false := rfl
    have f11 : ((7 : Int) == 11) = false := rfl
    have f12 : ((7 : Int) == 12) = false := rfl
    have f13 : ((7 : Int) == 13) = false := rfl
    (try conv=>whnf);repeat' (first|(apply And.intro<;>try conv=>whnf)|(intro h;first|with_reducible exact tf h (by assumption)|with_reducible exact tf (by assumption) h|try conv=>whnf)|fail)
    refine le_val ?_ rfl
    show orU (andNotU ((2 ^ n - 1 : Nat) : Int) (a : Nat)) (b : Nat) = _
    rw [andNotU_all hn]
    exact orU_nat (Nat.lt_of_lt_of_le (notN_lt n a) h64) hb64
  · skip
    have f1 : ((8 : Int) == 1) = false := rfl
    have f2 : ((8 : Int) == 2) = false := rfl
    have f3 : ((8 : Int) == 3) = false := rfl
    have f4 : ((8 : Int) == 4) = false := rfl
    have f5 : ((8 : Int) == 5) = false := rfl
    have f6 : ((8 : Int) == 6) = false := rfl
    have f7 : ((8 : Int) == 7) = false := rfl
    have f8 : ((8 : Int) == 8) = true := rfl
    have f9 : ((8 : Int) == 9) = false := rfl
    have f10 : ((8 : Int) == 10) = false := rfl
    have f11 : ((8 : Int) == 11) = false := rfl
    have f12 : ((8 : Int) == 12) = false := rfl
    have f13 : ((8 : Int) == 13) = false := rfl
    (try conv=>whnf);repeat' (first|(apply And.intro<;>try conv=>whnf)|(intro h;first|with_reducible exact tf h (by assumption)|with_reducible exact tf (by assumption) h|try conv=>whnf)|fail)
    refine le_val ?_ rfl
    show andNotU ((2 ^ n - 1 : Nat) : Int) (xorU (a : Nat) (b : Nat)) = _
    rw [xorU_nat ha64 hb64]
    exact andNotU_all hn
  · skip
    have f1 : ((9 : Int) == 1) = false := rfl
    have f2 : ((9 : Int) == 2) = false := rfl
    have f3 : ((9 : Int) == 3) = false := rfl
    have f4 : ((9 : Int) == 4) = false := rfl
    have f5 : ((9 : Int) == 5) = false := rfl
    have f6 : ((9 : Int) == 6) = false := rfl
    have f7 : ((9 : Int) == 7) = false := rfl
    have f8 : ((9 : Int) == 8) = false := rfl
    have f9 : ((9 : Int) == 9) = true := rfl
    have f10 : ((9 : Int) == 10) = false := rfl
    have f11 : ((9 : Int) == 11) = false := rfl
    have f12 : ((9 : Int) == 12) = false := rfl
    have f13 : ((9 : Int) == 13) = false := rfl
    have hi := (hk.agent rfl).1
    simp only at hi
    obtain ⟨j, rfl⟩ : ∃ j : Nat, i = j := ⟨i.toNat, by omega⟩
    have hv : valV m n ⟨9, j, e, g, xx, yy⟩ a b = bif !decide ((j : Int) ≥ (m.rel.length : Int)) then (boxN n (m.rel.getD j []) a, true) else (0, false) := rfl
    (try conv=>whnf);repeat' (first|(apply And.intro<;>try conv=>whnf)|(intro h;first|with_reducible exact tf h (by assumption)|with_reducible exact tf (by assumption) h|try conv=>whnf)|(apply infoT;rfl)|fail)
    · rw [hv, show decide ((j : Int) ≥ (m.rel.length : Int)) = true by rw [← e2]; exact h]
      exact le_val rfl rfl
    · rename_i hc
      have h9 : decide ((j : Int) ≥ (m.rel.length : Int)) = false := by rw [← e2]; exact hc
      have h8 := of_decide_eq_false h9
      obtain ⟨r, hr, hrw⟩ : ∃ r, m.rel[j]? = some r ∧ m.rel.getD j [] = r := ⟨_, getD_mem (by omega), rfl⟩
      have hrm : r ∈ m.rel := List.mem_iff_getElem?.2 ⟨j, hr⟩
      have hB := rl_Box n r a hn (hM.rows r hrm) (hM.bits r hrm) ha64
      rw [hv, h9, hrw]
      refine ⟨_, _, rfl, idx_map hr, rfl, ?_⟩
      (try conv=>whnf);repeat' (first|(refine PureFn.dcq (f := 69) rfl ?_;try conv=>whnf)|(refine ⟨_, _, hB, ?_, ?_⟩;(focus first|(refine ⟨?_, ?_, trivial⟩<;>first|exact PLe.refl _|exact PLe.nil)|exact trivial);try conv=>whnf)|fail)
      exact le_val rfl rfl
  · skip
    have f1 : ((10 : Int) == 1) = false := rfl
    have f2 : ((10 : Int) == 2) = false := rfl
    have f3 : ((10 : Int) == 3) = false := rfl
    have f4 : ((10 : Int) == 4) = false := rfl
    have f5 : ((10 : Int) == 5) = false := rfl
    have f6 : ((10 : Int) == 6) = false := rfl
    have f7 : ((10 : Int) == 7) = false := rfl
    have f8 : ((10 : Int) == 8) = false := rfl
    have f9 : ((10 : Int) == 9) = false := rfl
    have f10 : ((10 : Int) == 10) = true := rfl
    have f11 : ((10 : Int) == 11) = false := rfl
    have f12 : ((10 : Int) == 12) = false := rfl
    have f13 : ((10 : Int) == 13) = false := rfl
    have hi := (hk.agent rfl).1
    simp only at hi
    obtain ⟨j, rfl⟩ : ∃ j : Nat, i = j := ⟨i.toNat, by omega⟩
    have hv : valV m n ⟨10, j, e, g, xx, yy⟩ a b = bif !decide ((j : Int) ≥ (m.rel.length : Int)) then (diaN n (m.rel.getD j []) a, true) else (0, false) := rfl
    (try conv=>whnf);repeat' (first|(apply And.intro<;>try conv=>whnf)|(intro h;first|with_reducible exact tf h (by assumption)|with_reducible exact tf (by assumption) h|try conv=>whnf)|(apply infoT;rfl)|fail)
    · rw [hv, show decide ((j : Int) ≥ (m.rel.length : Int)) = true by rw [← e2]; exact h]
      exact le_val rfl rfl
    · rename_i hc
      have h9 : decide ((j : Int) ≥ (m.rel.length : Int)) = false := by rw [← e2]; exact hc
      have h8 := of_decide_eq_false h9
      obtain ⟨r, hr, hrw⟩ : ∃ r, m.rel[j]? = some r ∧ m.rel.getD j [] = r := ⟨_, getD_mem (by omega), rfl⟩
      have hrm : r ∈ m.rel := List.mem_iff_getElem?.2 ⟨j, hr⟩
      have hB := rl_Diamond n r a hn (hM.rows r hrm) (hM.bits r hrm) ha64
      rw [hv, h9, hrw]
      refine ⟨_, _, rfl, idx_map hr, rfl, ?_⟩
      (try conv=>whnf);repeat' (first|(refine PureFn.dcq (f := 70) rfl ?_;try conv=>whnf)|(refine ⟨_, _, hB, ?_, ?_⟩;(focus first|(refine ⟨?_, ?_, trivial⟩<;>first|exact PLe.refl _|exact PLe.nil)|exact trivial);try conv=>whnf)|fail)
      exact le_val rfl rfl
  · skip
    have f1 : ((11 : Int) == 1) = false := rfl
    have f2 : ((11 : Int) == 2) = false := rfl
    have f3 : ((11 : Int) == 3) = false := rfl
    have f4 : ((11 : Int) == 4) = false := rfl
    have f5 : ((11 : Int) == 5) = false := rfl
    have f6 : ((11 : Int) == 6) = false := rfl
    have f7 : ((11 : Int) == 7) = false := rfl
    have f8 : ((11 : Int) == 8) = false := rfl
    have f9 : ((11 : Int) == 9) = false := rfl
    have f10 : ((11 : Int) == 10) = false := rfl
    have f11 : ((11 : Int) == 11) = true := rfl
    have f12 : ((11 : Int) == 12) = false := rfl
    have f13 : ((11 : Int) == 13) = false := rfl
    have hg1 := (hk.group rfl).1
    simp only at hg1
    have hv : valV m n ⟨11, i, e, g, xx, yy⟩ a b = bif !decide (g ≥ shl64 1 (m.rel.length : Int)) then (boxN n (grpM orF m g 0) a, true) else (0, false) := rfl
    have hG := md_Group m n hM g
    have hgf := fun (h : g < shl64 1 (m.rel.length : Int)) => grp_facts (op := orF) (first := 0) hM (fun _ _ hx hy => Nat.or_lt_two_pow hx hy) (Nat.two_pow_pos n) hg1 h
    rw [hv]
    clear hv
    generalize grpM orF m g 0 = G at hG hgf ⊢
    (try conv=>whnf);repeat' (first|(apply And.intro<;>try conv=>whnf)|(intro h;first|with_reducible exact tf h (by assumption)|with_reducible exact tf (by assumption) h|try conv=>whnf)|(refine lin_plan (by kernel_rfl) ?_;try conv=>whnf)|fail)
    · exact Int.natCast_nonneg _
    · have h9 : decide (g ≥ shl64 1 (m.rel.length : Int)) = true := by rw [← e2]; exact h
      rw [h9]
      exact le_val rfl rfl
    · rename_i hc
      have h9 : decide (g ≥ shl64 1 (m.rel.length : Int)) = false := by rw [← e2]; exact hc
      have h8 := of_decide_eq_false h9
      obtain ⟨hgl, hgb⟩ := hgf (by omega)
      have hB := rl_Box n _ a hn hgl hgb ha64
      rw [h9]
      (try conv=>whnf);repeat' (first|(apply And.intro<;>try conv=>whnf)|(intro h;first|with_reducible exact tf (by assumption) h|try conv=>whnf)|(refine PureFn.dcq (f := 71) rfl ?_;try conv=>whnf)|(refine PureFn.dcq (f := 69) rfl ?_;try conv=>whnf)|(refine ⟨_, _, hG, ?_, ?_⟩;(focus first|(refine ⟨?_, ?_, trivial⟩<;>first|exact PLe.refl _|exact PLe.nil)|exact trivial);try conv=>whnf)|(refine ⟨_, _, hB, ?_, ?_⟩;(focus first|(refine ⟨?_, ?_, trivial⟩<;>first|exact PLe.refl _|exact PLe.nil)|exact trivial);try conv=>whnf)|fail)
      exact le_val rfl rfl
  · skip
    have f1 : ((12 : Int) == 1) = false := rfl
    have f2 : ((12 : Int) == 2) = false := rfl
    have f3 : ((12 : Int) == 3) = false := rfl
    have f4 : ((12 : Int) == 4) = false := rfl
    have f5 : ((12 : Int) == 5) = false := rfl
    have f6 : ((12 : Int) == 6) = false := rfl
    have f7 : ((12 : Int) == 7) = false := rfl
    have f8 : ((12 : Int) == 8) = false := rfl
    have f9 : ((12 : Int) == 9) = false := rfl
    have f10 : ((12 : Int) == 10) = false := rfl
    have f11 : ((12 : Int) == 11) = false := rfl
    have f12 : ((12 : Int) == 12) = true := rfl
    have f13 : ((12 : Int) == 13) = false := rfl
    have hg1 := (hk.group rfl).1
    simp only at hg1
    have hv : valV m n ⟨12, i, e, g, xx, yy⟩ a b = bif !decide (g ≥ shl64 1 (m.rel.length : Int)) then (boxN n (grpM andF m g (2 ^ n - 1)) a, true) else (0, false) := rfl
    have hG := md_Meet m n hM g
    have hgf := fun (h : g < shl64 1 (m.rel.length : Int)) => grp_facts (op := andF) (first := (2 ^ n - 1)) hM (fun _ _ hx _ => Nat.lt_of_le_of_lt Nat.and_le_left hx) (by have := Nat.two_pow_pos n; omega) hg1 h
    rw [hv]
    clear hv
    generalize grpM andF m g (2 ^ n - 1) = G at hG hgf ⊢
    (try conv=>whnf);repeat' (first|(apply And.intro<;>try conv=>whnf)|(intro h;first|with_reducible exact tf h (by assumption)|with_reducible exact tf (by assumption) h|try conv=>whnf)|(refine lin_plan (by kernel_rfl) ?_;try conv=>whnf)|fail)
    · exact Int.natCast_nonneg _
    · have h9 : decide (g ≥ shl64 1 (m.rel.length : Int)) = true := by rw [← e2]; exact h
      rw [h9]
      exact le_val rfl rfl
    · rename_i hc
      have h9 : decide (g ≥ shl64 1 (m.rel.length : Int)) = false := by rw [← e2]; exact hc
      have h8 := of_decide_eq_false h9
      obtain ⟨hgl, hgb⟩ := hgf (by omega)
      have hB := rl_Box n _ a hn hgl hgb ha64
      rw [h9]
      (try conv=>whnf);repeat' (first|(refine PureFn.dcq (f := 72) rfl ?_;try conv=>whnf)|(refine PureFn.dcq (f := 69) rfl ?_;try conv=>whnf)|(refine ⟨_, _, hG, ?_, ?_⟩;(focus first|(refine ⟨?_, ?_, trivial⟩<;>first|exact PLe.refl _|exact PLe.nil)|exact trivial);try conv=>whnf)|(refine ⟨_, _, hB, ?_, ?_⟩;(focus first|(refine ⟨?_, ?_, trivial⟩<;>first|exact PLe.refl _|exact PLe.nil)|exact trivial);try conv=>whnf)|fail)
      exact le_val rfl rfl
  · skip
    have f1 : ((13 : Int) == 1) = false := rfl
    have f2 : ((13 : Int) == 2) = false := rfl
    have f3 : ((13 : Int) == 3) = false := rfl
    have f4 : ((13 : Int) == 4) = false := rfl
    have f5 : ((13 : Int) == 5) = false := rfl
    have f6 : ((13 : Int) == 6) = false := rfl
    have f7 : ((13 : Int) == 7) = false := rfl
    have f8 : ((13 : Int) == 8) = false := rfl
    have f9 : ((13 : Int) == 9) = false := rfl
    have f10 : ((13 : Int) == 10) = false := rfl
    have f11 : ((13 : Int) == 11) = false := rfl
    have f12 : ((13 : Int) == 12) = false := rfl
    have f13 : ((13 : Int) == 13) = true := rfl
    have hg1 := (hk.group rfl).1
    simp only at hg1
    have hv : valV m n ⟨13, i, e, g, xx, yy⟩ a b = bif !decide (g ≥ shl64 1 (m.rel.length : Int)) then (comN n (grpM orF m g 0) a b, true) else (0, false) := rfl
    have hG := md_Group m n hM g
    have hgf := fun (h : g < shl64 1 (m.rel.length : Int)) => grp_facts (op := orF) (first := 0) hM (fun _ _ hx hy => Nat.or_lt_two_pow hx hy) (Nat.two_pow_pos n) hg1 h
    rw [hv]
    clear hv
    generalize grpM orF m g 0 = G at hG hgf ⊢
    (try conv=>whnf);repeat' (first|(apply And.intro<;>try conv=>whnf)|(intro h;first|with_reducible exact tf h (by assumption)|with_reducible exact tf (by assumption) h|try conv=>whnf)|(refine lin_plan (by kernel_rfl) ?_;try conv=>whnf)|fail)
    · exact Int.natCast_nonneg _
    · have h9 : decide (g ≥ shl64 1 (m.rel.length : Int)) = true := by rw [← e2]; exact h
      rw [h9]
      exact le_val rfl rfl
    · rename_i hc
      have h9 : decide (g ≥ shl64 1 (m.rel.length : Int)) = false := by rw [← e2]; exact hc
      have h8 := of_decide_eq_false h9
      obtain ⟨hgl, hgb⟩ := hgf (by omega)
      have hB := ck_common n _ a b hn hgl hgb hb
      rw [h9]
      (try conv=>whnf);repeat' (first|(apply And.intro<;>try conv=>whnf)|(intro h;first|with_reducible exact tf h (by assumption)|try conv=>whnf)|(refine PureFn.dcq (f := 71) rfl ?_;try conv=>whnf)|(refine PureFn.dcq (f := 105) rfl ?_;try conv=>whnf)|(refine ⟨_, _, hG, ?_, ?_⟩;(focus first|(refine ⟨?_, ?_, trivial⟩<;>first|exact PLe.refl _|exact PLe.nil)|exact trivial);try conv=>whnf)|(refine ⟨_, _, hB, ?_, ?_⟩;(focus first|(refine ⟨?_, ?_, ?_, ?_, trivial⟩<;>first|exact PLe.refl _|exact PLe.nil)|exact trivial);try conv=>whnf)|fail)
      exact le_val rfl rfl
  · skip
    have f1 : (op == 1) = false := by simp; omega
    have f2 : (op == 2) = false := by simp; omega
    have f3 : (op == 3) = false := by simp; omega
    have f4 : (op == 4) = false := by simp; omega
    have f5 : (op == 5) = false := by simp; omega
    have f6 : (op == 6) = false := by simp; omega
    have f7 : (op == 7) = false := by simp; omega
    have f8 : (op == 8) = false := by simp; omega
    have f9 : (op == 9) = false := by simp; omega
    have f10 : (op == 10) = false := by simp; omega
    have f11 : (op == 11) = false := by simp; omega
    have f12 : (op == 12) = false := by simp; omega
    have f13 : (op == 13) = false := by simp; omega
    have hv : valV m n ⟨op, i, e, g, xx, yy⟩ a b = (0, false) := by
      have hq : fitQ m op i e g = false := by
        cases q : fitQ m op i e g with
        | false => rfl
        | true => have := fitQ_13 q; omega
      rw [valV, hq]; rfl
    rw [hv]
    (try conv=>whnf);repeat' (first|(apply And.intro<;>try conv=>whnf)|(intro h;first|with_reducible exact tf h (by assumption)|try conv=>whnf)|fail)
    exact .refl _
end Go.Proofs.YtlaolpkgabknfaaDoor
