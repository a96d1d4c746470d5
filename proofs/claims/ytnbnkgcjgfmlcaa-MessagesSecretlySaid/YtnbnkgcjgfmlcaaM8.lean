/- Parts of the proof, one after the other: Models: closed parts of models; formulas that are put together (plain). Products with an action model of two events, of which the second one changes nothing (plain). Messages and products: private messages and secret changes (plain). Messages: the law about the logics of the results, walked. Messages: the law MessagesTossed walked. Products: the law ProductKeeps walked. Messages: place and unchanged of the law walked. Messages: the law MessagesTossed walked. Messages: the law MessagesSecretly walked. -/
import Derived.Test.YtnbnkgcjgfmlcaaM7
set_option maxRecDepth 100000
set_option maxHeartbeats 4000000
namespace Go.Proofs.Ytnbnkgcjgfmlcaa
open Go Go.Dv

/-- Each row of one relation is the row of another one, with the worlds renamed. -/
def RowE (n : Nat) (φ : Nat → Nat) (r q : List Nat) : Prop := ∀ w, w < n → ∀ j, (q.getD (φ w) 0).testBit j = true ↔ ∃ v, v < n ∧ j = φ v ∧ (r.getD w 0).testBit v = true
structure Emb (m p : Mo) (n N : Nat) (φ : Nat → Nat) : Prop where
  okm : OkM m n
  okp : OkM p N
  lt : ∀ w, w < n → φ w < N
  inj : ∀ v w, v < n → w < n → φ v = φ w → v = w
  rl : p.rel.length = m.rel.length
  val : ∀ i w, w < n → (p.val.getD i 0).testBit (φ w) = (m.val.getD i 0).testBit w
  rel : ∀ a, a < m.rel.length → RowE n φ (m.rel.getD a []) (p.rel.getD a [])
def Agr (n : Nat) (φ : Nat → Nat) (s t : Nat) : Prop := ∀ w, w < n → t.testBit (φ w) = s.testBit w
theorem rowE_nil {n : Nat} {φ : Nat → Nat} : RowE n φ [] [] := fun w _ j => by
  constructor
  · intro h; rw [List.getD_nil, Nat.zero_testBit] at h; cases h
  · rintro ⟨v, _, _, h⟩; rw [List.getD_nil, Nat.zero_testBit] at h; cases h
theorem comN_nil (n c s : Nat) : comN n [] c s = 2 ^ n - 1 := by
  have hz : ∀ w, pathN n [] c w = 0 := fun w => by
    have hall : ∀ m, rndR [([] : List Nat).map fun a => a &&& c] 0 m = 0 := fun m => by
      induction m with
      | zero => rfl
      | succ m ih => rw [rndR, ih, inP, Nat.zero_testBit]; rfl
    have hs : ∀ k, seqR [([] : List Nat).map fun a => a &&& c] n 0 k = 0 := fun k => by
      induction k with
      | zero => rfl
      | succ k ih => rw [seqR, ih, hall]
    rw [pathN, List.getD_nil, Nat.zero_and, hs]
  apply Nat.eq_of_testBit_eq
  intro i
  rw [comN, maskOf_bit, Nat.testBit_two_pow_sub_one, hz]
  rw [show subM 0 s = true from subM_iff.2 fun j hj => (by rw [Nat.zero_testBit] at hj; cases hj), Bool.and_true]
theorem comN_eq {n : Nat} {r : List Nat} {c s : Nat} (hn : n ≤ 64) (hl : r.length = n) (hb : ∀ s, s ∈ r → s < 2 ^ n) : comN n r c s = comP n r c s 64 := by
  rcases comP_stop (c := c) (s := s) (getD_lt2 hb) 64 with h | h
  · exact (comP_comN hl hb h).symm
  · omega
section
variable {n N : Nat} {φ : Nat → Nat}
theorem agr_zero : Agr n φ 0 0 := fun w _ => by rw [Nat.zero_testBit, Nat.zero_testBit]
theorem agr_all (hlt : ∀ w, w < n → φ w < N) : Agr n φ (2 ^ n - 1) (2 ^ N - 1) := fun w hw => by rw [all_bit (hlt w hw), all_bit hw]
theorem agr_not (hlt : ∀ w, w < n → φ w < N) {s t : Nat} (h : Agr n φ s t) : Agr n φ (notN n s) (notN N t) := fun w hw => by
  rw [notN, notN, maskOf_bit, maskOf_bit, decide_eq_true hw, decide_eq_true (hlt w hw), h w hw]
theorem agr_and {s t s' t' : Nat} (h : Agr n φ s t) (h' : Agr n φ s' t') : Agr n φ (s &&& s') (t &&& t') := fun w hw => by rw [Nat.testBit_and, Nat.testBit_and, h w hw, h' w hw]
theorem agr_or {s t s' t' : Nat} (h : Agr n φ s t) (h' : Agr n φ s' t') : Agr n φ (s ||| s') (t ||| t') := fun w hw => by rw [Nat.testBit_or, Nat.testBit_or, h w hw, h' w hw]
theorem agr_xor {s t s' t' : Nat} (h : Agr n φ s t) (h' : Agr n φ s' t') : Agr n φ (s ^^^ s') (t ^^^ t') := fun w hw => by rw [Nat.testBit_xor, Nat.testBit_xor, h w hw, h' w hw]
theorem agr_bif {c : Bool} {s t s' t' : Nat} (h : Agr n φ s t) (h' : Agr n φ s' t') : Agr n φ (bif c then s else s') (bif c then t else t') := by cases c <;> assumption
/-- A world whose successors are those of another world, renamed, knows what that one knows. -/
theorem box_at {r q : List Nat} {s t w k : Nat} (hw : w < n) (hk : k < N) (hb : ∀ w, r.getD w 0 < 2 ^ n) (hR : ∀ j, (q.getD k 0).testBit j = true ↔ ∃ v, v < n ∧ j = φ v ∧ (r.getD w 0).testBit v = true) (h : Agr n φ s t) :
    (boxN N q t).testBit k = (boxN n r s).testBit w := by
  rw [Bool.eq_iff_iff, boxN_bit, boxN_bit]
  constructor
  · rintro ⟨_, g⟩
    refine ⟨hw, fun v hv => ?_⟩
    have hvn : v < n := bit_lt (hb w) hv
    have := g (φ v) ((hR _).2 ⟨v, hvn, rfl, hv⟩)
    rw [h v hvn] at this
    exact this
  · rintro ⟨_, g⟩
    refine ⟨hk, fun j hj => ?_⟩
    obtain ⟨v, hv, rfl, hv2⟩ := (hR j).1 hj
    rw [h v hv]
    exact g v hv2
theorem agr_box (hlt : ∀ w, w < n → φ w < N) {r q : List Nat} {s t : Nat} (hb : ∀ w, r.getD w 0 < 2 ^ n) (hR : RowE n φ r q) (h : Agr n φ s t) : Agr n φ (boxN n r s) (boxN N q t) :=
  fun w hw => box_at hw (hlt w hw) hb (hR w hw) h
theorem agr_dia (hlt : ∀ w, w < n → φ w < N) {r q : List Nat} {s t : Nat} (hb : ∀ w, r.getD w 0 < 2 ^ n) (hR : RowE n φ r q) (h : Agr n φ s t) : Agr n φ (diaN n r s) (diaN N q t) :=
  agr_not hlt (agr_box hlt hb hR (agr_not hlt h))
theorem agr_comP (hlt : ∀ w, w < n → φ w < N) {r q : List Nat} {c d s t : Nat} (hb : ∀ w, r.getD w 0 < 2 ^ n) (hR : RowE n φ r q) (hc : Agr n φ c d) (h : Agr n φ s t) : ∀ k, Agr n φ (comP n r c s k) (comP N q d t k)
  | 0 => agr_all hlt
  | k + 1 => agr_box hlt hb hR (agr_or (agr_not hlt hc) (agr_and h (agr_comP hlt hb hR hc h k)))
end
section
variable {m p : Mo} {n N : Nat} {φ : Nat → Nat}
theorem OkM.get {m : Mo} {n : Nat} (h : OkM m n) (a w : Nat) : (m.rel.getD a []).getD w 0 < 2 ^ n := by
  rw [List.getD_eq_getElem?_getD (l := m.rel)]
  cases hr : m.rel[a]? with
  | none => simp; exact Nat.two_pow_pos _
  | some r => exact getD_lt2 (h.bits r (List.mem_iff_getElem?.2 ⟨a, hr⟩)) w
theorem Emb.all (E : Emb m p n N φ) (a : Nat) : RowE n φ (m.rel.getD a []) (p.rel.getD a []) := by
  by_cases h : a < m.rel.length
  · exact E.rel a h
  · rw [List.getD_eq_getElem?_getD, List.getD_eq_getElem?_getD, List.getElem?_eq_none (by omega), List.getElem?_eq_none (by have := E.rl; omega)]
    exact rowE_nil
theorem join_or {rel : List (List Nat)} {g : Int} {w j : Nat} : ∀ i, (joinA orF rel g 0 w i).testBit j = true ↔ ∃ a, a < i ∧ (and64 (shr64 g a) 1 == 1) = true ∧ ((rel.getD a []).getD w 0).testBit j = true
  | 0 => by
    rw [joinA, Nat.zero_testBit]
    exact ⟨fun h => (by cases h), fun ⟨a, h, _⟩ => (by omega)⟩
  | i + 1 => by
    have ih := join_or (rel := rel) (g := g) (w := w) (j := j) i
    rw [joinA]
    cases hg : (and64 (shr64 g i) 1 == 1) with
    | false =>
      rw [cond_false, ih]
      constructor
      · rintro ⟨a, h1, h2⟩; exact ⟨a, by omega, h2⟩
      · rintro ⟨a, h1, h2, h3⟩
        by_cases e : a = i
        · rw [e, hg] at h2; cases h2
        · exact ⟨a, by omega, h2, h3⟩
    | true =>
      rw [cond_true, orF, Nat.testBit_or, Bool.or_eq_true, ih]
      constructor
      · rintro (⟨a, h1, h2⟩ | h)
        · exact ⟨a, by omega, h2⟩
        · exact ⟨i, by omega, hg, h⟩
      · rintro ⟨a, h1, h2, h3⟩
        by_cases e : a = i
        · exact .inr (by rw [← e]; exact h3)
        · exact .inl ⟨a, by omega, h2, h3⟩
theorem join_and {rel : List (List Nat)} {g : Int} {n w j : Nat} : ∀ i, (joinA andF rel g (2 ^ n - 1) w i).testBit j = true ↔ j < n ∧ ∀ a, a < i → (and64 (shr64 g a) 1 == 1) = true → ((rel.getD a []).getD w 0).testBit j = true
  | 0 => by
    rw [joinA, Nat.testBit_two_pow_sub_one, decide_eq_true_eq]
    exact ⟨fun h => ⟨h, fun a h => (by omega)⟩, fun h => h.1⟩
  | i + 1 => by
    have ih := join_and (rel := rel) (g := g) (n := n) (w := w) (j := j) i
    rw [joinA]
    cases hg : (and64 (shr64 g i) 1 == 1) with
    | false =>
      rw [cond_false, ih]
      refine and_congr_right fun _ => ⟨fun h a h1 h2 => ?_, fun h a h1 h2 => h a (by omega) h2⟩
      by_cases e : a = i
      · rw [e, hg] at h2; cases h2
      · exact h a (by omega) h2
    | true =>
      rw [cond_true, andF, Nat.testBit_and, Bool.and_eq_true, ih]
      constructor
      · rintro ⟨⟨h0, h1⟩, h2⟩
        refine ⟨h0, fun a h3 h4 => ?_⟩
        by_cases e : a = i
        · rw [e]; exact h2
        · exact h1 a (by omega) h4
      · rintro ⟨h0, h1⟩
        exact ⟨⟨h0, fun a h3 h4 => h1 a (by omega) h4⟩, h1 i (by omega) hg⟩
/-- A group has an agent. -/
theorem grp_some {A : Nat} (hA : A ≤ 4) {g : Int} (h1 : 1 ≤ g) (h2 : g < shl64 1 (A : Int)) : ∃ a, a < A ∧ (and64 (shr64 g a) 1 == 1) = true := by
  rw [shl_n hA] at h2
  obtain ⟨k, rfl⟩ : ∃ k : Nat, g = k := ⟨g.toNat, by omega⟩
  have hk : k < 2 ^ A := by omega
  have h16 : k < 2 ^ 62 := Nat.lt_of_lt_of_le hk (Nat.pow_le_pow_right (by decide) (by omega))
  apply Classical.byContradiction
  intro hno
  have : k = 0 := by
    apply Nat.eq_of_testBit_eq
    intro i
    rw [Nat.zero_testBit]
    cases hb : k.testBit i with
    | false => rfl
    | true =>
      have hi : i < A := bit_lt hk hb
      exact absurd ⟨i, hi, by rw [bit64_one h16 (by omega)]; exact hb⟩ hno
  omega
theorem grpM_get {op : Nat → Nat → Nat} {m : Mo} {g : Int} {first n w : Nat} (hM : OkM m n) (hb : badGM m g = false) (hw : w < n) : (grpM op m g first).getD w 0 = joinA op m.rel g first w m.rel.length := by
  rw [grpM, hb, hM.nn, Int.toNat_natCast]
  exact getD_map_range hw
theorem Emb.bad (E : Emb m p n N φ) (g : Int) : badGM p g = badGM m g := by rw [badGM, badGM, ok_moI E.okm, ok_moI E.okp, E.rl]
theorem Emb.or (E : Emb m p n N φ) {g : Int} (hg : badGM m g = false) : RowE n φ (grpM orF m g 0) (grpM orF p g 0) := fun w hw j => by
  rw [grpM_get E.okm hg hw, grpM_get E.okp (by rw [E.bad, hg]) (E.lt w hw), join_or, E.rl]
  constructor
  · rintro ⟨a, h1, h2, h3⟩
    obtain ⟨v, h4, h5, h6⟩ := (E.rel a h1 w hw j).1 h3
    exact ⟨v, h4, h5, join_or _ |>.2 ⟨a, h1, h2, h6⟩⟩
  · rintro ⟨v, h4, h5, h6⟩
    obtain ⟨a, h1, h2, h3⟩ := (join_or _).1 h6
    exact ⟨a, h1, h2, (E.rel a h1 w hw j).2 ⟨v, h4, h5, h3⟩⟩
theorem Emb.and (E : Emb m p n N φ) {g : Int} (hg : badGM m g = false) : RowE n φ (grpM andF m g (2 ^ n - 1)) (grpM andF p g (2 ^ N - 1)) := fun w hw j => by
  have hg' := hg
  unfold badGM at hg'
  rw [ok_moI E.okm] at hg'
  have hg1 : 1 ≤ g ∧ g < shl64 1 (m.rel.length : Int) := by
    by_cases q1 : g < 1
    · rw [decide_eq_true q1] at hg'; cases hg'
    · rw [decide_eq_false q1] at hg'
      have := of_decide_eq_false (show decide (g ≥ shl64 1 (m.rel.length : Int)) = false from hg')
      exact ⟨by omega, by omega⟩
  obtain ⟨a0, ha0, ha1⟩ := grp_some E.okm.ag hg1.1 hg1.2
  rw [grpM_get E.okm hg hw, grpM_get E.okp (by rw [E.bad, hg]) (E.lt w hw), join_and, E.rl]
  constructor
  · rintro ⟨h0, h1⟩
    obtain ⟨v, h4, h5, h6⟩ := (E.rel a0 ha0 w hw j).1 (h1 a0 ha0 ha1)
    refine ⟨v, h4, h5, (join_and _).2 ⟨h4, fun a h2 h3 => ?_⟩⟩
    obtain ⟨v', h7, h8, h9⟩ := (E.rel a h2 w hw j).1 (h1 a h2 h3)
    rw [E.inj v v' h4 h7 (by rw [← h5, ← h8])]
    exact h9
  · rintro ⟨v, h4, h5, h6⟩
    obtain ⟨_, h7⟩ := (join_and _).1 h6
    refine ⟨by rw [h5]; exact E.lt v h4, fun a h2 h3 => (E.rel a h2 w hw j).2 ⟨v, h4, h5, h7 a h2 h3⟩⟩
theorem grpM_lt {op : Nat → Nat → Nat} {m : Mo} {n : Nat} (hM : OkM m n) (hop : ∀ x y, x < 2 ^ n → y < 2 ^ n → op x y < 2 ^ n) {g : Int} {first : Nat} (hfi : first < 2 ^ n) (w : Nat) : (grpM op m g first).getD w 0 < 2 ^ n := by
  cases hb : badGM m g with
  | true => rw [grpM, hb, cond_true, List.getD_nil]; exact Nat.two_pow_pos _
  | false =>
    have hg' := hb
    unfold badGM at hg'
    rw [ok_moI hM] at hg'
    by_cases q1 : g < 1
    · rw [decide_eq_true q1] at hg'; cases hg'
    · rw [decide_eq_false q1] at hg'
      have := of_decide_eq_false (show decide (g ≥ shl64 1 (m.rel.length : Int)) = false from hg')
      exact getD_lt2 (grp_facts hM hop hfi (by omega) (by omega)).2 w
theorem orF_lt (n : Nat) : ∀ x y, x < 2 ^ n → y < 2 ^ n → orF x y < 2 ^ n := fun _ _ h1 h2 => Nat.or_lt_two_pow h1 h2
theorem andF_lt (n : Nat) : ∀ x y, x < 2 ^ n → y < 2 ^ n → andF x y < 2 ^ n := fun x _ _ h2 => Nat.and_lt_two_pow x h2
theorem pow_less (n : Nat) : 2 ^ n - 1 < 2 ^ n := by have := Nat.two_pow_pos n; omega
/-- In a closed part of a model a formula is true where it is true in the model of that part. -/
theorem emb_vl (E : Emb m p n N φ) : ∀ t, Agr n φ (vlT m n t) (vlT p N t)
  | .none => agr_zero
  | .nd op i e g a b => by
    have hx := emb_vl E a
    have hy := emb_vl E b
    rw [vlT, vlT]
    generalize vlT m n a = x at hx ⊢
    generalize vlT p N a = x' at hx ⊢
    generalize vlT m n b = y at hy ⊢
    generalize vlT p N b = y' at hy ⊢
    have hlt := E.lt
    unfold vlN
    refine agr_bif (agr_all hlt) (agr_bif agr_zero (agr_bif (E.val _) (agr_bif (agr_not hlt hx) (agr_bif (agr_and hx hy) (agr_bif (agr_or hx hy) (agr_bif (agr_or (agr_not hlt hx) hy) (agr_bif (agr_not hlt (agr_xor hx hy))
      (agr_bif (agr_box hlt (E.okm.get _) (E.all _) hx) (agr_bif (agr_dia hlt (E.okm.get _) (E.all _) hx) (agr_bif ?_ (agr_bif ?_ ?_)))))))))))
    · cases hg : badGM m g with
      | false => exact agr_box hlt (grpM_lt E.okm (orF_lt n) (Nat.two_pow_pos n)) (E.or hg) hx
      | true =>
        rw [grpM, grpM, E.bad, hg]
        exact agr_box hlt (fun w => by rw [cond_true, List.getD_nil]; exact Nat.two_pow_pos _) rowE_nil hx
    · cases hg : badGM m g with
      | false => exact agr_box hlt (grpM_lt E.okm (andF_lt n) (pow_less n)) (E.and hg) hx
      | true =>
        rw [grpM, grpM, E.bad, hg]
        exact agr_box hlt (fun w => by rw [cond_true, List.getD_nil]; exact Nat.two_pow_pos _) rowE_nil hx
    · cases hg : badGM m g with
      | true =>
        rw [grpM, grpM, E.bad, hg, cond_true, cond_true, comN_nil, comN_nil]
        exact agr_all hlt
      | false =>
        have hg' := hg
        unfold badGM at hg'
        rw [ok_moI E.okm] at hg'
        have hg1 : 1 ≤ g ∧ g < shl64 1 (m.rel.length : Int) := by
          by_cases q1 : g < 1
          · rw [decide_eq_true q1] at hg'; cases hg'
          · rw [decide_eq_false q1] at hg'
            have := of_decide_eq_false (show decide (g ≥ shl64 1 (m.rel.length : Int)) = false from hg')
            exact ⟨by omega, by omega⟩
        have f1 := grp_facts E.okm (orF_lt n) (Nat.two_pow_pos n) hg1.1 hg1.2
        have f2 := grp_facts E.okp (orF_lt N) (Nat.two_pow_pos N) hg1.1 (by rw [E.rl]; exact hg1.2)
        rw [comN_eq E.okm.n64 f1.1 f1.2, comN_eq E.okp.n64 f2.1 f2.2]
        exact agr_comP hlt (getD_lt2 f1.2) (E.or hg) hx hy 64
theorem holds_split {m : Mo} {f : List Nd} (h : (holdsI m f).2 = 0) : reqI m f = 0 ∧ holdsI m f = (vlT m m.n.toNat (root f), 0) := by
  by_cases q : reqI m f = 0
  · exact ⟨q, by rw [holdsI, q]; rfl⟩
  · rw [holdsI, show (reqI m f != 0) = true by simpa using q] at h
    exact absurd h q
theorem emb_holds (E : Emb m p n N φ) (hvl : p.val.length = m.val.length) {f : List Nd} (h : (holdsI m f).2 = 0) : (holdsI p f).2 = 0 ∧ Agr n φ (holdsI m f).1 (holdsI p f).1 := by
  obtain ⟨h1, h2⟩ := holds_split h
  obtain ⟨_, h3⟩ := reqI_ok h1
  have h4 : reqI p f = 0 := by rw [reqI, ok_moI E.okp, E.rl, hvl]; exact h3
  have h5 : holdsI p f = (vlT p p.n.toNat (root f), 0) := by rw [holdsI, h4]; rfl
  refine ⟨by rw [h5], ?_⟩
  rw [h2, h5, E.okm.nn, E.okp.nn, Int.toNat_natCast, Int.toNat_natCast]
  exact emb_vl E _

/-! formulas that are put together -/
theorem un_canX {x : Nd} {f : List Nd} (hf : Can f) (hx : usesX x.op = true) (hy : usesY x.op = false) (hxy : x.y = 0) (hok : OkNd { x with x := (f.length : Int) - 1 } f.length) (hs : f.length + 1 ≤ 200) :
    Can (buildL x [f]) ∧ root (buildL x [f]) = .nd x.op x.i x.e x.g (root f) .none ∧ (buildL x [f]).length ≤ f.length + 1 := by
  have hp := hf.pos
  have hF := okl_snoc hf.ok hok
  have hT : tree (f ++ [{ x with x := (f.length : Int) - 1 }]) f.length = .nd x.op x.i x.e x.g (root f) .none := by
    rw [tree_nd hF (x := { x with x := (f.length : Int) - 1 }) (by simp)]
    simp only [hx, hy, cond_true, cond_false]
    rw [show ((f.length : Int) - 1).toNat = f.length - 1 by omega, tree_append hf.ok (by omega)]; rfl
  have hk : f.length < (f ++ [{ x with x := (f.length : Int) - 1 }]).length := by simp
  have h1 := canon_can hF (by simpa using hs) hk
  have h2 := (canon_root hF hk).2
  have e : buildL x [f] = canon (f ++ [{ x with x := (f.length : Int) - 1 }]) f.length := by
    rw [build_un x f hx hy hxy]
    refine un_tree (t := canon (f ++ [{ x with x := (f.length : Int) - 1 }]) f.length) hf hx hy hok ?_ h1.len
    rw [canon_tree hF hk, hT]
  rw [e]
  refine ⟨h1, h2.trans hT, ?_⟩
  have := canon_len (f := f ++ [{ x with x := (f.length : Int) - 1 }]) hF.wf hk
  simpa using this
theorem check_stat {A F : Nat} {f : List Nd} (h : statI A F f = 0) : check f = 0 := (statM_iff.1 h).1
theorem stat_can {A F : Nat} {f : List Nd} (h : Can f) (ha : allT (stM A F) (root f) = true) : statI A F f = 0 := by
  refine statM_iff.2 ⟨h.check, fun x hx => ?_⟩
  rw [comp_root h.check] at hx
  exact finT_all (Q := stM A F) _ _ ha (by simp) x hx
theorem can_stat {A F : Nat} {f : List Nd} (h : statI A F f = 0) : Can (comp f) ∧ (comp f).length ≤ f.length ∧ root (comp f) = root f ∧ allT (stM A F) (root f) = true := by
  obtain ⟨h1, h2⟩ := statM_iff.1 h
  refine ⟨comp_can h1, comp_le h1, root_comp h1, ?_⟩
  rw [← root_comp h1]
  exact trn_all h2 _ _
/-- Knowing, put together. -/
theorem know_stat {A F b : Nat} {g : List Nd} (hA : A ≤ 4) (hb : b < A) (hs : statI A F g = 0) (hl : g.length ≤ 150) : statI A F (buildL (nI 9 b) [g]) = 0 ∧ root (buildL (nI 9 b) [g]) = .nd 9 b 0 0 (root g) .none := by
  obtain ⟨hc, hle, hr, ha⟩ := can_stat hs
  have hp := hc.pos
  rw [buildL_comp (check_stat hs)]
  have hok : OkNd { nI 9 b with x := ((comp g).length : Int) - 1 } (comp g).length := by
    constructor <;> simp [nI, usesX, usesY, isAgent, isGroup] <;> omega
  obtain ⟨g1, g2, _⟩ := un_canX (x := nI 9 b) hc rfl rfl rfl hok (by omega)
  rw [hr] at g2
  refine ⟨stat_can g1 ?_, g2⟩
  rw [g2]
  have hb2 : 2 ^ b < 2 ^ A := Nat.pow_lt_pow_right (by decide) hb
  have h0 : stM A F 9 b 0 0 = true := by
    simp only [stM, Bool.and_eq_true, decide_eq_true_eq]
    exact ⟨⟨show 1 < 16 by decide, show 2 ^ ((b : Int)).toNat < 2 ^ A by rw [Int.toNat_natCast]; exact hb2⟩, Nat.two_pow_pos F⟩
  show (stM A F 9 b 0 0 && allT (stM A F) (root g) && true) = true
  rw [h0, ha]; rfl
theorem know_holds {m : Mo} {n b : Nat} {g : List Nd} (hM : OkM m n) (hb : b < m.rel.length) (hg : (holdsI m g).2 = 0) (hl : g.length ≤ 150) : holdsI m (buildL (nI 9 b) [g]) = (boxN n (m.rel.getD b []) (holdsI m g).1, 0) := by
  obtain ⟨h1, h2⟩ := holds_split hg
  obtain ⟨_, h3⟩ := reqI_ok h1
  obtain ⟨k1, k2⟩ := know_stat hM.ag hb h3 hl
  have h4 : reqI m (buildL (nI 9 b) [g]) = 0 := by rw [reqI, ok_moI hM]; exact k1
  rw [h2, holdsI, h4, k2, hM.nn, Int.toNat_natCast]; rfl
end
end Go.Proofs.Ytnbnkgcjgfmlcaa
set_option maxRecDepth 100000
set_option maxHeartbeats 4000000
namespace Go.Proofs.Ytnbnkgcjgfmlcaa
open Go Go.Dv

theorem idx_uniq {α : Type} {l : List α} (h : l.Pairwise (· ≠ ·)) {i j : Nat} {x : α} (hi : l[i]? = some x) (hj : l[j]? = some x) : i = j := by
  obtain ⟨a1, a2⟩ := List.getElem?_eq_some_iff.1 hi
  obtain ⟨b1, b2⟩ := List.getElem?_eq_some_iff.1 hj
  rw [List.pairwise_iff_getElem] at h
  rcases Nat.lt_trichotomy i j with q | q | q
  · exact absurd (a2.trans b2.symm) (h i j a1 b1 q)
  · exact q
  · exact absurd (b2.trans a2.symm) (h j i b1 a1 q)
theorem pairsE_ne {p : Nat → Nat} {w : Nat} : ∀ e, (pairsE p w e).Pairwise (· ≠ ·)
  | 0 => .nil
  | e + 1 => by
    rw [pairsE]
    cases (p e).testBit w with
    | false => exact pairsE_ne e
    | true =>
      rw [cond_true, List.pairwise_append]
      refine ⟨pairsE_ne e, List.pairwise_singleton _ _, fun a ha b hb => ?_⟩
      rw [List.mem_singleton.1 hb]
      have := (pairsE_mem.1 ha).2.1
      intro q
      rw [q] at this
      exact Nat.lt_irrefl _ this
theorem pairsW_ne {p : Nat → Nat} {k : Nat} : ∀ n, (pairsW p k n).Pairwise (· ≠ ·)
  | 0 => .nil
  | n + 1 => by
    rw [pairsW, List.pairwise_append]
    refine ⟨pairsW_ne n, pairsE_ne k, fun a ha b hb => ?_⟩
    have h1 := (pairsW_mem.1 ha).1
    have h2 := (pairsE_mem.1 hb).1
    intro q
    rw [q] at h1
    omega
/-- An action model of two events; the second one is always possible and changes no fact. -/
structure Two (m : Mo) (n : Nat) (a : Act) : Prop where
  okm : OkM m n
  n32 : n ≤ 32
  act : actI a m.rel.length m.val.length = 0
  len : a.pre.length = 2
  tru : a.pre.getD 1 [] = buildL (n0 1) []
  nop : a.post.getD 1 [] = []
section
variable {m : Mo} {n : Nat} {a : Act}
theorem Two.moa (T : Two m n a) : moaI m a = 0 := by rw [moaI, ok_moI T.okm]; exact T.act
theorem Two.pos1 (T : Two m n a) {w : Nat} (hw : w < n) : (possP m a 1).testBit w = true := by
  rw [possP, T.tru, holds_true T.okm]; exact all_bit hw
theorem Two.pairs (T : Two m n a) : pairsL m a = pairsW (possP m a) 2 n := by rw [pairsL, T.okm.nn, Int.toNat_natCast, T.len]
theorem Two.mem (T : Two m n a) {k : Nat} {x : Nat × Nat} (h : (pairsL m a)[k]? = some x) : x.1 < n ∧ x.2 < 2 ∧ (possP m a x.2).testBit x.1 = true := by
  have := List.mem_iff_getElem?.2 ⟨k, h⟩
  rw [T.pairs] at this
  exact pairsW_mem.1 this
theorem Two.uniq (_T : Two m n a) {i j : Nat} {x : Nat × Nat} (hi : (pairsL m a)[i]? = some x) (hj : (pairsL m a)[j]? = some x) : i = j := by
  exact idx_uniq (pairsW_ne _) hi hj
/-- Where a world stands to which nothing has happened. -/
def phi (m : Mo) (a : Act) (w : Nat) : Nat := (pairsB (possP m a) 2 w 1).length
theorem Two.at (T : Two m n a) {w : Nat} (hw : w < n) : (pairsL m a)[phi m a w]? = some (w, 1) := by
  obtain ⟨r, h1, h2⟩ := pairsB_pre (p := possP m a) (k := 2) (w := w) (e := 1) hw (by decide)
  rw [T.pairs, h1, phi, List.getElem?_append_right (Nat.le_refl _), Nat.sub_self]
  exact h2.2 (T.pos1 hw)
theorem Two.at0 (T : Two m n a) {w : Nat} (hw : w < n) (h : (possP m a 0).testBit w = true) : ∃ k : Nat, (pairsL m a)[k]? = some (w, 0) := by
  have : (w, 0) ∈ pairsL m a := by
    rw [T.pairs, pairsW_mem]
    exact ⟨hw, show 0 < 2 by decide, h⟩
  exact List.mem_iff_getElem?.1 this
theorem Two.size (T : Two m n a) : 1 ≤ (pairsL m a).length ∧ (pairsL m a).length ≤ 64 := by
  have h1 := (List.getElem?_eq_some_iff.1 (T.at (w := 0) (by have := T.okm.n1; omega))).1
  have h2 := pairsW_len (possP m a) 2 n
  have h3 := T.n32
  rw [T.pairs] at h1 ⊢
  omega
theorem Two.upd (T : Two m n a) : updI m a = (prodM m a (pairsL m a), pairsL m a, 0) := by
  obtain ⟨h1, h2⟩ := T.size
  have hW : worldsI m a = (pairsL m a, 0) := by
    rw [worldsI, T.moa, show (((pairsL m a).length : Int) == 0) = false by simp; intro h; rw [h] at h1; simp at h1]; rfl
  rw [updI, hW]
  show (bif decide (((pairsL m a).length : Int) > 64) then _ else _) = _
  rw [decide_eq_false (by omega)]; rfl
theorem Two.okp (T : Two m n a) : OkM (prodM m a (pairsL m a)) (pairsL m a).length := prod_ok T.okm T.size.1 T.size.2
theorem getD_of {α : Type} {l : List α} {k : Nat} {x d : α} (h : l[k]? = some x) : l.getD k d = x := by rw [List.getD_eq_getElem?_getD, h]; rfl
theorem lt_of_get {α : Type} {l : List α} {k : Nat} {x : α} (h : l[k]? = some x) : k < l.length := (List.getElem?_eq_some_iff.1 h).1
theorem Two.row (_T : Two m n a) {x k w e j : Nat} (hx : x < m.rel.length) (hk : (pairsL m a)[k]? = some (w, e)) :
    (((prodM m a (pairsL m a)).rel.getD x []).getD k 0).testBit j = true ↔ ∃ v f, (pairsL m a)[j]? = some (v, f) ∧ ((m.rel.getD x []).getD w 0).testBit v = true ∧ ((a.rel.getD x []).getD e 0).testBit f = true := by
  have hrow : (prodM m a (pairsL m a)).rel.getD x [] = (pairsL m a).map (rowP (m.rel.getD x []) (a.rel.getD x []) (pairsL m a)) := getD_map_range hx
  rw [hrow, prow_bit (lt_of_get hk), getD_of hk]
  constructor
  · rintro ⟨h1, h2⟩
    rw [seesP_iff] at h2
    exact ⟨_, _, getD_mem h1, h2⟩
  · rintro ⟨v, f, h1, h2⟩
    refine ⟨lt_of_get h1, ?_⟩
    rw [getD_of h1, seesP_iff]
    exact h2
theorem bit_two {f : Nat} : (2 : Nat).testBit f = true ↔ f = 1 := by
  rw [show (2 : Nat) = 2 ^ 1 from rfl, Nat.testBit_two_pow, decide_eq_true_eq]; omega
theorem bit_1 {f : Nat} : (1 : Nat).testBit f = true ↔ f = 0 := by
  rw [show (1 : Nat) = 2 ^ 0 from rfl, Nat.testBit_two_pow, decide_eq_true_eq]; omega
/-- An agent who takes an event for the second one. -/
theorem Two.row1 (T : Two m n a) {x k w e : Nat} (hx : x < m.rel.length) (hk : (pairsL m a)[k]? = some (w, e)) (he : (a.rel.getD x []).getD e 0 = 2) (j : Nat) :
    (((prodM m a (pairsL m a)).rel.getD x []).getD k 0).testBit j = true ↔ ∃ v, v < n ∧ j = phi m a v ∧ ((m.rel.getD x []).getD w 0).testBit v = true := by
  rw [T.row hx hk, he]
  constructor
  · rintro ⟨v, f, h1, h2, h3⟩
    rw [bit_two] at h3
    subst h3
    have hv : v < n := bit_lt (T.okm.get x w) h2
    exact ⟨v, hv, T.uniq h1 (T.at hv), h2⟩
  · rintro ⟨v, hv, rfl, h2⟩
    exact ⟨v, 1, T.at hv, h2, bit_two.2 rfl⟩
theorem Two.row0 (T : Two m n a) {x k w e : Nat} (hx : x < m.rel.length) (hk : (pairsL m a)[k]? = some (w, e)) (he : (a.rel.getD x []).getD e 0 = 1) (j : Nat) :
    (((prodM m a (pairsL m a)).rel.getD x []).getD k 0).testBit j = true ↔ ∃ v, (pairsL m a)[j]? = some (v, 0) ∧ ((m.rel.getD x []).getD w 0).testBit v = true := by
  rw [T.row hx hk, he]
  constructor
  · rintro ⟨v, f, h1, h2, h3⟩
    rw [bit_1] at h3
    subst h3
    exact ⟨v, h1, h2⟩
  · rintro ⟨v, h1, h2⟩
    exact ⟨v, 0, h1, h2, bit_1.2 rfl⟩
/-- Where a fact is true in the product. -/
theorem Two.val (_T : Two m n a) {i k w e : Nat} (hi : i < m.val.length) (hk : (pairsL m a)[k]? = some (w, e)) : ((prodM m a (pairsL m a)).val.getD i 0).testBit k = (valuP m a e i).testBit w := by
  have h1 : (prodM m a (pairsL m a)).val.getD i 0 = valP m a (pairsL m a) i := getD_map_range hi
  rw [h1, valP, maskOf_bit, getD_of hk, decide_eq_true (lt_of_get hk), Bool.true_and]
theorem Two.ev (T : Two m n a) {e i : Nat} (he : e < 2) (hi : i < m.val.length) : (valI a e i).1 = valL i (a.post.getD e []) := by
  have hfa := T.okm.fa
  have h1 := (act_alone hfa T.act).1
  have h2 : badEv a (e : Int) = false := by
    unfold badEv
    rw [T.len, decide_eq_false (by omega), decide_eq_false (by omega)]; rfl
  rw [valI, h1, h2, badF_of (show i < 8 by omega)]; rfl
theorem Two.same (T : Two m n a) {e i : Nat} (he : e < 2) (hi : i < m.val.length) (hp : a.post.getD e [] = []) : valuP m a e i = m.val.getD i 0 := by
  rw [valuP, T.ev he hi, hp]
  show (holdsI m (buildL (nI 3 i) [])).1 = _
  rw [holds_fact T.okm hi]
theorem Two.emb (T : Two m n a) (h2 : ∀ x, x < m.rel.length → (a.rel.getD x []).getD 1 0 = 2) : Emb m (prodM m a (pairsL m a)) n (pairsL m a).length (phi m a) where
  okm := T.okm
  okp := T.okp
  lt := fun w hw => lt_of_get (T.at hw)
  inj := fun v w hv hw h => by
    have h1 := T.at hv
    rw [h, T.at hw, Option.some.injEq, Prod.mk.injEq] at h1
    exact h1.1.symm
  rl := by simp [prodM]
  val := fun i w hw => by
    by_cases hi : i < m.val.length
    · rw [T.val hi (T.at hw), T.same (by decide) hi T.nop]
    · rw [List.getD_eq_getElem?_getD, List.getD_eq_getElem?_getD, List.getElem?_eq_none (by simp [prodM]; omega), List.getElem?_eq_none (by omega), Option.getD_none, Nat.zero_testBit, Nat.zero_testBit]
  rel := fun x hx w hw j => T.row1 hx (T.at hw) (h2 x hx) j
/-- The agents who notice nothing know what they knew. -/
theorem Two.know (T : Two m n a) (h2 : ∀ x, x < m.rel.length → (a.rel.getD x []).getD 1 0 = 2) {x : Nat} {g : List Nd} (hx : x < m.rel.length) (hg : (holdsI m g).2 = 0) (hl : g.length ≤ 150) :
    ∃ s t, holdsI m (buildL (nI 9 x) [g]) = (s, 0) ∧ holdsI (prodM m a (pairsL m a)) (buildL (nI 9 x) [g]) = (t, 0) ∧ s < 2 ^ 64 ∧ t < 2 ^ 64 ∧
      ((a.rel.getD x []).getD 0 0 = 2 → ∀ w k, (pairsL m a)[k]? = some (w, 0) → t.testBit k = s.testBit w) := by
  have E := T.emb h2
  have hvl : (prodM m a (pairsL m a)).val.length = m.val.length := by simp [prodM]
  obtain ⟨k1, k2⟩ := emb_holds E hvl hg
  refine ⟨_, _, know_holds T.okm hx hg hl, know_holds T.okp (by rw [E.rl]; exact hx) k1 hl, Nat.lt_of_lt_of_le (boxN_lt _ _ _) (pow64_le T.okm.n64), Nat.lt_of_lt_of_le (boxN_lt _ _ _) (pow64_le T.okp.n64), fun h0 w k hk => ?_⟩
  exact box_at (T.mem hk).1 (lt_of_get hk) (T.okm.get x) (T.row1 hx hk h0) k2
end
end Go.Proofs.Ytnbnkgcjgfmlcaa
set_option maxRecDepth 100000
set_option maxHeartbeats 4000000
namespace Go.Proofs.Ytnbnkgcjgfmlcaa
open Go Go.Dv

theorem act_two {A F : Nat} (hA : A ≤ 4) (hF : F ≤ 8) {pre : List (List Nd)} {post : List (List Asg)} {pc : Nat → Int} (hpre : pre.length = 2) (hpost : post.length = 2)
    (hs : ∀ f, f ∈ pre → statI A F f = 0) (hc : ∀ l, l ∈ post → chgs A F l (-1) = 0) : actI ⟨pre, post, relOf A 2 pc⟩ A F = 0 := by
  have hrl : (relOf A 2 pc).length = A := by simp [relOf]
  have hrb : rowsBad (relOf A 2 pc) 2 = false := by
    rw [rowsBad, List.any_eq_false]
    intro r hr
    obtain ⟨a, _, rfl⟩ := rel_mem hr
    simp
  have hbb : bitsBad (relOf A 2 pc) 2 = false := by
    rw [bitsBad, List.any_eq_false]
    intro r hr
    obtain ⟨a, _, rfl⟩ := rel_mem hr
    intro hh
    obtain ⟨s, hs, hd⟩ := List.any_eq_true.1 hh
    obtain ⟨e, he, rfl⟩ := List.mem_map.1 hs
    have := len64_lt.2 (rcell_lt (k := 2) (c := pc a) (by decide) (List.mem_range.1 he))
    have := of_decide_eq_true hd
    omega
  have hsh : shapeI ⟨pre, post, relOf A 2 pc⟩ A = 0 := by
    unfold shapeI
    simp only [hpre, hpost, hrl, hrb, hbb]
    simp
  rw [actI, decide_eq_false (show ¬ (A : Int) < 0 by omega), decide_eq_false (show ¬ (A : Int) > 4 by omega), decide_eq_false (show ¬ (F : Int) < 0 by omega), decide_eq_false (show ¬ (F : Int) > 8 by omega), hsh]
  exact evs_zero hs hc
theorem stat_comp {A F : Nat} {f : List Nd} (h : statI A F f = 0) : statI A F (comp f) = 0 := by
  obtain ⟨h1, h2⟩ := statM_iff.1 h
  exact statM_iff.2 ⟨comp_check h1, by rw [comp_comp h1]; exact h2⟩
theorem two_row {A : Nat} {pc : Nat → Int} {x : Nat} (hx : x < A) : (relOf A 2 pc).getD x [] = [rcell 2 0 (pc x), rcell 2 1 (pc x)] := by
  rw [relOf, getD_map_range hx]; rfl
theorem row_B {A to x : Nat} (hA : A ≤ 4) (ht : to < 2 ^ A) (hx : x < A) : (relOf A 2 (pcB to 2)).getD x [] = bif to.testBit x then [1, 2] else [2, 2] := by
  rw [two_row hx, pcB, bit64_one (Nat.lt_of_lt_of_le ht (Nat.pow_le_pow_right (by decide) (by omega))) (by omega)]
  cases to.testBit x <;> rfl
def Rows2 (A to : Nat) (a : Act) : Prop := ∀ x, x < A → a.rel.getD x [] = bif to.testBit x then [1, 2] else [2, 2]
theorem Rows2.snd {A to : Nat} {a : Act} (h : Rows2 A to a) : ∀ x, x < A → (a.rel.getD x []).getD 1 0 = 2 := fun x hx => by
  rw [h x hx]; cases to.testBit x <;> rfl
theorem Rows2.out {A to : Nat} {a : Act} (h : Rows2 A to a) {x : Nat} (hx : x < A) (hb : to.testBit x = false) : (a.rel.getD x []).getD 0 0 = 2 := by rw [h x hx, hb]; rfl
theorem Rows2.in {A to : Nat} {a : Act} (h : Rows2 A to a) {x : Nat} (hx : x < A) (hb : to.testBit x = true) : (a.rel.getD x []).getD 0 0 = 1 := by rw [h x hx, hb]; rfl

/-! private messages -/
theorem holds_stat {m : Mo} {f : List Nd} (h : (holdsI m f).2 = 0) : statI m.rel.length m.val.length f = 0 := (reqI_ok (holds_split h).1).2
theorem holds_comp {m : Mo} {n : Nat} {f : List Nd} (hM : OkM m n) (h : (holdsI m f).2 = 0) : holdsI m (comp f) = holdsI m f := by
  have h1 := holds_stat h
  have h2 : reqI m (comp f) = 0 := by rw [reqI, ok_moI hM]; exact stat_comp h1
  rw [(holds_split h).2, holdsI, h2, root_comp (check_stat h1)]; rfl
section
variable {m : Mo} {n : Nat} {f g : List Nd} {to : Nat}
theorem true_stat' (hM : OkM m n) : statI m.rel.length m.val.length (buildL (n0 1) []) = 0 := true_stat _ (by have := hM.ag; omega) _ (by have := hM.fa; omega)
/-! secret changes -/
def secrA (A to : Nat) (f : List Nd) : Act := ⟨[buildL (n0 1) [], buildL (n0 1) []], [[⟨0, comp f⟩], []], relOf A 2 (pcB to 2)⟩
theorem secr_eq {A to : Nat} {f : List Nd} (hA : A ≤ 4) (ht : to < 2 ^ A) (hs : statI A 8 f = 0) : secretI A to 0 f = (secrA A to f, 0) := by
  have he : errI A 0 [(to : Int)] f = 0 := err_zero hA rfl (by simp [badG_of hA ht]) hs
  rw [secretI, he]; rfl
theorem secr_two (hM : OkM m n) (hn : n ≤ 32) (hv : 1 ≤ m.val.length) (hf : (holdsI m f).2 = 0) : Two m n (secrA m.rel.length to f) where
  okm := hM
  n32 := hn
  act := act_two hM.ag hM.fa rfl rfl (fun g hg => by simp at hg; subst hg; exact true_stat' hM) (fun l hl => by
    simp at hl
    rcases hl with rfl | rfl
    · simp only [chgs]
      rw [decide_eq_false (by omega), decide_eq_false (by omega), decide_eq_false (by omega), stat_comp (holds_stat hf)]; rfl
    · rfl)
  len := rfl
  tru := rfl
  nop := rfl
theorem secr_rows (hM : OkM m n) (ht : to < 2 ^ m.rel.length) : Rows2 m.rel.length to (secrA m.rel.length to f) := fun _ hx => row_B hM.ag ht hx
theorem secr_pos0 (hM : OkM m n) {w : Nat} (hw : w < n) : (possP m (secrA m.rel.length to f) 0).testBit w = true := by
  show (holdsI m (buildL (n0 1) [])).1.testBit w = true
  rw [holds_true hM]; exact all_bit hw
theorem secr_len (hM : OkM m n) (hn : n ≤ 32) (hv : 1 ≤ m.val.length) (hf : (holdsI m f).2 = 0) : (pairsL m (secrA m.rel.length to f)).length = 2 * n := by
  have T := secr_two (to := to) hM hn hv hf
  rw [T.pairs, two_pairs (fun e w he hw => ?_)]
  · simp
  · have : e = 0 ∨ e = 1 := by omega
    rcases this with rfl | rfl
    · exact secr_pos0 hM hw
    · exact T.pos1 hw
/-- After a secret change the fact is what the formula was, also for those who noticed. -/
theorem secr_law (hM : OkM m n) (hn : n ≤ 32) (hv : 1 ≤ m.val.length) (hf : (holdsI m f).2 = 0) (hl : f.length ≤ 150) (ht : to < 2 ^ m.rel.length) :
    (∀ w k, (pairsL m (secrA m.rel.length to f))[k]? = some (w, 0) → ((prodM m (secrA m.rel.length to f) (pairsL m (secrA m.rel.length to f))).val.getD 0 0).testBit k = (holdsI m f).1.testBit w) ∧
    (∀ w k, (pairsL m (secrA m.rel.length to f))[k]? = some (w, 1) → ((prodM m (secrA m.rel.length to f) (pairsL m (secrA m.rel.length to f))).val.getD 0 0).testBit k = (m.val.getD 0 0).testBit w) ∧
    ∀ b, b < m.rel.length → ∃ s t, holdsI m (buildL (nI 9 b) [f]) = (s, 0) ∧ holdsI (prodM m (secrA m.rel.length to f) (pairsL m (secrA m.rel.length to f))) (buildL (nI 9 b) [buildL (nI 3 0) []]) = (t, 0) ∧
      (to.testBit b = true → ∀ w k, (pairsL m (secrA m.rel.length to f))[k]? = some (w, 0) → t.testBit k = s.testBit w) := by
  have T := secr_two (to := to) hM hn hv hf
  have R := secr_rows (f := f) hM ht
  have hpos : ∀ w, w < n → (possP m (secrA m.rel.length to f) 0).testBit w = true := fun w hw => secr_pos0 hM hw
  have hcs := check_stat (holds_stat hf)
  obtain ⟨a, qa⟩ : ∃ a, a = secrA m.rel.length to f := ⟨_, rfl⟩
  have hpost : a.post.getD 0 [] = [⟨0, comp f⟩] := by rw [qa]; rfl
  rw [← qa] at T R hpos ⊢
  have v0 : ∀ w k, (pairsL m a)[k]? = some (w, 0) → ((prodM m a (pairsL m a)).val.getD 0 0).testBit k = (holdsI m f).1.testBit w := fun w k hk => by
    rw [T.val hv hk, valuP, T.ev (by decide) hv, hpost]
    show (holdsI m (comp (comp f))).1.testBit w = _
    rw [comp_comp hcs, holds_comp hM hf]
  refine ⟨v0, fun w k hk => ?_, fun b hb => ?_⟩
  · rw [T.val hv hk, T.same (by decide) hv T.nop]
  have E := T.emb R.snd
  have hvl : (prodM m a (pairsL m a)).val.length = m.val.length := by simp [prodM]
  have hfa := holds_fact T.okp (i := 0) (by rw [hvl]; exact hv)
  have hlf : (buildL (nI 3 0) []).length ≤ 150 := by decide +kernel
  refine ⟨_, _, know_holds hM hb hf hl, know_holds T.okp (by rw [E.rl]; exact hb) (show (holdsI (prodM m a (pairsL m a)) (buildL (nI 3 0) [])).2 = 0 from congrArg Prod.snd hfa) hlf, fun hin w k hk => ?_⟩
  rw [show (holdsI (prodM m a (pairsL m a)) (buildL (nI 3 0) [])).1 = (prodM m a (pairsL m a)).val.getD 0 0 from congrArg Prod.fst hfa]
  have hrow := T.row0 hb hk (R.in hb hin)
  rw [Bool.eq_iff_iff, boxN_bit, boxN_bit]
  constructor
  · rintro ⟨_, h⟩
    refine ⟨(T.mem hk).1, fun v hv2 => ?_⟩
    have hvn : v < n := bit_lt (hM.get b w) hv2
    obtain ⟨j, hj⟩ := T.at0 hvn (hpos v hvn)
    rw [← v0 v j hj]
    exact h j ((hrow j).2 ⟨v, hj, hv2⟩)
  · rintro ⟨_, h⟩
    refine ⟨lt_of_get hk, fun j hj => ?_⟩
    obtain ⟨v, hv1, hv2⟩ := (hrow j).1 hj
    rw [v0 v j hv1]
    exact h v hv2
end
end Go.Proofs.Ytnbnkgcjgfmlcaa
set_option maxRecDepth 100000
set_option maxHeartbeats 8000000
namespace Go.Proofs.Ytnbnkgcjgfmlcaa
open Go Go.Dv

theorem shl_wn {n : Nat} (hn : n ≤ 8) : shl64 1 (IntKind.wrap .u64 (n : Int)) = ((2 ^ n : Nat) : Int) := by
  rw [wrapU_nat (by omega)]; exact shl64_one (by omega) (by omega)
theorem fit_small {n k : Nat} {pre : List (List Nd)} {post : List (List Asg)} {pc : Nat → Int} (h1 : 1 ≤ k) (hk : k ≤ 8) : Fit ⟨pre, post, relOf n k pc⟩ := fun r hr s hs => by
  obtain ⟨a, _, rfl⟩ := rel_mem hr
  obtain ⟨e, he, rfl⟩ := List.mem_map.1 hs
  have := rcell_lt (c := pc a) h1 (List.mem_range.1 he)
  have : 2 ^ k ≤ 2 ^ 8 := Nat.pow_le_pow_right (by decide) hk
  omega
end Go.Proofs.Ytnbnkgcjgfmlcaa
set_option maxRecDepth 100000
set_option maxHeartbeats 4000000
namespace Go.Proofs.Ytnbnkgcjgfmlcaa
open Go Go.Dv

def fitsC (m : Mo) (f g : List Nd) : Bool := bif bif bif bif !fewM m 8 then true else moI m != 0 then true else (m.rel.length : Int) == 0 then true else decide ((f.length : Int) > 20) then true else decide ((g.length : Int) > 20)
def fitsL (m : Mo) (f g : List Nd) : Bool := bif fitsC m f g then false else bif (holdsI m f).2 == 0 then (holdsI m g).2 == 0 else false
theorem lw_fits (m : Mo) (f g : List Nd) (hf : FitM m) : PureFn Try.prog 24 [m.pv, fpv f, fpv g] (.bool (fitsL m f g)) := by
  refine PureFn.introC [3, 4, 5] mixed (fn := Try.f24) rfl rfl rfl fun M w0 => ?_
  have hW := rm_Few m 8
  have hC := md_Check m hf
  have h1 := ck_Holds m f hf
  have h2 := ck_Holds m g hf
  have e1 : ((m.rel.map rowPV).length : Int) = (m.rel.length : Int) := by simp
  have e2 : ((f.map Nd.pv).length : Int) = (f.length : Int) := by simp
  have e3 : ((g.map Nd.pv).length : Int) = (g.length : Int) := by simp
  have hc : fitsC m f g = bif bif bif bif !fewM m 8 then true else moI m != 0 then true else ((m.rel.map rowPV).length : Int) == 0 then true else decide (((f.map Nd.pv).length : Int) > 20) then true else decide (((g.map Nd.pv).length : Int) > 20) := by rw [e1, e2, e3]; rfl
  rw [fitsL]
  obtain ⟨C, hC0⟩ : ∃ C, C = fitsC m f g := ⟨_, rfl⟩
  rw [← hC0] at hc ⊢
  clear hC0
  generalize fewM m 8 = b at hW hc
  generalize moI m = c at hC hc
  generalize holdsI m f = X at h1
  generalize holdsI m g = Y at h2
  obtain ⟨s, x⟩ := X
  obtain ⟨t, y⟩ := Y
  try conv=>whnf
  refine ⟨{ _x : Unit // C = false }, fun _ => [(1, .pv (fpv f)), (2, .pv (fpv g)), (3, .ref 0 0)], fun _ => 1, fun _ => [(0, .var (cellsM m))], ?_, ?_⟩
  · (try conv=>whnf);repeat' (first|(apply And.intro<;>try conv=>whnf)|(intro h;try conv=>whnf)|apply True.intro|(apply WhenQ.mk;(try conv=>whnf);rotate_left;(try conv=>whnf);rotate_right)|with_reducible assumption|(apply not_of;with_reducible assumption)|(refine PureFn.dcq (f := 19) rfl ?_;try conv=>whnf)|(refine PureFn.dcq (f := 13) rfl ?_;try conv=>whnf)|(refine ⟨_, _, hW, ?_, ?_⟩;(focus first|(refine ⟨?_, ?_, trivial⟩<;>first|exact PLe.refl _|exact PLe.nil)|exact trivial);try conv=>whnf)|(refine ⟨_, _, hC, ?_, ?_⟩;(focus first|(refine ⟨?_, trivial⟩<;>first|exact PLe.refl _|exact PLe.nil)|exact trivial);try conv=>whnf)|fail)
    · rw [hc, h]; exact .refl _
    · exact ⟨⟨(), by rw [hc]; exact h⟩, (by refine Wk.of ?_ ?_ rfl rfl rfl<;>repeat' (first|exact trivial|exact WkD.same _|exact WkO.same _ _ rfl|refine ⟨?_, ?_⟩|fail))⟩
  rintro ⟨_, h0⟩
  subst h0
  refine ⟨Unit, fun _ => [(2, .pv (fpv g)), (3, .ref 0 0), (8, .pv (.int .i64 x))], fun _ => 1, fun _ => [(0, .var (cellsM m))], ?_, ?_⟩
  · (try conv=>whnf);repeat' (first|(refine PureFn.dcq (f := 28) rfl ?_;try conv=>whnf)|(refine ⟨_, _, h1, ?_, ?_⟩;(focus first|(refine ⟨?_, ?_, trivial⟩<;>first|exact PLe.refl _|exact PLe.nil)|exact trivial);try conv=>whnf)|fail)
    exact ⟨(), (by refine Wk.of ?_ ?_ rfl rfl rfl<;>repeat' (first|exact trivial|exact WkD.same _|exact WkO.same _ _ rfl|refine ⟨?_, ?_⟩|fail))⟩
  rintro ⟨⟩
  refine ⟨Unit, fun _ => [(8, .pv (.int .i64 x)), (10, .pv (.int .i64 y))], fun _ => 1, fun _ => [], ?_, ?_⟩
  · (try conv=>whnf);repeat' (first|(refine PureFn.dcq (f := 28) rfl ?_;try conv=>whnf)|(refine ⟨_, _, h2, ?_, ?_⟩;(focus first|(refine ⟨?_, ?_, trivial⟩<;>first|exact PLe.refl _|exact PLe.nil)|exact trivial);try conv=>whnf)|fail)
    exact ⟨(), (by refine Wk.of ?_ ?_ rfl rfl rfl<;>repeat' (first|exact trivial|exact WkD.same _|refine ⟨?_, ?_⟩|fail))⟩
  rintro ⟨⟩
  (try conv=>whnf);repeat' (first|(apply And.intro<;>try conv=>whnf)|(intro h;try conv=>whnf)|apply True.intro|(apply WhenQ.mk;(try conv=>whnf);rotate_left;(try conv=>whnf);rotate_right)|with_reducible assumption|fail)
  exact .refl _
end Go.Proofs.Ytnbnkgcjgfmlcaa
set_option maxRecDepth 100000
set_option maxHeartbeats 4000000
namespace Go.Proofs.Ytnbnkgcjgfmlcaa
open Go Go.Dv

theorem fitM_ok {p : Mo} {n : Nat} (h : OkM p n) : FitM p :=
  ⟨fun s hs => Nat.lt_of_lt_of_le (h.vbits s hs) (pow64_le h.n64), fun r hr s hs => Nat.lt_of_lt_of_le (h.bits r hr s hs) (pow64_le h.n64)⟩
end Go.Proofs.Ytnbnkgcjgfmlcaa
set_option maxRecDepth 100000
set_option maxHeartbeats 4000000
namespace Go.Proofs.Ytnbnkgcjgfmlcaa
open Go Go.Dv

def plcG (w e : Int) : List (Nat × Nat) → Nat → Int
  | [], _ => -1
  | q :: r, i => bif isP w e q then (i : Int) else plcG w e r (i + 1)
theorem plcG_spec {w e : Nat} : ∀ {l : List (Nat × Nat)} {i : Nat}, (plcG w e l i = -1 ∧ ∀ k : Nat, ¬ l[k]? = some (w, e)) ∨ ∃ k : Nat, plcG w e l i = ((i + k : Nat) : Int) ∧ l[k]? = some (w, e)
  | [], i => .inl ⟨rfl, fun k h => by simp at h⟩
  | q :: r, i => by
    rw [plcG]
    cases hq : isP w e q with
    | true =>
      refine .inr ⟨0, rfl, ?_⟩
      obtain ⟨x, y⟩ := q
      unfold isP at hq
      cases hx : ((x : Int) == (w : Int)) with
      | false => rw [show (((x, y) : Nat × Nat).1 : Int) = x from rfl, hx] at hq; cases hq
      | true =>
        rw [show (((x, y) : Nat × Nat).1 : Int) = x from rfl, hx] at hq
        have hy : ((y : Int) == (e : Int)) = true := hq
        have := beq_iff_eq.1 hx
        have := beq_iff_eq.1 hy
        show some (x, y) = some (w, e)
        rw [Option.some.injEq, Prod.mk.injEq]; omega
    | false =>
      rcases plcG_spec (w := w) (e := e) (l := r) (i := i + 1) with ⟨h1, h2⟩ | ⟨k, h1, h2⟩
      · refine .inl ⟨h1, fun k => ?_⟩
        cases k with
        | zero =>
          intro h
          have h3 : q = (w, e) := Option.some.inj h
          rw [h3] at hq
          simp [isP] at hq
        | succ k => exact h2 k
      · exact .inr ⟨k + 1, by rw [cond_false, h1]; omega, h2⟩
theorem lw_place (l : List (Nat × Nat)) (w e : Int) (hl : l.length ≤ 64) : PureFn Try.prog 36 [.sl (l.map pairPV), .int .i64 w, .int .i64 e] (.int .i64 (plcG w e l 0)) := by
  refine PureFn.intro mixed (fn := Try.f36) rfl rfl rfl fun M w0 => ?_
  have e1 : ((l.map pairPV).length : Int) = (l.length : Int) := by simp
  try conv=>whnf
  refine ⟨{ i : Nat // i ≤ l.length ∧ plcG w e l 0 = plcG w e (l.drop i) i }, fun i => [(0, .pv (.sl (l.map pairPV))), (1, .pv (.int .i64 w)), (2, .pv (.int .i64 e)), (7, .pv (i64 i.1))], fun _ => 0, fun _ => [], fun i => l.length - i.1, ⟨⟨0, Nat.zero_le _, rfl⟩, (by refine Wk.of ?_ ?_ rfl rfl rfl<;>repeat' (first|exact trivial|exact WkD.same _|refine ⟨?_, ?_⟩|fail))⟩, ?_⟩
  intro i
  have hi := i.2.1
  have hp := i.2.2
  (try conv=>whnf);repeat' (first|(apply And.intro<;>try conv=>whnf)|(intro h;try conv=>whnf)|apply True.intro|(apply infoT;rfl)|(apply WhenQ.mk;(try conv=>whnf);rotate_left;(try conv=>whnf);rotate_right)|with_reducible assumption|fail)
  · have h0 : (bif decide ((i.1 : Int) < ((l.map pairPV).length : Int)) then decide ((i.1 : Int) < 64) else false) = true := h
    have hi' : i.1 < l.length := by
      rw [e1] at h0
      by_cases q : (i.1 : Int) < (l.length : Int)
      · omega
      · rw [decide_eq_false q] at h0; cases h0
    obtain ⟨x, hx⟩ : ∃ x, l[i.1]? = some x := ⟨_, List.getElem?_eq_getElem hi'⟩
    have hd : l.drop i.1 = x :: l.drop (i.1 + 1) := by
      rw [List.drop_eq_getElem_cons hi']
      congr 1
      rw [List.getElem?_eq_getElem hi'] at hx
      exact Option.some.inj hx
    rw [hd, plcG] at hp
    refine ⟨_, _, rfl, idx_map hx, rfl, ?_⟩
    (try conv=>whnf);repeat' (first|(apply And.intro<;>try conv=>whnf)|(intro h;try conv=>whnf)|apply True.intro|(apply infoT;rfl)|(apply WhenQ.mk;(try conv=>whnf);rotate_left;(try conv=>whnf);rotate_right)|with_reducible assumption|(refine ⟨_, _, rfl, idx_map (by with_reducible assumption), rfl, ?_⟩;try conv=>whnf)|fail)
    · refine le_int ?_
      have h2 : isP w e x = true := h
      exact (hp.trans (by rw [h2]; rfl)).symm
    · have h2 : isP w e x = false := h
      rw [h2] at hp
      exact ⟨⟨i.1 + 1, hi', hp⟩, by show l.length - (i.1 + 1) < l.length - i.1; omega, (by refine Wk.of ?_ ?_ rfl rfl rfl<;>repeat' (first|exact trivial|exact WkD.same _|refine WkD.int ?_|refine ⟨?_, ?_⟩|(refine wrapA ?_ ?_ ?_;(focus simp;done);(focus (try dsimp only);omega);(focus (try dsimp only);omega))|fail))⟩
  · have h0 : (bif decide ((i.1 : Int) < ((l.map pairPV).length : Int)) then decide ((i.1 : Int) < 64) else false) = false := h
    have hi' : i.1 = l.length := by
      rw [e1] at h0
      by_cases q : (i.1 : Int) < (l.length : Int)
      · rw [decide_eq_true q, decide_eq_true (by omega)] at h0; cases h0
      · omega
    refine le_int ?_
    exact (hp.trans (by rw [hi', List.drop_length]; rfl)).symm
/-- What the agents outside of a group know. -/
def Keep (m p : Mo) (l : List (Nat × Nat)) (to : Nat) (g : List Nd) : Prop := ∀ x, x < m.rel.length → ∃ s t, holdsI m (buildL (nI 9 x) [g]) = (s, 0) ∧ holdsI p (buildL (nI 9 x) [g]) = (t, 0) ∧ s < 2 ^ 64 ∧ t < 2 ^ 64 ∧ (to.testBit x = false → ∀ w k, l[k]? = some (w, 0) → t.testBit k = s.testBit w)
theorem lw_unchanged (m p : Mo) (l : List (Nat × Nat)) (to n : Nat) (g : List Nd) (hM : OkM m n) (hfp : FitM p) (hl : l.length ≤ 64) (ht : to < 2 ^ 62) (hk : Keep m p l to g) :
    PureFn Try.prog 37 [m.pv, p.pv, .sl (l.map pairPV), .int .i64 (to : Nat), fpv g] (.bool true) := by
  refine PureFn.introC [7, 9, 13] mixed (fn := Try.f37) rfl rfl rfl fun M w0 => ?_
  have hf := fitM_ok hM
  have hn64 := hM.n64
  have hnn := hM.nn
  have hag := hM.ag
  try conv=>whnf
  refine ⟨{ x : Nat // x ≤ m.rel.length }, fun x => [(2, .pv (.sl (l.map pairPV))), (3, .pv (i64 to)), (4, .pv (fpv g)), (5, .ref 0 0), (6, .ref 1 0), (11, .pv (i64 x.1))], fun _ => 2, fun _ => [(0, .var (cellsM m)), (1, .var (cellsM p))], fun x => m.rel.length - x.1, ⟨⟨0, Nat.zero_le _⟩, (by refine Wk.of ?_ ?_ rfl rfl rfl<;>repeat' (first|exact trivial|exact WkD.same _|exact WkO.same _ _ rfl|refine ⟨?_, ?_⟩|fail))⟩, ?_⟩
  intro x
  have hx := x.2
  (try conv=>whnf);repeat' (first|(apply And.intro<;>try conv=>whnf)|(intro h;try conv=>whnf)|fail)
  · have hx' : x.1 < m.rel.length := by simpa using lt_dec h
    obtain ⟨s, t, hs, hp, hs64, ht64, hst⟩ := hk x.1 hx'
    have hK := fm_Know (x.1 : Nat) g
    have hC := ck_Holds m (buildL (nI 9 x.1) [g]) hf
    have hD := ck_Holds p (buildL (nI 9 x.1) [g]) hfp
    rw [hs] at hC
    rw [hp] at hD
    generalize buildL (nI 9 x.1) [g] = K at hK hC hD
    (try conv=>whnf);repeat' (first|(refine PureFn.dcq (f := 30) rfl ?_;try conv=>whnf)|(refine PureFn.dcq (f := 28) rfl ?_;try conv=>whnf)|(refine ⟨_, _, hK, ?_, ?_⟩;(focus first|(refine ⟨?_, ?_, trivial⟩<;>first|exact PLe.refl _|exact PLe.nil)|exact trivial);try conv=>whnf)|(refine ⟨_, _, hC, ?_, ?_⟩;(focus first|(refine ⟨?_, ?_, trivial⟩<;>first|exact PLe.refl _|exact PLe.nil)|exact trivial);try conv=>whnf)|fail)
    refine ⟨Unit, fun _ => [(2, .pv (.sl (l.map pairPV))), (3, .pv (i64 to)), (4, .pv (fpv g)), (5, .ref 0 0), (6, .ref 1 0), (11, .pv (i64 x.1)), (13, .pv (u64 s)), (15, .pv (u64 t)), (14, .pv (.int .i64 0)), (16, .pv (.int .i64 0))], fun _ => 2, fun _ => [(0, .var (cellsM m)), (1, .var (cellsM p))], ?_, ?_⟩
    · (try conv=>whnf);repeat' (first|(refine PureFn.dcq (f := 28) rfl ?_;try conv=>whnf)|(refine ⟨_, _, hD, ?_, ?_⟩;(focus first|(refine ⟨?_, ?_, trivial⟩<;>first|exact PLe.refl _|exact PLe.nil)|exact trivial);try conv=>whnf)|fail)
      exact ⟨(), (by refine Wk.of ?_ ?_ rfl rfl rfl<;>repeat' (first|exact trivial|exact WkD.same _|exact WkO.same _ _ rfl|refine ⟨?_, ?_⟩|fail))⟩
    rintro ⟨⟩
    refine ⟨Unit, fun _ => [(2, .pv (.sl (l.map pairPV))), (3, .pv (i64 to)), (4, .pv (fpv g)), (5, .ref 0 0), (6, .ref 1 0), (11, .pv (i64 x.1)), (13, .pv (u64 s)), (15, .pv (u64 t))], fun _ => 2, fun _ => [(0, .var (cellsM m)), (1, .var (cellsM p))], ?_, ?_⟩
    · (try conv=>whnf);repeat' (first|(apply And.intro<;>try conv=>whnf)|(intro h;try conv=>whnf)|apply True.intro|(apply WhenQ.mk;(try conv=>whnf);rotate_left;(try conv=>whnf);rotate_right)|with_reducible assumption|(apply not_of;with_reducible assumption)|fail)
      · exact absurd (show (bif ((0 : Int) != 0) then true else ((0 : Int) != 0)) = true from h) (by decide)
      · exact ⟨(), (by refine Wk.of ?_ ?_ rfl rfl rfl<;>repeat' (first|exact trivial|exact WkD.same _|exact WkO.same _ _ rfl|refine ⟨?_, ?_⟩|fail))⟩
    rintro ⟨⟩
    try conv=>whnf
    refine ⟨{ w : Nat // w ≤ n }, fun w => [(2, .pv (.sl (l.map pairPV))), (3, .pv (i64 to)), (4, .pv (fpv g)), (5, .ref 0 0), (6, .ref 1 0), (11, .pv (i64 x.1)), (13, .pv (u64 s)), (15, .pv (u64 t)), (17, .pv (i64 w.1))], fun _ => 2, fun _ => [(0, .var (cellsM m)), (1, .var (cellsM p))], fun w => n - w.1, ⟨⟨0, Nat.zero_le _⟩, (by refine Wk.of ?_ ?_ rfl rfl rfl<;>repeat' (first|exact trivial|exact WkD.same _|exact WkO.same _ _ rfl|refine ⟨?_, ?_⟩|fail))⟩, ?_⟩
    intro w
    have hw := w.2
    (try conv=>whnf);repeat' (first|(apply And.intro<;>try conv=>whnf)|(intro h;try conv=>whnf)|apply True.intro|(apply WhenQ.mk;(try conv=>whnf);rotate_left;(try conv=>whnf);rotate_right)|with_reducible assumption|fail)
    · exact wrapU_pos _
    · have h0 : (bif decide ((w.1 : Int) < m.n) then and64 (shr64 (to : Int) (IntKind.wrap .u64 (x.1 : Int))) 1 == 0 else false) = true := h
      have hw' : w.1 < n := by
        rw [hnn] at h0
        by_cases q : (w.1 : Int) < (n : Int)
        · omega
        · rw [decide_eq_false q] at h0; cases h0
      rw [hnn, decide_eq_true (show (w.1 : Int) < (n : Int) by omega), cond_true, wrapU_nat (by omega), bit64_zero ht (by omega)] at h0
      have hb : to.testBit x.1 = false := by simpa using h0
      have hP := lw_place l (w.1 : Nat) 0 hl
      have hq := plcG_spec (w := w.1) (e := 0) (l := l) (i := 0)
      rw [show ((0 : Nat) : Int) = 0 from rfl] at hq
      generalize plcG (w.1 : Nat) 0 l 0 = q at hP hq
      refine ⟨Unit, fun _ => [(2, .pv (.sl (l.map pairPV))), (3, .pv (i64 to)), (4, .pv (fpv g)), (5, .ref 0 0), (6, .ref 1 0), (11, .pv (i64 x.1)), (13, .pv (u64 s)), (15, .pv (u64 t)), (17, .pv (i64 w.1)), (18, .pv (.int .i64 q))], fun _ => 2, fun _ => [(0, .var (cellsM m)), (1, .var (cellsM p))], ?_, ?_⟩
      · (try conv=>whnf);repeat' (first|(refine PureFn.dcq (f := 36) rfl ?_;try conv=>whnf)|(refine ⟨_, _, hP, ?_, ?_⟩;(focus first|(refine ⟨?_, ?_, ?_, trivial⟩<;>first|exact PLe.refl _|exact PLe.nil)|exact trivial);try conv=>whnf)|fail)
        exact ⟨(), (by refine Wk.of ?_ ?_ rfl rfl rfl<;>repeat' (first|exact trivial|exact WkD.same _|exact WkO.same _ _ rfl|refine ⟨?_, ?_⟩|fail))⟩
      rintro ⟨⟩
      (try conv=>whnf);repeat' (first|(apply And.intro<;>try conv=>whnf)|(intro h;try conv=>whnf)|apply True.intro|(apply WhenQ.mk;(try conv=>whnf);rotate_left;(try conv=>whnf);rotate_right)|with_reducible assumption|fail)
      · exact wrapU_pos _
      · exact wrapU_pos _
      · exfalso
        have h1 : (bif decide (q ≥ 0) then andU (shrU (s : Nat) (IntKind.wrap .u64 (w.1 : Int))) 1 != andU (shrU (t : Nat) (IntKind.wrap .u64 q)) 1 else false) = true := h
        rcases hq with ⟨rfl, _⟩ | ⟨k, rfl, hk2⟩
        · cases h1
        · have hk64 := lt_of_get hk2
          rw [decide_eq_true (by omega), cond_true, wrapU_nat (by omega), show ((0 + k : Nat) : Int) = ((k : Nat) : Int) by omega, wrapU_nat (by omega), bit_and s w.1 hs64 (by omega), bit_and t k ht64 (by omega), hst hb w.1 k hk2] at h1
          simp at h1
      · exact ⟨⟨w.1 + 1, hw'⟩, by show n - (w.1 + 1) < n - w.1; omega, (by refine Wk.of ?_ ?_ rfl rfl rfl<;>repeat' (first|exact trivial|exact WkD.same _|exact WkO.same _ _ rfl|refine WkD.int ?_|refine ⟨?_, ?_⟩|(refine wrapA ?_ ?_ ?_;(focus simp;done);(focus (try dsimp only);omega);(focus (try dsimp only);omega))|fail))⟩
    · exact ⟨⟨x.1 + 1, hx'⟩, by show m.rel.length - (x.1 + 1) < m.rel.length - x.1; omega, (by refine Wk.of ?_ ?_ rfl rfl rfl<;>repeat' (first|exact trivial|exact WkD.same _|exact WkO.same _ _ rfl|refine WkD.int ?_|refine ⟨?_, ?_⟩|(refine wrapA ?_ ?_ ?_;(focus simp;done);(focus (try dsimp only);omega);(focus (try dsimp only);omega))|fail))⟩
  · exact .refl _
end Go.Proofs.Ytnbnkgcjgfmlcaa
set_option maxRecDepth 100000
set_option maxHeartbeats 4000000
namespace Go.Proofs.Ytnbnkgcjgfmlcaa
open Go Go.Dv

theorem fewM_ok {m : Mo} {k : Int} (h : fewM m k = true) (h64 : m.n ≤ 64) : m.n ≤ k := by
  unfold fewM at h
  cases hb : fewB m k with
  | true => rw [hb] at h; cases h
  | false =>
    unfold fewB at hb
    obtain ⟨h1, _⟩ := or_ff' hb
    obtain ⟨h2, _⟩ := or_ff' h1
    by_cases q : m.n > k
    · rw [decide_eq_true q, decide_eq_true h64] at h2; cases h2
    · omega
theorem fitsL_ok {m : Mo} {f g : List Nd} (h : fitsL m f g = true) : ∃ n, OkM m n ∧ n ≤ 8 ∧ 1 ≤ m.rel.length ∧ f.length ≤ 20 ∧ g.length ≤ 20 ∧ (holdsI m f).2 = 0 ∧ (holdsI m g).2 = 0 := by
  unfold fitsL at h
  cases hc : fitsC m f g with
  | true => rw [hc] at h; cases h
  | false =>
    rw [hc] at h
    have hc' : (bif bif bif bif !fewM m 8 then true else moI m != 0 then true else (m.rel.length : Int) == 0 then true else decide ((f.length : Int) > 20) then true else decide ((g.length : Int) > 20)) = false := hc
    obtain ⟨h1, b5⟩ := or_ff' hc'
    obtain ⟨h2, b4⟩ := or_ff' h1
    obtain ⟨h3, b3⟩ := or_ff' h2
    obtain ⟨b1, b2⟩ := or_ff' h3
    have hm : moI m = 0 := by simpa using b2
    obtain ⟨n, hM⟩ := moI_ok hm
    have hnn := hM.nn
    have hw := fewM_ok (show fewM m 8 = true by simpa using b1) (by have := hM.n64; omega)
    have e3 : ¬ (m.rel.length : Int) = 0 := by simpa using b3
    have e4 := of_decide_eq_false b4
    have e5 := of_decide_eq_false b5
    cases h7 : ((holdsI m f).2 == 0) with
    | false => rw [h7] at h; cases h
    | true =>
      rw [h7] at h
      exact ⟨n, hM, by omega, by omega, by omega, by omega, by simpa using h7, by simpa using h⟩
end Go.Proofs.Ytnbnkgcjgfmlcaa
set_option maxRecDepth 100000
set_option maxHeartbeats 4000000
namespace Go.Proofs.Ytnbnkgcjgfmlcaa
open Go Go.Dv

theorem at_of {m : Mo} {n w s : Nat} {f : List Nd} (hM : OkM m n) (hw : w < n) (h : holdsI m f = (s, 0)) : atCI m (w : Nat) f = (s.testBit w, 0) := by
  have hb : badW m (w : Nat) = false := by
    unfold badW
    rw [decide_eq_false (by omega), decide_eq_false (by rw [hM.nn]; omega)]; rfl
  rw [atCI, h, hb]; rfl
structure SecrStep (m : Mo) (n s : Nat) (f g : List Nd) (to : Nat) (a : Act) (p : Mo) (l : List (Nat × Nat)) : Prop where
  msg : PureFn Try.prog 44 [.int .i64 ((m.rel.map rowPV).length : Nat), .int .i64 (to : Int), .int .i64 0, fpv f] (.tup [a.pv, .int .i64 0])
  upd : PureFn Try.prog 12 [m.pv, a.pv] (.tup [p.pv, .sl (l.map pairPV), .int .i64 0])
  unc : PureFn Try.prog 37 [m.pv, p.pv, .sl (l.map pairPV), .int .i64 (to : Nat), fpv g] (.bool true)
  okp : OkM p l.length
  len : l.length = 2 * n
  vl : p.val.length = m.val.length
  ev0 : ∀ w, w < n → ∃ k : Nat, l[k]? = some (w, 0)
  ev1 : ∀ w, w < n → ∃ k : Nat, l[k]? = some (w, 1)
  v0 : ∀ (w k : Nat), l[k]? = some (w, 0) → (p.val.getD 0 0).testBit k = s.testBit w
  v1 : ∀ (w k : Nat), l[k]? = some (w, 1) → (p.val.getD 0 0).testBit k = (m.val.getD 0 0).testBit w
  kn : ∀ b, b < m.rel.length → ∀ (w k : Nat), w < n → l[k]? = some (w, 0) → ∃ x y : Bool,
    PureFn Try.prog 18 [m.pv, .int .i64 (w : Nat), fpv (buildL (nI 9 b) [f])] (.tup [.bool x, .int .i64 0]) ∧
    PureFn Try.prog 18 [p.pv, .int .i64 (k : Nat), fpv (buildL (nI 9 b) [buildL (nI 3 0) []])] (.tup [.bool y, .int .i64 0]) ∧ (to.testBit b = true → x = y)
theorem secr_step {m : Mo} {n : Nat} {f g : List Nd} {to : Nat} (hM : OkM m n) (hn : n ≤ 8) (hv : 1 ≤ m.val.length) (hf : (holdsI m f).2 = 0) (hg : (holdsI m g).2 = 0) (hl : f.length ≤ 20) (hl2 : g.length ≤ 20) (ht : to < 2 ^ m.rel.length) :
    ∃ a p l, SecrStep m n (holdsI m f).1 f g to a p l := by
  have T := secr_two (to := to) hM (by omega) hv hf
  have R := secr_rows (f := f) hM ht
  have hag := hM.ag
  have h62 : to < 2 ^ 62 := Nat.lt_of_lt_of_le ht (Nat.pow_le_pow_right (by decide) (by omega))
  obtain ⟨c0, c1, c2⟩ := secr_law (to := to) hM (by omega) hv hf (by omega) ht
  have hlen := secr_len (to := to) hM (by omega) hv hf
  have hm := ms_Secret m.rel.length to 0 f
  rw [secr_eq hag ht (stat_mono hM.fa (holds_stat hf)), show PV.int .i64 ((m.rel.length : Nat) : Int) = .int .i64 ((m.rel.map rowPV).length : Nat) by rw [List.length_map]] at hm
  have hfit : Fit (secrA m.rel.length to f) := fit_small (by decide) (by decide)
  have hU := pr_Update m (secrA m.rel.length to f) (fitM_ok hM) hfit (by simp [secrA, relOf]; omega) (by simp [secrA])
  rw [T.upd] at hU
  refine ⟨_, _, _, hm, hU, ?_, T.okp, hlen, by simp [prodM], fun w hw => T.at0 hw (secr_pos0 hM hw), fun w hw => ⟨_, T.at hw⟩, c0, c1, fun b hb w k hw hk => ?_⟩
  · refine lw_unchanged m _ _ to n g hM (fitM_ok T.okp) T.size.2 h62 fun x hx => ?_
    obtain ⟨s, t, k1, k2, k3, k4, k5⟩ := T.know R.snd hx hg (by omega)
    exact ⟨s, t, k1, k2, k3, k4, fun hb => k5 (R.out hx hb)⟩
  · obtain ⟨s, t, k1, k2, k3⟩ := c2 b hb
    have a1 := ck_At m (w : Nat) (buildL (nI 9 b) [f]) (fitM_ok hM)
    rw [at_of hM hw k1] at a1
    have a2 := ck_At _ (k : Nat) (buildL (nI 9 b) [buildL (nI 3 0) []]) (fitM_ok T.okp)
    rw [at_of T.okp (lt_of_get hk) k2] at a2
    exact ⟨_, _, a1, a2, fun hin => (k3 hin w k hk).symm⟩
theorem msecr_pure (m : Mo) (f g : List Nd) (hf : FitM m) : PureFn Try.prog 9 [m.pv, fpv f, fpv g] (.bool true) := by
  have hL := lw_fits m f g hf
  have hA := ml_awake
  by_cases hg : fitsL m f g = true ∧ 1 ≤ m.val.length
  · obtain ⟨hg1, hv⟩ := hg
    obtain ⟨n, hM, hn8, ha1, hl1, hl2, hh1, hh2⟩ := fitsL_ok hg1
    have hag := hM.ag
    have hn1 := hM.n1
    have hnn := hM.nn
    have hstep := fun to (ht : to < 2 ^ m.rel.length) => secr_step (to := to) hM hn8 hv hh1 hh2 hl1 hl2 ht
    obtain ⟨P, qP⟩ : ∃ z : List Nd, z = buildL (nI 3 0) [] := ⟨_, rfl⟩
    have hP := fm_Fact 0
    rw [← qP] at hP
    have hpow : 2 ^ m.rel.length ≤ 16 := Nat.pow_le_pow_right (n := 2) (by decide) hag
    have hpos := Nat.two_pow_pos m.rel.length
    have e1 : ((m.rel.map rowPV).length : Int) = (m.rel.length : Int) := by simp
    have hsw : shl64 1 (IntKind.wrap .u64 ((m.rel.map rowPV).length : Int)) = ((2 ^ m.rel.length : Nat) : Int) := by rw [e1]; exact shl_wn (by omega)
    have hB := ck_Holds m f hf
    have hs64 : (holdsI m f).1 < 2 ^ 64 := Nat.lt_of_lt_of_le (holds_lt n hM) (pow64_le hM.n64)
    have hm064 : m.val.getD 0 0 < 2 ^ 64 := hf.1 _ (List.mem_iff_getElem?.2 ⟨0, getD_mem hv⟩)
    have hmv : m.val[0]? = some (m.val.getD 0 0) := getD_mem hv
    obtain ⟨s, qs⟩ : ∃ s, s = (holdsI m f).1 := ⟨_, rfl⟩
    rw [show holdsI m f = ((holdsI m f).1, 0) from Prod.ext rfl hh1, ← qs] at hB
    rw [← qs] at hs64 hstep
    obtain ⟨m0, qm0⟩ : ∃ s, s = m.val.getD 0 0 := ⟨_, rfl⟩
    rw [← qm0] at hm064 hmv
    rw [hg1] at hL
    refine PureFn.introC [3, 4, 8, 9, 11, 15, 17, 22] mixed (fn := Try.f9) rfl rfl rfl fun M w0 => ?_
    try conv=>whnf
    refine ⟨Unit, fun _ => [(1, .pv (fpv f)), (2, .pv (fpv g)), (3, .ref 0 0)], fun _ => 1, fun _ => [(0, .var (cellsM m))], ?_, ?_⟩
    · (try conv=>whnf);repeat' (first|(apply And.intro<;>try conv=>whnf)|(intro h;try conv=>whnf)|apply True.intro|(apply WhenQ.mk;(try conv=>whnf);rotate_left;(try conv=>whnf);rotate_right)|with_reducible assumption|(apply not_of;with_reducible assumption)|(refine PureFn.dcq (f := 24) rfl ?_;try conv=>whnf)|(refine PureFn.dcq (f := 26) rfl ?_;try conv=>whnf)|(refine ⟨_, _, hL, ?_, ?_⟩;(focus first|(refine ⟨?_, ?_, ?_, trivial⟩<;>first|exact PLe.refl _|exact PLe.nil)|exact trivial);try conv=>whnf)|(refine ⟨_, _, hA, ?_, ?_⟩;(focus first|(refine ⟨trivial⟩<;>first|exact PLe.refl _|exact PLe.nil)|exact trivial);try conv=>whnf)|fail)
      · exact .refl _
      · exact ⟨(), (by refine Wk.of ?_ ?_ rfl rfl rfl<;>repeat' (first|exact trivial|exact WkD.same _|exact WkO.same _ _ rfl|refine ⟨?_, ?_⟩|fail))⟩
    rintro ⟨⟩
    refine ⟨Unit, fun _ => [(1, .pv (fpv f)), (2, .pv (fpv g)), (3, .ref 0 0), (7, .pv (u64 s)), (8, .pv (.int .i64 0))], fun _ => 1, fun _ => [(0, .var (cellsM m))], ?_, ?_⟩
    · (try conv=>whnf);repeat' (first|(refine PureFn.dcq (f := 28) rfl ?_;try conv=>whnf)|(refine ⟨_, _, hB, ?_, ?_⟩;(focus first|(refine ⟨?_, ?_, trivial⟩<;>first|exact PLe.refl _|exact PLe.nil)|exact trivial);try conv=>whnf)|fail)
      exact ⟨(), (by refine Wk.of ?_ ?_ rfl rfl rfl<;>repeat' (first|exact trivial|exact WkD.same _|exact WkO.same _ _ rfl|refine ⟨?_, ?_⟩|fail))⟩
    rintro ⟨⟩
    try conv=>whnf
    refine ⟨{ to : Nat // to ≤ 2 ^ m.rel.length }, fun to => [(1, .pv (fpv f)), (2, .pv (fpv g)), (3, .ref 0 0), (7, .pv (u64 s)), (8, .pv (.int .i64 0)), (9, .pv (i64 to.1))], fun _ => 1, fun _ => [(0, .var (cellsM m))], fun to => 2 ^ m.rel.length - to.1, ⟨⟨0, Nat.zero_le _⟩, (by refine Wk.of ?_ ?_ rfl rfl rfl<;>repeat' (first|exact trivial|exact WkD.same _|exact WkO.same _ _ rfl|refine ⟨?_, ?_⟩|fail))⟩, ?_⟩
    intro to
    have h2 := to.2
    (try conv=>whnf);repeat' (first|(apply And.intro<;>try conv=>whnf)|(intro h;try conv=>whnf)|(refine PureFn.dcq (f := 26) rfl ?_;try conv=>whnf)|(refine ⟨_, _, hA, ?_, ?_⟩;(focus first|(refine ⟨trivial⟩<;>first|exact PLe.refl _|exact PLe.nil)|exact trivial);try conv=>whnf)|fail)
    · exact wrapU_pos _
    · have hto : to.1 < 2 ^ m.rel.length := by
        have h9 : decide ((to.1 : Int) < shl64 1 (IntKind.wrap .u64 ((m.rel.map rowPV).length : Int))) = true := h
        rw [hsw] at h9
        exact lt_dec h9
      have ht16 : to.1 < 2 ^ 62 := Nat.lt_of_lt_of_le hto (Nat.pow_le_pow_right (by decide) (by omega))
      obtain ⟨a, p, l, S⟩ := hstep to.1 hto
      have sM := S.msg
      have sU := S.upd
      have sN := S.unc
      have slen := S.len
      have spn := S.okp.nn
      have svl := S.vl
      have hpv : p.val[0]? = some (p.val.getD 0 0) := getD_mem (by omega)
      have hp064 : p.val.getD 0 0 < 2 ^ 64 := (fitM_ok S.okp).1 _ (List.mem_iff_getElem?.2 ⟨0, hpv⟩)
      have sv0 := S.v0
      have sv1 := S.v1
      obtain ⟨p0, qp0⟩ : ∃ s, s = p.val.getD 0 0 := ⟨_, rfl⟩
      rw [← qp0] at hpv hp064 sv0 sv1
      rw [← qm0] at sv1
      have skn := S.kn
      rw [← qP] at skn
      refine ⟨Unit, fun _ => [(1, .pv (fpv f)), (2, .pv (fpv g)), (3, .ref 0 0), (7, .pv (u64 s)), (8, .pv (.int .i64 0)), (9, .pv (i64 to.1)), (10, .ref 1 0), (11, .pv (.int .i64 0))], fun _ => 2, fun _ => [(0, .var (cellsM m)), (1, .var (cellsA a))], ?_, ?_⟩
      · (try conv=>whnf);repeat' (first|(refine PureFn.dcq (f := 44) rfl ?_;try conv=>whnf)|(refine ⟨_, _, sM, ?_, ?_⟩;(focus first|(refine ⟨?_, ?_, ?_, ?_, trivial⟩<;>first|exact PLe.refl _|exact PLe.nil)|exact trivial);try conv=>whnf)|fail)
        exact ⟨(), (by refine Wk.of ?_ ?_ rfl rfl rfl<;>repeat' (first|exact trivial|exact WkD.same _|exact WkO.same _ _ rfl|refine ⟨?_, ?_⟩|fail))⟩
      rintro ⟨⟩
      refine ⟨Unit, fun _ => [(1, .pv (fpv f)), (2, .pv (fpv g)), (3, .ref 0 0), (7, .pv (u64 s)), (8, .pv (.int .i64 0)), (9, .pv (i64 to.1)), (11, .pv (.int .i64 0)), (12, .ref 2 0), (13, .pv (.sl (l.map pairPV))), (14, .pv (.int .i64 0))], fun _ => 3, fun _ => [(0, .var (cellsM m)), (1, .var (cellsA a)), (2, .var (cellsM p))], ?_, ?_⟩
      · (try conv=>whnf);repeat' (first|(refine PureFn.dcq (f := 12) rfl ?_;try conv=>whnf)|(refine ⟨_, _, sU, ?_, ?_⟩;(focus first|(refine ⟨?_, ?_, trivial⟩<;>first|exact PLe.refl _|exact PLe.nil)|exact trivial);try conv=>whnf)|fail)
        exact ⟨(), (by refine Wk.of ?_ ?_ rfl rfl rfl<;>repeat' (first|exact trivial|exact WkD.same _|exact WkO.same _ _ rfl|refine ⟨?_, ?_⟩|fail))⟩
      rintro ⟨⟩
      refine ⟨Unit, fun _ => [(1, .pv (fpv f)), (2, .pv (fpv g)), (3, .ref 0 0), (7, .pv (u64 s)), (8, .pv (.int .i64 0)), (9, .pv (i64 to.1)), (12, .ref 2 0), (13, .pv (.sl (l.map pairPV)))], fun _ => 3, fun _ => [(0, .var (cellsM m)), (1, .var (cellsA a)), (2, .var (cellsM p))], ?_, ?_⟩
      · (try conv=>whnf);repeat' (first|(apply And.intro<;>try conv=>whnf)|(intro h;try conv=>whnf)|apply True.intro|(apply WhenQ.mk;(try conv=>whnf);rotate_left;(try conv=>whnf);rotate_right)|with_reducible assumption|(apply not_of;with_reducible assumption)|fail)
        · exfalso
          have h0 : (bif bif bif bif bif ((0 : Int) != 0) then true else ((0 : Int) != 0) then true else ((0 : Int) != 0) then true else p.n != IntKind.wrap .i64 (2 * m.n) then true else ((l.map pairPV).length : Int) != p.n then true else ((p.val.map u64).length : Int) != ((m.val.map u64).length : Int)) = true := h
          rw [hnn, wrap_small (by omega) (by omega), spn, slen, List.length_map, List.length_map, List.length_map, svl, slen] at h0
          simp at h0
        · exact ⟨(), (by refine Wk.of ?_ ?_ rfl rfl rfl<;>repeat' (first|exact trivial|exact WkD.same _|exact WkO.same _ _ rfl|refine ⟨?_, ?_⟩|fail))⟩
      rintro ⟨⟩
      try conv=>whnf
      refine ⟨{ w : Nat // w ≤ n }, fun w => [(1, .pv (fpv f)), (2, .pv (fpv g)), (3, .ref 0 0), (7, .pv (u64 s)), (8, .pv (.int .i64 0)), (9, .pv (i64 to.1)), (12, .ref 2 0), (13, .pv (.sl (l.map pairPV))), (15, .pv (i64 w.1))], fun _ => 3, fun _ => [(0, .var (cellsM m)), (1, .var (cellsA a)), (2, .var (cellsM p))], fun w => n - w.1, ⟨⟨0, Nat.zero_le _⟩, (by refine Wk.of ?_ ?_ rfl rfl rfl<;>repeat' (first|exact trivial|exact WkD.same _|exact WkO.same _ _ rfl|refine ⟨?_, ?_⟩|fail))⟩, ?_⟩
      intro w
      have hw := w.2
      (try conv=>whnf);repeat' (first|(apply And.intro<;>try conv=>whnf)|(intro h;try conv=>whnf)|fail)
      · have hw' : w.1 < n := by rw [hnn] at h; exact lt_dec h
        have hP0 := lw_place l (w.1 : Nat) 0 (by omega)
        have hP1 := lw_place l (w.1 : Nat) 1 (by omega)
        obtain ⟨x0, hx0⟩ := S.ev0 w.1 hw'
        obtain ⟨x1, hx1⟩ := S.ev1 w.1 hw'
        obtain ⟨k0, q0, hk0⟩ : ∃ k : Nat, plcG (w.1 : Nat) 0 l 0 = (k : Int) ∧ l[k]? = some (w.1, 0) := by
          rcases plcG_spec (w := w.1) (e := 0) (l := l) (i := 0) with ⟨_, h9⟩ | ⟨k, h9, h8⟩
          · exact absurd hx0 (h9 x0)
          · exact ⟨k, by rw [show ((0 : Nat) : Int) = 0 from rfl] at h9; rw [h9]; omega, h8⟩
        obtain ⟨k1, q1, hk1⟩ : ∃ k : Nat, plcG (w.1 : Nat) 1 l 0 = (k : Int) ∧ l[k]? = some (w.1, 1) := by
          rcases plcG_spec (w := w.1) (e := 1) (l := l) (i := 0) with ⟨_, h9⟩ | ⟨k, h9, h8⟩
          · exact absurd hx1 (h9 x1)
          · exact ⟨k, by rw [show ((1 : Nat) : Int) = 1 from rfl] at h9; rw [h9]; omega, h8⟩
        rw [q0] at hP0
        rw [q1] at hP1
        have l0 := lt_of_get hk0
        have l1 := lt_of_get hk1
        refine ⟨Unit, fun _ => [(1, .pv (fpv f)), (2, .pv (fpv g)), (3, .ref 0 0), (7, .pv (u64 s)), (8, .pv (.int .i64 0)), (9, .pv (i64 to.1)), (12, .ref 2 0), (13, .pv (.sl (l.map pairPV))), (15, .pv (i64 w.1)), (16, .pv (i64 k0)), (17, .pv (i64 k1))], fun _ => 3, fun _ => [(0, .var (cellsM m)), (1, .var (cellsA a)), (2, .var (cellsM p))], ?_, ?_⟩
        · (try conv=>whnf);repeat' (first|(refine PureFn.dcq (f := 36) rfl ?_;try conv=>whnf)|(refine ⟨_, _, hP0, ?_, ?_⟩;(focus first|(refine ⟨?_, ?_, ?_, trivial⟩<;>first|exact PLe.refl _|exact PLe.nil)|exact trivial);try conv=>whnf)|(refine ⟨_, _, hP1, ?_, ?_⟩;(focus first|(refine ⟨?_, ?_, ?_, trivial⟩<;>first|exact PLe.refl _|exact PLe.nil)|exact trivial);try conv=>whnf)|fail)
          exact ⟨(), (by refine Wk.of ?_ ?_ rfl rfl rfl<;>repeat' (first|exact trivial|exact WkD.same _|exact WkO.same _ _ rfl|refine ⟨?_, ?_⟩|fail))⟩
        rintro ⟨⟩
        have hc0 : (bif (bif (bif decide ((k0 : Int) < 0) then true else decide ((k1 : Int) < 0)) then true else andU (shrU (p0 : Nat) (IntKind.wrap .u64 (k0 : Int))) 1 != andU (shrU (s : Nat) (IntKind.wrap .u64 (w.1 : Int))) 1) then true else andU (shrU (p0 : Nat) (IntKind.wrap .u64 (k1 : Int))) 1 != andU (shrU (m0 : Nat) (IntKind.wrap .u64 (w.1 : Int))) 1) = false := by
          rw [decide_eq_false (by omega), decide_eq_false (by omega), wrapU_nat (by omega), wrapU_nat (by omega), wrapU_nat (by omega), bit_and p0 k0 hp064 (by omega), bit_and p0 k1 hp064 (by omega), bit_and s w.1 hs64 (by omega), bit_and m0 w.1 hm064 (by omega), sv0 w.1 k0 hk0, sv1 w.1 k1 hk1]
          simp
        refine ⟨Unit, fun _ => [(1, .pv (fpv f)), (2, .pv (fpv g)), (3, .ref 0 0), (7, .pv (u64 s)), (8, .pv (.int .i64 0)), (9, .pv (i64 to.1)), (12, .ref 2 0), (13, .pv (.sl (l.map pairPV))), (15, .pv (i64 w.1)), (16, .pv (i64 k0))], fun _ => 3, fun _ => [(0, .var (cellsM m)), (1, .var (cellsA a)), (2, .var (cellsM p))], ?_, ?_⟩
        · (try conv=>whnf);repeat' (first|(apply And.intro<;>try conv=>whnf)|(intro h;try conv=>whnf)|apply True.intro|(apply infoT;rfl)|(apply WhenQ.mk;(try conv=>whnf);rotate_left;(try conv=>whnf);rotate_right)|with_reducible assumption|(apply not_of;with_reducible assumption)|(refine lin_plan (by kernel_rfl) ?_;try conv=>whnf)|(refine ⟨_, _, rfl, idx_map (by with_reducible assumption), rfl, ?_⟩;try conv=>whnf)|fail)
          · exact wrapU_pos _
          · exact wrapU_pos _
          · exact wrapU_pos _
          · exact wrapU_pos _
          · exact absurd (h.symm.trans hc0) (by decide)
          · exact ⟨(), (by refine Wk.of ?_ ?_ rfl rfl rfl<;>repeat' (first|exact trivial|exact WkD.same _|exact WkO.same _ _ rfl|refine ⟨?_, ?_⟩|fail))⟩
        rintro ⟨⟩
        try conv=>whnf
        refine ⟨{ b : Nat // b ≤ m.rel.length }, fun b => [(1, .pv (fpv f)), (2, .pv (fpv g)), (3, .ref 0 0), (7, .pv (u64 s)), (8, .pv (.int .i64 0)), (9, .pv (i64 to.1)), (12, .ref 2 0), (13, .pv (.sl (l.map pairPV))), (15, .pv (i64 w.1)), (16, .pv (i64 k0)), (18, .pv (i64 b.1))], fun _ => 3, fun _ => [(0, .var (cellsM m)), (1, .var (cellsA a)), (2, .var (cellsM p))], fun b => m.rel.length - b.1, ⟨⟨0, Nat.zero_le _⟩, (by refine Wk.of ?_ ?_ rfl rfl rfl<;>repeat' (first|exact trivial|exact WkD.same _|exact WkO.same _ _ rfl|refine ⟨?_, ?_⟩|fail))⟩, ?_⟩
        intro b
        have hb := b.2
        (try conv=>whnf);repeat' (first|(apply And.intro<;>try conv=>whnf)|(intro h;try conv=>whnf)|(refine lin_plan (by kernel_rfl) ?_;try conv=>whnf)|fail)
        · have hb' : b.1 < m.rel.length := by simpa using lt_dec h
          obtain ⟨x, y, sx, sy, sxy⟩ := skn b.1 hb' w.1 k0 hw' hk0
          have hK1 := fm_Know (b.1 : Nat) f
          have hK2 := fm_Know (b.1 : Nat) P
          generalize buildL (nI 9 b.1) [f] = K1 at sx hK1
          generalize buildL (nI 9 b.1) [P] = K2 at sy hK2
          (try conv=>whnf);repeat' (first|(refine ⟨_, (by (conv=>whnf);exact hK1), rfl, ?_⟩;try conv=>whnf)|(refine ⟨_, (by (conv=>whnf);exact sx), rfl, ?_⟩;try conv=>whnf)|fail)
          refine ⟨Unit, fun _ => [(1, .pv (fpv f)), (2, .pv (fpv g)), (3, .ref 0 0), (7, .pv (u64 s)), (8, .pv (.int .i64 0)), (9, .pv (i64 to.1)), (12, .ref 2 0), (13, .pv (.sl (l.map pairPV))), (15, .pv (i64 w.1)), (16, .pv (i64 k0)), (18, .pv (i64 b.1)), (19, .pv (.bool x)), (20, .pv (.int .i64 0)), (21, .pv (.bool y)), (22, .pv (.int .i64 0))], fun _ => 3, fun _ => [(0, .var (cellsM m)), (1, .var (cellsA a)), (2, .var (cellsM p))], ?_, ?_⟩
          · (try conv=>whnf);repeat' (first|(refine lin_plan (by kernel_rfl) ?_;try conv=>whnf)|(refine ⟨_, (by (conv=>whnf);exact hP), rfl, ?_⟩;try conv=>whnf)|(refine ⟨_, (by (conv=>whnf);exact hK2), rfl, ?_⟩;try conv=>whnf)|(refine ⟨_, (by (conv=>whnf);exact sy), rfl, ?_⟩;try conv=>whnf)|fail)
            exact ⟨(), (by refine Wk.of ?_ ?_ rfl rfl rfl<;>repeat' (first|exact trivial|exact WkD.same _|exact WkO.same _ _ rfl|refine ⟨?_, ?_⟩|fail))⟩
          rintro ⟨⟩
          have hc1 : (bif (bif ((0 : Int) != 0) then true else ((0 : Int) != 0)) then true else (bif and64 (shr64 (to.1 : Int) (IntKind.wrap .u64 (b.1 : Int))) 1 == 1 then !(x == y) else false)) = false := by
            rw [wrapU_nat (by omega), bit64_one ht16 (by omega)]
            cases ht : to.1.testBit b.1 with
            | false => rfl
            | true => rw [sxy ht]; cases y <;> rfl
          (try conv=>whnf);repeat' (first|(apply And.intro<;>try conv=>whnf)|(intro h;try conv=>whnf)|apply True.intro|(apply WhenQ.mk;(try conv=>whnf);rotate_left;(try conv=>whnf);rotate_right)|with_reducible assumption|(apply not_of;with_reducible assumption)|(apply and_of<;>first|with_reducible assumption|(apply not_of;with_reducible assumption))|fail)
          · exact wrapU_pos _
          · exact absurd (h.symm.trans hc1) (by decide)
          · exact ⟨⟨b.1 + 1, hb'⟩, by show m.rel.length - (b.1 + 1) < m.rel.length - b.1; omega, (by refine Wk.of ?_ ?_ rfl rfl rfl<;>repeat' (first|exact trivial|exact WkD.same _|exact WkO.same _ _ rfl|refine WkD.int ?_|refine ⟨?_, ?_⟩|(refine wrapA ?_ ?_ ?_;(focus simp;done);(focus (try dsimp only);omega);(focus (try dsimp only);omega))|fail))⟩
        · exact ⟨⟨w.1 + 1, hw'⟩, by show n - (w.1 + 1) < n - w.1; omega, (by refine Wk.of ?_ ?_ rfl rfl rfl<;>repeat' (first|exact trivial|exact WkD.same _|exact WkO.same _ _ rfl|refine WkD.int ?_|refine ⟨?_, ?_⟩|(refine wrapA ?_ ?_ ?_;(focus simp;done);(focus (try dsimp only);omega);(focus (try dsimp only);omega))|fail))⟩
      · (try conv=>whnf);repeat' (first|(apply And.intro<;>try conv=>whnf)|(intro h;first|with_reducible exact nt0 h|try conv=>whnf)|(refine PureFn.dcq (f := 37) rfl ?_;try conv=>whnf)|(refine ⟨_, _, sN, ?_, ?_⟩;(focus first|(refine ⟨?_, ?_, ?_, ?_, ?_, trivial⟩<;>first|exact PLe.refl _|exact PLe.nil)|exact trivial);try conv=>whnf)|fail)
        exact ⟨⟨to.1 + 1, hto⟩, by show 2 ^ m.rel.length - (to.1 + 1) < 2 ^ m.rel.length - to.1; omega, (by refine Wk.of ?_ ?_ rfl rfl rfl<;>repeat' (first|exact trivial|exact WkD.same _|exact WkO.same _ _ rfl|refine WkD.int ?_|refine ⟨?_, ?_⟩|(refine wrapA ?_ ?_ ?_;(focus simp;done);(focus (try dsimp only);omega);(focus (try dsimp only);omega))|fail))⟩
    · exact .refl _
  · refine PureFn.introC [3] mixed (fn := Try.f9) rfl rfl rfl fun M w0 => ?_
    try conv=>whnf
    refine ⟨{ _x : Unit // False }, fun _ => [], fun _ => 0, fun _ => [], ?_, fun ⟨_, h⟩ => h.elim⟩
    (try conv=>whnf);repeat' (first|(apply And.intro<;>try conv=>whnf)|(intro h;try conv=>whnf)|apply True.intro|(apply WhenQ.mk;(try conv=>whnf);rotate_left;(try conv=>whnf);rotate_right)|with_reducible assumption|(apply not_of;with_reducible assumption)|(refine PureFn.dcq (f := 24) rfl ?_;try conv=>whnf)|(refine PureFn.dcq (f := 26) rfl ?_;try conv=>whnf)|(refine ⟨_, _, hL, ?_, ?_⟩;(focus first|(refine ⟨?_, ?_, ?_, trivial⟩<;>first|exact PLe.refl _|exact PLe.nil)|exact trivial);try conv=>whnf)|(refine ⟨_, _, hA, ?_, ?_⟩;(focus first|(refine ⟨trivial⟩<;>first|exact PLe.refl _|exact PLe.nil)|exact trivial);try conv=>whnf)|fail)
    · exact .refl _
    · exfalso
      apply hg
      have h0 : (bif !fitsL m f g then true else ((m.val.map u64).length : Int) == 0) = false := h
      obtain ⟨b1, b2⟩ := or_ff' h0
      have b3 : ¬ ((m.val.map u64).length : Int) = 0 := by simpa using b2
      rw [List.length_map] at b3
      exact ⟨by simpa using b1, by omega⟩
theorem msecr_args (ps : List PV) (hps : TyAll Try.prog 8 Try.f9.params.toList ps) : PureFn Try.prog 9 ps (.bool true) := by
  obtain ⟨p1, r1, rfl, h1, p2, r2, rfl, h2, p3, r3, rfl, h3, rfl⟩ := hps
  obtain ⟨m, hm, hf⟩ := arg_mod (n := 4) h1
  obtain ⟨f, hf2⟩ := arg_nodes (n := 5) h2
  obtain ⟨g, hg2⟩ := arg_nodes (n := 5) h3
  exact (msecr_pure m f g hf).le ⟨hm, hf2, hg2, trivial⟩
end Go.Proofs.Ytnbnkgcjgfmlcaa
