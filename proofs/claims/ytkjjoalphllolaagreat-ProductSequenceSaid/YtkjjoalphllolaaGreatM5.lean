/- Parts of the proof, one after the other: Formulas: Fits of both sides. Formulas: build. Formulas: constructors, Subs. Formulas: the canonical list depends on the tree alone (plain). Formulas: canonical lists and constructors by their trees (plain). Formulas: One, Unary, Binary, short of the reference. Formulas: the examples of the laws. Belief sets: bits of numbers, sets of valuations (plain). Belief sets: distances (plain). Belief sets: the value of a formula at a valuation (plain). Action models: their values; errors, relations and models of usual messages (plain). Messages: errors and perceptions of the program walked. Messages: Change of the program walked; Public and Skip of action models. Messages: Look of the program walked. Messages: the comparisons of action models with themselves, walked. Action models: errors (plain). Action models: Check of the program walked. Action models: the conditions of the logics, of the program, walked. Action models: Group, Meet and Value of the program walked. Action models: Same of the program walked. Action models: what can be reached from an event (plain). Action models: Generated of the program walked. Action models: the examples of the law walked. -/
import Derived.Test.YtkjjoalphllolaaGreatM4
set_option maxRecDepth 100000
set_option maxHeartbeats 4000000
namespace Go.Proofs.YtkjjoalphllolaaGreat
open Go Go.Dv

def belowB (mask n : Int) : Bool := bif decide (n ≥ 31) then true else shr64 mask (max n 0) == 0
def fits (f : List Nd) (a n : Int) : Bool := bif bif check f == 0 then belowB (agents f) a else false then belowB (facts f) n else false

theorem below_iff {mask k : Nat} (hm : mask < 2 ^ k) (hk : k ≤ 31) (n : Int) : belowB mask n = true ↔ ∀ j : Nat, j < k → (mask >>> j) % 2 = 1 → (j : Int) < n := by
  unfold belowB
  by_cases hn : n ≥ 31
  · simp only [hn, decide_true, cond_true, true_iff]
    intro j hj _; omega
  · have e : decide (n ≥ 31) = false := by simpa using hn
    rw [e, cond_false]
    obtain ⟨m, hmm⟩ : ∃ m : Nat, max n 0 = (m : Int) := ⟨(max n 0).toNat, by omega⟩
    rw [hmm, shr64_nat _ _ (by omega)]
    have e2 : (((mask >>> m : Nat) : Int) == 0) = true ↔ mask >>> m = 0 := by rw [beq_iff_eq]; exact Int.natCast_eq_zero
    rw [e2]
    have tb : ∀ j, (mask >>> j) % 2 = 1 ↔ mask.testBit j = true := by
      intro j; rw [Nat.testBit_eq_decide_div_mod_eq, Nat.shiftRight_eq_div_pow]; simp
    constructor
    · intro h0 j _ hb
      rcases Nat.lt_or_ge j m with h | h
      · omega
      · have : mask >>> j = 0 := by rw [show j = m + (j - m) by omega, Nat.shiftRight_add, h0, Nat.zero_shiftRight]
        rw [this] at hb; simp at hb
    · intro h
      refine Nat.eq_of_testBit_eq fun i => ?_
      rw [Nat.testBit_shiftRight, Nat.zero_testBit]
      rcases Nat.lt_or_ge (m + i) k with hlt | hge
      · cases hb : mask.testBit (m + i) with
        | false => rfl
        | true => have := h (m + i) hlt ((tb _).2 hb); omega
      · exact Nat.testBit_lt_two_pow (Nat.lt_of_lt_of_le hm (Nat.pow_le_pow_right (by decide) hge))

theorem fm_below (mask n : Int) : PureFn Tryz.prog 88 [.int .i64 mask, .int .i64 n] (.bool (belowB mask n)) := by
  refine PureFn.intro mixed (fn := Tryz.f88) rfl rfl rfl fun M w0 => ?_
  (try conv=>whnf);repeat' (first|(apply And.intro<;>try conv=>whnf)|(intro h;try conv=>whnf)|apply True.intro|(apply WhenQ.mk;(try conv=>whnf);rotate_left;(try conv=>whnf);rotate_right)|with_reducible assumption|(apply not_of;with_reducible assumption)|fail)
  · show 0 ≤ max n 0
    omega
  · exact .refl _
theorem fm_Fits (f : List Nd) (a n : Int) : PureFn Tryz.prog 67 [fpv f, .int .i64 a, .int .i64 n] (.bool (fits f a n)) := by
  refine PureFn.intro mixed (fn := Tryz.f67) rfl rfl rfl fun M w0 => ?_
  (try conv=>whnf);repeat' (first|(apply And.intro<;>try conv=>whnf)|(intro h;try conv=>whnf)|apply True.intro|(apply WhenQ.mk;(try conv=>whnf);rotate_left;(try conv=>whnf);rotate_right)|with_reducible assumption|(refine PureFn.dcq (f := 65) rfl ?_;try conv=>whnf)|(refine PureFn.dcq (f := 89) rfl ?_;try conv=>whnf)|(refine PureFn.dcq (f := 90) rfl ?_;try conv=>whnf)|(refine PureFn.dcq (f := 88) rfl ?_;try conv=>whnf)|(refine ⟨_, _, fm_Check ?_, ?_, ?_⟩;rotate_left 1;(focus first|(refine ⟨?_, trivial⟩<;>first|exact PLe.refl _|exact PLe.nil)|exact trivial);try conv=>whnf)|(refine ⟨_, _, fm_Agents ?_, ?_, ?_⟩;rotate_left 1;(focus first|(refine ⟨?_, trivial⟩<;>first|exact PLe.refl _|exact PLe.nil)|exact trivial);try conv=>whnf)|(refine ⟨_, _, fm_Facts ?_, ?_, ?_⟩;rotate_left 1;(focus first|(refine ⟨?_, trivial⟩<;>first|exact PLe.refl _|exact PLe.nil)|exact trivial);try conv=>whnf)|(refine ⟨_, _, fm_below ?_ ?_, ?_, ?_⟩;rotate_left 2;(focus first|(refine ⟨?_, ?_, trivial⟩<;>first|exact PLe.refl _|exact PLe.nil)|exact trivial);try conv=>whnf)|fail)
  exact .refl _
theorem bit_test {m i : Nat} {a : Int} (hi : i < 31) : (bif (shr64 (m : Int) (i : Int)).tmod 2 == 1 then decide ((i : Int) ≥ a) else false) = decide ((m >>> i) % 2 = 1 ∧ ¬ (i : Int) < a) := by
  rw [shr64_nat _ _ (by omega)]
  have e : (((m >>> i : Nat) : Int).tmod 2 == 1) = decide ((m >>> i) % 2 = 1) := by
    rw [Int.tmod_eq_emod_of_nonneg (Int.natCast_nonneg _), Bool.eq_iff_iff]
    rw [beq_iff_eq, decide_eq_true_iff, show (((m >>> i : Nat) : Int) % 2) = ((m >>> i % 2 : Nat) : Int) from rfl]
    omega
  rw [e]
  cases h : decide ((m >>> i) % 2 = 1) <;> simp_all
theorem ref_Fits (f : List Nd) (a n : Int) : PureFn Tryz.prog 84 [fpv f, .int .i64 a, .int .i64 n] (.bool (fits f a n)) := by
  refine PureFn.intro mixed (fn := Tryz.f84) rfl rfl rfl fun M w0 => ?_
  (try conv=>whnf);repeat' (first|(apply And.intro<;>try conv=>whnf)|(intro h;try conv=>whnf)|(refine PureFn.dcq (f := 82) rfl ?_;try conv=>whnf)|(refine ⟨_, _, ref_Check ?_, ?_, ?_⟩;rotate_left 1;(focus first|(refine ⟨?_, trivial⟩<;>first|exact PLe.refl _|exact PLe.nil)|exact trivial);try conv=>whnf)|fail)
  · have hc : (check f == 0) = false := by simpa [bne] using h
    exact le_bool (by rw [fits, hc]; rfl)
  · have hc : (check f == 0) = true := by simpa [bne] using h
    have fe : fits f a n = (belowB (agents f) a && belowB (facts f) n) := by rw [fits, hc]; cases belowB (agents f) a <;> rfl
    have ba := below_iff (agents_lt f) (by decide) a
    have bn := below_iff (facts_lt f) (by decide) n
    refine ⟨{ i : Nat // i ≤ 4 ∧ ∀ j : Nat, j < i → (agents f >>> j) % 2 = 1 → (j : Int) < a }, fun i => [(0, .pv (fpv f)), (1, .pv (.int .i64 a)), (2, .pv (.int .i64 n)), (7, .pv (.int .i64 (i.1 : Nat)))], fun _ => 0,
      fun i => [], fun i => 4 - i.1, ⟨⟨0, Nat.zero_le _, fun j hj => absurd hj (Nat.not_lt_zero j)⟩, (by refine Wk.of ?_ ?_ rfl rfl rfl<;>repeat' (first|exact trivial|exact WkD.same _|refine ⟨?_, ?_⟩|fail))⟩, ?_⟩
    rintro ⟨i, hi, hinv⟩
    (try conv=>whnf);repeat' (first|(apply And.intro<;>try conv=>whnf)|(intro h;first|exact litz h rfl|try conv=>whnf)|apply True.intro|(apply WhenQ.mk;(try conv=>whnf);rotate_left;(try conv=>whnf);rotate_right)|with_reducible assumption|(refine PureFn.dcq (f := 107) rfl ?_;try conv=>whnf)|(refine ⟨_, _, ref_Agents ?_, ?_, ?_⟩;rotate_left 1;(focus first|(refine ⟨?_, trivial⟩<;>first|exact PLe.refl _|exact PLe.nil)|exact trivial);try conv=>whnf)|fail)
    · have hi' : i < 4 := by simp at h; omega
      exact Int.natCast_nonneg i
    · rename_i hlt
      have hi' : i < 4 := by simp at hlt; omega
      have h2 := (bit_test (m := agents f) (i := i) (a := a) (by omega)).symm.trans h
      have h3 := of_decide_eq_true h2
      refine le_bool ?_
      cases hb : belowB (agents f) a with
      | false => rw [fe, hb]; rfl
      | true => exact absurd (ba.1 hb i hi' h3.1) h3.2
    · rename_i hlt
      have hi' : i < 4 := by simp at hlt; omega
      have h2 := (bit_test (m := agents f) (i := i) (a := a) (by omega)).symm.trans h
      have h3 := of_decide_eq_false h2
      refine ⟨⟨i + 1, hi', fun j hj hb => ?_⟩, by show 4 - (i + 1) < 4 - i; omega, (by refine Wk.of ?_ ?_ rfl rfl rfl<;>repeat' (first|exact trivial|exact WkD.same _|refine WkD.int ?_|refine ⟨?_, ?_⟩|(refine wrapA ?_ ?_ ?_;(focus simp;done);(focus (try dsimp only);omega);(focus (try dsimp only);omega))|fail))⟩
      by_cases e : j = i
      · subst e
        by_cases hh : (j : Int) < a
        · exact hh
        · exact absurd ⟨hb, hh⟩ h3
      · exact hinv j (by omega) hb
    · have hi' : i = 4 := by simp at *; omega
      subst hi'
      have hA : belowB (agents f) a = true := ba.2 hinv
      rw [hA, Bool.true_and] at fe
      refine ⟨{ i : Nat // i ≤ 8 ∧ ∀ j : Nat, j < i → (facts f >>> j) % 2 = 1 → (j : Int) < n }, fun i => [(0, .pv (fpv f)), (1, .pv (.int .i64 a)), (2, .pv (.int .i64 n)), (8, .pv (.int .i64 (i.1 : Nat)))], fun _ => 0,
        fun i => [], fun i => 8 - i.1, ⟨⟨0, Nat.zero_le _, fun j hj => absurd hj (Nat.not_lt_zero j)⟩, (by refine Wk.of ?_ ?_ rfl rfl rfl<;>repeat' (first|exact trivial|exact WkD.same _|refine ⟨?_, ?_⟩|fail))⟩, ?_⟩
      rintro ⟨i, hi, hinv⟩
      (try conv=>whnf);repeat' (first|(apply And.intro<;>try conv=>whnf)|(intro h;first|exact litz h rfl|try conv=>whnf)|apply True.intro|(apply WhenQ.mk;(try conv=>whnf);rotate_left;(try conv=>whnf);rotate_right)|with_reducible assumption|(refine PureFn.dcq (f := 108) rfl ?_;try conv=>whnf)|(refine ⟨_, _, ref_Facts ?_, ?_, ?_⟩;rotate_left 1;(focus first|(refine ⟨?_, trivial⟩<;>first|exact PLe.refl _|exact PLe.nil)|exact trivial);try conv=>whnf)|fail)
      · exact Int.natCast_nonneg i
      · rename_i hlt
        have hi' : i < 8 := by simp at hlt; omega
        have h2 := (bit_test (m := facts f) (i := i) (a := n) (by omega)).symm.trans h
        have h3 := of_decide_eq_true h2
        refine le_bool ?_
        cases hb : belowB (facts f) n with
        | false => rw [fe, hb]
        | true => exact absurd (bn.1 hb i hi' h3.1) h3.2
      · rename_i hlt
        have hi' : i < 8 := by simp at hlt; omega
        have h2 := (bit_test (m := facts f) (i := i) (a := n) (by omega)).symm.trans h
        have h3 := of_decide_eq_false h2
        refine ⟨⟨i + 1, hi', fun j hj hb => ?_⟩, by show 8 - (i + 1) < 8 - i; omega, (by refine Wk.of ?_ ?_ rfl rfl rfl<;>repeat' (first|exact trivial|exact WkD.same _|refine WkD.int ?_|refine ⟨?_, ?_⟩|(refine wrapA ?_ ?_ ?_;(focus simp;done);(focus (try dsimp only);omega);(focus (try dsimp only);omega))|fail))⟩
        by_cases e : j = i
        · subst e
          by_cases hh : (j : Int) < n
          · exact hh
          · exact absurd ⟨hb, hh⟩ h3
        · exact hinv j (by omega) hb
      · have hi' : i = 8 := by simp at *; omega
        subst hi'
        exact le_bool (by rw [fe, bn.2 hinv])
end Go.Proofs.YtkjjoalphllolaaGreat
set_option maxRecDepth 100000
set_option maxHeartbeats 4000000
namespace Go.Proofs.YtkjjoalphllolaaGreat
open Go Go.Dv

def shX (k : Nat) (n : Nd) : Nd := bif usesX n.op then { n with x := n.x + k } else n
def shN (k : Nat) (n : Nd) : Nd := bif usesY n.op then { shX k n with y := n.y + k } else shX k n
def bstep (k : Nat) (s : Nd × List Nd) (o : List Nd) : Nd × List Nd :=
  (bif (k : Int) == 0 then { s.1 with x := ((s.2 ++ (comp o).map (shN s.2.length)).length : Int) - 1 } else { s.1 with y := ((s.2 ++ (comp o).map (shN s.2.length)).length : Int) - 1 }, s.2 ++ (comp o).map (shN s.2.length))
def bfold : Nat → List (List Nd) → Nd × List Nd → Option (Nd × List Nd)
  | _, [], s => some s
  | k, o :: r, s => bif check o != 0 then none else bfold (k + 1) r (bstep k s o)
def bfin (s : Nd × List Nd) : List Nd :=
  bif nodeErr s.1 s.2.length != 0 then [] else bif decide (((canon (s.2 ++ [s.1]) s.2.length).length : Int) > 200) then [] else canon (s.2 ++ [s.1]) s.2.length
def buildL (x : Nd) (l : List (List Nd)) : List Nd := match bfold 0 l (x, []) with | none => [] | some s => bfin s

theorem shX_y (k : Nat) (n : Nd) : (shX k n).y = n.y := by unfold shX; cases usesX n.op <;> rfl
theorem sh_ok {n : Nd} {i : Int} {k : Nat} (h : OkNd n i) : OkNd (shN k n) (k + i) := by
  have e1 : (shN k n).op = n.op := by unfold shN shX; cases usesX n.op <;> cases usesY n.op <;> rfl
  have e2 : (shN k n).i = n.i := by unfold shN shX; cases usesX n.op <;> cases usesY n.op <;> rfl
  have e3 : (shN k n).e = n.e := by unfold shN shX; cases usesX n.op <;> cases usesY n.op <;> rfl
  have e4 : (shN k n).g = n.g := by unfold shN shX; cases usesX n.op <;> cases usesY n.op <;> rfl
  have e5 : (shN k n).x = bif usesX n.op then n.x + k else n.x := by unfold shN shX; cases usesX n.op <;> cases usesY n.op <;> rfl
  have e6 : (shN k n).y = bif usesY n.op then n.y + k else n.y := by unfold shN shX; cases usesX n.op <;> cases usesY n.op <;> rfl
  constructor
  · rw [e1]; exact h.op
  · rw [e1, e5]; intro u; rw [u]; have := h.x u; simp only [cond_true]; omega
  · rw [e1, e5]; intro u; rw [u]; exact h.nox u
  · rw [e1, e6]; intro u; rw [u]; have := h.y u; simp only [cond_true]; omega
  · rw [e1, e6]; intro u; rw [u]; exact h.noy u
  · rw [e1, e2]; exact h.fact
  · rw [e1, e2]; exact h.agent
  · rw [e1, e2, e3]; exact h.act
  · rw [e1, e2]; exact h.noi
  · rw [e1, e3]; exact h.noe
  · rw [e1, e4]; exact h.group
  · rw [e1, e4]; exact h.nog
theorem okl_append {F c : List Nd} (hF : Okl F) (hc : Okl c) : Okl (F ++ c.map (shN F.length)) := by
  intro i x hx
  rcases Nat.lt_or_ge i F.length with h | h
  · rw [List.getElem?_append_left h] at hx; exact hF i x hx
  · rw [List.getElem?_append_right h, List.getElem?_map] at hx
    cases hy : c[i - F.length]? with
    | none => rw [hy] at hx; simp at hx
    | some y =>
      rw [hy] at hx; simp at hx; subst hx
      have := sh_ok (k := F.length) (hc _ y hy)
      rwa [show ((F.length : Int) + ((i - F.length : Nat) : Int)) = (i : Int) by omega] at this
theorem okl_snoc {F : List Nd} {x : Nd} (hF : Okl F) (hx : OkNd x F.length) : Okl (F ++ [x]) := by
  intro i y hy
  rcases Nat.lt_or_ge i F.length with h | h
  · rw [List.getElem?_append_left h] at hy; exact hF i y hy
  · rw [List.getElem?_append_right h] at hy
    have : i = F.length := by
      have := (List.getElem?_eq_some_iff.1 hy).1
      simp at this; omega
    subst this
    simp at hy; subst hy; exact hx

def shL (F c : List Nd) (j : Nat) : List PV := F.map Nd.pv ++ (c.take j).map fun n => (shN F.length n).pv
theorem shL_zero (F c : List Nd) : F.map Nd.pv = shL F c 0 := by simp [shL]
theorem shL_succ {F c : List Nd} {j : Nat} (h : j < c.length) : shL F c j ++ [(shN F.length c[j]).pv] = shL F c (j + 1) := by
  simp only [shL]
  rw [List.take_succ_eq_append_getElem h, List.map_append, List.append_assoc]; rfl
theorem shL_end (F c : List Nd) : shL F c c.length = (F ++ c.map (shN F.length)).map Nd.pv := by
  simp [shL, List.map_append, List.map_map, Function.comp_def]
theorem shL_len {F c : List Nd} {j : Nat} (h : j ≤ c.length) : (shL F c j).length = F.length + j := by
  simp only [shL, List.length_append, List.length_map, List.length_take]; omega

theorem bstep_t {k : Nat} {y : Nd} {F o : List Nd} (h : ((k : Int) == 0) = true) : bstep k (y, F) o = ({ y with x := ((F ++ (comp o).map (shN F.length)).length : Int) - 1 }, F ++ (comp o).map (shN F.length)) := by rw [bstep, h]; rfl
theorem bstep_f {k : Nat} {y : Nd} {F o : List Nd} (h : ((k : Int) == 0) = false) : bstep k (y, F) o = ({ y with y := ((F ++ (comp o).map (shN F.length)).length : Int) - 1 }, F ++ (comp o).map (shN F.length)) := by rw [bstep, h]; rfl
theorem fm_build (x : Nd) (l : List (List Nd)) (hl : l.length ≤ 2) : PureFn Tryz.prog 53 [x.pv, .sl (l.map fpv)] (fpv (buildL x l)) := by
  refine PureFn.introC [14, 16] mixed (fn := Tryz.f53) rfl rfl rfl fun M w0 => ?_
  try conv=>whnf
  refine ⟨{ q : Nat × Nd × List Nd // q.1 ≤ l.length ∧ bfold 0 l (x, []) = bfold q.1 (l.drop q.1) q.2 ∧ Okl q.2.2 ∧ q.2.2.length ≤ 200 * q.1 },
    fun q => [(2, .ref 0 0), (5, .buf 1 (q.1.2.2.map Nd.pv).length), (14, .pv (.sl (l.map fpv))), (15, .pv (.int .i64 (l.map fpv).length)), (16, .pv (.int .i64 (q.1.1 : Nat)))], fun _ => 2,
    fun q => [(0, .var q.1.2.1.dvs), (1, .arr 6 (q.1.2.2.map Nd.pv))], fun q => l.length - q.1.1, ⟨⟨(0, x, []), Nat.zero_le _, rfl, (fun i x h => by simp at h), Nat.zero_le _⟩, (by refine Wk.of ?_ ?_ rfl rfl rfl<;>repeat' (first|exact trivial|exact WkD.same _|exact WkO.same _ _ rfl|exact WkD.new' rfl rfl rfl|exact WkO.new _ _ rfl|exact rfl|refine ⟨?_, ?_⟩|fail))⟩, ?_⟩
  rintro ⟨⟨k, y, F⟩, hk, he, hF, hFl⟩
  simp only at hk he hF hFl
  (try conv=>whnf);repeat' (first|(apply And.intro<;>try conv=>whnf)|(intro h;try conv=>whnf)|(apply infoT;rfl)|fail)
  · have hk' : k < l.length := by simpa using h
    obtain ⟨o, ho⟩ : ∃ o, l[k]? = some o := ⟨_, List.getElem?_eq_getElem hk'⟩
    have hd : l.drop k = o :: l.drop (k + 1) := by
      rw [List.drop_eq_getElem_cons hk']
      rw [List.getElem?_eq_getElem hk'] at ho
      rw [Option.some.inj ho]
    rw [hd] at he
    have hol := comp_len o
    (try conv=>whnf);repeat' (first|(apply And.intro<;>try conv=>whnf)|(intro h;try conv=>whnf)|(refine ⟨_, _, rfl, idx_map (by with_reducible assumption), rfl, ?_⟩;try conv=>whnf)|(refine PureFn.dcq (f := 65) rfl ?_;try conv=>whnf)|(refine PureFn.dcq (f := 38) rfl ?_;try conv=>whnf)|(refine ⟨_, _, fm_Check ?_, ?_, ?_⟩;rotate_left 1;(focus first|(refine ⟨?_, trivial⟩<;>first|exact PLe.refl _|exact PLe.nil)|exact trivial);try conv=>whnf)|(refine ⟨_, _, fm_Compact ?_, ?_, ?_⟩;rotate_left 1;(focus first|(refine ⟨?_, trivial⟩<;>first|exact PLe.refl _|exact PLe.nil)|exact trivial);try conv=>whnf)|fail)
    · have hb : bfold 0 l (x, []) = none := by rw [he]; simp only [bfold, h]; rfl
      have : buildL x l = [] := by rw [buildL, hb]
      rw [this]; exact .nil
    · have hb : bfold 0 l (x, []) = bfold (k + 1) (l.drop (k + 1)) (bstep k (y, F) o) := by rw [he]; simp only [bfold, h]; rfl
      have hz := shL_zero F (comp o)
      refine ⟨{ j : Nat // j ≤ (comp o).length }, fun j => [(2, .ref 0 0), (5, .buf 1 (shL F (comp o) j.1).length), (6, .pv (.int .i64 (k : Nat))), (8, .pv (.int .i64 (F.map Nd.pv).length)), (14, .pv (.sl (l.map fpv))), (15, .pv (.int .i64 (l.map fpv).length)), (16, .pv (.int .i64 (k : Nat))), (27, .pv (fpv (comp o))), (28, .pv (.int .i64 ((comp o).map Nd.pv).length)), (29, .pv (.int .i64 (j.1 : Nat)))], fun _ => 2,
        fun j => [(0, .var y.dvs), (1, .arr 6 (shL F (comp o) j.1))], fun j => (comp o).length - j.1, ⟨⟨0, Nat.zero_le _⟩, (by refine Wk.of ?_ ?_ rfl rfl rfl<;>repeat' (first|exact trivial|exact WkD.same _|exact WkO.same _ _ rfl|exact WkD.eq (congrArg (fun z : List PV => DV.buf _ z.length) hz)|exact WkO.same _ _ (congrArg (fun z => some (DObj.arr _ z)) hz)|refine ⟨?_, ?_⟩|fail))⟩, ?_⟩
      rintro ⟨j, hj⟩
      (try conv=>whnf);repeat' (first|(apply And.intro<;>try conv=>whnf)|(intro h;try conv=>whnf)|(apply infoT;rfl)|fail)
      · have hj' : j < (comp o).length := by simpa using h
        have hn : (comp o)[j]? = some (comp o)[j] := List.getElem?_eq_getElem hj'
        have hs := shL_succ (F := F) hj'
        have hok := comp_okl o j _ hn
        generalize (comp o)[j] = n at hn hs hok
        (try conv=>whnf);repeat' (first|(refine ⟨_, _, rfl, idx_map (by with_reducible assumption), rfl, ?_⟩;try conv=>whnf)|(refine PureFn.dcq (f := 69) rfl ?_;try conv=>whnf)|(refine ⟨_, _, fm_uses ?_, ?_, ?_⟩;rotate_left 1;(focus first|(refine ⟨?_, trivial⟩<;>first|exact PLe.refl _|exact PLe.nil)|exact trivial);try conv=>whnf)|fail)
        refine ⟨{ z : Nd // z = shX F.length n }, fun z => [(2, .ref 0 0), (5, .buf 1 (shL F (comp o) j).length), (6, .pv (.int .i64 (k : Nat))), (8, .pv (.int .i64 (F.map Nd.pv).length)), (14, .pv (.sl (l.map fpv))), (15, .pv (.int .i64 (l.map fpv).length)), (16, .pv (.int .i64 (k : Nat))), (27, .pv (fpv (comp o))), (28, .pv (.int .i64 ((comp o).map Nd.pv).length)), (29, .pv (.int .i64 (j : Nat))), (10, .ref 2 0), (11, .ref 3 0)], fun _ => 4,
          fun z => [(0, .var y.dvs), (1, .arr 6 (shL F (comp o) j)), (2, .var z.1.dvs), (3, .var (usesDvs n.op))], ?_, ?_⟩
        · (try conv=>whnf);repeat' (first|(apply And.intro<;>try conv=>whnf)|(intro h;try conv=>whnf)|fail)
          · have := hok.x h
            refine ⟨⟨{ n with x := n.x + F.length }, by rw [shX, h]; rfl⟩, ?_⟩
            (refine Wk.of ?_ ?_ rfl rfl rfl<;>repeat' (first|exact trivial|exact WkD.same _|exact WkO.same _ _ rfl|refine WkD.int ?_|refine WkO.vars rfl ?_|refine ⟨?_, ?_⟩|fail))
            exact wrapA (by simp) (by rw [List.length_map]; omega) (by rw [List.length_map]; omega)
          · exact ⟨⟨n, by rw [shX, h]; rfl⟩, (by refine Wk.of ?_ ?_ rfl rfl rfl<;>repeat' (first|exact trivial|exact WkD.same _|exact WkO.same _ _ rfl|refine ⟨?_, ?_⟩|fail))⟩
        · rintro ⟨z, rfl⟩
          try conv=>whnf
          refine ⟨{ z : Nd // z = shN F.length n }, fun z => [(2, .ref 0 0), (5, .buf 1 (shL F (comp o) j).length), (6, .pv (.int .i64 (k : Nat))), (8, .pv (.int .i64 (F.map Nd.pv).length)), (14, .pv (.sl (l.map fpv))), (15, .pv (.int .i64 (l.map fpv).length)), (16, .pv (.int .i64 (k : Nat))), (27, .pv (fpv (comp o))), (28, .pv (.int .i64 ((comp o).map Nd.pv).length)), (29, .pv (.int .i64 (j : Nat))), (10, .ref 2 0)], fun _ => 3,
            fun z => [(0, .var y.dvs), (1, .arr 6 (shL F (comp o) j)), (2, .var z.1.dvs)], ?_, ?_⟩
          · (try conv=>whnf);repeat' (first|(apply And.intro<;>try conv=>whnf)|(intro h;try conv=>whnf)|fail)
            · have := hok.y h
              refine ⟨⟨{ shX F.length n with y := n.y + F.length }, by rw [shN, h]; rfl⟩, ?_⟩
              (refine Wk.of ?_ ?_ rfl rfl rfl<;>repeat' (first|exact trivial|exact WkD.same _|exact WkO.same _ _ rfl|refine WkD.int ?_|refine WkO.vars rfl ?_|refine ⟨?_, ?_⟩|fail))
              refine (congrArg (fun v => IntKind.wrap .i64 (v + ((F.map Nd.pv).length : Int))) (shX_y F.length n)).trans ?_
              exact wrapA (by simp) (by rw [List.length_map]; omega) (by rw [List.length_map]; omega)
            · exact ⟨⟨shX F.length n, by rw [shN, h]; rfl⟩, (by refine Wk.of ?_ ?_ rfl rfl rfl<;>repeat' (first|exact trivial|exact WkD.same _|exact WkO.same _ _ rfl|refine ⟨?_, ?_⟩|fail))⟩
          · rintro ⟨z, rfl⟩
            (try conv=>whnf);repeat' (first|(apply And.intro<;>try conv=>whnf)|(apply cellsI;rfl)|(apply szI;rfl)|fail)
            · show (shL F (comp o) j).length + 1 ≤ 4294967296
              rw [shL_len hj]; omega
            · exact ⟨⟨j + 1, hj'⟩, by show (comp o).length - (j + 1) < (comp o).length - j; omega, (by refine Wk.of ?_ ?_ rfl rfl rfl<;>repeat' (first|exact trivial|exact WkD.same _|exact WkO.same _ _ rfl|exact WkD.eq (congrArg (fun z : List PV => DV.buf _ z.length) hs)|exact WkO.same _ _ (congrArg (fun z => some (DObj.arr _ z)) hs)|refine WkD.int ?_|refine ⟨?_, ?_⟩|(refine wrapA ?_ ?_ ?_;(focus simp;done);(focus (try dsimp only);omega);(focus (try dsimp only);omega))|fail))⟩
      · have hs := bstep_t (y := y) (F := F) (o := o) h
        have hj' : j = (comp o).length := by simp at *; omega
        subst hj'
        have hse := shL_end F (comp o)
        rw [hs] at hb
        have hG := okl_append hF (comp_okl o)
        have hGl : (F ++ (comp o).map (shN F.length)).length ≤ 200 * (k + 1) := by rw [List.length_append, List.length_map]; omega
        generalize (F ++ (comp o).map (shN F.length)) = G at hse hb hG hGl
        have hGn : ((shL F (comp o) (comp o).length).length : Int) = G.length := by rw [hse, List.length_map]
        refine ⟨⟨(k + 1, { y with x := (G.length : Int) - 1 }, G), hk', hb, hG, hGl⟩, by show l.length - (k + 1) < l.length - k; omega, ?_⟩
        (refine Wk.of ?_ ?_ rfl rfl rfl<;>repeat' (first|exact trivial|exact WkD.same _|exact WkD.eq (congrArg (fun z : List PV => DV.buf _ z.length) hse)|exact WkO.same _ _ (congrArg (fun z => some (DObj.arr _ z)) hse)|refine WkD.int ?_|refine WkO.vars rfl ?_|refine ⟨?_, ?_⟩|(refine wrapA ?_ ?_ ?_;(focus simp;done);(focus (try dsimp only);omega);(focus (try dsimp only);omega))|fail))
        exact (congrArg (fun z : Int => IntKind.wrap .i64 (z - 1)) hGn).trans (wrapA rfl (by omega) (by omega))
      · have hs := bstep_f (y := y) (F := F) (o := o) h
        have hj' : j = (comp o).length := by simp at *; omega
        subst hj'
        have hse := shL_end F (comp o)
        rw [hs] at hb
        have hG := okl_append hF (comp_okl o)
        have hGl : (F ++ (comp o).map (shN F.length)).length ≤ 200 * (k + 1) := by rw [List.length_append, List.length_map]; omega
        generalize (F ++ (comp o).map (shN F.length)) = G at hse hb hG hGl
        have hGn : ((shL F (comp o) (comp o).length).length : Int) = G.length := by rw [hse, List.length_map]
        refine ⟨⟨(k + 1, { y with y := (G.length : Int) - 1 }, G), hk', hb, hG, hGl⟩, by show l.length - (k + 1) < l.length - k; omega, ?_⟩
        (refine Wk.of ?_ ?_ rfl rfl rfl<;>repeat' (first|exact trivial|exact WkD.same _|exact WkD.eq (congrArg (fun z : List PV => DV.buf _ z.length) hse)|exact WkO.same _ _ (congrArg (fun z => some (DObj.arr _ z)) hse)|refine WkD.int ?_|refine WkO.vars rfl ?_|refine ⟨?_, ?_⟩|(refine wrapA ?_ ?_ ?_;(focus simp;done);(focus (try dsimp only);omega);(focus (try dsimp only);omega))|fail))
        exact (congrArg (fun z : Int => IntKind.wrap .i64 (z - 1)) hGn).trans (wrapA rfl (by omega) (by omega))
  · have hk' : k = l.length := by simp at *; omega
    subst hk'
    rw [List.drop_length] at he
    have hbl : buildL x l = bfin (y, F) := by rw [buildL, he]; rfl
    rw [hbl]
    rw [bfin]
    simp only
    have hne := fm_nodeError y (F.map Nd.pv).length
    have hFl' : F.length ≤ 400 := by omega
    (try conv=>whnf);repeat' (first|(apply And.intro<;>try conv=>whnf)|(intro h;try conv=>whnf)|(apply cellsI;rfl)|(apply szI;rfl)|(refine PureFn.dcq (f := 70) rfl ?_;try conv=>whnf)|(refine ⟨_, _, hne, ?_, ?_⟩;(focus first|(refine ⟨?_, ?_, trivial⟩<;>first|exact PLe.refl _|exact PLe.nil)|exact trivial);try conv=>whnf)|fail)
    · rw [List.length_map] at h
      rw [h]; exact .nil
    · show (F.map Nd.pv).length + 1 ≤ 4294967296
      rw [List.length_map]; omega
    · rw [List.length_map] at h
      have hok : OkNd y F.length := nodeErr_ok.1 (by simpa using h)
      have hcp : PureFn Tryz.prog 68 [.sl (F.map Nd.pv ++ [y.pv]), .int .i64 ((F.map Nd.pv).length : Int)] (fpv (canon (F ++ [y]) F.length)) := by
        have := fm_compact (F ++ [y]) F.length (okl_snoc hF hok).wf (by simp) (by simp; omega)
        rw [show fpv (F ++ [y]) = .sl (F.map Nd.pv ++ [y.pv]) from congrArg PV.sl List.map_append] at this
        rw [List.length_map]; exact this
      rw [h]
      (try conv=>whnf);repeat' (first|(apply And.intro<;>try conv=>whnf)|(intro h;try conv=>whnf)|(apply bleI;rfl)|(refine PureFn.dcq (f := 68) rfl ?_;try conv=>whnf)|(refine ⟨_, _, hcp, ?_, ?_⟩;(focus first|(refine ⟨?_, ?_, trivial⟩<;>first|exact PLe.refl _|exact PLe.nil)|exact trivial);try conv=>whnf)|fail)
      · rw [List.length_map] at h
        rw [h]; exact .nil
      · rw [List.length_map] at h
        rw [h]; exact .refl _
end Go.Proofs.YtkjjoalphllolaaGreat
set_option maxRecDepth 100000
set_option maxHeartbeats 4000000
namespace Go.Proofs.YtkjjoalphllolaaGreat
open Go Go.Dv

def n0 (op : Int) : Nd := ⟨op, 0, 0, 0, 0, 0⟩
def nI (op i : Int) : Nd := ⟨op, i, 0, 0, 0, 0⟩
theorem fm_Fact (i : Int) : PureFn Tryz.prog 39 [.int .i64 i] (fpv (buildL (nI 3 i) [])) := by
  refine PureFn.intro mixed (fn := Tryz.f39) rfl rfl rfl fun M w0 => ?_
  have hb := fm_build (nI 3 i) [] (by simp)
  (try conv=>whnf);repeat' (first|(refine PureFn.dcq (f := 53) rfl ?_;try conv=>whnf)|(refine ⟨_, _, hb, ?_, ?_⟩;(focus first|(refine ⟨?_, ?_, trivial⟩<;>first|exact PLe.refl _|exact PLe.nil)|exact trivial);try conv=>whnf)|fail)
  exact .refl _
end Go.Proofs.YtkjjoalphllolaaGreat
namespace Go.Proofs.YtkjjoalphllolaaGreat
open Go Go.Dv

inductive Tr where
  | none
  | nd (op i e g : Int) (x y : Tr)
  deriving DecidableEq

/-- The tree of a node. -/
def trn (f : List Nd) : Nat → Nat → Tr
  | 0, _ => .none
  | n + 1, i => match f[i]? with
    | none => .none
    | some x => .nd x.op x.i x.e x.g (bif usesX x.op then trn f n x.x.toNat else .none) (bif usesY x.op then trn f n x.y.toNat else .none)
def tree (f : List Nd) (i : Nat) : Tr := trn f (i + 1) i
/-- The walk over a tree. -/
def finT : Tr → List Nd → Nat × List Nd
  | .none, out => (0, out)
  | .nd op i e g a b, out => putN (finT b (finT a out).2).2 ⟨op, i, e, g, ((finT a out).1 : Int), ((finT b (finT a out).2).1 : Int)⟩
def Tr.size : Tr → Nat
  | .none => 0
  | .nd _ _ _ _ a b => a.size + b.size + 1

theorem trn_fuel {f : List Nd} (hf : Okl f) : ∀ (n m i : Nat), i < n → i < m → trn f n i = trn f m i
  | 0, _, i, h, _ => by omega
  | _ + 1, 0, i, _, h => by omega
  | n + 1, m + 1, i, hn, hm => by
    simp only [trn]
    cases hx : f[i]? with
    | none => rfl
    | some x =>
      have ok := hf i x hx
      simp only
      have e1 : (bif usesX x.op then trn f n x.x.toNat else .none) = (bif usesX x.op then trn f m x.x.toNat else .none) := by
        cases hu : usesX x.op with
        | false => rfl
        | true => have := ok.x hu; exact trn_fuel hf n m x.x.toNat (by omega) (by omega)
      have e2 : (bif usesY x.op then trn f n x.y.toNat else .none) = (bif usesY x.op then trn f m x.y.toNat else .none) := by
        cases hu : usesY x.op with
        | false => rfl
        | true => have := ok.y hu; exact trn_fuel hf n m x.y.toNat (by omega) (by omega)
      rw [e1, e2]
theorem trn_succ {f : List Nd} {n i : Nat} {x : Nd} (hx : f[i]? = some x) : trn f (n + 1) i = .nd x.op x.i x.e x.g (bif usesX x.op then trn f n x.x.toNat else .none) (bif usesY x.op then trn f n x.y.toNat else .none) := by
  simp only [trn, hx]
theorem tree_nd {f : List Nd} (hf : Okl f) {i : Nat} {x : Nd} (hx : f[i]? = some x) :
    tree f i = .nd x.op x.i x.e x.g (bif usesX x.op then tree f x.x.toNat else .none) (bif usesY x.op then tree f x.y.toNat else .none) := by
  have ok := hf i x hx
  have e0 : tree f i = _ := trn_succ (n := i) hx
  rw [e0]
  unfold tree
  have e1 : (bif usesX x.op then trn f i x.x.toNat else .none) = (bif usesX x.op then trn f (x.x.toNat + 1) x.x.toNat else .none) := by
    cases hu : usesX x.op with
    | false => rfl
    | true => have := ok.x hu; exact trn_fuel hf _ _ _ (by omega) (by omega)
  have e2 : (bif usesY x.op then trn f i x.y.toNat else .none) = (bif usesY x.op then trn f (x.y.toNat + 1) x.y.toNat else .none) := by
    cases hu : usesY x.op with
    | false => rfl
    | true => have := ok.y hu; exact trn_fuel hf _ _ _ (by omega) (by omega)
  rw [e1, e2]
theorem trn_append (f t : List Nd) (hf : Okl f) : ∀ (n i : Nat), i < f.length → trn (f ++ t) n i = trn f n i
  | 0, _, _ => rfl
  | n + 1, i, hi => by
    simp only [trn]
    rw [List.getElem?_append_left hi, List.getElem?_eq_getElem hi]
    have ok := hf i _ (List.getElem?_eq_getElem hi)
    generalize f[i] = x at ok
    simp only
    have e1 : (bif usesX x.op then trn (f ++ t) n x.x.toNat else .none) = (bif usesX x.op then trn f n x.x.toNat else .none) := by
      cases hu : usesX x.op with
      | false => rfl
      | true => have := ok.x hu; exact trn_append f t hf n x.x.toNat (by omega)
    have e2 : (bif usesY x.op then trn (f ++ t) n x.y.toNat else .none) = (bif usesY x.op then trn f n x.y.toNat else .none) := by
      cases hu : usesY x.op with
      | false => rfl
      | true => have := ok.y hu; exact trn_append f t hf n x.y.toNat (by omega)
    rw [e1, e2]
theorem tree_append {f t : List Nd} (hf : Okl f) {i : Nat} (hi : i < f.length) : tree (f ++ t) i = tree f i := trn_append f t hf _ _ hi

theorem idx_none {x : Nd} : ∀ {out : List Nd} {i : Nat}, idx x out i = none ↔ x ∉ out
  | [], i => by simp [idx]
  | n :: r, i => by
    simp only [idx, List.mem_cons, not_or]
    by_cases e : n = x
    · rw [if_pos e]; subst e; simp
    · rw [if_neg e, idx_none]
      exact ⟨fun h => ⟨fun q => e q.symm, h⟩, fun h => h.2⟩
theorem idx_of {x : Nd} {out : List Nd} (hn : out.Nodup) {v : Nat} (hv : out[v]? = some x) : idx x out 0 = some v := by
  cases h : idx x out 0 with
  | none => exact absurd (List.mem_iff_getElem?.2 ⟨v, hv⟩) (idx_none.1 h)
  | some k =>
    have h2 := (idx_some h).2
    simp only [Nat.sub_zero] at h2
    obtain ⟨l1, e1⟩ := List.getElem?_eq_some_iff.1 h2
    obtain ⟨l2, e2⟩ := List.getElem?_eq_some_iff.1 hv
    rw [(List.getElem_inj hn).1 (e1.trans e2.symm)]
theorem putN_nodup {out : List Nd} {x : Nd} (hn : out.Nodup) : (putN out x).2.Nodup := by
  unfold putN
  cases h : idx x out 0 with
  | some k => exact hn
  | none =>
    have := idx_none.1 h
    simp only
    rw [List.nodup_append]
    refine ⟨hn, by simp, fun a ha b hb => ?_⟩
    simp at hb; subst hb
    intro e; subst e; exact this ha

/-- A tree that stands in a list already. -/
theorem finT_old {out : List Nd} (ho : Okl out) (hn : out.Nodup) : ∀ (t : Tr) (v : Nat), v < out.length → tree out v = t → finT t out = (v, out)
  | .none, v, hv, ht => by
    rw [tree_nd ho (List.getElem?_eq_getElem hv)] at ht
    cases ht
  | .nd op i e g a b, v, hv, ht => by
    have hx : out[v]? = some out[v] := List.getElem?_eq_getElem hv
    have ok := ho v _ hx
    rw [tree_nd ho hx] at ht
    generalize hxx : out[v] = x at hx ok ht
    simp only [Tr.nd.injEq] at ht
    obtain ⟨h1, h2, h3, h4, ha, hb⟩ := ht
    have fa : finT a out = (x.x.toNat, out) := by
      cases hu : usesX x.op with
      | false => rw [hu] at ha; subst ha; rw [ok.nox hu]; rfl
      | true =>
        rw [hu] at ha
        have := ok.x hu
        exact finT_old ho hn a x.x.toNat (by omega) ha
    have fb : finT b out = (x.y.toNat, out) := by
      cases hu : usesY x.op with
      | false => rw [hu] at hb; subst hb; rw [ok.noy hu]; rfl
      | true =>
        rw [hu] at hb
        have := ok.y hu
        exact finT_old ho hn b x.y.toNat (by omega) hb
    have hz : (⟨op, i, e, g, ((finT a out).1 : Int), ((finT b (finT a out).2).1 : Int)⟩ : Nd) = x := by
      rw [fa]; simp only; rw [fb]
      have p1 : 0 ≤ x.x := by cases hu : usesX x.op with
        | false => rw [ok.nox hu]; exact Int.le_refl 0
        | true => exact (ok.x hu).1
      have p2 : 0 ≤ x.y := by cases hu : usesY x.op with
        | false => rw [ok.noy hu]; exact Int.le_refl 0
        | true => exact (ok.y hu).1
      cases x
      simp only at h1 h2 h3 h4 p1 p2
      subst h1; subst h2; subst h3; subst h4
      simp only [Nd.mk.injEq, true_and]
      exact ⟨by omega, by omega⟩
    simp only [finT]
    rw [hz, fa]; simp only; rw [fb]; simp only
    rw [putN, idx_of hn hx]

structure InvT (f : List Nd) (s : List Nd × List (Nat × Nat)) : Prop where
  ok : Okl s.1
  nodup : s.1.Nodup
  ds : ∀ j v, look j s.2 = some v → v < s.1.length ∧ tree s.1 v = tree f j

structure FinTr (f : List Nd) (s t : List Nd × List (Nat × Nat)) (k : Nat) (T : Tr) : Prop where
  inv : InvT f t
  lt : k < t.1.length
  val : tree t.1 k = T
  ext : ∃ u, t.1 = s.1 ++ u
  eq : finT T s.1 = (k, t.1)

theorem fin_tree {f : List Nd} (hf : Okl f) : ∀ (n i : Nat) (s : List Nd × List (Nat × Nat)), i < n → i < f.length → InvT f s → FinTr f s (fin f n i s).2 (fin f n i s).1 (tree f i)
  | 0, i, s, h, _, _ => by omega
  | n + 1, i, s, hin, hif, hs => by
    cases hl : look i s.2 with
    | some k =>
      simp only [fin, hl]
      obtain ⟨h1, h2⟩ := hs.ds i k hl
      exact ⟨hs, h1, h2, ⟨[], by simp⟩, finT_old hs.ok hs.nodup _ k h1 h2⟩
    | none =>
      have hn : f[i]? = some f[i] := List.getElem?_eq_getElem hif
      generalize hx : f[i] = x at hn
      have hok := hf i x hn
      rw [fin_none hl hn, tree_nd hf hn]
      have hA : InvT f (opA f n x s).2 ∧ (usesX x.op = true → (opA f n x s).1 < (opA f n x s).2.1.length ∧ tree (opA f n x s).2.1 (opA f n x s).1 = tree f x.x.toNat) ∧ (∃ u, (opA f n x s).2.1 = s.1 ++ u) ∧
          finT (bif usesX x.op then tree f x.x.toNat else .none) s.1 = ((opA f n x s).1, (opA f n x s).2.1) := by
        unfold opA
        cases hu : usesX x.op with
        | false => exact ⟨hs, (fun h => by cases h), ⟨[], by simp⟩, rfl⟩
        | true =>
          have := hok.x hu
          have q := fin_tree hf n x.x.toNat s (by omega) (by omega) hs
          exact ⟨q.inv, fun _ => ⟨q.lt, q.val⟩, q.ext, q.eq⟩
      generalize opA f n x s = A at hA ⊢
      obtain ⟨a1, a2, ⟨ua, a3⟩, a4⟩ := hA
      have hB : InvT f (opB f n x A.2).2 ∧ (usesY x.op = true → (opB f n x A.2).1 < (opB f n x A.2).2.1.length ∧ tree (opB f n x A.2).2.1 (opB f n x A.2).1 = tree f x.y.toNat) ∧ (∃ u, (opB f n x A.2).2.1 = A.2.1 ++ u) ∧
          finT (bif usesY x.op then tree f x.y.toNat else .none) A.2.1 = ((opB f n x A.2).1, (opB f n x A.2).2.1) := by
        unfold opB
        cases hu : usesY x.op with
        | false => exact ⟨a1, (fun h => by cases h), ⟨[], by simp⟩, rfl⟩
        | true =>
          have := hok.y hu
          have q := fin_tree hf n x.y.toNat A.2 (by omega) (by omega) a1
          exact ⟨q.inv, fun _ => ⟨q.lt, q.val⟩, q.ext, q.eq⟩
      generalize opB f n x A.2 = B at hB ⊢
      obtain ⟨b1, b2, ⟨ub, b3⟩, b4⟩ := hB
      have hz : OkNd (ndZ x A.1 B.1) B.2.1.length := ndZ_ok hok (fun u => by have := (a2 u).1; rw [b3, List.length_append]; omega) (fun u => (b2 u).1)
      change FinTr f s ((putN B.2.1 (ndZ x A.1 B.1)).2, dput i (putN B.2.1 (ndZ x A.1 B.1)).1 B.2.2) (putN B.2.1 (ndZ x A.1 B.1)).1 _
      obtain ⟨p1, p2, t, p3, _⟩ := putN_spec B.2.1 (ndZ x A.1 B.1)
      have pok := putN_ok b1.ok hz
      have hval : tree (putN B.2.1 (ndZ x A.1 B.1)).2 (putN B.2.1 (ndZ x A.1 B.1)).1 = .nd x.op x.i x.e x.g (bif usesX x.op then tree f x.x.toNat else .none) (bif usesY x.op then tree f x.y.toNat else .none) := by
        rw [tree_nd pok p1, ndZ_op, ndZ_i, ndZ_e, ndZ_g, ndZ_x, ndZ_y]
        congr 1
        · cases hu : usesX x.op with
          | false => rfl
          | true =>
            have := a2 hu
            simp only [cond_true, Int.toNat_natCast]
            rw [p3, tree_append b1.ok (by rw [b3, List.length_append]; omega), b3, tree_append a1.ok this.1]
            exact this.2
        · cases hu : usesY x.op with
          | false => rfl
          | true =>
            have := b2 hu
            simp only [cond_true, Int.toNat_natCast]
            rw [p3, tree_append b1.ok this.1]
            exact this.2
      refine ⟨⟨pok, putN_nodup b1.nodup, fun j v hv => ?_⟩, p2, hval, ⟨ua ++ ub ++ t, by simp only; rw [p3, b3, a3]; simp [List.append_assoc]⟩, ?_⟩
      · simp only [look_dput] at hv
        by_cases e : j = i
        · rw [if_pos e] at hv; simp at hv; subst hv; subst e
          exact ⟨p2, by rw [tree_nd hf hn]; exact hval⟩
        · rw [if_neg e] at hv
          obtain ⟨g1, g2⟩ := b1.ds j v hv
          simp only
          refine ⟨by rw [p3, List.length_append]; omega, ?_⟩
          rw [p3, tree_append b1.ok g1]; exact g2
      · simp only [finT]
        rw [a4]; simp only; rw [b4]; simp only
        have e : (⟨x.op, x.i, x.e, x.g, (A.1 : Int), (B.1 : Int)⟩ : Nd) = ndZ x A.1 B.1 := by
          have q1 : usesX x.op = false → (A.1 : Int) = x.x := fun u => by
            rw [u] at a4
            have : A.1 = 0 := (congrArg Prod.fst a4).symm
            rw [this, hok.nox u]; rfl
          have q2 : usesY x.op = false → (B.1 : Int) = x.y := fun u => by
            rw [u] at b4
            have : B.1 = 0 := (congrArg Prod.fst b4).symm
            rw [this, hok.noy u]; rfl
          unfold ndZ ndB ndA
          cases u1 : usesX x.op <;> cases u2 : usesY x.op <;> cases x <;> simp_all
        rw [e]

theorem invT_nil (f : List Nd) : InvT f ([], []) := ⟨fun i x h => by simp at h, List.nodup_nil, fun j v h => by simp [look] at h⟩
/-- The canonical list is told by the tree. -/
theorem canon_tree {f : List Nd} (hf : Okl f) {i : Nat} (hi : i < f.length) : canon f i = (finT (tree f i) []).2 := by
  have q := fin_tree hf (i + 1) i ([], []) (by omega) hi (invT_nil f)
  rw [q.eq]; rfl
theorem opA_tree {f : List Nd} (hf : Okl f) {n i : Nat} {x : Nd} (hx : f[i]? = some x) (hin : i < n + 1) (hif : i < f.length) {s : List Nd × List (Nat × Nat)} (hs : InvT f s) :
    InvT f (opA f n x s).2 ∧ (usesX x.op = true → FinTr f s (opA f n x s).2 (opA f n x s).1 (tree f x.x.toNat)) ∧ ∃ u, (opA f n x s).2.1 = s.1 ++ u := by
  have hok := hf i x hx
  unfold opA
  cases hu : usesX x.op with
  | false => exact ⟨hs, (fun h => by cases h), ⟨[], by simp⟩⟩
  | true =>
    have := hok.x hu
    have q := fin_tree hf n x.x.toNat s (by omega) (by omega) hs
    exact ⟨q.inv, fun _ => q, q.ext⟩
theorem opB_tree {f : List Nd} (hf : Okl f) {n i : Nat} {x : Nd} (hx : f[i]? = some x) (hin : i < n + 1) (hif : i < f.length) {s : List Nd × List (Nat × Nat)} (hs : InvT f s) :
    InvT f (opB f n x s).2 ∧ (usesY x.op = true → FinTr f s (opB f n x s).2 (opB f n x s).1 (tree f x.y.toNat)) ∧ ∃ u, (opB f n x s).2.1 = s.1 ++ u := by
  have hok := hf i x hx
  unfold opB
  cases hu : usesY x.op with
  | false => exact ⟨hs, (fun h => by cases h), ⟨[], by simp⟩⟩
  | true =>
    have := hok.y hu
    have q := fin_tree hf n x.y.toNat s (by omega) (by omega) hs
    exact ⟨q.inv, fun _ => q, q.ext⟩

/-- New nodes' trees are no greater than the root's; what stands ahead of the root's node is less. -/
theorem fin_size {f : List Nd} (hf : Okl f) : ∀ (n i : Nat) (s : List Nd × List (Nat × Nat)), i < n → i < f.length → InvT f s →
    ∀ v, s.1.length ≤ v → v < (fin f n i s).2.1.length → (tree (fin f n i s).2.1 v).size ≤ (tree f i).size ∧ (v ≠ (fin f n i s).1 → (tree (fin f n i s).2.1 v).size < (tree f i).size)
  | 0, i, s, h, _, _ => by omega
  | n + 1, i, s, hin, hif, hs => by
    intro v hv1 hv2
    have q := fin_tree hf (n + 1) i s hin hif hs
    cases hl : look i s.2 with
    | some k => simp only [fin, hl] at hv2; omega
    | none =>
      have hn : f[i]? = some f[i] := List.getElem?_eq_getElem hif
      generalize hx : f[i] = x at hn
      have hok := hf i x hn
      have hsz : (tree f i).size = (bif usesX x.op then tree f x.x.toNat else .none).size + (bif usesY x.op then tree f x.y.toNat else .none).size + 1 := by rw [tree_nd hf hn]; rfl
      obtain ⟨a1, a2, ua, a3⟩ := opA_tree hf hn hin hif hs
      obtain ⟨b1, b2, ub, b3⟩ := opB_tree hf hn hin hif a1
      have sA : ∀ v, s.1.length ≤ v → v < (opA f n x s).2.1.length → (tree (opA f n x s).2.1 v).size < (tree f i).size := by
        intro v h1 h2
        cases hu : usesX x.op with
        | false => rw [opA, hu] at h2; simp only [cond_false] at h2; omega
        | true =>
          have := hok.x hu
          have e : opA f n x s = fin f n x.x.toNat s := by rw [opA, hu]; rfl
          rw [e] at h2 ⊢
          have := (fin_size hf n x.x.toNat s (by omega) (by omega) hs v h1 h2).1
          rw [hsz, hu]; simp only [cond_true]; omega
      have sB : ∀ v, (opA f n x s).2.1.length ≤ v → v < (opB f n x (opA f n x s).2).2.1.length → (tree (opB f n x (opA f n x s).2).2.1 v).size < (tree f i).size := by
        intro v h1 h2
        cases hu : usesY x.op with
        | false => rw [opB, hu] at h2; simp only [cond_false] at h2; omega
        | true =>
          have := hok.y hu
          have e : opB f n x (opA f n x s).2 = fin f n x.y.toNat (opA f n x s).2 := by rw [opB, hu]; rfl
          rw [e] at h2 ⊢
          have := (fin_size hf n x.y.toNat (opA f n x s).2 (by omega) (by omega) a1 v h1 h2).1
          rw [hsz, hu]; simp only [cond_true]; omega
      have hval := q.val
      have hok' := q.inv.ok
      rw [fin_none hl hn] at hv2 hval hok' ⊢
      generalize opA f n x s = A at *
      generalize opB f n x A.2 = B at *
      obtain ⟨p1, p2, t, p3, p4⟩ := putN_spec B.2.1 (ndB x.op (ndA x A.1) B.1)
      simp only at hv2 hval hok' ⊢
      rcases Nat.lt_or_ge v B.2.1.length with hlt | hge
      · have e : tree (putN B.2.1 (ndB x.op (ndA x A.1) B.1)).2 v = tree B.2.1 v := by rw [p3, tree_append b1.ok hlt]
        rw [e]
        have : (tree B.2.1 v).size < (tree f i).size := by
          rcases Nat.lt_or_ge v A.2.1.length with h1 | h1
          · rw [b3, tree_append a1.ok h1]; exact sA v hv1 h1
          · exact sB v h1 hlt
        exact ⟨by omega, fun _ => this⟩
      · have hvk : v = (putN B.2.1 (ndB x.op (ndA x A.1) B.1)).1 := by
          unfold putN at hv2 ⊢
          cases h : idx (ndB x.op (ndA x A.1) B.1) B.2.1 0 with
          | some k => rw [h] at hv2; simp only at hv2; omega
          | none => rw [h] at hv2; simp at hv2; simp only; omega
        rw [hvk, hval]
        exact ⟨Nat.le_refl _, fun h => absurd rfl h⟩
theorem kid_size {f : List Nd} (hf : Okl f) {n i : Nat} {x : Nd} (hn : f[i]? = some x) (hin : i < n + 1) (hif : i < f.length) {s : List Nd × List (Nat × Nat)} (hs : InvT f s) :
    ∀ v, s.1.length ≤ v → v < (opB f n x (opA f n x s).2).2.1.length → (tree (opB f n x (opA f n x s).2).2.1 v).size < (tree f i).size := by
  have hok := hf i x hn
  have hsz : (tree f i).size = (bif usesX x.op then tree f x.x.toNat else .none).size + (bif usesY x.op then tree f x.y.toNat else .none).size + 1 := by rw [tree_nd hf hn]; rfl
  obtain ⟨a1, a2, ua, a3⟩ := opA_tree hf hn hin hif hs
  obtain ⟨b1, b2, ub, b3⟩ := opB_tree hf hn hin hif a1
  intro v hv1 hlt
  rcases Nat.lt_or_ge v (opA f n x s).2.1.length with h1 | h1
  · rw [b3, tree_append a1.ok h1]
    cases hu : usesX x.op with
    | false => rw [opA, hu] at h1; simp only [cond_false] at h1; omega
    | true =>
      have := hok.x hu
      have e : opA f n x s = fin f n x.x.toNat s := by rw [opA, hu]; rfl
      rw [e] at h1 ⊢
      have := (fin_size hf n x.x.toNat s (by omega) (by omega) hs v hv1 h1).1
      rw [hsz, hu]; simp only [cond_true]; omega
  · cases hu : usesY x.op with
    | false => rw [opB, hu] at hlt; simp only [cond_false] at hlt; omega
    | true =>
      have := hok.y hu
      have e : opB f n x (opA f n x s).2 = fin f n x.y.toNat (opA f n x s).2 := by rw [opB, hu]; rfl
      rw [e] at hlt ⊢
      have := (fin_size hf n x.y.toNat (opA f n x s).2 (by omega) (by omega) a1 v h1 hlt).1
      rw [hsz, hu]; simp only [cond_true]; omega
/-- The root stands last. -/
theorem canon_root {f : List Nd} (hf : Okl f) {i : Nat} (hi : i < f.length) : (canon f i).length ≠ 0 ∧ tree (canon f i) ((canon f i).length - 1) = tree f i := by
  have q := fin_tree hf (i + 1) i ([], []) (by omega) hi (invT_nil f)
  have hs := fin_size hf (i + 1) i ([], []) (by omega) hi (invT_nil f)
  have hlt := q.lt
  have hval := q.val
  have hok := q.inv.ok
  refine ⟨by unfold canon; omega, ?_⟩
  -- the root's number is the last one: what stands behind it would be less
  have hlast : (fin f (i + 1) i ([], [])).1 = (canon f i).length - 1 := by
    have hn : f[i]? = some f[i] := List.getElem?_eq_getElem hi
    generalize hx : f[i] = x at hn
    obtain ⟨a1, _, _⟩ := opA_tree hf hn (by omega) hi (invT_nil f) (n := i)
    obtain ⟨b1, _, _⟩ := opB_tree hf hn (by omega) hi a1 (n := i)
    have hkid := kid_size hf hn (by omega) hi (invT_nil f) (n := i)
    unfold canon
    rw [fin_none (f := f) (n := i) (s := ([], [])) rfl hn] at hval ⊢
    simp only at hval ⊢
    generalize opA f i x ([], []) = A at *
    generalize opB f i x A.2 = B at *
    obtain ⟨p1, p2, t, p3, _⟩ := putN_spec B.2.1 (ndB x.op (ndA x A.1) B.1)
    cases h : idx (ndB x.op (ndA x A.1) B.1) B.2.1 0 with
    | none => unfold putN; rw [h]; simp
    | some k =>
      exfalso
      have hp : putN B.2.1 (ndB x.op (ndA x A.1) B.1) = (k, B.2.1) := by unfold putN; rw [h]
      rw [hp] at hval p2
      simp only at hval p2
      have := hkid k (Nat.zero_le _) p2
      rw [hval] at this
      omega
  unfold canon at hlast ⊢
  rw [← hlast]; exact hval
end Go.Proofs.YtkjjoalphllolaaGreat
namespace Go.Proofs.YtkjjoalphllolaaGreat
open Go Go.Dv

def root (f : List Nd) : Tr := tree f (f.length - 1)
theorem comp_root {f : List Nd} (h : check f = 0) : comp f = (finT (root f) []).2 := by
  rw [comp_eq h]
  have := (check_ok h).1
  exact canon_tree (check_okl h) (by omega)
theorem root_comp {f : List Nd} (h : check f = 0) : root (comp f) = root f := by
  have := (check_ok h).1
  unfold root
  rw [comp_eq h]
  exact (canon_root (check_okl h) (by omega)).2
theorem comp_eq_iff {a b : List Nd} (ha : check a = 0) (hb : check b = 0) : comp a = comp b ↔ root a = root b := by
  constructor
  · intro h; rw [← root_comp ha, ← root_comp hb, h]
  · intro h; rw [comp_root ha, comp_root hb, h]
theorem comp_comp {f : List Nd} (h : check f = 0) : comp (comp f) = comp f := (comp_eq_iff (comp_check h) h).2 (root_comp h)

/-! what the reference builds -/
def oneL (x : Nd) : List Nd := bif nodeErr x 0 != 0 then [] else [x]
theorem canon_snoc {F : List Nd} {x : Nd} (hF : Okl F) (hx : OkNd x F.length) : canon (F ++ [x]) F.length = (finT (.nd x.op x.i x.e x.g (bif usesX x.op then tree F x.x.toNat else .none) (bif usesY x.op then tree F x.y.toNat else .none)) []).2 := by
  have hok := okl_snoc hF hx
  rw [canon_tree hok (by simp), tree_nd hok (x := x) (by simp)]
  have e1 : (bif usesX x.op then tree (F ++ [x]) x.x.toNat else .none) = (bif usesX x.op then tree F x.x.toNat else .none) := by
    cases hu : usesX x.op with
    | false => rfl
    | true => have := hx.x hu; exact tree_append hF (by omega)
  have e2 : (bif usesY x.op then tree (F ++ [x]) x.y.toNat else .none) = (bif usesY x.op then tree F x.y.toNat else .none) := by
    cases hu : usesY x.op with
    | false => rfl
    | true => have := hx.y hu; exact tree_append hF (by omega)
  rw [e1, e2]
/-- Without operands. -/
theorem build_one (x : Nd) : buildL x [] = oneL x := by
  rw [buildL, bfold]; simp only [bfin, oneL, List.length_nil, List.nil_append]
  show (bif nodeErr x ((0 : Nat) : Int) != 0 then [] else _) = _
  cases h : (nodeErr x ((0 : Nat) : Int) != 0) with
  | true => rfl
  | false =>
    have ok : OkNd x ((0 : Nat) : Int) := nodeErr_ok.1 (by simpa using h)
    have ux : usesX x.op = false := by cases hu : usesX x.op with
      | false => rfl
      | true => have := ok.x hu; omega
    have uy : usesY x.op = false := by cases hu : usesY x.op with
      | false => rfl
      | true => have := ok.y hu; omega
    have hc : canon [x] 0 = [x] := by
      have := canon_snoc (F := []) (x := x) (fun i y hy => by simp at hy) ok
      simp only [List.nil_append, List.length_nil] at this
      rw [this, ux, uy]
      simp only [cond_false, finT, putN, idx, List.nil_append, List.length_nil]
      have e1 := ok.nox ux
      have e2 := ok.noy uy
      cases x
      simp only at e1 e2
      subst e1; subst e2; rfl
    show (bif decide (((canon [x] 0).length : Int) > 200) then [] else canon [x] 0) = [x]
    simp only [hc]; rfl
end Go.Proofs.YtkjjoalphllolaaGreat
set_option maxRecDepth 100000
set_option maxHeartbeats 4000000
namespace Go.Proofs.YtkjjoalphllolaaGreat
open Go Go.Dv

theorem ref_One (x : Nd) : PureFn Tryz.prog 85 [x.pv] (fpv (oneL x)) := by
  refine PureFn.intro mixed (fn := Tryz.f85) rfl rfl rfl fun M w0 => ?_
  (try conv=>whnf);repeat' (first|(apply And.intro<;>try conv=>whnf)|(intro h;try conv=>whnf)|(apply cellsI;rfl)|(refine PureFn.dcq (f := 105) rfl ?_;try conv=>whnf)|(refine ⟨_, _, ref_node ?_ ?_, ?_, ?_⟩;rotate_left 2;(focus first|(refine ⟨?_, ?_, trivial⟩<;>first|exact PLe.refl _|exact PLe.nil)|exact trivial);try conv=>whnf)|fail)
  · rw [oneL, h]; exact .nil
  · rw [oneL, h]; exact .refl _
end Go.Proofs.YtkjjoalphllolaaGreat
set_option maxRecDepth 100000
set_option maxHeartbeats 4000000
namespace Go.Proofs.YtkjjoalphllolaaGreat
open Go Go.Dv

def aF : List Nd := [⟨3, 1, 0, 0, 0, 0⟩, ⟨3, 0, 0, 0, 0, 0⟩, ⟨3, 1, 0, 0, 0, 0⟩, ⟨5, 0, 0, 0, 0, 1⟩, ⟨9, 0, 0, 0, 3, 0⟩, ⟨6, 0, 0, 0, 4, 2⟩]
def aC : List Nd := [⟨3, 1, 0, 0, 0, 0⟩, ⟨3, 0, 0, 0, 0, 0⟩, ⟨5, 0, 0, 0, 0, 1⟩, ⟨9, 0, 0, 0, 2, 0⟩, ⟨6, 0, 0, 0, 3, 0⟩]
def aB : List Nd := buildL (n0 6) [buildL (nI 9 0) [buildL (n0 5) [buildL (nI 3 1) [], buildL (nI 3 0) []]], buildL (nI 3 1) []]
example : comp aF = aC := by kernel_rfl
example : aB = aC := by kernel_rfl
theorem _root_.Go.Dv.PureFn.to {P : Program} {f : FuncId} {ps : List PV} {p q : PV} (h : PureFn P f ps p) (e : p = q) : PureFn P f ps q := e ▸ h
end Go.Proofs.YtkjjoalphllolaaGreat
namespace Go.Proofs.YtkjjoalphllolaaGreat
open Go Go.Dv

theorem lt_dec {i m : Nat} (h : decide ((i : Int) < (m : Int)) = true) : i < m := by simpa using h
theorem ge_dec {i m : Nat} (h : decide ((i : Int) < (m : Int)) = false) (hi : i ≤ m) : i = m := by simp at h; omega
def u64 (n : Nat) : PV := .int .u64 (n : Int)
def i64 (n : Nat) : PV := .int .i64 (n : Int)
theorem wrapU {a : Int} (h0 : 0 ≤ a) (h : a < 18446744073709551616) : IntKind.wrap .u64 a = a := by
  have e : IntKind.wrap .u64 a = a % 18446744073709551616 := rfl
  rw [e]; exact Int.emod_eq_of_lt h0 h
theorem ofInt_nat (a : Nat) : BitVec.ofInt 64 (a : Int) = BitVec.ofNat 64 a := BitVec.ofInt_natCast 64 a
theorem ofNat_toNat {a : Nat} (h : a < 2 ^ 64) : (BitVec.ofNat 64 a).toNat = a := by rw [BitVec.toNat_ofNat, Nat.mod_eq_of_lt h]
def andU (a b : Int) : Int := IntKind.wrap .u64 ((BitVec.ofInt (IntKind.bits .u64) a &&& BitVec.ofInt (IntKind.bits .u64) b).toNat : Int)
def orU (a b : Int) : Int := IntKind.wrap .u64 ((BitVec.ofInt (IntKind.bits .u64) a ||| BitVec.ofInt (IntKind.bits .u64) b).toNat : Int)
def andNotU (a b : Int) : Int := IntKind.wrap .u64 ((BitVec.ofInt (IntKind.bits .u64) a &&& ~~~BitVec.ofInt (IntKind.bits .u64) b).toNat : Int)
def shrU (a b : Int) : Int := a.fdiv (2 ^ (min b.toNat (IntKind.bits .u64)))
def shlU (a b : Int) : Int := IntKind.wrap .u64 (a * 2 ^ (min b.toNat (IntKind.bits .u64)))
theorem andU_nat {a b : Nat} (ha : a < 2 ^ 64) (hb : b < 2 ^ 64) : andU a b = ((a &&& b : Nat) : Int) := by
  have h : a &&& b < 2 ^ 64 := Nat.lt_of_le_of_lt Nat.and_le_left ha
  unfold andU
  show IntKind.wrap .u64 ((BitVec.ofInt 64 (a : Int) &&& BitVec.ofInt 64 (b : Int)).toNat : Int) = _
  rw [ofInt_nat, ofInt_nat, BitVec.toNat_and, ofNat_toNat ha, ofNat_toNat hb]
  exact wrapU (by omega) (by omega)
theorem orU_nat {a b : Nat} (ha : a < 2 ^ 64) (hb : b < 2 ^ 64) : orU a b = ((a ||| b : Nat) : Int) := by
  have h : a ||| b < 2 ^ 64 := Nat.or_lt_two_pow ha hb
  unfold orU
  show IntKind.wrap .u64 ((BitVec.ofInt 64 (a : Int) ||| BitVec.ofInt 64 (b : Int)).toNat : Int) = _
  rw [ofInt_nat, ofInt_nat, BitVec.toNat_or, ofNat_toNat ha, ofNat_toNat hb]
  exact wrapU (by omega) (by omega)
theorem shrU_nat (a k : Nat) (hk : k ≤ 64) : shrU a k = ((a >>> k : Nat) : Int) := by
  unfold shrU
  rw [show min ((k : Int)).toNat (IntKind.bits .u64) = k from Nat.min_eq_left hk, Nat.shiftRight_eq_div_pow]
  rw [show ((2 : Int) ^ k) = ((2 ^ k : Nat) : Int) by simp, Int.fdiv_eq_ediv_of_nonneg _ (Int.natCast_nonneg _)]
  rfl
theorem shlU_one {k : Nat} (hk : k < 64) : shlU 1 k = ((2 ^ k : Nat) : Int) := by
  unfold shlU
  rw [show min ((k : Int)).toNat (IntKind.bits .u64) = k from Nat.min_eq_left (by show k ≤ 64; omega), Int.one_mul]
  have : 2 ^ k < 2 ^ 64 := Nat.pow_lt_pow_right (by decide) hk
  have e : ((2 : Int) ^ k) = ((2 ^ k : Nat) : Int) := by simp
  rw [e]
  generalize 2 ^ k = m at *
  exact wrapU (by omega) (by omega)
theorem bit_and (s v : Nat) (hs : s < 2 ^ 64) (hv : v < 64) : andU (shrU s v) 1 = if s.testBit v then 1 else 0 := by
  rw [shrU_nat _ _ (by omega)]
  have h1 : s >>> v < 2 ^ 64 := Nat.lt_of_le_of_lt (Nat.shiftRight_le s v) hs
  have := andU_nat (a := s >>> v) (b := 1) h1 (by decide)
  rw [show ((1 : Nat) : Int) = 1 from rfl] at this
  rw [this, Nat.and_one_is_mod, Nat.testBit, Nat.and_comm, Nat.and_one_is_mod]
  have : s >>> v % 2 = 0 ∨ s >>> v % 2 = 1 := by omega
  rcases this with h | h <;> rw [h] <;> rfl
/-- The program's test of a bit. -/
theorem bit_one {s v : Nat} (hs : s < 2 ^ 64) (hv : v < 64) : (andU (shrU s v) 1 == 1) = s.testBit v := by
  rw [bit_and s v hs hv]; cases s.testBit v <;> rfl
theorem bit_zero {s v : Nat} (hs : s < 2 ^ 64) (hv : v < 64) : (andU (shrU s v) 1 == 0) = !s.testBit v := by
  rw [bit_and s v hs hv]; cases s.testBit v <;> rfl
theorem tmod_two (a : Nat) : ((a : Int).tmod 2) = ((a % 2 : Nat) : Int) := by
  rw [Int.tmod_eq_emod_of_nonneg (Int.natCast_nonneg _)]; rfl
theorem testBit_mod (s v : Nat) : s.testBit v = decide (s >>> v % 2 = 1) := by
  rw [Nat.testBit, Nat.and_comm, Nat.and_one_is_mod]
  have : s >>> v % 2 = 0 ∨ s >>> v % 2 = 1 := by omega
  rcases this with h | h <;> rw [h] <;> rfl
/-- The reference's test of a bit. -/
theorem bit_rem {s v : Nat} (hv : v ≤ 64) : ((shrU s v).tmod 2 == 1) = s.testBit v := by
  rw [shrU_nat _ _ hv, tmod_two, testBit_mod, Bool.eq_iff_iff, beq_iff_eq, decide_eq_true_iff]; omega
theorem bit64_rem {s v : Nat} (hv : v ≤ 64) : ((shr64 s v).tmod 2) = if s.testBit v then 1 else 0 := by
  rw [shr64_nat _ _ hv, tmod_two, testBit_mod]
  have : s >>> v % 2 = 0 ∨ s >>> v % 2 = 1 := by omega
  rcases this with h | h <;> rw [h] <;> rfl
def and64 (a b : Int) : Int := IntKind.wrap .i64 ((BitVec.ofInt (IntKind.bits .i64) a &&& BitVec.ofInt (IntKind.bits .i64) b).toNat : Int)
theorem and64_nat {a b : Nat} (ha : a < 2 ^ 62) (hb : b < 2 ^ 62) : and64 a b = ((a &&& b : Nat) : Int) := by
  have h : a &&& b < 2 ^ 62 := Nat.lt_of_le_of_lt Nat.and_le_left ha
  unfold and64
  show IntKind.wrap .i64 ((BitVec.ofInt 64 (a : Int) &&& BitVec.ofInt 64 (b : Int)).toNat : Int) = _
  rw [ofInt_nat, ofInt_nat, BitVec.toNat_and, ofNat_toNat (by omega), ofNat_toNat (by omega)]
  exact wrap_small (by omega) (by omega)
theorem bit64_and {s v : Nat} (hs : s < 2 ^ 62) (hv : v ≤ 64) : and64 (shr64 s v) 1 = if s.testBit v then 1 else 0 := by
  rw [shr64_nat _ _ hv]
  have h1 : s >>> v < 2 ^ 62 := Nat.lt_of_le_of_lt (Nat.shiftRight_le s v) hs
  have := and64_nat (a := s >>> v) (b := 1) h1 (by decide)
  rw [show ((1 : Nat) : Int) = 1 from rfl] at this
  rw [this, Nat.and_one_is_mod, testBit_mod]
  have : s >>> v % 2 = 0 ∨ s >>> v % 2 = 1 := by omega
  rcases this with h | h <;> rw [h] <;> rfl

/-- The set of the numbers below m with a property. -/
def maskOf (q : Nat → Bool) : Nat → Nat
  | 0 => 0
  | m + 1 => bif q m then maskOf q m ||| 2 ^ m else maskOf q m
theorem maskOf_bit (q : Nat → Bool) (j : Nat) : ∀ m, (maskOf q m).testBit j = (decide (j < m) && q j)
  | 0 => by simp [maskOf]
  | m + 1 => by
    rw [maskOf]
    cases hq : q m with
    | false =>
      simp only [cond_false]
      rw [maskOf_bit q j m]
      by_cases h : j < m
      · simp [h, Nat.lt_succ_of_lt h]
      · by_cases e : j = m
        · subst e; simp [hq]
        · have : ¬ j < m + 1 := by omega
          simp [h, this]
    | true =>
      simp only [cond_true]
      rw [Nat.testBit_or, maskOf_bit q j m, Nat.testBit_two_pow]
      by_cases h : j < m
      · have : ¬ m = j := by omega
        simp [h, Nat.lt_succ_of_lt h, this]
      · by_cases e : j = m
        · subst e; simp [hq]
        · have : ¬ j < m + 1 := by omega
          have h2 : ¬ m = j := by omega
          simp [h, this, h2]
theorem maskOf_lt (q : Nat → Bool) (m : Nat) : maskOf q m < 2 ^ m := by
  apply Nat.lt_pow_two_of_testBit
  intro i hi
  rw [maskOf_bit]
  simp [Nat.not_lt.2 hi]
theorem maskOf_congr {q r : Nat → Bool} : ∀ {m : Nat}, (∀ j, j < m → q j = r j) → maskOf q m = maskOf r m
  | 0, _ => rfl
  | m + 1, h => by rw [maskOf, maskOf, h m (by omega), maskOf_congr fun j hj => h j (by omega)]
end Go.Proofs.YtkjjoalphllolaaGreat
set_option maxRecDepth 100000
namespace Go.Proofs.YtkjjoalphllolaaGreat
open Go Go.Dv

theorem shl_n {n : Nat} (hn : n ≤ 4) : shl64 1 (n : Int) = ((2 ^ n : Nat) : Int) := shl64_one (by omega) (by omega)
/-! least values -/
end Go.Proofs.YtkjjoalphllolaaGreat
set_option maxRecDepth 100000
namespace Go.Proofs.YtkjjoalphllolaaGreat
open Go Go.Dv

theorem ex3 {α : Type} {A B C : α → Prop} {m : α} (h1 : A m) (h2 : B m) (h3 : C m) : ∃ m, A m ∧ B m ∧ C m := ⟨m, h1, h2, h3⟩
theorem ex2 {α : Type} {A B : α → Prop} {m : α} (h1 : A m) (h2 : B m) : ∃ m, A m ∧ B m := ⟨m, h1, h2⟩
def evO (op : Int) (f a b : Bool) : Bool :=
  bif op == 1 then true else bif op == 3 then f else bif op == 4 then !a else bif op == 5 then (bif a then b else false) else bif op == 6 then (bif a then true else b) else bif op == 7 then (bif !a then true else b) else bif op == 8 then a == b else false
def evN (l : List Bool) (x : Nd) (v : Nat) : Bool := evO x.op (v.testBit x.i.toNat) (l.getD x.x.toNat false) (l.getD x.y.toNat false)
def evs (c : List Nd) (v : Nat) : List Bool := c.foldl (fun l x => l ++ [evN l x v]) []
def holds (c : List Nd) (v : Nat) : Bool := (evs c v).getD (c.length - 1) false
/-! arrays half filled -/
end Go.Proofs.YtkjjoalphllolaaGreat
set_option maxRecDepth 100000
namespace Go.Proofs.YtkjjoalphllolaaGreat
open Go Go.Dv

structure Asg where
  fact : Int
  to : List Nd
structure Act where
  pre : List (List Nd)
  post : List (List Asg)
  rel : List (List Nat)
def Asg.pv (a : Asg) : PV := .agg [.int .i64 a.fact, fpv a.to]
def rowPV (r : List Nat) : PV := .sl (r.map u64)
def postPV (l : List Asg) : PV := .sl (l.map Asg.pv)
def Act.pv (a : Act) : PV := .agg [.sl (a.pre.map fpv), .sl (a.post.map postPV), .sl (a.rel.map rowPV)]
/-! lists in which a nil slice stands for an empty one -/
theorem PLe.sls {l l' : List PV} (h : PLes l l') : PLe (.sl l) (.sl l') := by
  have h1 : ∀ {l l' : List PV}, PLes l l' → l.length = l'.length ∧ ∀ (i : Nat) p q, l[i]? = some p → l'[i]? = some q → PLe p q := by
    intro l
    induction l with
    | nil => intro l' h; cases l' with
      | nil => exact ⟨rfl, fun i p q hp => by simp at hp⟩
      | cons => exact h.elim
    | cons a r ih => intro l' h; cases l' with
      | nil => exact h.elim
      | cons b s =>
        obtain ⟨e, k⟩ := ih h.2
        refine ⟨by simp [e], fun i p q hp hq => ?_⟩
        cases i with
        | zero => simp at hp hq; subst hp; subst hq; exact h.1
        | succ i => exact k i p q (by simpa using hp) (by simpa using hq)
  exact .sl _ _ (h1 h).1 (h1 h).2
theorem PLe.aggs {l l' : List PV} (h : PLes l l') : PLe (.agg l) (.agg l') := by
  have := PLe.sls h
  cases this with
  | refl => exact .refl _
  | sl _ _ h1 h2 => exact .agg _ _ h1 h2
theorem PLe.tups {l l' : List PV} (h : PLes l l') : PLe (.tup l) (.tup l') := by
  have := PLe.sls h
  cases this with
  | refl => exact .refl _
  | sl _ _ h1 h2 => exact .tup _ _ h1 h2
/-! errors -/
def nand64' (a b : Int) : Int := IntKind.wrap .i64 ((BitVec.ofInt (IntKind.bits .i64) a &&& ~~~BitVec.ofInt (IntKind.bits .i64) b).toNat : Int)
def statI (ag : Int) (n : Int) (f : List Nd) : Int := bif check f != 0 then check f else bif nand64' (frags f : Nat) 15 != 0 then 10 else bif !fits f ag n then 2 else 0
def badF (fact : Int) : Bool := bif decide (fact < 0) then true else decide (fact ≥ 8)
theorem statI_ok {ag n : Int} {f : List Nd} (h : statI ag n f = 0) : check f = 0 ∧ nand64' (frags f : Nat) 15 = 0 ∧ fits f ag n = true := by
  unfold statI at h
  cases h1 : (check f != 0) with
  | true => rw [h1] at h; simp only [cond_true] at h; rw [h] at h1; cases h1
  | false =>
    rw [h1] at h
    cases h2 : (nand64' (frags f : Nat) 15 != 0) with
    | true => rw [h2] at h; cases h
    | false =>
      rw [h2] at h
      cases h3 : fits f ag n with
      | false => rw [h3] at h; cases h
      | true => exact ⟨by simpa using h1, by simpa using h2, rfl⟩
/-! relations -/
/-! how the agents perceive the events -/
/-! the messages -/
end Go.Proofs.YtkjjoalphllolaaGreat
set_option maxRecDepth 100000
set_option maxHeartbeats 4000000
namespace Go.Proofs.YtkjjoalphllolaaGreat
open Go Go.Dv

theorem any_take {α : Type} {p : α → Bool} {l : List α} {i : Nat} (hi : i < l.length) (h : (l.take i).any p = false) (h2 : p l[i] = false) : (l.take (i + 1)).any p = false := by
  rw [List.take_succ_eq_append_getElem hi, List.any_append, h]; simp [h2]
theorem any_at {α : Type} {p : α → Bool} {l : List α} {i : Nat} (hi : i < l.length) (h2 : p l[i] = true) : l.any p = true := List.any_eq_true.2 ⟨l[i], List.getElem_mem hi, h2⟩
end Go.Proofs.YtkjjoalphllolaaGreat
set_option maxRecDepth 100000
set_option maxHeartbeats 4000000
namespace Go.Proofs.YtkjjoalphllolaaGreat
open Go Go.Dv

theorem ac_static (f : List Nd) (ag n : Int) : PureFn Tryz.prog 50 [fpv f, .int .i64 ag, .int .i64 n] (.int .i64 (statI ag n f)) := by
  refine PureFn.intro mixed (fn := Tryz.f50) rfl rfl rfl fun M w0 => ?_
  (try conv=>whnf);repeat' (first|(apply And.intro<;>try conv=>whnf)|(intro h;try conv=>whnf)|(refine PureFn.dcq (f := 65) rfl ?_;try conv=>whnf)|(refine PureFn.dcq (f := 66) rfl ?_;try conv=>whnf)|(refine PureFn.dcq (f := 67) rfl ?_;try conv=>whnf)|(refine ⟨_, _, fm_Check ?_, ?_, ?_⟩;rotate_left 1;(focus first|(refine ⟨?_, trivial⟩<;>first|exact PLe.refl _|exact PLe.nil)|exact trivial);try conv=>whnf)|(refine ⟨_, _, fm_Frags ?_, ?_, ?_⟩;rotate_left 1;(focus first|(refine ⟨?_, trivial⟩<;>first|exact PLe.refl _|exact PLe.nil)|exact trivial);try conv=>whnf)|(refine ⟨_, _, fm_Fits ?_ ?_ ?_, ?_, ?_⟩;rotate_left 3;(focus first|(refine ⟨?_, ?_, ?_, trivial⟩<;>first|exact PLe.refl _|exact PLe.nil)|exact trivial);try conv=>whnf)|fail)
  · refine le_int ?_
    rw [statI, h]; rfl
  · rename_i h1
    refine le_int ?_
    rw [statI, h1, show (nand64' (frags f : Nat) 15 != 0) = true from h]; rfl
  · rename_i h2 h1
    refine le_int ?_
    rw [statI, h2, show (nand64' (frags f : Nat) 15 != 0) = false from h1, h]; rfl
  · rename_i h2 h1
    refine le_int ?_
    rw [statI, h2, show (nand64' (frags f : Nat) 15 != 0) = false from h1, h]; rfl
end Go.Proofs.YtkjjoalphllolaaGreat
set_option maxRecDepth 100000
set_option maxHeartbeats 4000000
namespace Go.Proofs.YtkjjoalphllolaaGreat
open Go Go.Dv

/-! bits -/
theorem bit64_one {s v : Nat} (hs : s < 2 ^ 62) (hv : v ≤ 64) : (and64 (shr64 s v) 1 == 1) = s.testBit v := by
  rw [bit64_and hs hv]; cases s.testBit v <;> rfl
theorem nand_eq {a b : Nat} (ha : a < 2 ^ 62) : nand64' a b = ((a ^^^ (a &&& b) : Nat) : Int) := by
  have hlt : a ^^^ (a &&& b) < 2 ^ 62 := Nat.xor_lt_two_pow ha (Nat.lt_of_le_of_lt Nat.and_le_left ha)
  unfold nand64'
  show IntKind.wrap .i64 ((BitVec.ofInt 64 (a : Int) &&& ~~~BitVec.ofInt 64 (b : Int)).toNat : Int) = _
  rw [ofInt_nat, ofInt_nat]
  have h2 : (BitVec.ofNat 64 a &&& ~~~BitVec.ofNat 64 b).toNat = a ^^^ (a &&& b) := by
    apply Nat.eq_of_testBit_eq
    intro i
    rw [BitVec.testBit_toNat, BitVec.getLsbD_and, BitVec.getLsbD_not, BitVec.getLsbD_ofNat, BitVec.getLsbD_ofNat, Nat.testBit_xor, Nat.testBit_and]
    by_cases hi : i < 64
    · simp only [hi, decide_true, Bool.true_and]; cases a.testBit i <;> cases b.testBit i <;> rfl
    · have : a.testBit i = false := Nat.testBit_lt_two_pow (Nat.lt_of_lt_of_le (show a < 2 ^ 64 by omega) (Nat.pow_le_pow_right (by decide) (by omega)))
      simp [hi, this]
  rw [h2, wrap_small (by omega) (by omega)]
def subM (s m : Nat) : Bool := s &&& m == s
theorem nand_zero {a b : Nat} (ha : a < 2 ^ 62) : (nand64' a b == 0) = subM a b := by
  rw [nand_eq ha, subM, Bool.eq_iff_iff, beq_iff_eq, beq_iff_eq]
  constructor
  · intro h
    have h0 : a ^^^ (a &&& b) = 0 := by omega
    have h4 : (a ^^^ (a &&& b)) ^^^ (a &&& b) = a := by rw [Nat.xor_assoc, Nat.xor_self, Nat.xor_zero]
    rw [h0, Nat.zero_xor] at h4; exact h4
  · intro h
    rw [h, Nat.xor_self]; rfl

/-! the formulas of a look -/
theorem app_big {l : List PV} {n : Nat} {p : PV} (h : l.length ≤ n) (hn : n ≤ 1000) : l.length + [p].length ≤ big := by
  show l.length + 1 ≤ 4294967296; omega
end Go.Proofs.YtkjjoalphllolaaGreat
set_option maxRecDepth 100000
set_option maxHeartbeats 4000000
namespace Go.Proofs.YtkjjoalphllolaaGreat
open Go Go.Dv

def cellsA (a : Act) : List DV := [.pv (.sl (a.pre.map fpv)), .pv (.sl (a.post.map postPV)), .pv (.sl (a.rel.map rowPV))]
theorem cells_u64 (l : List Nat) : cellsAll 1 (l.map u64) = true := by simp [cellsAll, u64, PV.cells, PV.one]
end Go.Proofs.YtkjjoalphllolaaGreat
set_option maxRecDepth 100000
namespace Go.Proofs.YtkjjoalphllolaaGreat
open Go Go.Dv

/-! the length of a number in bits -/
def len64 (x : Nat) : Nat := if x = 0 then 0 else Nat.log2 x + 1
theorem len64_lt {x k : Nat} : len64 x ≤ k ↔ x < 2 ^ k := by
  unfold len64
  by_cases h : x = 0
  · subst h; simp [Nat.two_pow_pos]
  · rw [if_neg h, ← Nat.log2_lt h]; omega
theorem len64_shift {x k : Nat} (h : 2 ^ k ≤ x) : len64 x = k + len64 (x >>> k) := by
  have key : ∀ j, len64 x ≤ k + j ↔ len64 (x >>> k) ≤ j := fun j => by
    rw [len64_lt, len64_lt, Nat.shiftRight_eq_div_pow, Nat.div_lt_iff_lt_mul (Nat.two_pow_pos k), Nat.pow_add, Nat.mul_comm]
  have h1 : k < len64 x := by
    rcases Nat.lt_or_ge k (len64 x) with q | q
    · exact q
    · have q2 : len64 x ≤ k := q
      rw [len64_lt] at q2; omega
  have h2 := (key (len64 x - k)).1 (by omega)
  have h3 := (key (len64 (x >>> k))).2 (Nat.le_refl _)
  omega

/-! errors -/
def chgs (ag n : Int) : List Asg → Int → Int
  | [], _ => 0
  | x :: r, last => bif (bif decide (x.fact < 0) then true else decide (x.fact ≥ n)) then 2 else bif decide (x.fact ≤ last) then 9 else bif statI ag n x.to != 0 then statI ag n x.to else chgs ag n r x.fact
def evs' (ag n : Int) : List (List Nd) → List (List Asg) → Int
  | [], _ => 0
  | f :: r, post => bif statI ag n f != 0 then statI ag n f else bif chgs ag n (post.headD []) (-1) != 0 then chgs ag n (post.headD []) (-1) else evs' ag n r post.tail
def rowsBad (rel : List (List Nat)) (n : Nat) : Bool := rel.any fun r => ((r.length : Int) != (n : Int))
def bitsBad (rel : List (List Nat)) (n : Nat) : Bool := rel.any fun r => r.any fun s => decide ((len64 s : Int) > (n : Int))
def shapeI (a : Act) (ag : Int) : Int :=
  bif (bif decide ((a.pre.length : Int) < 1) then true else decide ((a.pre.length : Int) > 8)) then 2 else
  bif (bif (bif (a.post.length : Int) != (a.pre.length : Int) then true else (a.rel.length : Int) != ag) then true else rowsBad a.rel a.pre.length) then 3 else bif bitsBad a.rel a.pre.length then 2 else 0
def actI (a : Act) (ag n : Int) : Int :=
  bif (bif bif bif decide (ag < 0) then true else decide (ag > 4) then true else decide (n < 0) then true else decide (n > 8)) then 2 else bif shapeI a ag != 0 then shapeI a ag else evs' ag n a.pre a.post
/-- The error of an action model by itself. -/
def aloneI (a : Act) : Int := actI a (a.rel.length : Int) 8
theorem shapeI_ok {a : Act} {ag : Int} (h : shapeI a ag = 0) : 1 ≤ a.pre.length ∧ a.pre.length ≤ 8 ∧ a.post.length = a.pre.length ∧ (a.rel.length : Int) = ag ∧ rowsBad a.rel a.pre.length = false ∧ bitsBad a.rel a.pre.length = false := by
  unfold shapeI at h
  cases h1 : (bif decide ((a.pre.length : Int) < 1) then true else decide ((a.pre.length : Int) > 8)) with
  | true => rw [h1] at h; cases h
  | false =>
    rw [h1] at h
    cases h2 : (bif (bif (a.post.length : Int) != (a.pre.length : Int) then true else (a.rel.length : Int) != ag) then true else rowsBad a.rel a.pre.length) with
    | true => rw [h2] at h; cases h
    | false =>
      rw [h2] at h
      cases h3 : bitsBad a.rel a.pre.length with
      | true => rw [h3] at h; cases h
      | false =>
        cases h4 : ((a.post.length : Int) != (a.pre.length : Int)) with
        | true => rw [h4] at h2; cases h2
        | false =>
          rw [h4] at h2
          cases h5 : ((a.rel.length : Int) != ag) with
          | true => rw [h5] at h2; cases h2
          | false =>
            rw [h5] at h2
            by_cases h6 : (a.pre.length : Int) < 1
            · rw [decide_eq_true h6] at h1; cases h1
            · rw [decide_eq_false h6] at h1
              by_cases h7 : (a.pre.length : Int) > 8
              · rw [decide_eq_true h7] at h1; cases h1
              · have h8 : (a.post.length : Int) = a.pre.length := by simpa using h4
                exact ⟨by omega, by omega, by omega, by simpa using h5, h2, rfl⟩
theorem rows_ok {rel : List (List Nat)} {n : Nat} (h : rowsBad rel n = false) : ∀ r, r ∈ rel → r.length = n := by
  intro r hr
  have := List.any_eq_false.1 h r hr
  have h2 : ((r.length : Int) != (n : Int)) = false := by simpa using this
  have h3 : (r.length : Int) = (n : Int) := by simpa using h2
  omega
theorem bits_ok {rel : List (List Nat)} {n : Nat} (h : bitsBad rel n = false) : ∀ r, r ∈ rel → ∀ s, s ∈ r → s < 2 ^ n := by
  intro r hr s hs
  have h1 := List.any_eq_false.1 h r hr
  rw [← len64_lt]
  rcases Nat.lt_or_ge n (len64 s) with q | q
  · exact absurd (List.any_eq_true.2 ⟨s, hs, decide_eq_true (by omega)⟩) h1
  · exact q
/-- What an action model consists of that is without error. -/
structure OkA (a : Act) (ag n : Int) : Prop where
  ags : ag = (a.rel.length : Int)
  agn : a.rel.length ≤ 4
  n1 : 1 ≤ a.pre.length
  n8 : a.pre.length ≤ 8
  post : a.post.length = a.pre.length
  rows : ∀ r, r ∈ a.rel → r.length = a.pre.length
  bits : ∀ r, r ∈ a.rel → ∀ s, s ∈ r → s < 2 ^ a.pre.length
  ev : evs' ag n a.pre a.post = 0
theorem actI_ok {a : Act} {ag n : Int} (h : actI a ag n = 0) : OkA a ag n := by
  unfold actI at h
  cases h1 : (bif bif bif decide (ag < 0) then true else decide (ag > 4) then true else decide (n < 0) then true else decide (n > 8)) with
  | true => rw [h1] at h; cases h
  | false =>
    rw [h1] at h
    cases h2 : (shapeI a ag != 0) with
    | true => rw [h2] at h; simp only [cond_false, cond_true] at h; rw [h] at h2; cases h2
    | false =>
      rw [h2] at h
      obtain ⟨s1, s2, s3, s4, s5, s6⟩ := shapeI_ok (a := a) (ag := ag) (by simpa using h2)
      have h4 : ¬ ag > 4 := by
        intro hh
        by_cases h5 : ag < 0
        · omega
        · rw [decide_eq_false h5, decide_eq_true hh] at h1; cases h1
      exact ⟨s4.symm, by omega, s1, s2, s3, rows_ok s5, bits_ok s6, h⟩
theorem evs_drop {ag n : Int} {pre : List (List Nd)} {post : List (List Asg)} {i : Nat} (h : i < pre.length) (h2 : i < post.length) :
    evs' ag n (pre.drop i) (post.drop i) = bif statI ag n pre[i] != 0 then statI ag n pre[i] else bif chgs ag n post[i] (-1) != 0 then chgs ag n post[i] (-1) else evs' ag n (pre.drop (i + 1)) (post.drop (i + 1)) := by
  rw [List.drop_eq_getElem_cons h, List.drop_eq_getElem_cons h2]; rfl
theorem chgs_drop {ag n last : Int} {l : List Asg} {i : Nat} (h : i < l.length) :
    chgs ag n (l.drop i) last = bif (bif decide (l[i].fact < 0) then true else decide (l[i].fact ≥ n)) then 2 else bif decide (l[i].fact ≤ last) then 9 else bif statI ag n l[i].to != 0 then statI ag n l[i].to else chgs ag n (l.drop (i + 1)) l[i].fact := by
  rw [List.drop_eq_getElem_cons h]; rfl
/-- All numbers of a relation fit a word. -/
def Fit (a : Act) : Prop := ∀ r, r ∈ a.rel → ∀ s, s ∈ r → s < 2 ^ 64
end Go.Proofs.YtkjjoalphllolaaGreat
set_option maxRecDepth 100000
set_option maxHeartbeats 4000000
namespace Go.Proofs.YtkjjoalphllolaaGreat
open Go Go.Dv

theorem shrU_geq {x k : Nat} (hx : x < 2 ^ 64) (hk : k ≤ 64) : shrU x k = ((x >>> k : Nat) : Int) := by
  have := hx
  exact shrU_nat x k hk
theorem shr_lt {x k m : Nat} (h : x < 2 ^ (k + m)) : x >>> k < 2 ^ m := by
  rw [Nat.shiftRight_eq_div_pow]
  exact Nat.div_lt_of_lt_mul (by rw [← Nat.pow_add]; exact h)
theorem bits_Len64 (x : Nat) (hx : x < 2 ^ 64) : PureFn Tryz.prog 64 [u64 x] (.int .i64 (len64 x : Nat)) := by
  refine PureFn.introC [4, 7, 10] mixed (fn := Tryz.f64) rfl rfl rfl fun M w0 => ?_
  try conv=>whnf
  refine ⟨{ q : Nat × Nat // q.1 < 2 ^ 32 ∧ q.2 ≤ 32 ∧ len64 x = q.2 + len64 q.1 }, fun q => [(0, .pv (u64 q.1.1)), (2, .pv (i64 q.1.2))], fun _ => 0, fun _ => [], ?_, ?_⟩
  · (try conv=>whnf);repeat' (first|(apply And.intro<;>try conv=>whnf)|(intro h;try conv=>whnf)|fail)
    · exact Int.natCast_nonneg 32
    · have h1 : 2 ^ 32 ≤ x := by have := of_decide_eq_true h; omega
      refine ⟨⟨(x >>> 32, 32), shr_lt hx, by omega, len64_shift h1⟩, ?_⟩
      (refine Wk.of ?_ ?_ rfl rfl rfl<;>repeat' (first|exact trivial|exact WkD.same _|refine WkD.int ?_|refine ⟨?_, ?_⟩|fail))
      exact shrU_nat x 32 (by omega)
    · have h1 : ¬ 2 ^ 32 ≤ x := by have := of_decide_eq_false h; omega
      refine ⟨⟨(x, 0), by omega, by omega, by simp⟩, ?_⟩
      (refine Wk.of ?_ ?_ rfl rfl rfl<;>repeat' (first|exact trivial|exact WkD.same _|refine ⟨?_, ?_⟩|fail))
  rintro ⟨⟨y, n⟩, hy, hn, he⟩
  simp only at hy hn he
  refine ⟨{ q : Nat × Nat // q.1 < 2 ^ 16 ∧ q.2 ≤ 48 ∧ len64 x = q.2 + len64 q.1 }, fun q => [(0, .pv (u64 q.1.1)), (2, .pv (i64 q.1.2))], fun _ => 0, fun _ => [], ?_, ?_⟩
  · (try conv=>whnf);repeat' (first|(apply And.intro<;>try conv=>whnf)|(intro h;try conv=>whnf)|fail)
    · exact Int.natCast_nonneg 16
    · have h1 : 2 ^ 16 ≤ y := by have := of_decide_eq_true h; simp only at *; omega
      have h2 := len64_shift h1
      refine ⟨⟨(y >>> 16, n + 16), shr_lt hy, by simp only at *; omega, by simp only at *; omega⟩, ?_⟩
      (refine Wk.of ?_ ?_ rfl rfl rfl<;>repeat' (first|exact trivial|refine WkD.int ?_|refine ⟨?_, ?_⟩|(refine wrapA ?_ ?_ ?_;(focus simp;done);(focus (try dsimp only);omega);(focus (try dsimp only);omega))|fail))
      all_goals first | exact shrU_nat y 16 (by omega) | exact (wrap_small (by simp only at *; omega) (by simp only at *; omega)).trans (by simp)
    · have h1 : ¬ 2 ^ 16 ≤ y := by have := of_decide_eq_false h; simp only at *; omega
      exact ⟨⟨(y, n), by simp only at *; omega, by simp only at *; omega, he⟩, (by refine Wk.of ?_ ?_ rfl rfl rfl<;>repeat' (first|exact trivial|exact WkD.same _|refine ⟨?_, ?_⟩|fail))⟩
  rintro ⟨⟨y, n⟩, hy, hn, he⟩
  simp only at hy hn he
  refine ⟨{ q : Nat × Nat // q.1 < 2 ^ 8 ∧ q.2 ≤ 56 ∧ len64 x = q.2 + len64 q.1 }, fun q => [(0, .pv (u64 q.1.1)), (2, .pv (i64 q.1.2))], fun _ => 0, fun _ => [], ?_, ?_⟩
  · (try conv=>whnf);repeat' (first|(apply And.intro<;>try conv=>whnf)|(intro h;try conv=>whnf)|fail)
    · exact Int.natCast_nonneg 8
    · have h1 : 2 ^ 8 ≤ y := by have := of_decide_eq_true h; simp only at *; omega
      have h2 := len64_shift h1
      refine ⟨⟨(y >>> 8, n + 8), shr_lt hy, by simp only at *; omega, by simp only at *; omega⟩, ?_⟩
      (refine Wk.of ?_ ?_ rfl rfl rfl<;>repeat' (first|exact trivial|refine WkD.int ?_|refine ⟨?_, ?_⟩|(refine wrapA ?_ ?_ ?_;(focus simp;done);(focus (try dsimp only);omega);(focus (try dsimp only);omega))|fail))
      all_goals first | exact shrU_nat y 8 (by omega) | exact (wrap_small (by simp only at *; omega) (by simp only at *; omega)).trans (by simp)
    · have h1 : ¬ 2 ^ 8 ≤ y := by have := of_decide_eq_false h; simp only at *; omega
      exact ⟨⟨(y, n), by simp only at *; omega, by simp only at *; omega, he⟩, (by refine Wk.of ?_ ?_ rfl rfl rfl<;>repeat' (first|exact trivial|exact WkD.same _|refine ⟨?_, ?_⟩|fail))⟩
  rintro ⟨⟨y, n⟩, hy, hn, he⟩
  simp only at hy hn he
  try conv=>whnf
  refine ⟨y, len64 y, ?_, ?_, ?_⟩
  · have h1 : IntKind.wrap .u8 (y : Int) = (y : Int) % 256 := rfl
    exact h1.trans (Int.emod_eq_of_lt (by omega) (by omega))
  · clear he
    revert y
    decide +kernel
  try conv=>whnf
  have h8 : len64 y ≤ 8 := len64_lt.2 hy
  refine le_int ?_
  have e : IntKind.wrap .i64 ((n : Int) + IntKind.wrap .i64 (len64 y : Nat)) = ((len64 x : Nat) : Int) := by
    rw [wrap_small (n := ((len64 y : Nat) : Int)) (by omega) (by omega), wrap_small (by omega) (by omega), he]; omega
  exact e
theorem ac_changes (l : List Asg) (ag n : Int) (hl : l.length ≤ 1000) : PureFn Tryz.prog 51 [postPV l, .int .i64 ag, .int .i64 n] (.int .i64 (chgs ag n l (-1))) := by
  refine PureFn.intro mixed (fn := Tryz.f51) rfl rfl rfl fun M w0 => ?_
  try conv=>whnf
  refine ⟨{ q : Nat × Int // q.1 ≤ l.length ∧ chgs ag n l (-1) = chgs ag n (l.drop q.1) q.2 }, fun q => [(1, .pv (.int .i64 ag)), (2, .pv (.int .i64 n)), (7, .pv (.int .i64 q.1.2)), (11, .pv (postPV l)), (12, .pv (i64 (l.map Asg.pv).length)), (13, .pv (i64 q.1.1))], fun _ => 0, fun _ => [], fun q => l.length - q.1.1, ⟨⟨(0, -1), Nat.zero_le _, rfl⟩, (by refine Wk.of ?_ ?_ rfl rfl rfl<;>repeat' (first|exact trivial|exact WkD.same _|refine ⟨?_, ?_⟩|fail))⟩, ?_⟩
  rintro ⟨⟨i, last⟩, hi, he⟩
  simp only at hi he
  (try conv=>whnf);repeat' (first|(apply And.intro<;>try conv=>whnf)|(intro h;try conv=>whnf)|(apply infoT;rfl)|fail)
  · have hi' : i < l.length := by simpa using lt_dec h
    have hn : l[i]? = some l[i] := List.getElem?_eq_getElem hi'
    have hS := ac_static l[i].to ag n
    rw [chgs_drop hi'] at he
    refine ⟨_, _, rfl, idx_map hn, rfl, ?_⟩
    (try conv=>whnf);repeat' (first|(apply And.intro<;>try conv=>whnf)|(intro h;try conv=>whnf)|apply True.intro|(apply WhenQ.mk;(try conv=>whnf);rotate_left;(try conv=>whnf);rotate_right)|with_reducible assumption|(apply not_of;with_reducible assumption)|(refine PureFn.dcq (f := 50) rfl ?_;try conv=>whnf)|(refine ⟨_, _, hS, ?_, ?_⟩;(focus first|(refine ⟨?_, ?_, ?_, trivial⟩<;>first|exact PLe.refl _|exact PLe.nil)|exact trivial);try conv=>whnf)|fail)
    · refine le_int ?_
      rw [he, show (bif decide (l[i].fact < 0) then true else decide (l[i].fact ≥ n)) = true from h]; rfl
    · rename_i h1
      refine le_int ?_
      rw [he, show (bif decide (l[i].fact < 0) then true else decide (l[i].fact ≥ n)) = false from h1, show decide (l[i].fact ≤ last) = true from h]; rfl
    · rename_i h2 h1
      refine le_int ?_
      rw [he, show (bif decide (l[i].fact < 0) then true else decide (l[i].fact ≥ n)) = false from h2, show decide (l[i].fact ≤ last) = false from h1, h]; rfl
    · rename_i h2 h1
      rw [show (bif decide (l[i].fact < 0) then true else decide (l[i].fact ≥ n)) = false from h2, show decide (l[i].fact ≤ last) = false from h1, h] at he
      exact ⟨⟨(i + 1, l[i].fact), hi', he⟩, by show l.length - (i + 1) < l.length - i; omega, (by refine Wk.of ?_ ?_ rfl rfl rfl<;>repeat' (first|exact trivial|exact WkD.same _|refine WkD.int ?_|refine ⟨?_, ?_⟩|(refine wrapA ?_ ?_ ?_;(focus simp;done);(focus (try dsimp only);omega);(focus (try dsimp only);omega))|fail))⟩
  · have hi' : i = l.length := by have := ge_dec (m := (l.map Asg.pv).length) h (by simpa using hi); simpa using this
    subst hi'
    rw [he, List.drop_eq_nil_of_le (Nat.le_refl _)]; exact .refl _
def HS (a : Act) : List (Nat × DObj) := [(0, .var (cellsA a)), (1, .var [.pv (i64 a.pre.length)])]
theorem shp1 {M : Nat → Prop} {w0 : W0} (a : Act) (r : List Nat) (base : Nat) (K : DV → DH → Prop) (hK : K (.pv (.bool ((r.length : Int) != (a.pre.length : Int)))) ⟨2, 0, base, objsOf (HS a)⟩) :
    DC Tryz.prog M w0 63 [.pv (rowPV r), .ref 1 0] ⟨2, 0, base, objsOf (HS a)⟩ K := by
  refine DC.intro mixed (fn := Tryz.f63) rfl rfl rfl ?_
  have e : ((r.map u64).length : Int) = (r.length : Int) := by simp
  rw [← e] at hK
  try conv=>whnf
  exact hK
theorem idx_S {M : Nat → Prop} {w0 : W0} (a : Act) (rows : List (List Nat)) (hl : rows.length ≤ 1000) (hr : ∀ r, r ∈ rows → True) (base : Nat) (K : DV → DH → Prop) (hK : ∀ r : Int, decide (r ≥ 0) = rows.any (fun r => ((r.length : Int) != (a.pre.length : Int))) → K (.pv (.int .i64 r)) ⟨2, 0, base, objsOf (HS a)⟩) :
    DC Tryz.prog M w0 44 [.pv (.sl (rows.map rowPV)), .clo 63 [] [.ref 1 0]] ⟨2, 0, base, objsOf (HS a)⟩ K := by
  refine DC.weaken (DC.intro mixed (fn := Tryz.f44) rfl rfl rfl ?_)
  try conv=>whnf
  refine ⟨{ i : Nat // i ≤ rows.length ∧ (rows.take i).any (fun r => ((r.length : Int) != (a.pre.length : Int))) = false }, fun i => [(0, .pv (.sl (rows.map rowPV))), (1, .clo 63 [] [.ref 1 0]), (7, .pv (i64 (rows.map rowPV).length)), (8, .pv (i64 i.1))], fun _ => 2, fun _ => HS a, fun i => rows.length - i.1, ⟨⟨0, Nat.zero_le _, rfl⟩, (by refine Wk.of ?_ ?_ rfl rfl rfl<;>repeat' (first|exact trivial|exact WkD.same _|exact WkO.same _ _ rfl|refine ⟨?_, ?_⟩|fail))⟩, ?_⟩
  rintro ⟨i, hi, ha⟩
  (try conv=>whnf);repeat' (first|(apply And.intro<;>try conv=>whnf)|(intro h;try conv=>whnf)|(apply infoT;rfl)|fail)
  · have hi' : i < rows.length := by simpa using lt_dec h
    have hn : rows[i]? = some rows[i] := List.getElem?_eq_getElem hi'
    have _hri := hr _ (List.getElem_mem hi')
    refine ⟨_, _, rfl, idx_map hn, rfl, ?_⟩
    try conv=>whnf
    refine shp1 a rows[i] _ _ ?_
    (try conv=>whnf);repeat' (first|(apply And.intro<;>try conv=>whnf)|(intro h;try conv=>whnf)|fail)
    · have e : rows.any (fun r => ((r.length : Int) != (a.pre.length : Int))) = true := any_at hi' h
      exact ⟨.pv (.int .i64 (i : Int)), 2, HS a, (by refine Wk.of ?_ ?_ rfl rfl rfl<;>repeat' (first|exact trivial|exact WkD.same _|exact WkO.same _ _ rfl|refine ⟨?_, ?_⟩|fail)), hK i (by rw [e]; simp)⟩
    · exact ⟨⟨i + 1, hi', any_take hi' ha h⟩, by show rows.length - (i + 1) < rows.length - i; omega, (by refine Wk.of ?_ ?_ rfl rfl rfl<;>repeat' (first|exact trivial|exact WkD.same _|exact WkO.same _ _ rfl|refine WkD.int ?_|refine ⟨?_, ?_⟩|(refine wrapA ?_ ?_ ?_;(focus simp;done);(focus (try dsimp only);omega);(focus (try dsimp only);omega))|fail))⟩
  · have hi' : i = rows.length := by have := ge_dec (m := (rows.map rowPV).length) h (by simpa using hi); simpa using this
    subst hi'
    rw [List.take_length] at ha
    exact ⟨.pv (.int .i64 (-1)), 2, HS a, (by refine Wk.of ?_ ?_ rfl rfl rfl<;>repeat' (first|exact trivial|exact WkD.same _|exact WkO.same _ _ rfl|refine ⟨?_, ?_⟩|fail)), hK (-1) (by rw [ha]; decide)⟩
theorem cont_S {M : Nat → Prop} {w0 : W0} (a : Act) (rows : List (List Nat)) (hl : rows.length ≤ 1000) (hr : ∀ r, r ∈ rows → True) (base : Nat) (K : DV → DH → Prop) (hK : K (.pv (.bool (rows.any (fun r => ((r.length : Int) != (a.pre.length : Int)))))) ⟨2, 0, base, objsOf (HS a)⟩) :
    DC Tryz.prog M w0 30 [.pv (.sl (rows.map rowPV)), .clo 63 [] [.ref 1 0]] ⟨2, 0, base, objsOf (HS a)⟩ K := by
  refine DC.intro mixed (fn := Tryz.f30) rfl rfl rfl ?_
  try conv=>whnf
  refine idx_S a rows hl hr 2 _ fun r e => ?_
  rw [← e] at hK
  try conv=>whnf
  exact hK
theorem ac_shape (a : Act) (ag : Int) (hf : Fit a) (hl : a.rel.length ≤ 1000) : PureFn Tryz.prog 49 [a.pv, .int .i64 ag] (.int .i64 (shapeI a ag)) := by
  refine PureFn.introC [2, 4, 6] mixed (fn := Tryz.f49) rfl rfl rfl fun M w0 => ?_
  have e1 : ((a.pre.map fpv).length : Int) = (a.pre.length : Int) := by simp
  have e2 : ((a.post.map postPV).length : Int) = (a.post.length : Int) := by simp
  have e3 : ((a.rel.map rowPV).length : Int) = (a.rel.length : Int) := by simp
  try conv=>whnf
  refine ⟨Unit, fun _ => [(1, .pv (.int .i64 ag)), (2, .ref 0 0), (5, .ref 1 0)], fun _ => 2, fun _ => HS a, ?_, ?_⟩
  · try conv=>whnf
    refine ⟨(), ?_⟩
    (refine Wk.of ?_ ?_ rfl rfl rfl<;>repeat' (first|exact trivial|exact WkD.same _|exact WkO.same _ _ rfl|refine WkD.int ?_|refine WkO.vars rfl ?_|refine ⟨?_, ?_⟩|fail))
    exact e1
  rintro ⟨⟩
  refine ⟨{ _x : Unit // (bif decide ((a.pre.length : Int) < 1) then true else decide ((a.pre.length : Int) > 8)) = false }, fun _ => [(1, .pv (.int .i64 ag)), (2, .ref 0 0), (5, .ref 1 0)], fun _ => 2, fun _ => HS a, ?_, ?_⟩
  · (try conv=>whnf);repeat' (first|(apply And.intro<;>try conv=>whnf)|(intro h;try conv=>whnf)|apply True.intro|(apply WhenQ.mk;(try conv=>whnf);rotate_left;(try conv=>whnf);rotate_right)|with_reducible assumption|(apply not_of;with_reducible assumption)|fail)
    · refine le_int ?_
      rw [shapeI, show (bif decide ((a.pre.length : Int) < 1) then true else decide ((a.pre.length : Int) > 8)) = true from h]; rfl
    · exact ⟨⟨(), h⟩, (by refine Wk.of ?_ ?_ rfl rfl rfl<;>repeat' (first|exact trivial|exact WkD.same _|exact WkO.same _ _ rfl|refine ⟨?_, ?_⟩|fail))⟩
  rintro ⟨_, h1⟩
  refine ⟨{ _x : Unit // (bif (bif (a.post.length : Int) != (a.pre.length : Int) then true else (a.rel.length : Int) != ag) then true else rowsBad a.rel a.pre.length) = false }, fun _ => [(2, .ref 0 0), (5, .ref 1 0)], fun _ => 2, fun _ => HS a, ?_, ?_⟩
  · (try conv=>whnf);repeat' (first|(apply And.intro<;>try conv=>whnf)|(intro h;try conv=>whnf)|apply True.intro|(apply WhenQ.mk;(try conv=>whnf);rotate_left;(try conv=>whnf);rotate_right)|with_reducible assumption|(apply not_of;with_reducible assumption)|fail)
    · refine cont_S a a.rel hl (fun _ _ => trivial) 0 _ ?_
      (try conv=>whnf);repeat' (first|(apply And.intro<;>try conv=>whnf)|fail)
    · (try conv=>whnf);repeat' (first|(apply And.intro<;>try conv=>whnf)|(intro h;try conv=>whnf)|(apply not_of;with_reducible assumption)|fail)
      · have h3 : (bif (bif (a.post.length : Int) != (a.pre.length : Int) then true else (a.rel.length : Int) != ag) then true else rowsBad a.rel a.pre.length) = true := by rw [← e2, ← e3]; exact h
        refine le_int ?_
        rw [shapeI, h1, h3]; rfl
      · have h3 : (bif (bif (a.post.length : Int) != (a.pre.length : Int) then true else (a.rel.length : Int) != ag) then true else rowsBad a.rel a.pre.length) = false := by rw [← e2, ← e3]; exact h
        exact ⟨⟨(), h3⟩, (by refine Wk.of ?_ ?_ rfl rfl rfl<;>repeat' (first|exact trivial|exact WkD.same _|exact WkO.same _ _ rfl|refine ⟨?_, ?_⟩|fail))⟩
  rintro ⟨_, h2⟩
  have hsh : shapeI a ag = bif bitsBad a.rel a.pre.length then 2 else 0 := by rw [shapeI, h1, h2]; rfl
  have hrw : rowsBad a.rel a.pre.length = false := by
    cases h4 : rowsBad a.rel a.pre.length with
    | false => rfl
    | true =>
      rw [h4] at h2
      cases hh : (bif (a.post.length : Int) != (a.pre.length : Int) then true else (a.rel.length : Int) != ag) <;> rw [hh] at h2 <;> cases h2
  have hrow := rows_ok hrw
  have hn8 : a.pre.length ≤ 8 := by
    by_cases h6 : (a.pre.length : Int) < 1
    · omega
    · rw [decide_eq_false h6] at h1
      have := of_decide_eq_false h1
      omega
  rw [hsh]
  try conv=>whnf
  refine ⟨{ i : Nat // i ≤ a.rel.length ∧ bitsBad (a.rel.take i) a.pre.length = false }, fun i => [(2, .ref 0 0), (5, .ref 1 0), (38, .pv (.sl (a.rel.map rowPV))), (39, .pv (i64 (a.rel.map rowPV).length)), (40, .pv (i64 i.1))], fun _ => 2, fun _ => HS a, fun i => a.rel.length - i.1, ⟨⟨0, Nat.zero_le _, rfl⟩, (by refine Wk.of ?_ ?_ rfl rfl rfl<;>repeat' (first|exact trivial|exact WkD.same _|exact WkO.same _ _ rfl|refine ⟨?_, ?_⟩|fail))⟩, ?_⟩
  rintro ⟨i, hi, hb⟩
  (try conv=>whnf);repeat' (first|(apply And.intro<;>try conv=>whnf)|(intro h;try conv=>whnf)|(apply infoT;rfl)|fail)
  · have hi' : i < a.rel.length := by simpa using lt_dec h
    have hn : a.rel[i]? = some a.rel[i] := List.getElem?_eq_getElem hi'
    have hri := hrow _ (List.getElem_mem hi')
    have hfi := hf _ (List.getElem_mem hi')
    have hat := fun (hh : (a.rel[i]).any (fun s => decide ((len64 s : Int) > (a.pre.length : Int))) = true) => any_at (p := fun r : List Nat => r.any fun s => decide ((len64 s : Int) > (a.pre.length : Int))) hi' hh
    have htk := any_take (p := fun r : List Nat => r.any fun s => decide ((len64 s : Int) > (a.pre.length : Int))) hi' hb
    refine ⟨_, _, rfl, idx_map hn, rfl, ?_⟩
    generalize a.rel[i] = r at hn hri hfi hat htk
    try conv=>whnf
    refine ⟨{ j : Nat // j ≤ r.length ∧ (r.take j).any (fun s => decide ((len64 s : Int) > (a.pre.length : Int))) = false }, fun j => [(2, .ref 0 0), (5, .ref 1 0), (38, .pv (.sl (a.rel.map rowPV))), (39, .pv (i64 (a.rel.map rowPV).length)), (40, .pv (i64 i)), (44, .pv (rowPV r)), (45, .pv (i64 (r.map u64).length)), (46, .pv (i64 j.1))], fun _ => 2, fun _ => HS a, fun j => r.length - j.1, ⟨⟨0, Nat.zero_le _, rfl⟩, (by refine Wk.of ?_ ?_ rfl rfl rfl<;>repeat' (first|exact trivial|exact WkD.same _|exact WkO.same _ _ rfl|refine ⟨?_, ?_⟩|fail))⟩, ?_⟩
    rintro ⟨j, hj, hc⟩
    (try conv=>whnf);repeat' (first|(apply And.intro<;>try conv=>whnf)|(intro h;try conv=>whnf)|(apply infoT;rfl)|fail)
    · have hj' : j < r.length := by simpa using lt_dec h
      have hm : r[j]? = some r[j] := List.getElem?_eq_getElem hj'
      have hL := bits_Len64 r[j] (hfi _ (List.getElem_mem hj'))
      refine ⟨_, _, rfl, idx_map hm, rfl, ?_⟩
      (try conv=>whnf);repeat' (first|(apply And.intro<;>try conv=>whnf)|(intro h;try conv=>whnf)|(refine lin_plan (by kernel_rfl) ?_;try conv=>whnf)|(refine ⟨_, (by (conv=>whnf);exact hL), rfl, ?_⟩;try conv=>whnf)|fail)
      · have e : r.any (fun s => decide ((len64 s : Int) > (a.pre.length : Int))) = true := any_at hj' h
        rw [show bitsBad a.rel a.pre.length = true from hat e]; exact .refl _
      · exact ⟨⟨j + 1, hj', any_take hj' hc h⟩, by show r.length - (j + 1) < r.length - j; omega, (by refine Wk.of ?_ ?_ rfl rfl rfl<;>repeat' (first|exact trivial|exact WkD.same _|exact WkO.same _ _ rfl|refine WkD.int ?_|refine ⟨?_, ?_⟩|(refine wrapA ?_ ?_ ?_;(focus simp;done);(focus (try dsimp only);omega);(focus (try dsimp only);omega))|fail))⟩
    · have hj' : j = r.length := by have := ge_dec (m := (r.map u64).length) h (by simpa using hj); simpa using this
      subst hj'
      rw [List.take_length] at hc
      exact ⟨⟨i + 1, hi', htk hc⟩, by show a.rel.length - (i + 1) < a.rel.length - i; omega, (by refine Wk.of ?_ ?_ rfl rfl rfl<;>repeat' (first|exact trivial|exact WkD.same _|exact WkO.same _ _ rfl|refine WkD.int ?_|refine ⟨?_, ?_⟩|(refine wrapA ?_ ?_ ?_;(focus simp;done);(focus (try dsimp only);omega);(focus (try dsimp only);omega))|fail))⟩
  · have hi' : i = a.rel.length := by have := ge_dec (m := (a.rel.map rowPV).length) h (by simpa using hi); simpa using this
    subst hi'
    rw [List.take_length] at hb
    rw [hb]; exact .refl _
theorem ac_Check (a : Act) (ag n : Int) (hf : Fit a) (hl : a.rel.length ≤ 1000) (hp : ∀ l, l ∈ a.post → l.length ≤ 1000) : PureFn Tryz.prog 36 [a.pv, .int .i64 ag, .int .i64 n] (.int .i64 (actI a ag n)) := by
  refine PureFn.introC [3, 6] mixed (fn := Tryz.f36) rfl rfl rfl fun M w0 => ?_
  have hS := ac_shape a ag hf hl
  try conv=>whnf
  refine ⟨{ _x : Unit // (bif bif bif decide (ag < 0) then true else decide (ag > 4) then true else decide (n < 0) then true else decide (n > 8)) = false }, fun _ => [(1, .pv (.int .i64 ag)), (2, .pv (.int .i64 n)), (3, .ref 0 0)], fun _ => 1, fun _ => [(0, .var (cellsA a))], ?_, ?_⟩
  · (try conv=>whnf);repeat' (first|(apply And.intro<;>try conv=>whnf)|(intro h;try conv=>whnf)|apply True.intro|(apply WhenQ.mk;(try conv=>whnf);rotate_left;(try conv=>whnf);rotate_right)|with_reducible assumption|(apply not_of;with_reducible assumption)|fail)
    · refine le_int ?_
      rw [actI, show (bif bif bif decide (ag < 0) then true else decide (ag > 4) then true else decide (n < 0) then true else decide (n > 8)) = true from h]; rfl
    · exact ⟨⟨(), h⟩, (by refine Wk.of ?_ ?_ rfl rfl rfl<;>repeat' (first|exact trivial|exact WkD.same _|exact WkO.same _ _ rfl|refine ⟨?_, ?_⟩|fail))⟩
  rintro ⟨_, h1⟩
  refine ⟨{ _x : Unit // (shapeI a ag != 0) = false }, fun _ => [(1, .pv (.int .i64 ag)), (2, .pv (.int .i64 n)), (3, .ref 0 0)], fun _ => 1, fun _ => [(0, .var (cellsA a))], ?_, ?_⟩
  · (try conv=>whnf);repeat' (first|(apply And.intro<;>try conv=>whnf)|(intro h;try conv=>whnf)|(refine PureFn.dcq (f := 49) rfl ?_;try conv=>whnf)|(refine ⟨_, _, hS, ?_, ?_⟩;(focus first|(refine ⟨?_, ?_, trivial⟩<;>first|exact PLe.refl _|exact PLe.nil)|exact trivial);try conv=>whnf)|fail)
    · refine le_int ?_
      rw [actI, h1, h]; rfl
    · exact ⟨⟨(), h⟩, (by refine Wk.of ?_ ?_ rfl rfl rfl<;>repeat' (first|exact trivial|exact WkD.same _|exact WkO.same _ _ rfl|refine ⟨?_, ?_⟩|fail))⟩
  rintro ⟨_, h2⟩
  obtain ⟨_, n8, npost, _, _, _⟩ := shapeI_ok (a := a) (ag := ag) (by simpa using h2)
  have hact : actI a ag n = evs' ag n a.pre a.post := by rw [actI, h1, h2]; rfl
  rw [hact]
  try conv=>whnf
  refine ⟨{ i : Nat // i ≤ a.pre.length ∧ evs' ag n a.pre a.post = evs' ag n (a.pre.drop i) (a.post.drop i) }, fun i => [(1, .pv (.int .i64 ag)), (2, .pv (.int .i64 n)), (3, .ref 0 0), (33, .pv (.sl (a.pre.map fpv))), (34, .pv (i64 (a.pre.map fpv).length)), (35, .pv (i64 i.1))], fun _ => 1, fun _ => [(0, .var (cellsA a))], fun i => a.pre.length - i.1, ⟨⟨0, Nat.zero_le _, rfl⟩, (by refine Wk.of ?_ ?_ rfl rfl rfl<;>repeat' (first|exact trivial|exact WkD.same _|exact WkO.same _ _ rfl|refine ⟨?_, ?_⟩|fail))⟩, ?_⟩
  rintro ⟨i, hi, he⟩
  (try conv=>whnf);repeat' (first|(apply And.intro<;>try conv=>whnf)|(intro h;try conv=>whnf)|(apply infoT;rfl)|fail)
  · have hi' : i < a.pre.length := by simpa using lt_dec h
    have hn : a.pre[i]? = some a.pre[i] := List.getElem?_eq_getElem hi'
    have hm : a.post[i]? = some a.post[i] := List.getElem?_eq_getElem (by omega)
    have hT := ac_static a.pre[i] ag n
    have hC := ac_changes a.post[i] ag n (hp _ (List.getElem_mem (by omega)))
    rw [evs_drop hi' (by omega)] at he
    refine ⟨_, _, rfl, idx_map hn, rfl, ?_⟩
    (try conv=>whnf);repeat' (first|(apply And.intro<;>try conv=>whnf)|(intro h;try conv=>whnf)|(apply infoT;rfl)|(refine ⟨_, _, rfl, idx_map (by with_reducible assumption), rfl, ?_⟩;try conv=>whnf)|(refine PureFn.dcq (f := 50) rfl ?_;try conv=>whnf)|(refine PureFn.dcq (f := 51) rfl ?_;try conv=>whnf)|(refine ⟨_, _, hT, ?_, ?_⟩;(focus first|(refine ⟨?_, ?_, ?_, trivial⟩<;>first|exact PLe.refl _|exact PLe.nil)|exact trivial);try conv=>whnf)|(refine ⟨_, _, hC, ?_, ?_⟩;(focus first|(refine ⟨?_, ?_, ?_, trivial⟩<;>first|exact PLe.refl _|exact PLe.nil)|exact trivial);try conv=>whnf)|fail)
    · refine le_int ?_
      rw [he, h]; rfl
    · rename_i h3
      refine le_int ?_
      rw [he, h3, h]; rfl
    · rename_i h3
      rw [h3, h] at he
      exact ⟨⟨i + 1, hi', he⟩, by show a.pre.length - (i + 1) < a.pre.length - i; omega, (by refine Wk.of ?_ ?_ rfl rfl rfl<;>repeat' (first|exact trivial|exact WkD.same _|exact WkO.same _ _ rfl|refine WkD.int ?_|refine ⟨?_, ?_⟩|(refine wrapA ?_ ?_ ?_;(focus simp;done);(focus (try dsimp only);omega);(focus (try dsimp only);omega))|fail))⟩
  · have hi' : i = a.pre.length := by have := ge_dec (m := (a.pre.map fpv).length) h (by simpa using hi); simpa using this
    subst hi'
    rw [he, List.drop_eq_nil_of_le (Nat.le_refl _)]; exact .refl _
theorem ac_alone (a : Act) (hf : Fit a) (hl : a.rel.length ≤ 1000) (hp : ∀ l, l ∈ a.post → l.length ≤ 1000) : PureFn Tryz.prog 37 [a.pv] (.int .i64 (aloneI a)) := by
  refine PureFn.intro mixed (fn := Tryz.f37) rfl rfl rfl fun M w0 => ?_
  have hC := ac_Check a (((a.rel.map rowPV).length : Nat) : Int) 8 hf hl hp
  have e3 : ((a.rel.map rowPV).length : Int) = (a.rel.length : Int) := by simp
  (try conv=>whnf);repeat' (first|(refine PureFn.dcq (f := 36) rfl ?_;try conv=>whnf)|(refine ⟨_, _, hC, ?_, ?_⟩;(focus first|(refine ⟨?_, ?_, ?_, trivial⟩<;>first|exact PLe.refl _|exact PLe.nil)|exact trivial);try conv=>whnf)|fail)
  refine le_int ?_
  rw [aloneI, ← e3]
end Go.Proofs.YtkjjoalphllolaaGreat
set_option maxRecDepth 100000
set_option maxHeartbeats 4000000
namespace Go.Proofs.YtkjjoalphllolaaGreat
open Go Go.Dv

theorem andNotU_eq {a b : Nat} (ha : a < 2 ^ 64) : andNotU a b = ((a ^^^ (a &&& b) : Nat) : Int) := by
  have hlt : a ^^^ (a &&& b) < 2 ^ 64 := Nat.xor_lt_two_pow ha (Nat.lt_of_le_of_lt Nat.and_le_left ha)
  unfold andNotU
  show IntKind.wrap .u64 ((BitVec.ofInt 64 (a : Int) &&& ~~~BitVec.ofInt 64 (b : Int)).toNat : Int) = _
  rw [ofInt_nat, ofInt_nat]
  have h2 : (BitVec.ofNat 64 a &&& ~~~BitVec.ofNat 64 b).toNat = a ^^^ (a &&& b) := by
    apply Nat.eq_of_testBit_eq
    intro i
    rw [BitVec.testBit_toNat, BitVec.getLsbD_and, BitVec.getLsbD_not, BitVec.getLsbD_ofNat, BitVec.getLsbD_ofNat, Nat.testBit_xor, Nat.testBit_and]
    by_cases hi : i < 64
    · simp only [hi, decide_true, Bool.true_and]; cases a.testBit i <;> cases b.testBit i <;> rfl
    · have : a.testBit i = false := Nat.testBit_lt_two_pow (Nat.lt_of_lt_of_le ha (Nat.pow_le_pow_right (by decide) (by omega)))
      simp [hi, this]
  rw [h2, wrapU (by omega) (by omega)]
theorem andNotU_subM {a b : Nat} (ha : a < 2 ^ 64) : (andNotU a b == 0) = subM a b := by
  rw [andNotU_eq ha, subM, Bool.eq_iff_iff, beq_iff_eq, beq_iff_eq]
  constructor
  · intro h
    have h0 : a ^^^ (a &&& b) = 0 := by omega
    have h4 : (a ^^^ (a &&& b)) ^^^ (a &&& b) = a := by rw [Nat.xor_assoc, Nat.xor_self, Nat.xor_zero]
    rw [h0, Nat.zero_xor] at h4; exact h4
  · intro h
    rw [h, Nat.xor_self]; rfl

/-! the conditions -/
/-! the logics -/
end Go.Proofs.YtkjjoalphllolaaGreat
set_option maxRecDepth 100000
set_option maxHeartbeats 4000000
namespace Go.Proofs.YtkjjoalphllolaaGreat
open Go Go.Dv

/-- The relations of a group joined at an event, those of the first i agents. -/
def joinA (op : Nat → Nat → Nat) (rel : List (List Nat)) (g : Int) (first e : Nat) : Nat → Nat
  | 0 => first
  | i + 1 => bif and64 (shr64 g i) 1 == 1 then op (joinA op rel g first e i) ((rel.getD i []).getD e 0) else joinA op rel g first e i
theorem joinA_lt {op : Nat → Nat → Nat} (hop : ∀ x y, x < 2 ^ 64 → y < 2 ^ 64 → op x y < 2 ^ 64) {rel : List (List Nat)} (hr : ∀ r, r ∈ rel → ∀ s, s ∈ r → s < 2 ^ 64) {g : Int} {first e : Nat} (hf : first < 2 ^ 64) : ∀ i, joinA op rel g first e i < 2 ^ 64
  | 0 => hf
  | i + 1 => by
    have ih := joinA_lt hop hr (g := g) (e := e) hf i
    rw [joinA]
    cases and64 (shr64 g i) 1 == 1 with
    | false => exact ih
    | true =>
      refine hop _ _ ih ?_
      rw [List.getD_eq_getElem?_getD, List.getD_eq_getElem?_getD]
      cases h1 : rel[i]? with
      | none => simp
      | some r =>
        simp only [Option.getD_some]
        cases h2 : r[e]? with
        | none => simp
        | some s => exact hr r (List.mem_iff_getElem?.2 ⟨i, h1⟩) s (List.mem_iff_getElem?.2 ⟨e, h2⟩)
/-- All events, as the program reckons them. -/
def allW (n : Nat) : Nat := (IntKind.wrap .u64 (shlU 1 n - 1)).toNat
/-! the value of a fact -/
def valL (fact : Int) : List Asg → List Nd
  | [] => buildL (nI 3 fact) []
  | x :: r => bif x.fact == fact then comp x.to else valL fact r
theorem valL_drop {fact : Int} {l : List Asg} {i : Nat} (h : i < l.length) : valL fact (l.drop i) = bif l[i].fact == fact then comp l[i].to else valL fact (l.drop (i + 1)) := by
  rw [List.drop_eq_getElem_cons h]; rfl
def badEv (a : Act) (ev : Int) : Bool := bif decide (ev < 0) then true else decide (ev ≥ (a.pre.length : Int))
def valI (a : Act) (ev fact : Int) : List Nd × Int :=
  bif aloneI a != 0 then ([], aloneI a) else bif badEv a ev then ([], 6) else bif badF fact then ([], 2) else (valL fact (a.post.getD ev.toNat []), 0)
def pairF (x : List Nd × Int) : PV := .tup [fpv x.1, .int .i64 x.2]
theorem le_nilF (e : Int) : PLe (.tup [.nil, .int .i64 e]) (pairF ([], e)) := PLe.tups ⟨.nil, .refl _, trivial⟩
theorem badEv_no {a : Act} {ev : Int} (h : badEv a ev = false) : ∃ k : Nat, ev = k ∧ k < a.pre.length := by
  unfold badEv at h
  by_cases h1 : ev < 0
  · rw [decide_eq_true h1] at h; cases h
  · by_cases h2 : ev ≥ (a.pre.length : Int)
    · rw [decide_eq_false h1, decide_eq_true h2] at h; cases h
    · exact ⟨ev.toNat, by omega, by omega⟩
theorem ac_Value (a : Act) (ev fact : Int) (hf : Fit a) (hl : a.rel.length ≤ 1000) (hp : ∀ l, l ∈ a.post → l.length ≤ 1000) : PureFn Tryz.prog 24 [a.pv, .int .i64 ev, .int .i64 fact] (pairF (valI a ev fact)) := by
  refine PureFn.introC [4, 6, 8] mixed (fn := Tryz.f24) rfl rfl rfl fun M w0 => ?_
  have hA := ac_alone a hf hl hp
  have e1 : ((a.pre.map fpv).length : Int) = (a.pre.length : Int) := by simp
  try conv=>whnf
  refine ⟨{ _x : Unit // (aloneI a != 0) = false }, fun _ => [(1, .pv (.int .i64 ev)), (2, .pv (.int .i64 fact)), (3, .ref 0 0)], fun _ => 1, fun _ => [(0, .var (cellsA a))], ?_, ?_⟩
  · (try conv=>whnf);repeat' (first|(apply And.intro<;>try conv=>whnf)|(intro h;try conv=>whnf)|(refine PureFn.dcq (f := 37) rfl ?_;try conv=>whnf)|(refine ⟨_, _, hA, ?_, ?_⟩;(focus first|(refine ⟨?_, trivial⟩<;>first|exact PLe.refl _|exact PLe.nil)|exact trivial);try conv=>whnf)|fail)
    · rw [valI, h]; exact le_nilF _
    · exact ⟨⟨(), h⟩, (by refine Wk.of ?_ ?_ rfl rfl rfl<;>repeat' (first|exact trivial|exact WkD.same _|exact WkO.same _ _ rfl|refine ⟨?_, ?_⟩|fail))⟩
  rintro ⟨_, h0⟩
  refine ⟨{ _x : Unit // badEv a ev = false }, fun _ => [(1, .pv (.int .i64 ev)), (2, .pv (.int .i64 fact)), (3, .ref 0 0)], fun _ => 1, fun _ => [(0, .var (cellsA a))], ?_, ?_⟩
  · (try conv=>whnf);repeat' (first|(apply And.intro<;>try conv=>whnf)|(intro h;try conv=>whnf)|apply True.intro|(apply WhenQ.mk;(try conv=>whnf);rotate_left;(try conv=>whnf);rotate_right)|with_reducible assumption|(apply not_of;with_reducible assumption)|fail)
    · have hb : badEv a ev = true := by rw [badEv, ← e1]; exact h
      rw [valI, h0, hb]; exact le_nilF _
    · exact ⟨⟨(), by rw [badEv, ← e1]; exact h⟩, (by refine Wk.of ?_ ?_ rfl rfl rfl<;>repeat' (first|exact trivial|exact WkD.same _|exact WkO.same _ _ rfl|refine ⟨?_, ?_⟩|fail))⟩
  rintro ⟨_, h1⟩
  refine ⟨{ _x : Unit // badF fact = false }, fun _ => [(1, .pv (.int .i64 ev)), (2, .pv (.int .i64 fact)), (3, .ref 0 0)], fun _ => 1, fun _ => [(0, .var (cellsA a))], ?_, ?_⟩
  · (try conv=>whnf);repeat' (first|(apply And.intro<;>try conv=>whnf)|(intro h;try conv=>whnf)|apply True.intro|(apply WhenQ.mk;(try conv=>whnf);rotate_left;(try conv=>whnf);rotate_right)|with_reducible assumption|(apply not_of;with_reducible assumption)|fail)
    · rw [valI, h0, h1, show badF fact = true from h]; exact le_nilF _
    · exact ⟨⟨(), h⟩, (by refine Wk.of ?_ ?_ rfl rfl rfl<;>repeat' (first|exact trivial|exact WkD.same _|exact WkO.same _ _ rfl|refine ⟨?_, ?_⟩|fail))⟩
  rintro ⟨_, h2⟩
  have hv : valI a ev fact = (valL fact (a.post.getD ev.toNat []), 0) := by rw [valI, h0, h1, h2]; rfl
  obtain ⟨k, rfl, hk⟩ := badEv_no h1
  have hO := actI_ok (show aloneI a = 0 by simpa using h0)
  have hk2 : k < a.post.length := by rw [hO.post]; exact hk
  have hn : a.post[k]? = some a.post[k] := List.getElem?_eq_getElem hk2
  have hlp := hp _ (List.getElem_mem hk2)
  rw [hv, show a.post.getD (k : Int).toNat [] = a.post[k] by rw [Int.toNat_natCast, List.getD_eq_getElem?_getD, hn]; rfl]
  generalize a.post[k] = l at hn hlp
  (try conv=>whnf);repeat' (first|(apply And.intro<;>try conv=>whnf)|(apply infoT;rfl)|(refine ⟨_, _, rfl, idx_map (by with_reducible assumption), rfl, ?_⟩;try conv=>whnf)|fail)
  refine ⟨{ i : Nat // i ≤ l.length ∧ valL fact l = valL fact (l.drop i) }, fun i => [(2, .pv (.int .i64 fact)), (35, .pv (postPV l)), (36, .pv (i64 (l.map Asg.pv).length)), (37, .pv (i64 i.1))], fun _ => 1, fun _ => [(0, .var (cellsA a))], fun i => l.length - i.1, ⟨⟨0, Nat.zero_le _, rfl⟩, (by refine Wk.of ?_ ?_ rfl rfl rfl<;>repeat' (first|exact trivial|exact WkD.same _|exact WkO.same _ _ rfl|refine ⟨?_, ?_⟩|fail))⟩, ?_⟩
  rintro ⟨i, hi, he⟩
  (try conv=>whnf);repeat' (first|(apply And.intro<;>try conv=>whnf)|(intro h;try conv=>whnf)|(apply infoT;rfl)|fail)
  · have hi' : i < l.length := by simpa using lt_dec h
    have hm : l[i]? = some l[i] := List.getElem?_eq_getElem hi'
    have hd := valL_drop (fact := fact) hi'
    have hC := fm_Compact l[i].to
    refine ⟨_, _, rfl, idx_map hm, rfl, ?_⟩
    (try conv=>whnf);repeat' (first|(apply And.intro<;>try conv=>whnf)|(intro h;try conv=>whnf)|(refine PureFn.dcq (f := 38) rfl ?_;try conv=>whnf)|(refine ⟨_, _, hC, ?_, ?_⟩;(focus first|(refine ⟨?_, trivial⟩<;>first|exact PLe.refl _|exact PLe.nil)|exact trivial);try conv=>whnf)|fail)
    · rw [he, hd, show (l[i].fact == fact) = true from h]; exact .refl _
    · exact ⟨⟨i + 1, hi', by rw [he, hd, show (l[i].fact == fact) = false from h]; rfl⟩, by show l.length - (i + 1) < l.length - i; omega, (by refine Wk.of ?_ ?_ rfl rfl rfl<;>repeat' (first|exact trivial|exact WkD.same _|exact WkO.same _ _ rfl|refine WkD.int ?_|refine ⟨?_, ?_⟩|(refine wrapA ?_ ?_ ?_;(focus simp;done);(focus (try dsimp only);omega);(focus (try dsimp only);omega))|fail))⟩
  · have hi' : i = l.length := by have := ge_dec (m := (l.map Asg.pv).length) h (by simpa using hi); simpa using this
    have hF := fm_Fact fact
    (try conv=>whnf);repeat' (first|(refine PureFn.dcq (f := 39) rfl ?_;try conv=>whnf)|(refine ⟨_, _, hF, ?_, ?_⟩;(focus first|(refine ⟨?_, trivial⟩<;>first|exact PLe.refl _|exact PLe.nil)|exact trivial);try conv=>whnf)|fail)
    rw [he, hi', List.drop_length]; exact .refl _
end Go.Proofs.YtkjjoalphllolaaGreat
set_option maxRecDepth 100000
set_option maxHeartbeats 4000000
namespace Go.Proofs.YtkjjoalphllolaaGreat
open Go Go.Dv

/-! lists compared by a function -/
def eqL {α : Type} (p : α → α → Bool) : List α → List α → Bool
  | [], [] => true
  | x :: s, y :: t => bif p x y then eqL p s t else false
  | _, _ => false
theorem eqL_len {α : Type} {p : α → α → Bool} : ∀ {s t : List α}, eqL p s t = true → s.length = t.length
  | [], [], _ => rfl
  | x :: s, y :: t, h => by
    rw [eqL] at h
    cases hp : p x y with
    | false => rw [hp] at h; cases h
    | true => rw [hp] at h; simp [eqL_len (show eqL p s t = true from h)]
  | [], _ :: _, h => by simp [eqL] at h
  | _ :: _, [], h => by simp [eqL] at h
theorem eqL_drop {α : Type} {p : α → α → Bool} {s t : List α} {i : Nat} (hs : i < s.length) (ht : i < t.length) : eqL p (s.drop i) (t.drop i) = bif p s[i] t[i] then eqL p (s.drop (i + 1)) (t.drop (i + 1)) else false := by
  rw [List.drop_eq_getElem_cons hs, List.drop_eq_getElem_cons ht]; rfl
theorem eqL_ne {α : Type} {p : α → α → Bool} {s t : List α} (h : s.length ≠ t.length) : eqL p s t = false := by
  cases hh : eqL p s t with
  | false => rfl
  | true => exact absurd (eqL_len hh) h
theorem sl_EqI (a b : List Int) (hl : a.length ≤ 1000) : PureFn Tryz.prog 10 [.sl (a.map (PV.int .i64)), .sl (b.map (PV.int .i64))] (.bool (eqL (fun (x y : Int) => !(x != y)) a b)) := by
  refine PureFn.intro mixed (fn := Tryz.f10) rfl rfl rfl fun M w0 => ?_
  (try conv=>whnf);repeat' (first|(apply And.intro<;>try conv=>whnf)|(intro h;try conv=>whnf)|fail)
  · refine le_bool ?_
    have : ¬ a.length = b.length := by simp at h; omega
    exact (eqL_ne this).symm
  · have hl2 : a.length = b.length := by simp at h; omega
    refine ⟨{ i : Nat // i ≤ a.length ∧ eqL (fun (x y : Int) => !(x != y)) a b = eqL (fun (x y : Int) => !(x != y)) (a.drop i) (b.drop i) }, fun i => [(0, .pv (.sl (a.map (PV.int .i64)))), (1, .pv (.sl (b.map (PV.int .i64)))), (12, .pv (i64 (a.map (PV.int .i64)).length)), (13, .pv (i64 i.1))], fun _ => 0, fun _ => [], fun i => a.length - i.1,
      ⟨⟨0, Nat.zero_le _, rfl⟩, (by refine Wk.of ?_ ?_ rfl rfl rfl<;>repeat' (first|exact trivial|exact WkD.same _|refine ⟨?_, ?_⟩|fail))⟩, ?_⟩
    rintro ⟨i, hi, he⟩
    (try conv=>whnf);repeat' (first|(apply And.intro<;>try conv=>whnf)|(intro h;try conv=>whnf)|(apply infoT;rfl)|(refine lin_plan (by kernel_rfl) ?_;try conv=>whnf)|fail)
    · have hi' : i < a.length := by simpa using lt_dec h
      have hj' : i < b.length := by omega
      have hn : a[i]? = some a[i] := List.getElem?_eq_getElem hi'
      have hm : b[i]? = some b[i] := List.getElem?_eq_getElem hj'
      have hd := eqL_drop (p := fun (x y : Int) => !(x != y)) hi' hj'
      refine ⟨_, _, rfl, idx_map hn, rfl, ?_⟩
      (try conv=>whnf);repeat' (first|(apply And.intro<;>try conv=>whnf)|(intro h;try conv=>whnf)|(apply infoT;rfl)|(refine ⟨_, _, rfl, idx_map (by with_reducible assumption), rfl, ?_⟩;try conv=>whnf)|fail)
      · refine le_bool ?_
        rw [he, hd]
        simp_all
      · refine ⟨⟨i + 1, hi', ?_⟩, by show a.length - (i + 1) < a.length - i; omega, (by refine Wk.of ?_ ?_ rfl rfl rfl<;>repeat' (first|exact trivial|exact WkD.same _|refine WkD.int ?_|refine ⟨?_, ?_⟩|(refine wrapA ?_ ?_ ?_;(focus simp;done);(focus (try dsimp only);omega);(focus (try dsimp only);omega))|fail))⟩
        rw [he, hd]
        simp_all
    · have hi' : ¬ i < a.length := by have := ge_dec (m := (a.map (PV.int .i64)).length) h (by simpa using hi); simp at this; omega
      refine le_bool ?_
      rw [he, (List.drop_eq_nil_of_le (by omega) : a.drop i = []), (List.drop_eq_nil_of_le (by omega) : b.drop i = [])]; rfl
end Go.Proofs.YtkjjoalphllolaaGreat
set_option maxRecDepth 100000
set_option maxHeartbeats 4000000
namespace Go.Proofs.YtkjjoalphllolaaGreat
open Go Go.Dv

/-! the program's rounds -/
def orA (rel : List (List Nat)) (e : Nat) : Nat → Nat
  | 0 => 0
  | i + 1 => orA rel e i ||| (rel.getD i []).getD e 0
def inP (rel : List (List Nat)) (b e s i : Nat) : Nat := bif b.testBit e then s ||| orA rel e i else s
/-- Relations over n events. -/
def Rel (rel : List (List Nat)) (n : Nat) : Prop := (∀ r, r ∈ rel → r.length = n) ∧ ∀ r, r ∈ rel → ∀ s, s ∈ r → s < 2 ^ n
theorem rel_get {rel : List (List Nat)} {n i e : Nat} (h : Rel rel n) : (rel.getD i []).getD e 0 < 2 ^ n := by
  rw [List.getD_eq_getElem?_getD, List.getD_eq_getElem?_getD]
  cases h1 : rel[i]? with
  | none => simp; exact Nat.two_pow_pos _
  | some r =>
    simp only [Option.getD_some]
    cases h2 : r[e]? with
    | none => simp; exact Nat.two_pow_pos _
    | some s => exact h.2 r (List.mem_iff_getElem?.2 ⟨i, h1⟩) s (List.mem_iff_getElem?.2 ⟨e, h2⟩)
theorem orA_lt {rel : List (List Nat)} {n e : Nat} (h : Rel rel n) : ∀ i, orA rel e i < 2 ^ n
  | 0 => Nat.two_pow_pos _
  | i + 1 => Nat.or_lt_two_pow (orA_lt h i) (rel_get h)
theorem inP_lt {rel : List (List Nat)} {n b e s i : Nat} (h : Rel rel n) (hs : s < 2 ^ n) : inP rel b e s i < 2 ^ n := by
  unfold inP
  cases b.testBit e with
  | true => exact Nat.or_lt_two_pow hs (orA_lt h i)
  | false => exact hs
/-! sets of bits -/
def Sub (a b : Nat) : Prop := ∀ i, a.testBit i = true → b.testBit i = true
theorem sub_or {a b : Nat} : Sub a (a ||| b) := fun i h => by rw [Nat.testBit_or, h]; rfl
theorem Sub.trans {a b c : Nat} (h : Sub a b) (g : Sub b c) : Sub a c := fun i hi => g i (h i hi)
theorem or_sub {a b c : Nat} (h : Sub a c) (g : Sub b c) : Sub (a ||| b) c := fun i hi => by
  rw [Nat.testBit_or] at hi
  cases q : a.testBit i with
  | true => exact h i q
  | false => rw [q] at hi; exact g i (by simpa using hi)
theorem sub_antisymm {a b : Nat} (h : Sub a b) (g : Sub b a) : a = b := Nat.eq_of_testBit_eq fun i => by
  cases q : a.testBit i with
  | true => exact (h i q).symm
  | false =>
    cases r : b.testBit i with
    | false => rfl
    | true => rw [g i r] at q; cases q
def card (n s : Nat) : Nat := ((List.range n).filter fun e => s.testBit e).length
theorem card_le (n s : Nat) : card n s ≤ n := by
  have := List.length_filter_le (fun e => s.testBit e) (List.range n)
  rw [List.length_range] at this; exact this
theorem card_mono {s t : Nat} (h : Sub s t) : ∀ n, card n s ≤ card n t
  | 0 => Nat.le_refl _
  | n + 1 => by
    have ih := card_mono h n
    unfold card at *
    rw [List.range_succ, List.filter_append, List.filter_append, List.length_append, List.length_append]
    cases q : s.testBit n with
    | true => simp [q, h n q]; exact ih
    | false => simp [q]; omega
theorem card_lt {s t : Nat} (h : Sub s t) {e : Nat} (h1 : s.testBit e = false) (h2 : t.testBit e = true) : ∀ n, e < n → card n s < card n t
  | 0, h => by omega
  | n + 1, he => by
    unfold card
    rw [List.range_succ, List.filter_append, List.filter_append, List.length_append, List.length_append]
    by_cases q : e = n
    · subst q
      have := card_mono h e
      unfold card at this
      simp [h1, h2]; omega
    · have := card_lt h h1 h2 n (by omega)
      unfold card at this
      cases q : s.testBit n with
      | true => simp [q, h n q]; exact this
      | false => simp [q]; omega
theorem bit_lt {s n i : Nat} (hs : s < 2 ^ n) (h : s.testBit i = true) : i < n := by
  rcases Nat.lt_or_ge i n with q | q
  · exact q
  · rw [Nat.testBit_lt_two_pow (Nat.lt_of_lt_of_le hs (Nat.pow_le_pow_right (by decide) q))] at h; cases h
theorem card_grow {s t n : Nat} (h : Sub s t) (hne : s ≠ t) (ht : t < 2 ^ n) : card n s < card n t := by
  have : ∃ e, s.testBit e = false ∧ t.testBit e = true := Classical.byContradiction fun hn => hne (sub_antisymm h fun i hi => by
    cases q : s.testBit i with
    | true => rfl
    | false => exact absurd ⟨i, q, hi⟩ hn)
  obtain ⟨e, h1, h2⟩ := this
  exact card_lt h h1 h2 n (bit_lt ht h2)
/-- A growing sequence of sets of fewer than n + 1 elements stops. -/
theorem grow_stops {n : Nat} {f : Nat → Nat} (q : Nat → Nat) (hq : ∀ k, q (k + 1) = f (q k)) (hlt : ∀ k, q k < 2 ^ n) (hsub : ∀ k, Sub (q k) (q (k + 1))) (h0 : q 0 ≠ 0) :
    ∀ k, q k = q (k + 1) ∨ k + 2 ≤ card n (q (k + 1)) := by
  have hc0 : 1 ≤ card n (q 0) := by
    have : card n 0 < card n (q 0) := card_grow (fun i hi => by rw [Nat.zero_testBit] at hi; cases hi) (fun e => h0 e.symm) (hlt 0)
    omega
  intro k
  induction k with
  | zero =>
    by_cases e : q 0 = q 1
    · exact .inl e
    · have := card_grow (hsub 0) e (hlt 1); exact .inr (by omega)
  | succ k ih =>
    by_cases e : q (k + 1) = q (k + 2)
    · exact .inl e
    · rcases ih with h | h
      · exact absurd (by rw [hq (k + 1), ← h, ← hq k]; exact h) e
      · have := card_grow (hsub (k + 1)) e (hlt (k + 2)); exact .inr (by omega)
theorem inP_sub {rel : List (List Nat)} {b e s i : Nat} : Sub s (inP rel b e s i) := by
  unfold inP
  cases b.testBit e with
  | true => exact sub_or
  | false => exact fun _ h => h
/-! the part -/
end Go.Proofs.YtkjjoalphllolaaGreat
set_option maxRecDepth 100000
set_option maxHeartbeats 4000000
namespace Go.Proofs.YtkjjoalphllolaaGreat
open Go Go.Dv

theorem getD_mem {α : Type} {l : List α} {i : Nat} {d : α} (h : i < l.length) : l[i]? = some (l.getD i d) := by rw [List.getD_eq_getElem?_getD, List.getElem?_eq_getElem h]; rfl
end Go.Proofs.YtkjjoalphllolaaGreat
set_option maxRecDepth 100000
set_option maxHeartbeats 4000000
namespace Go.Proofs.YtkjjoalphllolaaGreat
open Go Go.Dv

theorem ra_Fact (i : Int) : PureFn Tryz.prog 62 [.int .i64 i] (fpv (buildL (nI 3 i) [])) := by
  rw [build_one]
  have hO := ref_One (nI 3 i)
  refine PureFn.intro mixed (fn := Tryz.f62) rfl rfl rfl fun M w0 => ?_
  (try conv=>whnf);repeat' (first|(refine PureFn.dcq (f := 85) rfl ?_;try conv=>whnf)|(refine ⟨_, _, hO, ?_, ?_⟩;(focus first|(refine ⟨?_, trivial⟩<;>first|exact PLe.refl _|exact PLe.nil)|exact trivial);try conv=>whnf)|fail)
  exact .refl _
end Go.Proofs.YtkjjoalphllolaaGreat
