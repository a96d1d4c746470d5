/- Parts of the proof, one after the other: Formulas: Fits of both sides. Formulas: build. Formulas: constructors, Subs. Formulas: the canonical list depends on the tree alone (plain). Formulas: canonical lists and constructors by their trees (plain). Formulas: the examples of the laws. Formulas: All and Any of both sides; the law FormulaJoins walked. Belief sets: bits of numbers, sets of valuations (plain). Belief sets: distances (plain). Belief sets: the value of a formula at a valuation (plain). Formulas: a canonical list is what its last node's constructor makes of its operands (plain). Formulas: the value of a formula by its tree; small formulas (plain). Action models: their values; errors, relations and models of usual messages (plain). -/
import Derived.Test.YtibenjpkinhjhaaM4
set_option maxRecDepth 100000
set_option maxHeartbeats 4000000
namespace Go.Proofs.Ytibenjpkinhjhaa
open Go Go.Dv

def belowB (mask n : Int) : Bool := bif decide (n ≥ 31) then true else shr64 mask (max n 0) == 0
def fits (f : List Nd) (a n : Int) : Bool := bif bif check f == 0 then belowB (agents f) a else false then belowB (facts f) n else false

theorem below_iff {mask k : Nat} (hm : mask < 2 ^ k) (hk : k ≤ 31) (n : Int) : belowB mask n = true ↔ ∀ j : Nat, j < k → (mask >>> j) % 2 = 1 → (j : Int) < n := by
  unfold belowB
  by_cases hn : n ≥ 31
  · simp only [hn, decide_true, cond_true, true_iff]
    intro j hj _; omega
  · have e : decide (n ≥ 31) = false := by simpa using hn
    rw [e, cond_false]
    obtain ⟨m, hmm⟩ : ∃ m : Nat, max n 0 = (m : Int) := ⟨(max n 0).toNat, by omega⟩
    rw [hmm, shr64_nat _ _ (by omega)]
    have e2 : (((mask >>> m : Nat) : Int) == 0) = true ↔ mask >>> m = 0 := by rw [beq_iff_eq]; exact Int.natCast_eq_zero
    rw [e2]
    have tb : ∀ j, (mask >>> j) % 2 = 1 ↔ mask.testBit j = true := by
      intro j; rw [Nat.testBit_eq_decide_div_mod_eq, Nat.shiftRight_eq_div_pow]; simp
    constructor
    · intro h0 j _ hb
      rcases Nat.lt_or_ge j m with h | h
      · omega
      · have : mask >>> j = 0 := by rw [show j = m + (j - m) by omega, Nat.shiftRight_add, h0, Nat.zero_shiftRight]
        rw [this] at hb; simp at hb
    · intro h
      refine Nat.eq_of_testBit_eq fun i => ?_
      rw [Nat.testBit_shiftRight, Nat.zero_testBit]
      rcases Nat.lt_or_ge (m + i) k with hlt | hge
      · cases hb : mask.testBit (m + i) with
        | false => rfl
        | true => have := h (m + i) hlt ((tb _).2 hb); omega
      · exact Nat.testBit_lt_two_pow (Nat.lt_of_lt_of_le hm (Nat.pow_le_pow_right (by decide) hge))

theorem fm_below (mask n : Int) : PureFn Try.prog 126 [.int .i64 mask, .int .i64 n] (.bool (belowB mask n)) := by
  refine PureFn.intro mixed (fn := Try.f126) rfl rfl rfl fun M w0 => ?_
  (try (conv => whnf)); repeat' (first | (apply And.intro <;> (try (conv => whnf))) | (intro h; first | (with_reducible exact tf0 h) | (with_reducible exact ft0 h) | (with_reducible exact nt0 h) | (with_reducible exact nf0 h) | (exact litz h rfl) | (with_reducible exact tf h (by with_reducible assumption)) | (with_reducible exact tf (by with_reducible assumption) h) | (try (conv => whnf))) | (with_reducible rfl) | (apply True.intro) | (apply infoT; rfl) | (apply bleI; rfl) | (apply fitI; rfl) | (apply cellsI; rfl) | (apply szI; rfl) | (apply guardI; kernel_rfl) | (apply WhenQ.mk; (try (conv => whnf)); rotate_left; (try (conv => whnf)); rotate_right) | (with_reducible assumption) | (apply not_of; with_reducible assumption) | (apply left_of; with_reducible assumption) | (apply left_of; apply left_of; with_reducible assumption) | (apply and_of <;> first | (with_reducible assumption) | (apply not_of; with_reducible assumption))| (refine lin_plan (by kernel_rfl) ?_; (try (conv => whnf))) | (refine ⟨_, _, rfl, idx_map (by with_reducible assumption), rfl, ?_⟩; (try (conv => whnf))) | (refine ⟨rfl, ?_⟩; (try (conv => whnf))) | (exact Nat.le_refl 1) | ((apply ex3); (focus (with_reducible assumption)); (focus (with_reducible assumption)); (try (conv => whnf))) | ((apply ex2); (focus (with_reducible assumption)); (try (conv => whnf))) | fail)
  · show 0 ≤ max n 0
    omega
  · exact .refl _
theorem fm_Fits (f : List Nd) (a n : Int) : PureFn Try.prog 61 [fpv f, .int .i64 a, .int .i64 n] (.bool (fits f a n)) := by
  refine PureFn.intro mixed (fn := Try.f61) rfl rfl rfl fun M w0 => ?_
  (try (conv => whnf)); repeat' (first | (apply And.intro <;> (try (conv => whnf))) | (intro h; first | (with_reducible exact tf0 h) | (with_reducible exact ft0 h) | (with_reducible exact nt0 h) | (with_reducible exact nf0 h) | (exact litz h rfl) | (with_reducible exact tf h (by with_reducible assumption)) | (with_reducible exact tf (by with_reducible assumption) h) | (try (conv => whnf))) | (with_reducible rfl) | (apply True.intro) | (apply infoT; rfl) | (apply bleI; rfl) | (apply fitI; rfl) | (apply cellsI; rfl) | (apply szI; rfl) | (apply guardI; kernel_rfl) | (apply WhenQ.mk; (try (conv => whnf)); rotate_left; (try (conv => whnf)); rotate_right) | (with_reducible assumption) | (apply not_of; with_reducible assumption) | (apply left_of; with_reducible assumption) | (apply left_of; apply left_of; with_reducible assumption) | (apply and_of <;> first | (with_reducible assumption) | (apply not_of; with_reducible assumption))| (refine lin_plan (by kernel_rfl) ?_; (try (conv => whnf))) | (refine ⟨_, _, rfl, idx_map (by with_reducible assumption), rfl, ?_⟩; (try (conv => whnf))) | (refine ⟨rfl, ?_⟩; (try (conv => whnf))) | (exact Nat.le_refl 1) | ((apply ex3); (focus (with_reducible assumption)); (focus (with_reducible assumption)); (try (conv => whnf))) | ((apply ex2); (focus (with_reducible assumption)); (try (conv => whnf))) | (refine PureFn.dcq (f := 59) rfl ?_; (try (conv => whnf))) | (refine PureFn.dcq (f := 127) rfl ?_; (try (conv => whnf))) | (refine PureFn.dcq (f := 128) rfl ?_; (try (conv => whnf))) | (refine PureFn.dcq (f := 126) rfl ?_; (try (conv => whnf))) | ((refine ⟨_, _, fm_Check ?_, ?_, ?_⟩); rotate_left 1; (focus (first | (refine ⟨?_, trivial⟩ <;> first | (exact PLe.refl _) | (exact PLe.nil)) | (exact trivial))); (try (conv => whnf))) | (refine ⟨_, (by (conv => whnf); exact fm_Check _), rfl, ?_⟩; (try (conv => whnf))) | ((refine ⟨_, _, fm_Agents ?_, ?_, ?_⟩); rotate_left 1; (focus (first | (refine ⟨?_, trivial⟩ <;> first | (exact PLe.refl _) | (exact PLe.nil)) | (exact trivial))); (try (conv => whnf))) | (refine ⟨_, (by (conv => whnf); exact fm_Agents _), rfl, ?_⟩; (try (conv => whnf))) | ((refine ⟨_, _, fm_Facts ?_, ?_, ?_⟩); rotate_left 1; (focus (first | (refine ⟨?_, trivial⟩ <;> first | (exact PLe.refl _) | (exact PLe.nil)) | (exact trivial))); (try (conv => whnf))) | (refine ⟨_, (by (conv => whnf); exact fm_Facts _), rfl, ?_⟩; (try (conv => whnf))) | ((refine ⟨_, _, fm_below ?_ ?_, ?_, ?_⟩); rotate_left 2; (focus (first | (refine ⟨?_, ?_, trivial⟩ <;> first | (exact PLe.refl _) | (exact PLe.nil)) | (exact trivial))); (try (conv => whnf))) | (refine ⟨_, (by (conv => whnf); exact fm_below _ _), rfl, ?_⟩; (try (conv => whnf))) | fail)
  exact .refl _
end Go.Proofs.Ytibenjpkinhjhaa
set_option maxRecDepth 100000
set_option maxHeartbeats 4000000
namespace Go.Proofs.Ytibenjpkinhjhaa
open Go Go.Dv

def shX (k : Nat) (n : Nd) : Nd := bif usesX n.op then { n with x := n.x + k } else n
def shN (k : Nat) (n : Nd) : Nd := bif usesY n.op then { shX k n with y := n.y + k } else shX k n
def bstep (k : Nat) (s : Nd × List Nd) (o : List Nd) : Nd × List Nd :=
  (bif (k : Int) == 0 then { s.1 with x := ((s.2 ++ (comp o).map (shN s.2.length)).length : Int) - 1 } else { s.1 with y := ((s.2 ++ (comp o).map (shN s.2.length)).length : Int) - 1 }, s.2 ++ (comp o).map (shN s.2.length))
def bfold : Nat → List (List Nd) → Nd × List Nd → Option (Nd × List Nd)
  | _, [], s => some s
  | k, o :: r, s => bif check o != 0 then none else bfold (k + 1) r (bstep k s o)
def bfin (s : Nd × List Nd) : List Nd :=
  bif nodeErr s.1 s.2.length != 0 then [] else bif decide (((canon (s.2 ++ [s.1]) s.2.length).length : Int) > 200) then [] else canon (s.2 ++ [s.1]) s.2.length
def buildL (x : Nd) (l : List (List Nd)) : List Nd := match bfold 0 l (x, []) with | none => [] | some s => bfin s

theorem shX_y (k : Nat) (n : Nd) : (shX k n).y = n.y := by unfold shX; cases usesX n.op <;> rfl
theorem sh_ok {n : Nd} {i : Int} {k : Nat} (h : OkNd n i) : OkNd (shN k n) (k + i) := by
  have e1 : (shN k n).op = n.op := by unfold shN shX; cases usesX n.op <;> cases usesY n.op <;> rfl
  have e2 : (shN k n).i = n.i := by unfold shN shX; cases usesX n.op <;> cases usesY n.op <;> rfl
  have e3 : (shN k n).e = n.e := by unfold shN shX; cases usesX n.op <;> cases usesY n.op <;> rfl
  have e4 : (shN k n).g = n.g := by unfold shN shX; cases usesX n.op <;> cases usesY n.op <;> rfl
  have e5 : (shN k n).x = bif usesX n.op then n.x + k else n.x := by unfold shN shX; cases usesX n.op <;> cases usesY n.op <;> rfl
  have e6 : (shN k n).y = bif usesY n.op then n.y + k else n.y := by unfold shN shX; cases usesX n.op <;> cases usesY n.op <;> rfl
  constructor
  · rw [e1]; exact h.op
  · rw [e1, e5]; intro u; rw [u]; have := h.x u; simp only [cond_true]; omega
  · rw [e1, e5]; intro u; rw [u]; exact h.nox u
  · rw [e1, e6]; intro u; rw [u]; have := h.y u; simp only [cond_true]; omega
  · rw [e1, e6]; intro u; rw [u]; exact h.noy u
  · rw [e1, e2]; exact h.fact
  · rw [e1, e2]; exact h.agent
  · rw [e1, e2, e3]; exact h.act
  · rw [e1, e2]; exact h.noi
  · rw [e1, e3]; exact h.noe
  · rw [e1, e4]; exact h.group
  · rw [e1, e4]; exact h.nog
theorem okl_append {F c : List Nd} (hF : Okl F) (hc : Okl c) : Okl (F ++ c.map (shN F.length)) := by
  intro i x hx
  rcases Nat.lt_or_ge i F.length with h | h
  · rw [List.getElem?_append_left h] at hx; exact hF i x hx
  · rw [List.getElem?_append_right h, List.getElem?_map] at hx
    cases hy : c[i - F.length]? with
    | none => rw [hy] at hx; simp at hx
    | some y =>
      rw [hy] at hx; simp at hx; subst hx
      have := sh_ok (k := F.length) (hc _ y hy)
      rwa [show ((F.length : Int) + ((i - F.length : Nat) : Int)) = (i : Int) by omega] at this
theorem okl_snoc {F : List Nd} {x : Nd} (hF : Okl F) (hx : OkNd x F.length) : Okl (F ++ [x]) := by
  intro i y hy
  rcases Nat.lt_or_ge i F.length with h | h
  · rw [List.getElem?_append_left h] at hy; exact hF i y hy
  · rw [List.getElem?_append_right h] at hy
    have : i = F.length := by
      have := (List.getElem?_eq_some_iff.1 hy).1
      simp at this; omega
    subst this
    simp at hy; subst hy; exact hx

def shL (F c : List Nd) (j : Nat) : List PV := F.map Nd.pv ++ (c.take j).map fun n => (shN F.length n).pv
theorem shL_zero (F c : List Nd) : F.map Nd.pv = shL F c 0 := by simp [shL]
theorem shL_succ {F c : List Nd} {j : Nat} (h : j < c.length) : shL F c j ++ [(shN F.length c[j]).pv] = shL F c (j + 1) := by
  simp only [shL]
  rw [List.take_succ_eq_append_getElem h, List.map_append, List.append_assoc]; rfl
theorem shL_end (F c : List Nd) : shL F c c.length = (F ++ c.map (shN F.length)).map Nd.pv := by
  simp [shL, List.map_append, List.map_map, Function.comp_def]
theorem shL_len {F c : List Nd} {j : Nat} (h : j ≤ c.length) : (shL F c j).length = F.length + j := by
  simp only [shL, List.length_append, List.length_map, List.length_take]; omega

theorem bstep_t {k : Nat} {y : Nd} {F o : List Nd} (h : ((k : Int) == 0) = true) : bstep k (y, F) o = ({ y with x := ((F ++ (comp o).map (shN F.length)).length : Int) - 1 }, F ++ (comp o).map (shN F.length)) := by rw [bstep, h]; rfl
theorem bstep_f {k : Nat} {y : Nd} {F o : List Nd} (h : ((k : Int) == 0) = false) : bstep k (y, F) o = ({ y with y := ((F ++ (comp o).map (shN F.length)).length : Int) - 1 }, F ++ (comp o).map (shN F.length)) := by rw [bstep, h]; rfl
theorem fm_build (x : Nd) (l : List (List Nd)) (hl : l.length ≤ 2) : PureFn Try.prog 129 [x.pv, .sl (l.map fpv)] (fpv (buildL x l)) := by
  refine PureFn.introC [14, 16] mixed (fn := Try.f129) rfl rfl rfl fun M w0 => ?_
  (try (conv => whnf)); repeat' (first | (apply And.intro <;> (try (conv => whnf))) | (intro h; first | (with_reducible exact tf0 h) | (with_reducible exact ft0 h) | (with_reducible exact nt0 h) | (with_reducible exact nf0 h) | (exact litz h rfl) | (with_reducible exact tf h (by with_reducible assumption)) | (with_reducible exact tf (by with_reducible assumption) h) | (try (conv => whnf))) | (with_reducible rfl) | (apply True.intro) | (apply infoT; rfl) | (apply bleI; rfl) | (apply fitI; rfl) | (apply cellsI; rfl) | (apply szI; rfl) | (apply guardI; kernel_rfl) | (apply WhenQ.mk; (try (conv => whnf)); rotate_left; (try (conv => whnf)); rotate_right) | (with_reducible assumption) | (apply not_of; with_reducible assumption) | (apply left_of; with_reducible assumption) | (apply left_of; apply left_of; with_reducible assumption) | (apply and_of <;> first | (with_reducible assumption) | (apply not_of; with_reducible assumption))| (refine lin_plan (by kernel_rfl) ?_; (try (conv => whnf))) | (refine ⟨_, _, rfl, idx_map (by with_reducible assumption), rfl, ?_⟩; (try (conv => whnf))) | (refine ⟨rfl, ?_⟩; (try (conv => whnf))) | (exact Nat.le_refl 1) | ((apply ex3); (focus (with_reducible assumption)); (focus (with_reducible assumption)); (try (conv => whnf))) | ((apply ex2); (focus (with_reducible assumption)); (try (conv => whnf))) | fail)
  refine ⟨{ q : Nat × Nd × List Nd // q.1 ≤ l.length ∧ bfold 0 l (x, []) = bfold q.1 (l.drop q.1) q.2 ∧ Okl q.2.2 ∧ q.2.2.length ≤ 200 * q.1 },
    fun q => [(2, .ref 0 0), (5, .buf 1 (q.1.2.2.map Nd.pv).length), (14, .pv (.sl (l.map fpv))), (15, .pv (.int .i64 (l.map fpv).length)), (16, .pv (.int .i64 (q.1.1 : Nat)))], fun _ => 2,
    fun q => [(0, .var q.1.2.1.dvs), (1, .arr 6 (q.1.2.2.map Nd.pv))], fun q => l.length - q.1.1, ⟨⟨(0, x, []), Nat.zero_le _, rfl, (fun i x h => by simp at h), Nat.zero_le _⟩, (by refine Wk.of ?_ ?_ rfl rfl rfl <;> (repeat' (first | (exact trivial) | (exact WkD.same _) | (exact WkO.same _ _ rfl) | (exact WkD.any _) | (exact WkD.nil _ (Or.inl rfl)) | (exact WkD.nil _ (Or.inr rfl)) | (exact WkD.fz _ _ _ rfl (Or.inl ⟨_, rfl⟩) rfl) | (exact WkD.fz _ _ _ rfl (Or.inr rfl) rfl) | (refine WkD.int ?_) | (exact WkD.new' rfl rfl rfl) | (exact WkO.new _ _ rfl) | (refine WkO.vars rfl ?_) | (with_reducible rfl) | (exact rfl) | (refine ⟨?_, ?_⟩) | ((refine wrapA ?_ ?_ ?_); (focus (simp; done)); (focus ((try dsimp only); omega)); (focus ((try dsimp only); omega))) | fail)))⟩, ?_⟩
  rintro ⟨⟨k, y, F⟩, hk, he, hF, hFl⟩
  simp only at hk he hF hFl
  (try (conv => whnf)); repeat' (first | (apply And.intro <;> (try (conv => whnf))) | (intro h; first | (with_reducible exact tf0 h) | (with_reducible exact ft0 h) | (with_reducible exact nt0 h) | (with_reducible exact nf0 h) | (exact litz h rfl) | (with_reducible exact tf h (by with_reducible assumption)) | (with_reducible exact tf (by with_reducible assumption) h) | (try (conv => whnf))) | (with_reducible rfl) | (apply True.intro) | (apply infoT; rfl) | (apply bleI; rfl) | (apply fitI; rfl) | (apply cellsI; rfl) | (apply szI; rfl) | (apply guardI; kernel_rfl) | (apply WhenQ.mk; (try (conv => whnf)); rotate_left; (try (conv => whnf)); rotate_right) | (with_reducible assumption) | (apply not_of; with_reducible assumption) | (apply left_of; with_reducible assumption) | (apply left_of; apply left_of; with_reducible assumption) | (apply and_of <;> first | (with_reducible assumption) | (apply not_of; with_reducible assumption))| (refine lin_plan (by kernel_rfl) ?_; (try (conv => whnf))) | (refine ⟨_, _, rfl, idx_map (by with_reducible assumption), rfl, ?_⟩; (try (conv => whnf))) | (refine ⟨rfl, ?_⟩; (try (conv => whnf))) | (exact Nat.le_refl 1) | ((apply ex3); (focus (with_reducible assumption)); (focus (with_reducible assumption)); (try (conv => whnf))) | ((apply ex2); (focus (with_reducible assumption)); (try (conv => whnf))) | fail)
  · have hk' : k < l.length := by simpa using h
    obtain ⟨o, ho⟩ : ∃ o, l[k]? = some o := ⟨_, List.getElem?_eq_getElem hk'⟩
    have hd : l.drop k = o :: l.drop (k + 1) := by
      rw [List.drop_eq_getElem_cons hk']
      rw [List.getElem?_eq_getElem hk'] at ho
      rw [Option.some.inj ho]
    rw [hd] at he
    have hol := comp_len o
    (try (conv => whnf)); repeat' (first | (apply And.intro <;> (try (conv => whnf))) | (intro h; first | (with_reducible exact tf0 h) | (with_reducible exact ft0 h) | (with_reducible exact nt0 h) | (with_reducible exact nf0 h) | (exact litz h rfl) | (with_reducible exact tf h (by with_reducible assumption)) | (with_reducible exact tf (by with_reducible assumption) h) | (try (conv => whnf))) | (with_reducible rfl) | (apply True.intro) | (apply infoT; rfl) | (apply bleI; rfl) | (apply fitI; rfl) | (apply cellsI; rfl) | (apply szI; rfl) | (apply guardI; kernel_rfl) | (apply WhenQ.mk; (try (conv => whnf)); rotate_left; (try (conv => whnf)); rotate_right) | (with_reducible assumption) | (apply not_of; with_reducible assumption) | (apply left_of; with_reducible assumption) | (apply left_of; apply left_of; with_reducible assumption) | (apply and_of <;> first | (with_reducible assumption) | (apply not_of; with_reducible assumption))| (refine lin_plan (by kernel_rfl) ?_; (try (conv => whnf))) | (refine ⟨_, _, rfl, idx_map (by with_reducible assumption), rfl, ?_⟩; (try (conv => whnf))) | (refine ⟨rfl, ?_⟩; (try (conv => whnf))) | (exact Nat.le_refl 1) | ((apply ex3); (focus (with_reducible assumption)); (focus (with_reducible assumption)); (try (conv => whnf))) | ((apply ex2); (focus (with_reducible assumption)); (try (conv => whnf))) | (refine PureFn.dcq (f := 59) rfl ?_; (try (conv => whnf))) | (refine PureFn.dcq (f := 83) rfl ?_; (try (conv => whnf))) | ((refine ⟨_, _, fm_Check ?_, ?_, ?_⟩); rotate_left 1; (focus (first | (refine ⟨?_, trivial⟩ <;> first | (exact PLe.refl _) | (exact PLe.nil)) | (exact trivial))); (try (conv => whnf))) | (refine ⟨_, (by (conv => whnf); exact fm_Check _), rfl, ?_⟩; (try (conv => whnf))) | ((refine ⟨_, _, fm_Compact ?_, ?_, ?_⟩); rotate_left 1; (focus (first | (refine ⟨?_, trivial⟩ <;> first | (exact PLe.refl _) | (exact PLe.nil)) | (exact trivial))); (try (conv => whnf))) | (refine ⟨_, (by (conv => whnf); exact fm_Compact _), rfl, ?_⟩; (try (conv => whnf))) | fail)
    · have hb : bfold 0 l (x, []) = none := by rw [he]; simp only [bfold, h]; rfl
      have : buildL x l = [] := by rw [buildL, hb]
      rw [this]; exact .nil
    · have hb : bfold 0 l (x, []) = bfold (k + 1) (l.drop (k + 1)) (bstep k (y, F) o) := by rw [he]; simp only [bfold, h]; rfl
      have hz := shL_zero F (comp o)
      refine ⟨{ j : Nat // j ≤ (comp o).length }, fun j => [(2, .ref 0 0), (5, .buf 1 (shL F (comp o) j.1).length), (6, .pv (.int .i64 (k : Nat))), (8, .pv (.int .i64 (F.map Nd.pv).length)), (14, .pv (.sl (l.map fpv))), (15, .pv (.int .i64 (l.map fpv).length)), (16, .pv (.int .i64 (k : Nat))), (27, .pv (fpv (comp o))), (28, .pv (.int .i64 ((comp o).map Nd.pv).length)), (29, .pv (.int .i64 (j.1 : Nat)))], fun _ => 2,
        fun j => [(0, .var y.dvs), (1, .arr 6 (shL F (comp o) j.1))], fun j => (comp o).length - j.1, ⟨⟨0, Nat.zero_le _⟩, (by refine Wk.of ?_ ?_ rfl rfl rfl <;> (repeat' (first | (exact trivial) | (exact WkD.same _) | (exact WkO.same _ _ rfl) | (exact WkD.eq (congrArg (fun z : List PV => DV.buf _ z.length) hz)) | (exact WkO.same _ _ (congrArg (fun z => some (DObj.arr _ z)) hz)) | (exact WkD.any _) | (exact WkD.nil _ (Or.inl rfl)) | (exact WkD.nil _ (Or.inr rfl)) | (exact WkD.fz _ _ _ rfl (Or.inl ⟨_, rfl⟩) rfl) | (exact WkD.fz _ _ _ rfl (Or.inr rfl) rfl) | (refine WkD.int ?_) | (exact WkD.new' rfl rfl rfl) | (exact WkO.new _ _ rfl) | (refine WkO.vars rfl ?_) | (with_reducible rfl) | (exact rfl) | (refine ⟨?_, ?_⟩) | ((refine wrapA ?_ ?_ ?_); (focus (simp; done)); (focus ((try dsimp only); omega)); (focus ((try dsimp only); omega))) | fail)))⟩, ?_⟩
      rintro ⟨j, hj⟩
      (try (conv => whnf)); repeat' (first | (apply And.intro <;> (try (conv => whnf))) | (intro h; first | (with_reducible exact tf0 h) | (with_reducible exact ft0 h) | (with_reducible exact nt0 h) | (with_reducible exact nf0 h) | (exact litz h rfl) | (with_reducible exact tf h (by with_reducible assumption)) | (with_reducible exact tf (by with_reducible assumption) h) | (try (conv => whnf))) | (with_reducible rfl) | (apply True.intro) | (apply infoT; rfl) | (apply bleI; rfl) | (apply fitI; rfl) | (apply cellsI; rfl) | (apply szI; rfl) | (apply guardI; kernel_rfl) | (apply WhenQ.mk; (try (conv => whnf)); rotate_left; (try (conv => whnf)); rotate_right) | (with_reducible assumption) | (apply not_of; with_reducible assumption) | (apply left_of; with_reducible assumption) | (apply left_of; apply left_of; with_reducible assumption) | (apply and_of <;> first | (with_reducible assumption) | (apply not_of; with_reducible assumption))| (refine lin_plan (by kernel_rfl) ?_; (try (conv => whnf))) | (refine ⟨_, _, rfl, idx_map (by with_reducible assumption), rfl, ?_⟩; (try (conv => whnf))) | (refine ⟨rfl, ?_⟩; (try (conv => whnf))) | (exact Nat.le_refl 1) | ((apply ex3); (focus (with_reducible assumption)); (focus (with_reducible assumption)); (try (conv => whnf))) | ((apply ex2); (focus (with_reducible assumption)); (try (conv => whnf))) | fail)
      · have hj' : j < (comp o).length := by simpa using h
        have hn : (comp o)[j]? = some (comp o)[j] := List.getElem?_eq_getElem hj'
        have hs := shL_succ (F := F) hj'
        have hok := comp_okl o j _ hn
        generalize (comp o)[j] = n at hn hs hok
        (try (conv => whnf)); repeat' (first | (apply And.intro <;> (try (conv => whnf))) | (intro h; first | (with_reducible exact tf0 h) | (with_reducible exact ft0 h) | (with_reducible exact nt0 h) | (with_reducible exact nf0 h) | (exact litz h rfl) | (with_reducible exact tf h (by with_reducible assumption)) | (with_reducible exact tf (by with_reducible assumption) h) | (try (conv => whnf))) | (with_reducible rfl) | (apply True.intro) | (apply infoT; rfl) | (apply bleI; rfl) | (apply fitI; rfl) | (apply cellsI; rfl) | (apply szI; rfl) | (apply guardI; kernel_rfl) | (apply WhenQ.mk; (try (conv => whnf)); rotate_left; (try (conv => whnf)); rotate_right) | (with_reducible assumption) | (apply not_of; with_reducible assumption) | (apply left_of; with_reducible assumption) | (apply left_of; apply left_of; with_reducible assumption) | (apply and_of <;> first | (with_reducible assumption) | (apply not_of; with_reducible assumption))| (refine lin_plan (by kernel_rfl) ?_; (try (conv => whnf))) | (refine ⟨_, _, rfl, idx_map (by with_reducible assumption), rfl, ?_⟩; (try (conv => whnf))) | (refine ⟨rfl, ?_⟩; (try (conv => whnf))) | (exact Nat.le_refl 1) | ((apply ex3); (focus (with_reducible assumption)); (focus (with_reducible assumption)); (try (conv => whnf))) | ((apply ex2); (focus (with_reducible assumption)); (try (conv => whnf))) | (refine PureFn.dcq (f := 145) rfl ?_; (try (conv => whnf))) | ((refine ⟨_, _, fm_uses ?_, ?_, ?_⟩); rotate_left 1; (focus (first | (refine ⟨?_, trivial⟩ <;> first | (exact PLe.refl _) | (exact PLe.nil)) | (exact trivial))); (try (conv => whnf))) | (refine ⟨_, (by (conv => whnf); exact fm_uses _), rfl, ?_⟩; (try (conv => whnf))) | fail)
        refine ⟨{ z : Nd // z = shX F.length n }, fun z => [(2, .ref 0 0), (5, .buf 1 (shL F (comp o) j).length), (6, .pv (.int .i64 (k : Nat))), (8, .pv (.int .i64 (F.map Nd.pv).length)), (14, .pv (.sl (l.map fpv))), (15, .pv (.int .i64 (l.map fpv).length)), (16, .pv (.int .i64 (k : Nat))), (27, .pv (fpv (comp o))), (28, .pv (.int .i64 ((comp o).map Nd.pv).length)), (29, .pv (.int .i64 (j : Nat))), (10, .ref 2 0), (11, .ref 3 0)], fun _ => 4,
          fun z => [(0, .var y.dvs), (1, .arr 6 (shL F (comp o) j)), (2, .var z.1.dvs), (3, .var (usesDvs n.op))], ?_, ?_⟩
        · (try (conv => whnf)); repeat' (first | (apply And.intro <;> (try (conv => whnf))) | (intro h; first | (with_reducible exact tf0 h) | (with_reducible exact ft0 h) | (with_reducible exact nt0 h) | (with_reducible exact nf0 h) | (exact litz h rfl) | (with_reducible exact tf h (by with_reducible assumption)) | (with_reducible exact tf (by with_reducible assumption) h) | (try (conv => whnf))) | (with_reducible rfl) | (apply True.intro) | (apply infoT; rfl) | (apply bleI; rfl) | (apply fitI; rfl) | (apply cellsI; rfl) | (apply szI; rfl) | (apply guardI; kernel_rfl) | (apply WhenQ.mk; (try (conv => whnf)); rotate_left; (try (conv => whnf)); rotate_right) | (with_reducible assumption) | (apply not_of; with_reducible assumption) | (apply left_of; with_reducible assumption) | (apply left_of; apply left_of; with_reducible assumption) | (apply and_of <;> first | (with_reducible assumption) | (apply not_of; with_reducible assumption))| (refine lin_plan (by kernel_rfl) ?_; (try (conv => whnf))) | (refine ⟨_, _, rfl, idx_map (by with_reducible assumption), rfl, ?_⟩; (try (conv => whnf))) | (refine ⟨rfl, ?_⟩; (try (conv => whnf))) | (exact Nat.le_refl 1) | ((apply ex3); (focus (with_reducible assumption)); (focus (with_reducible assumption)); (try (conv => whnf))) | ((apply ex2); (focus (with_reducible assumption)); (try (conv => whnf))) | fail)
          · have := hok.x h
            refine ⟨⟨{ n with x := n.x + F.length }, by rw [shX, h]; rfl⟩, ?_⟩
            (refine Wk.of ?_ ?_ rfl rfl rfl <;> (repeat' (first | (exact trivial) | (exact WkD.same _) | (exact WkO.same _ _ rfl) | (exact WkD.any _) | (exact WkD.nil _ (Or.inl rfl)) | (exact WkD.nil _ (Or.inr rfl)) | (exact WkD.fz _ _ _ rfl (Or.inl ⟨_, rfl⟩) rfl) | (exact WkD.fz _ _ _ rfl (Or.inr rfl) rfl) | (refine WkD.int ?_) | (exact WkD.new' rfl rfl rfl) | (exact WkO.new _ _ rfl) | (refine WkO.vars rfl ?_) | (with_reducible rfl) | (exact rfl) | (refine ⟨?_, ?_⟩) | ((refine wrapA ?_ ?_ ?_); (focus (simp; done)); (focus ((try dsimp only); omega)); (focus ((try dsimp only); omega))) | fail)))
            exact wrapA (by simp) (by rw [List.length_map]; omega) (by rw [List.length_map]; omega)
          · exact ⟨⟨n, by rw [shX, h]; rfl⟩, (by refine Wk.of ?_ ?_ rfl rfl rfl <;> (repeat' (first | (exact trivial) | (exact WkD.same _) | (exact WkO.same _ _ rfl) | (exact WkD.any _) | (exact WkD.nil _ (Or.inl rfl)) | (exact WkD.nil _ (Or.inr rfl)) | (exact WkD.fz _ _ _ rfl (Or.inl ⟨_, rfl⟩) rfl) | (exact WkD.fz _ _ _ rfl (Or.inr rfl) rfl) | (refine WkD.int ?_) | (exact WkD.new' rfl rfl rfl) | (exact WkO.new _ _ rfl) | (refine WkO.vars rfl ?_) | (with_reducible rfl) | (exact rfl) | (refine ⟨?_, ?_⟩) | ((refine wrapA ?_ ?_ ?_); (focus (simp; done)); (focus ((try dsimp only); omega)); (focus ((try dsimp only); omega))) | fail)))⟩
        · rintro ⟨z, rfl⟩
          (try (conv => whnf)); repeat' (first | (apply And.intro <;> (try (conv => whnf))) | (intro h; first | (with_reducible exact tf0 h) | (with_reducible exact ft0 h) | (with_reducible exact nt0 h) | (with_reducible exact nf0 h) | (exact litz h rfl) | (with_reducible exact tf h (by with_reducible assumption)) | (with_reducible exact tf (by with_reducible assumption) h) | (try (conv => whnf))) | (with_reducible rfl) | (apply True.intro) | (apply infoT; rfl) | (apply bleI; rfl) | (apply fitI; rfl) | (apply cellsI; rfl) | (apply szI; rfl) | (apply guardI; kernel_rfl) | (apply WhenQ.mk; (try (conv => whnf)); rotate_left; (try (conv => whnf)); rotate_right) | (with_reducible assumption) | (apply not_of; with_reducible assumption) | (apply left_of; with_reducible assumption) | (apply left_of; apply left_of; with_reducible assumption) | (apply and_of <;> first | (with_reducible assumption) | (apply not_of; with_reducible assumption))| (refine lin_plan (by kernel_rfl) ?_; (try (conv => whnf))) | (refine ⟨_, _, rfl, idx_map (by with_reducible assumption), rfl, ?_⟩; (try (conv => whnf))) | (refine ⟨rfl, ?_⟩; (try (conv => whnf))) | (exact Nat.le_refl 1) | ((apply ex3); (focus (with_reducible assumption)); (focus (with_reducible assumption)); (try (conv => whnf))) | ((apply ex2); (focus (with_reducible assumption)); (try (conv => whnf))) | fail)
          refine ⟨{ z : Nd // z = shN F.length n }, fun z => [(2, .ref 0 0), (5, .buf 1 (shL F (comp o) j).length), (6, .pv (.int .i64 (k : Nat))), (8, .pv (.int .i64 (F.map Nd.pv).length)), (14, .pv (.sl (l.map fpv))), (15, .pv (.int .i64 (l.map fpv).length)), (16, .pv (.int .i64 (k : Nat))), (27, .pv (fpv (comp o))), (28, .pv (.int .i64 ((comp o).map Nd.pv).length)), (29, .pv (.int .i64 (j : Nat))), (10, .ref 2 0)], fun _ => 3,
            fun z => [(0, .var y.dvs), (1, .arr 6 (shL F (comp o) j)), (2, .var z.1.dvs)], ?_, ?_⟩
          · (try (conv => whnf)); repeat' (first | (apply And.intro <;> (try (conv => whnf))) | (intro h; first | (with_reducible exact tf0 h) | (with_reducible exact ft0 h) | (with_reducible exact nt0 h) | (with_reducible exact nf0 h) | (exact litz h rfl) | (with_reducible exact tf h (by with_reducible assumption)) | (with_reducible exact tf (by with_reducible assumption) h) | (try (conv => whnf))) | (with_reducible rfl) | (apply True.intro) | (apply infoT; rfl) | (apply bleI; rfl) | (apply fitI; rfl) | (apply cellsI; rfl) | (apply szI; rfl) | (apply guardI; kernel_rfl) | (apply WhenQ.mk; (try (conv => whnf)); rotate_left; (try (conv => whnf)); rotate_right) | (with_reducible assumption) | (apply not_of; with_reducible assumption) | (apply left_of; with_reducible assumption) | (apply left_of; apply left_of; with_reducible assumption) | (apply and_of <;> first | (with_reducible assumption) | (apply not_of; with_reducible assumption))| (refine lin_plan (by kernel_rfl) ?_; (try (conv => whnf))) | (refine ⟨_, _, rfl, idx_map (by with_reducible assumption), rfl, ?_⟩; (try (conv => whnf))) | (refine ⟨rfl, ?_⟩; (try (conv => whnf))) | (exact Nat.le_refl 1) | ((apply ex3); (focus (with_reducible assumption)); (focus (with_reducible assumption)); (try (conv => whnf))) | ((apply ex2); (focus (with_reducible assumption)); (try (conv => whnf))) | fail)
            · have := hok.y h
              refine ⟨⟨{ shX F.length n with y := n.y + F.length }, by rw [shN, h]; rfl⟩, ?_⟩
              (refine Wk.of ?_ ?_ rfl rfl rfl <;> (repeat' (first | (exact trivial) | (exact WkD.same _) | (exact WkO.same _ _ rfl) | (exact WkD.any _) | (exact WkD.nil _ (Or.inl rfl)) | (exact WkD.nil _ (Or.inr rfl)) | (exact WkD.fz _ _ _ rfl (Or.inl ⟨_, rfl⟩) rfl) | (exact WkD.fz _ _ _ rfl (Or.inr rfl) rfl) | (refine WkD.int ?_) | (exact WkD.new' rfl rfl rfl) | (exact WkO.new _ _ rfl) | (refine WkO.vars rfl ?_) | (with_reducible rfl) | (exact rfl) | (refine ⟨?_, ?_⟩) | ((refine wrapA ?_ ?_ ?_); (focus (simp; done)); (focus ((try dsimp only); omega)); (focus ((try dsimp only); omega))) | fail)))
              refine (congrArg (fun v => IntKind.wrap .i64 (v + ((F.map Nd.pv).length : Int))) (shX_y F.length n)).trans ?_
              exact wrapA (by simp) (by rw [List.length_map]; omega) (by rw [List.length_map]; omega)
            · exact ⟨⟨shX F.length n, by rw [shN, h]; rfl⟩, (by refine Wk.of ?_ ?_ rfl rfl rfl <;> (repeat' (first | (exact trivial) | (exact WkD.same _) | (exact WkO.same _ _ rfl) | (exact WkD.any _) | (exact WkD.nil _ (Or.inl rfl)) | (exact WkD.nil _ (Or.inr rfl)) | (exact WkD.fz _ _ _ rfl (Or.inl ⟨_, rfl⟩) rfl) | (exact WkD.fz _ _ _ rfl (Or.inr rfl) rfl) | (refine WkD.int ?_) | (exact WkD.new' rfl rfl rfl) | (exact WkO.new _ _ rfl) | (refine WkO.vars rfl ?_) | (with_reducible rfl) | (exact rfl) | (refine ⟨?_, ?_⟩) | ((refine wrapA ?_ ?_ ?_); (focus (simp; done)); (focus ((try dsimp only); omega)); (focus ((try dsimp only); omega))) | fail)))⟩
          · rintro ⟨z, rfl⟩
            (try (conv => whnf)); repeat' (first | (apply And.intro <;> (try (conv => whnf))) | (intro h; first | (with_reducible exact tf0 h) | (with_reducible exact ft0 h) | (with_reducible exact nt0 h) | (with_reducible exact nf0 h) | (exact litz h rfl) | (with_reducible exact tf h (by with_reducible assumption)) | (with_reducible exact tf (by with_reducible assumption) h) | (try (conv => whnf))) | (with_reducible rfl) | (apply True.intro) | (apply infoT; rfl) | (apply bleI; rfl) | (apply fitI; rfl) | (apply cellsI; rfl) | (apply szI; rfl) | (apply guardI; kernel_rfl) | (apply WhenQ.mk; (try (conv => whnf)); rotate_left; (try (conv => whnf)); rotate_right) | (with_reducible assumption) | (apply not_of; with_reducible assumption) | (apply left_of; with_reducible assumption) | (apply left_of; apply left_of; with_reducible assumption) | (apply and_of <;> first | (with_reducible assumption) | (apply not_of; with_reducible assumption))| (refine lin_plan (by kernel_rfl) ?_; (try (conv => whnf))) | (refine ⟨_, _, rfl, idx_map (by with_reducible assumption), rfl, ?_⟩; (try (conv => whnf))) | (refine ⟨rfl, ?_⟩; (try (conv => whnf))) | (exact Nat.le_refl 1) | ((apply ex3); (focus (with_reducible assumption)); (focus (with_reducible assumption)); (try (conv => whnf))) | ((apply ex2); (focus (with_reducible assumption)); (try (conv => whnf))) | fail)
            · show (shL F (comp o) j).length + 1 ≤ 4294967296
              rw [shL_len hj]; omega
            · exact ⟨⟨j + 1, hj'⟩, by show (comp o).length - (j + 1) < (comp o).length - j; omega, (by refine Wk.of ?_ ?_ rfl rfl rfl <;> (repeat' (first | (exact trivial) | (exact WkD.same _) | (exact WkO.same _ _ rfl) | (exact WkD.eq (congrArg (fun z : List PV => DV.buf _ z.length) hs)) | (exact WkO.same _ _ (congrArg (fun z => some (DObj.arr _ z)) hs)) | (exact WkD.any _) | (exact WkD.nil _ (Or.inl rfl)) | (exact WkD.nil _ (Or.inr rfl)) | (exact WkD.fz _ _ _ rfl (Or.inl ⟨_, rfl⟩) rfl) | (exact WkD.fz _ _ _ rfl (Or.inr rfl) rfl) | (refine WkD.int ?_) | (exact WkD.new' rfl rfl rfl) | (exact WkO.new _ _ rfl) | (refine WkO.vars rfl ?_) | (with_reducible rfl) | (exact rfl) | (refine ⟨?_, ?_⟩) | ((refine wrapA ?_ ?_ ?_); (focus (simp; done)); (focus ((try dsimp only); omega)); (focus ((try dsimp only); omega))) | fail)))⟩
      · have hs := bstep_t (y := y) (F := F) (o := o) h
        have hj' : j = (comp o).length := by simp at *; omega
        subst hj'
        have hse := shL_end F (comp o)
        rw [hs] at hb
        have hG := okl_append hF (comp_okl o)
        have hGl : (F ++ (comp o).map (shN F.length)).length ≤ 200 * (k + 1) := by rw [List.length_append, List.length_map]; omega
        generalize (F ++ (comp o).map (shN F.length)) = G at hse hb hG hGl
        have hGn : ((shL F (comp o) (comp o).length).length : Int) = G.length := by rw [hse, List.length_map]
        refine ⟨⟨(k + 1, { y with x := (G.length : Int) - 1 }, G), hk', hb, hG, hGl⟩, by show l.length - (k + 1) < l.length - k; omega, ?_⟩
        (refine Wk.of ?_ ?_ rfl rfl rfl <;> (repeat' (first | (exact trivial) | (exact WkD.same _) | (exact WkO.same _ _ rfl) | (exact WkD.eq (congrArg (fun z : List PV => DV.buf _ z.length) hse)) | (exact WkO.same _ _ (congrArg (fun z => some (DObj.arr _ z)) hse)) | (exact WkD.any _) | (exact WkD.nil _ (Or.inl rfl)) | (exact WkD.nil _ (Or.inr rfl)) | (exact WkD.fz _ _ _ rfl (Or.inl ⟨_, rfl⟩) rfl) | (exact WkD.fz _ _ _ rfl (Or.inr rfl) rfl) | (refine WkD.int ?_) | (exact WkD.new' rfl rfl rfl) | (exact WkO.new _ _ rfl) | (refine WkO.vars rfl ?_) | (with_reducible rfl) | (exact rfl) | (refine ⟨?_, ?_⟩) | ((refine wrapA ?_ ?_ ?_); (focus (simp; done)); (focus ((try dsimp only); omega)); (focus ((try dsimp only); omega))) | fail)))
        exact (congrArg (fun z : Int => IntKind.wrap .i64 (z - 1)) hGn).trans (wrapA rfl (by omega) (by omega))
      · have hs := bstep_f (y := y) (F := F) (o := o) h
        have hj' : j = (comp o).length := by simp at *; omega
        subst hj'
        have hse := shL_end F (comp o)
        rw [hs] at hb
        have hG := okl_append hF (comp_okl o)
        have hGl : (F ++ (comp o).map (shN F.length)).length ≤ 200 * (k + 1) := by rw [List.length_append, List.length_map]; omega
        generalize (F ++ (comp o).map (shN F.length)) = G at hse hb hG hGl
        have hGn : ((shL F (comp o) (comp o).length).length : Int) = G.length := by rw [hse, List.length_map]
        refine ⟨⟨(k + 1, { y with y := (G.length : Int) - 1 }, G), hk', hb, hG, hGl⟩, by show l.length - (k + 1) < l.length - k; omega, ?_⟩
        (refine Wk.of ?_ ?_ rfl rfl rfl <;> (repeat' (first | (exact trivial) | (exact WkD.same _) | (exact WkO.same _ _ rfl) | (exact WkD.eq (congrArg (fun z : List PV => DV.buf _ z.length) hse)) | (exact WkO.same _ _ (congrArg (fun z => some (DObj.arr _ z)) hse)) | (exact WkD.any _) | (exact WkD.nil _ (Or.inl rfl)) | (exact WkD.nil _ (Or.inr rfl)) | (exact WkD.fz _ _ _ rfl (Or.inl ⟨_, rfl⟩) rfl) | (exact WkD.fz _ _ _ rfl (Or.inr rfl) rfl) | (refine WkD.int ?_) | (exact WkD.new' rfl rfl rfl) | (exact WkO.new _ _ rfl) | (refine WkO.vars rfl ?_) | (with_reducible rfl) | (exact rfl) | (refine ⟨?_, ?_⟩) | ((refine wrapA ?_ ?_ ?_); (focus (simp; done)); (focus ((try dsimp only); omega)); (focus ((try dsimp only); omega))) | fail)))
        exact (congrArg (fun z : Int => IntKind.wrap .i64 (z - 1)) hGn).trans (wrapA rfl (by omega) (by omega))
  · have hk' : k = l.length := by simp at *; omega
    subst hk'
    rw [List.drop_length] at he
    have hbl : buildL x l = bfin (y, F) := by rw [buildL, he]; rfl
    rw [hbl]
    rw [bfin]
    simp only
    have hne := fm_nodeError y (F.map Nd.pv).length
    have hFl' : F.length ≤ 400 := by omega
    (try (conv => whnf)); repeat' (first | (apply And.intro <;> (try (conv => whnf))) | (intro h; first | (with_reducible exact tf0 h) | (with_reducible exact ft0 h) | (with_reducible exact nt0 h) | (with_reducible exact nf0 h) | (exact litz h rfl) | (with_reducible exact tf h (by with_reducible assumption)) | (with_reducible exact tf (by with_reducible assumption) h) | (try (conv => whnf))) | (with_reducible rfl) | (apply True.intro) | (apply infoT; rfl) | (apply bleI; rfl) | (apply fitI; rfl) | (apply cellsI; rfl) | (apply szI; rfl) | (apply guardI; kernel_rfl) | (apply WhenQ.mk; (try (conv => whnf)); rotate_left; (try (conv => whnf)); rotate_right) | (with_reducible assumption) | (apply not_of; with_reducible assumption) | (apply left_of; with_reducible assumption) | (apply left_of; apply left_of; with_reducible assumption) | (apply and_of <;> first | (with_reducible assumption) | (apply not_of; with_reducible assumption))| (refine lin_plan (by kernel_rfl) ?_; (try (conv => whnf))) | (refine ⟨_, _, rfl, idx_map (by with_reducible assumption), rfl, ?_⟩; (try (conv => whnf))) | (refine ⟨rfl, ?_⟩; (try (conv => whnf))) | (exact Nat.le_refl 1) | ((apply ex3); (focus (with_reducible assumption)); (focus (with_reducible assumption)); (try (conv => whnf))) | ((apply ex2); (focus (with_reducible assumption)); (try (conv => whnf))) | (refine PureFn.dcq (f := 123) rfl ?_; (try (conv => whnf))) | ((refine ⟨_, _, hne, ?_, ?_⟩); (focus (first | (refine ⟨?_, ?_, trivial⟩ <;> first | (exact PLe.refl _) | (exact PLe.nil)) | (exact trivial))); (try (conv => whnf))) | (refine ⟨_, (by (conv => whnf); exact hne), rfl, ?_⟩; (try (conv => whnf))) | fail)
    · rw [List.length_map] at h
      rw [h]; exact .nil
    · show (F.map Nd.pv).length + 1 ≤ 4294967296
      rw [List.length_map]; omega
    · rw [List.length_map] at h
      have hok : OkNd y F.length := nodeErr_ok.1 (by simpa using h)
      have hcp : PureFn Try.prog 150 [.sl (F.map Nd.pv ++ [y.pv]), .int .i64 ((F.map Nd.pv).length : Int)] (fpv (canon (F ++ [y]) F.length)) := by
        have := fm_compact (F ++ [y]) F.length (okl_snoc hF hok).wf (by simp) (by simp; omega)
        rw [show fpv (F ++ [y]) = .sl (F.map Nd.pv ++ [y.pv]) from congrArg PV.sl List.map_append] at this
        rw [List.length_map]; exact this
      rw [h]
      (try (conv => whnf)); repeat' (first | (apply And.intro <;> (try (conv => whnf))) | (intro h; first | (with_reducible exact tf0 h) | (with_reducible exact ft0 h) | (with_reducible exact nt0 h) | (with_reducible exact nf0 h) | (exact litz h rfl) | (with_reducible exact tf h (by with_reducible assumption)) | (with_reducible exact tf (by with_reducible assumption) h) | (try (conv => whnf))) | (with_reducible rfl) | (apply True.intro) | (apply infoT; rfl) | (apply bleI; rfl) | (apply fitI; rfl) | (apply cellsI; rfl) | (apply szI; rfl) | (apply guardI; kernel_rfl) | (apply WhenQ.mk; (try (conv => whnf)); rotate_left; (try (conv => whnf)); rotate_right) | (with_reducible assumption) | (apply not_of; with_reducible assumption) | (apply left_of; with_reducible assumption) | (apply left_of; apply left_of; with_reducible assumption) | (apply and_of <;> first | (with_reducible assumption) | (apply not_of; with_reducible assumption))| (refine lin_plan (by kernel_rfl) ?_; (try (conv => whnf))) | (refine ⟨_, _, rfl, idx_map (by with_reducible assumption), rfl, ?_⟩; (try (conv => whnf))) | (refine ⟨rfl, ?_⟩; (try (conv => whnf))) | (exact Nat.le_refl 1) | ((apply ex3); (focus (with_reducible assumption)); (focus (with_reducible assumption)); (try (conv => whnf))) | ((apply ex2); (focus (with_reducible assumption)); (try (conv => whnf))) | (refine PureFn.dcq (f := 150) rfl ?_; (try (conv => whnf))) | ((refine ⟨_, _, hcp, ?_, ?_⟩); (focus (first | (refine ⟨?_, ?_, trivial⟩ <;> first | (exact PLe.refl _) | (exact PLe.nil)) | (exact trivial))); (try (conv => whnf))) | (refine ⟨_, (by (conv => whnf); exact hcp), rfl, ?_⟩; (try (conv => whnf))) | fail)
      · rw [List.length_map] at h
        rw [h]; exact .nil
      · rw [List.length_map] at h
        rw [h]; exact .refl _
end Go.Proofs.Ytibenjpkinhjhaa
set_option maxRecDepth 100000
set_option maxHeartbeats 4000000
namespace Go.Proofs.Ytibenjpkinhjhaa
open Go Go.Dv

def n0 (op : Int) : Nd := ⟨op, 0, 0, 0, 0, 0⟩
def nI (op i : Int) : Nd := ⟨op, i, 0, 0, 0, 0⟩
theorem fm_True : PureFn Try.prog 101 [] (fpv (buildL (n0 1) [])) := by
  refine PureFn.intro mixed (fn := Try.f101) rfl rfl rfl fun M w0 => ?_
  have hb := fm_build (n0 1) [] (by simp)
  (try (conv => whnf)); repeat' (first | (apply And.intro <;> (try (conv => whnf))) | (intro h; first | (with_reducible exact tf0 h) | (with_reducible exact ft0 h) | (with_reducible exact nt0 h) | (with_reducible exact nf0 h) | (exact litz h rfl) | (with_reducible exact tf h (by with_reducible assumption)) | (with_reducible exact tf (by with_reducible assumption) h) | (try (conv => whnf))) | (with_reducible rfl) | (apply True.intro) | (apply infoT; rfl) | (apply bleI; rfl) | (apply fitI; rfl) | (apply cellsI; rfl) | (apply szI; rfl) | (apply guardI; kernel_rfl) | (apply WhenQ.mk; (try (conv => whnf)); rotate_left; (try (conv => whnf)); rotate_right) | (with_reducible assumption) | (apply not_of; with_reducible assumption) | (apply left_of; with_reducible assumption) | (apply left_of; apply left_of; with_reducible assumption) | (apply and_of <;> first | (with_reducible assumption) | (apply not_of; with_reducible assumption))| (refine lin_plan (by kernel_rfl) ?_; (try (conv => whnf))) | (refine ⟨_, _, rfl, idx_map (by with_reducible assumption), rfl, ?_⟩; (try (conv => whnf))) | (refine ⟨rfl, ?_⟩; (try (conv => whnf))) | (exact Nat.le_refl 1) | ((apply ex3); (focus (with_reducible assumption)); (focus (with_reducible assumption)); (try (conv => whnf))) | ((apply ex2); (focus (with_reducible assumption)); (try (conv => whnf))) | (refine PureFn.dcq (f := 129) rfl ?_; (try (conv => whnf))) | ((refine ⟨_, _, hb, ?_, ?_⟩); (focus (first | (refine ⟨?_, ?_, trivial⟩ <;> first | (exact PLe.refl _) | (exact PLe.nil)) | (exact trivial))); (try (conv => whnf))) | (refine ⟨_, (by (conv => whnf); exact hb), rfl, ?_⟩; (try (conv => whnf))) | fail)
  exact .refl _
theorem fm_False : PureFn Try.prog 108 [] (fpv (buildL (n0 2) [])) := by
  refine PureFn.intro mixed (fn := Try.f108) rfl rfl rfl fun M w0 => ?_
  have hb := fm_build (n0 2) [] (by simp)
  (try (conv => whnf)); repeat' (first | (apply And.intro <;> (try (conv => whnf))) | (intro h; first | (with_reducible exact tf0 h) | (with_reducible exact ft0 h) | (with_reducible exact nt0 h) | (with_reducible exact nf0 h) | (exact litz h rfl) | (with_reducible exact tf h (by with_reducible assumption)) | (with_reducible exact tf (by with_reducible assumption) h) | (try (conv => whnf))) | (with_reducible rfl) | (apply True.intro) | (apply infoT; rfl) | (apply bleI; rfl) | (apply fitI; rfl) | (apply cellsI; rfl) | (apply szI; rfl) | (apply guardI; kernel_rfl) | (apply WhenQ.mk; (try (conv => whnf)); rotate_left; (try (conv => whnf)); rotate_right) | (with_reducible assumption) | (apply not_of; with_reducible assumption) | (apply left_of; with_reducible assumption) | (apply left_of; apply left_of; with_reducible assumption) | (apply and_of <;> first | (with_reducible assumption) | (apply not_of; with_reducible assumption))| (refine lin_plan (by kernel_rfl) ?_; (try (conv => whnf))) | (refine ⟨_, _, rfl, idx_map (by with_reducible assumption), rfl, ?_⟩; (try (conv => whnf))) | (refine ⟨rfl, ?_⟩; (try (conv => whnf))) | (exact Nat.le_refl 1) | ((apply ex3); (focus (with_reducible assumption)); (focus (with_reducible assumption)); (try (conv => whnf))) | ((apply ex2); (focus (with_reducible assumption)); (try (conv => whnf))) | (refine PureFn.dcq (f := 129) rfl ?_; (try (conv => whnf))) | ((refine ⟨_, _, hb, ?_, ?_⟩); (focus (first | (refine ⟨?_, ?_, trivial⟩ <;> first | (exact PLe.refl _) | (exact PLe.nil)) | (exact trivial))); (try (conv => whnf))) | (refine ⟨_, (by (conv => whnf); exact hb), rfl, ?_⟩; (try (conv => whnf))) | fail)
  exact .refl _
theorem fm_Fact (i : Int) : PureFn Try.prog 62 [.int .i64 i] (fpv (buildL (nI 3 i) [])) := by
  refine PureFn.intro mixed (fn := Try.f62) rfl rfl rfl fun M w0 => ?_
  have hb := fm_build (nI 3 i) [] (by simp)
  (try (conv => whnf)); repeat' (first | (apply And.intro <;> (try (conv => whnf))) | (intro h; first | (with_reducible exact tf0 h) | (with_reducible exact ft0 h) | (with_reducible exact nt0 h) | (with_reducible exact nf0 h) | (exact litz h rfl) | (with_reducible exact tf h (by with_reducible assumption)) | (with_reducible exact tf (by with_reducible assumption) h) | (try (conv => whnf))) | (with_reducible rfl) | (apply True.intro) | (apply infoT; rfl) | (apply bleI; rfl) | (apply fitI; rfl) | (apply cellsI; rfl) | (apply szI; rfl) | (apply guardI; kernel_rfl) | (apply WhenQ.mk; (try (conv => whnf)); rotate_left; (try (conv => whnf)); rotate_right) | (with_reducible assumption) | (apply not_of; with_reducible assumption) | (apply left_of; with_reducible assumption) | (apply left_of; apply left_of; with_reducible assumption) | (apply and_of <;> first | (with_reducible assumption) | (apply not_of; with_reducible assumption))| (refine lin_plan (by kernel_rfl) ?_; (try (conv => whnf))) | (refine ⟨_, _, rfl, idx_map (by with_reducible assumption), rfl, ?_⟩; (try (conv => whnf))) | (refine ⟨rfl, ?_⟩; (try (conv => whnf))) | (exact Nat.le_refl 1) | ((apply ex3); (focus (with_reducible assumption)); (focus (with_reducible assumption)); (try (conv => whnf))) | ((apply ex2); (focus (with_reducible assumption)); (try (conv => whnf))) | (refine PureFn.dcq (f := 129) rfl ?_; (try (conv => whnf))) | ((refine ⟨_, _, hb, ?_, ?_⟩); (focus (first | (refine ⟨?_, ?_, trivial⟩ <;> first | (exact PLe.refl _) | (exact PLe.nil)) | (exact trivial))); (try (conv => whnf))) | (refine ⟨_, (by (conv => whnf); exact hb), rfl, ?_⟩; (try (conv => whnf))) | fail)
  exact .refl _
theorem fm_Not (f : List Nd) : PureFn Try.prog 106 [fpv f] (fpv (buildL (n0 4) [f])) := by
  refine PureFn.intro mixed (fn := Try.f106) rfl rfl rfl fun M w0 => ?_
  have hb := fm_build (n0 4) [f] (by simp)
  (try (conv => whnf)); repeat' (first | (apply And.intro <;> (try (conv => whnf))) | (intro h; first | (with_reducible exact tf0 h) | (with_reducible exact ft0 h) | (with_reducible exact nt0 h) | (with_reducible exact nf0 h) | (exact litz h rfl) | (with_reducible exact tf h (by with_reducible assumption)) | (with_reducible exact tf (by with_reducible assumption) h) | (try (conv => whnf))) | (with_reducible rfl) | (apply True.intro) | (apply infoT; rfl) | (apply bleI; rfl) | (apply fitI; rfl) | (apply cellsI; rfl) | (apply szI; rfl) | (apply guardI; kernel_rfl) | (apply WhenQ.mk; (try (conv => whnf)); rotate_left; (try (conv => whnf)); rotate_right) | (with_reducible assumption) | (apply not_of; with_reducible assumption) | (apply left_of; with_reducible assumption) | (apply left_of; apply left_of; with_reducible assumption) | (apply and_of <;> first | (with_reducible assumption) | (apply not_of; with_reducible assumption))| (refine lin_plan (by kernel_rfl) ?_; (try (conv => whnf))) | (refine ⟨_, _, rfl, idx_map (by with_reducible assumption), rfl, ?_⟩; (try (conv => whnf))) | (refine ⟨rfl, ?_⟩; (try (conv => whnf))) | (exact Nat.le_refl 1) | ((apply ex3); (focus (with_reducible assumption)); (focus (with_reducible assumption)); (try (conv => whnf))) | ((apply ex2); (focus (with_reducible assumption)); (try (conv => whnf))) | (refine PureFn.dcq (f := 129) rfl ?_; (try (conv => whnf))) | ((refine ⟨_, _, hb, ?_, ?_⟩); (focus (first | (refine ⟨?_, ?_, trivial⟩ <;> first | (exact PLe.refl _) | (exact PLe.nil)) | (exact trivial))); (try (conv => whnf))) | (refine ⟨_, (by (conv => whnf); exact hb), rfl, ?_⟩; (try (conv => whnf))) | fail)
  exact .refl _
theorem fm_And (f : List Nd) (g : List Nd) : PureFn Try.prog 107 [fpv f, fpv g] (fpv (buildL (n0 5) [f, g])) := by
  refine PureFn.intro mixed (fn := Try.f107) rfl rfl rfl fun M w0 => ?_
  have hb := fm_build (n0 5) [f, g] (by simp)
  (try (conv => whnf)); repeat' (first | (apply And.intro <;> (try (conv => whnf))) | (intro h; first | (with_reducible exact tf0 h) | (with_reducible exact ft0 h) | (with_reducible exact nt0 h) | (with_reducible exact nf0 h) | (exact litz h rfl) | (with_reducible exact tf h (by with_reducible assumption)) | (with_reducible exact tf (by with_reducible assumption) h) | (try (conv => whnf))) | (with_reducible rfl) | (apply True.intro) | (apply infoT; rfl) | (apply bleI; rfl) | (apply fitI; rfl) | (apply cellsI; rfl) | (apply szI; rfl) | (apply guardI; kernel_rfl) | (apply WhenQ.mk; (try (conv => whnf)); rotate_left; (try (conv => whnf)); rotate_right) | (with_reducible assumption) | (apply not_of; with_reducible assumption) | (apply left_of; with_reducible assumption) | (apply left_of; apply left_of; with_reducible assumption) | (apply and_of <;> first | (with_reducible assumption) | (apply not_of; with_reducible assumption))| (refine lin_plan (by kernel_rfl) ?_; (try (conv => whnf))) | (refine ⟨_, _, rfl, idx_map (by with_reducible assumption), rfl, ?_⟩; (try (conv => whnf))) | (refine ⟨rfl, ?_⟩; (try (conv => whnf))) | (exact Nat.le_refl 1) | ((apply ex3); (focus (with_reducible assumption)); (focus (with_reducible assumption)); (try (conv => whnf))) | ((apply ex2); (focus (with_reducible assumption)); (try (conv => whnf))) | (refine PureFn.dcq (f := 129) rfl ?_; (try (conv => whnf))) | ((refine ⟨_, _, hb, ?_, ?_⟩); (focus (first | (refine ⟨?_, ?_, trivial⟩ <;> first | (exact PLe.refl _) | (exact PLe.nil)) | (exact trivial))); (try (conv => whnf))) | (refine ⟨_, (by (conv => whnf); exact hb), rfl, ?_⟩; (try (conv => whnf))) | fail)
  exact .refl _
end Go.Proofs.Ytibenjpkinhjhaa
namespace Go.Proofs.Ytibenjpkinhjhaa
open Go Go.Dv

inductive Tr where
  | none
  | nd (op i e g : Int) (x y : Tr)
  deriving DecidableEq

/-- The tree of a node. -/
def trn (f : List Nd) : Nat → Nat → Tr
  | 0, _ => .none
  | n + 1, i => match f[i]? with
    | none => .none
    | some x => .nd x.op x.i x.e x.g (bif usesX x.op then trn f n x.x.toNat else .none) (bif usesY x.op then trn f n x.y.toNat else .none)
def tree (f : List Nd) (i : Nat) : Tr := trn f (i + 1) i
/-- The walk over a tree. -/
def finT : Tr → List Nd → Nat × List Nd
  | .none, out => (0, out)
  | .nd op i e g a b, out => putN (finT b (finT a out).2).2 ⟨op, i, e, g, ((finT a out).1 : Int), ((finT b (finT a out).2).1 : Int)⟩
def Tr.size : Tr → Nat
  | .none => 0
  | .nd _ _ _ _ a b => a.size + b.size + 1

theorem trn_fuel {f : List Nd} (hf : Okl f) : ∀ (n m i : Nat), i < n → i < m → trn f n i = trn f m i
  | 0, _, i, h, _ => by omega
  | _ + 1, 0, i, _, h => by omega
  | n + 1, m + 1, i, hn, hm => by
    simp only [trn]
    cases hx : f[i]? with
    | none => rfl
    | some x =>
      have ok := hf i x hx
      simp only
      have e1 : (bif usesX x.op then trn f n x.x.toNat else .none) = (bif usesX x.op then trn f m x.x.toNat else .none) := by
        cases hu : usesX x.op with
        | false => rfl
        | true => have := ok.x hu; exact trn_fuel hf n m x.x.toNat (by omega) (by omega)
      have e2 : (bif usesY x.op then trn f n x.y.toNat else .none) = (bif usesY x.op then trn f m x.y.toNat else .none) := by
        cases hu : usesY x.op with
        | false => rfl
        | true => have := ok.y hu; exact trn_fuel hf n m x.y.toNat (by omega) (by omega)
      rw [e1, e2]
theorem trn_succ {f : List Nd} {n i : Nat} {x : Nd} (hx : f[i]? = some x) : trn f (n + 1) i = .nd x.op x.i x.e x.g (bif usesX x.op then trn f n x.x.toNat else .none) (bif usesY x.op then trn f n x.y.toNat else .none) := by
  simp only [trn, hx]
theorem tree_nd {f : List Nd} (hf : Okl f) {i : Nat} {x : Nd} (hx : f[i]? = some x) :
    tree f i = .nd x.op x.i x.e x.g (bif usesX x.op then tree f x.x.toNat else .none) (bif usesY x.op then tree f x.y.toNat else .none) := by
  have ok := hf i x hx
  have e0 : tree f i = _ := trn_succ (n := i) hx
  rw [e0]
  unfold tree
  have e1 : (bif usesX x.op then trn f i x.x.toNat else .none) = (bif usesX x.op then trn f (x.x.toNat + 1) x.x.toNat else .none) := by
    cases hu : usesX x.op with
    | false => rfl
    | true => have := ok.x hu; exact trn_fuel hf _ _ _ (by omega) (by omega)
  have e2 : (bif usesY x.op then trn f i x.y.toNat else .none) = (bif usesY x.op then trn f (x.y.toNat + 1) x.y.toNat else .none) := by
    cases hu : usesY x.op with
    | false => rfl
    | true => have := ok.y hu; exact trn_fuel hf _ _ _ (by omega) (by omega)
  rw [e1, e2]
theorem trn_append (f t : List Nd) (hf : Okl f) : ∀ (n i : Nat), i < f.length → trn (f ++ t) n i = trn f n i
  | 0, _, _ => rfl
  | n + 1, i, hi => by
    simp only [trn]
    rw [List.getElem?_append_left hi, List.getElem?_eq_getElem hi]
    have ok := hf i _ (List.getElem?_eq_getElem hi)
    generalize f[i] = x at ok
    simp only
    have e1 : (bif usesX x.op then trn (f ++ t) n x.x.toNat else .none) = (bif usesX x.op then trn f n x.x.toNat else .none) := by
      cases hu : usesX x.op with
      | false => rfl
      | true => have := ok.x hu; exact trn_append f t hf n x.x.toNat (by omega)
    have e2 : (bif usesY x.op then trn (f ++ t) n x.y.toNat else .none) = (bif usesY x.op then trn f n x.y.toNat else .none) := by
      cases hu : usesY x.op with
      | false => rfl
      | true => have := ok.y hu; exact trn_append f t hf n x.y.toNat (by omega)
    rw [e1, e2]
theorem tree_append {f t : List Nd} (hf : Okl f) {i : Nat} (hi : i < f.length) : tree (f ++ t) i = tree f i := trn_append f t hf _ _ hi

theorem idx_none {x : Nd} : ∀ {out : List Nd} {i : Nat}, idx x out i = none ↔ x ∉ out
  | [], i => by simp [idx]
  | n :: r, i => by
    simp only [idx, List.mem_cons, not_or]
    by_cases e : n = x
    · rw [if_pos e]; subst e; simp
    · rw [if_neg e, idx_none]
      exact ⟨fun h => ⟨fun q => e q.symm, h⟩, fun h => h.2⟩
theorem idx_of {x : Nd} {out : List Nd} (hn : out.Nodup) {v : Nat} (hv : out[v]? = some x) : idx x out 0 = some v := by
  cases h : idx x out 0 with
  | none => exact absurd (List.mem_iff_getElem?.2 ⟨v, hv⟩) (idx_none.1 h)
  | some k =>
    have h2 := (idx_some h).2
    simp only [Nat.sub_zero] at h2
    obtain ⟨l1, e1⟩ := List.getElem?_eq_some_iff.1 h2
    obtain ⟨l2, e2⟩ := List.getElem?_eq_some_iff.1 hv
    rw [(List.getElem_inj hn).1 (e1.trans e2.symm)]
theorem putN_nodup {out : List Nd} {x : Nd} (hn : out.Nodup) : (putN out x).2.Nodup := by
  unfold putN
  cases h : idx x out 0 with
  | some k => exact hn
  | none =>
    have := idx_none.1 h
    simp only
    rw [List.nodup_append]
    refine ⟨hn, by simp, fun a ha b hb => ?_⟩
    simp at hb; subst hb
    intro e; subst e; exact this ha

/-- A tree that stands in a list already. -/
theorem finT_old {out : List Nd} (ho : Okl out) (hn : out.Nodup) : ∀ (t : Tr) (v : Nat), v < out.length → tree out v = t → finT t out = (v, out)
  | .none, v, hv, ht => by
    rw [tree_nd ho (List.getElem?_eq_getElem hv)] at ht
    cases ht
  | .nd op i e g a b, v, hv, ht => by
    have hx : out[v]? = some out[v] := List.getElem?_eq_getElem hv
    have ok := ho v _ hx
    rw [tree_nd ho hx] at ht
    generalize hxx : out[v] = x at hx ok ht
    simp only [Tr.nd.injEq] at ht
    obtain ⟨h1, h2, h3, h4, ha, hb⟩ := ht
    have fa : finT a out = (x.x.toNat, out) := by
      cases hu : usesX x.op with
      | false => rw [hu] at ha; subst ha; rw [ok.nox hu]; rfl
      | true =>
        rw [hu] at ha
        have := ok.x hu
        exact finT_old ho hn a x.x.toNat (by omega) ha
    have fb : finT b out = (x.y.toNat, out) := by
      cases hu : usesY x.op with
      | false => rw [hu] at hb; subst hb; rw [ok.noy hu]; rfl
      | true =>
        rw [hu] at hb
        have := ok.y hu
        exact finT_old ho hn b x.y.toNat (by omega) hb
    have hz : (⟨op, i, e, g, ((finT a out).1 : Int), ((finT b (finT a out).2).1 : Int)⟩ : Nd) = x := by
      rw [fa]; simp only; rw [fb]
      have p1 : 0 ≤ x.x := by cases hu : usesX x.op with
        | false => rw [ok.nox hu]; exact Int.le_refl 0
        | true => exact (ok.x hu).1
      have p2 : 0 ≤ x.y := by cases hu : usesY x.op with
        | false => rw [ok.noy hu]; exact Int.le_refl 0
        | true => exact (ok.y hu).1
      cases x
      simp only at h1 h2 h3 h4 p1 p2
      subst h1; subst h2; subst h3; subst h4
      simp only [Nd.mk.injEq, true_and]
      exact ⟨by omega, by omega⟩
    simp only [finT]
    rw [hz, fa]; simp only; rw [fb]; simp only
    rw [putN, idx_of hn hx]

structure InvT (f : List Nd) (s : List Nd × List (Nat × Nat)) : Prop where
  ok : Okl s.1
  nodup : s.1.Nodup
  ds : ∀ j v, look j s.2 = some v → v < s.1.length ∧ tree s.1 v = tree f j

structure FinTr (f : List Nd) (s t : List Nd × List (Nat × Nat)) (k : Nat) (T : Tr) : Prop where
  inv : InvT f t
  lt : k < t.1.length
  val : tree t.1 k = T
  ext : ∃ u, t.1 = s.1 ++ u
  eq : finT T s.1 = (k, t.1)

theorem fin_tree {f : List Nd} (hf : Okl f) : ∀ (n i : Nat) (s : List Nd × List (Nat × Nat)), i < n → i < f.length → InvT f s → FinTr f s (fin f n i s).2 (fin f n i s).1 (tree f i)
  | 0, i, s, h, _, _ => by omega
  | n + 1, i, s, hin, hif, hs => by
    cases hl : look i s.2 with
    | some k =>
      simp only [fin, hl]
      obtain ⟨h1, h2⟩ := hs.ds i k hl
      exact ⟨hs, h1, h2, ⟨[], by simp⟩, finT_old hs.ok hs.nodup _ k h1 h2⟩
    | none =>
      have hn : f[i]? = some f[i] := List.getElem?_eq_getElem hif
      generalize hx : f[i] = x at hn
      have hok := hf i x hn
      rw [fin_none hl hn, tree_nd hf hn]
      have hA : InvT f (opA f n x s).2 ∧ (usesX x.op = true → (opA f n x s).1 < (opA f n x s).2.1.length ∧ tree (opA f n x s).2.1 (opA f n x s).1 = tree f x.x.toNat) ∧ (∃ u, (opA f n x s).2.1 = s.1 ++ u) ∧
          finT (bif usesX x.op then tree f x.x.toNat else .none) s.1 = ((opA f n x s).1, (opA f n x s).2.1) := by
        unfold opA
        cases hu : usesX x.op with
        | false => exact ⟨hs, (fun h => by cases h), ⟨[], by simp⟩, rfl⟩
        | true =>
          have := hok.x hu
          have q := fin_tree hf n x.x.toNat s (by omega) (by omega) hs
          exact ⟨q.inv, fun _ => ⟨q.lt, q.val⟩, q.ext, q.eq⟩
      generalize opA f n x s = A at hA ⊢
      obtain ⟨a1, a2, ⟨ua, a3⟩, a4⟩ := hA
      have hB : InvT f (opB f n x A.2).2 ∧ (usesY x.op = true → (opB f n x A.2).1 < (opB f n x A.2).2.1.length ∧ tree (opB f n x A.2).2.1 (opB f n x A.2).1 = tree f x.y.toNat) ∧ (∃ u, (opB f n x A.2).2.1 = A.2.1 ++ u) ∧
          finT (bif usesY x.op then tree f x.y.toNat else .none) A.2.1 = ((opB f n x A.2).1, (opB f n x A.2).2.1) := by
        unfold opB
        cases hu : usesY x.op with
        | false => exact ⟨a1, (fun h => by cases h), ⟨[], by simp⟩, rfl⟩
        | true =>
          have := hok.y hu
          have q := fin_tree hf n x.y.toNat A.2 (by omega) (by omega) a1
          exact ⟨q.inv, fun _ => ⟨q.lt, q.val⟩, q.ext, q.eq⟩
      generalize opB f n x A.2 = B at hB ⊢
      obtain ⟨b1, b2, ⟨ub, b3⟩, b4⟩ := hB
      have hz : OkNd (ndZ x A.1 B.1) B.2.1.length := ndZ_ok hok (fun u => by have := (a2 u).1; rw [b3, List.length_append]; omega) (fun u => (b2 u).1)
      change FinTr f s ((putN B.2.1 (ndZ x A.1 B.1)).2, dput i (putN B.2.1 (ndZ x A.1 B.1)).1 B.2.2) (putN B.2.1 (ndZ x A.1 B.1)).1 _
      obtain ⟨p1, p2, t, p3, _⟩ := putN_spec B.2.1 (ndZ x A.1 B.1)
      have pok := putN_ok b1.ok hz
      have hval : tree (putN B.2.1 (ndZ x A.1 B.1)).2 (putN B.2.1 (ndZ x A.1 B.1)).1 = .nd x.op x.i x.e x.g (bif usesX x.op then tree f x.x.toNat else .none) (bif usesY x.op then tree f x.y.toNat else .none) := by
        rw [tree_nd pok p1, ndZ_op, ndZ_i, ndZ_e, ndZ_g, ndZ_x, ndZ_y]
        congr 1
        · cases hu : usesX x.op with
          | false => rfl
          | true =>
            have := a2 hu
            simp only [cond_true, Int.toNat_natCast]
            rw [p3, tree_append b1.ok (by rw [b3, List.length_append]; omega), b3, tree_append a1.ok this.1]
            exact this.2
        · cases hu : usesY x.op with
          | false => rfl
          | true =>
            have := b2 hu
            simp only [cond_true, Int.toNat_natCast]
            rw [p3, tree_append b1.ok this.1]
            exact this.2
      refine ⟨⟨pok, putN_nodup b1.nodup, fun j v hv => ?_⟩, p2, hval, ⟨ua ++ ub ++ t, by simp only; rw [p3, b3, a3]; simp [List.append_assoc]⟩, ?_⟩
      · simp only [look_dput] at hv
        by_cases e : j = i
        · rw [if_pos e] at hv; simp at hv; subst hv; subst e
          exact ⟨p2, by rw [tree_nd hf hn]; exact hval⟩
        · rw [if_neg e] at hv
          obtain ⟨g1, g2⟩ := b1.ds j v hv
          simp only
          refine ⟨by rw [p3, List.length_append]; omega, ?_⟩
          rw [p3, tree_append b1.ok g1]; exact g2
      · simp only [finT]
        rw [a4]; simp only; rw [b4]; simp only
        have e : (⟨x.op, x.i, x.e, x.g, (A.1 : Int), (B.1 : Int)⟩ : Nd) = ndZ x A.1 B.1 := by
          have q1 : usesX x.op = false → (A.1 : Int) = x.x := fun u => by
            rw [u] at a4
            have : A.1 = 0 := (congrArg Prod.fst a4).symm
            rw [this, hok.nox u]; rfl
          have q2 : usesY x.op = false → (B.1 : Int) = x.y := fun u => by
            rw [u] at b4
            have : B.1 = 0 := (congrArg Prod.fst b4).symm
            rw [this, hok.noy u]; rfl
          unfold ndZ ndB ndA
          cases u1 : usesX x.op <;> cases u2 : usesY x.op <;> cases x <;> simp_all
        rw [e]

theorem invT_nil (f : List Nd) : InvT f ([], []) := ⟨fun i x h => by simp at h, List.nodup_nil, fun j v h => by simp [look] at h⟩
/-- The canonical list is told by the tree. -/
theorem canon_tree {f : List Nd} (hf : Okl f) {i : Nat} (hi : i < f.length) : canon f i = (finT (tree f i) []).2 := by
  have q := fin_tree hf (i + 1) i ([], []) (by omega) hi (invT_nil f)
  rw [q.eq]; rfl
theorem opA_tree {f : List Nd} (hf : Okl f) {n i : Nat} {x : Nd} (hx : f[i]? = some x) (hin : i < n + 1) (hif : i < f.length) {s : List Nd × List (Nat × Nat)} (hs : InvT f s) :
    InvT f (opA f n x s).2 ∧ (usesX x.op = true → FinTr f s (opA f n x s).2 (opA f n x s).1 (tree f x.x.toNat)) ∧ ∃ u, (opA f n x s).2.1 = s.1 ++ u := by
  have hok := hf i x hx
  unfold opA
  cases hu : usesX x.op with
  | false => exact ⟨hs, (fun h => by cases h), ⟨[], by simp⟩⟩
  | true =>
    have := hok.x hu
    have q := fin_tree hf n x.x.toNat s (by omega) (by omega) hs
    exact ⟨q.inv, fun _ => q, q.ext⟩
theorem opB_tree {f : List Nd} (hf : Okl f) {n i : Nat} {x : Nd} (hx : f[i]? = some x) (hin : i < n + 1) (hif : i < f.length) {s : List Nd × List (Nat × Nat)} (hs : InvT f s) :
    InvT f (opB f n x s).2 ∧ (usesY x.op = true → FinTr f s (opB f n x s).2 (opB f n x s).1 (tree f x.y.toNat)) ∧ ∃ u, (opB f n x s).2.1 = s.1 ++ u := by
  have hok := hf i x hx
  unfold opB
  cases hu : usesY x.op with
  | false => exact ⟨hs, (fun h => by cases h), ⟨[], by simp⟩⟩
  | true =>
    have := hok.y hu
    have q := fin_tree hf n x.y.toNat s (by omega) (by omega) hs
    exact ⟨q.inv, fun _ => q, q.ext⟩

/-- New nodes' trees are no greater than the root's; what stands ahead of the root's node is less. -/
theorem fin_size {f : List Nd} (hf : Okl f) : ∀ (n i : Nat) (s : List Nd × List (Nat × Nat)), i < n → i < f.length → InvT f s →
    ∀ v, s.1.length ≤ v → v < (fin f n i s).2.1.length → (tree (fin f n i s).2.1 v).size ≤ (tree f i).size ∧ (v ≠ (fin f n i s).1 → (tree (fin f n i s).2.1 v).size < (tree f i).size)
  | 0, i, s, h, _, _ => by omega
  | n + 1, i, s, hin, hif, hs => by
    intro v hv1 hv2
    have q := fin_tree hf (n + 1) i s hin hif hs
    cases hl : look i s.2 with
    | some k => simp only [fin, hl] at hv2; omega
    | none =>
      have hn : f[i]? = some f[i] := List.getElem?_eq_getElem hif
      generalize hx : f[i] = x at hn
      have hok := hf i x hn
      have hsz : (tree f i).size = (bif usesX x.op then tree f x.x.toNat else .none).size + (bif usesY x.op then tree f x.y.toNat else .none).size + 1 := by rw [tree_nd hf hn]; rfl
      obtain ⟨a1, a2, ua, a3⟩ := opA_tree hf hn hin hif hs
      obtain ⟨b1, b2, ub, b3⟩ := opB_tree hf hn hin hif a1
      have sA : ∀ v, s.1.length ≤ v → v < (opA f n x s).2.1.length → (tree (opA f n x s).2.1 v).size < (tree f i).size := by
        intro v h1 h2
        cases hu : usesX x.op with
        | false => rw [opA, hu] at h2; simp only [cond_false] at h2; omega
        | true =>
          have := hok.x hu
          have e : opA f n x s = fin f n x.x.toNat s := by rw [opA, hu]; rfl
          rw [e] at h2 ⊢
          have := (fin_size hf n x.x.toNat s (by omega) (by omega) hs v h1 h2).1
          rw [hsz, hu]; simp only [cond_true]; omega
      have sB : ∀ v, (opA f n x s).2.1.length ≤ v → v < (opB f n x (opA f n x s).2).2.1.length → (tree (opB f n x (opA f n x s).2).2.1 v).size < (tree f i).size := by
        intro v h1 h2
        cases hu : usesY x.op with
        | false => rw [opB, hu] at h2; simp only [cond_false] at h2; omega
        | true =>
          have := hok.y hu
          have e : opB f n x (opA f n x s).2 = fin f n x.y.toNat (opA f n x s).2 := by rw [opB, hu]; rfl
          rw [e] at h2 ⊢
          have := (fin_size hf n x.y.toNat (opA f n x s).2 (by omega) (by omega) a1 v h1 h2).1
          rw [hsz, hu]; simp only [cond_true]; omega
      have hval := q.val
      have hok' := q.inv.ok
      rw [fin_none hl hn] at hv2 hval hok' ⊢
      generalize opA f n x s = A at *
      generalize opB f n x A.2 = B at *
      obtain ⟨p1, p2, t, p3, p4⟩ := putN_spec B.2.1 (ndB x.op (ndA x A.1) B.1)
      simp only at hv2 hval hok' ⊢
      rcases Nat.lt_or_ge v B.2.1.length with hlt | hge
      · have e : tree (putN B.2.1 (ndB x.op (ndA x A.1) B.1)).2 v = tree B.2.1 v := by rw [p3, tree_append b1.ok hlt]
        rw [e]
        have : (tree B.2.1 v).size < (tree f i).size := by
          rcases Nat.lt_or_ge v A.2.1.length with h1 | h1
          · rw [b3, tree_append a1.ok h1]; exact sA v hv1 h1
          · exact sB v h1 hlt
        exact ⟨by omega, fun _ => this⟩
      · have hvk : v = (putN B.2.1 (ndB x.op (ndA x A.1) B.1)).1 := by
          unfold putN at hv2 ⊢
          cases h : idx (ndB x.op (ndA x A.1) B.1) B.2.1 0 with
          | some k => rw [h] at hv2; simp only at hv2; omega
          | none => rw [h] at hv2; simp at hv2; simp only; omega
        rw [hvk, hval]
        exact ⟨Nat.le_refl _, fun h => absurd rfl h⟩
theorem kid_size {f : List Nd} (hf : Okl f) {n i : Nat} {x : Nd} (hn : f[i]? = some x) (hin : i < n + 1) (hif : i < f.length) {s : List Nd × List (Nat × Nat)} (hs : InvT f s) :
    ∀ v, s.1.length ≤ v → v < (opB f n x (opA f n x s).2).2.1.length → (tree (opB f n x (opA f n x s).2).2.1 v).size < (tree f i).size := by
  have hok := hf i x hn
  have hsz : (tree f i).size = (bif usesX x.op then tree f x.x.toNat else .none).size + (bif usesY x.op then tree f x.y.toNat else .none).size + 1 := by rw [tree_nd hf hn]; rfl
  obtain ⟨a1, a2, ua, a3⟩ := opA_tree hf hn hin hif hs
  obtain ⟨b1, b2, ub, b3⟩ := opB_tree hf hn hin hif a1
  intro v hv1 hlt
  rcases Nat.lt_or_ge v (opA f n x s).2.1.length with h1 | h1
  · rw [b3, tree_append a1.ok h1]
    cases hu : usesX x.op with
    | false => rw [opA, hu] at h1; simp only [cond_false] at h1; omega
    | true =>
      have := hok.x hu
      have e : opA f n x s = fin f n x.x.toNat s := by rw [opA, hu]; rfl
      rw [e] at h1 ⊢
      have := (fin_size hf n x.x.toNat s (by omega) (by omega) hs v hv1 h1).1
      rw [hsz, hu]; simp only [cond_true]; omega
  · cases hu : usesY x.op with
    | false => rw [opB, hu] at hlt; simp only [cond_false] at hlt; omega
    | true =>
      have := hok.y hu
      have e : opB f n x (opA f n x s).2 = fin f n x.y.toNat (opA f n x s).2 := by rw [opB, hu]; rfl
      rw [e] at hlt ⊢
      have := (fin_size hf n x.y.toNat (opA f n x s).2 (by omega) (by omega) a1 v h1 hlt).1
      rw [hsz, hu]; simp only [cond_true]; omega
/-- The root stands last. -/
theorem canon_root {f : List Nd} (hf : Okl f) {i : Nat} (hi : i < f.length) : (canon f i).length ≠ 0 ∧ tree (canon f i) ((canon f i).length - 1) = tree f i := by
  have q := fin_tree hf (i + 1) i ([], []) (by omega) hi (invT_nil f)
  have hs := fin_size hf (i + 1) i ([], []) (by omega) hi (invT_nil f)
  have hlt := q.lt
  have hval := q.val
  have hok := q.inv.ok
  refine ⟨by unfold canon; omega, ?_⟩
  -- the root's number is the last one: what stands behind it would be less
  have hlast : (fin f (i + 1) i ([], [])).1 = (canon f i).length - 1 := by
    have hn : f[i]? = some f[i] := List.getElem?_eq_getElem hi
    generalize hx : f[i] = x at hn
    obtain ⟨a1, _, _⟩ := opA_tree hf hn (by omega) hi (invT_nil f) (n := i)
    obtain ⟨b1, _, _⟩ := opB_tree hf hn (by omega) hi a1 (n := i)
    have hkid := kid_size hf hn (by omega) hi (invT_nil f) (n := i)
    unfold canon
    rw [fin_none (f := f) (n := i) (s := ([], [])) rfl hn] at hval ⊢
    simp only at hval ⊢
    generalize opA f i x ([], []) = A at *
    generalize opB f i x A.2 = B at *
    obtain ⟨p1, p2, t, p3, _⟩ := putN_spec B.2.1 (ndB x.op (ndA x A.1) B.1)
    cases h : idx (ndB x.op (ndA x A.1) B.1) B.2.1 0 with
    | none => unfold putN; rw [h]; simp
    | some k =>
      exfalso
      have hp : putN B.2.1 (ndB x.op (ndA x A.1) B.1) = (k, B.2.1) := by unfold putN; rw [h]
      rw [hp] at hval p2
      simp only at hval p2
      have := hkid k (Nat.zero_le _) p2
      rw [hval] at this
      omega
  unfold canon at hlast ⊢
  rw [← hlast]; exact hval
end Go.Proofs.Ytibenjpkinhjhaa
namespace Go.Proofs.Ytibenjpkinhjhaa
open Go Go.Dv

def root (f : List Nd) : Tr := tree f (f.length - 1)
theorem comp_root {f : List Nd} (h : check f = 0) : comp f = (finT (root f) []).2 := by
  rw [comp_eq h]
  have := (check_ok h).1
  exact canon_tree (check_okl h) (by omega)
theorem root_comp {f : List Nd} (h : check f = 0) : root (comp f) = root f := by
  have := (check_ok h).1
  unfold root
  rw [comp_eq h]
  exact (canon_root (check_okl h) (by omega)).2
theorem comp_eq_iff {a b : List Nd} (ha : check a = 0) (hb : check b = 0) : comp a = comp b ↔ root a = root b := by
  constructor
  · intro h; rw [← root_comp ha, ← root_comp hb, h]
  · intro h; rw [comp_root ha, comp_root hb, h]
theorem comp_comp {f : List Nd} (h : check f = 0) : comp (comp f) = comp f := (comp_eq_iff (comp_check h) h).2 (root_comp h)

theorem trn_shift {A B : List Nd} (hA : Okl A) (hB : Okl B) : ∀ (n j : Nat), j < B.length → trn (A ++ B.map (shN A.length)) n (A.length + j) = trn B n j
  | 0, _, _ => rfl
  | n + 1, j, hj => by
    simp only [trn]
    have hx : B[j]? = some B[j] := List.getElem?_eq_getElem hj
    have ok := hB j _ hx
    rw [List.getElem?_append_right (by omega), Nat.add_sub_cancel_left, List.getElem?_map, hx]
    generalize B[j] = x at ok
    simp only [Option.map_some]
    have e1 : (shN A.length x).op = x.op := by unfold shN shX; cases usesX x.op <;> cases usesY x.op <;> rfl
    have e2 : (shN A.length x).i = x.i := by unfold shN shX; cases usesX x.op <;> cases usesY x.op <;> rfl
    have e3 : (shN A.length x).e = x.e := by unfold shN shX; cases usesX x.op <;> cases usesY x.op <;> rfl
    have e4 : (shN A.length x).g = x.g := by unfold shN shX; cases usesX x.op <;> cases usesY x.op <;> rfl
    have e5 : (shN A.length x).x = bif usesX x.op then x.x + A.length else x.x := by unfold shN shX; cases usesX x.op <;> cases usesY x.op <;> rfl
    have e6 : (shN A.length x).y = bif usesY x.op then x.y + A.length else x.y := by unfold shN shX; cases usesX x.op <;> cases usesY x.op <;> rfl
    rw [e1, e2, e3, e4, e5, e6]
    congr 1
    · cases hu : usesX x.op with
      | false => rfl
      | true =>
        have := ok.x hu
        simp only [cond_true]
        rw [show (x.x + (A.length : Int)).toNat = A.length + x.x.toNat by omega]
        exact trn_shift hA hB n x.x.toNat (by omega)
    · cases hu : usesY x.op with
      | false => rfl
      | true =>
        have := ok.y hu
        simp only [cond_true]
        rw [show (x.y + (A.length : Int)).toNat = A.length + x.y.toNat by omega]
        exact trn_shift hA hB n x.y.toNat (by omega)
theorem tree_shift {A B : List Nd} (hA : Okl A) (hB : Okl B) {j : Nat} (hj : j < B.length) : tree (A ++ B.map (shN A.length)) (A.length + j) = tree B j := by
  unfold tree
  rw [trn_shift hA hB _ j hj]
  exact trn_fuel hB _ _ _ (by omega) (by omega)

/-! what the reference builds -/
def shortL (g : List Nd) : List Nd := bif decide ((g.length : Int) > 401) then [] else bif decide (((canon g (g.length - 1)).length : Int) > 200) then [] else canon g (g.length - 1)
def oneL (x : Nd) : List Nd := bif nodeErr x 0 != 0 then [] else [x]
def unL (x : Nd) (f : List Nd) : List Nd :=
  bif check f != 0 then [] else bif nodeErr { x with x := (f.length : Int) - 1 } f.length != 0 then [] else shortL (f ++ [{ x with x := (f.length : Int) - 1 }])
def binN (x : Nd) (f g : List Nd) : Nd := { x with x := (f.length : Int) - 1, y := ((f ++ g.map (shN f.length)).length : Int) - 1 }
def binL (x : Nd) (f g : List Nd) : List Nd :=
  bif bif check f != 0 then true else check g != 0 then [] else bif nodeErr (binN x f g) (f ++ g.map (shN f.length)).length != 0 then [] else shortL (f ++ g.map (shN f.length) ++ [binN x f g])

theorem shN_zero (n : Nd) : shN 0 n = n := by
  unfold shN shX
  cases usesX n.op <;> cases usesY n.op <;> cases n <;> simp
theorem map_shN_zero (c : List Nd) : c.map (shN 0) = c := by
  rw [List.map_congr_left (g := id) (fun n _ => shN_zero n), List.map_id]
theorem canon_snoc {F : List Nd} {x : Nd} (hF : Okl F) (hx : OkNd x F.length) : canon (F ++ [x]) F.length = (finT (.nd x.op x.i x.e x.g (bif usesX x.op then tree F x.x.toNat else .none) (bif usesY x.op then tree F x.y.toNat else .none)) []).2 := by
  have hok := okl_snoc hF hx
  rw [canon_tree hok (by simp), tree_nd hok (x := x) (by simp)]
  have e1 : (bif usesX x.op then tree (F ++ [x]) x.x.toNat else .none) = (bif usesX x.op then tree F x.x.toNat else .none) := by
    cases hu : usesX x.op with
    | false => rfl
    | true => have := hx.x hu; exact tree_append hF (by omega)
  have e2 : (bif usesY x.op then tree (F ++ [x]) x.y.toNat else .none) = (bif usesY x.op then tree F x.y.toNat else .none) := by
    cases hu : usesY x.op with
    | false => rfl
    | true => have := hx.y hu; exact tree_append hF (by omega)
  rw [e1, e2]
theorem ne_of_iff {a b : Int} (h : a = 0 ↔ b = 0) : (a != 0) = (b != 0) := by
  rw [Bool.eq_iff_iff]; simp only [bne_iff_ne, ne_eq, h]
/-- Without operands. -/
theorem build_one (x : Nd) : buildL x [] = oneL x := by
  rw [buildL, bfold]; simp only [bfin, oneL, List.length_nil, List.nil_append]
  show (bif nodeErr x ((0 : Nat) : Int) != 0 then [] else _) = _
  cases h : (nodeErr x ((0 : Nat) : Int) != 0) with
  | true => rfl
  | false =>
    have ok : OkNd x ((0 : Nat) : Int) := nodeErr_ok.1 (by simpa using h)
    have ux : usesX x.op = false := by cases hu : usesX x.op with
      | false => rfl
      | true => have := ok.x hu; omega
    have uy : usesY x.op = false := by cases hu : usesY x.op with
      | false => rfl
      | true => have := ok.y hu; omega
    have hc : canon [x] 0 = [x] := by
      have := canon_snoc (F := []) (x := x) (fun i y hy => by simp at hy) ok
      simp only [List.nil_append, List.length_nil] at this
      rw [this, ux, uy]
      simp only [cond_false, finT, putN, idx, List.nil_append, List.length_nil]
      have e1 := ok.nox ux
      have e2 := ok.noy uy
      cases x
      simp only at e1 e2
      subst e1; subst e2; rfl
    show (bif decide (((canon [x] 0).length : Int) > 200) then [] else canon [x] 0) = [x]
    simp only [hc]; rfl
theorem OkNd.re {x y : Nd} {a b : Int} (h : OkNd x a) (h1 : y.op = x.op) (h2 : y.i = x.i) (h3 : y.e = x.e) (h4 : y.g = x.g) (h5 : usesX x.op = true → 0 ≤ y.x ∧ y.x < b) (h6 : usesX x.op = false → y.x = 0) (h7 : usesY x.op = true → 0 ≤ y.y ∧ y.y < b) (h8 : usesY x.op = false → y.y = 0) : OkNd y b := by
  constructor <;> simp only [h1, h2, h3, h4]
  · exact h.op
  · exact h5
  · exact h6
  · exact h7
  · exact h8
  · exact h.fact
  · exact h.agent
  · exact h.act
  · exact h.noi
  · exact h.noe
  · exact h.group
  · exact h.nog
theorem short_snoc {F : List Nd} {x : Nd} (hl : F.length ≤ 400) : shortL (F ++ [x]) = bif decide (((canon (F ++ [x]) F.length).length : Int) > 200) then [] else canon (F ++ [x]) F.length := by
  have e1 : decide (((F ++ [x]).length : Int) > 401) = false := by simp; omega
  have e2 : (F ++ [x]).length - 1 = F.length := by simp
  rw [shortL, e1, e2]; rfl
theorem bfin_eq (x : Nd) (F : List Nd) : bfin (x, F) = bif nodeErr x F.length != 0 then [] else bif decide (((canon (F ++ [x]) F.length).length : Int) > 200) then [] else canon (F ++ [x]) F.length := rfl
/-- With one operand. -/
theorem build_un (x : Nd) (f : List Nd) (hx : usesX x.op = true) (hy : usesY x.op = false) (hxy : x.y = 0) : buildL x [f] = unL x f := by
  rw [buildL]
  simp only [bfold]
  cases hc : (check f != 0) with
  | true => simp only [unL, hc, cond_true]
  | false =>
    have hc0 : check f = 0 := by simpa using hc
    obtain ⟨l1, l2, _⟩ := check_ok hc0
    have c1 := comp_pos hc0
    have c2 := comp_len f
    have s0 : bstep 0 (x, []) f = ({ x with x := ((comp f).length : Int) - 1 }, comp f) := by
      rw [bstep_t rfl]; simp only [List.nil_append, List.length_nil, map_shN_zero]
    simp only [unL, hc, cond_false, s0, bfin_eq]
    have hne : (nodeErr { x with x := ((comp f).length : Int) - 1 } (comp f).length != 0) = (nodeErr { x with x := (f.length : Int) - 1 } f.length != 0) := ne_of_iff (by
      rw [nodeErr_ok, nodeErr_ok]
      constructor
      · intro h; exact h.re rfl rfl rfl rfl (fun _ => ⟨by simp only; omega, by simp only; omega⟩) (fun u => by rw [hx] at u; cases u) (fun u => by rw [hy] at u; cases u) (fun _ => hxy)
      · intro h; exact h.re rfl rfl rfl rfl (fun _ => ⟨by simp only; omega, by simp only; omega⟩) (fun u => by rw [hx] at u; cases u) (fun u => by rw [hy] at u; cases u) (fun _ => hxy))
    rw [hne]
    cases hn : (nodeErr { x with x := (f.length : Int) - 1 } f.length != 0) with
    | true => rfl
    | false =>
      have ok2 : OkNd { x with x := (f.length : Int) - 1 } f.length := nodeErr_ok.1 (by simpa using hn)
      have ok1 : OkNd { x with x := ((comp f).length : Int) - 1 } (comp f).length := nodeErr_ok.1 (by rw [hn] at hne; simpa using hne)
      simp only [cond_false]
      rw [short_snoc (by omega)]
      have e1 := canon_snoc (comp_okl f) ok1
      have e2 := canon_snoc (check_okl hc0) ok2
      have hr := root_comp hc0
      unfold root at hr
      simp only [hx, hy, cond_true, cond_false] at e1 e2
      rw [show (((comp f).length : Int) - 1).toNat = (comp f).length - 1 by omega] at e1
      rw [show ((f.length : Int) - 1).toNat = f.length - 1 by omega, ← hr] at e2
      rw [e1, e2]
/-- With two operands. -/
theorem bin_last {A B : List Nd} (hA : Okl A) (hB : Okl B) (h1 : 1 ≤ A.length) (h2 : 1 ≤ B.length) : tree (A ++ B.map (shN A.length)) (A.length - 1) = root A ∧ tree (A ++ B.map (shN A.length)) ((A ++ B.map (shN A.length)).length - 1) = root B := by
  refine ⟨tree_append hA (by omega), ?_⟩
  have e : (A ++ B.map (shN A.length)).length - 1 = A.length + (B.length - 1) := by rw [List.length_append, List.length_map]; omega
  rw [e]
  exact tree_shift hA hB (by omega)
theorem build_bin (x : Nd) (f g : List Nd) (hx : usesX x.op = true) (hy : usesY x.op = true) : buildL x [f, g] = binL x f g := by
  rw [buildL]
  simp only [bfold]
  cases hc : (check f != 0) with
  | true => simp only [binL, hc, cond_true]
  | false =>
    cases hd : (check g != 0) with
    | true => simp only [binL, hc, hd, cond_true, cond_false]
    | false =>
      have hc0 : check f = 0 := by simpa using hc
      have hd0 : check g = 0 := by simpa using hd
      obtain ⟨l1, l2, _⟩ := check_ok hc0
      obtain ⟨m1, m2, _⟩ := check_ok hd0
      have c1 := comp_pos hc0
      have c2 := comp_len f
      have d1 := comp_pos hd0
      have d2 := comp_len g
      obtain ⟨F, hF⟩ : ∃ F, F = comp f ++ (comp g).map (shN (comp f).length) := ⟨_, rfl⟩
      obtain ⟨L, hL⟩ : ∃ L, L = f ++ g.map (shN f.length) := ⟨_, rfl⟩
      have hFl : F.length = (comp f).length + (comp g).length := by rw [hF, List.length_append, List.length_map]
      have hLl : L.length = f.length + g.length := by rw [hL, List.length_append, List.length_map]
      have hFo : Okl F := hF ▸ okl_append (comp_okl f) (comp_okl g)
      have hLo : Okl L := hL ▸ okl_append (check_okl hc0) (check_okl hd0)
      have hstep : bstep (0 + 1) (bstep 0 (x, []) f) g = ({ x with x := ((comp f).length : Int) - 1, y := (F.length : Int) - 1 }, F) := by
        have s0 : bstep 0 (x, []) f = ({ x with x := ((comp f).length : Int) - 1 }, comp f) := by
          rw [bstep_t rfl]; simp only [List.nil_append, List.length_nil, map_shN_zero]
        rw [s0, bstep_f rfl, ← hF]
      simp only [binL, hc, hd, cond_false, hstep, bfin_eq]
      rw [show binN x f g = { x with x := (f.length : Int) - 1, y := (L.length : Int) - 1 } by rw [binN, ← hL], ← hL]
      have hne : (nodeErr { x with x := ((comp f).length : Int) - 1, y := (F.length : Int) - 1 } F.length != 0) = (nodeErr { x with x := (f.length : Int) - 1, y := (L.length : Int) - 1 } L.length != 0) := ne_of_iff (by
        rw [nodeErr_ok, nodeErr_ok]
        constructor
        · intro h; exact h.re rfl rfl rfl rfl (fun _ => ⟨by simp only; omega, by simp only; omega⟩) (fun u => by rw [hx] at u; cases u) (fun _ => ⟨by simp only; omega, by simp only; omega⟩) (fun u => by rw [hy] at u; cases u)
        · intro h; exact h.re rfl rfl rfl rfl (fun _ => ⟨by simp only; omega, by simp only; omega⟩) (fun u => by rw [hx] at u; cases u) (fun _ => ⟨by simp only; omega, by simp only; omega⟩) (fun u => by rw [hy] at u; cases u))
      rw [hne]
      cases hn : (nodeErr { x with x := (f.length : Int) - 1, y := (L.length : Int) - 1 } L.length != 0) with
      | true => rfl
      | false =>
        have ok2 : OkNd { x with x := (f.length : Int) - 1, y := (L.length : Int) - 1 } L.length := nodeErr_ok.1 (by simpa using hn)
        have ok1 : OkNd { x with x := ((comp f).length : Int) - 1, y := (F.length : Int) - 1 } F.length := nodeErr_ok.1 (by rw [hn] at hne; simpa using hne)
        simp only [cond_false]
        rw [short_snoc (by omega)]
        have e1 := canon_snoc hFo ok1
        have e2 := canon_snoc hLo ok2
        obtain ⟨t1, t2⟩ := bin_last (comp_okl f) (comp_okl g) c1 d1
        obtain ⟨u1, u2⟩ := bin_last (check_okl hc0) (check_okl hd0) l1 m1
        rw [← hF] at t1 t2
        rw [← hL] at u1 u2
        rw [root_comp hc0] at t1
        rw [root_comp hd0] at t2
        simp only [hx, hy, cond_true] at e1 e2
        rw [show (((comp f).length : Int) - 1).toNat = (comp f).length - 1 by omega, show ((F.length : Int) - 1).toNat = F.length - 1 by omega, t1, t2] at e1
        rw [show ((f.length : Int) - 1).toNat = f.length - 1 by omega, show ((L.length : Int) - 1).toNat = L.length - 1 by omega, u1, u2] at e2
        rw [e1, e2]
end Go.Proofs.Ytibenjpkinhjhaa
set_option maxRecDepth 100000
set_option maxHeartbeats 4000000
namespace Go.Proofs.Ytibenjpkinhjhaa
open Go Go.Dv

def aF : List Nd := [⟨3, 1, 0, 0, 0, 0⟩, ⟨3, 0, 0, 0, 0, 0⟩, ⟨3, 1, 0, 0, 0, 0⟩, ⟨5, 0, 0, 0, 0, 1⟩, ⟨9, 0, 0, 0, 3, 0⟩, ⟨6, 0, 0, 0, 4, 2⟩]
def aC : List Nd := [⟨3, 1, 0, 0, 0, 0⟩, ⟨3, 0, 0, 0, 0, 0⟩, ⟨5, 0, 0, 0, 0, 1⟩, ⟨9, 0, 0, 0, 2, 0⟩, ⟨6, 0, 0, 0, 3, 0⟩]
def aB : List Nd := buildL (n0 6) [buildL (nI 9 0) [buildL (n0 5) [buildL (nI 3 1) [], buildL (nI 3 0) []]], buildL (nI 3 1) []]
example : comp aF = aC := by kernel_rfl
example : aB = aC := by kernel_rfl
theorem buildL_len (x : Nd) (l : List (List Nd)) : (buildL x l).length ≤ 200 := by
  unfold buildL
  split
  · simp
  · rename_i s _
    unfold bfin
    cases h1 : (nodeErr s.1 s.2.length != 0) with
    | true => simp
    | false =>
      cases h2 : decide (((canon (s.2 ++ [s.1]) s.2.length).length : Int) > 200) with
      | true => simp
      | false => simp only [cond_false]; simp at h2; omega
theorem _root_.Go.Dv.PureFn.to {P : Program} {f : FuncId} {ps : List PV} {p q : PV} (h : PureFn P f ps p) (e : p = q) : PureFn P f ps q := e ▸ h
end Go.Proofs.Ytibenjpkinhjhaa
set_option maxRecDepth 100000
set_option maxHeartbeats 4000000
namespace Go.Proofs.Ytibenjpkinhjhaa
open Go Go.Dv

def joinL (op : Int) (em : List Nd) : List (List Nd) → List Nd
  | [] => em
  | f :: r => r.foldl (fun a g => buildL (n0 op) [a, g]) (comp f)
theorem fold_take {α β : Type} (h : β → α → β) (z : β) (r : List α) {i : Nat} (hi : i < r.length) : (r.take (i + 1)).foldl h z = h ((r.take i).foldl h z) r[i] := by
  rw [List.take_succ_eq_append_getElem hi, List.foldl_append]; rfl
theorem joinL_len (op : Int) (em : List Nd) (l : List (List Nd)) (he : em.length ≤ 200) : (joinL op em l).length ≤ 200 := by
  cases l with
  | nil => exact he
  | cons f r =>
    simp only [joinL]
    have : ∀ (r : List (List Nd)) (a : List Nd), a.length ≤ 200 → (r.foldl (fun a g => buildL (n0 op) [a, g]) a).length ≤ 200 := by
      intro r
      induction r with
      | nil => intro a h; exact h
      | cons g r ih => intro a _; exact ih _ (buildL_len _ _)
    exact this r _ (comp_len f)

theorem cells_fpv (l : List (List Nd)) : cellsAll 1 (l.map fpv) = true := by
  simp [cellsAll, fpv, PV.cells, PV.one]
theorem le_fp {a b : List Nd} (h : a = b) : PLe (fpv a) (fpv b) := h ▸ .refl _
theorem fm_join (fid : Nat) (op : Int) (hcb : callable Try.prog fid = true) (hw : ∀ a b, PureFn Try.prog fid [fpv a, fpv b] (fpv (buildL (n0 op) [a, b]))) (l : List (List Nd)) (em : List Nd) (hl : l.length ≤ 1000) (M : Nat → Prop) (w0 : World) :
    DC Try.prog M w0 143 [.pv (.sl (l.map fpv)), .pv (fpv em), .clo fid [] []] noHeap fun d L' => frz d L' fun q _ => PLe q (fpv (joinL op em l)) := by
  refine DC.intro mixed (fn := Try.f143) rfl rfl rfl ?_
  cases l with
  | nil =>
    (try (conv => whnf)); repeat' (first | (apply And.intro <;> (try (conv => whnf))) | (intro h; first | (with_reducible exact tf0 h) | (with_reducible exact ft0 h) | (with_reducible exact nt0 h) | (with_reducible exact nf0 h) | (exact litz h rfl) | (with_reducible exact tf h (by with_reducible assumption)) | (with_reducible exact tf (by with_reducible assumption) h) | (try (conv => whnf))) | (with_reducible rfl) | (apply True.intro) | (apply infoT; rfl) | (apply bleI; rfl) | (apply fitI; rfl) | (apply cellsI; rfl) | (apply szI; rfl) | (apply guardI; kernel_rfl) | (apply WhenQ.mk; (try (conv => whnf)); rotate_left; (try (conv => whnf)); rotate_right) | (with_reducible assumption) | (apply not_of; with_reducible assumption) | (apply left_of; with_reducible assumption) | (apply left_of; apply left_of; with_reducible assumption) | (apply and_of <;> first | (with_reducible assumption) | (apply not_of; with_reducible assumption))| (refine lin_plan (by kernel_rfl) ?_; (try (conv => whnf))) | (refine ⟨_, _, rfl, idx_map (by with_reducible assumption), rfl, ?_⟩; (try (conv => whnf))) | (refine ⟨rfl, ?_⟩; (try (conv => whnf))) | (exact Nat.le_refl 1) | ((apply ex3); (focus (with_reducible assumption)); (focus (with_reducible assumption)); (try (conv => whnf))) | ((apply ex2); (focus (with_reducible assumption)); (try (conv => whnf))) | fail)
    · exact .refl _
    · exact absurd h (by simp)
  | cons f r =>
    have h0 : (f :: r)[0]? = some f := rfl
    have hR : ((((f :: r).map fpv).drop 1).take (((f :: r).map fpv).length - 1)) = r.map fpv := by simp; exact List.take_of_length_le (by simp)
    simp only [List.length_cons] at hl
    (try (conv => whnf)); repeat' (first | (apply And.intro <;> (try (conv => whnf))) | (intro h; first | (with_reducible exact tf0 h) | (with_reducible exact ft0 h) | (with_reducible exact nt0 h) | (with_reducible exact nf0 h) | (exact litz h rfl) | (with_reducible exact tf h (by with_reducible assumption)) | (with_reducible exact tf (by with_reducible assumption) h) | (try (conv => whnf))) | (with_reducible rfl) | (apply True.intro) | (apply infoT; rfl) | (apply bleI; rfl) | (apply fitI; rfl) | (apply cellsI; rfl) | (apply szI; rfl) | (apply guardI; kernel_rfl) | (apply WhenQ.mk; (try (conv => whnf)); rotate_left; (try (conv => whnf)); rotate_right) | (with_reducible assumption) | (apply not_of; with_reducible assumption) | (apply left_of; with_reducible assumption) | (apply left_of; apply left_of; with_reducible assumption) | (apply and_of <;> first | (with_reducible assumption) | (apply not_of; with_reducible assumption))| (refine lin_plan (by kernel_rfl) ?_; (try (conv => whnf))) | (refine ⟨_, _, rfl, idx_map (by with_reducible assumption), rfl, ?_⟩; (try (conv => whnf))) | (refine ⟨rfl, ?_⟩; (try (conv => whnf))) | (exact Nat.le_refl 1) | ((apply ex3); (focus (with_reducible assumption)); (focus (with_reducible assumption)); (try (conv => whnf))) | ((apply ex2); (focus (with_reducible assumption)); (try (conv => whnf))) | (refine PureFn.dcq (f := 83) rfl ?_; (try (conv => whnf))) | ((refine ⟨_, _, fm_Compact ?_, ?_, ?_⟩); rotate_left 1; (focus (first | (refine ⟨?_, trivial⟩ <;> first | (exact PLe.refl _) | (exact PLe.nil)) | (exact trivial))); (try (conv => whnf))) | (refine ⟨_, (by (conv => whnf); exact fm_Compact _), rfl, ?_⟩; (try (conv => whnf))) | fail)
    · exact absurd h (by simp; omega)
    · exact cells_fpv _
    · refine ⟨1, ((f :: r).map fpv).length, rfl, rfl, by simp, Nat.le_refl _, ?_⟩
      (try (conv => whnf)); repeat' (first | (apply And.intro <;> (try (conv => whnf))) | (intro h; first | (with_reducible exact tf0 h) | (with_reducible exact ft0 h) | (with_reducible exact nt0 h) | (with_reducible exact nf0 h) | (exact litz h rfl) | (with_reducible exact tf h (by with_reducible assumption)) | (with_reducible exact tf (by with_reducible assumption) h) | (try (conv => whnf))) | (with_reducible rfl) | (apply True.intro) | (apply infoT; rfl) | (apply bleI; rfl) | (apply fitI; rfl) | (apply cellsI; rfl) | (apply szI; rfl) | (apply guardI; kernel_rfl) | (apply WhenQ.mk; (try (conv => whnf)); rotate_left; (try (conv => whnf)); rotate_right) | (with_reducible assumption) | (apply not_of; with_reducible assumption) | (apply left_of; with_reducible assumption) | (apply left_of; apply left_of; with_reducible assumption) | (apply and_of <;> first | (with_reducible assumption) | (apply not_of; with_reducible assumption))| (refine lin_plan (by kernel_rfl) ?_; (try (conv => whnf))) | (refine ⟨_, _, rfl, idx_map (by with_reducible assumption), rfl, ?_⟩; (try (conv => whnf))) | (refine ⟨rfl, ?_⟩; (try (conv => whnf))) | (exact Nat.le_refl 1) | ((apply ex3); (focus (with_reducible assumption)); (focus (with_reducible assumption)); (try (conv => whnf))) | ((apply ex2); (focus (with_reducible assumption)); (try (conv => whnf))) | fail)
      refine ⟨{ i : Nat // i ≤ r.length }, fun i => [(2, .clo fid [] []), (7, .pv (fpv ((r.take i.1).foldl (fun a g => buildL (n0 op) [a, g]) (comp f)))), (19, .pv (.sl (r.map fpv))), (20, .pv (.int .i64 (r.map fpv).length)), (21, .pv (.int .i64 (i.1 : Nat)))], fun _ => 0, fun _ => [], fun i => r.length - i.1, ⟨⟨0, Nat.zero_le _⟩, ?_⟩, ?_⟩
      · (refine Wk.of ?_ ?_ rfl rfl rfl <;> (repeat' (first | (exact trivial) | (exact WkD.same _) | (exact WkO.same _ _ rfl) | (exact WkD.any _) | (exact WkD.nil _ (Or.inl rfl)) | (exact WkD.nil _ (Or.inr rfl)) | (exact WkD.fz _ _ _ rfl (Or.inl ⟨_, rfl⟩) rfl) | (exact WkD.fz _ _ _ rfl (Or.inr rfl) rfl) | (refine WkD.int ?_) | (exact WkD.new' rfl rfl rfl) | (exact WkO.new _ _ rfl) | (refine WkO.vars rfl ?_) | (with_reducible rfl) | (exact rfl) | (refine ⟨?_, ?_⟩) | ((refine wrapA ?_ ?_ ?_); (focus (simp; done)); (focus ((try dsimp only); omega)); (focus ((try dsimp only); omega))) | fail)))
        · exact WkD.eq (congrArg (fun z => DV.pv (PV.sl z)) hR)
        all_goals exact congrArg (fun z : List PV => (z.length : Int)) hR
      · rintro ⟨i, hi⟩
        (try (conv => whnf)); repeat' (first | (apply And.intro <;> (try (conv => whnf))) | (intro h; first | (with_reducible exact tf0 h) | (with_reducible exact ft0 h) | (with_reducible exact nt0 h) | (with_reducible exact nf0 h) | (exact litz h rfl) | (with_reducible exact tf h (by with_reducible assumption)) | (with_reducible exact tf (by with_reducible assumption) h) | (try (conv => whnf))) | (with_reducible rfl) | (apply True.intro) | (apply infoT; rfl) | (apply bleI; rfl) | (apply fitI; rfl) | (apply cellsI; rfl) | (apply szI; rfl) | (apply guardI; kernel_rfl) | (apply WhenQ.mk; (try (conv => whnf)); rotate_left; (try (conv => whnf)); rotate_right) | (with_reducible assumption) | (apply not_of; with_reducible assumption) | (apply left_of; with_reducible assumption) | (apply left_of; apply left_of; with_reducible assumption) | (apply and_of <;> first | (with_reducible assumption) | (apply not_of; with_reducible assumption))| (refine lin_plan (by kernel_rfl) ?_; (try (conv => whnf))) | (refine ⟨_, _, rfl, idx_map (by with_reducible assumption), rfl, ?_⟩; (try (conv => whnf))) | (refine ⟨rfl, ?_⟩; (try (conv => whnf))) | (exact Nat.le_refl 1) | ((apply ex3); (focus (with_reducible assumption)); (focus (with_reducible assumption)); (try (conv => whnf))) | ((apply ex2); (focus (with_reducible assumption)); (try (conv => whnf))) | fail)
        · have hi' : i < r.length := by simp at h; omega
          have hn : r[i]? = some r[i] := List.getElem?_eq_getElem hi'
          have hf := fold_take (fun a g => buildL (n0 op) [a, g]) (comp f) r hi'
          (try (conv => whnf)); repeat' (first | (apply And.intro <;> (try (conv => whnf))) | (intro h; first | (with_reducible exact tf0 h) | (with_reducible exact ft0 h) | (with_reducible exact nt0 h) | (with_reducible exact nf0 h) | (exact litz h rfl) | (with_reducible exact tf h (by with_reducible assumption)) | (with_reducible exact tf (by with_reducible assumption) h) | (try (conv => whnf))) | (with_reducible rfl) | (apply True.intro) | (apply infoT; rfl) | (apply bleI; rfl) | (apply fitI; rfl) | (apply cellsI; rfl) | (apply szI; rfl) | (apply guardI; kernel_rfl) | (apply WhenQ.mk; (try (conv => whnf)); rotate_left; (try (conv => whnf)); rotate_right) | (with_reducible assumption) | (apply not_of; with_reducible assumption) | (apply left_of; with_reducible assumption) | (apply left_of; apply left_of; with_reducible assumption) | (apply and_of <;> first | (with_reducible assumption) | (apply not_of; with_reducible assumption))| (refine lin_plan (by kernel_rfl) ?_; (try (conv => whnf))) | (refine ⟨_, _, rfl, idx_map (by with_reducible assumption), rfl, ?_⟩; (try (conv => whnf))) | (refine ⟨rfl, ?_⟩; (try (conv => whnf))) | (exact Nat.le_refl 1) | ((apply ex3); (focus (with_reducible assumption)); (focus (with_reducible assumption)); (try (conv => whnf))) | ((apply ex2); (focus (with_reducible assumption)); (try (conv => whnf))) | fail)
          refine PureFn.dcq hcb ?_
          conv => whnf
          refine ⟨_, _, hw _ _, ⟨.refl _, .refl _, trivial⟩, ?_⟩
          (try (conv => whnf)); repeat' (first | (apply And.intro <;> (try (conv => whnf))) | (intro h; first | (with_reducible exact tf0 h) | (with_reducible exact ft0 h) | (with_reducible exact nt0 h) | (with_reducible exact nf0 h) | (exact litz h rfl) | (with_reducible exact tf h (by with_reducible assumption)) | (with_reducible exact tf (by with_reducible assumption) h) | (try (conv => whnf))) | (with_reducible rfl) | (apply True.intro) | (apply infoT; rfl) | (apply bleI; rfl) | (apply fitI; rfl) | (apply cellsI; rfl) | (apply szI; rfl) | (apply guardI; kernel_rfl) | (apply WhenQ.mk; (try (conv => whnf)); rotate_left; (try (conv => whnf)); rotate_right) | (with_reducible assumption) | (apply not_of; with_reducible assumption) | (apply left_of; with_reducible assumption) | (apply left_of; apply left_of; with_reducible assumption) | (apply and_of <;> first | (with_reducible assumption) | (apply not_of; with_reducible assumption))| (refine lin_plan (by kernel_rfl) ?_; (try (conv => whnf))) | (refine ⟨_, _, rfl, idx_map (by with_reducible assumption), rfl, ?_⟩; (try (conv => whnf))) | (refine ⟨rfl, ?_⟩; (try (conv => whnf))) | (exact Nat.le_refl 1) | ((apply ex3); (focus (with_reducible assumption)); (focus (with_reducible assumption)); (try (conv => whnf))) | ((apply ex2); (focus (with_reducible assumption)); (try (conv => whnf))) | fail)
          refine ⟨⟨i + 1, hi'⟩, by show r.length - (i + 1) < r.length - i; omega, ?_⟩
          (refine Wk.of ?_ ?_ rfl rfl rfl <;> (repeat' (first | (exact trivial) | (exact WkD.same _) | (exact WkO.same _ _ rfl) | (exact WkD.any _) | (exact WkD.nil _ (Or.inl rfl)) | (exact WkD.nil _ (Or.inr rfl)) | (exact WkD.fz _ _ _ rfl (Or.inl ⟨_, rfl⟩) rfl) | (exact WkD.fz _ _ _ rfl (Or.inr rfl) rfl) | (refine WkD.int ?_) | (exact WkD.new' rfl rfl rfl) | (exact WkO.new _ _ rfl) | (refine WkO.vars rfl ?_) | (with_reducible rfl) | (exact rfl) | (refine ⟨?_, ?_⟩) | ((refine wrapA ?_ ?_ ?_); (focus (simp; done)); (focus ((try dsimp only); omega)); (focus ((try dsimp only); omega))) | fail)))
          exact WkD.eq (congrArg (fun z => DV.pv (fpv z)) hf.symm)
        · have hi' : i = r.length := by simp at h; omega
          subst hi'
          exact le_fp (by rw [List.take_length]; rfl)
theorem fm_All (l : List (List Nd)) (hl : l.length ≤ 1000) : PureFn Try.prog 120 [.sl (l.map fpv)] (fpv (joinL 5 (buildL (n0 1) []) l)) := by
  refine PureFn.intro mixed (fn := Try.f120) rfl rfl rfl fun M w0 => ?_
  (try (conv => whnf)); repeat' (first | (apply And.intro <;> (try (conv => whnf))) | (intro h; first | (with_reducible exact tf0 h) | (with_reducible exact ft0 h) | (with_reducible exact nt0 h) | (with_reducible exact nf0 h) | (exact litz h rfl) | (with_reducible exact tf h (by with_reducible assumption)) | (with_reducible exact tf (by with_reducible assumption) h) | (try (conv => whnf))) | (with_reducible rfl) | (apply True.intro) | (apply infoT; rfl) | (apply bleI; rfl) | (apply fitI; rfl) | (apply cellsI; rfl) | (apply szI; rfl) | (apply guardI; kernel_rfl) | (apply WhenQ.mk; (try (conv => whnf)); rotate_left; (try (conv => whnf)); rotate_right) | (with_reducible assumption) | (apply not_of; with_reducible assumption) | (apply left_of; with_reducible assumption) | (apply left_of; apply left_of; with_reducible assumption) | (apply and_of <;> first | (with_reducible assumption) | (apply not_of; with_reducible assumption))| (refine lin_plan (by kernel_rfl) ?_; (try (conv => whnf))) | (refine ⟨_, _, rfl, idx_map (by with_reducible assumption), rfl, ?_⟩; (try (conv => whnf))) | (refine ⟨rfl, ?_⟩; (try (conv => whnf))) | (exact Nat.le_refl 1) | ((apply ex3); (focus (with_reducible assumption)); (focus (with_reducible assumption)); (try (conv => whnf))) | ((apply ex2); (focus (with_reducible assumption)); (try (conv => whnf))) | (refine PureFn.dcq (f := 101) rfl ?_; (try (conv => whnf))) | ((refine ⟨_, _, fm_True, ?_, ?_⟩); (focus (first | (refine ⟨trivial⟩ <;> first | (exact PLe.refl _) | (exact PLe.nil)) | (exact trivial))); (try (conv => whnf))) | (refine ⟨_, (by (conv => whnf); exact fm_True), rfl, ?_⟩; (try (conv => whnf))) | fail)
  refine DC.alone (p := fpv (joinL 5 (buildL (n0 1) []) l)) rfl (fun M w0 => fm_join 107 5 rfl (fun a b => fm_And a b) l _ hl M w0) ?_
  (try (conv => whnf)); repeat' (first | (apply And.intro <;> (try (conv => whnf))) | (intro h; first | (with_reducible exact tf0 h) | (with_reducible exact ft0 h) | (with_reducible exact nt0 h) | (with_reducible exact nf0 h) | (exact litz h rfl) | (with_reducible exact tf h (by with_reducible assumption)) | (with_reducible exact tf (by with_reducible assumption) h) | (try (conv => whnf))) | (with_reducible rfl) | (apply True.intro) | (apply infoT; rfl) | (apply bleI; rfl) | (apply fitI; rfl) | (apply cellsI; rfl) | (apply szI; rfl) | (apply guardI; kernel_rfl) | (apply WhenQ.mk; (try (conv => whnf)); rotate_left; (try (conv => whnf)); rotate_right) | (with_reducible assumption) | (apply not_of; with_reducible assumption) | (apply left_of; with_reducible assumption) | (apply left_of; apply left_of; with_reducible assumption) | (apply and_of <;> first | (with_reducible assumption) | (apply not_of; with_reducible assumption))| (refine lin_plan (by kernel_rfl) ?_; (try (conv => whnf))) | (refine ⟨_, _, rfl, idx_map (by with_reducible assumption), rfl, ?_⟩; (try (conv => whnf))) | (refine ⟨rfl, ?_⟩; (try (conv => whnf))) | (exact Nat.le_refl 1) | ((apply ex3); (focus (with_reducible assumption)); (focus (with_reducible assumption)); (try (conv => whnf))) | ((apply ex2); (focus (with_reducible assumption)); (try (conv => whnf))) | fail)
  exact .refl _
end Go.Proofs.Ytibenjpkinhjhaa
namespace Go.Proofs.Ytibenjpkinhjhaa
open Go Go.Dv

theorem lt_dec {i m : Nat} (h : decide ((i : Int) < (m : Int)) = true) : i < m := by simpa using h
theorem ge_dec {i m : Nat} (h : decide ((i : Int) < (m : Int)) = false) (hi : i ≤ m) : i = m := by simp at h; omega
def u64 (n : Nat) : PV := .int .u64 (n : Int)
def i64 (n : Nat) : PV := .int .i64 (n : Int)
theorem wrapU {a : Int} (h0 : 0 ≤ a) (h : a < 18446744073709551616) : IntKind.wrap .u64 a = a := by
  have e : IntKind.wrap .u64 a = a % 18446744073709551616 := rfl
  rw [e]; exact Int.emod_eq_of_lt h0 h
theorem ofInt_nat (a : Nat) : BitVec.ofInt 64 (a : Int) = BitVec.ofNat 64 a := BitVec.ofInt_natCast 64 a
theorem ofNat_toNat {a : Nat} (h : a < 2 ^ 64) : (BitVec.ofNat 64 a).toNat = a := by rw [BitVec.toNat_ofNat, Nat.mod_eq_of_lt h]
def andU (a b : Int) : Int := IntKind.wrap .u64 ((BitVec.ofInt (IntKind.bits .u64) a &&& BitVec.ofInt (IntKind.bits .u64) b).toNat : Int)
def andNotU (a b : Int) : Int := IntKind.wrap .u64 ((BitVec.ofInt (IntKind.bits .u64) a &&& ~~~BitVec.ofInt (IntKind.bits .u64) b).toNat : Int)
def shrU (a b : Int) : Int := a.fdiv (2 ^ (min b.toNat (IntKind.bits .u64)))
def shlU (a b : Int) : Int := IntKind.wrap .u64 (a * 2 ^ (min b.toNat (IntKind.bits .u64)))
theorem andU_nat {a b : Nat} (ha : a < 2 ^ 64) (hb : b < 2 ^ 64) : andU a b = ((a &&& b : Nat) : Int) := by
  have h : a &&& b < 2 ^ 64 := Nat.lt_of_le_of_lt Nat.and_le_left ha
  unfold andU
  show IntKind.wrap .u64 ((BitVec.ofInt 64 (a : Int) &&& BitVec.ofInt 64 (b : Int)).toNat : Int) = _
  rw [ofInt_nat, ofInt_nat, BitVec.toNat_and, ofNat_toNat ha, ofNat_toNat hb]
  exact wrapU (by omega) (by omega)
theorem shrU_nat (a k : Nat) (hk : k ≤ 64) : shrU a k = ((a >>> k : Nat) : Int) := by
  unfold shrU
  rw [show min ((k : Int)).toNat (IntKind.bits .u64) = k from Nat.min_eq_left hk, Nat.shiftRight_eq_div_pow]
  rw [show ((2 : Int) ^ k) = ((2 ^ k : Nat) : Int) by simp, Int.fdiv_eq_ediv_of_nonneg _ (Int.natCast_nonneg _)]
  rfl
theorem shlU_one {k : Nat} (hk : k < 64) : shlU 1 k = ((2 ^ k : Nat) : Int) := by
  unfold shlU
  rw [show min ((k : Int)).toNat (IntKind.bits .u64) = k from Nat.min_eq_left (by show k ≤ 64; omega), Int.one_mul]
  have : 2 ^ k < 2 ^ 64 := Nat.pow_lt_pow_right (by decide) hk
  have e : ((2 : Int) ^ k) = ((2 ^ k : Nat) : Int) := by simp
  rw [e]
  generalize 2 ^ k = m at *
  exact wrapU (by omega) (by omega)
theorem bit_and (s v : Nat) (hs : s < 2 ^ 64) (hv : v < 64) : andU (shrU s v) 1 = if s.testBit v then 1 else 0 := by
  rw [shrU_nat _ _ (by omega)]
  have h1 : s >>> v < 2 ^ 64 := Nat.lt_of_le_of_lt (Nat.shiftRight_le s v) hs
  have := andU_nat (a := s >>> v) (b := 1) h1 (by decide)
  rw [show ((1 : Nat) : Int) = 1 from rfl] at this
  rw [this, Nat.and_one_is_mod, Nat.testBit, Nat.and_comm, Nat.and_one_is_mod]
  have : s >>> v % 2 = 0 ∨ s >>> v % 2 = 1 := by omega
  rcases this with h | h <;> rw [h] <;> rfl
/-- The program's test of a bit. -/
theorem bit_one {s v : Nat} (hs : s < 2 ^ 64) (hv : v < 64) : (andU (shrU s v) 1 == 1) = s.testBit v := by
  rw [bit_and s v hs hv]; cases s.testBit v <;> rfl
theorem testBit_mod (s v : Nat) : s.testBit v = decide (s >>> v % 2 = 1) := by
  rw [Nat.testBit, Nat.and_comm, Nat.and_one_is_mod]
  have : s >>> v % 2 = 0 ∨ s >>> v % 2 = 1 := by omega
  rcases this with h | h <;> rw [h] <;> rfl
def and64 (a b : Int) : Int := IntKind.wrap .i64 ((BitVec.ofInt (IntKind.bits .i64) a &&& BitVec.ofInt (IntKind.bits .i64) b).toNat : Int)
theorem and64_nat {a b : Nat} (ha : a < 2 ^ 62) (hb : b < 2 ^ 62) : and64 a b = ((a &&& b : Nat) : Int) := by
  have h : a &&& b < 2 ^ 62 := Nat.lt_of_le_of_lt Nat.and_le_left ha
  unfold and64
  show IntKind.wrap .i64 ((BitVec.ofInt 64 (a : Int) &&& BitVec.ofInt 64 (b : Int)).toNat : Int) = _
  rw [ofInt_nat, ofInt_nat, BitVec.toNat_and, ofNat_toNat (by omega), ofNat_toNat (by omega)]
  exact wrap_small (by omega) (by omega)
theorem bit64_and {s v : Nat} (hs : s < 2 ^ 62) (hv : v ≤ 64) : and64 (shr64 s v) 1 = if s.testBit v then 1 else 0 := by
  rw [shr64_nat _ _ hv]
  have h1 : s >>> v < 2 ^ 62 := Nat.lt_of_le_of_lt (Nat.shiftRight_le s v) hs
  have := and64_nat (a := s >>> v) (b := 1) h1 (by decide)
  rw [show ((1 : Nat) : Int) = 1 from rfl] at this
  rw [this, Nat.and_one_is_mod, testBit_mod]
  have : s >>> v % 2 = 0 ∨ s >>> v % 2 = 1 := by omega
  rcases this with h | h <;> rw [h] <;> rfl

end Go.Proofs.Ytibenjpkinhjhaa
set_option maxRecDepth 100000
namespace Go.Proofs.Ytibenjpkinhjhaa
open Go Go.Dv

theorem or_ff' {a b : Bool} (h : (bif a then true else b) = false) : a = false ∧ b = false := by cases a <;> simp_all
theorem shl_n {n : Nat} (hn : n ≤ 4) : shl64 1 (n : Int) = ((2 ^ n : Nat) : Int) := shl64_one (by omega) (by omega)
/-! least values -/
end Go.Proofs.Ytibenjpkinhjhaa
set_option maxRecDepth 100000
namespace Go.Proofs.Ytibenjpkinhjhaa
open Go Go.Dv

theorem ex3 {α : Type} {A B C : α → Prop} {m : α} (h1 : A m) (h2 : B m) (h3 : C m) : ∃ m, A m ∧ B m ∧ C m := ⟨m, h1, h2, h3⟩
theorem ex2 {α : Type} {A B : α → Prop} {m : α} (h1 : A m) (h2 : B m) : ∃ m, A m ∧ B m := ⟨m, h1, h2⟩
def evO (op : Int) (f a b : Bool) : Bool :=
  bif op == 1 then true else bif op == 3 then f else bif op == 4 then !a else bif op == 5 then (bif a then b else false) else bif op == 6 then (bif a then true else b) else bif op == 7 then (bif !a then true else b) else bif op == 8 then a == b else false
/-! arrays half filled -/
end Go.Proofs.Ytibenjpkinhjhaa
namespace Go.Proofs.Ytibenjpkinhjhaa
open Go Go.Dv

/-- A list that is the canonical one of its own last node. -/
structure Can (s : List Nd) : Prop where
  ok : Okl s
  pos : 1 ≤ s.length
  len : s.length ≤ 200
  fix : (finT (root s) []).2 = s
theorem Can.check {s : List Nd} (h : Can s) : check s = 0 := okl_check h.ok h.pos h.len
theorem canon_can {f : List Nd} (hf : Okl f) (hl : f.length ≤ 200) {i : Nat} (hi : i < f.length) : Can (canon f i) := by
  obtain ⟨h1, h2⟩ := canon_ok hf hi
  refine ⟨h1, h2, by have := canon_len hf.wf hi; omega, ?_⟩
  have hr := (canon_root hf hi).2
  unfold root
  rw [hr, ← canon_tree hf hi]
theorem comp_can {f : List Nd} (h : Go.Proofs.Ytibenjpkinhjhaa.check f = 0) : Can (comp f) := by
  rw [comp_eq h]
  have := check_ok h
  exact canon_can (check_okl h) this.2.1 (by omega)
theorem can_comp {s : List Nd} (h : Can s) : comp s = s := by rw [comp_root h.check, h.fix]
/-- What build_un and build_bin come to, by trees. -/
theorem un_tree {x : Nd} {f : List Nd} {t : List Nd} (hf : Can f) (hx : usesX x.op = true) (hy : usesY x.op = false) (hok : OkNd { x with x := (f.length : Int) - 1 } f.length)
    (ht : (finT (.nd x.op x.i x.e x.g (root f) .none) []).2 = t) (hl : t.length ≤ 200) : unL x f = t := by
  have e0 : (Go.Proofs.Ytibenjpkinhjhaa.check f != 0) = false := by rw [hf.check]; rfl
  have e1 : (nodeErr { x with x := (f.length : Int) - 1 } f.length != 0) = false := by rw [nodeErr_ok.2 hok]; rfl
  have hfl := hf.len
  have hfp := hf.pos
  have e2 := canon_snoc hf.ok hok
  simp only [hx, hy, cond_true, cond_false] at e2
  rw [show ((f.length : Int) - 1).toNat = f.length - 1 by omega] at e2
  have e3 : canon (f ++ [{ x with x := (f.length : Int) - 1 }]) f.length = t := e2.trans ht
  rw [unL, e0, e1]
  simp only [cond_false]
  rw [short_snoc (by omega), e3]
  have e4 : decide ((t.length : Int) > 200) = false := by simp; omega
  rw [e4]; rfl
theorem bin_tree {x : Nd} {f g : List Nd} {t : List Nd} (hf : Can f) (hg : Can g) (hx : usesX x.op = true) (hy : usesY x.op = true) (hok : OkNd (binN x f g) (f ++ g.map (shN f.length)).length)
    (ht : (finT (.nd x.op x.i x.e x.g (root f) (root g)) []).2 = t) (hl : t.length ≤ 200) : binL x f g = t := by
  have e0 : (Go.Proofs.Ytibenjpkinhjhaa.check f != 0) = false := by rw [hf.check]; rfl
  have e0' : (Go.Proofs.Ytibenjpkinhjhaa.check g != 0) = false := by rw [hg.check]; rfl
  have e1 : (nodeErr (binN x f g) (f ++ g.map (shN f.length)).length != 0) = false := by rw [nodeErr_ok.2 hok]; rfl
  have hfl := hf.len
  have hfp := hf.pos
  have hgl := hg.len
  have hgp := hg.pos
  have e2 := canon_snoc (okl_append hf.ok hg.ok) hok
  obtain ⟨u1, u2⟩ := bin_last hf.ok hg.ok hfp hgp
  have ho : (binN x f g).op = x.op := rfl
  rw [ho] at e2
  simp only [hx, hy, cond_true] at e2
  have n1 : (binN x f g).x.toNat = f.length - 1 := by show ((f.length : Int) - 1).toNat = _; omega
  have n2 : (binN x f g).y.toNat = (f ++ g.map (shN f.length)).length - 1 := by show (((f ++ g.map (shN f.length)).length : Int) - 1).toNat = _; omega
  rw [n1, n2, u1, u2] at e2
  have e3 : canon (f ++ g.map (shN f.length) ++ [binN x f g]) (f ++ g.map (shN f.length)).length = t := e2.trans ht
  rw [binL, e0, e0', e1]
  simp only [cond_false]
  rw [short_snoc (by rw [List.length_append, List.length_map]; omega), e3]
  have e4 : decide ((t.length : Int) > 200) = false := by simp; omega
  rw [e4]; rfl
end Go.Proofs.Ytibenjpkinhjhaa
set_option maxRecDepth 100000
namespace Go.Proofs.Ytibenjpkinhjhaa
open Go Go.Dv

def tev (v : Nat) : Tr → Bool
  | .none => false
  | .nd op i _ _ a b => evO op (v.testBit i.toNat) (tev v a) (tev v b)
def opN (n : Nat) (op i g : Int) : Bool := decide (1 ≤ op) && decide (op ≤ 8) && (op != 3 || decide (i < n)) && g == 0
def propT (n : Nat) : Tr → Bool
  | .none => true
  | .nd op i _ g a b => opN n op i g && propT n a && propT n b
theorem putN_le (out : List Nd) (x : Nd) : (putN out x).2.length ≤ out.length + 1 := by
  unfold putN; cases idx x out 0 <;> simp
theorem finT_len : ∀ (t : Tr) (out : List Nd), (finT t out).2.length ≤ out.length + t.size
  | .none, out => by simp [finT]
  | .nd op i e g a b, out => by
    rw [finT, Tr.size]
    have h1 := finT_len a out
    have h2 := finT_len b (finT a out).2
    have h3 := putN_le (finT b (finT a out).2).2 ⟨op, i, e, g, ((finT a out).1 : Int), ((finT b (finT a out).2).1 : Int)⟩
    omega
theorem finT_prop {n : Nat} : ∀ (t : Tr) (out : List Nd), propT n t = true → (∀ y, y ∈ out → opN n y.op y.i y.g = true) → ∀ y, y ∈ (finT t out).2 → opN n y.op y.i y.g = true
  | .none, out, _, ho, y, hy => ho y hy
  | .nd op i e g a b, out, ht, ho, y, hy => by
    rw [propT, Bool.and_eq_true, Bool.and_eq_true] at ht
    rw [finT] at hy
    obtain ⟨_, _, t, h1, h2⟩ := putN_spec (finT b (finT a out).2).2 ⟨op, i, e, g, ((finT a out).1 : Int), ((finT b (finT a out).2).1 : Int)⟩
    rw [h1] at hy
    rcases List.mem_append.1 hy with h | h
    · exact finT_prop b _ ht.2 (finT_prop a out ht.1.2 ho) y h
    · rw [h2 y h]; exact ht.1.1
/-- The canonical list of a node of a list whose tree is small. -/
theorem tree_can {F : List Nd} (hF : Okl F) {k : Nat} (hk : k < F.length) (hs : (tree F k).size ≤ 200) : Can (canon F k) ∧ root (canon F k) = tree F k := by
  obtain ⟨h1, h2⟩ := canon_ok hF hk
  have h3 := (canon_root hF hk).2
  have h4 := canon_tree hF hk
  have h5 := finT_len (tree F k) []
  refine ⟨⟨h1, h2, by rw [h4]; simp only [List.length_nil] at h5; omega, ?_⟩, h3⟩
  unfold root
  rw [h3, ← h4]
theorem un_can {op : Int} {f : List Nd} (hf : Can f) (hx : usesX op = true) (hy : usesY op = false) (hok : OkNd { n0 op with x := (f.length : Int) - 1 } f.length) (hs : (root f).size + 1 ≤ 200) :
    Can (buildL (n0 op) [f]) ∧ root (buildL (n0 op) [f]) = .nd op 0 0 0 (root f) .none := by
  have hp := hf.pos
  have hF := okl_snoc hf.ok hok
  have hT : tree (f ++ [{ n0 op with x := (f.length : Int) - 1 }]) f.length = .nd op 0 0 0 (root f) .none := by
    rw [tree_nd hF (x := { n0 op with x := (f.length : Int) - 1 }) (by simp)]
    simp only [n0, hx, hy, cond_true, cond_false]
    rw [show ((f.length : Int) - 1).toNat = f.length - 1 by omega, tree_append hf.ok (by omega)]; rfl
  have hk : f.length < (f ++ [{ n0 op with x := (f.length : Int) - 1 }]).length := by simp
  have hsz : (tree (f ++ [{ n0 op with x := (f.length : Int) - 1 }]) f.length).size ≤ 200 := by rw [hT]; simp only [Tr.size]; omega
  obtain ⟨h1, h2⟩ := tree_can hF hk hsz
  have e : buildL (n0 op) [f] = canon (f ++ [{ n0 op with x := (f.length : Int) - 1 }]) f.length := by
    rw [build_un (n0 op) f hx hy rfl]
    refine un_tree (t := canon (f ++ [{ n0 op with x := (f.length : Int) - 1 }]) f.length) hf hx hy hok ?_ h1.len
    rw [canon_tree hF hk, hT]; rfl
  rw [e, h2, hT]
  exact ⟨h1, rfl⟩
theorem bin_can {op : Int} {f g : List Nd} (hf : Can f) (hg : Can g) (hx : usesX op = true) (hy : usesY op = true) (hok : OkNd (binN (n0 op) f g) (f ++ g.map (shN f.length)).length) (hs : (root f).size + (root g).size + 1 ≤ 200) :
    Can (buildL (n0 op) [f, g]) ∧ root (buildL (n0 op) [f, g]) = .nd op 0 0 0 (root f) (root g) := by
  have hp := hf.pos
  have hq := hg.pos
  have hA := okl_append hf.ok hg.ok
  have hF := okl_snoc hA hok
  obtain ⟨u1, u2⟩ := bin_last hf.ok hg.ok hp hq
  have hl : 1 ≤ (f ++ g.map (shN f.length)).length := by rw [List.length_append]; omega
  have hT : tree (f ++ g.map (shN f.length) ++ [binN (n0 op) f g]) (f ++ g.map (shN f.length)).length = .nd op 0 0 0 (root f) (root g) := by
    rw [tree_nd hF (x := binN (n0 op) f g) (by simp)]
    simp only [show (binN (n0 op) f g).op = op from rfl, hx, hy, cond_true]
    have n1 : (binN (n0 op) f g).x.toNat = f.length - 1 := by show ((f.length : Int) - 1).toNat = _; omega
    have n2 : (binN (n0 op) f g).y.toNat = (f ++ g.map (shN f.length)).length - 1 := by show (((f ++ g.map (shN f.length)).length : Int) - 1).toNat = _; omega
    rw [n1, n2, tree_append hA (by rw [List.length_append]; omega), tree_append hA (by omega), u1, u2]; rfl
  have hk : (f ++ g.map (shN f.length)).length < (f ++ g.map (shN f.length) ++ [binN (n0 op) f g]).length := by simp
  have hsz : (tree (f ++ g.map (shN f.length) ++ [binN (n0 op) f g]) (f ++ g.map (shN f.length)).length).size ≤ 200 := by rw [hT]; simp only [Tr.size]; omega
  obtain ⟨h1, h2⟩ := tree_can hF hk hsz
  have e : buildL (n0 op) [f, g] = canon (f ++ g.map (shN f.length) ++ [binN (n0 op) f g]) (f ++ g.map (shN f.length)).length := by
    rw [build_bin (n0 op) f g hx hy]
    refine bin_tree (t := canon (f ++ g.map (shN f.length) ++ [binN (n0 op) f g]) (f ++ g.map (shN f.length)).length) hf hg hx hy hok ?_ h1.len
    rw [canon_tree hF hk, hT]; rfl
  rw [e, h2, hT]
  exact ⟨h1, rfl⟩
/-- A formula about the first n facts whose tree is small. -/
structure Gd (n : Nat) (f : List Nd) (k : Nat) : Prop where
  can : Can f
  size : (root f).size ≤ k
  ok : propT n (root f) = true
theorem neg_gd {n k : Nat} {f : List Nd} (h : Gd n f k) (hk : k + 1 ≤ 200) : Gd n (buildL (n0 4) [f]) (k + 1) ∧ ∀ v, tev v (root (buildL (n0 4) [f])) = !tev v (root f) := by
  have hp := h.can.pos
  have hs := h.size
  have hok : OkNd { n0 4 with x := (f.length : Int) - 1 } f.length := by
    constructor <;> simp [n0, usesX, usesY, isAgent, isGroup] <;> omega
  obtain ⟨h1, h2⟩ := un_can h.can (op := 4) rfl rfl hok (by omega)
  refine ⟨⟨h1, by rw [h2]; simp only [Tr.size]; omega, by rw [h2]; simp only [propT, h.ok]; rfl⟩, fun v => by rw [h2]; rfl⟩
theorem join_gd {n k : Nat} {op : Int} (hop : op = 5 ∨ op = 6) : ∀ (r : List (List Nd)) (a : List Nd) (m : Nat), Gd n a m → (∀ g, g ∈ r → Gd n g k) → m + r.length * (k + 1) ≤ 200 →
    Gd n (r.foldl (fun a g => buildL (n0 op) [a, g]) a) (m + r.length * (k + 1)) ∧ ∀ v, tev v (root (r.foldl (fun a g => buildL (n0 op) [a, g]) a)) = r.foldl (fun b g => evO op false b (tev v (root g))) (tev v (root a))
  | [], a, m, ha, _, _ => ⟨by simpa using ha, fun _ => rfl⟩
  | g :: r, a, m, ha, hr, hl => by
    have e : (g :: r).length * (k + 1) = (k + 1) + r.length * (k + 1) := by rw [List.length_cons, Nat.add_mul, Nat.one_mul, Nat.add_comm]
    rw [e] at hl ⊢
    have hg := hr g (by simp)
    have h1 := ha.can.pos
    have h2 := hg.can.pos
    have h3 := ha.size
    have h4 := hg.size
    have hx : usesX op = true := by rcases hop with rfl | rfl <;> rfl
    have hy : usesY op = true := by rcases hop with rfl | rfl <;> rfl
    have hok : OkNd (binN (n0 op) a g) (a ++ g.map (shN a.length)).length := by
      have hl : (a ++ g.map (shN a.length)).length = a.length + g.length := by rw [List.length_append, List.length_map]
      unfold binN
      rw [hl]
      rcases hop with rfl | rfl <;> constructor <;> simp [n0, usesX, usesY, isAgent, isGroup] <;> omega
    obtain ⟨c1, c2⟩ := bin_can ha.can hg.can hx hy hok (by omega)
    have hnew : Gd n (buildL (n0 op) [a, g]) (m + (k + 1)) := ⟨c1, by rw [c2]; simp only [Tr.size]; omega, by
      rw [c2]; simp only [propT, ha.ok, hg.ok]; rcases hop with rfl | rfl <;> rfl⟩
    obtain ⟨i1, i2⟩ := join_gd hop r _ _ hnew (fun g' hg' => hr g' (by simp [hg'])) (by omega)
    refine ⟨by rw [List.foldl_cons, ← Nat.add_assoc]; exact i1, fun v => ?_⟩
    rw [List.foldl_cons, List.foldl_cons, i2 v, c2, tev]
    have : ∀ b c : Bool, evO op (v.testBit (0 : Int).toNat) b c = evO op false b c := by intro b c; rcases hop with rfl | rfl <;> rfl
    rw [this]
theorem one_gd {n : Nat} {f : List Nd} (x : Nd) (hf : f = [x]) (hc : check [x] = 0) (hx : usesX x.op = false) (hy : usesY x.op = false) (ho : opN n x.op x.i x.g = true) : Gd n f 1 ∧ root f = .nd x.op x.i x.e x.g .none .none := by
  subst hf
  have h0 : ([x] : List Nd)[0]? = some x := rfl
  have hr : root [x] = .nd x.op x.i x.e x.g .none .none := by
    show tree [x] 0 = _
    rw [tree_nd (check_okl hc) h0, hx, hy]; rfl
  have ok := check_okl hc 0 x h0
  refine ⟨⟨⟨check_okl hc, by simp, by simp, ?_⟩, by rw [hr]; simp [Tr.size], by rw [hr]; simp only [propT, ho]; rfl⟩, hr⟩
  rw [hr]
  have e1 := ok.nox hx
  have e2 := ok.noy hy
  simp only [finT, putN, idx, List.nil_append]
  cases x; simp only at e1 e2; subst e1; subst e2; rfl
theorem one3 {i : Nat} (hi : i < 8) : buildL (nI 3 i) [] = [nI 3 i] ∧ check [nI 3 i] = 0 := by
  have : i = 0 ∨ i = 1 ∨ i = 2 ∨ i = 3 ∨ i = 4 ∨ i = 5 ∨ i = 6 ∨ i = 7 := by omega
  rw [build_one]
  rcases this with rfl | rfl | rfl | rfl | rfl | rfl | rfl | rfl <;> exact ⟨rfl, rfl⟩
theorem fact_gd {n i : Nat} (hn : n ≤ 8) (hi : i < n) : Gd n (buildL (nI 3 i) []) 1 ∧ ∀ v, tev v (root (buildL (nI 3 i) [])) = v.testBit i := by
  obtain ⟨hb, hc⟩ := one3 (show i < 8 by omega)
  obtain ⟨h1, h2⟩ := one_gd (n := n) (nI 3 i) hb hc rfl rfl (by simp [opN, nI]; omega)
  exact ⟨h1, fun v => by rw [h2]; rfl⟩
theorem Gd.more {n k m : Nat} {f : List Nd} (h : Gd n f k) (hk : k ≤ m) : Gd n f m := ⟨h.can, Nat.le_trans h.size hk, h.ok⟩
def jev (op : Int) (em : List Nd) (v : Nat) : List (List Nd) → Bool
  | [] => tev v (root em)
  | f :: r => r.foldl (fun b g => evO op false b (tev v (root g))) (tev v (root f))
theorem joinL_gd {n k : Nat} {op : Int} (hop : op = 5 ∨ op = 6) (em : List Nd) (hem : Gd n em 1) (l : List (List Nd)) (hl : ∀ g, g ∈ l → Gd n g k) (hs : l.length * (k + 1) ≤ 200) (m : Nat) (h1 : 1 ≤ m) (hm : l.length * (k + 1) ≤ m + 1) :
    Gd n (joinL op em l) m ∧ ∀ v, tev v (root (joinL op em l)) = jev op em v l := by
  cases l with
  | nil => exact ⟨hem.more h1, fun _ => rfl⟩
  | cons f r =>
    have hf := hl f (by simp)
    have e : (f :: r).length * (k + 1) = (k + 1) + r.length * (k + 1) := by rw [List.length_cons, Nat.add_mul, Nat.one_mul, Nat.add_comm]
    rw [e] at hs hm
    simp only [joinL]
    rw [can_comp hf.can]
    obtain ⟨h2, h3⟩ := join_gd hop r f k hf (fun g hg => hl g (by simp [hg])) (by omega)
    exact ⟨h2.more (by omega), h3⟩
theorem true_gd (n : Nat) : Gd n (buildL (n0 1) []) 1 ∧ ∀ v, tev v (root (buildL (n0 1) [])) = true := by
  obtain ⟨h1, h2⟩ := one_gd (n := n) (f := buildL (n0 1) []) (n0 1) rfl rfl rfl rfl rfl
  exact ⟨h1, fun v => by rw [h2]; rfl⟩
theorem false_gd (n : Nat) : Gd n (buildL (n0 2) []) 1 ∧ ∀ v, tev v (root (buildL (n0 2) [])) = false := by
  obtain ⟨h1, h2⟩ := one_gd (n := n) (f := buildL (n0 2) []) (n0 2) rfl rfl rfl rfl rfl
  exact ⟨h1, fun v => by rw [h2]; rfl⟩
end Go.Proofs.Ytibenjpkinhjhaa
set_option maxRecDepth 100000
namespace Go.Proofs.Ytibenjpkinhjhaa
open Go Go.Dv

structure Asg where
  fact : Int
  to : List Nd
structure Act where
  pre : List (List Nd)
  post : List (List Asg)
  rel : List (List Nat)
def Asg.pv (a : Asg) : PV := .agg [.int .i64 a.fact, fpv a.to]
def rowPV (r : List Nat) : PV := .sl (r.map u64)
def postPV (l : List Asg) : PV := .sl (l.map Asg.pv)
def Act.pv (a : Act) : PV := .agg [.sl (a.pre.map fpv), .sl (a.post.map postPV), .sl (a.rel.map rowPV)]
def noAct : Act := ⟨[], [], []⟩
def pairA (x : Act × Int) : PV := .tup [x.1.pv, .int .i64 x.2]

/-! lists in which a nil slice stands for an empty one -/
theorem PLe.sls {l l' : List PV} (h : PLes l l') : PLe (.sl l) (.sl l') := by
  have h1 : ∀ {l l' : List PV}, PLes l l' → l.length = l'.length ∧ ∀ (i : Nat) p q, l[i]? = some p → l'[i]? = some q → PLe p q := by
    intro l
    induction l with
    | nil => intro l' h; cases l' with
      | nil => exact ⟨rfl, fun i p q hp => by simp at hp⟩
      | cons => exact h.elim
    | cons a r ih => intro l' h; cases l' with
      | nil => exact h.elim
      | cons b s =>
        obtain ⟨e, k⟩ := ih h.2
        refine ⟨by simp [e], fun i p q hp hq => ?_⟩
        cases i with
        | zero => simp at hp hq; subst hp; subst hq; exact h.1
        | succ i => exact k i p q (by simpa using hp) (by simpa using hq)
  exact .sl _ _ (h1 h).1 (h1 h).2
theorem PLe.aggs {l l' : List PV} (h : PLes l l') : PLe (.agg l) (.agg l') := by
  have := PLe.sls h
  cases this with
  | refl => exact .refl _
  | sl _ _ h1 h2 => exact .agg _ _ h1 h2
theorem PLe.tups {l l' : List PV} (h : PLes l l') : PLe (.tup l) (.tup l') := by
  have := PLe.sls h
  cases this with
  | refl => exact .refl _
  | sl _ _ h1 h2 => exact .tup _ _ h1 h2
theorem le_noAct (e : Int) : PLe (.tup [.agg [.nil, .nil, .nil], .int .i64 e]) (pairA (noAct, e)) := PLe.tups ⟨PLe.aggs ⟨.nil, .nil, .nil, trivial⟩, .refl _, trivial⟩

/-! errors -/
def nand64' (a b : Int) : Int := IntKind.wrap .i64 ((BitVec.ofInt (IntKind.bits .i64) a &&& ~~~BitVec.ofInt (IntKind.bits .i64) b).toNat : Int)
def statI (ag : Int) (n : Int) (f : List Nd) : Int := bif check f != 0 then check f else bif nand64' (frags f : Nat) 15 != 0 then 10 else bif !fits f ag n then 2 else 0
def badAg (ag : Int) : Bool := bif decide (ag < 0) then true else decide (ag > 4)
def badG (ag g : Int) : Bool := bif decide (g < 0) then true else decide (g ≥ shl64 1 ag)
def badF (fact : Int) : Bool := bif decide (fact < 0) then true else decide (fact ≥ 8)
def errI (ag fact : Int) (gs : List Int) (f : List Nd) : Int := bif badAg ag then 2 else bif gs.any (badG ag) then 1 else bif badF fact then 2 else statI ag 8 f
theorem badAg_no {ag : Int} (h : badAg ag = false) : ∃ n : Nat, ag = n ∧ n ≤ 4 := by
  unfold badAg at h
  by_cases h1 : ag < 0
  · rw [decide_eq_true h1] at h; cases h
  · by_cases h2 : ag > 4
    · rw [decide_eq_false h1, decide_eq_true h2] at h; cases h
    · exact ⟨ag.toNat, by omega, by omega⟩
theorem statI_ok {ag n : Int} {f : List Nd} (h : statI ag n f = 0) : check f = 0 ∧ nand64' (frags f : Nat) 15 = 0 ∧ fits f ag n = true := by
  unfold statI at h
  cases h1 : (check f != 0) with
  | true => rw [h1] at h; simp only [cond_true] at h; rw [h] at h1; cases h1
  | false =>
    rw [h1] at h
    cases h2 : (nand64' (frags f : Nat) 15 != 0) with
    | true => rw [h2] at h; cases h
    | false =>
      rw [h2] at h
      cases h3 : fits f ag n with
      | false => rw [h3] at h; cases h
      | true => exact ⟨by simpa using h1, by simpa using h2, rfl⟩
theorem errI_ok {ag fact : Int} {gs : List Int} {f : List Nd} (h : errI ag fact gs f = 0) : badAg ag = false ∧ gs.any (badG ag) = false ∧ badF fact = false ∧ statI ag 8 f = 0 := by
  unfold errI at h
  cases h1 : badAg ag with
  | true => rw [h1] at h; cases h
  | false =>
    rw [h1] at h
    cases h2 : gs.any (badG ag) with
    | true => rw [h2] at h; cases h
    | false =>
      rw [h2] at h
      cases h3 : badF fact with
      | true => rw [h3] at h; cases h
      | false => rw [h3] at h; exact ⟨rfl, rfl, rfl, h⟩

/-! relations -/
def rcell (n e : Nat) (c : Int) : Nat := bif c == 0 then 2 ^ e else bif c == 1 then 2 ^ n - 1 else 2 ^ (n - 1)
def relOf (ag n : Nat) (pc : Nat → Int) : List (List Nat) := (List.range ag).map fun a => (List.range n).map fun e => rcell n e (pc a)
/-- A row of which the first e values are there. -/
def rowH (n : Nat) (c : Int) (e : Nat) : List PV := (List.range n).map fun j => u64 (bif decide (j < e) then rcell n j c else 0)
theorem rowH_len (n : Nat) (c : Int) (e : Nat) : (rowH n c e).length = n := by simp [rowH]
theorem rowH_zero (n : Nat) (c : Int) : rowH n c 0 = List.replicate n (u64 0) := by
  apply List.ext_getElem (by simp [rowH])
  intro i h1 h2
  simp [rowH]
theorem rowH_get {n : Nat} {c : Int} {e : Nat} (h : e < n) : (rowH n c e)[e]? = some (u64 0) := by
  simp [rowH, List.getElem?_map, List.getElem?_range h]
theorem rowH_set {n : Nat} {c : Int} {e : Nat} : (rowH n c e).set e (u64 (rcell n e c)) = rowH n c (e + 1) := by
  apply List.ext_getElem?
  intro i
  rw [List.getElem?_set]
  by_cases hi : i < n
  · simp only [rowH, List.getElem?_map, List.getElem?_range hi, List.length_map, List.length_range, Option.map_some]
    by_cases he : e = i
    · subst he; simp [hi]
    · have : decide (i < e + 1) = decide (i < e) := by
        by_cases q : i < e
        · simp [q, Nat.lt_succ_of_lt q]
        · have : ¬ i < e + 1 := by omega
          simp [q, this]
      simp [he, this]
  · have h1 : (rowH n c e)[i]? = none := List.getElem?_eq_none (by rw [rowH_len]; omega)
    have h2 : (rowH n c (e + 1))[i]? = none := List.getElem?_eq_none (by rw [rowH_len]; omega)
    rw [h1, h2]
    split
    · split
      · rename_i h3 h4; rw [rowH_len] at h4; omega
      · rfl
    · rfl
theorem rowH_full (n : Nat) (c : Int) : PV.sl (rowH n c n) = rowPV ((List.range n).map fun e => rcell n e c) := by
  rw [rowPV, List.map_map, rowH]
  congr 1
  apply List.map_congr_left
  intro j hj
  rw [decide_eq_true (List.mem_range.1 hj)]; rfl
def rowsH (n : Nat) (pc : Nat → Int) (i : Nat) : List PV := (List.range i).map fun a => PV.sl (rowH n (pc a) n)
theorem rowsH_succ (n : Nat) (pc : Nat → Int) (i : Nat) : rowsH n pc (i + 1) = rowsH n pc i ++ [PV.sl (rowH n (pc i) n)] := by simp [rowsH, List.range_succ]
theorem rowsH_len (n : Nat) (pc : Nat → Int) (i : Nat) : (rowsH n pc i).length = i := by simp [rowsH]
theorem rowsH_full (n : Nat) (pc : Nat → Int) (ag : Nat) : rowsH n pc ag = (relOf ag n pc).map rowPV := by
  rw [relOf, List.map_map, rowsH]
  apply List.map_congr_left
  intro a _
  exact rowH_full n (pc a)
/-! how the agents perceive the events -/
def pcB (g o : Int) (a : Nat) : Int := bif and64 (shr64 g a) 1 == 1 then 0 else o
def pcA (to who : Int) (a : Nat) : Int := bif (bif and64 (shr64 to a) 1 == 0 then and64 (shr64 who a) 1 == 1 else false) then 1 else pcB to 2 a

/-! the messages -/
def suspI (ag to who : Int) (f : List Nd) : Act × Int :=
  bif errI ag 0 [to, who] f != 0 then (noAct, errI ag 0 [to, who] f) else (⟨[comp f, buildL (n0 1) []], [[], []], relOf ag.toNat 2 (pcA to who)⟩, 0)
def semiI (ag to : Int) (f : List Nd) : Act × Int :=
  bif errI ag 0 [to] f != 0 then (noAct, errI ag 0 [to] f) else bif ((buildL (n0 4) [f]).length : Int) == 0 then (noAct, 8) else (⟨[comp f, buildL (n0 4) [f]], [[], []], relOf ag.toNat 2 (pcB to 1)⟩, 0)
def changeI (ag fact : Int) (f : List Nd) : Act × Int :=
  bif errI ag fact [] f != 0 then (noAct, errI ag fact [] f) else (⟨[buildL (n0 1) []], [[⟨fact, comp f⟩]], relOf ag.toNat 1 (fun _ => 1)⟩, 0)
def secretI (ag to fact : Int) (f : List Nd) : Act × Int :=
  bif errI ag fact [to] f != 0 then (noAct, errI ag fact [to] f) else (⟨[buildL (n0 1) [], buildL (n0 1) []], [[⟨fact, comp f⟩], []], relOf ag.toNat 2 (pcB to 2)⟩, 0)
def tossI (ag to fact : Int) : Act × Int :=
  bif errI ag fact [to] (buildL (n0 1) []) != 0 then (noAct, errI ag fact [to] (buildL (n0 1) []))
  else (⟨[buildL (n0 1) [], buildL (n0 1) []], [[⟨fact, buildL (n0 1) []⟩], [⟨fact, buildL (n0 2) []⟩]], relOf ag.toNat 2 (pcB to 1)⟩, 0)
end Go.Proofs.Ytibenjpkinhjhaa
