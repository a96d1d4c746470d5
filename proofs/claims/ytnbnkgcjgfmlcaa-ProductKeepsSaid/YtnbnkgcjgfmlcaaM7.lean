/- Parts of the proof, one after the other: Messages: Change of the program walked; Public and Skip of action models. Messages: Look of the program walked. Messages: the comparisons of action models with themselves, walked. Action models: errors (plain). Action models: Check of the program walked. Action models: the conditions of the logics, of the program, walked. Action models: Group, Meet and Value of the program walked. Action models: what can be reached from an event (plain). Action models: Generated of the program walked. -/
import Derived.Test.YtnbnkgcjgfmlcaaM6
set_option maxRecDepth 100000
set_option maxHeartbeats 4000000
namespace Go.Proofs.Ytnbnkgcjgfmlcaa
open Go Go.Dv

theorem ac_static (f : List Nd) (ag n : Int) : PureFn Try.prog 87 [fpv f, .int .i64 ag, .int .i64 n] (.int .i64 (statI ag n f)) := by
  refine PureFn.intro mixed (fn := Try.f87) rfl rfl rfl fun M w0 => ?_
  (try conv=>whnf);repeat' (first|(apply And.intro<;>try conv=>whnf)|(intro h;first|(with_reducible first|exact tf0 h|exact ft0 h|exact nt0 h|exact nf0 h)|exact litz h rfl|(with_reducible first|exact tf h (by assumption)|exact tf (by assumption) h)|try conv=>whnf)|with_reducible rfl|apply True.intro|((first|apply infoT|apply bleI|apply fitI|apply cellsI|apply szI);rfl)|(apply guardI;kernel_rfl)|(apply WhenQ.mk;(try conv=>whnf);rotate_left;(try conv=>whnf);rotate_right)|(with_reducible first|assumption|(apply not_of;assumption)|(apply left_of;assumption)|(apply left_of;apply left_of;assumption)|(apply and_of<;>first|assumption|(apply not_of;assumption)))|(refine lin_plan (by kernel_rfl) ?_;try conv=>whnf)|(refine ⟨_, _, rfl, idx_map (by with_reducible assumption), rfl, ?_⟩;try conv=>whnf)|(refine ⟨rfl, ?_⟩;try conv=>whnf)|exact Nat.le_refl 1|((first|(apply ex3;(focus with_reducible assumption);(focus with_reducible assumption))|(apply ex2;(focus with_reducible assumption)));try conv=>whnf)|(refine PureFn.dcq (f := 90) rfl ?_;try conv=>whnf)|(refine PureFn.dcq (f := 33) rfl ?_;try conv=>whnf)|(refine PureFn.dcq (f := 96) rfl ?_;try conv=>whnf)|((refine ⟨_, _, fm_Check ?_, ?_, ?_⟩);rotate_left 1;(focus (first|(refine ⟨?_, trivial⟩<;>first|exact PLe.refl _|exact PLe.nil)|exact trivial));try conv=>whnf)|(refine ⟨_, (by (conv=>whnf);exact fm_Check _), rfl, ?_⟩;try conv=>whnf)|((refine ⟨_, _, fm_Frags ?_, ?_, ?_⟩);rotate_left 1;(focus (first|(refine ⟨?_, trivial⟩<;>first|exact PLe.refl _|exact PLe.nil)|exact trivial));try conv=>whnf)|(refine ⟨_, (by (conv=>whnf);exact fm_Frags _), rfl, ?_⟩;try conv=>whnf)|((refine ⟨_, _, fm_Fits ?_ ?_ ?_, ?_, ?_⟩);rotate_left 3;(focus (first|(refine ⟨?_, ?_, ?_, trivial⟩<;>first|exact PLe.refl _|exact PLe.nil)|exact trivial));try conv=>whnf)|(refine ⟨_, (by (conv=>whnf);exact fm_Fits _ _ _), rfl, ?_⟩;try conv=>whnf)|fail)
  · refine le_int ?_
    rw [statI, h]; rfl
  · rename_i h1
    refine le_int ?_
    rw [statI, h1, show (nand64' (frags f : Nat) 15 != 0) = true from h]; rfl
  · rename_i h2 h1
    refine le_int ?_
    rw [statI, h2, show (nand64' (frags f : Nat) 15 != 0) = false from h1, h]; rfl
  · rename_i h2 h1
    refine le_int ?_
    rw [statI, h2, show (nand64' (frags f : Nat) 15 != 0) = false from h1, h]; rfl
end Go.Proofs.Ytnbnkgcjgfmlcaa
set_option maxRecDepth 100000
set_option maxHeartbeats 4000000
namespace Go.Proofs.Ytnbnkgcjgfmlcaa
open Go Go.Dv

/-! bits -/
theorem nand_eq {a b : Nat} (ha : a < 2 ^ 62) : nand64' a b = ((a ^^^ (a &&& b) : Nat) : Int) := by
  have hlt : a ^^^ (a &&& b) < 2 ^ 62 := Nat.xor_lt_two_pow ha (Nat.lt_of_le_of_lt Nat.and_le_left ha)
  unfold nand64'
  show IntKind.wrap .i64 ((BitVec.ofInt 64 (a : Int) &&& ~~~BitVec.ofInt 64 (b : Int)).toNat : Int) = _
  rw [ofInt_nat, ofInt_nat]
  have h2 : (BitVec.ofNat 64 a &&& ~~~BitVec.ofNat 64 b).toNat = a ^^^ (a &&& b) := by
    apply Nat.eq_of_testBit_eq
    intro i
    rw [BitVec.testBit_toNat, BitVec.getLsbD_and, BitVec.getLsbD_not, BitVec.getLsbD_ofNat, BitVec.getLsbD_ofNat, Nat.testBit_xor, Nat.testBit_and]
    by_cases hi : i < 64
    · simp only [hi, decide_true, Bool.true_and]; cases a.testBit i <;> cases b.testBit i <;> rfl
    · have : a.testBit i = false := Nat.testBit_lt_two_pow (Nat.lt_of_lt_of_le (show a < 2 ^ 64 by omega) (Nat.pow_le_pow_right (by decide) (by omega)))
      simp [hi, this]
  rw [h2, wrap_small (by omega) (by omega)]
def subM (s m : Nat) : Bool := s &&& m == s
theorem nand_zero {a b : Nat} (ha : a < 2 ^ 62) : (nand64' a b == 0) = subM a b := by
  rw [nand_eq ha, subM, Bool.eq_iff_iff, beq_iff_eq, beq_iff_eq]
  constructor
  · intro h
    have h0 : a ^^^ (a &&& b) = 0 := by omega
    have h4 : (a ^^^ (a &&& b)) ^^^ (a &&& b) = a := by rw [Nat.xor_assoc, Nat.xor_self, Nat.xor_zero]
    rw [h0, Nat.zero_xor] at h4; exact h4
  · intro h
    rw [h, Nat.xor_self]; rfl

/-! the formulas of a look -/
theorem app_big {l : List PV} {n : Nat} {p : PV} (h : l.length ≤ n) (hn : n ≤ 1000) : l.length + [p].length ≤ big := by
  show l.length + 1 ≤ 4294967296; omega
end Go.Proofs.Ytnbnkgcjgfmlcaa
set_option maxRecDepth 100000
set_option maxHeartbeats 4000000
namespace Go.Proofs.Ytnbnkgcjgfmlcaa
open Go Go.Dv

def cellsA (a : Act) : List DV := [.pv (.sl (a.pre.map fpv)), .pv (.sl (a.post.map postPV)), .pv (.sl (a.rel.map rowPV))]
theorem cells_u64 (l : List Nat) : cellsAll 1 (l.map u64) = true := by simp [cellsAll, u64, PV.cells, PV.one]
end Go.Proofs.Ytnbnkgcjgfmlcaa
set_option maxRecDepth 100000
namespace Go.Proofs.Ytnbnkgcjgfmlcaa
open Go Go.Dv

/-! the length of a number in bits -/
def len64 (x : Nat) : Nat := if x = 0 then 0 else Nat.log2 x + 1
theorem len64_lt {x k : Nat} : len64 x ≤ k ↔ x < 2 ^ k := by
  unfold len64
  by_cases h : x = 0
  · subst h; simp [Nat.two_pow_pos]
  · rw [if_neg h, ← Nat.log2_lt h]; omega
theorem len64_shift {x k : Nat} (h : 2 ^ k ≤ x) : len64 x = k + len64 (x >>> k) := by
  have key : ∀ j, len64 x ≤ k + j ↔ len64 (x >>> k) ≤ j := fun j => by
    rw [len64_lt, len64_lt, Nat.shiftRight_eq_div_pow, Nat.div_lt_iff_lt_mul (Nat.two_pow_pos k), Nat.pow_add, Nat.mul_comm]
  have h1 : k < len64 x := by
    rcases Nat.lt_or_ge k (len64 x) with q | q
    · exact q
    · have q2 : len64 x ≤ k := q
      rw [len64_lt] at q2; omega
  have h2 := (key (len64 x - k)).1 (by omega)
  have h3 := (key (len64 (x >>> k))).2 (Nat.le_refl _)
  omega

/-! errors -/
def chgs (ag n : Int) : List Asg → Int → Int
  | [], _ => 0
  | x :: r, last => bif (bif decide (x.fact < 0) then true else decide (x.fact ≥ n)) then 2 else bif decide (x.fact ≤ last) then 9 else bif statI ag n x.to != 0 then statI ag n x.to else chgs ag n r x.fact
def evs' (ag n : Int) : List (List Nd) → List (List Asg) → Int
  | [], _ => 0
  | f :: r, post => bif statI ag n f != 0 then statI ag n f else bif chgs ag n (post.headD []) (-1) != 0 then chgs ag n (post.headD []) (-1) else evs' ag n r post.tail
def rowsBad (rel : List (List Nat)) (n : Nat) : Bool := rel.any fun r => ((r.length : Int) != (n : Int))
def bitsBad (rel : List (List Nat)) (n : Nat) : Bool := rel.any fun r => r.any fun s => decide ((len64 s : Int) > (n : Int))
def shapeI (a : Act) (ag : Int) : Int :=
  bif (bif decide ((a.pre.length : Int) < 1) then true else decide ((a.pre.length : Int) > 8)) then 2 else
  bif (bif (bif (a.post.length : Int) != (a.pre.length : Int) then true else (a.rel.length : Int) != ag) then true else rowsBad a.rel a.pre.length) then 3 else bif bitsBad a.rel a.pre.length then 2 else 0
def actI (a : Act) (ag n : Int) : Int :=
  bif (bif bif bif decide (ag < 0) then true else decide (ag > 4) then true else decide (n < 0) then true else decide (n > 8)) then 2 else bif shapeI a ag != 0 then shapeI a ag else evs' ag n a.pre a.post
/-- The error of an action model by itself. -/
def aloneI (a : Act) : Int := actI a (a.rel.length : Int) 8
theorem shapeI_ok {a : Act} {ag : Int} (h : shapeI a ag = 0) : 1 ≤ a.pre.length ∧ a.pre.length ≤ 8 ∧ a.post.length = a.pre.length ∧ (a.rel.length : Int) = ag ∧ rowsBad a.rel a.pre.length = false ∧ bitsBad a.rel a.pre.length = false := by
  unfold shapeI at h
  cases h1 : (bif decide ((a.pre.length : Int) < 1) then true else decide ((a.pre.length : Int) > 8)) with
  | true => rw [h1] at h; cases h
  | false =>
    rw [h1] at h
    cases h2 : (bif (bif (a.post.length : Int) != (a.pre.length : Int) then true else (a.rel.length : Int) != ag) then true else rowsBad a.rel a.pre.length) with
    | true => rw [h2] at h; cases h
    | false =>
      rw [h2] at h
      cases h3 : bitsBad a.rel a.pre.length with
      | true => rw [h3] at h; cases h
      | false =>
        cases h4 : ((a.post.length : Int) != (a.pre.length : Int)) with
        | true => rw [h4] at h2; cases h2
        | false =>
          rw [h4] at h2
          cases h5 : ((a.rel.length : Int) != ag) with
          | true => rw [h5] at h2; cases h2
          | false =>
            rw [h5] at h2
            by_cases h6 : (a.pre.length : Int) < 1
            · rw [decide_eq_true h6] at h1; cases h1
            · rw [decide_eq_false h6] at h1
              by_cases h7 : (a.pre.length : Int) > 8
              · rw [decide_eq_true h7] at h1; cases h1
              · have h8 : (a.post.length : Int) = a.pre.length := by simpa using h4
                exact ⟨by omega, by omega, by omega, by simpa using h5, h2, rfl⟩
theorem rows_ok {rel : List (List Nat)} {n : Nat} (h : rowsBad rel n = false) : ∀ r, r ∈ rel → r.length = n := by
  intro r hr
  have := List.any_eq_false.1 h r hr
  have h2 : ((r.length : Int) != (n : Int)) = false := by simpa using this
  have h3 : (r.length : Int) = (n : Int) := by simpa using h2
  omega
theorem bits_ok {rel : List (List Nat)} {n : Nat} (h : bitsBad rel n = false) : ∀ r, r ∈ rel → ∀ s, s ∈ r → s < 2 ^ n := by
  intro r hr s hs
  have h1 := List.any_eq_false.1 h r hr
  rw [← len64_lt]
  rcases Nat.lt_or_ge n (len64 s) with q | q
  · exact absurd (List.any_eq_true.2 ⟨s, hs, decide_eq_true (by omega)⟩) h1
  · exact q
/-- What an action model consists of that is without error. -/
structure OkA (a : Act) (ag n : Int) : Prop where
  ags : ag = (a.rel.length : Int)
  agn : a.rel.length ≤ 4
  n1 : 1 ≤ a.pre.length
  n8 : a.pre.length ≤ 8
  post : a.post.length = a.pre.length
  rows : ∀ r, r ∈ a.rel → r.length = a.pre.length
  bits : ∀ r, r ∈ a.rel → ∀ s, s ∈ r → s < 2 ^ a.pre.length
  ev : evs' ag n a.pre a.post = 0
theorem actI_ok {a : Act} {ag n : Int} (h : actI a ag n = 0) : OkA a ag n := by
  unfold actI at h
  cases h1 : (bif bif bif decide (ag < 0) then true else decide (ag > 4) then true else decide (n < 0) then true else decide (n > 8)) with
  | true => rw [h1] at h; cases h
  | false =>
    rw [h1] at h
    cases h2 : (shapeI a ag != 0) with
    | true => rw [h2] at h; simp only [cond_false, cond_true] at h; rw [h] at h2; cases h2
    | false =>
      rw [h2] at h
      obtain ⟨s1, s2, s3, s4, s5, s6⟩ := shapeI_ok (a := a) (ag := ag) (by simpa using h2)
      have h4 : ¬ ag > 4 := by
        intro hh
        by_cases h5 : ag < 0
        · omega
        · rw [decide_eq_false h5, decide_eq_true hh] at h1; cases h1
      exact ⟨s4.symm, by omega, s1, s2, s3, rows_ok s5, bits_ok s6, h⟩
theorem evs_drop {ag n : Int} {pre : List (List Nd)} {post : List (List Asg)} {i : Nat} (h : i < pre.length) (h2 : i < post.length) :
    evs' ag n (pre.drop i) (post.drop i) = bif statI ag n pre[i] != 0 then statI ag n pre[i] else bif chgs ag n post[i] (-1) != 0 then chgs ag n post[i] (-1) else evs' ag n (pre.drop (i + 1)) (post.drop (i + 1)) := by
  rw [List.drop_eq_getElem_cons h, List.drop_eq_getElem_cons h2]; rfl
theorem chgs_drop {ag n last : Int} {l : List Asg} {i : Nat} (h : i < l.length) :
    chgs ag n (l.drop i) last = bif (bif decide (l[i].fact < 0) then true else decide (l[i].fact ≥ n)) then 2 else bif decide (l[i].fact ≤ last) then 9 else bif statI ag n l[i].to != 0 then statI ag n l[i].to else chgs ag n (l.drop (i + 1)) l[i].fact := by
  rw [List.drop_eq_getElem_cons h]; rfl
/-- All numbers of a relation fit a word. -/
def Fit (a : Act) : Prop := ∀ r, r ∈ a.rel → ∀ s, s ∈ r → s < 2 ^ 64
end Go.Proofs.Ytnbnkgcjgfmlcaa
set_option maxRecDepth 100000
set_option maxHeartbeats 4000000
namespace Go.Proofs.Ytnbnkgcjgfmlcaa
open Go Go.Dv

theorem shrU_geq {x k : Nat} (hx : x < 2 ^ 64) (hk : k ≤ 64) : shrU x k = ((x >>> k : Nat) : Int) := by
  have := hx
  exact shrU_nat x k hk
theorem shr_lt {x k m : Nat} (h : x < 2 ^ (k + m)) : x >>> k < 2 ^ m := by
  rw [Nat.shiftRight_eq_div_pow]
  exact Nat.div_lt_of_lt_mul (by rw [← Nat.pow_add]; exact h)
theorem bits_Len64 (x : Nat) (hx : x < 2 ^ 64) : PureFn Try.prog 107 [u64 x] (.int .i64 (len64 x : Nat)) := by
  refine PureFn.introC [4, 7, 10] mixed (fn := Try.f107) rfl rfl rfl fun M w0 => ?_
  (try conv=>whnf);repeat' (first|(apply And.intro<;>try conv=>whnf)|(intro h;first|(with_reducible first|exact tf0 h|exact ft0 h|exact nt0 h|exact nf0 h)|exact litz h rfl|(with_reducible first|exact tf h (by assumption)|exact tf (by assumption) h)|try conv=>whnf)|with_reducible rfl|apply True.intro|((first|apply infoT|apply bleI|apply fitI|apply cellsI|apply szI);rfl)|(apply guardI;kernel_rfl)|(apply WhenQ.mk;(try conv=>whnf);rotate_left;(try conv=>whnf);rotate_right)|(with_reducible first|assumption|(apply not_of;assumption)|(apply left_of;assumption)|(apply left_of;apply left_of;assumption)|(apply and_of<;>first|assumption|(apply not_of;assumption)))|(refine lin_plan (by kernel_rfl) ?_;try conv=>whnf)|(refine ⟨_, _, rfl, idx_map (by with_reducible assumption), rfl, ?_⟩;try conv=>whnf)|(refine ⟨rfl, ?_⟩;try conv=>whnf)|exact Nat.le_refl 1|((first|(apply ex3;(focus with_reducible assumption);(focus with_reducible assumption))|(apply ex2;(focus with_reducible assumption)));try conv=>whnf)|fail)
  refine ⟨{ q : Nat × Nat // q.1 < 2 ^ 32 ∧ q.2 ≤ 32 ∧ len64 x = q.2 + len64 q.1 }, fun q => [(0, .pv (u64 q.1.1)), (2, .pv (i64 q.1.2))], fun _ => 0, fun _ => [], ?_, ?_⟩
  · (try conv=>whnf);repeat' (first|(apply And.intro<;>try conv=>whnf)|(intro h;first|(with_reducible first|exact tf0 h|exact ft0 h|exact nt0 h|exact nf0 h)|exact litz h rfl|(with_reducible first|exact tf h (by assumption)|exact tf (by assumption) h)|try conv=>whnf)|with_reducible rfl|apply True.intro|((first|apply infoT|apply bleI|apply fitI|apply cellsI|apply szI);rfl)|(apply guardI;kernel_rfl)|(apply WhenQ.mk;(try conv=>whnf);rotate_left;(try conv=>whnf);rotate_right)|(with_reducible first|assumption|(apply not_of;assumption)|(apply left_of;assumption)|(apply left_of;apply left_of;assumption)|(apply and_of<;>first|assumption|(apply not_of;assumption)))|(refine lin_plan (by kernel_rfl) ?_;try conv=>whnf)|(refine ⟨_, _, rfl, idx_map (by with_reducible assumption), rfl, ?_⟩;try conv=>whnf)|(refine ⟨rfl, ?_⟩;try conv=>whnf)|exact Nat.le_refl 1|((first|(apply ex3;(focus with_reducible assumption);(focus with_reducible assumption))|(apply ex2;(focus with_reducible assumption)));try conv=>whnf)|fail)
    · exact Int.natCast_nonneg 32
    · have h1 : 2 ^ 32 ≤ x := by have := of_decide_eq_true h; omega
      refine ⟨⟨(x >>> 32, 32), shr_lt hx, by omega, len64_shift h1⟩, ?_⟩
      (refine Wk.of ?_ ?_ rfl rfl rfl<;>(repeat' (first|exact trivial|exact WkD.same _|exact WkO.same _ _ rfl|exact WkD.any _|(apply WkD.nil;first|exact Or.inl rfl|exact Or.inr rfl)|(exact WkD.fz _ _ _ rfl (Or.inl ⟨_, rfl⟩) rfl)|(exact WkD.fz _ _ _ rfl (Or.inr rfl) rfl)|refine WkD.int ?_|exact WkD.new' rfl rfl rfl|exact WkO.new _ _ rfl|refine WkO.vars rfl ?_|with_reducible rfl|exact rfl|refine ⟨?_, ?_⟩|((refine wrapA ?_ ?_ ?_);(focus simp;done);(focus (try dsimp only);omega);(focus (try dsimp only);omega))|fail)))
      exact shrU_nat x 32 (by omega)
    · have h1 : ¬ 2 ^ 32 ≤ x := by have := of_decide_eq_false h; omega
      refine ⟨⟨(x, 0), by omega, by omega, by simp⟩, ?_⟩
      (refine Wk.of ?_ ?_ rfl rfl rfl<;>(repeat' (first|exact trivial|exact WkD.same _|exact WkO.same _ _ rfl|exact WkD.any _|(apply WkD.nil;first|exact Or.inl rfl|exact Or.inr rfl)|(exact WkD.fz _ _ _ rfl (Or.inl ⟨_, rfl⟩) rfl)|(exact WkD.fz _ _ _ rfl (Or.inr rfl) rfl)|refine WkD.int ?_|exact WkD.new' rfl rfl rfl|exact WkO.new _ _ rfl|refine WkO.vars rfl ?_|with_reducible rfl|exact rfl|refine ⟨?_, ?_⟩|((refine wrapA ?_ ?_ ?_);(focus simp;done);(focus (try dsimp only);omega);(focus (try dsimp only);omega))|fail)))
  rintro ⟨⟨y, n⟩, hy, hn, he⟩
  simp only at hy hn he
  refine ⟨{ q : Nat × Nat // q.1 < 2 ^ 16 ∧ q.2 ≤ 48 ∧ len64 x = q.2 + len64 q.1 }, fun q => [(0, .pv (u64 q.1.1)), (2, .pv (i64 q.1.2))], fun _ => 0, fun _ => [], ?_, ?_⟩
  · (try conv=>whnf);repeat' (first|(apply And.intro<;>try conv=>whnf)|(intro h;first|(with_reducible first|exact tf0 h|exact ft0 h|exact nt0 h|exact nf0 h)|exact litz h rfl|(with_reducible first|exact tf h (by assumption)|exact tf (by assumption) h)|try conv=>whnf)|with_reducible rfl|apply True.intro|((first|apply infoT|apply bleI|apply fitI|apply cellsI|apply szI);rfl)|(apply guardI;kernel_rfl)|(apply WhenQ.mk;(try conv=>whnf);rotate_left;(try conv=>whnf);rotate_right)|(with_reducible first|assumption|(apply not_of;assumption)|(apply left_of;assumption)|(apply left_of;apply left_of;assumption)|(apply and_of<;>first|assumption|(apply not_of;assumption)))|(refine lin_plan (by kernel_rfl) ?_;try conv=>whnf)|(refine ⟨_, _, rfl, idx_map (by with_reducible assumption), rfl, ?_⟩;try conv=>whnf)|(refine ⟨rfl, ?_⟩;try conv=>whnf)|exact Nat.le_refl 1|((first|(apply ex3;(focus with_reducible assumption);(focus with_reducible assumption))|(apply ex2;(focus with_reducible assumption)));try conv=>whnf)|fail)
    · exact Int.natCast_nonneg 16
    · have h1 : 2 ^ 16 ≤ y := by have := of_decide_eq_true h; simp only at *; omega
      have h2 := len64_shift h1
      refine ⟨⟨(y >>> 16, n + 16), shr_lt hy, by simp only at *; omega, by simp only at *; omega⟩, ?_⟩
      (refine Wk.of ?_ ?_ rfl rfl rfl<;>(repeat' (first|exact trivial|exact WkD.same _|exact WkO.same _ _ rfl|exact WkD.any _|(apply WkD.nil;first|exact Or.inl rfl|exact Or.inr rfl)|(exact WkD.fz _ _ _ rfl (Or.inl ⟨_, rfl⟩) rfl)|(exact WkD.fz _ _ _ rfl (Or.inr rfl) rfl)|refine WkD.int ?_|exact WkD.new' rfl rfl rfl|exact WkO.new _ _ rfl|refine WkO.vars rfl ?_|with_reducible rfl|exact rfl|refine ⟨?_, ?_⟩|((refine wrapA ?_ ?_ ?_);(focus simp;done);(focus (try dsimp only);omega);(focus (try dsimp only);omega))|fail)))
      all_goals first | exact shrU_nat y 16 (by omega) | exact (wrap_small (by simp only at *; omega) (by simp only at *; omega)).trans (by simp)
    · have h1 : ¬ 2 ^ 16 ≤ y := by have := of_decide_eq_false h; simp only at *; omega
      exact ⟨⟨(y, n), by simp only at *; omega, by simp only at *; omega, he⟩, (by refine Wk.of ?_ ?_ rfl rfl rfl<;>(repeat' (first|exact trivial|exact WkD.same _|exact WkO.same _ _ rfl|exact WkD.any _|(apply WkD.nil;first|exact Or.inl rfl|exact Or.inr rfl)|(exact WkD.fz _ _ _ rfl (Or.inl ⟨_, rfl⟩) rfl)|(exact WkD.fz _ _ _ rfl (Or.inr rfl) rfl)|refine WkD.int ?_|exact WkD.new' rfl rfl rfl|exact WkO.new _ _ rfl|refine WkO.vars rfl ?_|with_reducible rfl|exact rfl|refine ⟨?_, ?_⟩|((refine wrapA ?_ ?_ ?_);(focus simp;done);(focus (try dsimp only);omega);(focus (try dsimp only);omega))|fail)))⟩
  rintro ⟨⟨y, n⟩, hy, hn, he⟩
  simp only at hy hn he
  refine ⟨{ q : Nat × Nat // q.1 < 2 ^ 8 ∧ q.2 ≤ 56 ∧ len64 x = q.2 + len64 q.1 }, fun q => [(0, .pv (u64 q.1.1)), (2, .pv (i64 q.1.2))], fun _ => 0, fun _ => [], ?_, ?_⟩
  · (try conv=>whnf);repeat' (first|(apply And.intro<;>try conv=>whnf)|(intro h;first|(with_reducible first|exact tf0 h|exact ft0 h|exact nt0 h|exact nf0 h)|exact litz h rfl|(with_reducible first|exact tf h (by assumption)|exact tf (by assumption) h)|try conv=>whnf)|with_reducible rfl|apply True.intro|((first|apply infoT|apply bleI|apply fitI|apply cellsI|apply szI);rfl)|(apply guardI;kernel_rfl)|(apply WhenQ.mk;(try conv=>whnf);rotate_left;(try conv=>whnf);rotate_right)|(with_reducible first|assumption|(apply not_of;assumption)|(apply left_of;assumption)|(apply left_of;apply left_of;assumption)|(apply and_of<;>first|assumption|(apply not_of;assumption)))|(refine lin_plan (by kernel_rfl) ?_;try conv=>whnf)|(refine ⟨_, _, rfl, idx_map (by with_reducible assumption), rfl, ?_⟩;try conv=>whnf)|(refine ⟨rfl, ?_⟩;try conv=>whnf)|exact Nat.le_refl 1|((first|(apply ex3;(focus with_reducible assumption);(focus with_reducible assumption))|(apply ex2;(focus with_reducible assumption)));try conv=>whnf)|fail)
    · exact Int.natCast_nonneg 8
    · have h1 : 2 ^ 8 ≤ y := by have := of_decide_eq_true h; simp only at *; omega
      have h2 := len64_shift h1
      refine ⟨⟨(y >>> 8, n + 8), shr_lt hy, by simp only at *; omega, by simp only at *; omega⟩, ?_⟩
      (refine Wk.of ?_ ?_ rfl rfl rfl<;>(repeat' (first|exact trivial|exact WkD.same _|exact WkO.same _ _ rfl|exact WkD.any _|(apply WkD.nil;first|exact Or.inl rfl|exact Or.inr rfl)|(exact WkD.fz _ _ _ rfl (Or.inl ⟨_, rfl⟩) rfl)|(exact WkD.fz _ _ _ rfl (Or.inr rfl) rfl)|refine WkD.int ?_|exact WkD.new' rfl rfl rfl|exact WkO.new _ _ rfl|refine WkO.vars rfl ?_|with_reducible rfl|exact rfl|refine ⟨?_, ?_⟩|((refine wrapA ?_ ?_ ?_);(focus simp;done);(focus (try dsimp only);omega);(focus (try dsimp only);omega))|fail)))
      all_goals first | exact shrU_nat y 8 (by omega) | exact (wrap_small (by simp only at *; omega) (by simp only at *; omega)).trans (by simp)
    · have h1 : ¬ 2 ^ 8 ≤ y := by have := of_decide_eq_false h; simp only at *; omega
      exact ⟨⟨(y, n), by simp only at *; omega, by simp only at *; omega, he⟩, (by refine Wk.of ?_ ?_ rfl rfl rfl<;>(repeat' (first|exact trivial|exact WkD.same _|exact WkO.same _ _ rfl|exact WkD.any _|(apply WkD.nil;first|exact Or.inl rfl|exact Or.inr rfl)|(exact WkD.fz _ _ _ rfl (Or.inl ⟨_, rfl⟩) rfl)|(exact WkD.fz _ _ _ rfl (Or.inr rfl) rfl)|refine WkD.int ?_|exact WkD.new' rfl rfl rfl|exact WkO.new _ _ rfl|refine WkO.vars rfl ?_|with_reducible rfl|exact rfl|refine ⟨?_, ?_⟩|((refine wrapA ?_ ?_ ?_);(focus simp;done);(focus (try dsimp only);omega);(focus (try dsimp only);omega))|fail)))⟩
  rintro ⟨⟨y, n⟩, hy, hn, he⟩
  simp only at hy hn he
  (try conv=>whnf);repeat' (first|(apply And.intro<;>try conv=>whnf)|(intro h;first|(with_reducible first|exact tf0 h|exact ft0 h|exact nt0 h|exact nf0 h)|exact litz h rfl|(with_reducible first|exact tf h (by assumption)|exact tf (by assumption) h)|try conv=>whnf)|with_reducible rfl|apply True.intro|((first|apply infoT|apply bleI|apply fitI|apply cellsI|apply szI);rfl)|(apply guardI;kernel_rfl)|(apply WhenQ.mk;(try conv=>whnf);rotate_left;(try conv=>whnf);rotate_right)|(with_reducible first|assumption|(apply not_of;assumption)|(apply left_of;assumption)|(apply left_of;apply left_of;assumption)|(apply and_of<;>first|assumption|(apply not_of;assumption)))|(refine lin_plan (by kernel_rfl) ?_;try conv=>whnf)|(refine ⟨_, _, rfl, idx_map (by with_reducible assumption), rfl, ?_⟩;try conv=>whnf)|(refine ⟨rfl, ?_⟩;try conv=>whnf)|exact Nat.le_refl 1|((first|(apply ex3;(focus with_reducible assumption);(focus with_reducible assumption))|(apply ex2;(focus with_reducible assumption)));try conv=>whnf)|fail)
  refine ⟨y, len64 y, ?_, ?_, ?_⟩
  · have h1 : IntKind.wrap .u8 (y : Int) = (y : Int) % 256 := rfl
    exact h1.trans (Int.emod_eq_of_lt (by omega) (by omega))
  · clear he
    revert y
    decide +kernel
  (try conv=>whnf);repeat' (first|(apply And.intro<;>try conv=>whnf)|(intro h;first|(with_reducible first|exact tf0 h|exact ft0 h|exact nt0 h|exact nf0 h)|exact litz h rfl|(with_reducible first|exact tf h (by assumption)|exact tf (by assumption) h)|try conv=>whnf)|with_reducible rfl|apply True.intro|((first|apply infoT|apply bleI|apply fitI|apply cellsI|apply szI);rfl)|(apply guardI;kernel_rfl)|(apply WhenQ.mk;(try conv=>whnf);rotate_left;(try conv=>whnf);rotate_right)|(with_reducible first|assumption|(apply not_of;assumption)|(apply left_of;assumption)|(apply left_of;apply left_of;assumption)|(apply and_of<;>first|assumption|(apply not_of;assumption)))|(refine lin_plan (by kernel_rfl) ?_;try conv=>whnf)|(refine ⟨_, _, rfl, idx_map (by with_reducible assumption), rfl, ?_⟩;try conv=>whnf)|(refine ⟨rfl, ?_⟩;try conv=>whnf)|exact Nat.le_refl 1|((first|(apply ex3;(focus with_reducible assumption);(focus with_reducible assumption))|(apply ex2;(focus with_reducible assumption)));try conv=>whnf)|fail)
  have h8 : len64 y ≤ 8 := len64_lt.2 hy
  refine le_int ?_
  have e : IntKind.wrap .i64 ((n : Int) + IntKind.wrap .i64 (len64 y : Nat)) = ((len64 x : Nat) : Int) := by
    rw [wrap_small (n := ((len64 y : Nat) : Int)) (by omega) (by omega), wrap_small (by omega) (by omega), he]; omega
  exact e
theorem ac_changes (l : List Asg) (ag n : Int) (hl : l.length ≤ 1000) : PureFn Try.prog 88 [postPV l, .int .i64 ag, .int .i64 n] (.int .i64 (chgs ag n l (-1))) := by
  refine PureFn.intro mixed (fn := Try.f88) rfl rfl rfl fun M w0 => ?_
  (try conv=>whnf);repeat' (first|(apply And.intro<;>try conv=>whnf)|(intro h;first|(with_reducible first|exact tf0 h|exact ft0 h|exact nt0 h|exact nf0 h)|exact litz h rfl|(with_reducible first|exact tf h (by assumption)|exact tf (by assumption) h)|try conv=>whnf)|with_reducible rfl|apply True.intro|((first|apply infoT|apply bleI|apply fitI|apply cellsI|apply szI);rfl)|(apply guardI;kernel_rfl)|(apply WhenQ.mk;(try conv=>whnf);rotate_left;(try conv=>whnf);rotate_right)|(with_reducible first|assumption|(apply not_of;assumption)|(apply left_of;assumption)|(apply left_of;apply left_of;assumption)|(apply and_of<;>first|assumption|(apply not_of;assumption)))|(refine lin_plan (by kernel_rfl) ?_;try conv=>whnf)|(refine ⟨_, _, rfl, idx_map (by with_reducible assumption), rfl, ?_⟩;try conv=>whnf)|(refine ⟨rfl, ?_⟩;try conv=>whnf)|exact Nat.le_refl 1|((first|(apply ex3;(focus with_reducible assumption);(focus with_reducible assumption))|(apply ex2;(focus with_reducible assumption)));try conv=>whnf)|fail)
  refine ⟨{ q : Nat × Int // q.1 ≤ l.length ∧ chgs ag n l (-1) = chgs ag n (l.drop q.1) q.2 }, fun q => [(1, .pv (.int .i64 ag)), (2, .pv (.int .i64 n)), (7, .pv (.int .i64 q.1.2)), (11, .pv (postPV l)), (12, .pv (i64 (l.map Asg.pv).length)), (13, .pv (i64 q.1.1))], fun _ => 0, fun _ => [], fun q => l.length - q.1.1, ⟨⟨(0, -1), Nat.zero_le _, rfl⟩, (by refine Wk.of ?_ ?_ rfl rfl rfl<;>(repeat' (first|exact trivial|exact WkD.same _|exact WkO.same _ _ rfl|exact WkD.any _|(apply WkD.nil;first|exact Or.inl rfl|exact Or.inr rfl)|(exact WkD.fz _ _ _ rfl (Or.inl ⟨_, rfl⟩) rfl)|(exact WkD.fz _ _ _ rfl (Or.inr rfl) rfl)|refine WkD.int ?_|exact WkD.new' rfl rfl rfl|exact WkO.new _ _ rfl|refine WkO.vars rfl ?_|with_reducible rfl|exact rfl|refine ⟨?_, ?_⟩|((refine wrapA ?_ ?_ ?_);(focus simp;done);(focus (try dsimp only);omega);(focus (try dsimp only);omega))|fail)))⟩, ?_⟩
  rintro ⟨⟨i, last⟩, hi, he⟩
  simp only at hi he
  (try conv=>whnf);repeat' (first|(apply And.intro<;>try conv=>whnf)|(intro h;first|(with_reducible first|exact tf0 h|exact ft0 h|exact nt0 h|exact nf0 h)|exact litz h rfl|(with_reducible first|exact tf h (by assumption)|exact tf (by assumption) h)|try conv=>whnf)|with_reducible rfl|apply True.intro|((first|apply infoT|apply bleI|apply fitI|apply cellsI|apply szI);rfl)|(apply guardI;kernel_rfl)|(apply WhenQ.mk;(try conv=>whnf);rotate_left;(try conv=>whnf);rotate_right)|(with_reducible first|assumption|(apply not_of;assumption)|(apply left_of;assumption)|(apply left_of;apply left_of;assumption)|(apply and_of<;>first|assumption|(apply not_of;assumption)))|(refine lin_plan (by kernel_rfl) ?_;try conv=>whnf)|(refine ⟨_, _, rfl, idx_map (by with_reducible assumption), rfl, ?_⟩;try conv=>whnf)|(refine ⟨rfl, ?_⟩;try conv=>whnf)|exact Nat.le_refl 1|((first|(apply ex3;(focus with_reducible assumption);(focus with_reducible assumption))|(apply ex2;(focus with_reducible assumption)));try conv=>whnf)|fail)
  · have hi' : i < l.length := by simpa using lt_dec h
    have hn : l[i]? = some l[i] := List.getElem?_eq_getElem hi'
    have hS := ac_static l[i].to ag n
    rw [chgs_drop hi'] at he
    refine ⟨_, _, rfl, idx_map hn, rfl, ?_⟩
    (try conv=>whnf);repeat' (first|(apply And.intro<;>try conv=>whnf)|(intro h;first|(with_reducible first|exact tf0 h|exact ft0 h|exact nt0 h|exact nf0 h)|exact litz h rfl|(with_reducible first|exact tf h (by assumption)|exact tf (by assumption) h)|try conv=>whnf)|with_reducible rfl|apply True.intro|((first|apply infoT|apply bleI|apply fitI|apply cellsI|apply szI);rfl)|(apply guardI;kernel_rfl)|(apply WhenQ.mk;(try conv=>whnf);rotate_left;(try conv=>whnf);rotate_right)|(with_reducible first|assumption|(apply not_of;assumption)|(apply left_of;assumption)|(apply left_of;apply left_of;assumption)|(apply and_of<;>first|assumption|(apply not_of;assumption)))|(refine lin_plan (by kernel_rfl) ?_;try conv=>whnf)|(refine ⟨_, _, rfl, idx_map (by with_reducible assumption), rfl, ?_⟩;try conv=>whnf)|(refine ⟨rfl, ?_⟩;try conv=>whnf)|exact Nat.le_refl 1|((first|(apply ex3;(focus with_reducible assumption);(focus with_reducible assumption))|(apply ex2;(focus with_reducible assumption)));try conv=>whnf)|(refine PureFn.dcq (f := 87) rfl ?_;try conv=>whnf)|((refine ⟨_, _, hS, ?_, ?_⟩);(focus (first|(refine ⟨?_, ?_, ?_, trivial⟩<;>first|exact PLe.refl _|exact PLe.nil)|exact trivial));try conv=>whnf)|(refine ⟨_, (by (conv=>whnf);exact hS), rfl, ?_⟩;try conv=>whnf)|fail)
    · refine le_int ?_
      rw [he, show (bif decide (l[i].fact < 0) then true else decide (l[i].fact ≥ n)) = true from h]; rfl
    · rename_i h1
      refine le_int ?_
      rw [he, show (bif decide (l[i].fact < 0) then true else decide (l[i].fact ≥ n)) = false from h1, show decide (l[i].fact ≤ last) = true from h]; rfl
    · rename_i h2 h1
      refine le_int ?_
      rw [he, show (bif decide (l[i].fact < 0) then true else decide (l[i].fact ≥ n)) = false from h2, show decide (l[i].fact ≤ last) = false from h1, h]; rfl
    · rename_i h2 h1
      rw [show (bif decide (l[i].fact < 0) then true else decide (l[i].fact ≥ n)) = false from h2, show decide (l[i].fact ≤ last) = false from h1, h] at he
      exact ⟨⟨(i + 1, l[i].fact), hi', he⟩, by show l.length - (i + 1) < l.length - i; omega, (by refine Wk.of ?_ ?_ rfl rfl rfl<;>(repeat' (first|exact trivial|exact WkD.same _|exact WkO.same _ _ rfl|exact WkD.any _|(apply WkD.nil;first|exact Or.inl rfl|exact Or.inr rfl)|(exact WkD.fz _ _ _ rfl (Or.inl ⟨_, rfl⟩) rfl)|(exact WkD.fz _ _ _ rfl (Or.inr rfl) rfl)|refine WkD.int ?_|exact WkD.new' rfl rfl rfl|exact WkO.new _ _ rfl|refine WkO.vars rfl ?_|with_reducible rfl|exact rfl|refine ⟨?_, ?_⟩|((refine wrapA ?_ ?_ ?_);(focus simp;done);(focus (try dsimp only);omega);(focus (try dsimp only);omega))|fail)))⟩
  · have hi' : i = l.length := by have := ge_dec (m := (l.map Asg.pv).length) h (by simpa using hi); simpa using this
    subst hi'
    rw [he, List.drop_eq_nil_of_le (Nat.le_refl _)]; exact .refl _
def HS (a : Act) : List (Nat × DObj) := [(0, .var (cellsA a)), (1, .var [.pv (i64 a.pre.length)])]
theorem shp1 {M : Nat → Prop} {w0 : World} (a : Act) (r : List Nat) (base : Nat) (K : DV → DH → Prop) (hK : K (.pv (.bool ((r.length : Int) != (a.pre.length : Int)))) ⟨2, 0, base, objsOf (HS a)⟩) :
    DC Try.prog M w0 106 [.pv (rowPV r), .ref 1 0] ⟨2, 0, base, objsOf (HS a)⟩ K := by
  refine DC.intro mixed (fn := Try.f106) rfl rfl rfl ?_
  have e : ((r.map u64).length : Int) = (r.length : Int) := by simp
  rw [← e] at hK
  (try conv=>whnf);repeat' (first|(apply And.intro<;>try conv=>whnf)|(intro h;first|(with_reducible first|exact tf0 h|exact ft0 h|exact nt0 h|exact nf0 h)|exact litz h rfl|(with_reducible first|exact tf h (by assumption)|exact tf (by assumption) h)|try conv=>whnf)|with_reducible rfl|apply True.intro|((first|apply infoT|apply bleI|apply fitI|apply cellsI|apply szI);rfl)|(apply guardI;kernel_rfl)|(apply WhenQ.mk;(try conv=>whnf);rotate_left;(try conv=>whnf);rotate_right)|(with_reducible first|assumption|(apply not_of;assumption)|(apply left_of;assumption)|(apply left_of;apply left_of;assumption)|(apply and_of<;>first|assumption|(apply not_of;assumption)))|(refine lin_plan (by kernel_rfl) ?_;try conv=>whnf)|(refine ⟨_, _, rfl, idx_map (by with_reducible assumption), rfl, ?_⟩;try conv=>whnf)|(refine ⟨rfl, ?_⟩;try conv=>whnf)|exact Nat.le_refl 1|((first|(apply ex3;(focus with_reducible assumption);(focus with_reducible assumption))|(apply ex2;(focus with_reducible assumption)));try conv=>whnf)|fail)
  exact hK
theorem idx_S {M : Nat → Prop} {w0 : World} (a : Act) (rows : List (List Nat)) (hl : rows.length ≤ 1000) (hr : ∀ r, r ∈ rows → True) (base : Nat) (K : DV → DH → Prop) (hK : ∀ r : Int, decide (r ≥ 0) = rows.any (fun r => ((r.length : Int) != (a.pre.length : Int))) → K (.pv (.int .i64 r)) ⟨2, 0, base, objsOf (HS a)⟩) :
    DC Try.prog M w0 83 [.pv (.sl (rows.map rowPV)), .clo 106 [] [.ref 1 0]] ⟨2, 0, base, objsOf (HS a)⟩ K := by
  refine DC.weaken (DC.intro mixed (fn := Try.f83) rfl rfl rfl ?_)
  (try conv=>whnf);repeat' (first|(apply And.intro<;>try conv=>whnf)|(intro h;first|(with_reducible first|exact tf0 h|exact ft0 h|exact nt0 h|exact nf0 h)|exact litz h rfl|(with_reducible first|exact tf h (by assumption)|exact tf (by assumption) h)|try conv=>whnf)|with_reducible rfl|apply True.intro|((first|apply infoT|apply bleI|apply fitI|apply cellsI|apply szI);rfl)|(apply guardI;kernel_rfl)|(apply WhenQ.mk;(try conv=>whnf);rotate_left;(try conv=>whnf);rotate_right)|(with_reducible first|assumption|(apply not_of;assumption)|(apply left_of;assumption)|(apply left_of;apply left_of;assumption)|(apply and_of<;>first|assumption|(apply not_of;assumption)))|(refine lin_plan (by kernel_rfl) ?_;try conv=>whnf)|(refine ⟨_, _, rfl, idx_map (by with_reducible assumption), rfl, ?_⟩;try conv=>whnf)|(refine ⟨rfl, ?_⟩;try conv=>whnf)|exact Nat.le_refl 1|((first|(apply ex3;(focus with_reducible assumption);(focus with_reducible assumption))|(apply ex2;(focus with_reducible assumption)));try conv=>whnf)|fail)
  refine ⟨{ i : Nat // i ≤ rows.length ∧ (rows.take i).any (fun r => ((r.length : Int) != (a.pre.length : Int))) = false }, fun i => [(0, .pv (.sl (rows.map rowPV))), (1, .clo 106 [] [.ref 1 0]), (7, .pv (i64 (rows.map rowPV).length)), (8, .pv (i64 i.1))], fun _ => 2, fun _ => HS a, fun i => rows.length - i.1, ⟨⟨0, Nat.zero_le _, rfl⟩, (by refine Wk.of ?_ ?_ rfl rfl rfl<;>(repeat' (first|exact trivial|exact WkD.same _|exact WkO.same _ _ rfl|exact WkD.any _|(apply WkD.nil;first|exact Or.inl rfl|exact Or.inr rfl)|(exact WkD.fz _ _ _ rfl (Or.inl ⟨_, rfl⟩) rfl)|(exact WkD.fz _ _ _ rfl (Or.inr rfl) rfl)|refine WkD.int ?_|exact WkD.new' rfl rfl rfl|exact WkO.new _ _ rfl|refine WkO.vars rfl ?_|with_reducible rfl|exact rfl|refine ⟨?_, ?_⟩|((refine wrapA ?_ ?_ ?_);(focus simp;done);(focus (try dsimp only);omega);(focus (try dsimp only);omega))|fail)))⟩, ?_⟩
  rintro ⟨i, hi, ha⟩
  (try conv=>whnf);repeat' (first|(apply And.intro<;>try conv=>whnf)|(intro h;first|(with_reducible first|exact tf0 h|exact ft0 h|exact nt0 h|exact nf0 h)|exact litz h rfl|(with_reducible first|exact tf h (by assumption)|exact tf (by assumption) h)|try conv=>whnf)|with_reducible rfl|apply True.intro|((first|apply infoT|apply bleI|apply fitI|apply cellsI|apply szI);rfl)|(apply guardI;kernel_rfl)|(apply WhenQ.mk;(try conv=>whnf);rotate_left;(try conv=>whnf);rotate_right)|(with_reducible first|assumption|(apply not_of;assumption)|(apply left_of;assumption)|(apply left_of;apply left_of;assumption)|(apply and_of<;>first|assumption|(apply not_of;assumption)))|(refine lin_plan (by kernel_rfl) ?_;try conv=>whnf)|(refine ⟨_, _, rfl, idx_map (by with_reducible assumption), rfl, ?_⟩;try conv=>whnf)|(refine ⟨rfl, ?_⟩;try conv=>whnf)|exact Nat.le_refl 1|((first|(apply ex3;(focus with_reducible assumption);(focus with_reducible assumption))|(apply ex2;(focus with_reducible assumption)));try conv=>whnf)|fail)
  · have hi' : i < rows.length := by simpa using lt_dec h
    have hn : rows[i]? = some rows[i] := List.getElem?_eq_getElem hi'
    have _hri := hr _ (List.getElem_mem hi')
    refine ⟨_, _, rfl, idx_map hn, rfl, ?_⟩
    (try conv=>whnf);repeat' (first|(apply And.intro<;>try conv=>whnf)|(intro h;first|(with_reducible first|exact tf0 h|exact ft0 h|exact nt0 h|exact nf0 h)|exact litz h rfl|(with_reducible first|exact tf h (by assumption)|exact tf (by assumption) h)|try conv=>whnf)|with_reducible rfl|apply True.intro|((first|apply infoT|apply bleI|apply fitI|apply cellsI|apply szI);rfl)|(apply guardI;kernel_rfl)|(apply WhenQ.mk;(try conv=>whnf);rotate_left;(try conv=>whnf);rotate_right)|(with_reducible first|assumption|(apply not_of;assumption)|(apply left_of;assumption)|(apply left_of;apply left_of;assumption)|(apply and_of<;>first|assumption|(apply not_of;assumption)))|(refine lin_plan (by kernel_rfl) ?_;try conv=>whnf)|(refine ⟨_, _, rfl, idx_map (by with_reducible assumption), rfl, ?_⟩;try conv=>whnf)|(refine ⟨rfl, ?_⟩;try conv=>whnf)|exact Nat.le_refl 1|((first|(apply ex3;(focus with_reducible assumption);(focus with_reducible assumption))|(apply ex2;(focus with_reducible assumption)));try conv=>whnf)|fail)
    refine shp1 a rows[i] _ _ ?_
    (try conv=>whnf);repeat' (first|(apply And.intro<;>try conv=>whnf)|(intro h;first|(with_reducible first|exact tf0 h|exact ft0 h|exact nt0 h|exact nf0 h)|exact litz h rfl|(with_reducible first|exact tf h (by assumption)|exact tf (by assumption) h)|try conv=>whnf)|with_reducible rfl|apply True.intro|((first|apply infoT|apply bleI|apply fitI|apply cellsI|apply szI);rfl)|(apply guardI;kernel_rfl)|(apply WhenQ.mk;(try conv=>whnf);rotate_left;(try conv=>whnf);rotate_right)|(with_reducible first|assumption|(apply not_of;assumption)|(apply left_of;assumption)|(apply left_of;apply left_of;assumption)|(apply and_of<;>first|assumption|(apply not_of;assumption)))|(refine lin_plan (by kernel_rfl) ?_;try conv=>whnf)|(refine ⟨_, _, rfl, idx_map (by with_reducible assumption), rfl, ?_⟩;try conv=>whnf)|(refine ⟨rfl, ?_⟩;try conv=>whnf)|exact Nat.le_refl 1|((first|(apply ex3;(focus with_reducible assumption);(focus with_reducible assumption))|(apply ex2;(focus with_reducible assumption)));try conv=>whnf)|fail)
    · have e : rows.any (fun r => ((r.length : Int) != (a.pre.length : Int))) = true := any_at hi' h
      exact ⟨.pv (.int .i64 (i : Int)), 2, HS a, (by refine Wk.of ?_ ?_ rfl rfl rfl<;>(repeat' (first|exact trivial|exact WkD.same _|exact WkO.same _ _ rfl|exact WkD.any _|(apply WkD.nil;first|exact Or.inl rfl|exact Or.inr rfl)|(exact WkD.fz _ _ _ rfl (Or.inl ⟨_, rfl⟩) rfl)|(exact WkD.fz _ _ _ rfl (Or.inr rfl) rfl)|refine WkD.int ?_|exact WkD.new' rfl rfl rfl|exact WkO.new _ _ rfl|refine WkO.vars rfl ?_|with_reducible rfl|exact rfl|refine ⟨?_, ?_⟩|((refine wrapA ?_ ?_ ?_);(focus simp;done);(focus (try dsimp only);omega);(focus (try dsimp only);omega))|fail))), hK i (by rw [e]; simp)⟩
    · exact ⟨⟨i + 1, hi', any_take hi' ha h⟩, by show rows.length - (i + 1) < rows.length - i; omega, (by refine Wk.of ?_ ?_ rfl rfl rfl<;>(repeat' (first|exact trivial|exact WkD.same _|exact WkO.same _ _ rfl|exact WkD.any _|(apply WkD.nil;first|exact Or.inl rfl|exact Or.inr rfl)|(exact WkD.fz _ _ _ rfl (Or.inl ⟨_, rfl⟩) rfl)|(exact WkD.fz _ _ _ rfl (Or.inr rfl) rfl)|refine WkD.int ?_|exact WkD.new' rfl rfl rfl|exact WkO.new _ _ rfl|refine WkO.vars rfl ?_|with_reducible rfl|exact rfl|refine ⟨?_, ?_⟩|((refine wrapA ?_ ?_ ?_);(focus simp;done);(focus (try dsimp only);omega);(focus (try dsimp only);omega))|fail)))⟩
  · have hi' : i = rows.length := by have := ge_dec (m := (rows.map rowPV).length) h (by simpa using hi); simpa using this
    subst hi'
    rw [List.take_length] at ha
    exact ⟨.pv (.int .i64 (-1)), 2, HS a, (by refine Wk.of ?_ ?_ rfl rfl rfl<;>(repeat' (first|exact trivial|exact WkD.same _|exact WkO.same _ _ rfl|exact WkD.any _|(apply WkD.nil;first|exact Or.inl rfl|exact Or.inr rfl)|(exact WkD.fz _ _ _ rfl (Or.inl ⟨_, rfl⟩) rfl)|(exact WkD.fz _ _ _ rfl (Or.inr rfl) rfl)|refine WkD.int ?_|exact WkD.new' rfl rfl rfl|exact WkO.new _ _ rfl|refine WkO.vars rfl ?_|with_reducible rfl|exact rfl|refine ⟨?_, ?_⟩|((refine wrapA ?_ ?_ ?_);(focus simp;done);(focus (try dsimp only);omega);(focus (try dsimp only);omega))|fail))), hK (-1) (by rw [ha]; decide)⟩
theorem cont_S {M : Nat → Prop} {w0 : World} (a : Act) (rows : List (List Nat)) (hl : rows.length ≤ 1000) (hr : ∀ r, r ∈ rows → True) (base : Nat) (K : DV → DH → Prop) (hK : K (.pv (.bool (rows.any (fun r => ((r.length : Int) != (a.pre.length : Int)))))) ⟨2, 0, base, objsOf (HS a)⟩) :
    DC Try.prog M w0 54 [.pv (.sl (rows.map rowPV)), .clo 106 [] [.ref 1 0]] ⟨2, 0, base, objsOf (HS a)⟩ K := by
  refine DC.intro mixed (fn := Try.f54) rfl rfl rfl ?_
  (try conv=>whnf);repeat' (first|(apply And.intro<;>try conv=>whnf)|(intro h;first|(with_reducible first|exact tf0 h|exact ft0 h|exact nt0 h|exact nf0 h)|exact litz h rfl|(with_reducible first|exact tf h (by assumption)|exact tf (by assumption) h)|try conv=>whnf)|with_reducible rfl|apply True.intro|((first|apply infoT|apply bleI|apply fitI|apply cellsI|apply szI);rfl)|(apply guardI;kernel_rfl)|(apply WhenQ.mk;(try conv=>whnf);rotate_left;(try conv=>whnf);rotate_right)|(with_reducible first|assumption|(apply not_of;assumption)|(apply left_of;assumption)|(apply left_of;apply left_of;assumption)|(apply and_of<;>first|assumption|(apply not_of;assumption)))|(refine lin_plan (by kernel_rfl) ?_;try conv=>whnf)|(refine ⟨_, _, rfl, idx_map (by with_reducible assumption), rfl, ?_⟩;try conv=>whnf)|(refine ⟨rfl, ?_⟩;try conv=>whnf)|exact Nat.le_refl 1|((first|(apply ex3;(focus with_reducible assumption);(focus with_reducible assumption))|(apply ex2;(focus with_reducible assumption)));try conv=>whnf)|fail)
  refine idx_S a rows hl hr 2 _ fun r e => ?_
  rw [← e] at hK
  (try conv=>whnf);repeat' (first|(apply And.intro<;>try conv=>whnf)|(intro h;first|(with_reducible first|exact tf0 h|exact ft0 h|exact nt0 h|exact nf0 h)|exact litz h rfl|(with_reducible first|exact tf h (by assumption)|exact tf (by assumption) h)|try conv=>whnf)|with_reducible rfl|apply True.intro|((first|apply infoT|apply bleI|apply fitI|apply cellsI|apply szI);rfl)|(apply guardI;kernel_rfl)|(apply WhenQ.mk;(try conv=>whnf);rotate_left;(try conv=>whnf);rotate_right)|(with_reducible first|assumption|(apply not_of;assumption)|(apply left_of;assumption)|(apply left_of;apply left_of;assumption)|(apply and_of<;>first|assumption|(apply not_of;assumption)))|(refine lin_plan (by kernel_rfl) ?_;try conv=>whnf)|(refine ⟨_, _, rfl, idx_map (by with_reducible assumption), rfl, ?_⟩;try conv=>whnf)|(refine ⟨rfl, ?_⟩;try conv=>whnf)|exact Nat.le_refl 1|((first|(apply ex3;(focus with_reducible assumption);(focus with_reducible assumption))|(apply ex2;(focus with_reducible assumption)));try conv=>whnf)|fail)
  exact hK
theorem ac_shape (a : Act) (ag : Int) (hf : Fit a) (hl : a.rel.length ≤ 1000) : PureFn Try.prog 86 [a.pv, .int .i64 ag] (.int .i64 (shapeI a ag)) := by
  refine PureFn.introC [2, 4, 6] mixed (fn := Try.f86) rfl rfl rfl fun M w0 => ?_
  have e1 : ((a.pre.map fpv).length : Int) = (a.pre.length : Int) := by simp
  have e2 : ((a.post.map postPV).length : Int) = (a.post.length : Int) := by simp
  have e3 : ((a.rel.map rowPV).length : Int) = (a.rel.length : Int) := by simp
  (try conv=>whnf);repeat' (first|(apply And.intro<;>try conv=>whnf)|(intro h;first|(with_reducible first|exact tf0 h|exact ft0 h|exact nt0 h|exact nf0 h)|exact litz h rfl|(with_reducible first|exact tf h (by assumption)|exact tf (by assumption) h)|try conv=>whnf)|with_reducible rfl|apply True.intro|((first|apply infoT|apply bleI|apply fitI|apply cellsI|apply szI);rfl)|(apply guardI;kernel_rfl)|(apply WhenQ.mk;(try conv=>whnf);rotate_left;(try conv=>whnf);rotate_right)|(with_reducible first|assumption|(apply not_of;assumption)|(apply left_of;assumption)|(apply left_of;apply left_of;assumption)|(apply and_of<;>first|assumption|(apply not_of;assumption)))|(refine lin_plan (by kernel_rfl) ?_;try conv=>whnf)|(refine ⟨_, _, rfl, idx_map (by with_reducible assumption), rfl, ?_⟩;try conv=>whnf)|(refine ⟨rfl, ?_⟩;try conv=>whnf)|exact Nat.le_refl 1|((first|(apply ex3;(focus with_reducible assumption);(focus with_reducible assumption))|(apply ex2;(focus with_reducible assumption)));try conv=>whnf)|fail)
  refine ⟨Unit, fun _ => [(1, .pv (.int .i64 ag)), (2, .ref 0 0), (5, .ref 1 0)], fun _ => 2, fun _ => HS a, ?_, ?_⟩
  · (try conv=>whnf);repeat' (first|(apply And.intro<;>try conv=>whnf)|(intro h;first|(with_reducible first|exact tf0 h|exact ft0 h|exact nt0 h|exact nf0 h)|exact litz h rfl|(with_reducible first|exact tf h (by assumption)|exact tf (by assumption) h)|try conv=>whnf)|with_reducible rfl|apply True.intro|((first|apply infoT|apply bleI|apply fitI|apply cellsI|apply szI);rfl)|(apply guardI;kernel_rfl)|(apply WhenQ.mk;(try conv=>whnf);rotate_left;(try conv=>whnf);rotate_right)|(with_reducible first|assumption|(apply not_of;assumption)|(apply left_of;assumption)|(apply left_of;apply left_of;assumption)|(apply and_of<;>first|assumption|(apply not_of;assumption)))|(refine lin_plan (by kernel_rfl) ?_;try conv=>whnf)|(refine ⟨_, _, rfl, idx_map (by with_reducible assumption), rfl, ?_⟩;try conv=>whnf)|(refine ⟨rfl, ?_⟩;try conv=>whnf)|exact Nat.le_refl 1|((first|(apply ex3;(focus with_reducible assumption);(focus with_reducible assumption))|(apply ex2;(focus with_reducible assumption)));try conv=>whnf)|fail)
    refine ⟨(), ?_⟩
    (refine Wk.of ?_ ?_ rfl rfl rfl<;>(repeat' (first|exact trivial|exact WkD.same _|exact WkO.same _ _ rfl|exact WkD.any _|(apply WkD.nil;first|exact Or.inl rfl|exact Or.inr rfl)|(exact WkD.fz _ _ _ rfl (Or.inl ⟨_, rfl⟩) rfl)|(exact WkD.fz _ _ _ rfl (Or.inr rfl) rfl)|refine WkD.int ?_|exact WkD.new' rfl rfl rfl|exact WkO.new _ _ rfl|refine WkO.vars rfl ?_|with_reducible rfl|exact rfl|refine ⟨?_, ?_⟩|((refine wrapA ?_ ?_ ?_);(focus simp;done);(focus (try dsimp only);omega);(focus (try dsimp only);omega))|fail)))
    exact e1
  rintro ⟨⟩
  refine ⟨{ _x : Unit // (bif decide ((a.pre.length : Int) < 1) then true else decide ((a.pre.length : Int) > 8)) = false }, fun _ => [(1, .pv (.int .i64 ag)), (2, .ref 0 0), (5, .ref 1 0)], fun _ => 2, fun _ => HS a, ?_, ?_⟩
  · (try conv=>whnf);repeat' (first|(apply And.intro<;>try conv=>whnf)|(intro h;first|(with_reducible first|exact tf0 h|exact ft0 h|exact nt0 h|exact nf0 h)|exact litz h rfl|(with_reducible first|exact tf h (by assumption)|exact tf (by assumption) h)|try conv=>whnf)|with_reducible rfl|apply True.intro|((first|apply infoT|apply bleI|apply fitI|apply cellsI|apply szI);rfl)|(apply guardI;kernel_rfl)|(apply WhenQ.mk;(try conv=>whnf);rotate_left;(try conv=>whnf);rotate_right)|(with_reducible first|assumption|(apply not_of;assumption)|(apply left_of;assumption)|(apply left_of;apply left_of;assumption)|(apply and_of<;>first|assumption|(apply not_of;assumption)))|(refine lin_plan (by kernel_rfl) ?_;try conv=>whnf)|(refine ⟨_, _, rfl, idx_map (by with_reducible assumption), rfl, ?_⟩;try conv=>whnf)|(refine ⟨rfl, ?_⟩;try conv=>whnf)|exact Nat.le_refl 1|((first|(apply ex3;(focus with_reducible assumption);(focus with_reducible assumption))|(apply ex2;(focus with_reducible assumption)));try conv=>whnf)|fail)
    · refine le_int ?_
      rw [shapeI, show (bif decide ((a.pre.length : Int) < 1) then true else decide ((a.pre.length : Int) > 8)) = true from h]; rfl
    · exact ⟨⟨(), h⟩, (by refine Wk.of ?_ ?_ rfl rfl rfl<;>(repeat' (first|exact trivial|exact WkD.same _|exact WkO.same _ _ rfl|exact WkD.any _|(apply WkD.nil;first|exact Or.inl rfl|exact Or.inr rfl)|(exact WkD.fz _ _ _ rfl (Or.inl ⟨_, rfl⟩) rfl)|(exact WkD.fz _ _ _ rfl (Or.inr rfl) rfl)|refine WkD.int ?_|exact WkD.new' rfl rfl rfl|exact WkO.new _ _ rfl|refine WkO.vars rfl ?_|with_reducible rfl|exact rfl|refine ⟨?_, ?_⟩|((refine wrapA ?_ ?_ ?_);(focus simp;done);(focus (try dsimp only);omega);(focus (try dsimp only);omega))|fail)))⟩
  rintro ⟨_, h1⟩
  refine ⟨{ _x : Unit // (bif (bif (a.post.length : Int) != (a.pre.length : Int) then true else (a.rel.length : Int) != ag) then true else rowsBad a.rel a.pre.length) = false }, fun _ => [(2, .ref 0 0), (5, .ref 1 0)], fun _ => 2, fun _ => HS a, ?_, ?_⟩
  · (try conv=>whnf);repeat' (first|(apply And.intro<;>try conv=>whnf)|(intro h;first|(with_reducible first|exact tf0 h|exact ft0 h|exact nt0 h|exact nf0 h)|exact litz h rfl|(with_reducible first|exact tf h (by assumption)|exact tf (by assumption) h)|try conv=>whnf)|with_reducible rfl|apply True.intro|((first|apply infoT|apply bleI|apply fitI|apply cellsI|apply szI);rfl)|(apply guardI;kernel_rfl)|(apply WhenQ.mk;(try conv=>whnf);rotate_left;(try conv=>whnf);rotate_right)|(with_reducible first|assumption|(apply not_of;assumption)|(apply left_of;assumption)|(apply left_of;apply left_of;assumption)|(apply and_of<;>first|assumption|(apply not_of;assumption)))|(refine lin_plan (by kernel_rfl) ?_;try conv=>whnf)|(refine ⟨_, _, rfl, idx_map (by with_reducible assumption), rfl, ?_⟩;try conv=>whnf)|(refine ⟨rfl, ?_⟩;try conv=>whnf)|exact Nat.le_refl 1|((first|(apply ex3;(focus with_reducible assumption);(focus with_reducible assumption))|(apply ex2;(focus with_reducible assumption)));try conv=>whnf)|fail)
    · refine cont_S a a.rel hl (fun _ _ => trivial) 0 _ ?_
      (try conv=>whnf);repeat' (first|(apply And.intro<;>try conv=>whnf)|(intro h;first|(with_reducible first|exact tf0 h|exact ft0 h|exact nt0 h|exact nf0 h)|exact litz h rfl|(with_reducible first|exact tf h (by assumption)|exact tf (by assumption) h)|try conv=>whnf)|with_reducible rfl|apply True.intro|((first|apply infoT|apply bleI|apply fitI|apply cellsI|apply szI);rfl)|(apply guardI;kernel_rfl)|(apply WhenQ.mk;(try conv=>whnf);rotate_left;(try conv=>whnf);rotate_right)|(with_reducible first|assumption|(apply not_of;assumption)|(apply left_of;assumption)|(apply left_of;apply left_of;assumption)|(apply and_of<;>first|assumption|(apply not_of;assumption)))|(refine lin_plan (by kernel_rfl) ?_;try conv=>whnf)|(refine ⟨_, _, rfl, idx_map (by with_reducible assumption), rfl, ?_⟩;try conv=>whnf)|(refine ⟨rfl, ?_⟩;try conv=>whnf)|exact Nat.le_refl 1|((first|(apply ex3;(focus with_reducible assumption);(focus with_reducible assumption))|(apply ex2;(focus with_reducible assumption)));try conv=>whnf)|fail)
    · (try conv=>whnf);repeat' (first|(apply And.intro<;>try conv=>whnf)|(intro h;first|(with_reducible first|exact tf0 h|exact ft0 h|exact nt0 h|exact nf0 h)|exact litz h rfl|(with_reducible first|exact tf h (by assumption)|exact tf (by assumption) h)|try conv=>whnf)|with_reducible rfl|apply True.intro|((first|apply infoT|apply bleI|apply fitI|apply cellsI|apply szI);rfl)|(apply guardI;kernel_rfl)|(apply WhenQ.mk;(try conv=>whnf);rotate_left;(try conv=>whnf);rotate_right)|(with_reducible first|assumption|(apply not_of;assumption)|(apply left_of;assumption)|(apply left_of;apply left_of;assumption)|(apply and_of<;>first|assumption|(apply not_of;assumption)))|(refine lin_plan (by kernel_rfl) ?_;try conv=>whnf)|(refine ⟨_, _, rfl, idx_map (by with_reducible assumption), rfl, ?_⟩;try conv=>whnf)|(refine ⟨rfl, ?_⟩;try conv=>whnf)|exact Nat.le_refl 1|((first|(apply ex3;(focus with_reducible assumption);(focus with_reducible assumption))|(apply ex2;(focus with_reducible assumption)));try conv=>whnf)|fail)
      · have h3 : (bif (bif (a.post.length : Int) != (a.pre.length : Int) then true else (a.rel.length : Int) != ag) then true else rowsBad a.rel a.pre.length) = true := by rw [← e2, ← e3]; exact h
        refine le_int ?_
        rw [shapeI, h1, h3]; rfl
      · have h3 : (bif (bif (a.post.length : Int) != (a.pre.length : Int) then true else (a.rel.length : Int) != ag) then true else rowsBad a.rel a.pre.length) = false := by rw [← e2, ← e3]; exact h
        exact ⟨⟨(), h3⟩, (by refine Wk.of ?_ ?_ rfl rfl rfl<;>(repeat' (first|exact trivial|exact WkD.same _|exact WkO.same _ _ rfl|exact WkD.any _|(apply WkD.nil;first|exact Or.inl rfl|exact Or.inr rfl)|(exact WkD.fz _ _ _ rfl (Or.inl ⟨_, rfl⟩) rfl)|(exact WkD.fz _ _ _ rfl (Or.inr rfl) rfl)|refine WkD.int ?_|exact WkD.new' rfl rfl rfl|exact WkO.new _ _ rfl|refine WkO.vars rfl ?_|with_reducible rfl|exact rfl|refine ⟨?_, ?_⟩|((refine wrapA ?_ ?_ ?_);(focus simp;done);(focus (try dsimp only);omega);(focus (try dsimp only);omega))|fail)))⟩
  rintro ⟨_, h2⟩
  have hsh : shapeI a ag = bif bitsBad a.rel a.pre.length then 2 else 0 := by rw [shapeI, h1, h2]; rfl
  have hrw : rowsBad a.rel a.pre.length = false := by
    cases h4 : rowsBad a.rel a.pre.length with
    | false => rfl
    | true =>
      rw [h4] at h2
      cases hh : (bif (a.post.length : Int) != (a.pre.length : Int) then true else (a.rel.length : Int) != ag) <;> rw [hh] at h2 <;> cases h2
  have hrow := rows_ok hrw
  have hn8 : a.pre.length ≤ 8 := by
    by_cases h6 : (a.pre.length : Int) < 1
    · omega
    · rw [decide_eq_false h6] at h1
      have := of_decide_eq_false h1
      omega
  rw [hsh]
  (try conv=>whnf);repeat' (first|(apply And.intro<;>try conv=>whnf)|(intro h;first|(with_reducible first|exact tf0 h|exact ft0 h|exact nt0 h|exact nf0 h)|exact litz h rfl|(with_reducible first|exact tf h (by assumption)|exact tf (by assumption) h)|try conv=>whnf)|with_reducible rfl|apply True.intro|((first|apply infoT|apply bleI|apply fitI|apply cellsI|apply szI);rfl)|(apply guardI;kernel_rfl)|(apply WhenQ.mk;(try conv=>whnf);rotate_left;(try conv=>whnf);rotate_right)|(with_reducible first|assumption|(apply not_of;assumption)|(apply left_of;assumption)|(apply left_of;apply left_of;assumption)|(apply and_of<;>first|assumption|(apply not_of;assumption)))|(refine lin_plan (by kernel_rfl) ?_;try conv=>whnf)|(refine ⟨_, _, rfl, idx_map (by with_reducible assumption), rfl, ?_⟩;try conv=>whnf)|(refine ⟨rfl, ?_⟩;try conv=>whnf)|exact Nat.le_refl 1|((first|(apply ex3;(focus with_reducible assumption);(focus with_reducible assumption))|(apply ex2;(focus with_reducible assumption)));try conv=>whnf)|fail)
  refine ⟨{ i : Nat // i ≤ a.rel.length ∧ bitsBad (a.rel.take i) a.pre.length = false }, fun i => [(2, .ref 0 0), (5, .ref 1 0), (38, .pv (.sl (a.rel.map rowPV))), (39, .pv (i64 (a.rel.map rowPV).length)), (40, .pv (i64 i.1))], fun _ => 2, fun _ => HS a, fun i => a.rel.length - i.1, ⟨⟨0, Nat.zero_le _, rfl⟩, (by refine Wk.of ?_ ?_ rfl rfl rfl<;>(repeat' (first|exact trivial|exact WkD.same _|exact WkO.same _ _ rfl|exact WkD.any _|(apply WkD.nil;first|exact Or.inl rfl|exact Or.inr rfl)|(exact WkD.fz _ _ _ rfl (Or.inl ⟨_, rfl⟩) rfl)|(exact WkD.fz _ _ _ rfl (Or.inr rfl) rfl)|refine WkD.int ?_|exact WkD.new' rfl rfl rfl|exact WkO.new _ _ rfl|refine WkO.vars rfl ?_|with_reducible rfl|exact rfl|refine ⟨?_, ?_⟩|((refine wrapA ?_ ?_ ?_);(focus simp;done);(focus (try dsimp only);omega);(focus (try dsimp only);omega))|fail)))⟩, ?_⟩
  rintro ⟨i, hi, hb⟩
  (try conv=>whnf);repeat' (first|(apply And.intro<;>try conv=>whnf)|(intro h;first|(with_reducible first|exact tf0 h|exact ft0 h|exact nt0 h|exact nf0 h)|exact litz h rfl|(with_reducible first|exact tf h (by assumption)|exact tf (by assumption) h)|try conv=>whnf)|with_reducible rfl|apply True.intro|((first|apply infoT|apply bleI|apply fitI|apply cellsI|apply szI);rfl)|(apply guardI;kernel_rfl)|(apply WhenQ.mk;(try conv=>whnf);rotate_left;(try conv=>whnf);rotate_right)|(with_reducible first|assumption|(apply not_of;assumption)|(apply left_of;assumption)|(apply left_of;apply left_of;assumption)|(apply and_of<;>first|assumption|(apply not_of;assumption)))|(refine lin_plan (by kernel_rfl) ?_;try conv=>whnf)|(refine ⟨_, _, rfl, idx_map (by with_reducible assumption), rfl, ?_⟩;try conv=>whnf)|(refine ⟨rfl, ?_⟩;try conv=>whnf)|exact Nat.le_refl 1|((first|(apply ex3;(focus with_reducible assumption);(focus with_reducible assumption))|(apply ex2;(focus with_reducible assumption)));try conv=>whnf)|fail)
  · have hi' : i < a.rel.length := by simpa using lt_dec h
    have hn : a.rel[i]? = some a.rel[i] := List.getElem?_eq_getElem hi'
    have hri := hrow _ (List.getElem_mem hi')
    have hfi := hf _ (List.getElem_mem hi')
    have hat := fun (hh : (a.rel[i]).any (fun s => decide ((len64 s : Int) > (a.pre.length : Int))) = true) => any_at (p := fun r : List Nat => r.any fun s => decide ((len64 s : Int) > (a.pre.length : Int))) hi' hh
    have htk := any_take (p := fun r : List Nat => r.any fun s => decide ((len64 s : Int) > (a.pre.length : Int))) hi' hb
    refine ⟨_, _, rfl, idx_map hn, rfl, ?_⟩
    generalize a.rel[i] = r at hn hri hfi hat htk
    (try conv=>whnf);repeat' (first|(apply And.intro<;>try conv=>whnf)|(intro h;first|(with_reducible first|exact tf0 h|exact ft0 h|exact nt0 h|exact nf0 h)|exact litz h rfl|(with_reducible first|exact tf h (by assumption)|exact tf (by assumption) h)|try conv=>whnf)|with_reducible rfl|apply True.intro|((first|apply infoT|apply bleI|apply fitI|apply cellsI|apply szI);rfl)|(apply guardI;kernel_rfl)|(apply WhenQ.mk;(try conv=>whnf);rotate_left;(try conv=>whnf);rotate_right)|(with_reducible first|assumption|(apply not_of;assumption)|(apply left_of;assumption)|(apply left_of;apply left_of;assumption)|(apply and_of<;>first|assumption|(apply not_of;assumption)))|(refine lin_plan (by kernel_rfl) ?_;try conv=>whnf)|(refine ⟨_, _, rfl, idx_map (by with_reducible assumption), rfl, ?_⟩;try conv=>whnf)|(refine ⟨rfl, ?_⟩;try conv=>whnf)|exact Nat.le_refl 1|((first|(apply ex3;(focus with_reducible assumption);(focus with_reducible assumption))|(apply ex2;(focus with_reducible assumption)));try conv=>whnf)|fail)
    refine ⟨{ j : Nat // j ≤ r.length ∧ (r.take j).any (fun s => decide ((len64 s : Int) > (a.pre.length : Int))) = false }, fun j => [(2, .ref 0 0), (5, .ref 1 0), (38, .pv (.sl (a.rel.map rowPV))), (39, .pv (i64 (a.rel.map rowPV).length)), (40, .pv (i64 i)), (44, .pv (rowPV r)), (45, .pv (i64 (r.map u64).length)), (46, .pv (i64 j.1))], fun _ => 2, fun _ => HS a, fun j => r.length - j.1, ⟨⟨0, Nat.zero_le _, rfl⟩, (by refine Wk.of ?_ ?_ rfl rfl rfl<;>(repeat' (first|exact trivial|exact WkD.same _|exact WkO.same _ _ rfl|exact WkD.any _|(apply WkD.nil;first|exact Or.inl rfl|exact Or.inr rfl)|(exact WkD.fz _ _ _ rfl (Or.inl ⟨_, rfl⟩) rfl)|(exact WkD.fz _ _ _ rfl (Or.inr rfl) rfl)|refine WkD.int ?_|exact WkD.new' rfl rfl rfl|exact WkO.new _ _ rfl|refine WkO.vars rfl ?_|with_reducible rfl|exact rfl|refine ⟨?_, ?_⟩|((refine wrapA ?_ ?_ ?_);(focus simp;done);(focus (try dsimp only);omega);(focus (try dsimp only);omega))|fail)))⟩, ?_⟩
    rintro ⟨j, hj, hc⟩
    (try conv=>whnf);repeat' (first|(apply And.intro<;>try conv=>whnf)|(intro h;first|(with_reducible first|exact tf0 h|exact ft0 h|exact nt0 h|exact nf0 h)|exact litz h rfl|(with_reducible first|exact tf h (by assumption)|exact tf (by assumption) h)|try conv=>whnf)|with_reducible rfl|apply True.intro|((first|apply infoT|apply bleI|apply fitI|apply cellsI|apply szI);rfl)|(apply guardI;kernel_rfl)|(apply WhenQ.mk;(try conv=>whnf);rotate_left;(try conv=>whnf);rotate_right)|(with_reducible first|assumption|(apply not_of;assumption)|(apply left_of;assumption)|(apply left_of;apply left_of;assumption)|(apply and_of<;>first|assumption|(apply not_of;assumption)))|(refine lin_plan (by kernel_rfl) ?_;try conv=>whnf)|(refine ⟨_, _, rfl, idx_map (by with_reducible assumption), rfl, ?_⟩;try conv=>whnf)|(refine ⟨rfl, ?_⟩;try conv=>whnf)|exact Nat.le_refl 1|((first|(apply ex3;(focus with_reducible assumption);(focus with_reducible assumption))|(apply ex2;(focus with_reducible assumption)));try conv=>whnf)|fail)
    · have hj' : j < r.length := by simpa using lt_dec h
      have hm : r[j]? = some r[j] := List.getElem?_eq_getElem hj'
      have hL := bits_Len64 r[j] (hfi _ (List.getElem_mem hj'))
      refine ⟨_, _, rfl, idx_map hm, rfl, ?_⟩
      (try conv=>whnf);repeat' (first|(apply And.intro<;>try conv=>whnf)|(intro h;first|(with_reducible first|exact tf0 h|exact ft0 h|exact nt0 h|exact nf0 h)|exact litz h rfl|(with_reducible first|exact tf h (by assumption)|exact tf (by assumption) h)|try conv=>whnf)|with_reducible rfl|apply True.intro|((first|apply infoT|apply bleI|apply fitI|apply cellsI|apply szI);rfl)|(apply guardI;kernel_rfl)|(apply WhenQ.mk;(try conv=>whnf);rotate_left;(try conv=>whnf);rotate_right)|(with_reducible first|assumption|(apply not_of;assumption)|(apply left_of;assumption)|(apply left_of;apply left_of;assumption)|(apply and_of<;>first|assumption|(apply not_of;assumption)))|(refine lin_plan (by kernel_rfl) ?_;try conv=>whnf)|(refine ⟨_, _, rfl, idx_map (by with_reducible assumption), rfl, ?_⟩;try conv=>whnf)|(refine ⟨rfl, ?_⟩;try conv=>whnf)|exact Nat.le_refl 1|((first|(apply ex3;(focus with_reducible assumption);(focus with_reducible assumption))|(apply ex2;(focus with_reducible assumption)));try conv=>whnf)|(refine PureFn.dcq (f := 107) rfl ?_;try conv=>whnf)|((refine ⟨_, _, hL, ?_, ?_⟩);(focus (first|(refine ⟨?_, trivial⟩<;>first|exact PLe.refl _|exact PLe.nil)|exact trivial));try conv=>whnf)|(refine ⟨_, (by (conv=>whnf);exact hL), rfl, ?_⟩;try conv=>whnf)|fail)
      · have e : r.any (fun s => decide ((len64 s : Int) > (a.pre.length : Int))) = true := any_at hj' h
        rw [show bitsBad a.rel a.pre.length = true from hat e]; exact .refl _
      · exact ⟨⟨j + 1, hj', any_take hj' hc h⟩, by show r.length - (j + 1) < r.length - j; omega, (by refine Wk.of ?_ ?_ rfl rfl rfl<;>(repeat' (first|exact trivial|exact WkD.same _|exact WkO.same _ _ rfl|exact WkD.any _|(apply WkD.nil;first|exact Or.inl rfl|exact Or.inr rfl)|(exact WkD.fz _ _ _ rfl (Or.inl ⟨_, rfl⟩) rfl)|(exact WkD.fz _ _ _ rfl (Or.inr rfl) rfl)|refine WkD.int ?_|exact WkD.new' rfl rfl rfl|exact WkO.new _ _ rfl|refine WkO.vars rfl ?_|with_reducible rfl|exact rfl|refine ⟨?_, ?_⟩|((refine wrapA ?_ ?_ ?_);(focus simp;done);(focus (try dsimp only);omega);(focus (try dsimp only);omega))|fail)))⟩
    · have hj' : j = r.length := by have := ge_dec (m := (r.map u64).length) h (by simpa using hj); simpa using this
      subst hj'
      rw [List.take_length] at hc
      exact ⟨⟨i + 1, hi', htk hc⟩, by show a.rel.length - (i + 1) < a.rel.length - i; omega, (by refine Wk.of ?_ ?_ rfl rfl rfl<;>(repeat' (first|exact trivial|exact WkD.same _|exact WkO.same _ _ rfl|exact WkD.any _|(apply WkD.nil;first|exact Or.inl rfl|exact Or.inr rfl)|(exact WkD.fz _ _ _ rfl (Or.inl ⟨_, rfl⟩) rfl)|(exact WkD.fz _ _ _ rfl (Or.inr rfl) rfl)|refine WkD.int ?_|exact WkD.new' rfl rfl rfl|exact WkO.new _ _ rfl|refine WkO.vars rfl ?_|with_reducible rfl|exact rfl|refine ⟨?_, ?_⟩|((refine wrapA ?_ ?_ ?_);(focus simp;done);(focus (try dsimp only);omega);(focus (try dsimp only);omega))|fail)))⟩
  · have hi' : i = a.rel.length := by have := ge_dec (m := (a.rel.map rowPV).length) h (by simpa using hi); simpa using this
    subst hi'
    rw [List.take_length] at hb
    rw [hb]; exact .refl _
theorem ac_Check (a : Act) (ag n : Int) (hf : Fit a) (hl : a.rel.length ≤ 1000) (hp : ∀ l, l ∈ a.post → l.length ≤ 1000) : PureFn Try.prog 58 [a.pv, .int .i64 ag, .int .i64 n] (.int .i64 (actI a ag n)) := by
  refine PureFn.introC [3, 6] mixed (fn := Try.f58) rfl rfl rfl fun M w0 => ?_
  have hS := ac_shape a ag hf hl
  (try conv=>whnf);repeat' (first|(apply And.intro<;>try conv=>whnf)|(intro h;first|(with_reducible first|exact tf0 h|exact ft0 h|exact nt0 h|exact nf0 h)|exact litz h rfl|(with_reducible first|exact tf h (by assumption)|exact tf (by assumption) h)|try conv=>whnf)|with_reducible rfl|apply True.intro|((first|apply infoT|apply bleI|apply fitI|apply cellsI|apply szI);rfl)|(apply guardI;kernel_rfl)|(apply WhenQ.mk;(try conv=>whnf);rotate_left;(try conv=>whnf);rotate_right)|(with_reducible first|assumption|(apply not_of;assumption)|(apply left_of;assumption)|(apply left_of;apply left_of;assumption)|(apply and_of<;>first|assumption|(apply not_of;assumption)))|(refine lin_plan (by kernel_rfl) ?_;try conv=>whnf)|(refine ⟨_, _, rfl, idx_map (by with_reducible assumption), rfl, ?_⟩;try conv=>whnf)|(refine ⟨rfl, ?_⟩;try conv=>whnf)|exact Nat.le_refl 1|((first|(apply ex3;(focus with_reducible assumption);(focus with_reducible assumption))|(apply ex2;(focus with_reducible assumption)));try conv=>whnf)|fail)
  refine ⟨{ _x : Unit // (bif bif bif decide (ag < 0) then true else decide (ag > 4) then true else decide (n < 0) then true else decide (n > 8)) = false }, fun _ => [(1, .pv (.int .i64 ag)), (2, .pv (.int .i64 n)), (3, .ref 0 0)], fun _ => 1, fun _ => [(0, .var (cellsA a))], ?_, ?_⟩
  · (try conv=>whnf);repeat' (first|(apply And.intro<;>try conv=>whnf)|(intro h;first|(with_reducible first|exact tf0 h|exact ft0 h|exact nt0 h|exact nf0 h)|exact litz h rfl|(with_reducible first|exact tf h (by assumption)|exact tf (by assumption) h)|try conv=>whnf)|with_reducible rfl|apply True.intro|((first|apply infoT|apply bleI|apply fitI|apply cellsI|apply szI);rfl)|(apply guardI;kernel_rfl)|(apply WhenQ.mk;(try conv=>whnf);rotate_left;(try conv=>whnf);rotate_right)|(with_reducible first|assumption|(apply not_of;assumption)|(apply left_of;assumption)|(apply left_of;apply left_of;assumption)|(apply and_of<;>first|assumption|(apply not_of;assumption)))|(refine lin_plan (by kernel_rfl) ?_;try conv=>whnf)|(refine ⟨_, _, rfl, idx_map (by with_reducible assumption), rfl, ?_⟩;try conv=>whnf)|(refine ⟨rfl, ?_⟩;try conv=>whnf)|exact Nat.le_refl 1|((first|(apply ex3;(focus with_reducible assumption);(focus with_reducible assumption))|(apply ex2;(focus with_reducible assumption)));try conv=>whnf)|fail)
    · refine le_int ?_
      rw [actI, show (bif bif bif decide (ag < 0) then true else decide (ag > 4) then true else decide (n < 0) then true else decide (n > 8)) = true from h]; rfl
    · exact ⟨⟨(), h⟩, (by refine Wk.of ?_ ?_ rfl rfl rfl<;>(repeat' (first|exact trivial|exact WkD.same _|exact WkO.same _ _ rfl|exact WkD.any _|(apply WkD.nil;first|exact Or.inl rfl|exact Or.inr rfl)|(exact WkD.fz _ _ _ rfl (Or.inl ⟨_, rfl⟩) rfl)|(exact WkD.fz _ _ _ rfl (Or.inr rfl) rfl)|refine WkD.int ?_|exact WkD.new' rfl rfl rfl|exact WkO.new _ _ rfl|refine WkO.vars rfl ?_|with_reducible rfl|exact rfl|refine ⟨?_, ?_⟩|((refine wrapA ?_ ?_ ?_);(focus simp;done);(focus (try dsimp only);omega);(focus (try dsimp only);omega))|fail)))⟩
  rintro ⟨_, h1⟩
  refine ⟨{ _x : Unit // (shapeI a ag != 0) = false }, fun _ => [(1, .pv (.int .i64 ag)), (2, .pv (.int .i64 n)), (3, .ref 0 0)], fun _ => 1, fun _ => [(0, .var (cellsA a))], ?_, ?_⟩
  · (try conv=>whnf);repeat' (first|(apply And.intro<;>try conv=>whnf)|(intro h;first|(with_reducible first|exact tf0 h|exact ft0 h|exact nt0 h|exact nf0 h)|exact litz h rfl|(with_reducible first|exact tf h (by assumption)|exact tf (by assumption) h)|try conv=>whnf)|with_reducible rfl|apply True.intro|((first|apply infoT|apply bleI|apply fitI|apply cellsI|apply szI);rfl)|(apply guardI;kernel_rfl)|(apply WhenQ.mk;(try conv=>whnf);rotate_left;(try conv=>whnf);rotate_right)|(with_reducible first|assumption|(apply not_of;assumption)|(apply left_of;assumption)|(apply left_of;apply left_of;assumption)|(apply and_of<;>first|assumption|(apply not_of;assumption)))|(refine lin_plan (by kernel_rfl) ?_;try conv=>whnf)|(refine ⟨_, _, rfl, idx_map (by with_reducible assumption), rfl, ?_⟩;try conv=>whnf)|(refine ⟨rfl, ?_⟩;try conv=>whnf)|exact Nat.le_refl 1|((first|(apply ex3;(focus with_reducible assumption);(focus with_reducible assumption))|(apply ex2;(focus with_reducible assumption)));try conv=>whnf)|(refine PureFn.dcq (f := 86) rfl ?_;try conv=>whnf)|((refine ⟨_, _, hS, ?_, ?_⟩);(focus (first|(refine ⟨?_, ?_, trivial⟩<;>first|exact PLe.refl _|exact PLe.nil)|exact trivial));try conv=>whnf)|(refine ⟨_, (by (conv=>whnf);exact hS), rfl, ?_⟩;try conv=>whnf)|fail)
    · refine le_int ?_
      rw [actI, h1, h]; rfl
    · exact ⟨⟨(), h⟩, (by refine Wk.of ?_ ?_ rfl rfl rfl<;>(repeat' (first|exact trivial|exact WkD.same _|exact WkO.same _ _ rfl|exact WkD.any _|(apply WkD.nil;first|exact Or.inl rfl|exact Or.inr rfl)|(exact WkD.fz _ _ _ rfl (Or.inl ⟨_, rfl⟩) rfl)|(exact WkD.fz _ _ _ rfl (Or.inr rfl) rfl)|refine WkD.int ?_|exact WkD.new' rfl rfl rfl|exact WkO.new _ _ rfl|refine WkO.vars rfl ?_|with_reducible rfl|exact rfl|refine ⟨?_, ?_⟩|((refine wrapA ?_ ?_ ?_);(focus simp;done);(focus (try dsimp only);omega);(focus (try dsimp only);omega))|fail)))⟩
  rintro ⟨_, h2⟩
  obtain ⟨_, n8, npost, _, _, _⟩ := shapeI_ok (a := a) (ag := ag) (by simpa using h2)
  have hact : actI a ag n = evs' ag n a.pre a.post := by rw [actI, h1, h2]; rfl
  rw [hact]
  (try conv=>whnf);repeat' (first|(apply And.intro<;>try conv=>whnf)|(intro h;first|(with_reducible first|exact tf0 h|exact ft0 h|exact nt0 h|exact nf0 h)|exact litz h rfl|(with_reducible first|exact tf h (by assumption)|exact tf (by assumption) h)|try conv=>whnf)|with_reducible rfl|apply True.intro|((first|apply infoT|apply bleI|apply fitI|apply cellsI|apply szI);rfl)|(apply guardI;kernel_rfl)|(apply WhenQ.mk;(try conv=>whnf);rotate_left;(try conv=>whnf);rotate_right)|(with_reducible first|assumption|(apply not_of;assumption)|(apply left_of;assumption)|(apply left_of;apply left_of;assumption)|(apply and_of<;>first|assumption|(apply not_of;assumption)))|(refine lin_plan (by kernel_rfl) ?_;try conv=>whnf)|(refine ⟨_, _, rfl, idx_map (by with_reducible assumption), rfl, ?_⟩;try conv=>whnf)|(refine ⟨rfl, ?_⟩;try conv=>whnf)|exact Nat.le_refl 1|((first|(apply ex3;(focus with_reducible assumption);(focus with_reducible assumption))|(apply ex2;(focus with_reducible assumption)));try conv=>whnf)|fail)
  refine ⟨{ i : Nat // i ≤ a.pre.length ∧ evs' ag n a.pre a.post = evs' ag n (a.pre.drop i) (a.post.drop i) }, fun i => [(1, .pv (.int .i64 ag)), (2, .pv (.int .i64 n)), (3, .ref 0 0), (33, .pv (.sl (a.pre.map fpv))), (34, .pv (i64 (a.pre.map fpv).length)), (35, .pv (i64 i.1))], fun _ => 1, fun _ => [(0, .var (cellsA a))], fun i => a.pre.length - i.1, ⟨⟨0, Nat.zero_le _, rfl⟩, (by refine Wk.of ?_ ?_ rfl rfl rfl<;>(repeat' (first|exact trivial|exact WkD.same _|exact WkO.same _ _ rfl|exact WkD.any _|(apply WkD.nil;first|exact Or.inl rfl|exact Or.inr rfl)|(exact WkD.fz _ _ _ rfl (Or.inl ⟨_, rfl⟩) rfl)|(exact WkD.fz _ _ _ rfl (Or.inr rfl) rfl)|refine WkD.int ?_|exact WkD.new' rfl rfl rfl|exact WkO.new _ _ rfl|refine WkO.vars rfl ?_|with_reducible rfl|exact rfl|refine ⟨?_, ?_⟩|((refine wrapA ?_ ?_ ?_);(focus simp;done);(focus (try dsimp only);omega);(focus (try dsimp only);omega))|fail)))⟩, ?_⟩
  rintro ⟨i, hi, he⟩
  (try conv=>whnf);repeat' (first|(apply And.intro<;>try conv=>whnf)|(intro h;first|(with_reducible first|exact tf0 h|exact ft0 h|exact nt0 h|exact nf0 h)|exact litz h rfl|(with_reducible first|exact tf h (by assumption)|exact tf (by assumption) h)|try conv=>whnf)|with_reducible rfl|apply True.intro|((first|apply infoT|apply bleI|apply fitI|apply cellsI|apply szI);rfl)|(apply guardI;kernel_rfl)|(apply WhenQ.mk;(try conv=>whnf);rotate_left;(try conv=>whnf);rotate_right)|(with_reducible first|assumption|(apply not_of;assumption)|(apply left_of;assumption)|(apply left_of;apply left_of;assumption)|(apply and_of<;>first|assumption|(apply not_of;assumption)))|(refine lin_plan (by kernel_rfl) ?_;try conv=>whnf)|(refine ⟨_, _, rfl, idx_map (by with_reducible assumption), rfl, ?_⟩;try conv=>whnf)|(refine ⟨rfl, ?_⟩;try conv=>whnf)|exact Nat.le_refl 1|((first|(apply ex3;(focus with_reducible assumption);(focus with_reducible assumption))|(apply ex2;(focus with_reducible assumption)));try conv=>whnf)|fail)
  · have hi' : i < a.pre.length := by simpa using lt_dec h
    have hn : a.pre[i]? = some a.pre[i] := List.getElem?_eq_getElem hi'
    have hm : a.post[i]? = some a.post[i] := List.getElem?_eq_getElem (by omega)
    have hT := ac_static a.pre[i] ag n
    have hC := ac_changes a.post[i] ag n (hp _ (List.getElem_mem (by omega)))
    rw [evs_drop hi' (by omega)] at he
    refine ⟨_, _, rfl, idx_map hn, rfl, ?_⟩
    (try conv=>whnf);repeat' (first|(apply And.intro<;>try conv=>whnf)|(intro h;first|(with_reducible first|exact tf0 h|exact ft0 h|exact nt0 h|exact nf0 h)|exact litz h rfl|(with_reducible first|exact tf h (by assumption)|exact tf (by assumption) h)|try conv=>whnf)|with_reducible rfl|apply True.intro|((first|apply infoT|apply bleI|apply fitI|apply cellsI|apply szI);rfl)|(apply guardI;kernel_rfl)|(apply WhenQ.mk;(try conv=>whnf);rotate_left;(try conv=>whnf);rotate_right)|(with_reducible first|assumption|(apply not_of;assumption)|(apply left_of;assumption)|(apply left_of;apply left_of;assumption)|(apply and_of<;>first|assumption|(apply not_of;assumption)))|(refine lin_plan (by kernel_rfl) ?_;try conv=>whnf)|(refine ⟨_, _, rfl, idx_map (by with_reducible assumption), rfl, ?_⟩;try conv=>whnf)|(refine ⟨rfl, ?_⟩;try conv=>whnf)|exact Nat.le_refl 1|((first|(apply ex3;(focus with_reducible assumption);(focus with_reducible assumption))|(apply ex2;(focus with_reducible assumption)));try conv=>whnf)|(refine PureFn.dcq (f := 87) rfl ?_;try conv=>whnf)|(refine PureFn.dcq (f := 88) rfl ?_;try conv=>whnf)|((refine ⟨_, _, hT, ?_, ?_⟩);(focus (first|(refine ⟨?_, ?_, ?_, trivial⟩<;>first|exact PLe.refl _|exact PLe.nil)|exact trivial));try conv=>whnf)|(refine ⟨_, (by (conv=>whnf);exact hT), rfl, ?_⟩;try conv=>whnf)|((refine ⟨_, _, hC, ?_, ?_⟩);(focus (first|(refine ⟨?_, ?_, ?_, trivial⟩<;>first|exact PLe.refl _|exact PLe.nil)|exact trivial));try conv=>whnf)|(refine ⟨_, (by (conv=>whnf);exact hC), rfl, ?_⟩;try conv=>whnf)|fail)
    · refine le_int ?_
      rw [he, h]; rfl
    · rename_i h3
      refine le_int ?_
      rw [he, h3, h]; rfl
    · rename_i h3
      rw [h3, h] at he
      exact ⟨⟨i + 1, hi', he⟩, by show a.pre.length - (i + 1) < a.pre.length - i; omega, (by refine Wk.of ?_ ?_ rfl rfl rfl<;>(repeat' (first|exact trivial|exact WkD.same _|exact WkO.same _ _ rfl|exact WkD.any _|(apply WkD.nil;first|exact Or.inl rfl|exact Or.inr rfl)|(exact WkD.fz _ _ _ rfl (Or.inl ⟨_, rfl⟩) rfl)|(exact WkD.fz _ _ _ rfl (Or.inr rfl) rfl)|refine WkD.int ?_|exact WkD.new' rfl rfl rfl|exact WkO.new _ _ rfl|refine WkO.vars rfl ?_|with_reducible rfl|exact rfl|refine ⟨?_, ?_⟩|((refine wrapA ?_ ?_ ?_);(focus simp;done);(focus (try dsimp only);omega);(focus (try dsimp only);omega))|fail)))⟩
  · have hi' : i = a.pre.length := by have := ge_dec (m := (a.pre.map fpv).length) h (by simpa using hi); simpa using this
    subst hi'
    rw [he, List.drop_eq_nil_of_le (Nat.le_refl _)]; exact .refl _
theorem ac_alone (a : Act) (hf : Fit a) (hl : a.rel.length ≤ 1000) (hp : ∀ l, l ∈ a.post → l.length ≤ 1000) : PureFn Try.prog 79 [a.pv] (.int .i64 (aloneI a)) := by
  refine PureFn.intro mixed (fn := Try.f79) rfl rfl rfl fun M w0 => ?_
  have hC := ac_Check a (((a.rel.map rowPV).length : Nat) : Int) 8 hf hl hp
  have e3 : ((a.rel.map rowPV).length : Int) = (a.rel.length : Int) := by simp
  (try conv=>whnf);repeat' (first|(apply And.intro<;>try conv=>whnf)|(intro h;first|(with_reducible first|exact tf0 h|exact ft0 h|exact nt0 h|exact nf0 h)|exact litz h rfl|(with_reducible first|exact tf h (by assumption)|exact tf (by assumption) h)|try conv=>whnf)|with_reducible rfl|apply True.intro|((first|apply infoT|apply bleI|apply fitI|apply cellsI|apply szI);rfl)|(apply guardI;kernel_rfl)|(apply WhenQ.mk;(try conv=>whnf);rotate_left;(try conv=>whnf);rotate_right)|(with_reducible first|assumption|(apply not_of;assumption)|(apply left_of;assumption)|(apply left_of;apply left_of;assumption)|(apply and_of<;>first|assumption|(apply not_of;assumption)))|(refine lin_plan (by kernel_rfl) ?_;try conv=>whnf)|(refine ⟨_, _, rfl, idx_map (by with_reducible assumption), rfl, ?_⟩;try conv=>whnf)|(refine ⟨rfl, ?_⟩;try conv=>whnf)|exact Nat.le_refl 1|((first|(apply ex3;(focus with_reducible assumption);(focus with_reducible assumption))|(apply ex2;(focus with_reducible assumption)));try conv=>whnf)|(refine PureFn.dcq (f := 58) rfl ?_;try conv=>whnf)|((refine ⟨_, _, hC, ?_, ?_⟩);(focus (first|(refine ⟨?_, ?_, ?_, trivial⟩<;>first|exact PLe.refl _|exact PLe.nil)|exact trivial));try conv=>whnf)|(refine ⟨_, (by (conv=>whnf);exact hC), rfl, ?_⟩;try conv=>whnf)|fail)
  refine le_int ?_
  rw [aloneI, ← e3]
end Go.Proofs.Ytnbnkgcjgfmlcaa
set_option maxRecDepth 100000
set_option maxHeartbeats 4000000
namespace Go.Proofs.Ytnbnkgcjgfmlcaa
open Go Go.Dv

theorem andNotU_eq {a b : Nat} (ha : a < 2 ^ 64) : andNotU a b = ((a ^^^ (a &&& b) : Nat) : Int) := by
  have hlt : a ^^^ (a &&& b) < 2 ^ 64 := Nat.xor_lt_two_pow ha (Nat.lt_of_le_of_lt Nat.and_le_left ha)
  unfold andNotU
  show IntKind.wrap .u64 ((BitVec.ofInt 64 (a : Int) &&& ~~~BitVec.ofInt 64 (b : Int)).toNat : Int) = _
  rw [ofInt_nat, ofInt_nat]
  have h2 : (BitVec.ofNat 64 a &&& ~~~BitVec.ofNat 64 b).toNat = a ^^^ (a &&& b) := by
    apply Nat.eq_of_testBit_eq
    intro i
    rw [BitVec.testBit_toNat, BitVec.getLsbD_and, BitVec.getLsbD_not, BitVec.getLsbD_ofNat, BitVec.getLsbD_ofNat, Nat.testBit_xor, Nat.testBit_and]
    by_cases hi : i < 64
    · simp only [hi, decide_true, Bool.true_and]; cases a.testBit i <;> cases b.testBit i <;> rfl
    · have : a.testBit i = false := Nat.testBit_lt_two_pow (Nat.lt_of_lt_of_le ha (Nat.pow_le_pow_right (by decide) (by omega)))
      simp [hi, this]
  rw [h2, wrapU (by omega) (by omega)]
theorem andNotU_subM {a b : Nat} (ha : a < 2 ^ 64) : (andNotU a b == 0) = subM a b := by
  rw [andNotU_eq ha, subM, Bool.eq_iff_iff, beq_iff_eq, beq_iff_eq]
  constructor
  · intro h
    have h0 : a ^^^ (a &&& b) = 0 := by omega
    have h4 : (a ^^^ (a &&& b)) ^^^ (a &&& b) = a := by rw [Nat.xor_assoc, Nat.xor_self, Nat.xor_zero]
    rw [h0, Nat.zero_xor] at h4; exact h4
  · intro h
    rw [h, Nat.xor_self]; rfl

/-! the conditions -/
def serP (r : List Nat) (i : Nat) : Bool := (List.range i).all fun e => r.getD e 0 != 0
def refP (r : List Nat) (i : Nat) : Bool := (List.range i).all fun e => (r.getD e 0).testBit e
def traQ (r : List Nat) (e j : Nat) : Bool := (List.range j).all fun f => !(r.getD e 0).testBit f || subM (r.getD f 0) (r.getD e 0)
def eucQ (r : List Nat) (e j : Nat) : Bool := (List.range j).all fun f => !(r.getD e 0).testBit f || subM (r.getD e 0) (r.getD f 0)
def traP (r : List Nat) (i : Nat) : Bool := (List.range i).all fun e => traQ r e r.length
def eucP (r : List Nat) (i : Nat) : Bool := (List.range i).all fun e => eucQ r e r.length
/-! the logics -/
def meetsB (s f t e : Bool) (lg : Int) : Bool :=
  bif lg == 0 then true else bif lg == 1 then s else bif lg == 2 then f else bif lg == 3 then t else bif lg == 4 then (bif f then t else false) else bif lg == 5 then (bif (bif s then t else false) then e else false) else bif lg == 6 then (bif (bif f then t else false) then e else false) else false
def meetsR (lg : Int) (r : List Nat) : Bool := meetsB (serP r r.length) (refP r r.length) (traP r r.length) (eucP r r.length) lg
def inI (a : Act) (lg : Int) : Bool := bif aloneI a != 0 then false else bif (bif decide (lg < 0) then true else decide (lg > 6)) then false else !(a.rel.any fun r => !meetsR lg r)
end Go.Proofs.Ytnbnkgcjgfmlcaa
set_option maxRecDepth 100000
set_option maxHeartbeats 4000000
namespace Go.Proofs.Ytnbnkgcjgfmlcaa
open Go Go.Dv

/-- The relations of a group joined at an event, those of the first i agents. -/
def joinA (op : Nat → Nat → Nat) (rel : List (List Nat)) (g : Int) (first e : Nat) : Nat → Nat
  | 0 => first
  | i + 1 => bif and64 (shr64 g i) 1 == 1 then op (joinA op rel g first e i) ((rel.getD i []).getD e 0) else joinA op rel g first e i
/-- All events, as the program reckons them. -/
def allW (n : Nat) : Nat := (IntKind.wrap .u64 (shlU 1 n - 1)).toNat
/-! the value of a fact -/
def valL (fact : Int) : List Asg → List Nd
  | [] => buildL (nI 3 fact) []
  | x :: r => bif x.fact == fact then comp x.to else valL fact r
theorem valL_drop {fact : Int} {l : List Asg} {i : Nat} (h : i < l.length) : valL fact (l.drop i) = bif l[i].fact == fact then comp l[i].to else valL fact (l.drop (i + 1)) := by
  rw [List.drop_eq_getElem_cons h]; rfl
def badEv (a : Act) (ev : Int) : Bool := bif decide (ev < 0) then true else decide (ev ≥ (a.pre.length : Int))
def valI (a : Act) (ev fact : Int) : List Nd × Int :=
  bif aloneI a != 0 then ([], aloneI a) else bif badEv a ev then ([], 6) else bif badF fact then ([], 2) else (valL fact (a.post.getD ev.toNat []), 0)
def pairF (x : List Nd × Int) : PV := .tup [fpv x.1, .int .i64 x.2]
theorem le_nilF (e : Int) : PLe (.tup [.nil, .int .i64 e]) (pairF ([], e)) := PLe.tups ⟨.nil, .refl _, trivial⟩
theorem badEv_no {a : Act} {ev : Int} (h : badEv a ev = false) : ∃ k : Nat, ev = k ∧ k < a.pre.length := by
  unfold badEv at h
  by_cases h1 : ev < 0
  · rw [decide_eq_true h1] at h; cases h
  · by_cases h2 : ev ≥ (a.pre.length : Int)
    · rw [decide_eq_false h1, decide_eq_true h2] at h; cases h
    · exact ⟨ev.toNat, by omega, by omega⟩
theorem ac_Value (a : Act) (ev fact : Int) (hf : Fit a) (hl : a.rel.length ≤ 1000) (hp : ∀ l, l ∈ a.post → l.length ≤ 1000) : PureFn Try.prog 50 [a.pv, .int .i64 ev, .int .i64 fact] (pairF (valI a ev fact)) := by
  refine PureFn.introC [4, 6, 8] mixed (fn := Try.f50) rfl rfl rfl fun M w0 => ?_
  have hA := ac_alone a hf hl hp
  have e1 : ((a.pre.map fpv).length : Int) = (a.pre.length : Int) := by simp
  (try conv=>whnf);repeat' (first|(apply And.intro<;>try conv=>whnf)|(intro h;first|(with_reducible first|exact tf0 h|exact ft0 h|exact nt0 h|exact nf0 h)|exact litz h rfl|(with_reducible first|exact tf h (by assumption)|exact tf (by assumption) h)|try conv=>whnf)|with_reducible rfl|apply True.intro|((first|apply infoT|apply bleI|apply fitI|apply cellsI|apply szI);rfl)|(apply guardI;kernel_rfl)|(apply WhenQ.mk;(try conv=>whnf);rotate_left;(try conv=>whnf);rotate_right)|(with_reducible first|assumption|(apply not_of;assumption)|(apply left_of;assumption)|(apply left_of;apply left_of;assumption)|(apply and_of<;>first|assumption|(apply not_of;assumption)))|(refine lin_plan (by kernel_rfl) ?_;try conv=>whnf)|(refine ⟨_, _, rfl, idx_map (by with_reducible assumption), rfl, ?_⟩;try conv=>whnf)|(refine ⟨rfl, ?_⟩;try conv=>whnf)|exact Nat.le_refl 1|((first|(apply ex3;(focus with_reducible assumption);(focus with_reducible assumption))|(apply ex2;(focus with_reducible assumption)));try conv=>whnf)|fail)
  refine ⟨{ _x : Unit // (aloneI a != 0) = false }, fun _ => [(1, .pv (.int .i64 ev)), (2, .pv (.int .i64 fact)), (3, .ref 0 0)], fun _ => 1, fun _ => [(0, .var (cellsA a))], ?_, ?_⟩
  · (try conv=>whnf);repeat' (first|(apply And.intro<;>try conv=>whnf)|(intro h;first|(with_reducible first|exact tf0 h|exact ft0 h|exact nt0 h|exact nf0 h)|exact litz h rfl|(with_reducible first|exact tf h (by assumption)|exact tf (by assumption) h)|try conv=>whnf)|with_reducible rfl|apply True.intro|((first|apply infoT|apply bleI|apply fitI|apply cellsI|apply szI);rfl)|(apply guardI;kernel_rfl)|(apply WhenQ.mk;(try conv=>whnf);rotate_left;(try conv=>whnf);rotate_right)|(with_reducible first|assumption|(apply not_of;assumption)|(apply left_of;assumption)|(apply left_of;apply left_of;assumption)|(apply and_of<;>first|assumption|(apply not_of;assumption)))|(refine lin_plan (by kernel_rfl) ?_;try conv=>whnf)|(refine ⟨_, _, rfl, idx_map (by with_reducible assumption), rfl, ?_⟩;try conv=>whnf)|(refine ⟨rfl, ?_⟩;try conv=>whnf)|exact Nat.le_refl 1|((first|(apply ex3;(focus with_reducible assumption);(focus with_reducible assumption))|(apply ex2;(focus with_reducible assumption)));try conv=>whnf)|(refine PureFn.dcq (f := 79) rfl ?_;try conv=>whnf)|((refine ⟨_, _, hA, ?_, ?_⟩);(focus (first|(refine ⟨?_, trivial⟩<;>first|exact PLe.refl _|exact PLe.nil)|exact trivial));try conv=>whnf)|(refine ⟨_, (by (conv=>whnf);exact hA), rfl, ?_⟩;try conv=>whnf)|fail)
    · rw [valI, h]; exact le_nilF _
    · exact ⟨⟨(), h⟩, (by refine Wk.of ?_ ?_ rfl rfl rfl<;>(repeat' (first|exact trivial|exact WkD.same _|exact WkO.same _ _ rfl|exact WkD.any _|(apply WkD.nil;first|exact Or.inl rfl|exact Or.inr rfl)|(exact WkD.fz _ _ _ rfl (Or.inl ⟨_, rfl⟩) rfl)|(exact WkD.fz _ _ _ rfl (Or.inr rfl) rfl)|refine WkD.int ?_|exact WkD.new' rfl rfl rfl|exact WkO.new _ _ rfl|refine WkO.vars rfl ?_|with_reducible rfl|exact rfl|refine ⟨?_, ?_⟩|((refine wrapA ?_ ?_ ?_);(focus simp;done);(focus (try dsimp only);omega);(focus (try dsimp only);omega))|fail)))⟩
  rintro ⟨_, h0⟩
  refine ⟨{ _x : Unit // badEv a ev = false }, fun _ => [(1, .pv (.int .i64 ev)), (2, .pv (.int .i64 fact)), (3, .ref 0 0)], fun _ => 1, fun _ => [(0, .var (cellsA a))], ?_, ?_⟩
  · (try conv=>whnf);repeat' (first|(apply And.intro<;>try conv=>whnf)|(intro h;first|(with_reducible first|exact tf0 h|exact ft0 h|exact nt0 h|exact nf0 h)|exact litz h rfl|(with_reducible first|exact tf h (by assumption)|exact tf (by assumption) h)|try conv=>whnf)|with_reducible rfl|apply True.intro|((first|apply infoT|apply bleI|apply fitI|apply cellsI|apply szI);rfl)|(apply guardI;kernel_rfl)|(apply WhenQ.mk;(try conv=>whnf);rotate_left;(try conv=>whnf);rotate_right)|(with_reducible first|assumption|(apply not_of;assumption)|(apply left_of;assumption)|(apply left_of;apply left_of;assumption)|(apply and_of<;>first|assumption|(apply not_of;assumption)))|(refine lin_plan (by kernel_rfl) ?_;try conv=>whnf)|(refine ⟨_, _, rfl, idx_map (by with_reducible assumption), rfl, ?_⟩;try conv=>whnf)|(refine ⟨rfl, ?_⟩;try conv=>whnf)|exact Nat.le_refl 1|((first|(apply ex3;(focus with_reducible assumption);(focus with_reducible assumption))|(apply ex2;(focus with_reducible assumption)));try conv=>whnf)|fail)
    · have hb : badEv a ev = true := by rw [badEv, ← e1]; exact h
      rw [valI, h0, hb]; exact le_nilF _
    · exact ⟨⟨(), by rw [badEv, ← e1]; exact h⟩, (by refine Wk.of ?_ ?_ rfl rfl rfl<;>(repeat' (first|exact trivial|exact WkD.same _|exact WkO.same _ _ rfl|exact WkD.any _|(apply WkD.nil;first|exact Or.inl rfl|exact Or.inr rfl)|(exact WkD.fz _ _ _ rfl (Or.inl ⟨_, rfl⟩) rfl)|(exact WkD.fz _ _ _ rfl (Or.inr rfl) rfl)|refine WkD.int ?_|exact WkD.new' rfl rfl rfl|exact WkO.new _ _ rfl|refine WkO.vars rfl ?_|with_reducible rfl|exact rfl|refine ⟨?_, ?_⟩|((refine wrapA ?_ ?_ ?_);(focus simp;done);(focus (try dsimp only);omega);(focus (try dsimp only);omega))|fail)))⟩
  rintro ⟨_, h1⟩
  refine ⟨{ _x : Unit // badF fact = false }, fun _ => [(1, .pv (.int .i64 ev)), (2, .pv (.int .i64 fact)), (3, .ref 0 0)], fun _ => 1, fun _ => [(0, .var (cellsA a))], ?_, ?_⟩
  · (try conv=>whnf);repeat' (first|(apply And.intro<;>try conv=>whnf)|(intro h;first|(with_reducible first|exact tf0 h|exact ft0 h|exact nt0 h|exact nf0 h)|exact litz h rfl|(with_reducible first|exact tf h (by assumption)|exact tf (by assumption) h)|try conv=>whnf)|with_reducible rfl|apply True.intro|((first|apply infoT|apply bleI|apply fitI|apply cellsI|apply szI);rfl)|(apply guardI;kernel_rfl)|(apply WhenQ.mk;(try conv=>whnf);rotate_left;(try conv=>whnf);rotate_right)|(with_reducible first|assumption|(apply not_of;assumption)|(apply left_of;assumption)|(apply left_of;apply left_of;assumption)|(apply and_of<;>first|assumption|(apply not_of;assumption)))|(refine lin_plan (by kernel_rfl) ?_;try conv=>whnf)|(refine ⟨_, _, rfl, idx_map (by with_reducible assumption), rfl, ?_⟩;try conv=>whnf)|(refine ⟨rfl, ?_⟩;try conv=>whnf)|exact Nat.le_refl 1|((first|(apply ex3;(focus with_reducible assumption);(focus with_reducible assumption))|(apply ex2;(focus with_reducible assumption)));try conv=>whnf)|fail)
    · rw [valI, h0, h1, show badF fact = true from h]; exact le_nilF _
    · exact ⟨⟨(), h⟩, (by refine Wk.of ?_ ?_ rfl rfl rfl<;>(repeat' (first|exact trivial|exact WkD.same _|exact WkO.same _ _ rfl|exact WkD.any _|(apply WkD.nil;first|exact Or.inl rfl|exact Or.inr rfl)|(exact WkD.fz _ _ _ rfl (Or.inl ⟨_, rfl⟩) rfl)|(exact WkD.fz _ _ _ rfl (Or.inr rfl) rfl)|refine WkD.int ?_|exact WkD.new' rfl rfl rfl|exact WkO.new _ _ rfl|refine WkO.vars rfl ?_|with_reducible rfl|exact rfl|refine ⟨?_, ?_⟩|((refine wrapA ?_ ?_ ?_);(focus simp;done);(focus (try dsimp only);omega);(focus (try dsimp only);omega))|fail)))⟩
  rintro ⟨_, h2⟩
  have hv : valI a ev fact = (valL fact (a.post.getD ev.toNat []), 0) := by rw [valI, h0, h1, h2]; rfl
  obtain ⟨k, rfl, hk⟩ := badEv_no h1
  have hO := actI_ok (show aloneI a = 0 by simpa using h0)
  have hk2 : k < a.post.length := by rw [hO.post]; exact hk
  have hn : a.post[k]? = some a.post[k] := List.getElem?_eq_getElem hk2
  have hlp := hp _ (List.getElem_mem hk2)
  rw [hv, show a.post.getD (k : Int).toNat [] = a.post[k] by rw [Int.toNat_natCast, List.getD_eq_getElem?_getD, hn]; rfl]
  generalize a.post[k] = l at hn hlp
  (try conv=>whnf);repeat' (first|(apply And.intro<;>try conv=>whnf)|(intro h;first|(with_reducible first|exact tf0 h|exact ft0 h|exact nt0 h|exact nf0 h)|exact litz h rfl|(with_reducible first|exact tf h (by assumption)|exact tf (by assumption) h)|try conv=>whnf)|with_reducible rfl|apply True.intro|((first|apply infoT|apply bleI|apply fitI|apply cellsI|apply szI);rfl)|(apply guardI;kernel_rfl)|(apply WhenQ.mk;(try conv=>whnf);rotate_left;(try conv=>whnf);rotate_right)|(with_reducible first|assumption|(apply not_of;assumption)|(apply left_of;assumption)|(apply left_of;apply left_of;assumption)|(apply and_of<;>first|assumption|(apply not_of;assumption)))|(refine lin_plan (by kernel_rfl) ?_;try conv=>whnf)|(refine ⟨_, _, rfl, idx_map (by with_reducible assumption), rfl, ?_⟩;try conv=>whnf)|(refine ⟨rfl, ?_⟩;try conv=>whnf)|exact Nat.le_refl 1|((first|(apply ex3;(focus with_reducible assumption);(focus with_reducible assumption))|(apply ex2;(focus with_reducible assumption)));try conv=>whnf)|fail)
  refine ⟨{ i : Nat // i ≤ l.length ∧ valL fact l = valL fact (l.drop i) }, fun i => [(2, .pv (.int .i64 fact)), (35, .pv (postPV l)), (36, .pv (i64 (l.map Asg.pv).length)), (37, .pv (i64 i.1))], fun _ => 1, fun _ => [(0, .var (cellsA a))], fun i => l.length - i.1, ⟨⟨0, Nat.zero_le _, rfl⟩, (by refine Wk.of ?_ ?_ rfl rfl rfl<;>(repeat' (first|exact trivial|exact WkD.same _|exact WkO.same _ _ rfl|exact WkD.any _|(apply WkD.nil;first|exact Or.inl rfl|exact Or.inr rfl)|(exact WkD.fz _ _ _ rfl (Or.inl ⟨_, rfl⟩) rfl)|(exact WkD.fz _ _ _ rfl (Or.inr rfl) rfl)|refine WkD.int ?_|exact WkD.new' rfl rfl rfl|exact WkO.new _ _ rfl|refine WkO.vars rfl ?_|with_reducible rfl|exact rfl|refine ⟨?_, ?_⟩|((refine wrapA ?_ ?_ ?_);(focus simp;done);(focus (try dsimp only);omega);(focus (try dsimp only);omega))|fail)))⟩, ?_⟩
  rintro ⟨i, hi, he⟩
  (try conv=>whnf);repeat' (first|(apply And.intro<;>try conv=>whnf)|(intro h;first|(with_reducible first|exact tf0 h|exact ft0 h|exact nt0 h|exact nf0 h)|exact litz h rfl|(with_reducible first|exact tf h (by assumption)|exact tf (by assumption) h)|try conv=>whnf)|with_reducible rfl|apply True.intro|((first|apply infoT|apply bleI|apply fitI|apply cellsI|apply szI);rfl)|(apply guardI;kernel_rfl)|(apply WhenQ.mk;(try conv=>whnf);rotate_left;(try conv=>whnf);rotate_right)|(with_reducible first|assumption|(apply not_of;assumption)|(apply left_of;assumption)|(apply left_of;apply left_of;assumption)|(apply and_of<;>first|assumption|(apply not_of;assumption)))|(refine lin_plan (by kernel_rfl) ?_;try conv=>whnf)|(refine ⟨_, _, rfl, idx_map (by with_reducible assumption), rfl, ?_⟩;try conv=>whnf)|(refine ⟨rfl, ?_⟩;try conv=>whnf)|exact Nat.le_refl 1|((first|(apply ex3;(focus with_reducible assumption);(focus with_reducible assumption))|(apply ex2;(focus with_reducible assumption)));try conv=>whnf)|fail)
  · have hi' : i < l.length := by simpa using lt_dec h
    have hm : l[i]? = some l[i] := List.getElem?_eq_getElem hi'
    have hd := valL_drop (fact := fact) hi'
    have hC := fm_Compact l[i].to
    refine ⟨_, _, rfl, idx_map hm, rfl, ?_⟩
    (try conv=>whnf);repeat' (first|(apply And.intro<;>try conv=>whnf)|(intro h;first|(with_reducible first|exact tf0 h|exact ft0 h|exact nt0 h|exact nf0 h)|exact litz h rfl|(with_reducible first|exact tf h (by assumption)|exact tf (by assumption) h)|try conv=>whnf)|with_reducible rfl|apply True.intro|((first|apply infoT|apply bleI|apply fitI|apply cellsI|apply szI);rfl)|(apply guardI;kernel_rfl)|(apply WhenQ.mk;(try conv=>whnf);rotate_left;(try conv=>whnf);rotate_right)|(with_reducible first|assumption|(apply not_of;assumption)|(apply left_of;assumption)|(apply left_of;apply left_of;assumption)|(apply and_of<;>first|assumption|(apply not_of;assumption)))|(refine lin_plan (by kernel_rfl) ?_;try conv=>whnf)|(refine ⟨_, _, rfl, idx_map (by with_reducible assumption), rfl, ?_⟩;try conv=>whnf)|(refine ⟨rfl, ?_⟩;try conv=>whnf)|exact Nat.le_refl 1|((first|(apply ex3;(focus with_reducible assumption);(focus with_reducible assumption))|(apply ex2;(focus with_reducible assumption)));try conv=>whnf)|(refine PureFn.dcq (f := 74) rfl ?_;try conv=>whnf)|((refine ⟨_, _, hC, ?_, ?_⟩);(focus (first|(refine ⟨?_, trivial⟩<;>first|exact PLe.refl _|exact PLe.nil)|exact trivial));try conv=>whnf)|(refine ⟨_, (by (conv=>whnf);exact hC), rfl, ?_⟩;try conv=>whnf)|fail)
    · rw [he, hd, show (l[i].fact == fact) = true from h]; exact .refl _
    · exact ⟨⟨i + 1, hi', by rw [he, hd, show (l[i].fact == fact) = false from h]; rfl⟩, by show l.length - (i + 1) < l.length - i; omega, (by refine Wk.of ?_ ?_ rfl rfl rfl<;>(repeat' (first|exact trivial|exact WkD.same _|exact WkO.same _ _ rfl|exact WkD.any _|(apply WkD.nil;first|exact Or.inl rfl|exact Or.inr rfl)|(exact WkD.fz _ _ _ rfl (Or.inl ⟨_, rfl⟩) rfl)|(exact WkD.fz _ _ _ rfl (Or.inr rfl) rfl)|refine WkD.int ?_|exact WkD.new' rfl rfl rfl|exact WkO.new _ _ rfl|refine WkO.vars rfl ?_|with_reducible rfl|exact rfl|refine ⟨?_, ?_⟩|((refine wrapA ?_ ?_ ?_);(focus simp;done);(focus (try dsimp only);omega);(focus (try dsimp only);omega))|fail)))⟩
  · have hi' : i = l.length := by have := ge_dec (m := (l.map Asg.pv).length) h (by simpa using hi); simpa using this
    have hF := fm_Fact fact
    (try conv=>whnf);repeat' (first|(apply And.intro<;>try conv=>whnf)|(intro h;first|(with_reducible first|exact tf0 h|exact ft0 h|exact nt0 h|exact nf0 h)|exact litz h rfl|(with_reducible first|exact tf h (by assumption)|exact tf (by assumption) h)|try conv=>whnf)|with_reducible rfl|apply True.intro|((first|apply infoT|apply bleI|apply fitI|apply cellsI|apply szI);rfl)|(apply guardI;kernel_rfl)|(apply WhenQ.mk;(try conv=>whnf);rotate_left;(try conv=>whnf);rotate_right)|(with_reducible first|assumption|(apply not_of;assumption)|(apply left_of;assumption)|(apply left_of;apply left_of;assumption)|(apply and_of<;>first|assumption|(apply not_of;assumption)))|(refine lin_plan (by kernel_rfl) ?_;try conv=>whnf)|(refine ⟨_, _, rfl, idx_map (by with_reducible assumption), rfl, ?_⟩;try conv=>whnf)|(refine ⟨rfl, ?_⟩;try conv=>whnf)|exact Nat.le_refl 1|((first|(apply ex3;(focus with_reducible assumption);(focus with_reducible assumption))|(apply ex2;(focus with_reducible assumption)));try conv=>whnf)|(refine PureFn.dcq (f := 23) rfl ?_;try conv=>whnf)|((refine ⟨_, _, hF, ?_, ?_⟩);(focus (first|(refine ⟨?_, trivial⟩<;>first|exact PLe.refl _|exact PLe.nil)|exact trivial));try conv=>whnf)|(refine ⟨_, (by (conv=>whnf);exact hF), rfl, ?_⟩;try conv=>whnf)|fail)
    rw [he, hi', List.drop_length]; exact .refl _
end Go.Proofs.Ytnbnkgcjgfmlcaa
set_option maxRecDepth 100000
set_option maxHeartbeats 4000000
namespace Go.Proofs.Ytnbnkgcjgfmlcaa
open Go Go.Dv

/-! the program's rounds -/
def orA (rel : List (List Nat)) (e : Nat) : Nat → Nat
  | 0 => 0
  | i + 1 => orA rel e i ||| (rel.getD i []).getD e 0
def inP (rel : List (List Nat)) (b e s i : Nat) : Nat := bif b.testBit e then s ||| orA rel e i else s
/-- Relations over n events. -/
def Rel (rel : List (List Nat)) (n : Nat) : Prop := (∀ r, r ∈ rel → r.length = n) ∧ ∀ r, r ∈ rel → ∀ s, s ∈ r → s < 2 ^ n
theorem rel_get {rel : List (List Nat)} {n i e : Nat} (h : Rel rel n) : (rel.getD i []).getD e 0 < 2 ^ n := by
  rw [List.getD_eq_getElem?_getD, List.getD_eq_getElem?_getD]
  cases h1 : rel[i]? with
  | none => simp; exact Nat.two_pow_pos _
  | some r =>
    simp only [Option.getD_some]
    cases h2 : r[e]? with
    | none => simp; exact Nat.two_pow_pos _
    | some s => exact h.2 r (List.mem_iff_getElem?.2 ⟨i, h1⟩) s (List.mem_iff_getElem?.2 ⟨e, h2⟩)
theorem orA_lt {rel : List (List Nat)} {n e : Nat} (h : Rel rel n) : ∀ i, orA rel e i < 2 ^ n
  | 0 => Nat.two_pow_pos _
  | i + 1 => Nat.or_lt_two_pow (orA_lt h i) (rel_get h)
theorem inP_lt {rel : List (List Nat)} {n b e s i : Nat} (h : Rel rel n) (hs : s < 2 ^ n) : inP rel b e s i < 2 ^ n := by
  unfold inP
  cases b.testBit e with
  | true => exact Nat.or_lt_two_pow hs (orA_lt h i)
  | false => exact hs
/-! sets of bits -/
def Sub (a b : Nat) : Prop := ∀ i, a.testBit i = true → b.testBit i = true
theorem sub_or {a b : Nat} : Sub a (a ||| b) := fun i h => by rw [Nat.testBit_or, h]; rfl
theorem Sub.trans {a b c : Nat} (h : Sub a b) (g : Sub b c) : Sub a c := fun i hi => g i (h i hi)
theorem or_sub {a b c : Nat} (h : Sub a c) (g : Sub b c) : Sub (a ||| b) c := fun i hi => by
  rw [Nat.testBit_or] at hi
  cases q : a.testBit i with
  | true => exact h i q
  | false => rw [q] at hi; exact g i (by simpa using hi)
theorem sub_antisymm {a b : Nat} (h : Sub a b) (g : Sub b a) : a = b := Nat.eq_of_testBit_eq fun i => by
  cases q : a.testBit i with
  | true => exact (h i q).symm
  | false =>
    cases r : b.testBit i with
    | false => rfl
    | true => rw [g i r] at q; cases q
def card (n s : Nat) : Nat := ((List.range n).filter fun e => s.testBit e).length
theorem card_le (n s : Nat) : card n s ≤ n := by
  have := List.length_filter_le (fun e => s.testBit e) (List.range n)
  rw [List.length_range] at this; exact this
theorem card_mono {s t : Nat} (h : Sub s t) : ∀ n, card n s ≤ card n t
  | 0 => Nat.le_refl _
  | n + 1 => by
    have ih := card_mono h n
    unfold card at *
    rw [List.range_succ, List.filter_append, List.filter_append, List.length_append, List.length_append]
    cases q : s.testBit n with
    | true => simp [q, h n q]; exact ih
    | false => simp [q]; omega
theorem card_lt {s t : Nat} (h : Sub s t) {e : Nat} (h1 : s.testBit e = false) (h2 : t.testBit e = true) : ∀ n, e < n → card n s < card n t
  | 0, h => by omega
  | n + 1, he => by
    unfold card
    rw [List.range_succ, List.filter_append, List.filter_append, List.length_append, List.length_append]
    by_cases q : e = n
    · subst q
      have := card_mono h e
      unfold card at this
      simp [h1, h2]; omega
    · have := card_lt h h1 h2 n (by omega)
      unfold card at this
      cases q : s.testBit n with
      | true => simp [q, h n q]; exact this
      | false => simp [q]; omega
theorem bit_lt {s n i : Nat} (hs : s < 2 ^ n) (h : s.testBit i = true) : i < n := by
  rcases Nat.lt_or_ge i n with q | q
  · exact q
  · rw [Nat.testBit_lt_two_pow (Nat.lt_of_lt_of_le hs (Nat.pow_le_pow_right (by decide) q))] at h; cases h
theorem card_grow {s t n : Nat} (h : Sub s t) (hne : s ≠ t) (ht : t < 2 ^ n) : card n s < card n t := by
  have : ∃ e, s.testBit e = false ∧ t.testBit e = true := Classical.byContradiction fun hn => hne (sub_antisymm h fun i hi => by
    cases q : s.testBit i with
    | true => rfl
    | false => exact absurd ⟨i, q, hi⟩ hn)
  obtain ⟨e, h1, h2⟩ := this
  exact card_lt h h1 h2 n (bit_lt ht h2)
/-- A growing sequence of sets of fewer than n + 1 elements stops. -/
theorem grow_stops {n : Nat} {f : Nat → Nat} (q : Nat → Nat) (hq : ∀ k, q (k + 1) = f (q k)) (hlt : ∀ k, q k < 2 ^ n) (hsub : ∀ k, Sub (q k) (q (k + 1))) (h0 : q 0 ≠ 0) :
    ∀ k, q k = q (k + 1) ∨ k + 2 ≤ card n (q (k + 1)) := by
  have hc0 : 1 ≤ card n (q 0) := by
    have : card n 0 < card n (q 0) := card_grow (fun i hi => by rw [Nat.zero_testBit] at hi; cases hi) (fun e => h0 e.symm) (hlt 0)
    omega
  intro k
  induction k with
  | zero =>
    by_cases e : q 0 = q 1
    · exact .inl e
    · have := card_grow (hsub 0) e (hlt 1); exact .inr (by omega)
  | succ k ih =>
    by_cases e : q (k + 1) = q (k + 2)
    · exact .inl e
    · rcases ih with h | h
      · exact absurd (by rw [hq (k + 1), ← h, ← hq k]; exact h) e
      · have := card_grow (hsub (k + 1)) e (hlt (k + 2)); exact .inr (by omega)
theorem inP_sub {rel : List (List Nat)} {b e s i : Nat} : Sub s (inP rel b e s i) := by
  unfold inP
  cases b.testBit e with
  | true => exact sub_or
  | false => exact fun _ h => h
/-! the part -/
end Go.Proofs.Ytnbnkgcjgfmlcaa
set_option maxRecDepth 100000
set_option maxHeartbeats 4000000
namespace Go.Proofs.Ytnbnkgcjgfmlcaa
open Go Go.Dv

theorem getD_mem {α : Type} {l : List α} {i : Nat} {d : α} (h : i < l.length) : l[i]? = some (l.getD i d) := by rw [List.getD_eq_getElem?_getD, List.getElem?_eq_getElem h]; rfl
end Go.Proofs.Ytnbnkgcjgfmlcaa
