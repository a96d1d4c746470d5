/- Formulas: build. -/
import Derived.Test.YtlmgodcfjaagpaaFm
set_option maxRecDepth 100000
set_option maxHeartbeats 4000000
namespace Go.Proofs.Ytlmgodcfjaagpaa
open Go Go.Dv

def shX (k : Nat) (n : Nd) : Nd := bif usesX n.op then { n with x := n.x + k } else n
def shN (k : Nat) (n : Nd) : Nd := bif usesY n.op then { shX k n with y := n.y + k } else shX k n
def bstep (k : Nat) (s : Nd × List Nd) (o : List Nd) : Nd × List Nd :=
  (bif (k : Int) == 0 then { s.1 with x := ((s.2 ++ (comp o).map (shN s.2.length)).length : Int) - 1 } else { s.1 with y := ((s.2 ++ (comp o).map (shN s.2.length)).length : Int) - 1 }, s.2 ++ (comp o).map (shN s.2.length))
def bfold : Nat → List (List Nd) → Nd × List Nd → Option (Nd × List Nd)
  | _, [], s => some s
  | k, o :: r, s => bif check o != 0 then none else bfold (k + 1) r (bstep k s o)
def bfin (s : Nd × List Nd) : List Nd :=
  bif nodeErr s.1 s.2.length != 0 then [] else bif decide (((canon (s.2 ++ [s.1]) s.2.length).length : Int) > 200) then [] else canon (s.2 ++ [s.1]) s.2.length
def buildL (x : Nd) (l : List (List Nd)) : List Nd := match bfold 0 l (x, []) with | none => [] | some s => bfin s

theorem shX_op (k : Nat) (n : Nd) : (shX k n).op = n.op := by unfold shX; cases usesX n.op <;> rfl
theorem shX_y (k : Nat) (n : Nd) : (shX k n).y = n.y := by unfold shX; cases usesX n.op <;> rfl
theorem sh_ok {n : Nd} {i : Int} {k : Nat} (h : OkNd n i) : OkNd (shN k n) (k + i) := by
  have e1 : (shN k n).op = n.op := by unfold shN shX; cases usesX n.op <;> cases usesY n.op <;> rfl
  have e2 : (shN k n).i = n.i := by unfold shN shX; cases usesX n.op <;> cases usesY n.op <;> rfl
  have e3 : (shN k n).e = n.e := by unfold shN shX; cases usesX n.op <;> cases usesY n.op <;> rfl
  have e4 : (shN k n).g = n.g := by unfold shN shX; cases usesX n.op <;> cases usesY n.op <;> rfl
  have e5 : (shN k n).x = bif usesX n.op then n.x + k else n.x := by unfold shN shX; cases usesX n.op <;> cases usesY n.op <;> rfl
  have e6 : (shN k n).y = bif usesY n.op then n.y + k else n.y := by unfold shN shX; cases usesX n.op <;> cases usesY n.op <;> rfl
  constructor
  · rw [e1]; exact h.op
  · rw [e1, e5]; intro u; rw [u]; have := h.x u; simp only [cond_true]; omega
  · rw [e1, e5]; intro u; rw [u]; exact h.nox u
  · rw [e1, e6]; intro u; rw [u]; have := h.y u; simp only [cond_true]; omega
  · rw [e1, e6]; intro u; rw [u]; exact h.noy u
  · rw [e1, e2]; exact h.fact
  · rw [e1, e2]; exact h.agent
  · rw [e1, e2, e3]; exact h.act
  · rw [e1, e2]; exact h.noi
  · rw [e1, e3]; exact h.noe
  · rw [e1, e4]; exact h.group
  · rw [e1, e4]; exact h.nog
theorem okl_append {F c : List Nd} (hF : Okl F) (hc : Okl c) : Okl (F ++ c.map (shN F.length)) := by
  intro i x hx
  rcases Nat.lt_or_ge i F.length with h | h
  · rw [List.getElem?_append_left h] at hx; exact hF i x hx
  · rw [List.getElem?_append_right h, List.getElem?_map] at hx
    cases hy : c[i - F.length]? with
    | none => rw [hy] at hx; simp at hx
    | some y =>
      rw [hy] at hx; simp at hx; subst hx
      have := sh_ok (k := F.length) (hc _ y hy)
      rwa [show ((F.length : Int) + ((i - F.length : Nat) : Int)) = (i : Int) by omega] at this
theorem okl_snoc {F : List Nd} {x : Nd} (hF : Okl F) (hx : OkNd x F.length) : Okl (F ++ [x]) := by
  intro i y hy
  rcases Nat.lt_or_ge i F.length with h | h
  · rw [List.getElem?_append_left h] at hy; exact hF i y hy
  · rw [List.getElem?_append_right h] at hy
    have : i = F.length := by
      have := (List.getElem?_eq_some_iff.1 hy).1
      simp at this; omega
    subst this
    simp at hy; subst hy; exact hx

def shL (F c : List Nd) (j : Nat) : List PV := F.map Nd.pv ++ (c.take j).map fun n => (shN F.length n).pv
theorem shL_zero (F c : List Nd) : F.map Nd.pv = shL F c 0 := by simp [shL]
theorem shL_succ {F c : List Nd} {j : Nat} (h : j < c.length) : shL F c j ++ [(shN F.length c[j]).pv] = shL F c (j + 1) := by
  simp only [shL]
  rw [List.take_succ_eq_append_getElem h, List.map_append, List.append_assoc]; rfl
theorem shL_end (F c : List Nd) : shL F c c.length = (F ++ c.map (shN F.length)).map Nd.pv := by
  simp [shL, List.map_append, List.map_map, Function.comp_def]
theorem shL_len {F c : List Nd} {j : Nat} (h : j ≤ c.length) : (shL F c j).length = F.length + j := by
  simp only [shL, List.length_append, List.length_map, List.length_take]; omega

theorem bstep_t {k : Nat} {y : Nd} {F o : List Nd} (h : ((k : Int) == 0) = true) : bstep k (y, F) o = ({ y with x := ((F ++ (comp o).map (shN F.length)).length : Int) - 1 }, F ++ (comp o).map (shN F.length)) := by rw [bstep, h]; rfl
theorem bstep_f {k : Nat} {y : Nd} {F o : List Nd} (h : ((k : Int) == 0) = false) : bstep k (y, F) o = ({ y with y := ((F ++ (comp o).map (shN F.length)).length : Int) - 1 }, F ++ (comp o).map (shN F.length)) := by rw [bstep, h]; rfl
theorem fm_build (x : Nd) (l : List (List Nd)) (hl : l.length ≤ 2) : PureFn Try.prog 85 [x.pv, .sl (l.map fpv)] (fpv (buildL x l)) := by
  refine PureFn.introC [14, 16] mixed (fn := Try.f85) rfl rfl rfl fun M w0 => ?_
  (try (conv => whnf)); repeat' (first | (apply And.intro <;> (try (conv => whnf))) | (intro h; first | (with_reducible exact tf0 h) | (with_reducible exact ft0 h) | (with_reducible exact nt0 h) | (with_reducible exact nf0 h) | (exact litz h rfl) | (with_reducible exact tf h (by with_reducible assumption)) | (with_reducible exact tf (by with_reducible assumption) h) | (try (conv => whnf))) | (with_reducible rfl) | (apply True.intro) | (apply infoT; rfl) | (apply bleI; rfl) | (apply fitI; rfl) | (apply cellsI; rfl) | (apply szI; rfl) | (apply guardI; kernel_rfl) | (apply WhenQ.mk; (try (conv => whnf)); rotate_left; (try (conv => whnf)); rotate_right) | (with_reducible assumption) | (apply not_of; with_reducible assumption) | (apply left_of; with_reducible assumption) | (apply left_of; apply left_of; with_reducible assumption) | (apply and_of <;> first | (with_reducible assumption) | (apply not_of; with_reducible assumption))| (refine lin_plan (by kernel_rfl) ?_; (try (conv => whnf))) | (refine ⟨_, _, rfl, idx_map (by with_reducible assumption), rfl, ?_⟩; (try (conv => whnf))) | (refine ⟨rfl, ?_⟩; (try (conv => whnf))) | fail)
  refine ⟨{ q : Nat × Nd × List Nd // q.1 ≤ l.length ∧ bfold 0 l (x, []) = bfold q.1 (l.drop q.1) q.2 ∧ Okl q.2.2 ∧ q.2.2.length ≤ 200 * q.1 },
    fun q => [(2, .ref 0 0), (5, .buf 1 (q.1.2.2.map Nd.pv).length), (14, .pv (.sl (l.map fpv))), (15, .pv (.int .i64 (l.map fpv).length)), (16, .pv (.int .i64 (q.1.1 : Nat)))], fun _ => 2,
    fun q => [(0, .var q.1.2.1.dvs), (1, .arr 6 (q.1.2.2.map Nd.pv))], fun q => l.length - q.1.1, ⟨⟨(0, x, []), Nat.zero_le _, rfl, (fun i x h => by simp at h), Nat.zero_le _⟩, (by refine Wk.of ?_ ?_ rfl rfl rfl <;> (repeat' (first | (exact trivial) | (exact WkD.same _) | (exact WkO.same _ _ rfl) | (exact WkD.any _) | (refine WkD.int ?_) | (exact WkD.new' rfl rfl rfl) | (exact WkO.new _ _ rfl) | (refine WkO.vars rfl ?_) | (with_reducible rfl) | (exact rfl) | (refine ⟨?_, ?_⟩) | ((refine wrapA ?_ ?_ ?_); (focus (simp; done)); (focus ((try dsimp only); omega)); (focus ((try dsimp only); omega))) | fail)))⟩, ?_⟩
  rintro ⟨⟨k, y, F⟩, hk, he, hF, hFl⟩
  simp only at hk he hF hFl
  (try (conv => whnf)); repeat' (first | (apply And.intro <;> (try (conv => whnf))) | (intro h; first | (with_reducible exact tf0 h) | (with_reducible exact ft0 h) | (with_reducible exact nt0 h) | (with_reducible exact nf0 h) | (exact litz h rfl) | (with_reducible exact tf h (by with_reducible assumption)) | (with_reducible exact tf (by with_reducible assumption) h) | (try (conv => whnf))) | (with_reducible rfl) | (apply True.intro) | (apply infoT; rfl) | (apply bleI; rfl) | (apply fitI; rfl) | (apply cellsI; rfl) | (apply szI; rfl) | (apply guardI; kernel_rfl) | (apply WhenQ.mk; (try (conv => whnf)); rotate_left; (try (conv => whnf)); rotate_right) | (with_reducible assumption) | (apply not_of; with_reducible assumption) | (apply left_of; with_reducible assumption) | (apply left_of; apply left_of; with_reducible assumption) | (apply and_of <;> first | (with_reducible assumption) | (apply not_of; with_reducible assumption))| (refine lin_plan (by kernel_rfl) ?_; (try (conv => whnf))) | (refine ⟨_, _, rfl, idx_map (by with_reducible assumption), rfl, ?_⟩; (try (conv => whnf))) | (refine ⟨rfl, ?_⟩; (try (conv => whnf))) | fail)
  · have hk' : k < l.length := by simpa using h
    obtain ⟨o, ho⟩ : ∃ o, l[k]? = some o := ⟨_, List.getElem?_eq_getElem hk'⟩
    have hd : l.drop k = o :: l.drop (k + 1) := by
      rw [List.drop_eq_getElem_cons hk']
      rw [List.getElem?_eq_getElem hk'] at ho
      rw [Option.some.inj ho]
    rw [hd] at he
    have hol := comp_len o
    (try (conv => whnf)); repeat' (first | (apply And.intro <;> (try (conv => whnf))) | (intro h; first | (with_reducible exact tf0 h) | (with_reducible exact ft0 h) | (with_reducible exact nt0 h) | (with_reducible exact nf0 h) | (exact litz h rfl) | (with_reducible exact tf h (by with_reducible assumption)) | (with_reducible exact tf (by with_reducible assumption) h) | (try (conv => whnf))) | (with_reducible rfl) | (apply True.intro) | (apply infoT; rfl) | (apply bleI; rfl) | (apply fitI; rfl) | (apply cellsI; rfl) | (apply szI; rfl) | (apply guardI; kernel_rfl) | (apply WhenQ.mk; (try (conv => whnf)); rotate_left; (try (conv => whnf)); rotate_right) | (with_reducible assumption) | (apply not_of; with_reducible assumption) | (apply left_of; with_reducible assumption) | (apply left_of; apply left_of; with_reducible assumption) | (apply and_of <;> first | (with_reducible assumption) | (apply not_of; with_reducible assumption))| (refine lin_plan (by kernel_rfl) ?_; (try (conv => whnf))) | (refine ⟨_, _, rfl, idx_map (by with_reducible assumption), rfl, ?_⟩; (try (conv => whnf))) | (refine ⟨rfl, ?_⟩; (try (conv => whnf))) | (refine PureFn.dcq (f := 12) rfl ?_; (try (conv => whnf))) | (refine PureFn.dcq (f := 25) rfl ?_; (try (conv => whnf))) | ((refine ⟨_, _, fm_Check ?_, ?_, ?_⟩); rotate_left 1; (focus (first | (refine ⟨?_, trivial⟩ <;> first | (exact PLe.refl _) | (exact PLe.nil)) | (exact trivial))); (try (conv => whnf))) | (refine ⟨_, (by (conv => whnf); exact fm_Check _), rfl, ?_⟩; (try (conv => whnf))) | ((refine ⟨_, _, fm_Compact ?_, ?_, ?_⟩); rotate_left 1; (focus (first | (refine ⟨?_, trivial⟩ <;> first | (exact PLe.refl _) | (exact PLe.nil)) | (exact trivial))); (try (conv => whnf))) | (refine ⟨_, (by (conv => whnf); exact fm_Compact _), rfl, ?_⟩; (try (conv => whnf))) | fail)
    · have hb : bfold 0 l (x, []) = none := by rw [he]; simp only [bfold, h]; rfl
      have : buildL x l = [] := by rw [buildL, hb]
      rw [this]; exact .nil
    · have hb : bfold 0 l (x, []) = bfold (k + 1) (l.drop (k + 1)) (bstep k (y, F) o) := by rw [he]; simp only [bfold, h]; rfl
      have hz := shL_zero F (comp o)
      refine ⟨{ j : Nat // j ≤ (comp o).length }, fun j => [(2, .ref 0 0), (5, .buf 1 (shL F (comp o) j.1).length), (6, .pv (.int .i64 (k : Nat))), (8, .pv (.int .i64 (F.map Nd.pv).length)), (14, .pv (.sl (l.map fpv))), (15, .pv (.int .i64 (l.map fpv).length)), (16, .pv (.int .i64 (k : Nat))), (27, .pv (fpv (comp o))), (28, .pv (.int .i64 ((comp o).map Nd.pv).length)), (29, .pv (.int .i64 (j.1 : Nat)))], fun _ => 2,
        fun j => [(0, .var y.dvs), (1, .arr 6 (shL F (comp o) j.1))], fun j => (comp o).length - j.1, ⟨⟨0, Nat.zero_le _⟩, (by refine Wk.of ?_ ?_ rfl rfl rfl <;> (repeat' (first | (exact trivial) | (exact WkD.same _) | (exact WkO.same _ _ rfl) | (exact WkD.eq (congrArg (fun z : List PV => DV.buf _ z.length) hz)) | (exact WkO.same _ _ (congrArg (fun z => some (DObj.arr _ z)) hz)) | (exact WkD.any _) | (refine WkD.int ?_) | (exact WkD.new' rfl rfl rfl) | (exact WkO.new _ _ rfl) | (refine WkO.vars rfl ?_) | (with_reducible rfl) | (exact rfl) | (refine ⟨?_, ?_⟩) | ((refine wrapA ?_ ?_ ?_); (focus (simp; done)); (focus ((try dsimp only); omega)); (focus ((try dsimp only); omega))) | fail)))⟩, ?_⟩
      rintro ⟨j, hj⟩
      (try (conv => whnf)); repeat' (first | (apply And.intro <;> (try (conv => whnf))) | (intro h; first | (with_reducible exact tf0 h) | (with_reducible exact ft0 h) | (with_reducible exact nt0 h) | (with_reducible exact nf0 h) | (exact litz h rfl) | (with_reducible exact tf h (by with_reducible assumption)) | (with_reducible exact tf (by with_reducible assumption) h) | (try (conv => whnf))) | (with_reducible rfl) | (apply True.intro) | (apply infoT; rfl) | (apply bleI; rfl) | (apply fitI; rfl) | (apply cellsI; rfl) | (apply szI; rfl) | (apply guardI; kernel_rfl) | (apply WhenQ.mk; (try (conv => whnf)); rotate_left; (try (conv => whnf)); rotate_right) | (with_reducible assumption) | (apply not_of; with_reducible assumption) | (apply left_of; with_reducible assumption) | (apply left_of; apply left_of; with_reducible assumption) | (apply and_of <;> first | (with_reducible assumption) | (apply not_of; with_reducible assumption))| (refine lin_plan (by kernel_rfl) ?_; (try (conv => whnf))) | (refine ⟨_, _, rfl, idx_map (by with_reducible assumption), rfl, ?_⟩; (try (conv => whnf))) | (refine ⟨rfl, ?_⟩; (try (conv => whnf))) | fail)
      · have hj' : j < (comp o).length := by simpa using h
        have hn : (comp o)[j]? = some (comp o)[j] := List.getElem?_eq_getElem hj'
        have hs := shL_succ (F := F) hj'
        have hok := comp_okl o j _ hn
        generalize (comp o)[j] = n at hn hs hok
        (try (conv => whnf)); repeat' (first | (apply And.intro <;> (try (conv => whnf))) | (intro h; first | (with_reducible exact tf0 h) | (with_reducible exact ft0 h) | (with_reducible exact nt0 h) | (with_reducible exact nf0 h) | (exact litz h rfl) | (with_reducible exact tf h (by with_reducible assumption)) | (with_reducible exact tf (by with_reducible assumption) h) | (try (conv => whnf))) | (with_reducible rfl) | (apply True.intro) | (apply infoT; rfl) | (apply bleI; rfl) | (apply fitI; rfl) | (apply cellsI; rfl) | (apply szI; rfl) | (apply guardI; kernel_rfl) | (apply WhenQ.mk; (try (conv => whnf)); rotate_left; (try (conv => whnf)); rotate_right) | (with_reducible assumption) | (apply not_of; with_reducible assumption) | (apply left_of; with_reducible assumption) | (apply left_of; apply left_of; with_reducible assumption) | (apply and_of <;> first | (with_reducible assumption) | (apply not_of; with_reducible assumption))| (refine lin_plan (by kernel_rfl) ?_; (try (conv => whnf))) | (refine ⟨_, _, rfl, idx_map (by with_reducible assumption), rfl, ?_⟩; (try (conv => whnf))) | (refine ⟨rfl, ?_⟩; (try (conv => whnf))) | (refine PureFn.dcq (f := 53) rfl ?_; (try (conv => whnf))) | ((refine ⟨_, _, fm_uses ?_, ?_, ?_⟩); rotate_left 1; (focus (first | (refine ⟨?_, trivial⟩ <;> first | (exact PLe.refl _) | (exact PLe.nil)) | (exact trivial))); (try (conv => whnf))) | (refine ⟨_, (by (conv => whnf); exact fm_uses _), rfl, ?_⟩; (try (conv => whnf))) | fail)
        refine ⟨{ z : Nd // z = shX F.length n }, fun z => [(2, .ref 0 0), (5, .buf 1 (shL F (comp o) j).length), (6, .pv (.int .i64 (k : Nat))), (8, .pv (.int .i64 (F.map Nd.pv).length)), (14, .pv (.sl (l.map fpv))), (15, .pv (.int .i64 (l.map fpv).length)), (16, .pv (.int .i64 (k : Nat))), (27, .pv (fpv (comp o))), (28, .pv (.int .i64 ((comp o).map Nd.pv).length)), (29, .pv (.int .i64 (j : Nat))), (10, .ref 2 0), (11, .ref 3 0)], fun _ => 4,
          fun z => [(0, .var y.dvs), (1, .arr 6 (shL F (comp o) j)), (2, .var z.1.dvs), (3, .var (usesDvs n.op))], ?_, ?_⟩
        · (try (conv => whnf)); repeat' (first | (apply And.intro <;> (try (conv => whnf))) | (intro h; first | (with_reducible exact tf0 h) | (with_reducible exact ft0 h) | (with_reducible exact nt0 h) | (with_reducible exact nf0 h) | (exact litz h rfl) | (with_reducible exact tf h (by with_reducible assumption)) | (with_reducible exact tf (by with_reducible assumption) h) | (try (conv => whnf))) | (with_reducible rfl) | (apply True.intro) | (apply infoT; rfl) | (apply bleI; rfl) | (apply fitI; rfl) | (apply cellsI; rfl) | (apply szI; rfl) | (apply guardI; kernel_rfl) | (apply WhenQ.mk; (try (conv => whnf)); rotate_left; (try (conv => whnf)); rotate_right) | (with_reducible assumption) | (apply not_of; with_reducible assumption) | (apply left_of; with_reducible assumption) | (apply left_of; apply left_of; with_reducible assumption) | (apply and_of <;> first | (with_reducible assumption) | (apply not_of; with_reducible assumption))| (refine lin_plan (by kernel_rfl) ?_; (try (conv => whnf))) | (refine ⟨_, _, rfl, idx_map (by with_reducible assumption), rfl, ?_⟩; (try (conv => whnf))) | (refine ⟨rfl, ?_⟩; (try (conv => whnf))) | fail)
          · have := hok.x h
            refine ⟨⟨{ n with x := n.x + F.length }, by rw [shX, h]; rfl⟩, ?_⟩
            (refine Wk.of ?_ ?_ rfl rfl rfl <;> (repeat' (first | (exact trivial) | (exact WkD.same _) | (exact WkO.same _ _ rfl) | (exact WkD.any _) | (refine WkD.int ?_) | (exact WkD.new' rfl rfl rfl) | (exact WkO.new _ _ rfl) | (refine WkO.vars rfl ?_) | (with_reducible rfl) | (exact rfl) | (refine ⟨?_, ?_⟩) | ((refine wrapA ?_ ?_ ?_); (focus (simp; done)); (focus ((try dsimp only); omega)); (focus ((try dsimp only); omega))) | fail)))
            exact wrapA (by simp) (by rw [List.length_map]; omega) (by rw [List.length_map]; omega)
          · exact ⟨⟨n, by rw [shX, h]; rfl⟩, (by refine Wk.of ?_ ?_ rfl rfl rfl <;> (repeat' (first | (exact trivial) | (exact WkD.same _) | (exact WkO.same _ _ rfl) | (exact WkD.any _) | (refine WkD.int ?_) | (exact WkD.new' rfl rfl rfl) | (exact WkO.new _ _ rfl) | (refine WkO.vars rfl ?_) | (with_reducible rfl) | (exact rfl) | (refine ⟨?_, ?_⟩) | ((refine wrapA ?_ ?_ ?_); (focus (simp; done)); (focus ((try dsimp only); omega)); (focus ((try dsimp only); omega))) | fail)))⟩
        · rintro ⟨z, rfl⟩
          (try (conv => whnf)); repeat' (first | (apply And.intro <;> (try (conv => whnf))) | (intro h; first | (with_reducible exact tf0 h) | (with_reducible exact ft0 h) | (with_reducible exact nt0 h) | (with_reducible exact nf0 h) | (exact litz h rfl) | (with_reducible exact tf h (by with_reducible assumption)) | (with_reducible exact tf (by with_reducible assumption) h) | (try (conv => whnf))) | (with_reducible rfl) | (apply True.intro) | (apply infoT; rfl) | (apply bleI; rfl) | (apply fitI; rfl) | (apply cellsI; rfl) | (apply szI; rfl) | (apply guardI; kernel_rfl) | (apply WhenQ.mk; (try (conv => whnf)); rotate_left; (try (conv => whnf)); rotate_right) | (with_reducible assumption) | (apply not_of; with_reducible assumption) | (apply left_of; with_reducible assumption) | (apply left_of; apply left_of; with_reducible assumption) | (apply and_of <;> first | (with_reducible assumption) | (apply not_of; with_reducible assumption))| (refine lin_plan (by kernel_rfl) ?_; (try (conv => whnf))) | (refine ⟨_, _, rfl, idx_map (by with_reducible assumption), rfl, ?_⟩; (try (conv => whnf))) | (refine ⟨rfl, ?_⟩; (try (conv => whnf))) | fail)
          refine ⟨{ z : Nd // z = shN F.length n }, fun z => [(2, .ref 0 0), (5, .buf 1 (shL F (comp o) j).length), (6, .pv (.int .i64 (k : Nat))), (8, .pv (.int .i64 (F.map Nd.pv).length)), (14, .pv (.sl (l.map fpv))), (15, .pv (.int .i64 (l.map fpv).length)), (16, .pv (.int .i64 (k : Nat))), (27, .pv (fpv (comp o))), (28, .pv (.int .i64 ((comp o).map Nd.pv).length)), (29, .pv (.int .i64 (j : Nat))), (10, .ref 2 0)], fun _ => 3,
            fun z => [(0, .var y.dvs), (1, .arr 6 (shL F (comp o) j)), (2, .var z.1.dvs)], ?_, ?_⟩
          · (try (conv => whnf)); repeat' (first | (apply And.intro <;> (try (conv => whnf))) | (intro h; first | (with_reducible exact tf0 h) | (with_reducible exact ft0 h) | (with_reducible exact nt0 h) | (with_reducible exact nf0 h) | (exact litz h rfl) | (with_reducible exact tf h (by with_reducible assumption)) | (with_reducible exact tf (by with_reducible assumption) h) | (try (conv => whnf))) | (with_reducible rfl) | (apply True.intro) | (apply infoT; rfl) | (apply bleI; rfl) | (apply fitI; rfl) | (apply cellsI; rfl) | (apply szI; rfl) | (apply guardI; kernel_rfl) | (apply WhenQ.mk; (try (conv => whnf)); rotate_left; (try (conv => whnf)); rotate_right) | (with_reducible assumption) | (apply not_of; with_reducible assumption) | (apply left_of; with_reducible assumption) | (apply left_of; apply left_of; with_reducible assumption) | (apply and_of <;> first | (with_reducible assumption) | (apply not_of; with_reducible assumption))| (refine lin_plan (by kernel_rfl) ?_; (try (conv => whnf))) | (refine ⟨_, _, rfl, idx_map (by with_reducible assumption), rfl, ?_⟩; (try (conv => whnf))) | (refine ⟨rfl, ?_⟩; (try (conv => whnf))) | fail)
            · have := hok.y h
              refine ⟨⟨{ shX F.length n with y := n.y + F.length }, by rw [shN, h]; rfl⟩, ?_⟩
              (refine Wk.of ?_ ?_ rfl rfl rfl <;> (repeat' (first | (exact trivial) | (exact WkD.same _) | (exact WkO.same _ _ rfl) | (exact WkD.any _) | (refine WkD.int ?_) | (exact WkD.new' rfl rfl rfl) | (exact WkO.new _ _ rfl) | (refine WkO.vars rfl ?_) | (with_reducible rfl) | (exact rfl) | (refine ⟨?_, ?_⟩) | ((refine wrapA ?_ ?_ ?_); (focus (simp; done)); (focus ((try dsimp only); omega)); (focus ((try dsimp only); omega))) | fail)))
              refine (congrArg (fun v => IntKind.wrap .i64 (v + ((F.map Nd.pv).length : Int))) (shX_y F.length n)).trans ?_
              exact wrapA (by simp) (by rw [List.length_map]; omega) (by rw [List.length_map]; omega)
            · exact ⟨⟨shX F.length n, by rw [shN, h]; rfl⟩, (by refine Wk.of ?_ ?_ rfl rfl rfl <;> (repeat' (first | (exact trivial) | (exact WkD.same _) | (exact WkO.same _ _ rfl) | (exact WkD.any _) | (refine WkD.int ?_) | (exact WkD.new' rfl rfl rfl) | (exact WkO.new _ _ rfl) | (refine WkO.vars rfl ?_) | (with_reducible rfl) | (exact rfl) | (refine ⟨?_, ?_⟩) | ((refine wrapA ?_ ?_ ?_); (focus (simp; done)); (focus ((try dsimp only); omega)); (focus ((try dsimp only); omega))) | fail)))⟩
          · rintro ⟨z, rfl⟩
            (try (conv => whnf)); repeat' (first | (apply And.intro <;> (try (conv => whnf))) | (intro h; first | (with_reducible exact tf0 h) | (with_reducible exact ft0 h) | (with_reducible exact nt0 h) | (with_reducible exact nf0 h) | (exact litz h rfl) | (with_reducible exact tf h (by with_reducible assumption)) | (with_reducible exact tf (by with_reducible assumption) h) | (try (conv => whnf))) | (with_reducible rfl) | (apply True.intro) | (apply infoT; rfl) | (apply bleI; rfl) | (apply fitI; rfl) | (apply cellsI; rfl) | (apply szI; rfl) | (apply guardI; kernel_rfl) | (apply WhenQ.mk; (try (conv => whnf)); rotate_left; (try (conv => whnf)); rotate_right) | (with_reducible assumption) | (apply not_of; with_reducible assumption) | (apply left_of; with_reducible assumption) | (apply left_of; apply left_of; with_reducible assumption) | (apply and_of <;> first | (with_reducible assumption) | (apply not_of; with_reducible assumption))| (refine lin_plan (by kernel_rfl) ?_; (try (conv => whnf))) | (refine ⟨_, _, rfl, idx_map (by with_reducible assumption), rfl, ?_⟩; (try (conv => whnf))) | (refine ⟨rfl, ?_⟩; (try (conv => whnf))) | fail)
            · show (shL F (comp o) j).length + 1 ≤ 4294967296
              rw [shL_len hj]; omega
            · exact ⟨⟨j + 1, hj'⟩, by show (comp o).length - (j + 1) < (comp o).length - j; omega, (by refine Wk.of ?_ ?_ rfl rfl rfl <;> (repeat' (first | (exact trivial) | (exact WkD.same _) | (exact WkO.same _ _ rfl) | (exact WkD.eq (congrArg (fun z : List PV => DV.buf _ z.length) hs)) | (exact WkO.same _ _ (congrArg (fun z => some (DObj.arr _ z)) hs)) | (exact WkD.any _) | (refine WkD.int ?_) | (exact WkD.new' rfl rfl rfl) | (exact WkO.new _ _ rfl) | (refine WkO.vars rfl ?_) | (with_reducible rfl) | (exact rfl) | (refine ⟨?_, ?_⟩) | ((refine wrapA ?_ ?_ ?_); (focus (simp; done)); (focus ((try dsimp only); omega)); (focus ((try dsimp only); omega))) | fail)))⟩
      · have hs := bstep_t (y := y) (F := F) (o := o) h
        have hj' : j = (comp o).length := by simp at *; omega
        subst hj'
        have hse := shL_end F (comp o)
        rw [hs] at hb
        have hG := okl_append hF (comp_okl o)
        have hGl : (F ++ (comp o).map (shN F.length)).length ≤ 200 * (k + 1) := by rw [List.length_append, List.length_map]; omega
        generalize (F ++ (comp o).map (shN F.length)) = G at hse hb hG hGl
        have hGn : ((shL F (comp o) (comp o).length).length : Int) = G.length := by rw [hse, List.length_map]
        refine ⟨⟨(k + 1, { y with x := (G.length : Int) - 1 }, G), hk', hb, hG, hGl⟩, by show l.length - (k + 1) < l.length - k; omega, ?_⟩
        (refine Wk.of ?_ ?_ rfl rfl rfl <;> (repeat' (first | (exact trivial) | (exact WkD.same _) | (exact WkO.same _ _ rfl) | (exact WkD.eq (congrArg (fun z : List PV => DV.buf _ z.length) hse)) | (exact WkO.same _ _ (congrArg (fun z => some (DObj.arr _ z)) hse)) | (exact WkD.any _) | (refine WkD.int ?_) | (exact WkD.new' rfl rfl rfl) | (exact WkO.new _ _ rfl) | (refine WkO.vars rfl ?_) | (with_reducible rfl) | (exact rfl) | (refine ⟨?_, ?_⟩) | ((refine wrapA ?_ ?_ ?_); (focus (simp; done)); (focus ((try dsimp only); omega)); (focus ((try dsimp only); omega))) | fail)))
        exact (congrArg (fun z : Int => IntKind.wrap .i64 (z - 1)) hGn).trans (wrapA rfl (by omega) (by omega))
      · have hs := bstep_f (y := y) (F := F) (o := o) h
        have hj' : j = (comp o).length := by simp at *; omega
        subst hj'
        have hse := shL_end F (comp o)
        rw [hs] at hb
        have hG := okl_append hF (comp_okl o)
        have hGl : (F ++ (comp o).map (shN F.length)).length ≤ 200 * (k + 1) := by rw [List.length_append, List.length_map]; omega
        generalize (F ++ (comp o).map (shN F.length)) = G at hse hb hG hGl
        have hGn : ((shL F (comp o) (comp o).length).length : Int) = G.length := by rw [hse, List.length_map]
        refine ⟨⟨(k + 1, { y with y := (G.length : Int) - 1 }, G), hk', hb, hG, hGl⟩, by show l.length - (k + 1) < l.length - k; omega, ?_⟩
        (refine Wk.of ?_ ?_ rfl rfl rfl <;> (repeat' (first | (exact trivial) | (exact WkD.same _) | (exact WkO.same _ _ rfl) | (exact WkD.eq (congrArg (fun z : List PV => DV.buf _ z.length) hse)) | (exact WkO.same _ _ (congrArg (fun z => some (DObj.arr _ z)) hse)) | (exact WkD.any _) | (refine WkD.int ?_) | (exact WkD.new' rfl rfl rfl) | (exact WkO.new _ _ rfl) | (refine WkO.vars rfl ?_) | (with_reducible rfl) | (exact rfl) | (refine ⟨?_, ?_⟩) | ((refine wrapA ?_ ?_ ?_); (focus (simp; done)); (focus ((try dsimp only); omega)); (focus ((try dsimp only); omega))) | fail)))
        exact (congrArg (fun z : Int => IntKind.wrap .i64 (z - 1)) hGn).trans (wrapA rfl (by omega) (by omega))
  · have hk' : k = l.length := by simp at *; omega
    subst hk'
    rw [List.drop_length] at he
    have hbl : buildL x l = bfin (y, F) := by rw [buildL, he]; rfl
    rw [hbl]
    rw [bfin]
    simp only
    have hne := fm_nodeError y (F.map Nd.pv).length
    have hFl' : F.length ≤ 400 := by omega
    (try (conv => whnf)); repeat' (first | (apply And.intro <;> (try (conv => whnf))) | (intro h; first | (with_reducible exact tf0 h) | (with_reducible exact ft0 h) | (with_reducible exact nt0 h) | (with_reducible exact nf0 h) | (exact litz h rfl) | (with_reducible exact tf h (by with_reducible assumption)) | (with_reducible exact tf (by with_reducible assumption) h) | (try (conv => whnf))) | (with_reducible rfl) | (apply True.intro) | (apply infoT; rfl) | (apply bleI; rfl) | (apply fitI; rfl) | (apply cellsI; rfl) | (apply szI; rfl) | (apply guardI; kernel_rfl) | (apply WhenQ.mk; (try (conv => whnf)); rotate_left; (try (conv => whnf)); rotate_right) | (with_reducible assumption) | (apply not_of; with_reducible assumption) | (apply left_of; with_reducible assumption) | (apply left_of; apply left_of; with_reducible assumption) | (apply and_of <;> first | (with_reducible assumption) | (apply not_of; with_reducible assumption))| (refine lin_plan (by kernel_rfl) ?_; (try (conv => whnf))) | (refine ⟨_, _, rfl, idx_map (by with_reducible assumption), rfl, ?_⟩; (try (conv => whnf))) | (refine ⟨rfl, ?_⟩; (try (conv => whnf))) | (refine PureFn.dcq (f := 51) rfl ?_; (try (conv => whnf))) | ((refine ⟨_, _, hne, ?_, ?_⟩); (focus (first | (refine ⟨?_, ?_, trivial⟩ <;> first | (exact PLe.refl _) | (exact PLe.nil)) | (exact trivial))); (try (conv => whnf))) | (refine ⟨_, (by (conv => whnf); exact hne), rfl, ?_⟩; (try (conv => whnf))) | fail)
    · rw [List.length_map] at h
      rw [h]; exact .nil
    · show (F.map Nd.pv).length + 1 ≤ 4294967296
      rw [List.length_map]; omega
    · rw [List.length_map] at h
      have hok : OkNd y F.length := nodeErr_ok.1 (by simpa using h)
      have hcp : PureFn Try.prog 61 [.sl (F.map Nd.pv ++ [y.pv]), .int .i64 ((F.map Nd.pv).length : Int)] (fpv (canon (F ++ [y]) F.length)) := by
        have := fm_compact (F ++ [y]) F.length (okl_snoc hF hok).wf (by simp) (by simp; omega)
        rw [show fpv (F ++ [y]) = .sl (F.map Nd.pv ++ [y.pv]) from congrArg PV.sl List.map_append] at this
        rw [List.length_map]; exact this
      rw [h]
      (try (conv => whnf)); repeat' (first | (apply And.intro <;> (try (conv => whnf))) | (intro h; first | (with_reducible exact tf0 h) | (with_reducible exact ft0 h) | (with_reducible exact nt0 h) | (with_reducible exact nf0 h) | (exact litz h rfl) | (with_reducible exact tf h (by with_reducible assumption)) | (with_reducible exact tf (by with_reducible assumption) h) | (try (conv => whnf))) | (with_reducible rfl) | (apply True.intro) | (apply infoT; rfl) | (apply bleI; rfl) | (apply fitI; rfl) | (apply cellsI; rfl) | (apply szI; rfl) | (apply guardI; kernel_rfl) | (apply WhenQ.mk; (try (conv => whnf)); rotate_left; (try (conv => whnf)); rotate_right) | (with_reducible assumption) | (apply not_of; with_reducible assumption) | (apply left_of; with_reducible assumption) | (apply left_of; apply left_of; with_reducible assumption) | (apply and_of <;> first | (with_reducible assumption) | (apply not_of; with_reducible assumption))| (refine lin_plan (by kernel_rfl) ?_; (try (conv => whnf))) | (refine ⟨_, _, rfl, idx_map (by with_reducible assumption), rfl, ?_⟩; (try (conv => whnf))) | (refine ⟨rfl, ?_⟩; (try (conv => whnf))) | (refine PureFn.dcq (f := 61) rfl ?_; (try (conv => whnf))) | ((refine ⟨_, _, hcp, ?_, ?_⟩); (focus (first | (refine ⟨?_, ?_, trivial⟩ <;> first | (exact PLe.refl _) | (exact PLe.nil)) | (exact trivial))); (try (conv => whnf))) | (refine ⟨_, (by (conv => whnf); exact hcp), rfl, ?_⟩; (try (conv => whnf))) | fail)
      · rw [List.length_map] at h
        rw [h]; exact .nil
      · rw [List.length_map] at h
        rw [h]; exact .refl _
end Go.Proofs.Ytlmgodcfjaagpaa
