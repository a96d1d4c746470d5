/- Parts of the proof, one after the other: Formulas: canonical lists and constructors by their trees (plain). Formulas: One, Unary, Binary, short of the reference. Formulas: the examples of the laws. Formulas: All and Any of both sides; the law FormulaJoins walked. Belief sets: bits of numbers, sets of valuations (plain). Belief sets: distances (plain). Belief sets: the value of a formula at a valuation (plain). Formulas: the law FormulaBuilds walked. Formulas: a canonical list is what its last node's constructor makes of its operands (plain). Formulas: the value of a formula by its tree; small formulas (plain). -/
import Derived.Test.YtibenjpkinhjhaaM6
namespace Go.Proofs.Ytibenjpkinhjhaa
open Go Go.Dv

def root (f : List Nd) : Tr := tree f (f.length - 1)
theorem comp_root {f : List Nd} (h : check f = 0) : comp f = (finT (root f) []).2 := by
  rw [comp_eq h]
  have := (check_ok h).1
  exact canon_tree (check_okl h) (by omega)
theorem root_comp {f : List Nd} (h : check f = 0) : root (comp f) = root f := by
  have := (check_ok h).1
  unfold root
  rw [comp_eq h]
  exact (canon_root (check_okl h) (by omega)).2
theorem comp_eq_iff {a b : List Nd} (ha : check a = 0) (hb : check b = 0) : comp a = comp b ↔ root a = root b := by
  constructor
  · intro h; rw [← root_comp ha, ← root_comp hb, h]
  · intro h; rw [comp_root ha, comp_root hb, h]
theorem comp_comp {f : List Nd} (h : check f = 0) : comp (comp f) = comp f := (comp_eq_iff (comp_check h) h).2 (root_comp h)

theorem trn_shift {A B : List Nd} (hA : Okl A) (hB : Okl B) : ∀ (n j : Nat), j < B.length → trn (A ++ B.map (shN A.length)) n (A.length + j) = trn B n j
  | 0, _, _ => rfl
  | n + 1, j, hj => by
    simp only [trn]
    have hx : B[j]? = some B[j] := List.getElem?_eq_getElem hj
    have ok := hB j _ hx
    rw [List.getElem?_append_right (by omega), Nat.add_sub_cancel_left, List.getElem?_map, hx]
    generalize B[j] = x at ok
    simp only [Option.map_some]
    have e1 : (shN A.length x).op = x.op := by unfold shN shX; cases usesX x.op <;> cases usesY x.op <;> rfl
    have e2 : (shN A.length x).i = x.i := by unfold shN shX; cases usesX x.op <;> cases usesY x.op <;> rfl
    have e3 : (shN A.length x).e = x.e := by unfold shN shX; cases usesX x.op <;> cases usesY x.op <;> rfl
    have e4 : (shN A.length x).g = x.g := by unfold shN shX; cases usesX x.op <;> cases usesY x.op <;> rfl
    have e5 : (shN A.length x).x = bif usesX x.op then x.x + A.length else x.x := by unfold shN shX; cases usesX x.op <;> cases usesY x.op <;> rfl
    have e6 : (shN A.length x).y = bif usesY x.op then x.y + A.length else x.y := by unfold shN shX; cases usesX x.op <;> cases usesY x.op <;> rfl
    rw [e1, e2, e3, e4, e5, e6]
    congr 1
    · cases hu : usesX x.op with
      | false => rfl
      | true =>
        have := ok.x hu
        simp only [cond_true]
        rw [show (x.x + (A.length : Int)).toNat = A.length + x.x.toNat by omega]
        exact trn_shift hA hB n x.x.toNat (by omega)
    · cases hu : usesY x.op with
      | false => rfl
      | true =>
        have := ok.y hu
        simp only [cond_true]
        rw [show (x.y + (A.length : Int)).toNat = A.length + x.y.toNat by omega]
        exact trn_shift hA hB n x.y.toNat (by omega)
theorem tree_shift {A B : List Nd} (hA : Okl A) (hB : Okl B) {j : Nat} (hj : j < B.length) : tree (A ++ B.map (shN A.length)) (A.length + j) = tree B j := by
  unfold tree
  rw [trn_shift hA hB _ j hj]
  exact trn_fuel hB _ _ _ (by omega) (by omega)

/-! what the reference builds -/
def shortL (g : List Nd) : List Nd := bif decide ((g.length : Int) > 401) then [] else bif decide (((canon g (g.length - 1)).length : Int) > 200) then [] else canon g (g.length - 1)
def oneL (x : Nd) : List Nd := bif nodeErr x 0 != 0 then [] else [x]
def unL (x : Nd) (f : List Nd) : List Nd :=
  bif check f != 0 then [] else bif nodeErr { x with x := (f.length : Int) - 1 } f.length != 0 then [] else shortL (f ++ [{ x with x := (f.length : Int) - 1 }])
def binN (x : Nd) (f g : List Nd) : Nd := { x with x := (f.length : Int) - 1, y := ((f ++ g.map (shN f.length)).length : Int) - 1 }
def binL (x : Nd) (f g : List Nd) : List Nd :=
  bif bif check f != 0 then true else check g != 0 then [] else bif nodeErr (binN x f g) (f ++ g.map (shN f.length)).length != 0 then [] else shortL (f ++ g.map (shN f.length) ++ [binN x f g])

theorem shN_zero (n : Nd) : shN 0 n = n := by
  unfold shN shX
  cases usesX n.op <;> cases usesY n.op <;> cases n <;> simp
theorem map_shN_zero (c : List Nd) : c.map (shN 0) = c := by
  rw [List.map_congr_left (g := id) (fun n _ => shN_zero n), List.map_id]
theorem canon_snoc {F : List Nd} {x : Nd} (hF : Okl F) (hx : OkNd x F.length) : canon (F ++ [x]) F.length = (finT (.nd x.op x.i x.e x.g (bif usesX x.op then tree F x.x.toNat else .none) (bif usesY x.op then tree F x.y.toNat else .none)) []).2 := by
  have hok := okl_snoc hF hx
  rw [canon_tree hok (by simp), tree_nd hok (x := x) (by simp)]
  have e1 : (bif usesX x.op then tree (F ++ [x]) x.x.toNat else .none) = (bif usesX x.op then tree F x.x.toNat else .none) := by
    cases hu : usesX x.op with
    | false => rfl
    | true => have := hx.x hu; exact tree_append hF (by omega)
  have e2 : (bif usesY x.op then tree (F ++ [x]) x.y.toNat else .none) = (bif usesY x.op then tree F x.y.toNat else .none) := by
    cases hu : usesY x.op with
    | false => rfl
    | true => have := hx.y hu; exact tree_append hF (by omega)
  rw [e1, e2]
theorem ne_of_iff {a b : Int} (h : a = 0 ↔ b = 0) : (a != 0) = (b != 0) := by
  rw [Bool.eq_iff_iff]; simp only [bne_iff_ne, ne_eq, h]
/-- Without operands. -/
theorem build_one (x : Nd) : buildL x [] = oneL x := by
  rw [buildL, bfold]; simp only [bfin, oneL, List.length_nil, List.nil_append]
  show (bif nodeErr x ((0 : Nat) : Int) != 0 then [] else _) = _
  cases h : (nodeErr x ((0 : Nat) : Int) != 0) with
  | true => rfl
  | false =>
    have ok : OkNd x ((0 : Nat) : Int) := nodeErr_ok.1 (by simpa using h)
    have ux : usesX x.op = false := by cases hu : usesX x.op with
      | false => rfl
      | true => have := ok.x hu; omega
    have uy : usesY x.op = false := by cases hu : usesY x.op with
      | false => rfl
      | true => have := ok.y hu; omega
    have hc : canon [x] 0 = [x] := by
      have := canon_snoc (F := []) (x := x) (fun i y hy => by simp at hy) ok
      simp only [List.nil_append, List.length_nil] at this
      rw [this, ux, uy]
      simp only [cond_false, finT, putN, idx, List.nil_append, List.length_nil]
      have e1 := ok.nox ux
      have e2 := ok.noy uy
      cases x
      simp only at e1 e2
      subst e1; subst e2; rfl
    show (bif decide (((canon [x] 0).length : Int) > 200) then [] else canon [x] 0) = [x]
    simp only [hc]; rfl
theorem OkNd.re {x y : Nd} {a b : Int} (h : OkNd x a) (h1 : y.op = x.op) (h2 : y.i = x.i) (h3 : y.e = x.e) (h4 : y.g = x.g) (h5 : usesX x.op = true → 0 ≤ y.x ∧ y.x < b) (h6 : usesX x.op = false → y.x = 0) (h7 : usesY x.op = true → 0 ≤ y.y ∧ y.y < b) (h8 : usesY x.op = false → y.y = 0) : OkNd y b := by
  constructor <;> simp only [h1, h2, h3, h4]
  · exact h.op
  · exact h5
  · exact h6
  · exact h7
  · exact h8
  · exact h.fact
  · exact h.agent
  · exact h.act
  · exact h.noi
  · exact h.noe
  · exact h.group
  · exact h.nog
theorem short_snoc {F : List Nd} {x : Nd} (hl : F.length ≤ 400) : shortL (F ++ [x]) = bif decide (((canon (F ++ [x]) F.length).length : Int) > 200) then [] else canon (F ++ [x]) F.length := by
  have e1 : decide (((F ++ [x]).length : Int) > 401) = false := by simp; omega
  have e2 : (F ++ [x]).length - 1 = F.length := by simp
  rw [shortL, e1, e2]; rfl
theorem bfin_eq (x : Nd) (F : List Nd) : bfin (x, F) = bif nodeErr x F.length != 0 then [] else bif decide (((canon (F ++ [x]) F.length).length : Int) > 200) then [] else canon (F ++ [x]) F.length := rfl
/-- With one operand. -/
theorem build_un (x : Nd) (f : List Nd) (hx : usesX x.op = true) (hy : usesY x.op = false) (hxy : x.y = 0) : buildL x [f] = unL x f := by
  rw [buildL]
  simp only [bfold]
  cases hc : (check f != 0) with
  | true => simp only [unL, hc, cond_true]
  | false =>
    have hc0 : check f = 0 := by simpa using hc
    obtain ⟨l1, l2, _⟩ := check_ok hc0
    have c1 := comp_pos hc0
    have c2 := comp_len f
    have s0 : bstep 0 (x, []) f = ({ x with x := ((comp f).length : Int) - 1 }, comp f) := by
      rw [bstep_t rfl]; simp only [List.nil_append, List.length_nil, map_shN_zero]
    simp only [unL, hc, cond_false, s0, bfin_eq]
    have hne : (nodeErr { x with x := ((comp f).length : Int) - 1 } (comp f).length != 0) = (nodeErr { x with x := (f.length : Int) - 1 } f.length != 0) := ne_of_iff (by
      rw [nodeErr_ok, nodeErr_ok]
      constructor
      · intro h; exact h.re rfl rfl rfl rfl (fun _ => ⟨by simp only; omega, by simp only; omega⟩) (fun u => by rw [hx] at u; cases u) (fun u => by rw [hy] at u; cases u) (fun _ => hxy)
      · intro h; exact h.re rfl rfl rfl rfl (fun _ => ⟨by simp only; omega, by simp only; omega⟩) (fun u => by rw [hx] at u; cases u) (fun u => by rw [hy] at u; cases u) (fun _ => hxy))
    rw [hne]
    cases hn : (nodeErr { x with x := (f.length : Int) - 1 } f.length != 0) with
    | true => rfl
    | false =>
      have ok2 : OkNd { x with x := (f.length : Int) - 1 } f.length := nodeErr_ok.1 (by simpa using hn)
      have ok1 : OkNd { x with x := ((comp f).length : Int) - 1 } (comp f).length := nodeErr_ok.1 (by rw [hn] at hne; simpa using hne)
      simp only [cond_false]
      rw [short_snoc (by omega)]
      have e1 := canon_snoc (comp_okl f) ok1
      have e2 := canon_snoc (check_okl hc0) ok2
      have hr := root_comp hc0
      unfold root at hr
      simp only [hx, hy, cond_true, cond_false] at e1 e2
      rw [show (((comp f).length : Int) - 1).toNat = (comp f).length - 1 by omega] at e1
      rw [show ((f.length : Int) - 1).toNat = f.length - 1 by omega, ← hr] at e2
      rw [e1, e2]
/-- With two operands. -/
theorem bin_last {A B : List Nd} (hA : Okl A) (hB : Okl B) (h1 : 1 ≤ A.length) (h2 : 1 ≤ B.length) : tree (A ++ B.map (shN A.length)) (A.length - 1) = root A ∧ tree (A ++ B.map (shN A.length)) ((A ++ B.map (shN A.length)).length - 1) = root B := by
  refine ⟨tree_append hA (by omega), ?_⟩
  have e : (A ++ B.map (shN A.length)).length - 1 = A.length + (B.length - 1) := by rw [List.length_append, List.length_map]; omega
  rw [e]
  exact tree_shift hA hB (by omega)
theorem build_bin (x : Nd) (f g : List Nd) (hx : usesX x.op = true) (hy : usesY x.op = true) : buildL x [f, g] = binL x f g := by
  rw [buildL]
  simp only [bfold]
  cases hc : (check f != 0) with
  | true => simp only [binL, hc, cond_true]
  | false =>
    cases hd : (check g != 0) with
    | true => simp only [binL, hc, hd, cond_true, cond_false]
    | false =>
      have hc0 : check f = 0 := by simpa using hc
      have hd0 : check g = 0 := by simpa using hd
      obtain ⟨l1, l2, _⟩ := check_ok hc0
      obtain ⟨m1, m2, _⟩ := check_ok hd0
      have c1 := comp_pos hc0
      have c2 := comp_len f
      have d1 := comp_pos hd0
      have d2 := comp_len g
      obtain ⟨F, hF⟩ : ∃ F, F = comp f ++ (comp g).map (shN (comp f).length) := ⟨_, rfl⟩
      obtain ⟨L, hL⟩ : ∃ L, L = f ++ g.map (shN f.length) := ⟨_, rfl⟩
      have hFl : F.length = (comp f).length + (comp g).length := by rw [hF, List.length_append, List.length_map]
      have hLl : L.length = f.length + g.length := by rw [hL, List.length_append, List.length_map]
      have hFo : Okl F := hF ▸ okl_append (comp_okl f) (comp_okl g)
      have hLo : Okl L := hL ▸ okl_append (check_okl hc0) (check_okl hd0)
      have hstep : bstep (0 + 1) (bstep 0 (x, []) f) g = ({ x with x := ((comp f).length : Int) - 1, y := (F.length : Int) - 1 }, F) := by
        have s0 : bstep 0 (x, []) f = ({ x with x := ((comp f).length : Int) - 1 }, comp f) := by
          rw [bstep_t rfl]; simp only [List.nil_append, List.length_nil, map_shN_zero]
        rw [s0, bstep_f rfl, ← hF]
      simp only [binL, hc, hd, cond_false, hstep, bfin_eq]
      rw [show binN x f g = { x with x := (f.length : Int) - 1, y := (L.length : Int) - 1 } by rw [binN, ← hL], ← hL]
      have hne : (nodeErr { x with x := ((comp f).length : Int) - 1, y := (F.length : Int) - 1 } F.length != 0) = (nodeErr { x with x := (f.length : Int) - 1, y := (L.length : Int) - 1 } L.length != 0) := ne_of_iff (by
        rw [nodeErr_ok, nodeErr_ok]
        constructor
        · intro h; exact h.re rfl rfl rfl rfl (fun _ => ⟨by simp only; omega, by simp only; omega⟩) (fun u => by rw [hx] at u; cases u) (fun _ => ⟨by simp only; omega, by simp only; omega⟩) (fun u => by rw [hy] at u; cases u)
        · intro h; exact h.re rfl rfl rfl rfl (fun _ => ⟨by simp only; omega, by simp only; omega⟩) (fun u => by rw [hx] at u; cases u) (fun _ => ⟨by simp only; omega, by simp only; omega⟩) (fun u => by rw [hy] at u; cases u))
      rw [hne]
      cases hn : (nodeErr { x with x := (f.length : Int) - 1, y := (L.length : Int) - 1 } L.length != 0) with
      | true => rfl
      | false =>
        have ok2 : OkNd { x with x := (f.length : Int) - 1, y := (L.length : Int) - 1 } L.length := nodeErr_ok.1 (by simpa using hn)
        have ok1 : OkNd { x with x := ((comp f).length : Int) - 1, y := (F.length : Int) - 1 } F.length := nodeErr_ok.1 (by rw [hn] at hne; simpa using hne)
        simp only [cond_false]
        rw [short_snoc (by omega)]
        have e1 := canon_snoc hFo ok1
        have e2 := canon_snoc hLo ok2
        obtain ⟨t1, t2⟩ := bin_last (comp_okl f) (comp_okl g) c1 d1
        obtain ⟨u1, u2⟩ := bin_last (check_okl hc0) (check_okl hd0) l1 m1
        rw [← hF] at t1 t2
        rw [← hL] at u1 u2
        rw [root_comp hc0] at t1
        rw [root_comp hd0] at t2
        simp only [hx, hy, cond_true] at e1 e2
        rw [show (((comp f).length : Int) - 1).toNat = (comp f).length - 1 by omega, show ((F.length : Int) - 1).toNat = F.length - 1 by omega, t1, t2] at e1
        rw [show ((f.length : Int) - 1).toNat = f.length - 1 by omega, show ((L.length : Int) - 1).toNat = L.length - 1 by omega, u1, u2] at e2
        rw [e1, e2]
end Go.Proofs.Ytibenjpkinhjhaa
set_option maxRecDepth 100000
set_option maxHeartbeats 4000000
namespace Go.Proofs.Ytibenjpkinhjhaa
open Go Go.Dv

theorem ref_short (g : List Nd) (hg : Okl g) (h1 : 1 ≤ g.length) : PureFn Try.prog 140 [fpv g] (fpv (shortL g)) := by
  refine PureFn.intro mixed (fn := Try.f140) rfl rfl rfl fun M w0 => ?_
  (try (conv => whnf)); repeat' (first | (apply And.intro <;> (try (conv => whnf))) | (intro h; first | (with_reducible exact tf0 h) | (with_reducible exact ft0 h) | (with_reducible exact nt0 h) | (with_reducible exact nf0 h) | (exact litz h rfl) | (with_reducible exact tf h (by with_reducible assumption)) | (with_reducible exact tf (by with_reducible assumption) h) | (try (conv => whnf))) | (with_reducible rfl) | (apply True.intro) | (apply infoT; rfl) | (apply bleI; rfl) | (apply fitI; rfl) | (apply cellsI; rfl) | (apply szI; rfl) | (apply guardI; kernel_rfl) | (apply WhenQ.mk; (try (conv => whnf)); rotate_left; (try (conv => whnf)); rotate_right) | (with_reducible assumption) | (apply not_of; with_reducible assumption) | (apply left_of; with_reducible assumption) | (apply left_of; apply left_of; with_reducible assumption) | (apply and_of <;> first | (with_reducible assumption) | (apply not_of; with_reducible assumption))| (refine lin_plan (by kernel_rfl) ?_; (try (conv => whnf))) | (refine ⟨_, _, rfl, idx_map (by with_reducible assumption), rfl, ?_⟩; (try (conv => whnf))) | (refine ⟨rfl, ?_⟩; (try (conv => whnf))) | (exact Nat.le_refl 1) | ((apply ex3); (focus (with_reducible assumption)); (focus (with_reducible assumption)); (try (conv => whnf))) | ((apply ex2); (focus (with_reducible assumption)); (try (conv => whnf))) | fail)
  · rw [List.length_map] at h
    rw [shortL, h]; exact .nil
  · rw [List.length_map] at h
    have hl : g.length ≤ 401 := by simp at h; omega
    rw [shortL, h]
    simp only [cond_false]
    refine ⟨{ i : Nat // i ≤ g.length }, fun i => [(0, .pv (fpv g)), (3, .ref 0 0), (4, .pv (.int .i64 (i.1 : Nat)))], fun _ => 3, fun i => Hr [] (dnl [] i), fun i => g.length - i.1,
      ⟨⟨0, Nat.zero_le _⟩, (by refine Wk.of ?_ ?_ rfl rfl rfl <;> (repeat' (first | (exact trivial) | (exact WkD.same _) | (exact WkO.same _ _ rfl) | (exact WkD.any _) | (refine WkD.int ?_) | (exact WkD.new' rfl rfl rfl) | (exact WkO.new _ _ rfl) | (refine WkO.vars rfl ?_) | (with_reducible rfl) | (exact rfl) | (refine ⟨?_, ?_⟩) | ((refine wrapA ?_ ?_ ?_); (focus (simp; done)); (focus ((try dsimp only); omega)); (focus ((try dsimp only); omega))) | fail)))⟩, ?_⟩
    rintro ⟨i, hi⟩
    (try (conv => whnf)); repeat' (first | (apply And.intro <;> (try (conv => whnf))) | (intro h; first | (with_reducible exact tf0 h) | (with_reducible exact ft0 h) | (with_reducible exact nt0 h) | (with_reducible exact nf0 h) | (exact litz h rfl) | (with_reducible exact tf h (by with_reducible assumption)) | (with_reducible exact tf (by with_reducible assumption) h) | (try (conv => whnf))) | (with_reducible rfl) | (apply True.intro) | (apply infoT; rfl) | (apply bleI; rfl) | (apply fitI; rfl) | (apply cellsI; rfl) | (apply szI; rfl) | (apply guardI; kernel_rfl) | (apply WhenQ.mk; (try (conv => whnf)); rotate_left; (try (conv => whnf)); rotate_right) | (with_reducible assumption) | (apply not_of; with_reducible assumption) | (apply left_of; with_reducible assumption) | (apply left_of; apply left_of; with_reducible assumption) | (apply and_of <;> first | (with_reducible assumption) | (apply not_of; with_reducible assumption))| (refine lin_plan (by kernel_rfl) ?_; (try (conv => whnf))) | (refine ⟨_, _, rfl, idx_map (by with_reducible assumption), rfl, ?_⟩; (try (conv => whnf))) | (refine ⟨rfl, ?_⟩; (try (conv => whnf))) | (exact Nat.le_refl 1) | ((apply ex3); (focus (with_reducible assumption)); (focus (with_reducible assumption)); (try (conv => whnf))) | ((apply ex2); (focus (with_reducible assumption)); (try (conv => whnf))) | fail)
    · show (dnl [] i).length + 1 ≤ 4294967296
      rw [dnl_len]; omega
    · have hi' : i < g.length := by simp at h; omega
      refine ⟨⟨i + 1, hi'⟩, by show g.length - (i + 1) < g.length - i; omega, Wk.of ⟨.same _, .same _, WkD.int (wrapA (by simp) (by dsimp only; omega) (by dsimp only; omega)), trivial⟩ ⟨WkO.vars rfl ⟨.same _, WkD.eq ?_, trivial⟩, trivial, .same _ _ rfl, trivial, .same _ _ ?_, trivial, trivial⟩ rfl rfl rfl⟩
      · exact congrArg (DV.buf 2) (congrArg List.length (dnl_succ i).symm)
      · exact congrArg (fun z => some (DObj.arr 1 z)) (dnl_succ i).symm
    · have hi' : i = g.length := by simp at *; omega
      subst hi'
      have hlast : IntKind.wrap .i64 (((g.map Nd.pv).length : Int) - 1) = ((g.length - 1 : Nat) : Int) := by
        rw [List.length_map]; exact wrapA (by omega) (by omega) (by omega)
      refine (?_ : DC Try.prog M w0 151 [.pv (fpv g), .pv (.int .i64 (IntKind.wrap .i64 (((g.map Nd.pv).length : Int) - 1))), .ref 0 0] ⟨3, 0, 0, objsOf (Hr [] (dnl [] g.length))⟩ _)
      rw [hlast]
      refine rfin_dc g hg.wf (by omega) (g.length - 1 + 1) (g.length - 1) ([], []) (by omega) (by omega) ?_ M w0 _ _ ?_
      · show 0 + cnt [] g.length ≤ g.length
        rw [cnt_nil]; omega
      · (try (conv => whnf)); repeat' (first | (apply And.intro <;> (try (conv => whnf))) | (intro h; first | (with_reducible exact tf0 h) | (with_reducible exact ft0 h) | (with_reducible exact nt0 h) | (with_reducible exact nf0 h) | (exact litz h rfl) | (with_reducible exact tf h (by with_reducible assumption)) | (with_reducible exact tf (by with_reducible assumption) h) | (try (conv => whnf))) | (with_reducible rfl) | (apply True.intro) | (apply infoT; rfl) | (apply bleI; rfl) | (apply fitI; rfl) | (apply cellsI; rfl) | (apply szI; rfl) | (apply guardI; kernel_rfl) | (apply WhenQ.mk; (try (conv => whnf)); rotate_left; (try (conv => whnf)); rotate_right) | (with_reducible assumption) | (apply not_of; with_reducible assumption) | (apply left_of; with_reducible assumption) | (apply left_of; apply left_of; with_reducible assumption) | (apply and_of <;> first | (with_reducible assumption) | (apply not_of; with_reducible assumption))| (refine lin_plan (by kernel_rfl) ?_; (try (conv => whnf))) | (refine ⟨_, _, rfl, idx_map (by with_reducible assumption), rfl, ?_⟩; (try (conv => whnf))) | (refine ⟨rfl, ?_⟩; (try (conv => whnf))) | (exact Nat.le_refl 1) | ((apply ex3); (focus (with_reducible assumption)); (focus (with_reducible assumption)); (try (conv => whnf))) | ((apply ex2); (focus (with_reducible assumption)); (try (conv => whnf))) | fail)
        · rw [List.length_map] at h
          have h' : decide (((canon g (g.length - 1)).length : Int) > 200) = true := h
          rw [h']; exact .nil
        · rw [List.length_map] at h
          have h' : decide (((canon g (g.length - 1)).length : Int) > 200) = false := h
          rw [h']; exact .refl _
theorem ref_One (x : Nd) : PureFn Try.prog 100 [x.pv] (fpv (oneL x)) := by
  refine PureFn.intro mixed (fn := Try.f100) rfl rfl rfl fun M w0 => ?_
  (try (conv => whnf)); repeat' (first | (apply And.intro <;> (try (conv => whnf))) | (intro h; first | (with_reducible exact tf0 h) | (with_reducible exact ft0 h) | (with_reducible exact nt0 h) | (with_reducible exact nf0 h) | (exact litz h rfl) | (with_reducible exact tf h (by with_reducible assumption)) | (with_reducible exact tf (by with_reducible assumption) h) | (try (conv => whnf))) | (with_reducible rfl) | (apply True.intro) | (apply infoT; rfl) | (apply bleI; rfl) | (apply fitI; rfl) | (apply cellsI; rfl) | (apply szI; rfl) | (apply guardI; kernel_rfl) | (apply WhenQ.mk; (try (conv => whnf)); rotate_left; (try (conv => whnf)); rotate_right) | (with_reducible assumption) | (apply not_of; with_reducible assumption) | (apply left_of; with_reducible assumption) | (apply left_of; apply left_of; with_reducible assumption) | (apply and_of <;> first | (with_reducible assumption) | (apply not_of; with_reducible assumption))| (refine lin_plan (by kernel_rfl) ?_; (try (conv => whnf))) | (refine ⟨_, _, rfl, idx_map (by with_reducible assumption), rfl, ?_⟩; (try (conv => whnf))) | (refine ⟨rfl, ?_⟩; (try (conv => whnf))) | (exact Nat.le_refl 1) | ((apply ex3); (focus (with_reducible assumption)); (focus (with_reducible assumption)); (try (conv => whnf))) | ((apply ex2); (focus (with_reducible assumption)); (try (conv => whnf))) | (refine PureFn.dcq (f := 137) rfl ?_; (try (conv => whnf))) | ((refine ⟨_, _, ref_node ?_ ?_, ?_, ?_⟩); rotate_left 2; (focus (first | (refine ⟨?_, ?_, trivial⟩ <;> first | (exact PLe.refl _) | (exact PLe.nil)) | (exact trivial))); (try (conv => whnf))) | (refine ⟨_, (by (conv => whnf); exact ref_node _ _), rfl, ?_⟩; (try (conv => whnf))) | fail)
  · rw [oneL, h]; exact .nil
  · rw [oneL, h]; exact .refl _
theorem take_snoc {f : List Nd} {i : Nat} (h : i < f.length) : (f.take i).map Nd.pv ++ [(f[i]).pv] = (f.take (i + 1)).map Nd.pv := by
  rw [List.take_succ_eq_append_getElem h, List.map_append]; rfl
theorem wrap_last {f : List Nd} (h2 : f.length ≤ 400) : IntKind.wrap .i64 (((f.map Nd.pv).length : Int) - 1) = (f.length : Int) - 1 := by
  rw [List.length_map]; exact wrapA rfl (by omega) (by omega)
theorem ref_Unary (x : Nd) (f : List Nd) : PureFn Try.prog 118 [x.pv, fpv f] (fpv (unL x f)) := by
  refine PureFn.introC [4] mixed (fn := Try.f118) rfl rfl rfl fun M w0 => ?_
  (try (conv => whnf)); repeat' (first | (apply And.intro <;> (try (conv => whnf))) | (intro h; first | (with_reducible exact tf0 h) | (with_reducible exact ft0 h) | (with_reducible exact nt0 h) | (with_reducible exact nf0 h) | (exact litz h rfl) | (with_reducible exact tf h (by with_reducible assumption)) | (with_reducible exact tf (by with_reducible assumption) h) | (try (conv => whnf))) | (with_reducible rfl) | (apply True.intro) | (apply infoT; rfl) | (apply bleI; rfl) | (apply fitI; rfl) | (apply cellsI; rfl) | (apply szI; rfl) | (apply guardI; kernel_rfl) | (apply WhenQ.mk; (try (conv => whnf)); rotate_left; (try (conv => whnf)); rotate_right) | (with_reducible assumption) | (apply not_of; with_reducible assumption) | (apply left_of; with_reducible assumption) | (apply left_of; apply left_of; with_reducible assumption) | (apply and_of <;> first | (with_reducible assumption) | (apply not_of; with_reducible assumption))| (refine lin_plan (by kernel_rfl) ?_; (try (conv => whnf))) | (refine ⟨_, _, rfl, idx_map (by with_reducible assumption), rfl, ?_⟩; (try (conv => whnf))) | (refine ⟨rfl, ?_⟩; (try (conv => whnf))) | (exact Nat.le_refl 1) | ((apply ex3); (focus (with_reducible assumption)); (focus (with_reducible assumption)); (try (conv => whnf))) | ((apply ex2); (focus (with_reducible assumption)); (try (conv => whnf))) | (refine PureFn.dcq (f := 96) rfl ?_; (try (conv => whnf))) | ((refine ⟨_, _, ref_Check ?_, ?_, ?_⟩); rotate_left 1; (focus (first | (refine ⟨?_, trivial⟩ <;> first | (exact PLe.refl _) | (exact PLe.nil)) | (exact trivial))); (try (conv => whnf))) | (refine ⟨_, (by (conv => whnf); exact ref_Check _), rfl, ?_⟩; (try (conv => whnf))) | fail)
  · rw [unL, h]; exact .nil
  · have hc : check f = 0 := by simpa using h
    obtain ⟨l1, l2, _⟩ := check_ok hc
    rw [unL, h]
    simp only [cond_false]
    have hw := wrap_last (f := f) (by omega)
    obtain ⟨y, hy⟩ : ∃ y : Nd, y = { x with x := (f.length : Int) - 1 } := ⟨_, rfl⟩
    rw [← hy]
    refine ⟨Unit, fun _ => [(1, .pv (fpv f)), (2, .ref 0 0)], fun _ => 1, fun _ => [(0, .var y.dvs)], ?_, ?_⟩
    · (try (conv => whnf)); repeat' (first | (apply And.intro <;> (try (conv => whnf))) | (intro h; first | (with_reducible exact tf0 h) | (with_reducible exact ft0 h) | (with_reducible exact nt0 h) | (with_reducible exact nf0 h) | (exact litz h rfl) | (with_reducible exact tf h (by with_reducible assumption)) | (with_reducible exact tf (by with_reducible assumption) h) | (try (conv => whnf))) | (with_reducible rfl) | (apply True.intro) | (apply infoT; rfl) | (apply bleI; rfl) | (apply fitI; rfl) | (apply cellsI; rfl) | (apply szI; rfl) | (apply guardI; kernel_rfl) | (apply WhenQ.mk; (try (conv => whnf)); rotate_left; (try (conv => whnf)); rotate_right) | (with_reducible assumption) | (apply not_of; with_reducible assumption) | (apply left_of; with_reducible assumption) | (apply left_of; apply left_of; with_reducible assumption) | (apply and_of <;> first | (with_reducible assumption) | (apply not_of; with_reducible assumption))| (refine lin_plan (by kernel_rfl) ?_; (try (conv => whnf))) | (refine ⟨_, _, rfl, idx_map (by with_reducible assumption), rfl, ?_⟩; (try (conv => whnf))) | (refine ⟨rfl, ?_⟩; (try (conv => whnf))) | (exact Nat.le_refl 1) | ((apply ex3); (focus (with_reducible assumption)); (focus (with_reducible assumption)); (try (conv => whnf))) | ((apply ex2); (focus (with_reducible assumption)); (try (conv => whnf))) | fail)
      refine ⟨(), ?_⟩
      subst hy
      (refine Wk.of ?_ ?_ rfl rfl rfl <;> (repeat' (first | (exact trivial) | (exact WkD.same _) | (exact WkO.same _ _ rfl) | (exact WkD.any _) | (refine WkD.int ?_) | (exact WkD.new' rfl rfl rfl) | (exact WkO.new _ _ rfl) | (refine WkO.vars rfl ?_) | (with_reducible rfl) | (exact rfl) | (refine ⟨?_, ?_⟩) | ((refine wrapA ?_ ?_ ?_); (focus (simp; done)); (focus ((try dsimp only); omega)); (focus ((try dsimp only); omega))) | fail)))
      all_goals exact hw
    · rintro ⟨⟩
      have hne := ref_node y (f.map Nd.pv).length
      (try (conv => whnf)); repeat' (first | (apply And.intro <;> (try (conv => whnf))) | (intro h; first | (with_reducible exact tf0 h) | (with_reducible exact ft0 h) | (with_reducible exact nt0 h) | (with_reducible exact nf0 h) | (exact litz h rfl) | (with_reducible exact tf h (by with_reducible assumption)) | (with_reducible exact tf (by with_reducible assumption) h) | (try (conv => whnf))) | (with_reducible rfl) | (apply True.intro) | (apply infoT; rfl) | (apply bleI; rfl) | (apply fitI; rfl) | (apply cellsI; rfl) | (apply szI; rfl) | (apply guardI; kernel_rfl) | (apply WhenQ.mk; (try (conv => whnf)); rotate_left; (try (conv => whnf)); rotate_right) | (with_reducible assumption) | (apply not_of; with_reducible assumption) | (apply left_of; with_reducible assumption) | (apply left_of; apply left_of; with_reducible assumption) | (apply and_of <;> first | (with_reducible assumption) | (apply not_of; with_reducible assumption))| (refine lin_plan (by kernel_rfl) ?_; (try (conv => whnf))) | (refine ⟨_, _, rfl, idx_map (by with_reducible assumption), rfl, ?_⟩; (try (conv => whnf))) | (refine ⟨rfl, ?_⟩; (try (conv => whnf))) | (exact Nat.le_refl 1) | ((apply ex3); (focus (with_reducible assumption)); (focus (with_reducible assumption)); (try (conv => whnf))) | ((apply ex2); (focus (with_reducible assumption)); (try (conv => whnf))) | (refine PureFn.dcq (f := 137) rfl ?_; (try (conv => whnf))) | ((refine ⟨_, _, hne, ?_, ?_⟩); (focus (first | (refine ⟨?_, ?_, trivial⟩ <;> first | (exact PLe.refl _) | (exact PLe.nil)) | (exact trivial))); (try (conv => whnf))) | (refine ⟨_, (by (conv => whnf); exact hne), rfl, ?_⟩; (try (conv => whnf))) | fail)
      · rw [List.length_map] at h
        rw [h]; exact .nil
      · rw [List.length_map] at h
        have hok : OkNd y f.length := nodeErr_ok.1 (by simpa using h)
        rw [h]
        simp only [cond_false]
        have hs : PureFn Try.prog 140 [.sl ((f.take f.length).map Nd.pv ++ [y.pv])] (fpv (shortL (f ++ [y]))) := by
          have := ref_short (f ++ [y]) (okl_snoc (check_okl hc) hok) (by simp)
          rwa [show fpv (f ++ [y]) = .sl ((f.take f.length).map Nd.pv ++ [y.pv]) from congrArg PV.sl (by rw [List.take_length, List.map_append]; rfl)] at this
        refine ⟨{ i : Nat // i ≤ f.length }, fun i => [(1, .pv (fpv f)), (2, .ref 0 0), (5, .buf 1 ((f.take i.1).map Nd.pv).length), (6, .pv (.int .i64 (i.1 : Nat)))], fun _ => 2, fun i => [(0, .var y.dvs), (1, .arr 6 ((f.take i.1).map Nd.pv))], fun i => f.length - i.1,
          ⟨⟨0, Nat.zero_le _⟩, (by refine Wk.of ?_ ?_ rfl rfl rfl <;> (repeat' (first | (exact trivial) | (exact WkD.same _) | (exact WkO.same _ _ rfl) | (exact WkD.any _) | (refine WkD.int ?_) | (exact WkD.new' rfl rfl rfl) | (exact WkO.new _ _ rfl) | (refine WkO.vars rfl ?_) | (with_reducible rfl) | (exact rfl) | (refine ⟨?_, ?_⟩) | ((refine wrapA ?_ ?_ ?_); (focus (simp; done)); (focus ((try dsimp only); omega)); (focus ((try dsimp only); omega))) | fail)))⟩, ?_⟩
        rintro ⟨i, hi⟩
        (try (conv => whnf)); repeat' (first | (apply And.intro <;> (try (conv => whnf))) | (intro h; first | (with_reducible exact tf0 h) | (with_reducible exact ft0 h) | (with_reducible exact nt0 h) | (with_reducible exact nf0 h) | (exact litz h rfl) | (with_reducible exact tf h (by with_reducible assumption)) | (with_reducible exact tf (by with_reducible assumption) h) | (try (conv => whnf))) | (with_reducible rfl) | (apply True.intro) | (apply infoT; rfl) | (apply bleI; rfl) | (apply fitI; rfl) | (apply cellsI; rfl) | (apply szI; rfl) | (apply guardI; kernel_rfl) | (apply WhenQ.mk; (try (conv => whnf)); rotate_left; (try (conv => whnf)); rotate_right) | (with_reducible assumption) | (apply not_of; with_reducible assumption) | (apply left_of; with_reducible assumption) | (apply left_of; apply left_of; with_reducible assumption) | (apply and_of <;> first | (with_reducible assumption) | (apply not_of; with_reducible assumption))| (refine lin_plan (by kernel_rfl) ?_; (try (conv => whnf))) | (refine ⟨_, _, rfl, idx_map (by with_reducible assumption), rfl, ?_⟩; (try (conv => whnf))) | (refine ⟨rfl, ?_⟩; (try (conv => whnf))) | (exact Nat.le_refl 1) | ((apply ex3); (focus (with_reducible assumption)); (focus (with_reducible assumption)); (try (conv => whnf))) | ((apply ex2); (focus (with_reducible assumption)); (try (conv => whnf))) | fail)
        · have hi' : i < f.length := by simp at h; omega
          have hn : f[i]? = some f[i] := List.getElem?_eq_getElem hi'
          have ht := take_snoc hi'
          (try (conv => whnf)); repeat' (first | (apply And.intro <;> (try (conv => whnf))) | (intro h; first | (with_reducible exact tf0 h) | (with_reducible exact ft0 h) | (with_reducible exact nt0 h) | (with_reducible exact nf0 h) | (exact litz h rfl) | (with_reducible exact tf h (by with_reducible assumption)) | (with_reducible exact tf (by with_reducible assumption) h) | (try (conv => whnf))) | (with_reducible rfl) | (apply True.intro) | (apply infoT; rfl) | (apply bleI; rfl) | (apply fitI; rfl) | (apply cellsI; rfl) | (apply szI; rfl) | (apply guardI; kernel_rfl) | (apply WhenQ.mk; (try (conv => whnf)); rotate_left; (try (conv => whnf)); rotate_right) | (with_reducible assumption) | (apply not_of; with_reducible assumption) | (apply left_of; with_reducible assumption) | (apply left_of; apply left_of; with_reducible assumption) | (apply and_of <;> first | (with_reducible assumption) | (apply not_of; with_reducible assumption))| (refine lin_plan (by kernel_rfl) ?_; (try (conv => whnf))) | (refine ⟨_, _, rfl, idx_map (by with_reducible assumption), rfl, ?_⟩; (try (conv => whnf))) | (refine ⟨rfl, ?_⟩; (try (conv => whnf))) | (exact Nat.le_refl 1) | ((apply ex3); (focus (with_reducible assumption)); (focus (with_reducible assumption)); (try (conv => whnf))) | ((apply ex2); (focus (with_reducible assumption)); (try (conv => whnf))) | fail)
          · show ((f.take i).map Nd.pv).length + 1 ≤ 4294967296
            rw [List.length_map, List.length_take]; omega
          · exact ⟨⟨i + 1, hi'⟩, by show f.length - (i + 1) < f.length - i; omega, (by refine Wk.of ?_ ?_ rfl rfl rfl <;> (repeat' (first | (exact trivial) | (exact WkD.same _) | (exact WkO.same _ _ rfl) | (exact WkD.eq (congrArg (fun z : List PV => DV.buf _ z.length) ht)) | (exact WkO.same _ _ (congrArg (fun z => some (DObj.arr _ z)) ht)) | (exact WkD.any _) | (refine WkD.int ?_) | (exact WkD.new' rfl rfl rfl) | (exact WkO.new _ _ rfl) | (refine WkO.vars rfl ?_) | (with_reducible rfl) | (exact rfl) | (refine ⟨?_, ?_⟩) | ((refine wrapA ?_ ?_ ?_); (focus (simp; done)); (focus ((try dsimp only); omega)); (focus ((try dsimp only); omega))) | fail)))⟩
        · show ((f.take i).map Nd.pv).length + 1 ≤ 4294967296
          rw [List.length_map, List.length_take]; omega
        · have hi' : i = f.length := by simp at *; omega
          subst hi'
          (try (conv => whnf)); repeat' (first | (apply And.intro <;> (try (conv => whnf))) | (intro h; first | (with_reducible exact tf0 h) | (with_reducible exact ft0 h) | (with_reducible exact nt0 h) | (with_reducible exact nf0 h) | (exact litz h rfl) | (with_reducible exact tf h (by with_reducible assumption)) | (with_reducible exact tf (by with_reducible assumption) h) | (try (conv => whnf))) | (with_reducible rfl) | (apply True.intro) | (apply infoT; rfl) | (apply bleI; rfl) | (apply fitI; rfl) | (apply cellsI; rfl) | (apply szI; rfl) | (apply guardI; kernel_rfl) | (apply WhenQ.mk; (try (conv => whnf)); rotate_left; (try (conv => whnf)); rotate_right) | (with_reducible assumption) | (apply not_of; with_reducible assumption) | (apply left_of; with_reducible assumption) | (apply left_of; apply left_of; with_reducible assumption) | (apply and_of <;> first | (with_reducible assumption) | (apply not_of; with_reducible assumption))| (refine lin_plan (by kernel_rfl) ?_; (try (conv => whnf))) | (refine ⟨_, _, rfl, idx_map (by with_reducible assumption), rfl, ?_⟩; (try (conv => whnf))) | (refine ⟨rfl, ?_⟩; (try (conv => whnf))) | (exact Nat.le_refl 1) | ((apply ex3); (focus (with_reducible assumption)); (focus (with_reducible assumption)); (try (conv => whnf))) | ((apply ex2); (focus (with_reducible assumption)); (try (conv => whnf))) | (refine PureFn.dcq (f := 140) rfl ?_; (try (conv => whnf))) | ((refine ⟨_, _, hs, ?_, ?_⟩); (focus (first | (refine ⟨?_, trivial⟩ <;> first | (exact PLe.refl _) | (exact PLe.nil)) | (exact trivial))); (try (conv => whnf))) | (refine ⟨_, (by (conv => whnf); exact hs), rfl, ?_⟩; (try (conv => whnf))) | fail)
          exact .refl _
theorem shL_full {f : List Nd} (c : List Nd) : (f.take f.length).map Nd.pv = shL f c 0 := by rw [List.take_length]; exact shL_zero f c
theorem ref_Binary (x : Nd) (f g : List Nd) : PureFn Try.prog 144 [x.pv, fpv f, fpv g] (fpv (binL x f g)) := by
  refine PureFn.introC [14, 16, 18] mixed (fn := Try.f144) rfl rfl rfl fun M w0 => ?_
  (try (conv => whnf)); repeat' (first | (apply And.intro <;> (try (conv => whnf))) | (intro h; first | (with_reducible exact tf0 h) | (with_reducible exact ft0 h) | (with_reducible exact nt0 h) | (with_reducible exact nf0 h) | (exact litz h rfl) | (with_reducible exact tf h (by with_reducible assumption)) | (with_reducible exact tf (by with_reducible assumption) h) | (try (conv => whnf))) | (with_reducible rfl) | (apply True.intro) | (apply infoT; rfl) | (apply bleI; rfl) | (apply fitI; rfl) | (apply cellsI; rfl) | (apply szI; rfl) | (apply guardI; kernel_rfl) | (apply WhenQ.mk; (try (conv => whnf)); rotate_left; (try (conv => whnf)); rotate_right) | (with_reducible assumption) | (apply not_of; with_reducible assumption) | (apply left_of; with_reducible assumption) | (apply left_of; apply left_of; with_reducible assumption) | (apply and_of <;> first | (with_reducible assumption) | (apply not_of; with_reducible assumption))| (refine lin_plan (by kernel_rfl) ?_; (try (conv => whnf))) | (refine ⟨_, _, rfl, idx_map (by with_reducible assumption), rfl, ?_⟩; (try (conv => whnf))) | (refine ⟨rfl, ?_⟩; (try (conv => whnf))) | (exact Nat.le_refl 1) | ((apply ex3); (focus (with_reducible assumption)); (focus (with_reducible assumption)); (try (conv => whnf))) | ((apply ex2); (focus (with_reducible assumption)); (try (conv => whnf))) | (refine PureFn.dcq (f := 96) rfl ?_; (try (conv => whnf))) | ((refine ⟨_, _, ref_Check ?_, ?_, ?_⟩); rotate_left 1; (focus (first | (refine ⟨?_, trivial⟩ <;> first | (exact PLe.refl _) | (exact PLe.nil)) | (exact trivial))); (try (conv => whnf))) | (refine ⟨_, (by (conv => whnf); exact ref_Check _), rfl, ?_⟩; (try (conv => whnf))) | fail)
  · rw [binL, h]; exact .nil
  · have hcd : check f = 0 ∧ check g = 0 := by
      cases h1 : (check f != 0) with
      | true => rw [h1] at h; simp at h
      | false => rw [h1] at h; exact ⟨by simpa using h1, by simpa using h⟩
    obtain ⟨hc, hd⟩ := hcd
    obtain ⟨l1, l2, _⟩ := check_ok hc
    obtain ⟨m1, m2, _⟩ := check_ok hd
    have hgo := check_okl hd
    rw [binL, h]
    simp only [cond_false]
    obtain ⟨L, hL⟩ : ∃ L, L = f ++ g.map (shN f.length) := ⟨_, rfl⟩
    have hLl : L.length = f.length + g.length := by rw [hL, List.length_append, List.length_map]
    have hLo : Okl L := hL ▸ okl_append (check_okl hc) hgo
    have hend : shL f g g.length = L.map Nd.pv := by rw [hL]; exact shL_end f g
    obtain ⟨z, hz⟩ : ∃ z : Nd, z = { x with x := (f.length : Int) - 1, y := (L.length : Int) - 1 } := ⟨_, rfl⟩
    rw [show binN x f g = z by rw [binN, ← hL, hz], ← hL]
    refine ⟨{ i : Nat // i ≤ f.length }, fun i => [(1, .pv (fpv f)), (2, .pv (fpv g)), (3, .ref 0 0), (7, .buf 1 ((f.take i.1).map Nd.pv).length), (8, .pv (.int .i64 (i.1 : Nat)))], fun _ => 2, fun i => [(0, .var x.dvs), (1, .arr 6 ((f.take i.1).map Nd.pv))], fun i => f.length - i.1,
      ⟨⟨0, Nat.zero_le _⟩, (by refine Wk.of ?_ ?_ rfl rfl rfl <;> (repeat' (first | (exact trivial) | (exact WkD.same _) | (exact WkO.same _ _ rfl) | (exact WkD.any _) | (refine WkD.int ?_) | (exact WkD.new' rfl rfl rfl) | (exact WkO.new _ _ rfl) | (refine WkO.vars rfl ?_) | (with_reducible rfl) | (exact rfl) | (refine ⟨?_, ?_⟩) | ((refine wrapA ?_ ?_ ?_); (focus (simp; done)); (focus ((try dsimp only); omega)); (focus ((try dsimp only); omega))) | fail)))⟩, ?_⟩
    rintro ⟨i, hi⟩
    (try (conv => whnf)); repeat' (first | (apply And.intro <;> (try (conv => whnf))) | (intro h; first | (with_reducible exact tf0 h) | (with_reducible exact ft0 h) | (with_reducible exact nt0 h) | (with_reducible exact nf0 h) | (exact litz h rfl) | (with_reducible exact tf h (by with_reducible assumption)) | (with_reducible exact tf (by with_reducible assumption) h) | (try (conv => whnf))) | (with_reducible rfl) | (apply True.intro) | (apply infoT; rfl) | (apply bleI; rfl) | (apply fitI; rfl) | (apply cellsI; rfl) | (apply szI; rfl) | (apply guardI; kernel_rfl) | (apply WhenQ.mk; (try (conv => whnf)); rotate_left; (try (conv => whnf)); rotate_right) | (with_reducible assumption) | (apply not_of; with_reducible assumption) | (apply left_of; with_reducible assumption) | (apply left_of; apply left_of; with_reducible assumption) | (apply and_of <;> first | (with_reducible assumption) | (apply not_of; with_reducible assumption))| (refine lin_plan (by kernel_rfl) ?_; (try (conv => whnf))) | (refine ⟨_, _, rfl, idx_map (by with_reducible assumption), rfl, ?_⟩; (try (conv => whnf))) | (refine ⟨rfl, ?_⟩; (try (conv => whnf))) | (exact Nat.le_refl 1) | ((apply ex3); (focus (with_reducible assumption)); (focus (with_reducible assumption)); (try (conv => whnf))) | ((apply ex2); (focus (with_reducible assumption)); (try (conv => whnf))) | fail)
    · have hi' : i < f.length := by simp at h; omega
      have hn : f[i]? = some f[i] := List.getElem?_eq_getElem hi'
      have ht := take_snoc hi'
      (try (conv => whnf)); repeat' (first | (apply And.intro <;> (try (conv => whnf))) | (intro h; first | (with_reducible exact tf0 h) | (with_reducible exact ft0 h) | (with_reducible exact nt0 h) | (with_reducible exact nf0 h) | (exact litz h rfl) | (with_reducible exact tf h (by with_reducible assumption)) | (with_reducible exact tf (by with_reducible assumption) h) | (try (conv => whnf))) | (with_reducible rfl) | (apply True.intro) | (apply infoT; rfl) | (apply bleI; rfl) | (apply fitI; rfl) | (apply cellsI; rfl) | (apply szI; rfl) | (apply guardI; kernel_rfl) | (apply WhenQ.mk; (try (conv => whnf)); rotate_left; (try (conv => whnf)); rotate_right) | (with_reducible assumption) | (apply not_of; with_reducible assumption) | (apply left_of; with_reducible assumption) | (apply left_of; apply left_of; with_reducible assumption) | (apply and_of <;> first | (with_reducible assumption) | (apply not_of; with_reducible assumption))| (refine lin_plan (by kernel_rfl) ?_; (try (conv => whnf))) | (refine ⟨_, _, rfl, idx_map (by with_reducible assumption), rfl, ?_⟩; (try (conv => whnf))) | (refine ⟨rfl, ?_⟩; (try (conv => whnf))) | (exact Nat.le_refl 1) | ((apply ex3); (focus (with_reducible assumption)); (focus (with_reducible assumption)); (try (conv => whnf))) | ((apply ex2); (focus (with_reducible assumption)); (try (conv => whnf))) | fail)
      · show ((f.take i).map Nd.pv).length + 1 ≤ 4294967296
        rw [List.length_map, List.length_take]; omega
      · exact ⟨⟨i + 1, hi'⟩, by show f.length - (i + 1) < f.length - i; omega, (by refine Wk.of ?_ ?_ rfl rfl rfl <;> (repeat' (first | (exact trivial) | (exact WkD.same _) | (exact WkO.same _ _ rfl) | (exact WkD.eq (congrArg (fun z : List PV => DV.buf _ z.length) ht)) | (exact WkO.same _ _ (congrArg (fun z => some (DObj.arr _ z)) ht)) | (exact WkD.any _) | (refine WkD.int ?_) | (exact WkD.new' rfl rfl rfl) | (exact WkO.new _ _ rfl) | (refine WkO.vars rfl ?_) | (with_reducible rfl) | (exact rfl) | (refine ⟨?_, ?_⟩) | ((refine wrapA ?_ ?_ ?_); (focus (simp; done)); (focus ((try dsimp only); omega)); (focus ((try dsimp only); omega))) | fail)))⟩
    · have hi' : i = f.length := by simp at h; omega
      subst hi'
      have h0 := shL_full (f := f) g
      refine ⟨{ j : Nat // j ≤ g.length }, fun j => [(1, .pv (fpv f)), (2, .pv (fpv g)), (3, .ref 0 0), (7, .buf 1 (shL f g j.1).length), (9, .pv (.int .i64 (j.1 : Nat)))], fun _ => 2, fun j => [(0, .var x.dvs), (1, .arr 6 (shL f g j.1))], fun j => g.length - j.1,
        ⟨⟨0, Nat.zero_le _⟩, (by refine Wk.of ?_ ?_ rfl rfl rfl <;> (repeat' (first | (exact trivial) | (exact WkD.same _) | (exact WkO.same _ _ rfl) | (exact WkD.eq (congrArg (fun z : List PV => DV.buf _ z.length) h0)) | (exact WkO.same _ _ (congrArg (fun z => some (DObj.arr _ z)) h0)) | (exact WkD.any _) | (refine WkD.int ?_) | (exact WkD.new' rfl rfl rfl) | (exact WkO.new _ _ rfl) | (refine WkO.vars rfl ?_) | (with_reducible rfl) | (exact rfl) | (refine ⟨?_, ?_⟩) | ((refine wrapA ?_ ?_ ?_); (focus (simp; done)); (focus ((try dsimp only); omega)); (focus ((try dsimp only); omega))) | fail)))⟩, ?_⟩
      rintro ⟨j, hj⟩
      (try (conv => whnf)); repeat' (first | (apply And.intro <;> (try (conv => whnf))) | (intro h; first | (with_reducible exact tf0 h) | (with_reducible exact ft0 h) | (with_reducible exact nt0 h) | (with_reducible exact nf0 h) | (exact litz h rfl) | (with_reducible exact tf h (by with_reducible assumption)) | (with_reducible exact tf (by with_reducible assumption) h) | (try (conv => whnf))) | (with_reducible rfl) | (apply True.intro) | (apply infoT; rfl) | (apply bleI; rfl) | (apply fitI; rfl) | (apply cellsI; rfl) | (apply szI; rfl) | (apply guardI; kernel_rfl) | (apply WhenQ.mk; (try (conv => whnf)); rotate_left; (try (conv => whnf)); rotate_right) | (with_reducible assumption) | (apply not_of; with_reducible assumption) | (apply left_of; with_reducible assumption) | (apply left_of; apply left_of; with_reducible assumption) | (apply and_of <;> first | (with_reducible assumption) | (apply not_of; with_reducible assumption))| (refine lin_plan (by kernel_rfl) ?_; (try (conv => whnf))) | (refine ⟨_, _, rfl, idx_map (by with_reducible assumption), rfl, ?_⟩; (try (conv => whnf))) | (refine ⟨rfl, ?_⟩; (try (conv => whnf))) | (exact Nat.le_refl 1) | ((apply ex3); (focus (with_reducible assumption)); (focus (with_reducible assumption)); (try (conv => whnf))) | ((apply ex2); (focus (with_reducible assumption)); (try (conv => whnf))) | fail)
      · have hj' : j < g.length := by simp at h; omega
        have hn : g[j]? = some g[j] := List.getElem?_eq_getElem hj'
        have hs := shL_succ (F := f) hj'
        have hok := hgo j _ hn
        generalize g[j] = n at hn hs hok
        (try (conv => whnf)); repeat' (first | (apply And.intro <;> (try (conv => whnf))) | (intro h; first | (with_reducible exact tf0 h) | (with_reducible exact ft0 h) | (with_reducible exact nt0 h) | (with_reducible exact nf0 h) | (exact litz h rfl) | (with_reducible exact tf h (by with_reducible assumption)) | (with_reducible exact tf (by with_reducible assumption) h) | (try (conv => whnf))) | (with_reducible rfl) | (apply True.intro) | (apply infoT; rfl) | (apply bleI; rfl) | (apply fitI; rfl) | (apply cellsI; rfl) | (apply szI; rfl) | (apply guardI; kernel_rfl) | (apply WhenQ.mk; (try (conv => whnf)); rotate_left; (try (conv => whnf)); rotate_right) | (with_reducible assumption) | (apply not_of; with_reducible assumption) | (apply left_of; with_reducible assumption) | (apply left_of; apply left_of; with_reducible assumption) | (apply and_of <;> first | (with_reducible assumption) | (apply not_of; with_reducible assumption))| (refine lin_plan (by kernel_rfl) ?_; (try (conv => whnf))) | (refine ⟨_, _, rfl, idx_map (by with_reducible assumption), rfl, ?_⟩; (try (conv => whnf))) | (refine ⟨rfl, ?_⟩; (try (conv => whnf))) | (exact Nat.le_refl 1) | ((apply ex3); (focus (with_reducible assumption)); (focus (with_reducible assumption)); (try (conv => whnf))) | ((apply ex2); (focus (with_reducible assumption)); (try (conv => whnf))) | (refine PureFn.dcq (f := 152) rfl ?_; (try (conv => whnf))) | ((refine ⟨_, _, ref_UsesX ?_, ?_, ?_⟩); rotate_left 1; (focus (first | (refine ⟨?_, trivial⟩ <;> first | (exact PLe.refl _) | (exact PLe.nil)) | (exact trivial))); (try (conv => whnf))) | (refine ⟨_, (by (conv => whnf); exact ref_UsesX _), rfl, ?_⟩; (try (conv => whnf))) | fail)
        refine ⟨{ q : Nd // q = shX f.length n }, fun q => [(1, .pv (fpv f)), (2, .pv (fpv g)), (3, .ref 0 0), (7, .buf 1 (shL f g j).length), (9, .pv (.int .i64 (j : Nat))), (10, .ref 2 0)], fun _ => 3, fun q => [(0, .var x.dvs), (1, .arr 6 (shL f g j)), (2, .var q.1.dvs)], ?_, ?_⟩
        · (try (conv => whnf)); repeat' (first | (apply And.intro <;> (try (conv => whnf))) | (intro h; first | (with_reducible exact tf0 h) | (with_reducible exact ft0 h) | (with_reducible exact nt0 h) | (with_reducible exact nf0 h) | (exact litz h rfl) | (with_reducible exact tf h (by with_reducible assumption)) | (with_reducible exact tf (by with_reducible assumption) h) | (try (conv => whnf))) | (with_reducible rfl) | (apply True.intro) | (apply infoT; rfl) | (apply bleI; rfl) | (apply fitI; rfl) | (apply cellsI; rfl) | (apply szI; rfl) | (apply guardI; kernel_rfl) | (apply WhenQ.mk; (try (conv => whnf)); rotate_left; (try (conv => whnf)); rotate_right) | (with_reducible assumption) | (apply not_of; with_reducible assumption) | (apply left_of; with_reducible assumption) | (apply left_of; apply left_of; with_reducible assumption) | (apply and_of <;> first | (with_reducible assumption) | (apply not_of; with_reducible assumption))| (refine lin_plan (by kernel_rfl) ?_; (try (conv => whnf))) | (refine ⟨_, _, rfl, idx_map (by with_reducible assumption), rfl, ?_⟩; (try (conv => whnf))) | (refine ⟨rfl, ?_⟩; (try (conv => whnf))) | (exact Nat.le_refl 1) | ((apply ex3); (focus (with_reducible assumption)); (focus (with_reducible assumption)); (try (conv => whnf))) | ((apply ex2); (focus (with_reducible assumption)); (try (conv => whnf))) | (refine PureFn.dcq (f := 152) rfl ?_; (try (conv => whnf))) | ((refine ⟨_, _, ref_UsesX ?_, ?_, ?_⟩); rotate_left 1; (focus (first | (refine ⟨?_, trivial⟩ <;> first | (exact PLe.refl _) | (exact PLe.nil)) | (exact trivial))); (try (conv => whnf))) | (refine ⟨_, (by (conv => whnf); exact ref_UsesX _), rfl, ?_⟩; (try (conv => whnf))) | fail)
          · have := hok.x h
            refine ⟨⟨{ n with x := n.x + f.length }, by rw [shX, h]; rfl⟩, ?_⟩
            (refine Wk.of ?_ ?_ rfl rfl rfl <;> (repeat' (first | (exact trivial) | (exact WkD.same _) | (exact WkO.same _ _ rfl) | (exact WkD.any _) | (refine WkD.int ?_) | (exact WkD.new' rfl rfl rfl) | (exact WkO.new _ _ rfl) | (refine WkO.vars rfl ?_) | (with_reducible rfl) | (exact rfl) | (refine ⟨?_, ?_⟩) | ((refine wrapA ?_ ?_ ?_); (focus (simp; done)); (focus ((try dsimp only); omega)); (focus ((try dsimp only); omega))) | fail)))
            exact wrapA (by simp) (by rw [List.length_map]; omega) (by rw [List.length_map]; omega)
          · exact ⟨⟨n, by rw [shX, h]; rfl⟩, (by refine Wk.of ?_ ?_ rfl rfl rfl <;> (repeat' (first | (exact trivial) | (exact WkD.same _) | (exact WkO.same _ _ rfl) | (exact WkD.any _) | (refine WkD.int ?_) | (exact WkD.new' rfl rfl rfl) | (exact WkO.new _ _ rfl) | (refine WkO.vars rfl ?_) | (with_reducible rfl) | (exact rfl) | (refine ⟨?_, ?_⟩) | ((refine wrapA ?_ ?_ ?_); (focus (simp; done)); (focus ((try dsimp only); omega)); (focus ((try dsimp only); omega))) | fail)))⟩
        · rintro ⟨q, rfl⟩
          have ho := shX_op f.length n
          (try (conv => whnf)); repeat' (first | (apply And.intro <;> (try (conv => whnf))) | (intro h; first | (with_reducible exact tf0 h) | (with_reducible exact ft0 h) | (with_reducible exact nt0 h) | (with_reducible exact nf0 h) | (exact litz h rfl) | (with_reducible exact tf h (by with_reducible assumption)) | (with_reducible exact tf (by with_reducible assumption) h) | (try (conv => whnf))) | (with_reducible rfl) | (apply True.intro) | (apply infoT; rfl) | (apply bleI; rfl) | (apply fitI; rfl) | (apply cellsI; rfl) | (apply szI; rfl) | (apply guardI; kernel_rfl) | (apply WhenQ.mk; (try (conv => whnf)); rotate_left; (try (conv => whnf)); rotate_right) | (with_reducible assumption) | (apply not_of; with_reducible assumption) | (apply left_of; with_reducible assumption) | (apply left_of; apply left_of; with_reducible assumption) | (apply and_of <;> first | (with_reducible assumption) | (apply not_of; with_reducible assumption))| (refine lin_plan (by kernel_rfl) ?_; (try (conv => whnf))) | (refine ⟨_, _, rfl, idx_map (by with_reducible assumption), rfl, ?_⟩; (try (conv => whnf))) | (refine ⟨rfl, ?_⟩; (try (conv => whnf))) | (exact Nat.le_refl 1) | ((apply ex3); (focus (with_reducible assumption)); (focus (with_reducible assumption)); (try (conv => whnf))) | ((apply ex2); (focus (with_reducible assumption)); (try (conv => whnf))) | (refine PureFn.dcq (f := 153) rfl ?_; (try (conv => whnf))) | ((refine ⟨_, _, ref_UsesY ?_, ?_, ?_⟩); rotate_left 1; (focus (first | (refine ⟨?_, trivial⟩ <;> first | (exact PLe.refl _) | (exact PLe.nil)) | (exact trivial))); (try (conv => whnf))) | (refine ⟨_, (by (conv => whnf); exact ref_UsesY _), rfl, ?_⟩; (try (conv => whnf))) | fail)
          refine ⟨{ q : Nd // q = shN f.length n }, fun q => [(1, .pv (fpv f)), (2, .pv (fpv g)), (3, .ref 0 0), (7, .buf 1 (shL f g j).length), (9, .pv (.int .i64 (j : Nat))), (10, .ref 2 0)], fun _ => 3, fun q => [(0, .var x.dvs), (1, .arr 6 (shL f g j)), (2, .var q.1.dvs)], ?_, ?_⟩
          · (try (conv => whnf)); repeat' (first | (apply And.intro <;> (try (conv => whnf))) | (intro h; first | (with_reducible exact tf0 h) | (with_reducible exact ft0 h) | (with_reducible exact nt0 h) | (with_reducible exact nf0 h) | (exact litz h rfl) | (with_reducible exact tf h (by with_reducible assumption)) | (with_reducible exact tf (by with_reducible assumption) h) | (try (conv => whnf))) | (with_reducible rfl) | (apply True.intro) | (apply infoT; rfl) | (apply bleI; rfl) | (apply fitI; rfl) | (apply cellsI; rfl) | (apply szI; rfl) | (apply guardI; kernel_rfl) | (apply WhenQ.mk; (try (conv => whnf)); rotate_left; (try (conv => whnf)); rotate_right) | (with_reducible assumption) | (apply not_of; with_reducible assumption) | (apply left_of; with_reducible assumption) | (apply left_of; apply left_of; with_reducible assumption) | (apply and_of <;> first | (with_reducible assumption) | (apply not_of; with_reducible assumption))| (refine lin_plan (by kernel_rfl) ?_; (try (conv => whnf))) | (refine ⟨_, _, rfl, idx_map (by with_reducible assumption), rfl, ?_⟩; (try (conv => whnf))) | (refine ⟨rfl, ?_⟩; (try (conv => whnf))) | (exact Nat.le_refl 1) | ((apply ex3); (focus (with_reducible assumption)); (focus (with_reducible assumption)); (try (conv => whnf))) | ((apply ex2); (focus (with_reducible assumption)); (try (conv => whnf))) | (refine PureFn.dcq (f := 153) rfl ?_; (try (conv => whnf))) | ((refine ⟨_, _, ref_UsesY ?_, ?_, ?_⟩); rotate_left 1; (focus (first | (refine ⟨?_, trivial⟩ <;> first | (exact PLe.refl _) | (exact PLe.nil)) | (exact trivial))); (try (conv => whnf))) | (refine ⟨_, (by (conv => whnf); exact ref_UsesY _), rfl, ?_⟩; (try (conv => whnf))) | fail)
            · have h : usesY n.op = true := by rw [← ho]; exact h
              have := hok.y h
              refine ⟨⟨{ shX f.length n with y := n.y + f.length }, by rw [shN, h]; rfl⟩, ?_⟩
              (refine Wk.of ?_ ?_ rfl rfl rfl <;> (repeat' (first | (exact trivial) | (exact WkD.same _) | (exact WkO.same _ _ rfl) | (exact WkD.any _) | (refine WkD.int ?_) | (exact WkD.new' rfl rfl rfl) | (exact WkO.new _ _ rfl) | (refine WkO.vars rfl ?_) | (with_reducible rfl) | (exact rfl) | (refine ⟨?_, ?_⟩) | ((refine wrapA ?_ ?_ ?_); (focus (simp; done)); (focus ((try dsimp only); omega)); (focus ((try dsimp only); omega))) | fail)))
              refine (congrArg (fun v => IntKind.wrap .i64 (v + ((f.map Nd.pv).length : Int))) (shX_y f.length n)).trans ?_
              exact wrapA (by simp) (by rw [List.length_map]; omega) (by rw [List.length_map]; omega)
            · have h : usesY n.op = false := by rw [← ho]; exact h
              exact ⟨⟨shX f.length n, by rw [shN, h]; rfl⟩, (by refine Wk.of ?_ ?_ rfl rfl rfl <;> (repeat' (first | (exact trivial) | (exact WkD.same _) | (exact WkO.same _ _ rfl) | (exact WkD.any _) | (refine WkD.int ?_) | (exact WkD.new' rfl rfl rfl) | (exact WkO.new _ _ rfl) | (refine WkO.vars rfl ?_) | (with_reducible rfl) | (exact rfl) | (refine ⟨?_, ?_⟩) | ((refine wrapA ?_ ?_ ?_); (focus (simp; done)); (focus ((try dsimp only); omega)); (focus ((try dsimp only); omega))) | fail)))⟩
          · rintro ⟨q, rfl⟩
            (try (conv => whnf)); repeat' (first | (apply And.intro <;> (try (conv => whnf))) | (intro h; first | (with_reducible exact tf0 h) | (with_reducible exact ft0 h) | (with_reducible exact nt0 h) | (with_reducible exact nf0 h) | (exact litz h rfl) | (with_reducible exact tf h (by with_reducible assumption)) | (with_reducible exact tf (by with_reducible assumption) h) | (try (conv => whnf))) | (with_reducible rfl) | (apply True.intro) | (apply infoT; rfl) | (apply bleI; rfl) | (apply fitI; rfl) | (apply cellsI; rfl) | (apply szI; rfl) | (apply guardI; kernel_rfl) | (apply WhenQ.mk; (try (conv => whnf)); rotate_left; (try (conv => whnf)); rotate_right) | (with_reducible assumption) | (apply not_of; with_reducible assumption) | (apply left_of; with_reducible assumption) | (apply left_of; apply left_of; with_reducible assumption) | (apply and_of <;> first | (with_reducible assumption) | (apply not_of; with_reducible assumption))| (refine lin_plan (by kernel_rfl) ?_; (try (conv => whnf))) | (refine ⟨_, _, rfl, idx_map (by with_reducible assumption), rfl, ?_⟩; (try (conv => whnf))) | (refine ⟨rfl, ?_⟩; (try (conv => whnf))) | (exact Nat.le_refl 1) | ((apply ex3); (focus (with_reducible assumption)); (focus (with_reducible assumption)); (try (conv => whnf))) | ((apply ex2); (focus (with_reducible assumption)); (try (conv => whnf))) | fail)
            · show (shL f g j).length + 1 ≤ 4294967296
              rw [shL_len hj]; omega
            · exact ⟨⟨j + 1, hj'⟩, by show g.length - (j + 1) < g.length - j; omega, (by refine Wk.of ?_ ?_ rfl rfl rfl <;> (repeat' (first | (exact trivial) | (exact WkD.same _) | (exact WkO.same _ _ rfl) | (exact WkD.eq (congrArg (fun z : List PV => DV.buf _ z.length) hs)) | (exact WkO.same _ _ (congrArg (fun z => some (DObj.arr _ z)) hs)) | (exact WkD.any _) | (refine WkD.int ?_) | (exact WkD.new' rfl rfl rfl) | (exact WkO.new _ _ rfl) | (refine WkO.vars rfl ?_) | (with_reducible rfl) | (exact rfl) | (refine ⟨?_, ?_⟩) | ((refine wrapA ?_ ?_ ?_); (focus (simp; done)); (focus ((try dsimp only); omega)); (focus ((try dsimp only); omega))) | fail)))⟩
      · have hj' : j = g.length := by simp at h; omega
        subst hj'
        have w1 := wrap_last (f := f) (by omega)
        have w2 : IntKind.wrap .i64 (((shL f g g.length).length : Int) - 1) = (L.length : Int) - 1 := by rw [hend]; exact wrap_last (by omega)
        refine ⟨Unit, fun _ => [(3, .ref 0 0), (7, .buf 1 (L.map Nd.pv).length)], fun _ => 2, fun _ => [(0, .var z.dvs), (1, .arr 6 (L.map Nd.pv))], ?_, ?_⟩
        · (try (conv => whnf)); repeat' (first | (apply And.intro <;> (try (conv => whnf))) | (intro h; first | (with_reducible exact tf0 h) | (with_reducible exact ft0 h) | (with_reducible exact nt0 h) | (with_reducible exact nf0 h) | (exact litz h rfl) | (with_reducible exact tf h (by with_reducible assumption)) | (with_reducible exact tf (by with_reducible assumption) h) | (try (conv => whnf))) | (with_reducible rfl) | (apply True.intro) | (apply infoT; rfl) | (apply bleI; rfl) | (apply fitI; rfl) | (apply cellsI; rfl) | (apply szI; rfl) | (apply guardI; kernel_rfl) | (apply WhenQ.mk; (try (conv => whnf)); rotate_left; (try (conv => whnf)); rotate_right) | (with_reducible assumption) | (apply not_of; with_reducible assumption) | (apply left_of; with_reducible assumption) | (apply left_of; apply left_of; with_reducible assumption) | (apply and_of <;> first | (with_reducible assumption) | (apply not_of; with_reducible assumption))| (refine lin_plan (by kernel_rfl) ?_; (try (conv => whnf))) | (refine ⟨_, _, rfl, idx_map (by with_reducible assumption), rfl, ?_⟩; (try (conv => whnf))) | (refine ⟨rfl, ?_⟩; (try (conv => whnf))) | (exact Nat.le_refl 1) | ((apply ex3); (focus (with_reducible assumption)); (focus (with_reducible assumption)); (try (conv => whnf))) | ((apply ex2); (focus (with_reducible assumption)); (try (conv => whnf))) | fail)
          refine ⟨(), ?_⟩
          subst hz
          (refine Wk.of ?_ ?_ rfl rfl rfl <;> (repeat' (first | (exact trivial) | (exact WkD.same _) | (exact WkO.same _ _ rfl) | (exact WkD.eq (congrArg (fun z : List PV => DV.buf _ z.length) hend)) | (exact WkO.same _ _ (congrArg (fun z => some (DObj.arr _ z)) hend)) | (exact WkD.any _) | (refine WkD.int ?_) | (exact WkD.new' rfl rfl rfl) | (exact WkO.new _ _ rfl) | (refine WkO.vars rfl ?_) | (with_reducible rfl) | (exact rfl) | (refine ⟨?_, ?_⟩) | ((refine wrapA ?_ ?_ ?_); (focus (simp; done)); (focus ((try dsimp only); omega)); (focus ((try dsimp only); omega))) | fail)))
          · exact w1
          · exact w2
        · rintro ⟨⟩
          have hne := ref_node z (L.map Nd.pv).length
          (try (conv => whnf)); repeat' (first | (apply And.intro <;> (try (conv => whnf))) | (intro h; first | (with_reducible exact tf0 h) | (with_reducible exact ft0 h) | (with_reducible exact nt0 h) | (with_reducible exact nf0 h) | (exact litz h rfl) | (with_reducible exact tf h (by with_reducible assumption)) | (with_reducible exact tf (by with_reducible assumption) h) | (try (conv => whnf))) | (with_reducible rfl) | (apply True.intro) | (apply infoT; rfl) | (apply bleI; rfl) | (apply fitI; rfl) | (apply cellsI; rfl) | (apply szI; rfl) | (apply guardI; kernel_rfl) | (apply WhenQ.mk; (try (conv => whnf)); rotate_left; (try (conv => whnf)); rotate_right) | (with_reducible assumption) | (apply not_of; with_reducible assumption) | (apply left_of; with_reducible assumption) | (apply left_of; apply left_of; with_reducible assumption) | (apply and_of <;> first | (with_reducible assumption) | (apply not_of; with_reducible assumption))| (refine lin_plan (by kernel_rfl) ?_; (try (conv => whnf))) | (refine ⟨_, _, rfl, idx_map (by with_reducible assumption), rfl, ?_⟩; (try (conv => whnf))) | (refine ⟨rfl, ?_⟩; (try (conv => whnf))) | (exact Nat.le_refl 1) | ((apply ex3); (focus (with_reducible assumption)); (focus (with_reducible assumption)); (try (conv => whnf))) | ((apply ex2); (focus (with_reducible assumption)); (try (conv => whnf))) | (refine PureFn.dcq (f := 137) rfl ?_; (try (conv => whnf))) | ((refine ⟨_, _, hne, ?_, ?_⟩); (focus (first | (refine ⟨?_, ?_, trivial⟩ <;> first | (exact PLe.refl _) | (exact PLe.nil)) | (exact trivial))); (try (conv => whnf))) | (refine ⟨_, (by (conv => whnf); exact hne), rfl, ?_⟩; (try (conv => whnf))) | fail)
          · rw [List.length_map] at h
            rw [h]; exact .nil
          · show (L.map Nd.pv).length + 1 ≤ 4294967296
            rw [List.length_map]; omega
          · rw [List.length_map] at h
            have hok : OkNd z L.length := nodeErr_ok.1 (by simpa using h)
            rw [h]
            simp only [cond_false]
            have hs : PureFn Try.prog 140 [.sl (L.map Nd.pv ++ [z.pv])] (fpv (shortL (L ++ [z]))) := by
              have := ref_short (L ++ [z]) (okl_snoc hLo hok) (by simp)
              rwa [show fpv (L ++ [z]) = .sl (L.map Nd.pv ++ [z.pv]) from congrArg PV.sl List.map_append] at this
            refine PureFn.dcq rfl ?_
            (try (conv => whnf)); repeat' (first | (apply And.intro <;> (try (conv => whnf))) | (intro h; first | (with_reducible exact tf0 h) | (with_reducible exact ft0 h) | (with_reducible exact nt0 h) | (with_reducible exact nf0 h) | (exact litz h rfl) | (with_reducible exact tf h (by with_reducible assumption)) | (with_reducible exact tf (by with_reducible assumption) h) | (try (conv => whnf))) | (with_reducible rfl) | (apply True.intro) | (apply infoT; rfl) | (apply bleI; rfl) | (apply fitI; rfl) | (apply cellsI; rfl) | (apply szI; rfl) | (apply guardI; kernel_rfl) | (apply WhenQ.mk; (try (conv => whnf)); rotate_left; (try (conv => whnf)); rotate_right) | (with_reducible assumption) | (apply not_of; with_reducible assumption) | (apply left_of; with_reducible assumption) | (apply left_of; apply left_of; with_reducible assumption) | (apply and_of <;> first | (with_reducible assumption) | (apply not_of; with_reducible assumption))| (refine lin_plan (by kernel_rfl) ?_; (try (conv => whnf))) | (refine ⟨_, _, rfl, idx_map (by with_reducible assumption), rfl, ?_⟩; (try (conv => whnf))) | (refine ⟨rfl, ?_⟩; (try (conv => whnf))) | (exact Nat.le_refl 1) | ((apply ex3); (focus (with_reducible assumption)); (focus (with_reducible assumption)); (try (conv => whnf))) | ((apply ex2); (focus (with_reducible assumption)); (try (conv => whnf))) | (refine PureFn.dcq (f := 140) rfl ?_; (try (conv => whnf))) | ((refine ⟨_, _, hs, ?_, ?_⟩); (focus (first | (refine ⟨?_, trivial⟩ <;> first | (exact PLe.refl _) | (exact PLe.nil)) | (exact trivial))); (try (conv => whnf))) | (refine ⟨_, (by (conv => whnf); exact hs), rfl, ?_⟩; (try (conv => whnf))) | fail)
            exact .refl _
end Go.Proofs.Ytibenjpkinhjhaa
set_option maxRecDepth 100000
set_option maxHeartbeats 4000000
namespace Go.Proofs.Ytibenjpkinhjhaa
open Go Go.Dv

def aF : List Nd := [⟨3, 1, 0, 0, 0, 0⟩, ⟨3, 0, 0, 0, 0, 0⟩, ⟨3, 1, 0, 0, 0, 0⟩, ⟨5, 0, 0, 0, 0, 1⟩, ⟨9, 0, 0, 0, 3, 0⟩, ⟨6, 0, 0, 0, 4, 2⟩]
def aC : List Nd := [⟨3, 1, 0, 0, 0, 0⟩, ⟨3, 0, 0, 0, 0, 0⟩, ⟨5, 0, 0, 0, 0, 1⟩, ⟨9, 0, 0, 0, 2, 0⟩, ⟨6, 0, 0, 0, 3, 0⟩]
def aB : List Nd := buildL (n0 6) [buildL (nI 9 0) [buildL (n0 5) [buildL (nI 3 1) [], buildL (nI 3 0) []]], buildL (nI 3 1) []]
example : comp aF = aC := by kernel_rfl
example : aB = aC := by kernel_rfl
theorem buildL_len (x : Nd) (l : List (List Nd)) : (buildL x l).length ≤ 200 := by
  unfold buildL
  split
  · simp
  · rename_i s _
    unfold bfin
    cases h1 : (nodeErr s.1 s.2.length != 0) with
    | true => simp
    | false =>
      cases h2 : decide (((canon (s.2 ++ [s.1]) s.2.length).length : Int) > 200) with
      | true => simp
      | false => simp only [cond_false]; simp at h2; omega
theorem _root_.Go.Dv.PureFn.to {P : Program} {f : FuncId} {ps : List PV} {p q : PV} (h : PureFn P f ps p) (e : p = q) : PureFn P f ps q := e ▸ h
end Go.Proofs.Ytibenjpkinhjhaa
set_option maxRecDepth 100000
set_option maxHeartbeats 4000000
namespace Go.Proofs.Ytibenjpkinhjhaa
open Go Go.Dv

def joinL (op : Int) (em : List Nd) : List (List Nd) → List Nd
  | [] => em
  | f :: r => r.foldl (fun a g => buildL (n0 op) [a, g]) (comp f)
theorem fold_take {α β : Type} (h : β → α → β) (z : β) (r : List α) {i : Nat} (hi : i < r.length) : (r.take (i + 1)).foldl h z = h ((r.take i).foldl h z) r[i] := by
  rw [List.take_succ_eq_append_getElem hi, List.foldl_append]; rfl
theorem joinL_len (op : Int) (em : List Nd) (l : List (List Nd)) (he : em.length ≤ 200) : (joinL op em l).length ≤ 200 := by
  cases l with
  | nil => exact he
  | cons f r =>
    simp only [joinL]
    have : ∀ (r : List (List Nd)) (a : List Nd), a.length ≤ 200 → (r.foldl (fun a g => buildL (n0 op) [a, g]) a).length ≤ 200 := by
      intro r
      induction r with
      | nil => intro a h; exact h
      | cons g r ih => intro a _; exact ih _ (buildL_len _ _)
    exact this r _ (comp_len f)

theorem cells_fpv (l : List (List Nd)) : cellsAll 1 (l.map fpv) = true := by
  simp [cellsAll, fpv, PV.cells, PV.one]
theorem le_fp {a b : List Nd} (h : a = b) : PLe (fpv a) (fpv b) := h ▸ .refl _
theorem fm_join (fid : Nat) (op : Int) (hcb : callable Try.prog fid = true) (hw : ∀ a b, PureFn Try.prog fid [fpv a, fpv b] (fpv (buildL (n0 op) [a, b]))) (l : List (List Nd)) (em : List Nd) (hl : l.length ≤ 1000) (M : Nat → Prop) (w0 : World) :
    DC Try.prog M w0 143 [.pv (.sl (l.map fpv)), .pv (fpv em), .clo fid [] []] noHeap fun d L' => frz d L' fun q _ => PLe q (fpv (joinL op em l)) := by
  refine DC.intro mixed (fn := Try.f143) rfl rfl rfl ?_
  cases l with
  | nil =>
    (try (conv => whnf)); repeat' (first | (apply And.intro <;> (try (conv => whnf))) | (intro h; first | (with_reducible exact tf0 h) | (with_reducible exact ft0 h) | (with_reducible exact nt0 h) | (with_reducible exact nf0 h) | (exact litz h rfl) | (with_reducible exact tf h (by with_reducible assumption)) | (with_reducible exact tf (by with_reducible assumption) h) | (try (conv => whnf))) | (with_reducible rfl) | (apply True.intro) | (apply infoT; rfl) | (apply bleI; rfl) | (apply fitI; rfl) | (apply cellsI; rfl) | (apply szI; rfl) | (apply guardI; kernel_rfl) | (apply WhenQ.mk; (try (conv => whnf)); rotate_left; (try (conv => whnf)); rotate_right) | (with_reducible assumption) | (apply not_of; with_reducible assumption) | (apply left_of; with_reducible assumption) | (apply left_of; apply left_of; with_reducible assumption) | (apply and_of <;> first | (with_reducible assumption) | (apply not_of; with_reducible assumption))| (refine lin_plan (by kernel_rfl) ?_; (try (conv => whnf))) | (refine ⟨_, _, rfl, idx_map (by with_reducible assumption), rfl, ?_⟩; (try (conv => whnf))) | (refine ⟨rfl, ?_⟩; (try (conv => whnf))) | (exact Nat.le_refl 1) | ((apply ex3); (focus (with_reducible assumption)); (focus (with_reducible assumption)); (try (conv => whnf))) | ((apply ex2); (focus (with_reducible assumption)); (try (conv => whnf))) | fail)
    · exact .refl _
    · exact absurd h (by simp)
  | cons f r =>
    have h0 : (f :: r)[0]? = some f := rfl
    have hR : ((((f :: r).map fpv).drop 1).take (((f :: r).map fpv).length - 1)) = r.map fpv := by simp; exact List.take_of_length_le (by simp)
    simp only [List.length_cons] at hl
    (try (conv => whnf)); repeat' (first | (apply And.intro <;> (try (conv => whnf))) | (intro h; first | (with_reducible exact tf0 h) | (with_reducible exact ft0 h) | (with_reducible exact nt0 h) | (with_reducible exact nf0 h) | (exact litz h rfl) | (with_reducible exact tf h (by with_reducible assumption)) | (with_reducible exact tf (by with_reducible assumption) h) | (try (conv => whnf))) | (with_reducible rfl) | (apply True.intro) | (apply infoT; rfl) | (apply bleI; rfl) | (apply fitI; rfl) | (apply cellsI; rfl) | (apply szI; rfl) | (apply guardI; kernel_rfl) | (apply WhenQ.mk; (try (conv => whnf)); rotate_left; (try (conv => whnf)); rotate_right) | (with_reducible assumption) | (apply not_of; with_reducible assumption) | (apply left_of; with_reducible assumption) | (apply left_of; apply left_of; with_reducible assumption) | (apply and_of <;> first | (with_reducible assumption) | (apply not_of; with_reducible assumption))| (refine lin_plan (by kernel_rfl) ?_; (try (conv => whnf))) | (refine ⟨_, _, rfl, idx_map (by with_reducible assumption), rfl, ?_⟩; (try (conv => whnf))) | (refine ⟨rfl, ?_⟩; (try (conv => whnf))) | (exact Nat.le_refl 1) | ((apply ex3); (focus (with_reducible assumption)); (focus (with_reducible assumption)); (try (conv => whnf))) | ((apply ex2); (focus (with_reducible assumption)); (try (conv => whnf))) | (refine PureFn.dcq (f := 83) rfl ?_; (try (conv => whnf))) | ((refine ⟨_, _, fm_Compact ?_, ?_, ?_⟩); rotate_left 1; (focus (first | (refine ⟨?_, trivial⟩ <;> first | (exact PLe.refl _) | (exact PLe.nil)) | (exact trivial))); (try (conv => whnf))) | (refine ⟨_, (by (conv => whnf); exact fm_Compact _), rfl, ?_⟩; (try (conv => whnf))) | fail)
    · exact absurd h (by simp; omega)
    · exact cells_fpv _
    · refine ⟨1, ((f :: r).map fpv).length, rfl, rfl, by simp, Nat.le_refl _, ?_⟩
      (try (conv => whnf)); repeat' (first | (apply And.intro <;> (try (conv => whnf))) | (intro h; first | (with_reducible exact tf0 h) | (with_reducible exact ft0 h) | (with_reducible exact nt0 h) | (with_reducible exact nf0 h) | (exact litz h rfl) | (with_reducible exact tf h (by with_reducible assumption)) | (with_reducible exact tf (by with_reducible assumption) h) | (try (conv => whnf))) | (with_reducible rfl) | (apply True.intro) | (apply infoT; rfl) | (apply bleI; rfl) | (apply fitI; rfl) | (apply cellsI; rfl) | (apply szI; rfl) | (apply guardI; kernel_rfl) | (apply WhenQ.mk; (try (conv => whnf)); rotate_left; (try (conv => whnf)); rotate_right) | (with_reducible assumption) | (apply not_of; with_reducible assumption) | (apply left_of; with_reducible assumption) | (apply left_of; apply left_of; with_reducible assumption) | (apply and_of <;> first | (with_reducible assumption) | (apply not_of; with_reducible assumption))| (refine lin_plan (by kernel_rfl) ?_; (try (conv => whnf))) | (refine ⟨_, _, rfl, idx_map (by with_reducible assumption), rfl, ?_⟩; (try (conv => whnf))) | (refine ⟨rfl, ?_⟩; (try (conv => whnf))) | (exact Nat.le_refl 1) | ((apply ex3); (focus (with_reducible assumption)); (focus (with_reducible assumption)); (try (conv => whnf))) | ((apply ex2); (focus (with_reducible assumption)); (try (conv => whnf))) | fail)
      refine ⟨{ i : Nat // i ≤ r.length }, fun i => [(2, .clo fid [] []), (7, .pv (fpv ((r.take i.1).foldl (fun a g => buildL (n0 op) [a, g]) (comp f)))), (19, .pv (.sl (r.map fpv))), (20, .pv (.int .i64 (r.map fpv).length)), (21, .pv (.int .i64 (i.1 : Nat)))], fun _ => 0, fun _ => [], fun i => r.length - i.1, ⟨⟨0, Nat.zero_le _⟩, ?_⟩, ?_⟩
      · (refine Wk.of ?_ ?_ rfl rfl rfl <;> (repeat' (first | (exact trivial) | (exact WkD.same _) | (exact WkO.same _ _ rfl) | (exact WkD.any _) | (refine WkD.int ?_) | (exact WkD.new' rfl rfl rfl) | (exact WkO.new _ _ rfl) | (refine WkO.vars rfl ?_) | (with_reducible rfl) | (exact rfl) | (refine ⟨?_, ?_⟩) | ((refine wrapA ?_ ?_ ?_); (focus (simp; done)); (focus ((try dsimp only); omega)); (focus ((try dsimp only); omega))) | fail)))
        · exact WkD.eq (congrArg (fun z => DV.pv (PV.sl z)) hR)
        all_goals exact congrArg (fun z : List PV => (z.length : Int)) hR
      · rintro ⟨i, hi⟩
        (try (conv => whnf)); repeat' (first | (apply And.intro <;> (try (conv => whnf))) | (intro h; first | (with_reducible exact tf0 h) | (with_reducible exact ft0 h) | (with_reducible exact nt0 h) | (with_reducible exact nf0 h) | (exact litz h rfl) | (with_reducible exact tf h (by with_reducible assumption)) | (with_reducible exact tf (by with_reducible assumption) h) | (try (conv => whnf))) | (with_reducible rfl) | (apply True.intro) | (apply infoT; rfl) | (apply bleI; rfl) | (apply fitI; rfl) | (apply cellsI; rfl) | (apply szI; rfl) | (apply guardI; kernel_rfl) | (apply WhenQ.mk; (try (conv => whnf)); rotate_left; (try (conv => whnf)); rotate_right) | (with_reducible assumption) | (apply not_of; with_reducible assumption) | (apply left_of; with_reducible assumption) | (apply left_of; apply left_of; with_reducible assumption) | (apply and_of <;> first | (with_reducible assumption) | (apply not_of; with_reducible assumption))| (refine lin_plan (by kernel_rfl) ?_; (try (conv => whnf))) | (refine ⟨_, _, rfl, idx_map (by with_reducible assumption), rfl, ?_⟩; (try (conv => whnf))) | (refine ⟨rfl, ?_⟩; (try (conv => whnf))) | (exact Nat.le_refl 1) | ((apply ex3); (focus (with_reducible assumption)); (focus (with_reducible assumption)); (try (conv => whnf))) | ((apply ex2); (focus (with_reducible assumption)); (try (conv => whnf))) | fail)
        · have hi' : i < r.length := by simp at h; omega
          have hn : r[i]? = some r[i] := List.getElem?_eq_getElem hi'
          have hf := fold_take (fun a g => buildL (n0 op) [a, g]) (comp f) r hi'
          (try (conv => whnf)); repeat' (first | (apply And.intro <;> (try (conv => whnf))) | (intro h; first | (with_reducible exact tf0 h) | (with_reducible exact ft0 h) | (with_reducible exact nt0 h) | (with_reducible exact nf0 h) | (exact litz h rfl) | (with_reducible exact tf h (by with_reducible assumption)) | (with_reducible exact tf (by with_reducible assumption) h) | (try (conv => whnf))) | (with_reducible rfl) | (apply True.intro) | (apply infoT; rfl) | (apply bleI; rfl) | (apply fitI; rfl) | (apply cellsI; rfl) | (apply szI; rfl) | (apply guardI; kernel_rfl) | (apply WhenQ.mk; (try (conv => whnf)); rotate_left; (try (conv => whnf)); rotate_right) | (with_reducible assumption) | (apply not_of; with_reducible assumption) | (apply left_of; with_reducible assumption) | (apply left_of; apply left_of; with_reducible assumption) | (apply and_of <;> first | (with_reducible assumption) | (apply not_of; with_reducible assumption))| (refine lin_plan (by kernel_rfl) ?_; (try (conv => whnf))) | (refine ⟨_, _, rfl, idx_map (by with_reducible assumption), rfl, ?_⟩; (try (conv => whnf))) | (refine ⟨rfl, ?_⟩; (try (conv => whnf))) | (exact Nat.le_refl 1) | ((apply ex3); (focus (with_reducible assumption)); (focus (with_reducible assumption)); (try (conv => whnf))) | ((apply ex2); (focus (with_reducible assumption)); (try (conv => whnf))) | fail)
          refine PureFn.dcq hcb ?_
          conv => whnf
          refine ⟨_, _, hw _ _, ⟨.refl _, .refl _, trivial⟩, ?_⟩
          (try (conv => whnf)); repeat' (first | (apply And.intro <;> (try (conv => whnf))) | (intro h; first | (with_reducible exact tf0 h) | (with_reducible exact ft0 h) | (with_reducible exact nt0 h) | (with_reducible exact nf0 h) | (exact litz h rfl) | (with_reducible exact tf h (by with_reducible assumption)) | (with_reducible exact tf (by with_reducible assumption) h) | (try (conv => whnf))) | (with_reducible rfl) | (apply True.intro) | (apply infoT; rfl) | (apply bleI; rfl) | (apply fitI; rfl) | (apply cellsI; rfl) | (apply szI; rfl) | (apply guardI; kernel_rfl) | (apply WhenQ.mk; (try (conv => whnf)); rotate_left; (try (conv => whnf)); rotate_right) | (with_reducible assumption) | (apply not_of; with_reducible assumption) | (apply left_of; with_reducible assumption) | (apply left_of; apply left_of; with_reducible assumption) | (apply and_of <;> first | (with_reducible assumption) | (apply not_of; with_reducible assumption))| (refine lin_plan (by kernel_rfl) ?_; (try (conv => whnf))) | (refine ⟨_, _, rfl, idx_map (by with_reducible assumption), rfl, ?_⟩; (try (conv => whnf))) | (refine ⟨rfl, ?_⟩; (try (conv => whnf))) | (exact Nat.le_refl 1) | ((apply ex3); (focus (with_reducible assumption)); (focus (with_reducible assumption)); (try (conv => whnf))) | ((apply ex2); (focus (with_reducible assumption)); (try (conv => whnf))) | fail)
          refine ⟨⟨i + 1, hi'⟩, by show r.length - (i + 1) < r.length - i; omega, ?_⟩
          (refine Wk.of ?_ ?_ rfl rfl rfl <;> (repeat' (first | (exact trivial) | (exact WkD.same _) | (exact WkO.same _ _ rfl) | (exact WkD.any _) | (refine WkD.int ?_) | (exact WkD.new' rfl rfl rfl) | (exact WkO.new _ _ rfl) | (refine WkO.vars rfl ?_) | (with_reducible rfl) | (exact rfl) | (refine ⟨?_, ?_⟩) | ((refine wrapA ?_ ?_ ?_); (focus (simp; done)); (focus ((try dsimp only); omega)); (focus ((try dsimp only); omega))) | fail)))
          exact WkD.eq (congrArg (fun z => DV.pv (fpv z)) hf.symm)
        · have hi' : i = r.length := by simp at h; omega
          subst hi'
          exact le_fp (by rw [List.take_length]; rfl)
theorem ref_True : PureFn Try.prog 102 [] (fpv (buildL (n0 1) [])) := by
  rw [build_one]
  have hO := ref_One (n0 1)
  refine PureFn.intro mixed (fn := Try.f102) rfl rfl rfl fun M w0 => ?_
  (try (conv => whnf)); repeat' (first | (apply And.intro <;> (try (conv => whnf))) | (intro h; first | (with_reducible exact tf0 h) | (with_reducible exact ft0 h) | (with_reducible exact nt0 h) | (with_reducible exact nf0 h) | (exact litz h rfl) | (with_reducible exact tf h (by with_reducible assumption)) | (with_reducible exact tf (by with_reducible assumption) h) | (try (conv => whnf))) | (with_reducible rfl) | (apply True.intro) | (apply infoT; rfl) | (apply bleI; rfl) | (apply fitI; rfl) | (apply cellsI; rfl) | (apply szI; rfl) | (apply guardI; kernel_rfl) | (apply WhenQ.mk; (try (conv => whnf)); rotate_left; (try (conv => whnf)); rotate_right) | (with_reducible assumption) | (apply not_of; with_reducible assumption) | (apply left_of; with_reducible assumption) | (apply left_of; apply left_of; with_reducible assumption) | (apply and_of <;> first | (with_reducible assumption) | (apply not_of; with_reducible assumption))| (refine lin_plan (by kernel_rfl) ?_; (try (conv => whnf))) | (refine ⟨_, _, rfl, idx_map (by with_reducible assumption), rfl, ?_⟩; (try (conv => whnf))) | (refine ⟨rfl, ?_⟩; (try (conv => whnf))) | (exact Nat.le_refl 1) | ((apply ex3); (focus (with_reducible assumption)); (focus (with_reducible assumption)); (try (conv => whnf))) | ((apply ex2); (focus (with_reducible assumption)); (try (conv => whnf))) | (refine PureFn.dcq (f := 100) rfl ?_; (try (conv => whnf))) | ((refine ⟨_, _, hO, ?_, ?_⟩); (focus (first | (refine ⟨?_, trivial⟩ <;> first | (exact PLe.refl _) | (exact PLe.nil)) | (exact trivial))); (try (conv => whnf))) | (refine ⟨_, (by (conv => whnf); exact hO), rfl, ?_⟩; (try (conv => whnf))) | fail)
  exact .refl _
theorem fm_All (l : List (List Nd)) (hl : l.length ≤ 1000) : PureFn Try.prog 120 [.sl (l.map fpv)] (fpv (joinL 5 (buildL (n0 1) []) l)) := by
  refine PureFn.intro mixed (fn := Try.f120) rfl rfl rfl fun M w0 => ?_
  (try (conv => whnf)); repeat' (first | (apply And.intro <;> (try (conv => whnf))) | (intro h; first | (with_reducible exact tf0 h) | (with_reducible exact ft0 h) | (with_reducible exact nt0 h) | (with_reducible exact nf0 h) | (exact litz h rfl) | (with_reducible exact tf h (by with_reducible assumption)) | (with_reducible exact tf (by with_reducible assumption) h) | (try (conv => whnf))) | (with_reducible rfl) | (apply True.intro) | (apply infoT; rfl) | (apply bleI; rfl) | (apply fitI; rfl) | (apply cellsI; rfl) | (apply szI; rfl) | (apply guardI; kernel_rfl) | (apply WhenQ.mk; (try (conv => whnf)); rotate_left; (try (conv => whnf)); rotate_right) | (with_reducible assumption) | (apply not_of; with_reducible assumption) | (apply left_of; with_reducible assumption) | (apply left_of; apply left_of; with_reducible assumption) | (apply and_of <;> first | (with_reducible assumption) | (apply not_of; with_reducible assumption))| (refine lin_plan (by kernel_rfl) ?_; (try (conv => whnf))) | (refine ⟨_, _, rfl, idx_map (by with_reducible assumption), rfl, ?_⟩; (try (conv => whnf))) | (refine ⟨rfl, ?_⟩; (try (conv => whnf))) | (exact Nat.le_refl 1) | ((apply ex3); (focus (with_reducible assumption)); (focus (with_reducible assumption)); (try (conv => whnf))) | ((apply ex2); (focus (with_reducible assumption)); (try (conv => whnf))) | (refine PureFn.dcq (f := 101) rfl ?_; (try (conv => whnf))) | ((refine ⟨_, _, fm_True, ?_, ?_⟩); (focus (first | (refine ⟨trivial⟩ <;> first | (exact PLe.refl _) | (exact PLe.nil)) | (exact trivial))); (try (conv => whnf))) | (refine ⟨_, (by (conv => whnf); exact fm_True), rfl, ?_⟩; (try (conv => whnf))) | fail)
  refine DC.alone (p := fpv (joinL 5 (buildL (n0 1) []) l)) rfl (fun M w0 => fm_join 107 5 rfl (fun a b => fm_And a b) l _ hl M w0) ?_
  (try (conv => whnf)); repeat' (first | (apply And.intro <;> (try (conv => whnf))) | (intro h; first | (with_reducible exact tf0 h) | (with_reducible exact ft0 h) | (with_reducible exact nt0 h) | (with_reducible exact nf0 h) | (exact litz h rfl) | (with_reducible exact tf h (by with_reducible assumption)) | (with_reducible exact tf (by with_reducible assumption) h) | (try (conv => whnf))) | (with_reducible rfl) | (apply True.intro) | (apply infoT; rfl) | (apply bleI; rfl) | (apply fitI; rfl) | (apply cellsI; rfl) | (apply szI; rfl) | (apply guardI; kernel_rfl) | (apply WhenQ.mk; (try (conv => whnf)); rotate_left; (try (conv => whnf)); rotate_right) | (with_reducible assumption) | (apply not_of; with_reducible assumption) | (apply left_of; with_reducible assumption) | (apply left_of; apply left_of; with_reducible assumption) | (apply and_of <;> first | (with_reducible assumption) | (apply not_of; with_reducible assumption))| (refine lin_plan (by kernel_rfl) ?_; (try (conv => whnf))) | (refine ⟨_, _, rfl, idx_map (by with_reducible assumption), rfl, ?_⟩; (try (conv => whnf))) | (refine ⟨rfl, ?_⟩; (try (conv => whnf))) | (exact Nat.le_refl 1) | ((apply ex3); (focus (with_reducible assumption)); (focus (with_reducible assumption)); (try (conv => whnf))) | ((apply ex2); (focus (with_reducible assumption)); (try (conv => whnf))) | fail)
  exact .refl _
end Go.Proofs.Ytibenjpkinhjhaa
namespace Go.Proofs.Ytibenjpkinhjhaa
open Go Go.Dv

theorem cond_of {α : Type} {c : Bool} {x y : α} (h : c = true) : (bif c then x else y) = x := by rw [h]; rfl
theorem cond_no {α : Type} {c : Bool} {x y : α} (h : c = false) : (bif c then x else y) = y := by rw [h]; rfl
theorem lt_dec {i m : Nat} (h : decide ((i : Int) < (m : Int)) = true) : i < m := by simpa using h
theorem ge_dec {i m : Nat} (h : decide ((i : Int) < (m : Int)) = false) (hi : i ≤ m) : i = m := by simp at h; omega
def u64 (n : Nat) : PV := .int .u64 (n : Int)
def i64 (n : Nat) : PV := .int .i64 (n : Int)
theorem wrapU {a : Int} (h0 : 0 ≤ a) (h : a < 18446744073709551616) : IntKind.wrap .u64 a = a := by
  have e : IntKind.wrap .u64 a = a % 18446744073709551616 := rfl
  rw [e]; exact Int.emod_eq_of_lt h0 h
theorem ofInt_nat (a : Nat) : BitVec.ofInt 64 (a : Int) = BitVec.ofNat 64 a := BitVec.ofInt_natCast 64 a
theorem ofNat_toNat {a : Nat} (h : a < 2 ^ 64) : (BitVec.ofNat 64 a).toNat = a := by rw [BitVec.toNat_ofNat, Nat.mod_eq_of_lt h]
def andU (a b : Int) : Int := IntKind.wrap .u64 ((BitVec.ofInt (IntKind.bits .u64) a &&& BitVec.ofInt (IntKind.bits .u64) b).toNat : Int)
def orU (a b : Int) : Int := IntKind.wrap .u64 ((BitVec.ofInt (IntKind.bits .u64) a ||| BitVec.ofInt (IntKind.bits .u64) b).toNat : Int)
def andNotU (a b : Int) : Int := IntKind.wrap .u64 ((BitVec.ofInt (IntKind.bits .u64) a &&& ~~~BitVec.ofInt (IntKind.bits .u64) b).toNat : Int)
def shrU (a b : Int) : Int := a.fdiv (2 ^ (min b.toNat (IntKind.bits .u64)))
def shlU (a b : Int) : Int := IntKind.wrap .u64 (a * 2 ^ (min b.toNat (IntKind.bits .u64)))
theorem andU_nat {a b : Nat} (ha : a < 2 ^ 64) (hb : b < 2 ^ 64) : andU a b = ((a &&& b : Nat) : Int) := by
  have h : a &&& b < 2 ^ 64 := Nat.lt_of_le_of_lt Nat.and_le_left ha
  unfold andU
  show IntKind.wrap .u64 ((BitVec.ofInt 64 (a : Int) &&& BitVec.ofInt 64 (b : Int)).toNat : Int) = _
  rw [ofInt_nat, ofInt_nat, BitVec.toNat_and, ofNat_toNat ha, ofNat_toNat hb]
  exact wrapU (by omega) (by omega)
theorem orU_nat {a b : Nat} (ha : a < 2 ^ 64) (hb : b < 2 ^ 64) : orU a b = ((a ||| b : Nat) : Int) := by
  have h : a ||| b < 2 ^ 64 := Nat.or_lt_two_pow ha hb
  unfold orU
  show IntKind.wrap .u64 ((BitVec.ofInt 64 (a : Int) ||| BitVec.ofInt 64 (b : Int)).toNat : Int) = _
  rw [ofInt_nat, ofInt_nat, BitVec.toNat_or, ofNat_toNat ha, ofNat_toNat hb]
  exact wrapU (by omega) (by omega)
/-- Outside of a mask of k ones. -/
theorem andNotU_zero {a k : Nat} (ha : a < 2 ^ 64) (hk : k < 64) : (andNotU a ((2 ^ k - 1 : Nat) : Int) != 0) = decide (¬ a < 2 ^ k) := by
  have hp : 2 ^ k < 2 ^ 64 := Nat.pow_lt_pow_right (by decide) hk
  have h2 : (BitVec.ofInt 64 (a : Int) &&& ~~~BitVec.ofInt 64 ((2 ^ k - 1 : Nat) : Int)).toNat = a &&& (2 ^ 64 - 1 - (2 ^ k - 1)) := by
    rw [ofInt_nat, ofInt_nat, BitVec.toNat_and, BitVec.toNat_not, ofNat_toNat ha, ofNat_toNat (by omega)]
  have h3 : andNotU a ((2 ^ k - 1 : Nat) : Int) = ((a &&& (2 ^ 64 - 1 - (2 ^ k - 1)) : Nat) : Int) := by
    unfold andNotU
    show IntKind.wrap .u64 ((BitVec.ofInt 64 (a : Int) &&& ~~~BitVec.ofInt 64 ((2 ^ k - 1 : Nat) : Int)).toNat : Int) = _
    rw [h2]
    have : a &&& (2 ^ 64 - 1 - (2 ^ k - 1)) ≤ a := Nat.and_le_left
    exact wrapU (by omega) (by omega)
  rw [h3, Bool.eq_iff_iff, bne_iff_ne, decide_eq_true_iff]
  have hz : a &&& (2 ^ 64 - 1 - (2 ^ k - 1)) = 0 ↔ a < 2 ^ k := by
    constructor
    · intro h
      apply Nat.lt_pow_two_of_testBit
      intro i hi
      by_cases h64 : i < 64
      · have := congrArg (fun z => Nat.testBit z i) h
        simp only [Nat.testBit_and, Nat.zero_testBit] at this
        have e : 2 ^ 64 - 1 - (2 ^ k - 1) = 2 ^ 64 - ((2 ^ k - 1) + 1) := by omega
        rw [e, Nat.testBit_two_pow_sub_succ (by omega), Nat.testBit_two_pow_sub_one] at this
        simpa [h64, Nat.not_lt.2 hi] using this
      · exact Nat.testBit_lt_two_pow (Nat.lt_of_lt_of_le ha (Nat.pow_le_pow_right (by decide) (by omega)))
    · intro h
      apply Nat.eq_of_testBit_eq
      intro i
      rw [Nat.testBit_and, Nat.zero_testBit]
      by_cases hi : i < k
      · have e : 2 ^ 64 - 1 - (2 ^ k - 1) = 2 ^ 64 - ((2 ^ k - 1) + 1) := by omega
        rw [e, Nat.testBit_two_pow_sub_succ (by omega), Nat.testBit_two_pow_sub_one]
        simp [hi]
      · rw [Nat.testBit_lt_two_pow (Nat.lt_of_lt_of_le h (Nat.pow_le_pow_right (by decide) (by omega)))]; rfl
  constructor
  · intro h1 h2'; exact h1 (by have := hz.2 h2'; omega)
  · intro h1 h2'; exact h1 (hz.1 (by omega))
theorem shrU_nat (a k : Nat) (hk : k ≤ 64) : shrU a k = ((a >>> k : Nat) : Int) := by
  unfold shrU
  rw [show min ((k : Int)).toNat (IntKind.bits .u64) = k from Nat.min_eq_left hk, Nat.shiftRight_eq_div_pow]
  rw [show ((2 : Int) ^ k) = ((2 ^ k : Nat) : Int) by simp, Int.fdiv_eq_ediv_of_nonneg _ (Int.natCast_nonneg _)]
  rfl
theorem shlU_one {k : Nat} (hk : k < 64) : shlU 1 k = ((2 ^ k : Nat) : Int) := by
  unfold shlU
  rw [show min ((k : Int)).toNat (IntKind.bits .u64) = k from Nat.min_eq_left (by show k ≤ 64; omega), Int.one_mul]
  have : 2 ^ k < 2 ^ 64 := Nat.pow_lt_pow_right (by decide) hk
  have e : ((2 : Int) ^ k) = ((2 ^ k : Nat) : Int) := by simp
  rw [e]
  generalize 2 ^ k = m at *
  exact wrapU (by omega) (by omega)
theorem bit_and (s v : Nat) (hs : s < 2 ^ 64) (hv : v < 64) : andU (shrU s v) 1 = if s.testBit v then 1 else 0 := by
  rw [shrU_nat _ _ (by omega)]
  have h1 : s >>> v < 2 ^ 64 := Nat.lt_of_le_of_lt (Nat.shiftRight_le s v) hs
  have := andU_nat (a := s >>> v) (b := 1) h1 (by decide)
  rw [show ((1 : Nat) : Int) = 1 from rfl] at this
  rw [this, Nat.and_one_is_mod, Nat.testBit, Nat.and_comm, Nat.and_one_is_mod]
  have : s >>> v % 2 = 0 ∨ s >>> v % 2 = 1 := by omega
  rcases this with h | h <;> rw [h] <;> rfl
/-- The program's test of a bit. -/
theorem bit_one {s v : Nat} (hs : s < 2 ^ 64) (hv : v < 64) : (andU (shrU s v) 1 == 1) = s.testBit v := by
  rw [bit_and s v hs hv]; cases s.testBit v <;> rfl
theorem bit_zero {s v : Nat} (hs : s < 2 ^ 64) (hv : v < 64) : (andU (shrU s v) 1 == 0) = !s.testBit v := by
  rw [bit_and s v hs hv]; cases s.testBit v <;> rfl
theorem tmod_two (a : Nat) : ((a : Int).tmod 2) = ((a % 2 : Nat) : Int) := by
  rw [Int.tmod_eq_emod_of_nonneg (Int.natCast_nonneg _)]; rfl
theorem testBit_mod (s v : Nat) : s.testBit v = decide (s >>> v % 2 = 1) := by
  rw [Nat.testBit, Nat.and_comm, Nat.and_one_is_mod]
  have : s >>> v % 2 = 0 ∨ s >>> v % 2 = 1 := by omega
  rcases this with h | h <;> rw [h] <;> rfl
/-- The reference's test of a bit. -/
theorem bit_rem {s v : Nat} (hv : v ≤ 64) : ((shrU s v).tmod 2 == 1) = s.testBit v := by
  rw [shrU_nat _ _ hv, tmod_two, testBit_mod, Bool.eq_iff_iff, beq_iff_eq, decide_eq_true_iff]; omega
theorem bit64_rem {s v : Nat} (hv : v ≤ 64) : ((shr64 s v).tmod 2) = if s.testBit v then 1 else 0 := by
  rw [shr64_nat _ _ hv, tmod_two, testBit_mod]
  have : s >>> v % 2 = 0 ∨ s >>> v % 2 = 1 := by omega
  rcases this with h | h <;> rw [h] <;> rfl
def and64 (a b : Int) : Int := IntKind.wrap .i64 ((BitVec.ofInt (IntKind.bits .i64) a &&& BitVec.ofInt (IntKind.bits .i64) b).toNat : Int)
theorem and64_nat {a b : Nat} (ha : a < 2 ^ 62) (hb : b < 2 ^ 62) : and64 a b = ((a &&& b : Nat) : Int) := by
  have h : a &&& b < 2 ^ 62 := Nat.lt_of_le_of_lt Nat.and_le_left ha
  unfold and64
  show IntKind.wrap .i64 ((BitVec.ofInt 64 (a : Int) &&& BitVec.ofInt 64 (b : Int)).toNat : Int) = _
  rw [ofInt_nat, ofInt_nat, BitVec.toNat_and, ofNat_toNat (by omega), ofNat_toNat (by omega)]
  exact wrap_small (by omega) (by omega)
theorem bit64_and {s v : Nat} (hs : s < 2 ^ 62) (hv : v ≤ 64) : and64 (shr64 s v) 1 = if s.testBit v then 1 else 0 := by
  rw [shr64_nat _ _ hv]
  have h1 : s >>> v < 2 ^ 62 := Nat.lt_of_le_of_lt (Nat.shiftRight_le s v) hs
  have := and64_nat (a := s >>> v) (b := 1) h1 (by decide)
  rw [show ((1 : Nat) : Int) = 1 from rfl] at this
  rw [this, Nat.and_one_is_mod, testBit_mod]
  have : s >>> v % 2 = 0 ∨ s >>> v % 2 = 1 := by omega
  rcases this with h | h <;> rw [h] <;> rfl

/-- The set of the numbers below m with a property. -/
def maskOf (q : Nat → Bool) : Nat → Nat
  | 0 => 0
  | m + 1 => bif q m then maskOf q m ||| 2 ^ m else maskOf q m
theorem maskOf_bit (q : Nat → Bool) (j : Nat) : ∀ m, (maskOf q m).testBit j = (decide (j < m) && q j)
  | 0 => by simp [maskOf]
  | m + 1 => by
    rw [maskOf]
    cases hq : q m with
    | false =>
      simp only [cond_false]
      rw [maskOf_bit q j m]
      by_cases h : j < m
      · simp [h, Nat.lt_succ_of_lt h]
      · by_cases e : j = m
        · subst e; simp [hq]
        · have : ¬ j < m + 1 := by omega
          simp [h, this]
    | true =>
      simp only [cond_true]
      rw [Nat.testBit_or, maskOf_bit q j m, Nat.testBit_two_pow]
      by_cases h : j < m
      · have : ¬ m = j := by omega
        simp [h, Nat.lt_succ_of_lt h, this]
      · by_cases e : j = m
        · subst e; simp [hq]
        · have : ¬ j < m + 1 := by omega
          have h2 : ¬ m = j := by omega
          simp [h, this, h2]
theorem maskOf_lt (q : Nat → Bool) (m : Nat) : maskOf q m < 2 ^ m := by
  apply Nat.lt_pow_two_of_testBit
  intro i hi
  rw [maskOf_bit]
  simp [Nat.not_lt.2 hi]
theorem maskOf_congr {q r : Nat → Bool} : ∀ {m : Nat}, (∀ j, j < m → q j = r j) → maskOf q m = maskOf r m
  | 0, _ => rfl
  | m + 1, h => by rw [maskOf, maskOf, h m (by omega), maskOf_congr fun j hj => h j (by omega)]
theorem maskOf_self {s m : Nat} (h : s < 2 ^ m) : maskOf s.testBit m = s := by
  apply Nat.eq_of_testBit_eq
  intro i
  rw [maskOf_bit]
  by_cases hi : i < m
  · simp [hi]
  · have : s.testBit i = false := Nat.testBit_lt_two_pow (Nat.lt_of_lt_of_le h (Nat.pow_le_pow_right (by decide) (by omega)))
    simp [hi, this]
/-- How many valuations n facts have. -/
theorem vals_le {n : Nat} (h : n ≤ 4) : 1 ≤ 2 ^ n ∧ 2 ^ n ≤ 16 := ⟨Nat.one_le_two_pow, Nat.pow_le_pow_right (by decide) h⟩
theorem sets_le {n : Nat} (h : n ≤ 4) : 2 ^ (2 ^ n) ≤ 65536 := Nat.pow_le_pow_right (by decide) (vals_le h).2 |> fun h => Nat.le_trans h (by decide : 2 ^ 16 ≤ 65536)
/-- Is the number of facts one that is permitted? -/
def okN (facts : Int) : Bool := bif decide (facts ≥ 0) then decide (facts ≤ 4) else false
theorem okN_iff {facts : Int} : okN facts = true ↔ ∃ n : Nat, facts = n ∧ n ≤ 4 := by
  unfold okN
  by_cases h : facts ≥ 0
  · by_cases h2 : facts ≤ 4
    · simp only [h, h2, decide_true, cond_true, true_iff]; exact ⟨facts.toNat, by omega, by omega⟩
    · simp only [h, h2, decide_true, decide_false, cond_true]
      constructor
      · intro e; cases e
      · rintro ⟨n, h3, h4⟩; omega
  · simp only [h, decide_false, cond_false]
    constructor
    · intro e; cases e
    · rintro ⟨n, h3, h4⟩; omega
/-- The error of a set. -/
def bchk (s : Nat) (facts : Int) : Int := bif okN facts then bif decide (s < 2 ^ (2 ^ facts.toNat)) then 0 else 2 else 2
theorem bchk_ok {s : Nat} {facts : Int} (h : bchk s facts = 0) : ∃ n : Nat, facts = n ∧ n ≤ 4 ∧ s < 2 ^ (2 ^ n) := by
  unfold bchk at h
  cases h1 : okN facts with
  | false => rw [h1] at h; cases h
  | true =>
    obtain ⟨n, rfl, hn⟩ := okN_iff.1 h1
    rw [h1] at h
    by_cases h2 : s < 2 ^ (2 ^ ((n : Int)).toNat)
    · exact ⟨n, rfl, hn, h2⟩
    · rw [decide_eq_false h2] at h; cases h
theorem bchk_of {s n : Nat} (hn : n ≤ 4) (hs : s < 2 ^ (2 ^ n)) : bchk s n = 0 := by
  have h1 : okN (n : Int) = true := okN_iff.2 ⟨n, rfl, hn⟩
  have h2 : decide (s < 2 ^ (2 ^ ((n : Int)).toNat)) = true := decide_eq_true hs
  rw [bchk, h1, h2]; rfl
end Go.Proofs.Ytibenjpkinhjhaa
set_option maxRecDepth 100000
namespace Go.Proofs.Ytibenjpkinhjhaa
open Go Go.Dv

/-- In how many of the first facts two valuations differ. -/
def cnt' (u v : Nat) : Nat → Nat
  | 0 => 0
  | i + 1 => bif u.testBit i != v.testBit i then cnt' u v i + 1 else cnt' u v i
def dist (u v : Nat) : Nat := cnt' u v 4
theorem cnt_le (u v : Nat) : ∀ n, cnt' u v n ≤ n
  | 0 => Nat.le_refl 0
  | n + 1 => by have := cnt_le u v n; rw [cnt']; cases (u.testBit n != v.testBit n) <;> simp only [cond_true, cond_false] <;> omega
theorem cnt_more {u v n : Nat} (hu : u < 2 ^ n) (hv : v < 2 ^ n) : ∀ k, cnt' u v (n + k) = cnt' u v n
  | 0 => rfl
  | k + 1 => by
    have h1 : u.testBit (n + k) = false := Nat.testBit_lt_two_pow (Nat.lt_of_lt_of_le hu (Nat.pow_le_pow_right (by decide) (by omega)))
    have h2 : v.testBit (n + k) = false := Nat.testBit_lt_two_pow (Nat.lt_of_lt_of_le hv (Nat.pow_le_pow_right (by decide) (by omega)))
    rw [show n + (k + 1) = (n + k) + 1 by omega, cnt', h1, h2]
    exact cnt_more hu hv k
theorem cnt_dist {u v n : Nat} (hn : n ≤ 4) (hu : u < 2 ^ n) (hv : v < 2 ^ n) : cnt' u v n = dist u v := by
  have := cnt_more hu hv (4 - n)
  rw [show n + (4 - n) = 4 by omega] at this
  exact this.symm
theorem dist_le {u v n : Nat} (hn : n ≤ 4) (hu : u < 2 ^ n) (hv : v < 2 ^ n) : dist u v ≤ n := by rw [← cnt_dist hn hu hv]; exact cnt_le u v n
def badD (u v facts : Int) : Bool := bif bif bif bif !okN facts then true else decide (u < 0) then true else decide (u ≥ shl64 1 facts) then true else decide (v < 0) then true else decide (v ≥ shl64 1 facts)
def distI (u v facts : Int) : Int := bif badD u v facts then -1 else (dist u.toNat v.toNat : Nat)
theorem or_ff' {a b : Bool} (h : (bif a then true else b) = false) : a = false ∧ b = false := by cases a <;> simp_all
theorem shl_n {n : Nat} (hn : n ≤ 4) : shl64 1 (n : Int) = ((2 ^ n : Nat) : Int) := shl64_one (by omega) (by omega)
theorem badD_no {u v facts : Int} (h : badD u v facts = false) : ∃ n a b : Nat, facts = n ∧ n ≤ 4 ∧ u = a ∧ v = b ∧ a < 2 ^ n ∧ b < 2 ^ n := by
  obtain ⟨h, h5⟩ := or_ff' h
  obtain ⟨h, h4⟩ := or_ff' h
  obtain ⟨h, h3⟩ := or_ff' h
  obtain ⟨h1, h2⟩ := or_ff' h
  obtain ⟨n, rfl, hn⟩ := okN_iff.1 (by simpa using h1)
  rw [shl_n hn] at h3 h5
  simp only [decide_eq_false_iff_not] at h2 h3 h4 h5
  exact ⟨n, u.toNat, v.toNat, rfl, hn, by omega, by omega, by omega, by omega⟩
theorem distI_of {u v n : Nat} (hn : n ≤ 4) (hu : u < 2 ^ n) (hv : v < 2 ^ n) : distI u v n = dist u v := by
  have h1 : okN (n : Int) = true := okN_iff.2 ⟨n, rfl, hn⟩
  have e2 : decide ((u : Int) < 0) = false := by simp
  have e3 : decide ((u : Int) ≥ ((2 ^ n : Nat) : Int)) = false := decide_eq_false (by omega)
  have e4 : decide ((v : Int) < 0) = false := by simp
  have e5 : decide ((v : Int) ≥ ((2 ^ n : Nat) : Int)) = false := decide_eq_false (by omega)
  have : badD u v n = false := by unfold badD; rw [shl_n hn, h1, e2, e3, e4, e5]; rfl
  rw [distI, this]; rfl
theorem distI_bd (u v facts : Int) : -1 ≤ distI u v facts ∧ distI u v facts ≤ 4 := by
  unfold distI
  cases badD u v facts with
  | true => simp only [cond_true]; omega
  | false => have := cnt_le u.toNat v.toNat 4; simp only [cond_false, dist]; omega

/-! least values -/
def minP (p : Nat → Bool) (d : Nat → Nat) (n : Nat) : Nat → Nat
  | 0 => n
  | m + 1 => bif p m then min (minP p d n m) (d m) else minP p d n m
def minR (p : Nat → Bool) (d : Nat → Nat) : Nat → Int
  | 0 => -1
  | m + 1 => bif bif p m then bif decide (minR p d m < 0) then true else decide ((d m : Int) < minR p d m) else false then (d m : Int) else minR p d m
theorem minP_le (p : Nat → Bool) (d : Nat → Nat) (n : Nat) : ∀ m, minP p d n m ≤ n
  | 0 => Nat.le_refl n
  | m + 1 => by have := minP_le p d n m; rw [minP]; cases p m <;> simp only [cond_true, cond_false] <;> omega
theorem minR_eq {p : Nat → Bool} {d : Nat → Nat} {n : Nat} : ∀ {m : Nat}, (∀ u, u < m → p u = true → d u ≤ n) → (minR p d m = -1 ∧ (∀ u, u < m → p u = false) ∧ minP p d n m = n) ∨ minR p d m = (minP p d n m : Int)
  | 0, _ => .inl ⟨rfl, fun u h => by omega, rfl⟩
  | m + 1, h => by
    have ih := minR_eq (m := m) (n := n) (d := d) (p := p) fun u hu => h u (by omega)
    cases hp : p m with
    | false =>
      rw [minR, minP, hp]
      simp only [cond_false]
      rcases ih with ⟨h1, h2, h3⟩ | h1
      · left
        refine ⟨h1, fun u hu => ?_, h3⟩
        rcases Nat.lt_or_ge u m with q | q
        · exact h2 u q
        · rw [show u = m by omega]; exact hp
      · exact .inr h1
    | true =>
      have hd := h m (by omega) hp
      right
      rw [minR, minP, hp]
      simp only [cond_true]
      rcases ih with ⟨h1, h2, h3⟩ | h1
      · rw [h1, h3]
        show (d m : Int) = _
        omega
      · rw [h1]
        have e : decide (((minP p d n m : Nat) : Int) < 0) = false := by simp
        rw [e]
        simp only [cond_false]
        by_cases q : (d m : Int) < (minP p d n m : Nat)
        · rw [decide_eq_true q]; simp only [cond_true]; omega
        · rw [decide_eq_false q]; simp only [cond_false]; omega
theorem minR_some {p : Nat → Bool} {d : Nat → Nat} {n m : Nat} (h : ∀ u, u < m → p u = true → d u ≤ n) (hp : ∃ u, u < m ∧ p u = true) : minR p d m = (minP p d n m : Int) := by
  rcases minR_eq h with ⟨_, h2, _⟩ | h1
  · obtain ⟨u, h3, h4⟩ := hp
    rw [h2 u h3] at h4; cases h4
  · exact h1
theorem minR_none {p : Nat → Bool} {d : Nat → Nat} : ∀ {m : Nat}, (∀ u, u < m → p u = false) → minR p d m = -1
  | 0, _ => rfl
  | m + 1, h => by rw [minR, h m (by omega)]; exact minR_none fun u hu => h u (by omega)
theorem minR_congr {p : Nat → Bool} {d e : Nat → Nat} : ∀ {m : Nat}, (∀ u, u < m → d u = e u) → minR p d m = minR p e m
  | 0, _ => rfl
  | m + 1, h => by rw [minR, minR, h m (by omega), minR_congr fun u hu => h u (by omega)]
theorem minR_bd {p : Nat → Bool} {d : Nat → Nat} {n : Nat} {m : Nat} (h : ∀ u, u < m → p u = true → d u ≤ n) : -1 ≤ minR p d m ∧ minR p d m ≤ n := by
  have := minP_le p d n m
  rcases minR_eq h with ⟨h1, _⟩ | h1 <;> omega
theorem some_bit {s m : Nat} (h0 : s ≠ 0) (h : s < 2 ^ m) : ∃ u, u < m ∧ s.testBit u = true := by
  obtain ⟨u, hu⟩ := Nat.exists_testBit_of_ne_zero h0
  refine ⟨u, ?_, hu⟩
  rcases Nat.lt_or_ge u m with q | q
  · exact q
  · rw [Nat.testBit_lt_two_pow (Nat.lt_of_lt_of_le h (Nat.pow_le_pow_right (by decide) q))] at hu; cases hu

def near (v s n : Nat) : Nat := minP s.testBit (fun u => dist u v) n (2 ^ n)
def btw (a b n : Nat) : Nat := minP a.testBit (fun v => near v b n) n (2 ^ n)
def badB (a b : Nat) (facts : Int) : Bool := bif bif bif bchk a facts != 0 then true else bchk b facts != 0 then true else (a : Int) == 0 then true else (b : Int) == 0
def btwI (a b : Nat) (facts : Int) : Int := bif badB a b facts then -1 else (btw a b facts.toNat : Nat)
theorem near_le (v s n : Nat) : near v s n ≤ n := minP_le _ _ _ _
theorem near_ref {v s n : Nat} (hn : n ≤ 4) (hv : v < 2 ^ n) (hs : s < 2 ^ (2 ^ n)) (h0 : s ≠ 0) : minR s.testBit (fun u => dist u v) (2 ^ n) = (near v s n : Int) :=
  minR_some (fun _ hu _ => dist_le hn hu hv) (some_bit h0 hs)
theorem badB_no {a b : Nat} {facts : Int} (h : badB a b facts = false) : ∃ n : Nat, facts = n ∧ n ≤ 4 ∧ a < 2 ^ (2 ^ n) ∧ b < 2 ^ (2 ^ n) ∧ a ≠ 0 ∧ b ≠ 0 := by
  obtain ⟨h, h4⟩ := or_ff' h
  obtain ⟨h, h3⟩ := or_ff' h
  obtain ⟨h1, h2⟩ := or_ff' h
  obtain ⟨n, rfl, hn, ha⟩ := bchk_ok (by simpa using h1)
  obtain ⟨n', hn', _, hb⟩ := bchk_ok (by simpa using h2)
  have : n' = n := by omega
  subst this
  exact ⟨n', rfl, hn, ha, hb, by simpa using h3, by simpa using h4⟩
theorem btwI_of {a b n : Nat} (hn : n ≤ 4) (ha : a < 2 ^ (2 ^ n)) (hb : b < 2 ^ (2 ^ n)) (a0 : a ≠ 0) (b0 : b ≠ 0) : btwI a b n = btw a b n := by
  have : badB a b n = false := by
    unfold badB
    have e1 : ((a : Int) == 0) = false := by simp; omega
    have e2 : ((b : Int) == 0) = false := by simp; omega
    rw [bchk_of hn ha, bchk_of hn hb, e1, e2]; rfl
  rw [btwI, this]; rfl
/-- The reference's way to the least distance. -/
theorem btw_ref {a b n : Nat} (hn : n ≤ 4) (ha : a < 2 ^ (2 ^ n)) (hb : b < 2 ^ (2 ^ n)) (b0 : b ≠ 0) : minR a.testBit (fun v => near v b n) (2 ^ n) = btwI a b n := by
  by_cases a0 : a = 0
  · subst a0
    rw [minR_none fun u _ => Nat.zero_testBit u]
    have : badB 0 b n = true := by unfold badB; rw [bchk_of hn ha, bchk_of hn hb]; rfl
    rw [btwI, this]; rfl
  · rw [btwI_of hn ha hb a0 b0]
    exact minR_some (fun _ _ _ => near_le _ _ _) (some_bit a0 ha)
def closest (a b n : Nat) : Nat := maskOf (fun v => bif a.testBit v then ((near v b n : Nat) : Int) == btwI a b n else false) (2 ^ n)
def closestI (a b : Nat) (facts : Int) : Nat × Int :=
  bif bchk a facts != 0 then (0, bchk a facts) else bif bchk b facts != 0 then (0, bchk b facts) else bif (b : Int) == 0 then (a, 0) else (closest a b facts.toNat, 0)
end Go.Proofs.Ytibenjpkinhjhaa
set_option maxRecDepth 100000
namespace Go.Proofs.Ytibenjpkinhjhaa
open Go Go.Dv

theorem ex3 {α : Type} {A B C : α → Prop} {m : α} (h1 : A m) (h2 : B m) (h3 : C m) : ∃ m, A m ∧ B m ∧ C m := ⟨m, h1, h2, h3⟩
theorem ex2 {α : Type} {A B : α → Prop} {m : α} (h1 : A m) (h2 : B m) : ∃ m, A m ∧ B m := ⟨m, h1, h2⟩
def evO (op : Int) (f a b : Bool) : Bool :=
  bif op == 1 then true else bif op == 3 then f else bif op == 4 then !a else bif op == 5 then (bif a then b else false) else bif op == 6 then (bif a then true else b) else bif op == 7 then (bif !a then true else b) else bif op == 8 then a == b else false
def evN (l : List Bool) (x : Nd) (v : Nat) : Bool := evO x.op (v.testBit x.i.toNat) (l.getD x.x.toNat false) (l.getD x.y.toNat false)
def evs (c : List Nd) (v : Nat) : List Bool := c.foldl (fun l x => l ++ [evN l x v]) []
def holds (c : List Nd) (v : Nat) : Bool := (evs c v).getD (c.length - 1) false
theorem evs_take {c : List Nd} {i : Nat} (v : Nat) (h : i < c.length) : evs (c.take (i + 1)) v = evs (c.take i) v ++ [evN (evs (c.take i) v) c[i] v] := by
  rw [List.take_succ_eq_append_getElem h, evs, List.foldl_append]; rfl
theorem evs_len (v : Nat) : ∀ (c : List Nd), (evs c v).length = c.length := by
  have : ∀ (c : List Nd) (d : List Bool), (c.foldl (fun l x => l ++ [evN l x v]) d).length = d.length + c.length := by
    intro c
    induction c with
    | nil => intro d; simp
    | cons x r ih => intro d; rw [List.foldl_cons, ih]; simp; omega
  intro c
  have := this c []
  simpa [evs] using this
/-- The reference's way, condition after condition. -/
def evR (op : Int) (f a b : Bool) : Bool :=
  bif op == 8 then a == b else bif op == 7 then (bif !a then true else b) else bif op == 6 then (bif a then true else b) else bif op == 5 then (bif a then b else false) else bif op == 4 then !a else bif op == 3 then f else op == 1
theorem evR_eq (op : Int) (f a b : Bool) : evR op f a b = evO op f a b := by
  unfold evR evO
  by_cases h1 : op = 1
  · subst h1; rfl
  · by_cases h3 : op = 3
    · subst h3; rfl
    · by_cases h4 : op = 4
      · subst h4; rfl
      · by_cases h5 : op = 5
        · subst h5; rfl
        · by_cases h6 : op = 6
          · subst h6; rfl
          · by_cases h7 : op = 7
            · subst h7; rfl
            · by_cases h8 : op = 8
              · subst h8; rfl
              · have e1 : (op == 1) = false := by simpa using h1
                have e3 : (op == 3) = false := by simpa using h3
                have e4 : (op == 4) = false := by simpa using h4
                have e5 : (op == 5) = false := by simpa using h5
                have e6 : (op == 6) = false := by simpa using h6
                have e7 : (op == 7) = false := by simpa using h7
                have e8 : (op == 8) = false := by simpa using h8
                rw [e1, e3, e4, e5, e6, e7, e8]; rfl
/-- With operands only where there are some. -/
theorem evO_uses (op : Int) (f a b : Bool) : evO op f (bif usesX op then a else false) (bif usesY op then b else false) = evO op f a b := by
  by_cases h4 : op = 4
  · subst h4; rfl
  · by_cases h5 : op = 5
    · subst h5; rfl
    · by_cases h6 : op = 6
      · subst h6; rfl
      · by_cases h7 : op = 7
        · subst h7; rfl
        · by_cases h8 : op = 8
          · subst h8; rfl
          · have e4 : (op == 4) = false := by simpa using h4
            have e5 : (op == 5) = false := by simpa using h5
            have e6 : (op == 6) = false := by simpa using h6
            have e7 : (op == 7) = false := by simpa using h7
            have e8 : (op == 8) = false := by simpa using h8
            unfold evO
            rw [e4, e5, e6, e7, e8]
            simp only [cond_false]
def modelsOf (f : List Nd) (n : Nat) : Nat := maskOf (fun v => holds (comp f) v) (2 ^ n)
def modelsI (f : List Nd) (facts : Int) : Nat × Int :=
  bif !okN facts then (0, 2) else bif check f != 0 then (0, check f) else bif ((frags f : Nat) : Int) != 0 then (0, 10) else bif !fits f 0 facts then (0, 2) else (modelsOf f facts.toNat, 0)

/-! arrays half filled -/
def half (A : List Bool) (n : Nat) : List Bool := A ++ List.replicate (n - A.length) false
theorem half_len {A : List Bool} {n : Nat} (h : A.length ≤ n) : (half A n).length = n := by rw [half, List.length_append, List.length_replicate]; omega
theorem half_get {A : List Bool} {n k : Nat} (h : k < A.length) : (half A n)[k]? = some (A.getD k false) := by
  rw [half, List.getElem?_append_left h, List.getD_eq_getElem?_getD, List.getElem?_eq_getElem h]; rfl
theorem half_all {A : List Bool} {n k : Nat} (h : k < n) : (half A n)[k]? = some (A.getD k false) := by
  rcases Nat.lt_or_ge k A.length with q | q
  · exact half_get q
  · rw [half, List.getElem?_append_right q, List.getElem?_replicate, if_pos (by omega), List.getD_eq_getElem?_getD, List.getElem?_eq_none q]; rfl
theorem half_next {A : List Bool} {n : Nat} (h : A.length < n) : (half A n)[A.length]? = some false := by
  rw [half, List.getElem?_append_right (Nat.le_refl _), Nat.sub_self, List.getElem?_replicate, if_pos (by omega)]
theorem half_set {A : List Bool} {n : Nat} (b : Bool) (h : A.length < n) : (half A n).set A.length b = half (A ++ [b]) n := by
  unfold half
  have e : n - A.length = (n - (A ++ [b]).length) + 1 := by rw [List.length_append]; simp only [List.length_cons, List.length_nil]; omega
  rw [e, List.replicate_succ]
  simp [List.set_append_right]
theorem half_skip {A : List Bool} {n : Nat} (h : A.length < n) : half A n = half (A ++ [false]) n := by
  rw [← half_set false h]
  apply List.ext_getElem?
  intro i
  rw [List.getElem?_set]
  split
  · rename_i e
    subst e
    rw [if_pos (by rw [half_len (by omega)]; exact h), half_next h]
  · rfl
theorem half_full {A : List Bool} {n : Nat} (h : A.length = n) : half A n = A := by
  rw [half, h, Nat.sub_self]; simp
end Go.Proofs.Ytibenjpkinhjhaa
set_option maxRecDepth 100000
set_option maxHeartbeats 4000000
namespace Go.Proofs.Ytibenjpkinhjhaa
open Go Go.Dv

def ptv (k i e g : Int) (F G : List Nd) : PV := .agg [.int .i64 k, .int .i64 i, .int .i64 e, .int .i64 g, fpv F, fpv G]
def useI (k : Int) : Bool := bif bif bif bif bif k == 3 then true else k == 9 then true else k == 10 then true else k == 14 then true else k == 15 then true else k == 17
def useG (k : Int) : Bool := bif bif k == 11 then true else k == 12 then true else k == 13
def wantN (k i e g : Int) : Nd := ⟨k, bif useI k then i else 0, bif k == 17 then e else 0, bif useG k then g else 0, 0, 0⟩
def wantL (k i e g : Int) (F G : List Nd) : List Nd := bif usesY k then binL (wantN k i e g) F G else bif usesX k then unL (wantN k i e g) F else oneL (wantN k i e g)
theorem le_f {a b : List Nd} (h : a = b) : PLe (fpv a) (fpv b) := h ▸ .refl _

theorem shortL_len (g : List Nd) : (shortL g).length ≤ 200 := by
  unfold shortL
  cases decide ((g.length : Int) > 401) with
  | true => simp
  | false =>
    cases h2 : decide (((canon g (g.length - 1)).length : Int) > 200) with
    | true => simp
    | false => simp only [cond_false]; simp at h2; omega
theorem wantL_len (k i e g : Int) (F G : List Nd) : (wantL k i e g F G).length ≤ 200 := by
  unfold wantL
  cases usesY k with
  | true =>
    simp only [cond_true]; unfold binL
    cases (bif check F != 0 then true else check G != 0) with
    | true => simp
    | false =>
      cases (nodeErr (binN (wantN k i e g) F G) (F ++ G.map (shN F.length)).length != 0) with
      | true => simp
      | false => exact shortL_len _
  | false =>
    cases usesX k with
    | true =>
      simp only [cond_true, cond_false]; unfold unL
      cases (check F != 0) with
      | true => simp
      | false =>
        cases (nodeErr { wantN k i e g with x := (F.length : Int) - 1 } F.length != 0) with
        | true => simp
        | false => exact shortL_len _
    | false =>
      simp only [cond_false]; unfold oneL
      cases (nodeErr (wantN k i e g) 0 != 0) with
      | true => simp
      | false => simp
end Go.Proofs.Ytibenjpkinhjhaa
namespace Go.Proofs.Ytibenjpkinhjhaa
open Go Go.Dv

/-- A list that is the canonical one of its own last node. -/
structure Can (s : List Nd) : Prop where
  ok : Okl s
  pos : 1 ≤ s.length
  len : s.length ≤ 200
  fix : (finT (root s) []).2 = s
theorem Can.check {s : List Nd} (h : Can s) : check s = 0 := okl_check h.ok h.pos h.len
theorem canon_can {f : List Nd} (hf : Okl f) (hl : f.length ≤ 200) {i : Nat} (hi : i < f.length) : Can (canon f i) := by
  obtain ⟨h1, h2⟩ := canon_ok hf hi
  refine ⟨h1, h2, by have := canon_len hf.wf hi; omega, ?_⟩
  have hr := (canon_root hf hi).2
  unfold root
  rw [hr, ← canon_tree hf hi]
theorem comp_can {f : List Nd} (h : Go.Proofs.Ytibenjpkinhjhaa.check f = 0) : Can (comp f) := by
  rw [comp_eq h]
  have := check_ok h
  exact canon_can (check_okl h) this.2.1 (by omega)
theorem can_comp {s : List Nd} (h : Can s) : comp s = s := by rw [comp_root h.check, h.fix]
/-- The node without its operands. -/
theorem want_nd {x : Nd} {k : Int} (h : OkNd x k) : wantN x.op x.i x.e x.g = { x with x := 0, y := 0 } := by
  have e1 : (bif useI x.op then x.i else 0) = x.i := by
    cases hu : useI x.op with
    | true => rfl
    | false =>
      have := h.noi (by intro e; rw [e] at hu; cases hu) (by
        have ho := h.op
        have key : ∀ n : Nat, n < 22 → useI (n : Int) = false → isAgent (n : Int) = false := by decide
        have := key x.op.toNat (by omega)
        rw [show ((x.op.toNat : Nat) : Int) = x.op by omega] at this
        exact this hu) (by intro e; rw [e] at hu; cases hu)
      rw [this]; rfl
  have e2 : (bif x.op == 17 then x.e else 0) = x.e := by
    cases hu : (x.op == 17) with
    | true => rfl
    | false => rw [h.noe (by simpa using hu)]; rfl
  have e3 : (bif useG x.op then x.g else 0) = x.g := by
    cases hu : useG x.op with
    | true => rfl
    | false =>
      have ho := h.op
      have key : ∀ n : Nat, n < 22 → useG (n : Int) = false → isGroup (n : Int) = false := by decide
      have := key x.op.toNat (by omega)
      rw [show ((x.op.toNat : Nat) : Int) = x.op by omega] at this
      rw [h.nog (this hu)]; rfl
  unfold wantN
  rw [e1, e2, e3]
theorem y_of_x {op : Int} (h : usesY op = true) : usesX op = true := by
  unfold usesX
  unfold usesY at h
  simp at h ⊢
  omega
theorem sub_can {s : List Nd} (h : Can s) {j : Nat} (hj : j < s.length) : sub s j = canon s j := by
  have e1 : (Go.Proofs.Ytibenjpkinhjhaa.check s != 0) = false := by rw [h.check]; rfl
  have e2 : decide ((j : Int) < 0) = false := by simp
  have e3 : decide ((j : Int) ≥ (s.length : Int)) = false := by simp; omega
  rw [sub, e1, e2, e3]; rfl
/-- What build_un and build_bin come to, by trees. -/
theorem un_tree {x : Nd} {f : List Nd} {t : List Nd} (hf : Can f) (hx : usesX x.op = true) (hy : usesY x.op = false) (hok : OkNd { x with x := (f.length : Int) - 1 } f.length)
    (ht : (finT (.nd x.op x.i x.e x.g (root f) .none) []).2 = t) (hl : t.length ≤ 200) : unL x f = t := by
  have e0 : (Go.Proofs.Ytibenjpkinhjhaa.check f != 0) = false := by rw [hf.check]; rfl
  have e1 : (nodeErr { x with x := (f.length : Int) - 1 } f.length != 0) = false := by rw [nodeErr_ok.2 hok]; rfl
  have hfl := hf.len
  have hfp := hf.pos
  have e2 := canon_snoc hf.ok hok
  simp only [hx, hy, cond_true, cond_false] at e2
  rw [show ((f.length : Int) - 1).toNat = f.length - 1 by omega] at e2
  have e3 : canon (f ++ [{ x with x := (f.length : Int) - 1 }]) f.length = t := e2.trans ht
  rw [unL, e0, e1]
  simp only [cond_false]
  rw [short_snoc (by omega), e3]
  have e4 : decide ((t.length : Int) > 200) = false := by simp; omega
  rw [e4]; rfl
theorem bin_tree {x : Nd} {f g : List Nd} {t : List Nd} (hf : Can f) (hg : Can g) (hx : usesX x.op = true) (hy : usesY x.op = true) (hok : OkNd (binN x f g) (f ++ g.map (shN f.length)).length)
    (ht : (finT (.nd x.op x.i x.e x.g (root f) (root g)) []).2 = t) (hl : t.length ≤ 200) : binL x f g = t := by
  have e0 : (Go.Proofs.Ytibenjpkinhjhaa.check f != 0) = false := by rw [hf.check]; rfl
  have e0' : (Go.Proofs.Ytibenjpkinhjhaa.check g != 0) = false := by rw [hg.check]; rfl
  have e1 : (nodeErr (binN x f g) (f ++ g.map (shN f.length)).length != 0) = false := by rw [nodeErr_ok.2 hok]; rfl
  have hfl := hf.len
  have hfp := hf.pos
  have hgl := hg.len
  have hgp := hg.pos
  have e2 := canon_snoc (okl_append hf.ok hg.ok) hok
  obtain ⟨u1, u2⟩ := bin_last hf.ok hg.ok hfp hgp
  have ho : (binN x f g).op = x.op := rfl
  rw [ho] at e2
  simp only [hx, hy, cond_true] at e2
  have n1 : (binN x f g).x.toNat = f.length - 1 := by show ((f.length : Int) - 1).toNat = _; omega
  have n2 : (binN x f g).y.toNat = (f ++ g.map (shN f.length)).length - 1 := by show (((f ++ g.map (shN f.length)).length : Int) - 1).toNat = _; omega
  rw [n1, n2, u1, u2] at e2
  have e3 : canon (f ++ g.map (shN f.length) ++ [binN x f g]) (f ++ g.map (shN f.length)).length = t := e2.trans ht
  rw [binL, e0, e0', e1]
  simp only [cond_false]
  rw [short_snoc (by rw [List.length_append, List.length_map]; omega), e3]
  have e4 : decide ((t.length : Int) > 200) = false := by simp; omega
  rw [e4]; rfl
/-- Every canonical list is what the constructor of its last operator makes of its operands. -/
theorem rebuild {s : List Nd} (h : Can s) {x : Nd} (hx : s[s.length - 1]? = some x) :
    wantL x.op x.i x.e x.g (bif usesX x.op then sub s x.x else []) (bif usesY x.op then sub s x.y else []) = s := by
  have ok := h.ok _ x hx
  have hpos := h.pos
  have hr : root s = .nd x.op x.i x.e x.g (bif usesX x.op then tree s x.x.toNat else .none) (bif usesY x.op then tree s x.y.toNat else .none) := tree_nd h.ok hx
  have hw := want_nd ok
  have hfix := h.fix
  unfold wantL
  rw [hw]
  cases hu : usesX x.op with
  | false =>
    have hv : usesY x.op = false := by
      cases hv : usesY x.op with
      | false => rfl
      | true => rw [y_of_x hv] at hu; cases hu
    rw [hu, hv] at hr
    rw [hr] at hfix
    simp only [cond_false, hv]
    have hz : ({ x with x := 0, y := 0 } : Nd) = x := by
      have e1 := ok.nox hu
      have e2 := ok.noy hv
      cases x; simp only at e1 e2; subst e1; subst e2; rfl
    rw [hz, oneL]
    have ok0 : OkNd x 0 := ok.re rfl rfl rfl rfl (fun u => by rw [hu] at u; cases u) ok.nox (fun u => by rw [hv] at u; cases u) ok.noy
    have e1 : (nodeErr x 0 != 0) = false := by rw [nodeErr_ok.2 ok0]; rfl
    rw [e1]
    simp only [cond_false, finT, putN, idx, List.nil_append] at hfix ⊢
    rw [← hfix]
    have e1 := ok.nox hu
    have e2 := ok.noy hv
    cases x; simp only at e1 e2; subst e1; subst e2; rfl
  | true =>
    have hxr := ok.x hu
    obtain ⟨j, hj⟩ : ∃ j : Nat, x.x = j := ⟨x.x.toNat, by omega⟩
    have hjl : j < s.length := by omega
    have hF := canon_can h.ok h.len hjl
    have hFr : root (canon s j) = tree s j := (canon_root h.ok hjl).2
    rw [hu] at hr
    simp only [cond_true] at hr
    rw [hj, Int.toNat_natCast, ← hFr] at hr
    simp only [cond_true]
    rw [hj, sub_can h hjl]
    cases hv : usesY x.op with
    | false =>
      rw [hv] at hr
      simp only [cond_false] at hr ⊢
      have hFp := hF.pos
      refine un_tree (x := { x with x := 0, y := 0 }) hF hu hv (ok.re rfl rfl rfl rfl (fun _ => ⟨by simp only; omega, by simp only; omega⟩) (fun u => by rw [hu] at u; cases u) (fun u => by rw [hv] at u; cases u) (fun _ => rfl)) ?_ h.len
      simp only
      rw [← hr]; exact hfix
    | true =>
      have hyr := ok.y hv
      obtain ⟨k, hk⟩ : ∃ k : Nat, x.y = k := ⟨x.y.toNat, by omega⟩
      have hkl : k < s.length := by omega
      have hG := canon_can h.ok h.len hkl
      have hGr : root (canon s k) = tree s k := (canon_root h.ok hkl).2
      rw [hv] at hr
      simp only [cond_true] at hr ⊢
      rw [hk, Int.toNat_natCast, ← hGr] at hr
      rw [hk, sub_can h hkl]
      have hFp := hF.pos
      have hGp := hG.pos
      refine bin_tree (x := { x with x := 0, y := 0 }) hF hG hu hv (ok.re rfl rfl rfl rfl (fun _ => ⟨by simp only [binN]; omega, by simp only [binN, List.length_append, List.length_map]; omega⟩) (fun u => by rw [hu] at u; cases u) (fun _ => ⟨by simp only [binN, List.length_append, List.length_map]; omega, by simp only [binN]; omega⟩) (fun u => by rw [hv] at u; cases u)) ?_ h.len
      simp only
      rw [← hr]; exact hfix
end Go.Proofs.Ytibenjpkinhjhaa
set_option maxRecDepth 100000
namespace Go.Proofs.Ytibenjpkinhjhaa
open Go Go.Dv

def tev (v : Nat) : Tr → Bool
  | .none => false
  | .nd op i _ _ a b => evO op (v.testBit i.toNat) (tev v a) (tev v b)
def opN (n : Nat) (op i g : Int) : Bool := decide (1 ≤ op) && decide (op ≤ 8) && (op != 3 || decide (i < n)) && g == 0
def propT (n : Nat) : Tr → Bool
  | .none => true
  | .nd op i _ g a b => opN n op i g && propT n a && propT n b
theorem evs_tree {c : List Nd} (hc : Okl c) (v : Nat) : ∀ n, n ≤ c.length → ∀ i, i < n → (evs (c.take n) v).getD i false = tev v (tree c i)
  | 0, _, i, h => by omega
  | n + 1, hn, i, hi => by
    have hl : (evs (c.take n) v).length = n := by rw [evs_len, List.length_take]; omega
    rw [evs_take v (by omega)]
    rcases Nat.lt_or_ge i n with h | h
    · rw [List.getD_eq_getElem?_getD, List.getElem?_append_left (by omega), ← List.getD_eq_getElem?_getD]
      exact evs_tree hc v n (by omega) i h
    · have e : i = n := by omega
      subst e
      have hx : c[i]? = some c[i] := List.getElem?_eq_getElem (by omega)
      rw [List.getD_eq_getElem?_getD, List.getElem?_append_right (by omega), hl, Nat.sub_self]
      simp only [List.getElem?_cons_zero, Option.getD_some]
      generalize c[i] = x at hx ⊢
      have ok := hc i x hx
      rw [tree_nd hc hx, tev, evN, ← evO_uses]
      have ex : (bif usesX x.op then (evs (c.take i) v).getD x.x.toNat false else false) = tev v (bif usesX x.op then tree c x.x.toNat else .none) := by
        cases hu : usesX x.op with
        | false => rfl
        | true => have := ok.x hu; exact evs_tree hc v i (by omega) _ (by omega)
      have ey : (bif usesY x.op then (evs (c.take i) v).getD x.y.toNat false else false) = tev v (bif usesY x.op then tree c x.y.toNat else .none) := by
        cases hu : usesY x.op with
        | false => rfl
        | true => have := ok.y hu; exact evs_tree hc v i (by omega) _ (by omega)
      rw [ex, ey]
theorem holds_root {c : List Nd} (hc : Okl c) (h1 : 1 ≤ c.length) (v : Nat) : holds c v = tev v (root c) := by
  have := evs_tree hc v c.length (Nat.le_refl _) (c.length - 1) (by omega)
  rw [List.take_length] at this
  rw [holds, this]; rfl
theorem putN_le (out : List Nd) (x : Nd) : (putN out x).2.length ≤ out.length + 1 := by
  unfold putN; cases idx x out 0 <;> simp
theorem finT_len : ∀ (t : Tr) (out : List Nd), (finT t out).2.length ≤ out.length + t.size
  | .none, out => by simp [finT]
  | .nd op i e g a b, out => by
    rw [finT, Tr.size]
    have h1 := finT_len a out
    have h2 := finT_len b (finT a out).2
    have h3 := putN_le (finT b (finT a out).2).2 ⟨op, i, e, g, ((finT a out).1 : Int), ((finT b (finT a out).2).1 : Int)⟩
    omega
theorem finT_prop {n : Nat} : ∀ (t : Tr) (out : List Nd), propT n t = true → (∀ y, y ∈ out → opN n y.op y.i y.g = true) → ∀ y, y ∈ (finT t out).2 → opN n y.op y.i y.g = true
  | .none, out, _, ho, y, hy => ho y hy
  | .nd op i e g a b, out, ht, ho, y, hy => by
    rw [propT, Bool.and_eq_true, Bool.and_eq_true] at ht
    rw [finT] at hy
    obtain ⟨_, _, t, h1, h2⟩ := putN_spec (finT b (finT a out).2).2 ⟨op, i, e, g, ((finT a out).1 : Int), ((finT b (finT a out).2).1 : Int)⟩
    rw [h1] at hy
    rcases List.mem_append.1 hy with h | h
    · exact finT_prop b _ ht.2 (finT_prop a out ht.1.2 ho) y h
    · rw [h2 y h]; exact ht.1.1
/-- The canonical list of a node of a list whose tree is small. -/
theorem tree_can {F : List Nd} (hF : Okl F) {k : Nat} (hk : k < F.length) (hs : (tree F k).size ≤ 200) : Can (canon F k) ∧ root (canon F k) = tree F k := by
  obtain ⟨h1, h2⟩ := canon_ok hF hk
  have h3 := (canon_root hF hk).2
  have h4 := canon_tree hF hk
  have h5 := finT_len (tree F k) []
  refine ⟨⟨h1, h2, by rw [h4]; simp only [List.length_nil] at h5; omega, ?_⟩, h3⟩
  unfold root
  rw [h3, ← h4]
theorem un_can {op : Int} {f : List Nd} (hf : Can f) (hx : usesX op = true) (hy : usesY op = false) (hok : OkNd { n0 op with x := (f.length : Int) - 1 } f.length) (hs : (root f).size + 1 ≤ 200) :
    Can (buildL (n0 op) [f]) ∧ root (buildL (n0 op) [f]) = .nd op 0 0 0 (root f) .none := by
  have hp := hf.pos
  have hF := okl_snoc hf.ok hok
  have hT : tree (f ++ [{ n0 op with x := (f.length : Int) - 1 }]) f.length = .nd op 0 0 0 (root f) .none := by
    rw [tree_nd hF (x := { n0 op with x := (f.length : Int) - 1 }) (by simp)]
    simp only [n0, hx, hy, cond_true, cond_false]
    rw [show ((f.length : Int) - 1).toNat = f.length - 1 by omega, tree_append hf.ok (by omega)]; rfl
  have hk : f.length < (f ++ [{ n0 op with x := (f.length : Int) - 1 }]).length := by simp
  have hsz : (tree (f ++ [{ n0 op with x := (f.length : Int) - 1 }]) f.length).size ≤ 200 := by rw [hT]; simp only [Tr.size]; omega
  obtain ⟨h1, h2⟩ := tree_can hF hk hsz
  have e : buildL (n0 op) [f] = canon (f ++ [{ n0 op with x := (f.length : Int) - 1 }]) f.length := by
    rw [build_un (n0 op) f hx hy rfl]
    refine un_tree (t := canon (f ++ [{ n0 op with x := (f.length : Int) - 1 }]) f.length) hf hx hy hok ?_ h1.len
    rw [canon_tree hF hk, hT]; rfl
  rw [e, h2, hT]
  exact ⟨h1, rfl⟩
theorem bin_can {op : Int} {f g : List Nd} (hf : Can f) (hg : Can g) (hx : usesX op = true) (hy : usesY op = true) (hok : OkNd (binN (n0 op) f g) (f ++ g.map (shN f.length)).length) (hs : (root f).size + (root g).size + 1 ≤ 200) :
    Can (buildL (n0 op) [f, g]) ∧ root (buildL (n0 op) [f, g]) = .nd op 0 0 0 (root f) (root g) := by
  have hp := hf.pos
  have hq := hg.pos
  have hA := okl_append hf.ok hg.ok
  have hF := okl_snoc hA hok
  obtain ⟨u1, u2⟩ := bin_last hf.ok hg.ok hp hq
  have hl : 1 ≤ (f ++ g.map (shN f.length)).length := by rw [List.length_append]; omega
  have hT : tree (f ++ g.map (shN f.length) ++ [binN (n0 op) f g]) (f ++ g.map (shN f.length)).length = .nd op 0 0 0 (root f) (root g) := by
    rw [tree_nd hF (x := binN (n0 op) f g) (by simp)]
    simp only [show (binN (n0 op) f g).op = op from rfl, hx, hy, cond_true]
    have n1 : (binN (n0 op) f g).x.toNat = f.length - 1 := by show ((f.length : Int) - 1).toNat = _; omega
    have n2 : (binN (n0 op) f g).y.toNat = (f ++ g.map (shN f.length)).length - 1 := by show (((f ++ g.map (shN f.length)).length : Int) - 1).toNat = _; omega
    rw [n1, n2, tree_append hA (by rw [List.length_append]; omega), tree_append hA (by omega), u1, u2]; rfl
  have hk : (f ++ g.map (shN f.length)).length < (f ++ g.map (shN f.length) ++ [binN (n0 op) f g]).length := by simp
  have hsz : (tree (f ++ g.map (shN f.length) ++ [binN (n0 op) f g]) (f ++ g.map (shN f.length)).length).size ≤ 200 := by rw [hT]; simp only [Tr.size]; omega
  obtain ⟨h1, h2⟩ := tree_can hF hk hsz
  have e : buildL (n0 op) [f, g] = canon (f ++ g.map (shN f.length) ++ [binN (n0 op) f g]) (f ++ g.map (shN f.length)).length := by
    rw [build_bin (n0 op) f g hx hy]
    refine bin_tree (t := canon (f ++ g.map (shN f.length) ++ [binN (n0 op) f g]) (f ++ g.map (shN f.length)).length) hf hg hx hy hok ?_ h1.len
    rw [canon_tree hF hk, hT]; rfl
  rw [e, h2, hT]
  exact ⟨h1, rfl⟩
/-- A formula about the first n facts whose tree is small. -/
structure Gd (n : Nat) (f : List Nd) (k : Nat) : Prop where
  can : Can f
  size : (root f).size ≤ k
  ok : propT n (root f) = true
theorem neg_gd {n k : Nat} {f : List Nd} (h : Gd n f k) (hk : k + 1 ≤ 200) : Gd n (buildL (n0 4) [f]) (k + 1) ∧ ∀ v, tev v (root (buildL (n0 4) [f])) = !tev v (root f) := by
  have hp := h.can.pos
  have hs := h.size
  have hok : OkNd { n0 4 with x := (f.length : Int) - 1 } f.length := by
    constructor <;> simp [n0, usesX, usesY, isAgent, isGroup] <;> omega
  obtain ⟨h1, h2⟩ := un_can h.can (op := 4) rfl rfl hok (by omega)
  refine ⟨⟨h1, by rw [h2]; simp only [Tr.size]; omega, by rw [h2]; simp only [propT, h.ok]; rfl⟩, fun v => by rw [h2]; rfl⟩
theorem join_gd {n k : Nat} {op : Int} (hop : op = 5 ∨ op = 6) : ∀ (r : List (List Nd)) (a : List Nd) (m : Nat), Gd n a m → (∀ g, g ∈ r → Gd n g k) → m + r.length * (k + 1) ≤ 200 →
    Gd n (r.foldl (fun a g => buildL (n0 op) [a, g]) a) (m + r.length * (k + 1)) ∧ ∀ v, tev v (root (r.foldl (fun a g => buildL (n0 op) [a, g]) a)) = r.foldl (fun b g => evO op false b (tev v (root g))) (tev v (root a))
  | [], a, m, ha, _, _ => ⟨by simpa using ha, fun _ => rfl⟩
  | g :: r, a, m, ha, hr, hl => by
    have e : (g :: r).length * (k + 1) = (k + 1) + r.length * (k + 1) := by rw [List.length_cons, Nat.add_mul, Nat.one_mul, Nat.add_comm]
    rw [e] at hl ⊢
    have hg := hr g (by simp)
    have h1 := ha.can.pos
    have h2 := hg.can.pos
    have h3 := ha.size
    have h4 := hg.size
    have hx : usesX op = true := by rcases hop with rfl | rfl <;> rfl
    have hy : usesY op = true := by rcases hop with rfl | rfl <;> rfl
    have hok : OkNd (binN (n0 op) a g) (a ++ g.map (shN a.length)).length := by
      have hl : (a ++ g.map (shN a.length)).length = a.length + g.length := by rw [List.length_append, List.length_map]
      unfold binN
      rw [hl]
      rcases hop with rfl | rfl <;> constructor <;> simp [n0, usesX, usesY, isAgent, isGroup] <;> omega
    obtain ⟨c1, c2⟩ := bin_can ha.can hg.can hx hy hok (by omega)
    have hnew : Gd n (buildL (n0 op) [a, g]) (m + (k + 1)) := ⟨c1, by rw [c2]; simp only [Tr.size]; omega, by
      rw [c2]; simp only [propT, ha.ok, hg.ok]; rcases hop with rfl | rfl <;> rfl⟩
    obtain ⟨i1, i2⟩ := join_gd hop r _ _ hnew (fun g' hg' => hr g' (by simp [hg'])) (by omega)
    refine ⟨by rw [List.foldl_cons, ← Nat.add_assoc]; exact i1, fun v => ?_⟩
    rw [List.foldl_cons, List.foldl_cons, i2 v, c2, tev]
    have : ∀ b c : Bool, evO op (v.testBit (0 : Int).toNat) b c = evO op false b c := by intro b c; rcases hop with rfl | rfl <;> rfl
    rw [this]
theorem one_gd {n : Nat} {f : List Nd} (x : Nd) (hf : f = [x]) (hc : check [x] = 0) (hx : usesX x.op = false) (hy : usesY x.op = false) (ho : opN n x.op x.i x.g = true) : Gd n f 1 ∧ root f = .nd x.op x.i x.e x.g .none .none := by
  subst hf
  have h0 : ([x] : List Nd)[0]? = some x := rfl
  have hr : root [x] = .nd x.op x.i x.e x.g .none .none := by
    show tree [x] 0 = _
    rw [tree_nd (check_okl hc) h0, hx, hy]; rfl
  have ok := check_okl hc 0 x h0
  refine ⟨⟨⟨check_okl hc, by simp, by simp, ?_⟩, by rw [hr]; simp [Tr.size], by rw [hr]; simp only [propT, ho]; rfl⟩, hr⟩
  rw [hr]
  have e1 := ok.nox hx
  have e2 := ok.noy hy
  simp only [finT, putN, idx, List.nil_append]
  cases x; simp only at e1 e2; subst e1; subst e2; rfl
theorem one3 {i : Nat} (hi : i < 8) : buildL (nI 3 i) [] = [nI 3 i] ∧ check [nI 3 i] = 0 := by
  have : i = 0 ∨ i = 1 ∨ i = 2 ∨ i = 3 ∨ i = 4 ∨ i = 5 ∨ i = 6 ∨ i = 7 := by omega
  rw [build_one]
  rcases this with rfl | rfl | rfl | rfl | rfl | rfl | rfl | rfl <;> exact ⟨rfl, rfl⟩
theorem fact_gd {n i : Nat} (hn : n ≤ 8) (hi : i < n) : Gd n (buildL (nI 3 i) []) 1 ∧ ∀ v, tev v (root (buildL (nI 3 i) [])) = v.testBit i := by
  obtain ⟨hb, hc⟩ := one3 (show i < 8 by omega)
  obtain ⟨h1, h2⟩ := one_gd (n := n) (nI 3 i) hb hc rfl rfl (by simp [opN, nI]; omega)
  exact ⟨h1, fun v => by rw [h2]; rfl⟩
theorem Gd.more {n k m : Nat} {f : List Nd} (h : Gd n f k) (hk : k ≤ m) : Gd n f m := ⟨h.can, Nat.le_trans h.size hk, h.ok⟩
def jev (op : Int) (em : List Nd) (v : Nat) : List (List Nd) → Bool
  | [] => tev v (root em)
  | f :: r => r.foldl (fun b g => evO op false b (tev v (root g))) (tev v (root f))
theorem joinL_gd {n k : Nat} {op : Int} (hop : op = 5 ∨ op = 6) (em : List Nd) (hem : Gd n em 1) (l : List (List Nd)) (hl : ∀ g, g ∈ l → Gd n g k) (hs : l.length * (k + 1) ≤ 200) (m : Nat) (h1 : 1 ≤ m) (hm : l.length * (k + 1) ≤ m + 1) :
    Gd n (joinL op em l) m ∧ ∀ v, tev v (root (joinL op em l)) = jev op em v l := by
  cases l with
  | nil => exact ⟨hem.more h1, fun _ => rfl⟩
  | cons f r =>
    have hf := hl f (by simp)
    have e : (f :: r).length * (k + 1) = (k + 1) + r.length * (k + 1) := by rw [List.length_cons, Nat.add_mul, Nat.one_mul, Nat.add_comm]
    rw [e] at hs hm
    simp only [joinL]
    rw [can_comp hf.can]
    obtain ⟨h2, h3⟩ := join_gd hop r f k hf (fun g hg => hl g (by simp [hg])) (by omega)
    exact ⟨h2.more (by omega), h3⟩
theorem fold_and {α : Type} (q : α → Bool) : ∀ (r : List α) (b : Bool), r.foldl (fun b g => evO 5 false b (q g)) b = (b && r.all q)
  | [], b => by simp
  | x :: r, b => by
    rw [List.foldl_cons, fold_and q r, List.all_cons]
    show ((bif b then q x else false) && _) = _
    cases b <;> simp
theorem fold_or {α : Type} (q : α → Bool) : ∀ (r : List α) (b : Bool), r.foldl (fun b g => evO 6 false b (q g)) b = (b || r.any q)
  | [], b => by simp
  | x :: r, b => by
    rw [List.foldl_cons, fold_or q r, List.any_cons]
    show ((bif b then true else q x) || _) = _
    cases b <;> simp
theorem true_gd (n : Nat) : Gd n (buildL (n0 1) []) 1 ∧ ∀ v, tev v (root (buildL (n0 1) [])) = true := by
  obtain ⟨h1, h2⟩ := one_gd (n := n) (f := buildL (n0 1) []) (n0 1) rfl rfl rfl rfl rfl
  exact ⟨h1, fun v => by rw [h2]; rfl⟩
theorem false_gd (n : Nat) : Gd n (buildL (n0 2) []) 1 ∧ ∀ v, tev v (root (buildL (n0 2) [])) = false := by
  obtain ⟨h1, h2⟩ := one_gd (n := n) (f := buildL (n0 2) []) (n0 2) rfl rfl rfl rfl rfl
  exact ⟨h1, fun v => by rw [h2]; rfl⟩
theorem orN_zero {m : Nd → Nat} : ∀ {c : List Nd}, (∀ x, x ∈ c → m x = 0) → orN m c = 0
  | [], _ => rfl
  | x :: r, h => by rw [orN_cons, h x (by simp), orN_zero fun y hy => h y (by simp [hy])]; rfl
end Go.Proofs.Ytibenjpkinhjhaa
