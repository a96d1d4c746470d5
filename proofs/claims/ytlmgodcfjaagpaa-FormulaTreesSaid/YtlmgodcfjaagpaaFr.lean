/- Formulas: canonical lists and constructors by their trees (plain). -/
import Derived.Test.YtlmgodcfjaagpaaFq
namespace Go.Proofs.Ytlmgodcfjaagpaa
open Go Go.Dv

def root (f : List Nd) : Tr := tree f (f.length - 1)
theorem comp_root {f : List Nd} (h : check f = 0) : comp f = (finT (root f) []).2 := by
  rw [comp_eq h]
  have := (check_ok h).1
  exact canon_tree (check_okl h) (by omega)
theorem root_comp {f : List Nd} (h : check f = 0) : root (comp f) = root f := by
  have := (check_ok h).1
  unfold root
  rw [comp_eq h]
  exact (canon_root (check_okl h) (by omega)).2
theorem comp_eq_iff {a b : List Nd} (ha : check a = 0) (hb : check b = 0) : comp a = comp b ↔ root a = root b := by
  constructor
  · intro h; rw [← root_comp ha, ← root_comp hb, h]
  · intro h; rw [comp_root ha, comp_root hb, h]
theorem comp_comp {f : List Nd} (h : check f = 0) : comp (comp f) = comp f := (comp_eq_iff (comp_check h) h).2 (root_comp h)

theorem trn_shift {A B : List Nd} (hA : Okl A) (hB : Okl B) : ∀ (n j : Nat), j < B.length → trn (A ++ B.map (shN A.length)) n (A.length + j) = trn B n j
  | 0, _, _ => rfl
  | n + 1, j, hj => by
    simp only [trn]
    have hx : B[j]? = some B[j] := List.getElem?_eq_getElem hj
    have ok := hB j _ hx
    rw [List.getElem?_append_right (by omega), Nat.add_sub_cancel_left, List.getElem?_map, hx]
    generalize B[j] = x at ok
    simp only [Option.map_some]
    have e1 : (shN A.length x).op = x.op := by unfold shN shX; cases usesX x.op <;> cases usesY x.op <;> rfl
    have e2 : (shN A.length x).i = x.i := by unfold shN shX; cases usesX x.op <;> cases usesY x.op <;> rfl
    have e3 : (shN A.length x).e = x.e := by unfold shN shX; cases usesX x.op <;> cases usesY x.op <;> rfl
    have e4 : (shN A.length x).g = x.g := by unfold shN shX; cases usesX x.op <;> cases usesY x.op <;> rfl
    have e5 : (shN A.length x).x = bif usesX x.op then x.x + A.length else x.x := by unfold shN shX; cases usesX x.op <;> cases usesY x.op <;> rfl
    have e6 : (shN A.length x).y = bif usesY x.op then x.y + A.length else x.y := by unfold shN shX; cases usesX x.op <;> cases usesY x.op <;> rfl
    rw [e1, e2, e3, e4, e5, e6]
    congr 1
    · cases hu : usesX x.op with
      | false => rfl
      | true =>
        have := ok.x hu
        simp only [cond_true]
        rw [show (x.x + (A.length : Int)).toNat = A.length + x.x.toNat by omega]
        exact trn_shift hA hB n x.x.toNat (by omega)
    · cases hu : usesY x.op with
      | false => rfl
      | true =>
        have := ok.y hu
        simp only [cond_true]
        rw [show (x.y + (A.length : Int)).toNat = A.length + x.y.toNat by omega]
        exact trn_shift hA hB n x.y.toNat (by omega)
theorem tree_shift {A B : List Nd} (hA : Okl A) (hB : Okl B) {j : Nat} (hj : j < B.length) : tree (A ++ B.map (shN A.length)) (A.length + j) = tree B j := by
  unfold tree
  rw [trn_shift hA hB _ j hj]
  exact trn_fuel hB _ _ _ (by omega) (by omega)

/-! what the reference builds -/
def shortL (g : List Nd) : List Nd := bif decide ((g.length : Int) > 401) then [] else bif decide (((canon g (g.length - 1)).length : Int) > 200) then [] else canon g (g.length - 1)
def oneL (x : Nd) : List Nd := bif nodeErr x 0 != 0 then [] else [x]
def unL (x : Nd) (f : List Nd) : List Nd :=
  bif check f != 0 then [] else bif nodeErr { x with x := (f.length : Int) - 1 } f.length != 0 then [] else shortL (f ++ [{ x with x := (f.length : Int) - 1 }])
def binN (x : Nd) (f g : List Nd) : Nd := { x with x := (f.length : Int) - 1, y := ((f ++ g.map (shN f.length)).length : Int) - 1 }
def binL (x : Nd) (f g : List Nd) : List Nd :=
  bif bif check f != 0 then true else check g != 0 then [] else bif nodeErr (binN x f g) (f ++ g.map (shN f.length)).length != 0 then [] else shortL (f ++ g.map (shN f.length) ++ [binN x f g])

theorem shN_zero (n : Nd) : shN 0 n = n := by
  unfold shN shX
  cases usesX n.op <;> cases usesY n.op <;> cases n <;> simp
theorem map_shN_zero (c : List Nd) : c.map (shN 0) = c := by
  rw [List.map_congr_left (g := id) (fun n _ => shN_zero n), List.map_id]
theorem canon_snoc {F : List Nd} {x : Nd} (hF : Okl F) (hx : OkNd x F.length) : canon (F ++ [x]) F.length = (finT (.nd x.op x.i x.e x.g (bif usesX x.op then tree F x.x.toNat else .none) (bif usesY x.op then tree F x.y.toNat else .none)) []).2 := by
  have hok := okl_snoc hF hx
  rw [canon_tree hok (by simp), tree_nd hok (x := x) (by simp)]
  have e1 : (bif usesX x.op then tree (F ++ [x]) x.x.toNat else .none) = (bif usesX x.op then tree F x.x.toNat else .none) := by
    cases hu : usesX x.op with
    | false => rfl
    | true => have := hx.x hu; exact tree_append hF (by omega)
  have e2 : (bif usesY x.op then tree (F ++ [x]) x.y.toNat else .none) = (bif usesY x.op then tree F x.y.toNat else .none) := by
    cases hu : usesY x.op with
    | false => rfl
    | true => have := hx.y hu; exact tree_append hF (by omega)
  rw [e1, e2]
theorem ne_of_iff {a b : Int} (h : a = 0 ↔ b = 0) : (a != 0) = (b != 0) := by
  rw [Bool.eq_iff_iff]; simp only [bne_iff_ne, ne_eq, h]
/-- Without operands. -/
theorem build_one (x : Nd) : buildL x [] = oneL x := by
  rw [buildL, bfold]; simp only [bfin, oneL, List.length_nil, List.nil_append]
  show (bif nodeErr x ((0 : Nat) : Int) != 0 then [] else _) = _
  cases h : (nodeErr x ((0 : Nat) : Int) != 0) with
  | true => rfl
  | false =>
    have ok : OkNd x ((0 : Nat) : Int) := nodeErr_ok.1 (by simpa using h)
    have ux : usesX x.op = false := by cases hu : usesX x.op with
      | false => rfl
      | true => have := ok.x hu; omega
    have uy : usesY x.op = false := by cases hu : usesY x.op with
      | false => rfl
      | true => have := ok.y hu; omega
    have hc : canon [x] 0 = [x] := by
      have := canon_snoc (F := []) (x := x) (fun i y hy => by simp at hy) ok
      simp only [List.nil_append, List.length_nil] at this
      rw [this, ux, uy]
      simp only [cond_false, finT, putN, idx, List.nil_append, List.length_nil]
      have e1 := ok.nox ux
      have e2 := ok.noy uy
      cases x
      simp only at e1 e2
      subst e1; subst e2; rfl
    show (bif decide (((canon [x] 0).length : Int) > 200) then [] else canon [x] 0) = [x]
    simp only [hc]; rfl
theorem OkNd.re {x y : Nd} {a b : Int} (h : OkNd x a) (h1 : y.op = x.op) (h2 : y.i = x.i) (h3 : y.e = x.e) (h4 : y.g = x.g) (h5 : usesX x.op = true → 0 ≤ y.x ∧ y.x < b) (h6 : usesX x.op = false → y.x = 0) (h7 : usesY x.op = true → 0 ≤ y.y ∧ y.y < b) (h8 : usesY x.op = false → y.y = 0) : OkNd y b := by
  constructor <;> simp only [h1, h2, h3, h4]
  · exact h.op
  · exact h5
  · exact h6
  · exact h7
  · exact h8
  · exact h.fact
  · exact h.agent
  · exact h.act
  · exact h.noi
  · exact h.noe
  · exact h.group
  · exact h.nog
theorem short_snoc {F : List Nd} {x : Nd} (hl : F.length ≤ 400) : shortL (F ++ [x]) = bif decide (((canon (F ++ [x]) F.length).length : Int) > 200) then [] else canon (F ++ [x]) F.length := by
  have e1 : decide (((F ++ [x]).length : Int) > 401) = false := by simp; omega
  have e2 : (F ++ [x]).length - 1 = F.length := by simp
  rw [shortL, e1, e2]; rfl
theorem bfin_eq (x : Nd) (F : List Nd) : bfin (x, F) = bif nodeErr x F.length != 0 then [] else bif decide (((canon (F ++ [x]) F.length).length : Int) > 200) then [] else canon (F ++ [x]) F.length := rfl
/-- With one operand. -/
theorem build_un (x : Nd) (f : List Nd) (hx : usesX x.op = true) (hy : usesY x.op = false) (hxy : x.y = 0) : buildL x [f] = unL x f := by
  rw [buildL]
  simp only [bfold]
  cases hc : (check f != 0) with
  | true => simp only [unL, hc, cond_true]
  | false =>
    have hc0 : check f = 0 := by simpa using hc
    obtain ⟨l1, l2, _⟩ := check_ok hc0
    have c1 := comp_pos hc0
    have c2 := comp_len f
    have s0 : bstep 0 (x, []) f = ({ x with x := ((comp f).length : Int) - 1 }, comp f) := by
      rw [bstep_t rfl]; simp only [List.nil_append, List.length_nil, map_shN_zero]
    simp only [unL, hc, cond_false, s0, bfin_eq]
    have hne : (nodeErr { x with x := ((comp f).length : Int) - 1 } (comp f).length != 0) = (nodeErr { x with x := (f.length : Int) - 1 } f.length != 0) := ne_of_iff (by
      rw [nodeErr_ok, nodeErr_ok]
      constructor
      · intro h; exact h.re rfl rfl rfl rfl (fun _ => ⟨by simp only; omega, by simp only; omega⟩) (fun u => by rw [hx] at u; cases u) (fun u => by rw [hy] at u; cases u) (fun _ => hxy)
      · intro h; exact h.re rfl rfl rfl rfl (fun _ => ⟨by simp only; omega, by simp only; omega⟩) (fun u => by rw [hx] at u; cases u) (fun u => by rw [hy] at u; cases u) (fun _ => hxy))
    rw [hne]
    cases hn : (nodeErr { x with x := (f.length : Int) - 1 } f.length != 0) with
    | true => rfl
    | false =>
      have ok2 : OkNd { x with x := (f.length : Int) - 1 } f.length := nodeErr_ok.1 (by simpa using hn)
      have ok1 : OkNd { x with x := ((comp f).length : Int) - 1 } (comp f).length := nodeErr_ok.1 (by rw [hn] at hne; simpa using hne)
      simp only [cond_false]
      rw [short_snoc (by omega)]
      have e1 := canon_snoc (comp_okl f) ok1
      have e2 := canon_snoc (check_okl hc0) ok2
      have hr := root_comp hc0
      unfold root at hr
      simp only [hx, hy, cond_true, cond_false] at e1 e2
      rw [show (((comp f).length : Int) - 1).toNat = (comp f).length - 1 by omega] at e1
      rw [show ((f.length : Int) - 1).toNat = f.length - 1 by omega, ← hr] at e2
      rw [e1, e2]
/-- With two operands. -/
theorem bin_last {A B : List Nd} (hA : Okl A) (hB : Okl B) (h1 : 1 ≤ A.length) (h2 : 1 ≤ B.length) : tree (A ++ B.map (shN A.length)) (A.length - 1) = root A ∧ tree (A ++ B.map (shN A.length)) ((A ++ B.map (shN A.length)).length - 1) = root B := by
  refine ⟨tree_append hA (by omega), ?_⟩
  have e : (A ++ B.map (shN A.length)).length - 1 = A.length + (B.length - 1) := by rw [List.length_append, List.length_map]; omega
  rw [e]
  exact tree_shift hA hB (by omega)
theorem build_bin (x : Nd) (f g : List Nd) (hx : usesX x.op = true) (hy : usesY x.op = true) : buildL x [f, g] = binL x f g := by
  rw [buildL]
  simp only [bfold]
  cases hc : (check f != 0) with
  | true => simp only [binL, hc, cond_true]
  | false =>
    cases hd : (check g != 0) with
    | true => simp only [binL, hc, hd, cond_true, cond_false]
    | false =>
      have hc0 : check f = 0 := by simpa using hc
      have hd0 : check g = 0 := by simpa using hd
      obtain ⟨l1, l2, _⟩ := check_ok hc0
      obtain ⟨m1, m2, _⟩ := check_ok hd0
      have c1 := comp_pos hc0
      have c2 := comp_len f
      have d1 := comp_pos hd0
      have d2 := comp_len g
      obtain ⟨F, hF⟩ : ∃ F, F = comp f ++ (comp g).map (shN (comp f).length) := ⟨_, rfl⟩
      obtain ⟨L, hL⟩ : ∃ L, L = f ++ g.map (shN f.length) := ⟨_, rfl⟩
      have hFl : F.length = (comp f).length + (comp g).length := by rw [hF, List.length_append, List.length_map]
      have hLl : L.length = f.length + g.length := by rw [hL, List.length_append, List.length_map]
      have hFo : Okl F := hF ▸ okl_append (comp_okl f) (comp_okl g)
      have hLo : Okl L := hL ▸ okl_append (check_okl hc0) (check_okl hd0)
      have hstep : bstep (0 + 1) (bstep 0 (x, []) f) g = ({ x with x := ((comp f).length : Int) - 1, y := (F.length : Int) - 1 }, F) := by
        have s0 : bstep 0 (x, []) f = ({ x with x := ((comp f).length : Int) - 1 }, comp f) := by
          rw [bstep_t rfl]; simp only [List.nil_append, List.length_nil, map_shN_zero]
        rw [s0, bstep_f rfl, ← hF]
      simp only [binL, hc, hd, cond_false, hstep, bfin_eq]
      rw [show binN x f g = { x with x := (f.length : Int) - 1, y := (L.length : Int) - 1 } by rw [binN, ← hL], ← hL]
      have hne : (nodeErr { x with x := ((comp f).length : Int) - 1, y := (F.length : Int) - 1 } F.length != 0) = (nodeErr { x with x := (f.length : Int) - 1, y := (L.length : Int) - 1 } L.length != 0) := ne_of_iff (by
        rw [nodeErr_ok, nodeErr_ok]
        constructor
        · intro h; exact h.re rfl rfl rfl rfl (fun _ => ⟨by simp only; omega, by simp only; omega⟩) (fun u => by rw [hx] at u; cases u) (fun _ => ⟨by simp only; omega, by simp only; omega⟩) (fun u => by rw [hy] at u; cases u)
        · intro h; exact h.re rfl rfl rfl rfl (fun _ => ⟨by simp only; omega, by simp only; omega⟩) (fun u => by rw [hx] at u; cases u) (fun _ => ⟨by simp only; omega, by simp only; omega⟩) (fun u => by rw [hy] at u; cases u))
      rw [hne]
      cases hn : (nodeErr { x with x := (f.length : Int) - 1, y := (L.length : Int) - 1 } L.length != 0) with
      | true => rfl
      | false =>
        have ok2 : OkNd { x with x := (f.length : Int) - 1, y := (L.length : Int) - 1 } L.length := nodeErr_ok.1 (by simpa using hn)
        have ok1 : OkNd { x with x := ((comp f).length : Int) - 1, y := (F.length : Int) - 1 } F.length := nodeErr_ok.1 (by rw [hn] at hne; simpa using hne)
        simp only [cond_false]
        rw [short_snoc (by omega)]
        have e1 := canon_snoc hFo ok1
        have e2 := canon_snoc hLo ok2
        obtain ⟨t1, t2⟩ := bin_last (comp_okl f) (comp_okl g) c1 d1
        obtain ⟨u1, u2⟩ := bin_last (check_okl hc0) (check_okl hd0) l1 m1
        rw [← hF] at t1 t2
        rw [← hL] at u1 u2
        rw [root_comp hc0] at t1
        rw [root_comp hd0] at t2
        simp only [hx, hy, cond_true] at e1 e2
        rw [show (((comp f).length : Int) - 1).toNat = (comp f).length - 1 by omega, show ((F.length : Int) - 1).toNat = F.length - 1 by omega, t1, t2] at e1
        rw [show ((f.length : Int) - 1).toNat = f.length - 1 by omega, show ((L.length : Int) - 1).toNat = L.length - 1 by omega, u1, u2] at e2
        rw [e1, e2]
end Go.Proofs.Ytlmgodcfjaagpaa
