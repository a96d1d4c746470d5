/- Formulas: a canonical list is what its last node's constructor makes of its operands (plain). -/
import Derived.Test.YtlmgodcfjaagpaaFu
namespace Go.Proofs.Ytlmgodcfjaagpaa
open Go Go.Dv

/-- A list that is the canonical one of its own last node. -/
structure Can (s : List Nd) : Prop where
  ok : Okl s
  pos : 1 ≤ s.length
  len : s.length ≤ 200
  fix : (finT (root s) []).2 = s
theorem Can.check {s : List Nd} (h : Can s) : check s = 0 := okl_check h.ok h.pos h.len
theorem canon_can {f : List Nd} (hf : Okl f) (hl : f.length ≤ 200) {i : Nat} (hi : i < f.length) : Can (canon f i) := by
  obtain ⟨h1, h2⟩ := canon_ok hf hi
  refine ⟨h1, h2, by have := canon_len hf.wf hi; omega, ?_⟩
  have hr := (canon_root hf hi).2
  unfold root
  rw [hr, ← canon_tree hf hi]
theorem comp_can {f : List Nd} (h : Go.Proofs.Ytlmgodcfjaagpaa.check f = 0) : Can (comp f) := by
  rw [comp_eq h]
  have := check_ok h
  exact canon_can (check_okl h) this.2.1 (by omega)
theorem can_comp {s : List Nd} (h : Can s) : comp s = s := by rw [comp_root h.check, h.fix]
/-- The node without its operands. -/
theorem want_nd {x : Nd} {k : Int} (h : OkNd x k) : wantN x.op x.i x.e x.g = { x with x := 0, y := 0 } := by
  have e1 : (bif useI x.op then x.i else 0) = x.i := by
    cases hu : useI x.op with
    | true => rfl
    | false =>
      have := h.noi (by intro e; rw [e] at hu; cases hu) (by
        have ho := h.op
        have key : ∀ n : Nat, n < 22 → useI (n : Int) = false → isAgent (n : Int) = false := by decide
        have := key x.op.toNat (by omega)
        rw [show ((x.op.toNat : Nat) : Int) = x.op by omega] at this
        exact this hu) (by intro e; rw [e] at hu; cases hu)
      rw [this]; rfl
  have e2 : (bif x.op == 17 then x.e else 0) = x.e := by
    cases hu : (x.op == 17) with
    | true => rfl
    | false => rw [h.noe (by simpa using hu)]; rfl
  have e3 : (bif useG x.op then x.g else 0) = x.g := by
    cases hu : useG x.op with
    | true => rfl
    | false =>
      have ho := h.op
      have key : ∀ n : Nat, n < 22 → useG (n : Int) = false → isGroup (n : Int) = false := by decide
      have := key x.op.toNat (by omega)
      rw [show ((x.op.toNat : Nat) : Int) = x.op by omega] at this
      rw [h.nog (this hu)]; rfl
  unfold wantN
  rw [e1, e2, e3]
theorem y_of_x {op : Int} (h : usesY op = true) : usesX op = true := by
  unfold usesX
  unfold usesY at h
  simp at h ⊢
  omega
theorem sub_can {s : List Nd} (h : Can s) {j : Nat} (hj : j < s.length) : sub s j = canon s j := by
  have e1 : (Go.Proofs.Ytlmgodcfjaagpaa.check s != 0) = false := by rw [h.check]; rfl
  have e2 : decide ((j : Int) < 0) = false := by simp
  have e3 : decide ((j : Int) ≥ (s.length : Int)) = false := by simp; omega
  rw [sub, e1, e2, e3]; rfl
/-- What build_un and build_bin come to, by trees. -/
theorem un_tree {x : Nd} {f : List Nd} {t : List Nd} (hf : Can f) (hx : usesX x.op = true) (hy : usesY x.op = false) (hok : OkNd { x with x := (f.length : Int) - 1 } f.length)
    (ht : (finT (.nd x.op x.i x.e x.g (root f) .none) []).2 = t) (hl : t.length ≤ 200) : unL x f = t := by
  have e0 : (Go.Proofs.Ytlmgodcfjaagpaa.check f != 0) = false := by rw [hf.check]; rfl
  have e1 : (nodeErr { x with x := (f.length : Int) - 1 } f.length != 0) = false := by rw [nodeErr_ok.2 hok]; rfl
  have hfl := hf.len
  have hfp := hf.pos
  have e2 := canon_snoc hf.ok hok
  simp only [hx, hy, cond_true, cond_false] at e2
  rw [show ((f.length : Int) - 1).toNat = f.length - 1 by omega] at e2
  have e3 : canon (f ++ [{ x with x := (f.length : Int) - 1 }]) f.length = t := e2.trans ht
  rw [unL, e0, e1]
  simp only [cond_false]
  rw [short_snoc (by omega), e3]
  have e4 : decide ((t.length : Int) > 200) = false := by simp; omega
  rw [e4]; rfl
theorem bin_tree {x : Nd} {f g : List Nd} {t : List Nd} (hf : Can f) (hg : Can g) (hx : usesX x.op = true) (hy : usesY x.op = true) (hok : OkNd (binN x f g) (f ++ g.map (shN f.length)).length)
    (ht : (finT (.nd x.op x.i x.e x.g (root f) (root g)) []).2 = t) (hl : t.length ≤ 200) : binL x f g = t := by
  have e0 : (Go.Proofs.Ytlmgodcfjaagpaa.check f != 0) = false := by rw [hf.check]; rfl
  have e0' : (Go.Proofs.Ytlmgodcfjaagpaa.check g != 0) = false := by rw [hg.check]; rfl
  have e1 : (nodeErr (binN x f g) (f ++ g.map (shN f.length)).length != 0) = false := by rw [nodeErr_ok.2 hok]; rfl
  have hfl := hf.len
  have hfp := hf.pos
  have hgl := hg.len
  have hgp := hg.pos
  have e2 := canon_snoc (okl_append hf.ok hg.ok) hok
  obtain ⟨u1, u2⟩ := bin_last hf.ok hg.ok hfp hgp
  have ho : (binN x f g).op = x.op := rfl
  rw [ho] at e2
  simp only [hx, hy, cond_true] at e2
  have n1 : (binN x f g).x.toNat = f.length - 1 := by show ((f.length : Int) - 1).toNat = _; omega
  have n2 : (binN x f g).y.toNat = (f ++ g.map (shN f.length)).length - 1 := by show (((f ++ g.map (shN f.length)).length : Int) - 1).toNat = _; omega
  rw [n1, n2, u1, u2] at e2
  have e3 : canon (f ++ g.map (shN f.length) ++ [binN x f g]) (f ++ g.map (shN f.length)).length = t := e2.trans ht
  rw [binL, e0, e0', e1]
  simp only [cond_false]
  rw [short_snoc (by rw [List.length_append, List.length_map]; omega), e3]
  have e4 : decide ((t.length : Int) > 200) = false := by simp; omega
  rw [e4]; rfl
/-- Every canonical list is what the constructor of its last operator makes of its operands. -/
theorem rebuild {s : List Nd} (h : Can s) {x : Nd} (hx : s[s.length - 1]? = some x) :
    wantL x.op x.i x.e x.g (bif usesX x.op then sub s x.x else []) (bif usesY x.op then sub s x.y else []) = s := by
  have ok := h.ok _ x hx
  have hpos := h.pos
  have hr : root s = .nd x.op x.i x.e x.g (bif usesX x.op then tree s x.x.toNat else .none) (bif usesY x.op then tree s x.y.toNat else .none) := tree_nd h.ok hx
  have hw := want_nd ok
  have hfix := h.fix
  unfold wantL
  rw [hw]
  cases hu : usesX x.op with
  | false =>
    have hv : usesY x.op = false := by
      cases hv : usesY x.op with
      | false => rfl
      | true => rw [y_of_x hv] at hu; cases hu
    rw [hu, hv] at hr
    rw [hr] at hfix
    simp only [cond_false, hv]
    have hz : ({ x with x := 0, y := 0 } : Nd) = x := by
      have e1 := ok.nox hu
      have e2 := ok.noy hv
      cases x; simp only at e1 e2; subst e1; subst e2; rfl
    rw [hz, oneL]
    have ok0 : OkNd x 0 := ok.re rfl rfl rfl rfl (fun u => by rw [hu] at u; cases u) ok.nox (fun u => by rw [hv] at u; cases u) ok.noy
    have e1 : (nodeErr x 0 != 0) = false := by rw [nodeErr_ok.2 ok0]; rfl
    rw [e1]
    simp only [cond_false, finT, putN, idx, List.nil_append] at hfix ⊢
    rw [← hfix]
    have e1 := ok.nox hu
    have e2 := ok.noy hv
    cases x; simp only at e1 e2; subst e1; subst e2; rfl
  | true =>
    have hxr := ok.x hu
    obtain ⟨j, hj⟩ : ∃ j : Nat, x.x = j := ⟨x.x.toNat, by omega⟩
    have hjl : j < s.length := by omega
    have hF := canon_can h.ok h.len hjl
    have hFr : root (canon s j) = tree s j := (canon_root h.ok hjl).2
    rw [hu] at hr
    simp only [cond_true] at hr
    rw [hj, Int.toNat_natCast, ← hFr] at hr
    simp only [cond_true]
    rw [hj, sub_can h hjl]
    cases hv : usesY x.op with
    | false =>
      rw [hv] at hr
      simp only [cond_false] at hr ⊢
      have hFp := hF.pos
      refine un_tree (x := { x with x := 0, y := 0 }) hF hu hv (ok.re rfl rfl rfl rfl (fun _ => ⟨by simp only; omega, by simp only; omega⟩) (fun u => by rw [hu] at u; cases u) (fun u => by rw [hv] at u; cases u) (fun _ => rfl)) ?_ h.len
      simp only
      rw [← hr]; exact hfix
    | true =>
      have hyr := ok.y hv
      obtain ⟨k, hk⟩ : ∃ k : Nat, x.y = k := ⟨x.y.toNat, by omega⟩
      have hkl : k < s.length := by omega
      have hG := canon_can h.ok h.len hkl
      have hGr : root (canon s k) = tree s k := (canon_root h.ok hkl).2
      rw [hv] at hr
      simp only [cond_true] at hr ⊢
      rw [hk, Int.toNat_natCast, ← hGr] at hr
      rw [hk, sub_can h hkl]
      have hFp := hF.pos
      have hGp := hG.pos
      refine bin_tree (x := { x with x := 0, y := 0 }) hF hG hu hv (ok.re rfl rfl rfl rfl (fun _ => ⟨by simp only [binN]; omega, by simp only [binN, List.length_append, List.length_map]; omega⟩) (fun u => by rw [hu] at u; cases u) (fun _ => ⟨by simp only [binN, List.length_append, List.length_map]; omega, by simp only [binN]; omega⟩) (fun u => by rw [hv] at u; cases u)) ?_ h.len
      simp only
      rw [← hr]; exact hfix
end Go.Proofs.Ytlmgodcfjaagpaa
