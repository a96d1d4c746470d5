/- Formulas: the text of a tree walked. -/
import Derived.Test.YtlmgodcfjaagpaaFz
set_option maxRecDepth 100000
set_option maxHeartbeats 4000000
namespace Go.Proofs.Ytlmgodcfjaagpaa
open Go Go.Dv

theorem cells_nd (l : List Nd) : cellsAll 6 (l.map Nd.pv) = true := by
  simp [cellsAll, Nd.pv, PV.cells, PV.one]
theorem law_tree : ∀ (n : Nat) (f : List Nd) (i l : Nat), Okl f → i < f.length → f.length ≤ 14 → i < l → l ≤ 15 → i < n → PureFn Try.prog 38 [fpv f, .int .i64 (i : Int), .int .i64 (l : Int)] (.tup [.str (tst (tree f i)), .bool true]) := by
  intro n
  induction n with
  | zero => intro f i l _ _ _ _ _ h; omega
  | succ n ih =>
    intro f i l hf hi h14 hil hl hn
    have hx : f[i]? = some f[i] := List.getElem?_eq_getElem hi
    generalize f[i] = x at hx
    have ok := hf i x hx
    have hbd := tst_bd hf hi h14
    have hX : usesX x.op = true → PureFn Try.prog 38 [.sl ((f.map Nd.pv).take i), .int .i64 x.x, .int .i64 (IntKind.wrap .i64 ((l : Int) - 1))] (.tup [.str (tst (tree f x.x.toNat)), .bool true]) := fun hu => by
      have h1 := ok.x hu
      obtain ⟨h2, h3⟩ := tree_take hf (i := i) (j := x.x.toNat) (by omega) (by omega)
      have := ih (f.take i) x.x.toNat (l - 1) h3 (by rw [List.length_take]; omega) (by rw [List.length_take]; omega) (by omega) (by omega) (by omega)
      rw [h2] at this
      rw [wrapA (b := ((l - 1 : Nat) : Int)) (by omega) (by omega) (by omega)]
      rw [show ((x.x.toNat : Nat) : Int) = x.x by omega] at this
      rw [fpv, List.map_take] at this
      exact this
    have hY : usesY x.op = true → PureFn Try.prog 38 [.sl ((f.map Nd.pv).take i), .int .i64 x.y, .int .i64 (IntKind.wrap .i64 ((l : Int) - 1))] (.tup [.str (tst (tree f x.y.toNat)), .bool true]) := fun hu => by
      have h1 := ok.y hu
      obtain ⟨h2, h3⟩ := tree_take hf (i := i) (j := x.y.toNat) (by omega) (by omega)
      have := ih (f.take i) x.y.toNat (l - 1) h3 (by rw [List.length_take]; omega) (by rw [List.length_take]; omega) (by omega) (by omega) (by omega)
      rw [h2] at this
      rw [wrapA (b := ((l - 1 : Nat) : Int)) (by omega) (by omega) (by omega)]
      rw [show ((x.y.toNat : Nat) : Int) = x.y by omega] at this
      rw [fpv, List.map_take] at this
      exact this
    rw [tree_nd hf hx] at hbd ⊢
    have bX : usesX x.op = true → (tst (tree f x.x.toNat)).size ≤ 300000 := fun hu => by have := ok.x hu; exact tst_bd hf (by omega) h14
    have bY : usesY x.op = true → (tst (tree f x.y.toNat)).size ≤ 300000 := fun hu => by have := ok.y hu; exact tst_bd hf (by omega) h14
    generalize tree f x.x.toNat = TX at hX hbd bX ⊢
    generalize tree f x.y.toNat = TY at hY hbd bY ⊢
    have b0 := ts0_size x.op x.i x.e x.g
    refine PureFn.introC [5, 10, 15] mixed (fn := Try.f38) rfl rfl rfl fun M w0 => ?_
    (try (conv => whnf)); repeat' (first | (apply And.intro <;> (try (conv => whnf))) | (intro h; first | (with_reducible exact tf0 h) | (with_reducible exact ft0 h) | (with_reducible exact nt0 h) | (with_reducible exact nf0 h) | (exact litz h rfl) | (with_reducible exact tf h (by with_reducible assumption)) | (with_reducible exact tf (by with_reducible assumption) h) | (try (conv => whnf))) | (with_reducible rfl) | (apply True.intro) | (apply infoT; rfl) | (apply bleI; rfl) | (apply fitI; rfl) | (apply cellsI; rfl) | (apply szI; rfl) | (apply guardI; kernel_rfl) | (apply WhenQ.mk; (try (conv => whnf)); rotate_left; (try (conv => whnf)); rotate_right) | (with_reducible assumption) | (apply not_of; with_reducible assumption) | (apply left_of; with_reducible assumption) | (apply left_of; apply left_of; with_reducible assumption) | (apply and_of <;> first | (with_reducible assumption) | (apply not_of; with_reducible assumption))| (refine lin_plan (by kernel_rfl) ?_; (try (conv => whnf))) | (refine ⟨_, _, rfl, idx_map (by with_reducible assumption), rfl, ?_⟩; (try (conv => whnf))) | (refine ⟨rfl, ?_⟩; (try (conv => whnf))) | fail)
    · exfalso
      have e1 : decide ((i : Int) < 0) = false := by simp
      have e2 : decide ((i : Int) ≥ ((f.map Nd.pv).length : Int)) = false := by simp; omega
      have e3 : ((l : Int) == 0) = false := by simp; omega
      rw [e1, e2, e3] at h; cases h
    · have hb : ∀ {a : ByteArray} {n k : Int}, (a.size : Int) ≤ k → k ≤ 100 → (a ++ rn n).size ≤ k + 4 := by
        intro a n k h1 h2
        have := enc_size (IntKind.wrap .i32 (IntKind.wrap .i64 n))
        unfold rn
        rw [ByteArray.size_append]; omega
      have s1 : (⟨#[40]⟩ : ByteArray).size = 1 := rfl
      have s2 : (⟨#[41]⟩ : ByteArray).size = 1 := rfl
      have q1 := enc_size (IntKind.wrap .i32 (IntKind.wrap .i64 (65 + x.op)))
      have q2 := enc_size (IntKind.wrap .i32 (IntKind.wrap .i64 (48 + x.i)))
      have q3 := enc_size (IntKind.wrap .i32 (IntKind.wrap .i64 (48 + x.e)))
      have q4 := enc_size (IntKind.wrap .i32 (IntKind.wrap .i64 (48 + x.g)))
      refine ⟨Unit, fun _ => [(0, .pv (fpv f)), (1, .pv (.int .i64 (i : Int))), (2, .pv (.int .i64 (l : Int))), (8, .ref 0 0), (9, .pv (.str (ts0 x.op x.i x.e x.g)))], fun _ => 1, fun _ => [(0, .var x.dvs)], ?_, ?_⟩
      · (try (conv => whnf)); repeat' (first | (apply And.intro <;> (try (conv => whnf))) | (intro h; first | (with_reducible exact tf0 h) | (with_reducible exact ft0 h) | (with_reducible exact nt0 h) | (with_reducible exact nf0 h) | (exact litz h rfl) | (with_reducible exact tf h (by with_reducible assumption)) | (with_reducible exact tf (by with_reducible assumption) h) | (try (conv => whnf))) | (with_reducible rfl) | (apply True.intro) | (apply infoT; rfl) | (apply bleI; rfl) | (apply fitI; rfl) | (apply cellsI; rfl) | (apply szI; rfl) | (apply guardI; kernel_rfl) | (apply WhenQ.mk; (try (conv => whnf)); rotate_left; (try (conv => whnf)); rotate_right) | (with_reducible assumption) | (apply not_of; with_reducible assumption) | (apply left_of; with_reducible assumption) | (apply left_of; apply left_of; with_reducible assumption) | (apply and_of <;> first | (with_reducible assumption) | (apply not_of; with_reducible assumption))| (refine lin_plan (by kernel_rfl) ?_; (try (conv => whnf))) | (refine ⟨_, _, rfl, idx_map (by with_reducible assumption), rfl, ?_⟩; (try (conv => whnf))) | (refine ⟨rfl, ?_⟩; (try (conv => whnf))) | fail)
        · show _ ≤ 4294967296
          omega
        · show _ ≤ 4294967296
          rw [ByteArray.size_append]; omega
        · show _ ≤ 4294967296
          rw [ByteArray.size_append, ByteArray.size_append]; omega
        · show _ ≤ 4294967296
          rw [ByteArray.size_append, ByteArray.size_append, ByteArray.size_append]; omega
        · exact ⟨(), (by refine Wk.of ?_ ?_ rfl rfl rfl <;> (repeat' (first | (exact trivial) | (exact WkD.same _) | (exact WkO.same _ _ rfl) | (exact WkD.any _) | (refine WkD.int ?_) | (exact WkD.new' rfl rfl rfl) | (exact WkO.new _ _ rfl) | (refine WkO.vars rfl ?_) | (with_reducible rfl) | (exact rfl) | (refine ⟨?_, ?_⟩) | ((refine wrapA ?_ ?_ ?_); (focus (simp; done)); (focus ((try dsimp only); omega)); (focus ((try dsimp only); omega))) | fail)))⟩
      · rintro ⟨⟩
        (try (conv => whnf)); repeat' (first | (apply And.intro <;> (try (conv => whnf))) | (intro h; first | (with_reducible exact tf0 h) | (with_reducible exact ft0 h) | (with_reducible exact nt0 h) | (with_reducible exact nf0 h) | (exact litz h rfl) | (with_reducible exact tf h (by with_reducible assumption)) | (with_reducible exact tf (by with_reducible assumption) h) | (try (conv => whnf))) | (with_reducible rfl) | (apply True.intro) | (apply infoT; rfl) | (apply bleI; rfl) | (apply fitI; rfl) | (apply cellsI; rfl) | (apply szI; rfl) | (apply guardI; kernel_rfl) | (apply WhenQ.mk; (try (conv => whnf)); rotate_left; (try (conv => whnf)); rotate_right) | (with_reducible assumption) | (apply not_of; with_reducible assumption) | (apply left_of; with_reducible assumption) | (apply left_of; apply left_of; with_reducible assumption) | (apply and_of <;> first | (with_reducible assumption) | (apply not_of; with_reducible assumption))| (refine lin_plan (by kernel_rfl) ?_; (try (conv => whnf))) | (refine ⟨_, _, rfl, idx_map (by with_reducible assumption), rfl, ?_⟩; (try (conv => whnf))) | (refine ⟨rfl, ?_⟩; (try (conv => whnf))) | (refine PureFn.dcq (f := 39) rfl ?_; (try (conv => whnf))) | ((refine ⟨_, _, ref_UsesX ?_, ?_, ?_⟩); rotate_left 1; (focus (first | (refine ⟨?_, trivial⟩ <;> first | (exact PLe.refl _) | (exact PLe.nil)) | (exact trivial))); (try (conv => whnf))) | (refine ⟨_, (by (conv => whnf); exact ref_UsesX _), rfl, ?_⟩; (try (conv => whnf))) | fail)
        refine ⟨Unit, fun _ => [(0, .pv (fpv f)), (1, .pv (.int .i64 (i : Int))), (2, .pv (.int .i64 (l : Int))), (8, .ref 0 0), (9, .pv (.str (bif usesX x.op then ts0 x.op x.i x.e x.g ++ tst TX else ts0 x.op x.i x.e x.g)))], fun _ => 1, fun _ => [(0, .var x.dvs)], ?_, ?_⟩
        · (try (conv => whnf)); repeat' (first | (apply And.intro <;> (try (conv => whnf))) | (intro h; first | (with_reducible exact tf0 h) | (with_reducible exact ft0 h) | (with_reducible exact nt0 h) | (with_reducible exact nf0 h) | (exact litz h rfl) | (with_reducible exact tf h (by with_reducible assumption)) | (with_reducible exact tf (by with_reducible assumption) h) | (try (conv => whnf))) | (with_reducible rfl) | (apply True.intro) | (apply infoT; rfl) | (apply bleI; rfl) | (apply fitI; rfl) | (apply cellsI; rfl) | (apply szI; rfl) | (apply guardI; kernel_rfl) | (apply WhenQ.mk; (try (conv => whnf)); rotate_left; (try (conv => whnf)); rotate_right) | (with_reducible assumption) | (apply not_of; with_reducible assumption) | (apply left_of; with_reducible assumption) | (apply left_of; apply left_of; with_reducible assumption) | (apply and_of <;> first | (with_reducible assumption) | (apply not_of; with_reducible assumption))| (refine lin_plan (by kernel_rfl) ?_; (try (conv => whnf))) | (refine ⟨_, _, rfl, idx_map (by with_reducible assumption), rfl, ?_⟩; (try (conv => whnf))) | (refine ⟨rfl, ?_⟩; (try (conv => whnf))) | (refine PureFn.dcq (f := 39) rfl ?_; (try (conv => whnf))) | ((refine ⟨_, _, ref_UsesX ?_, ?_, ?_⟩); rotate_left 1; (focus (first | (refine ⟨?_, trivial⟩ <;> first | (exact PLe.refl _) | (exact PLe.nil)) | (exact trivial))); (try (conv => whnf))) | (refine ⟨_, (by (conv => whnf); exact ref_UsesX _), rfl, ?_⟩; (try (conv => whnf))) | fail)
          · exact cells_nd f
          · have hX' := hX h
            have bX' := bX h
            have hu : usesX x.op = true := h
            refine ⟨0, i, rfl, rfl, Nat.zero_le _, by rw [List.length_map]; omega, ?_⟩
            (try (conv => whnf)); repeat' (first | (apply And.intro <;> (try (conv => whnf))) | (intro h; first | (with_reducible exact tf0 h) | (with_reducible exact ft0 h) | (with_reducible exact nt0 h) | (with_reducible exact nf0 h) | (exact litz h rfl) | (with_reducible exact tf h (by with_reducible assumption)) | (with_reducible exact tf (by with_reducible assumption) h) | (try (conv => whnf))) | (with_reducible rfl) | (apply True.intro) | (apply infoT; rfl) | (apply bleI; rfl) | (apply fitI; rfl) | (apply cellsI; rfl) | (apply szI; rfl) | (apply guardI; kernel_rfl) | (apply WhenQ.mk; (try (conv => whnf)); rotate_left; (try (conv => whnf)); rotate_right) | (with_reducible assumption) | (apply not_of; with_reducible assumption) | (apply left_of; with_reducible assumption) | (apply left_of; apply left_of; with_reducible assumption) | (apply and_of <;> first | (with_reducible assumption) | (apply not_of; with_reducible assumption))| (refine lin_plan (by kernel_rfl) ?_; (try (conv => whnf))) | (refine ⟨_, _, rfl, idx_map (by with_reducible assumption), rfl, ?_⟩; (try (conv => whnf))) | (refine ⟨rfl, ?_⟩; (try (conv => whnf))) | (refine PureFn.dcq (f := 38) rfl ?_; (try (conv => whnf))) | ((refine ⟨_, _, hX', ?_, ?_⟩); (focus (first | (refine ⟨?_, ?_, ?_, trivial⟩ <;> first | (exact PLe.refl _) | (exact PLe.nil)) | (exact trivial))); (try (conv => whnf))) | (refine ⟨_, (by (conv => whnf); exact hX'), rfl, ?_⟩; (try (conv => whnf))) | fail)
            · show _ ≤ 4294967296
              omega
            · rw [hu]
              exact ⟨(), (by refine Wk.of ?_ ?_ rfl rfl rfl <;> (repeat' (first | (exact trivial) | (exact WkD.same _) | (exact WkO.same _ _ rfl) | (exact WkD.any _) | (refine WkD.int ?_) | (exact WkD.new' rfl rfl rfl) | (exact WkO.new _ _ rfl) | (refine WkO.vars rfl ?_) | (with_reducible rfl) | (exact rfl) | (refine ⟨?_, ?_⟩) | ((refine wrapA ?_ ?_ ?_); (focus (simp; done)); (focus ((try dsimp only); omega)); (focus ((try dsimp only); omega))) | fail)))⟩
          · have hu : usesX x.op = false := h
            rw [hu]
            exact ⟨(), (by refine Wk.of ?_ ?_ rfl rfl rfl <;> (repeat' (first | (exact trivial) | (exact WkD.same _) | (exact WkO.same _ _ rfl) | (exact WkD.any _) | (refine WkD.int ?_) | (exact WkD.new' rfl rfl rfl) | (exact WkO.new _ _ rfl) | (refine WkO.vars rfl ?_) | (with_reducible rfl) | (exact rfl) | (refine ⟨?_, ?_⟩) | ((refine wrapA ?_ ?_ ?_); (focus (simp; done)); (focus ((try dsimp only); omega)); (focus ((try dsimp only); omega))) | fail)))⟩
        · rintro ⟨⟩
          have bo : (bif usesX x.op then ts0 x.op x.i x.e x.g ++ tst TX else ts0 x.op x.i x.e x.g).size ≤ 300017 := by
            cases hu : usesX x.op with
            | false => simp only [cond_false]; omega
            | true => have := bX hu; simp only [cond_true, ByteArray.size_append]; omega
          have eT : ∀ (u v : Bool) (a : ByteArray), (bif v then (bif u then a ++ tst (bif u then TX else .none) else a) ++ tst (bif v then TY else .none) else (bif u then a ++ tst (bif u then TX else .none) else a)) = (bif v then (bif u then a ++ tst TX else a) ++ tst TY else (bif u then a ++ tst TX else a)) := by
            intro u v a; cases u <;> cases v <;> rfl
          rw [tst, eT]
          generalize (bif usesX x.op then ts0 x.op x.i x.e x.g ++ tst TX else ts0 x.op x.i x.e x.g) = O at bo ⊢
          (try (conv => whnf)); repeat' (first | (apply And.intro <;> (try (conv => whnf))) | (intro h; first | (with_reducible exact tf0 h) | (with_reducible exact ft0 h) | (with_reducible exact nt0 h) | (with_reducible exact nf0 h) | (exact litz h rfl) | (with_reducible exact tf h (by with_reducible assumption)) | (with_reducible exact tf (by with_reducible assumption) h) | (try (conv => whnf))) | (with_reducible rfl) | (apply True.intro) | (apply infoT; rfl) | (apply bleI; rfl) | (apply fitI; rfl) | (apply cellsI; rfl) | (apply szI; rfl) | (apply guardI; kernel_rfl) | (apply WhenQ.mk; (try (conv => whnf)); rotate_left; (try (conv => whnf)); rotate_right) | (with_reducible assumption) | (apply not_of; with_reducible assumption) | (apply left_of; with_reducible assumption) | (apply left_of; apply left_of; with_reducible assumption) | (apply and_of <;> first | (with_reducible assumption) | (apply not_of; with_reducible assumption))| (refine lin_plan (by kernel_rfl) ?_; (try (conv => whnf))) | (refine ⟨_, _, rfl, idx_map (by with_reducible assumption), rfl, ?_⟩; (try (conv => whnf))) | (refine ⟨rfl, ?_⟩; (try (conv => whnf))) | (refine PureFn.dcq (f := 40) rfl ?_; (try (conv => whnf))) | ((refine ⟨_, _, ref_UsesY ?_, ?_, ?_⟩); rotate_left 1; (focus (first | (refine ⟨?_, trivial⟩ <;> first | (exact PLe.refl _) | (exact PLe.nil)) | (exact trivial))); (try (conv => whnf))) | (refine ⟨_, (by (conv => whnf); exact ref_UsesY _), rfl, ?_⟩; (try (conv => whnf))) | fail)
          refine ⟨Unit, fun _ => [(9, .pv (.str (bif usesY x.op then O ++ tst TY else O)))], fun _ => 0, fun _ => [], ?_, ?_⟩
          · (try (conv => whnf)); repeat' (first | (apply And.intro <;> (try (conv => whnf))) | (intro h; first | (with_reducible exact tf0 h) | (with_reducible exact ft0 h) | (with_reducible exact nt0 h) | (with_reducible exact nf0 h) | (exact litz h rfl) | (with_reducible exact tf h (by with_reducible assumption)) | (with_reducible exact tf (by with_reducible assumption) h) | (try (conv => whnf))) | (with_reducible rfl) | (apply True.intro) | (apply infoT; rfl) | (apply bleI; rfl) | (apply fitI; rfl) | (apply cellsI; rfl) | (apply szI; rfl) | (apply guardI; kernel_rfl) | (apply WhenQ.mk; (try (conv => whnf)); rotate_left; (try (conv => whnf)); rotate_right) | (with_reducible assumption) | (apply not_of; with_reducible assumption) | (apply left_of; with_reducible assumption) | (apply left_of; apply left_of; with_reducible assumption) | (apply and_of <;> first | (with_reducible assumption) | (apply not_of; with_reducible assumption))| (refine lin_plan (by kernel_rfl) ?_; (try (conv => whnf))) | (refine ⟨_, _, rfl, idx_map (by with_reducible assumption), rfl, ?_⟩; (try (conv => whnf))) | (refine ⟨rfl, ?_⟩; (try (conv => whnf))) | (refine PureFn.dcq (f := 40) rfl ?_; (try (conv => whnf))) | ((refine ⟨_, _, ref_UsesY ?_, ?_, ?_⟩); rotate_left 1; (focus (first | (refine ⟨?_, trivial⟩ <;> first | (exact PLe.refl _) | (exact PLe.nil)) | (exact trivial))); (try (conv => whnf))) | (refine ⟨_, (by (conv => whnf); exact ref_UsesY _), rfl, ?_⟩; (try (conv => whnf))) | fail)
            · exact cells_nd f
            · have hY' := hY h
              have bY' := bY h
              have hu : usesY x.op = true := h
              refine ⟨0, i, rfl, rfl, Nat.zero_le _, by rw [List.length_map]; omega, ?_⟩
              (try (conv => whnf)); repeat' (first | (apply And.intro <;> (try (conv => whnf))) | (intro h; first | (with_reducible exact tf0 h) | (with_reducible exact ft0 h) | (with_reducible exact nt0 h) | (with_reducible exact nf0 h) | (exact litz h rfl) | (with_reducible exact tf h (by with_reducible assumption)) | (with_reducible exact tf (by with_reducible assumption) h) | (try (conv => whnf))) | (with_reducible rfl) | (apply True.intro) | (apply infoT; rfl) | (apply bleI; rfl) | (apply fitI; rfl) | (apply cellsI; rfl) | (apply szI; rfl) | (apply guardI; kernel_rfl) | (apply WhenQ.mk; (try (conv => whnf)); rotate_left; (try (conv => whnf)); rotate_right) | (with_reducible assumption) | (apply not_of; with_reducible assumption) | (apply left_of; with_reducible assumption) | (apply left_of; apply left_of; with_reducible assumption) | (apply and_of <;> first | (with_reducible assumption) | (apply not_of; with_reducible assumption))| (refine lin_plan (by kernel_rfl) ?_; (try (conv => whnf))) | (refine ⟨_, _, rfl, idx_map (by with_reducible assumption), rfl, ?_⟩; (try (conv => whnf))) | (refine ⟨rfl, ?_⟩; (try (conv => whnf))) | (refine PureFn.dcq (f := 38) rfl ?_; (try (conv => whnf))) | ((refine ⟨_, _, hY', ?_, ?_⟩); (focus (first | (refine ⟨?_, ?_, ?_, trivial⟩ <;> first | (exact PLe.refl _) | (exact PLe.nil)) | (exact trivial))); (try (conv => whnf))) | (refine ⟨_, (by (conv => whnf); exact hY'), rfl, ?_⟩; (try (conv => whnf))) | fail)
              · show _ ≤ 4294967296
                omega
              · rw [hu]
                exact ⟨(), (by refine Wk.of ?_ ?_ rfl rfl rfl <;> (repeat' (first | (exact trivial) | (exact WkD.same _) | (exact WkO.same _ _ rfl) | (exact WkD.any _) | (refine WkD.int ?_) | (exact WkD.new' rfl rfl rfl) | (exact WkO.new _ _ rfl) | (refine WkO.vars rfl ?_) | (with_reducible rfl) | (exact rfl) | (refine ⟨?_, ?_⟩) | ((refine wrapA ?_ ?_ ?_); (focus (simp; done)); (focus ((try dsimp only); omega)); (focus ((try dsimp only); omega))) | fail)))⟩
            · have hu : usesY x.op = false := h
              rw [hu]
              exact ⟨(), (by refine Wk.of ?_ ?_ rfl rfl rfl <;> (repeat' (first | (exact trivial) | (exact WkD.same _) | (exact WkO.same _ _ rfl) | (exact WkD.any _) | (refine WkD.int ?_) | (exact WkD.new' rfl rfl rfl) | (exact WkO.new _ _ rfl) | (refine WkO.vars rfl ?_) | (with_reducible rfl) | (exact rfl) | (refine ⟨?_, ?_⟩) | ((refine wrapA ?_ ?_ ?_); (focus (simp; done)); (focus ((try dsimp only); omega)); (focus ((try dsimp only); omega))) | fail)))⟩
          · rintro ⟨⟩
            have bo2 : (bif usesY x.op then O ++ tst TY else O).size ≤ 600017 := by
              cases hu : usesY x.op with
              | false => simp only [cond_false]; omega
              | true => have := bY hu; simp only [cond_true, ByteArray.size_append]; omega
            generalize (bif usesY x.op then O ++ tst TY else O) = Q at bo2 ⊢
            (try (conv => whnf)); repeat' (first | (apply And.intro <;> (try (conv => whnf))) | (intro h; first | (with_reducible exact tf0 h) | (with_reducible exact ft0 h) | (with_reducible exact nt0 h) | (with_reducible exact nf0 h) | (exact litz h rfl) | (with_reducible exact tf h (by with_reducible assumption)) | (with_reducible exact tf (by with_reducible assumption) h) | (try (conv => whnf))) | (with_reducible rfl) | (apply True.intro) | (apply infoT; rfl) | (apply bleI; rfl) | (apply fitI; rfl) | (apply cellsI; rfl) | (apply szI; rfl) | (apply guardI; kernel_rfl) | (apply WhenQ.mk; (try (conv => whnf)); rotate_left; (try (conv => whnf)); rotate_right) | (with_reducible assumption) | (apply not_of; with_reducible assumption) | (apply left_of; with_reducible assumption) | (apply left_of; apply left_of; with_reducible assumption) | (apply and_of <;> first | (with_reducible assumption) | (apply not_of; with_reducible assumption))| (refine lin_plan (by kernel_rfl) ?_; (try (conv => whnf))) | (refine ⟨_, _, rfl, idx_map (by with_reducible assumption), rfl, ?_⟩; (try (conv => whnf))) | (refine ⟨rfl, ?_⟩; (try (conv => whnf))) | fail)
            · show _ ≤ 4294967296
              omega
            · exact .refl _
end Go.Proofs.Ytlmgodcfjaagpaa
