/- Formulas: the closure 'finish' of compact. -/
import Derived.Test.YtlmgodcfjaagpaaFc2
set_option maxRecDepth 100000
set_option maxHeartbeats 4000000
namespace Go.Proofs.Ytlmgodcfjaagpaa
open Go Go.Dv

def Hc (f out : List Nd) (ds : List (Nat × Nat)) : List (Nat × DObj) :=
  [(0, .var [.pv (fpv f)]), (1, .var [.buf 7 (out.map Nd.pv).length]), (2, .mp (nums out 0)), (3, .var [.mp 2]), (4, .mp (dones ds)), (5, .var [.mp 4]),
   (6, .var [.clo 89 [] [.ref 5 0, .ref 0 0, .ref 6 0, .ref 3 0, .ref 1 0]]), (7, .arr 6 (out.map Nd.pv))]

theorem mem_nums {kv : PV × PV} : ∀ {out : List Nd} {i : Nat}, kv ∈ nums out i → ∃ n : Nd, kv.1 = n.pv
  | [], _, h => by simp [nums] at h
  | n :: r, i, h => by
    simp only [nums, List.mem_cons] at h
    rcases h with rfl | h
    · exact ⟨n, rfl⟩
    · exact mem_nums h

/-- Behind the first operand. -/
def opA (f : List Nd) (n : Nat) (x : Nd) (s : List Nd × List (Nat × Nat)) : Nat × List Nd × List (Nat × Nat) := bif usesX x.op then fin f n x.x.toNat s else (0, s)
def ndA (x : Nd) (k : Nat) : Nd := bif usesX x.op then { x with x := (k : Int) } else x
def opB (f : List Nd) (n : Nat) (x : Nd) (s : List Nd × List (Nat × Nat)) : Nat × List Nd × List (Nat × Nat) := bif usesY x.op then fin f n x.y.toNat s else (0, s)
def ndB (op : Int) (x : Nd) (k : Nat) : Nd := bif usesY op then { x with y := (k : Int) } else x
theorem fin_none {f : List Nd} {n i : Nat} {s : List Nd × List (Nat × Nat)} {x : Nd} (hl : look i s.2 = none) (hx : f[i]? = some x) :
    fin f (n + 1) i s = ((putN (opB f n x (opA f n x s).2).2.1 (ndB x.op (ndA x (opA f n x s).1) (opB f n x (opA f n x s).2).1)).1, (putN (opB f n x (opA f n x s).2).2.1 (ndB x.op (ndA x (opA f n x s).1) (opB f n x (opA f n x s).2).1)).2,
      dput i (putN (opB f n x (opA f n x s).2).2.1 (ndB x.op (ndA x (opA f n x s).1) (opB f n x (opA f n x s).2).1)).1 (opB f n x (opA f n x s).2).2.2) := by
  simp only [fin, hl, hx, opA, opB, ndB, ndA]
theorem opA_keep {f : List Nd} (hwf : Wf f) {n i : Nat} {x : Nd} (hx : f[i]? = some x) (hin : i < n + 1) (hif : i < f.length) (s : List Nd × List (Nat × Nat)) :
    (∀ j, i ≤ j → look j (opA f n x s).2.2 = look j s.2) ∧ (s.1.length + cnt s.2 f.length ≤ f.length → (opA f n x s).2.1.length + cnt (opA f n x s).2.2 f.length ≤ f.length) := by
  unfold opA
  cases hu : usesX x.op with
  | false => exact ⟨fun _ _ => rfl, fun h => h⟩
  | true =>
    have := (hwf i x hx).1 hu
    obtain ⟨q1, q2⟩ := fin_keep hwf n x.x.toNat s (by omega) (by omega)
    exact ⟨fun j hj => q1 j (by omega), q2⟩
theorem opB_keep {f : List Nd} (hwf : Wf f) {n i : Nat} {x : Nd} (hx : f[i]? = some x) (hin : i < n + 1) (hif : i < f.length) (s : List Nd × List (Nat × Nat)) :
    (∀ j, i ≤ j → look j (opB f n x s).2.2 = look j s.2) ∧ (s.1.length + cnt s.2 f.length ≤ f.length → (opB f n x s).2.1.length + cnt (opB f n x s).2.2 f.length ≤ f.length) := by
  unfold opB
  cases hu : usesY x.op with
  | false => exact ⟨fun _ _ => rfl, fun h => h⟩
  | true =>
    have := (hwf i x hx).2 hu
    obtain ⟨q1, q2⟩ := fin_keep hwf n x.y.toNat s (by omega) (by omega)
    exact ⟨fun j hj => q1 j (by omega), q2⟩
def Nd.dvs (x : Nd) : List DV := [.pv (.int .i64 x.op), .pv (.int .i64 x.i), .pv (.int .i64 x.e), .pv (.int .i64 x.g), .pv (.int .i64 x.x), .pv (.int .i64 x.y)]
def usesDvs (op : Int) : List DV := [.pv (.bool (usesX op)), .pv (.bool (usesY op)), .pv (.bool (op == 3)), .pv (.bool (isAgent op)), .pv (.bool (isGroup op)), .pv (.bool (op == 17)), .pv (.int .i64 (frag op))]

/-- The state behind the walk is told by the list and the numbers. -/
theorem close_ok {L : DH} {f out : List Nd} {ds : List (Nat × Nat)} {d : DV} {base : Nat} {K : DV → DH → Prop} (hK : K d ⟨8, 0, base, objsOf (Hc f out ds)⟩) (hd : d.under 8 = true) (hlo : Nat.ble L.lo 8 = true) (hb : Nat.ble L.base 8 = true)
    (h0 : L.get 0 = some (.var [.pv (fpv f)])) (h1 : L.get 1 = some (.var [.buf 7 (out.map Nd.pv).length])) (h2 : L.get 2 = some (.mp (nums out 0))) (h3 : L.get 3 = some (.var [.mp 2])) (h4 : L.get 4 = some (.mp (dones ds))) (h5 : L.get 5 = some (.var [.mp 4]))
    (h6 : L.get 6 = some (.var [.clo 89 [] [.ref 5 0, .ref 0 0, .ref 6 0, .ref 3 0, .ref 1 0]])) (h7 : L.get 7 = some (.arr 6 (out.map Nd.pv))) :
    ∃ d' nx Hl, Wk (fun _ => d) L [(0, d')] nx Hl ∧ K d' ⟨nx, 0, base, objsOf Hl⟩ := by
  have tr : ∀ {k : Nat} {o : DObj}, L.get k = some o → (match L.get k with | some _ => True | none => Nat.ble L.next k = true) := fun h => by rw [h]; trivial
  refine ⟨d, 8, Hc f out ds, Wk.of ⟨.same _, trivial⟩ ⟨.same _ _ h0, tr h0, .same _ _ h1, tr h1, .same _ _ h2, tr h2, .same _ _ h3, tr h3, .same _ _ h4, tr h4, .same _ _ h5, tr h5, .same _ _ h6, tr h6, .same _ _ h7, tr h7, trivial⟩ ?_ hlo hb, hK⟩
  simp only [wkU, List.all_cons, List.all_nil, hd, Bool.and_true, Bool.true_and]
  rfl

theorem finish_dc (f : List Nd) (hwf : Wf f) (hN : f.length ≤ 1000000) : ∀ (n i : Nat) (s : List Nd × List (Nat × Nat)), i < n → i < f.length → s.1.length + cnt s.2 f.length ≤ f.length →
    ∀ (M : Nat → Prop) (w0 : World) (base : Nat) (K : DV → DH → Prop), base ≤ 8 → K (.pv (.int .i64 ((fin f n i s).1 : Int))) ⟨8, 0, base, objsOf (Hc f (fin f n i s).2.1 (fin f n i s).2.2)⟩ →
      DC Try.prog M w0 89 [.pv (.int .i64 (i : Int)), .ref 5 0, .ref 0 0, .ref 6 0, .ref 3 0, .ref 1 0] ⟨8, 0, base, objsOf (Hc f s.1 s.2)⟩ K := by
  intro n
  induction n with
  | zero => intro i s h; omega
  | succ n ih =>
    intro i s hin hif hb M w0 base K hbase hK
    obtain ⟨out, ds⟩ := s
    refine DC.weaken (DC.introC [8, 10, 15] mixed (fn := Try.f89) rfl rfl rfl ?_)
    cases hl : look i ds with
    | some k =>
      have hfin : fin f (n + 1) i (out, ds) = (k, out, ds) := by simp only [fin, hl]
      rw [hfin] at hK
      (try (conv => whnf)); repeat' (first | (apply And.intro <;> (try (conv => whnf))) | (intro h; first | (with_reducible exact tf0 h) | (with_reducible exact ft0 h) | (with_reducible exact nt0 h) | (with_reducible exact nf0 h) | (exact litz h rfl) | (with_reducible exact tf h (by with_reducible assumption)) | (with_reducible exact tf (by with_reducible assumption) h) | (try (conv => whnf))) | (with_reducible rfl) | (apply True.intro) | (apply infoT; rfl) | (apply bleI; rfl) | (apply fitI; rfl) | (apply cellsI; rfl) | (apply szI; rfl) | (apply guardI; kernel_rfl) | (apply WhenQ.mk; (try (conv => whnf)); rotate_left; (try (conv => whnf)); rotate_right) | (with_reducible assumption) | (apply not_of; with_reducible assumption) | (apply left_of; with_reducible assumption) | (apply left_of; apply left_of; with_reducible assumption) | (apply and_of <;> first | (with_reducible assumption) | (apply not_of; with_reducible assumption))| (refine lin_plan (by kernel_rfl) ?_; (try (conv => whnf))) | (refine ⟨_, _, rfl, idx_map (by with_reducible assumption), rfl, ?_⟩; (try (conv => whnf))) | (refine ⟨rfl, ?_⟩; (try (conv => whnf))) | fail)
      · obtain ⟨e, _, rfl⟩ := List.mem_map.1 h; rfl
      · refine ⟨some (.int .i64 (k : Int)), by rw [mfind_dones, hl]; rfl, ?_⟩
        (try (conv => whnf)); repeat' (first | (apply And.intro <;> (try (conv => whnf))) | (intro h; first | (with_reducible exact tf0 h) | (with_reducible exact ft0 h) | (with_reducible exact nt0 h) | (with_reducible exact nf0 h) | (exact litz h rfl) | (with_reducible exact tf h (by with_reducible assumption)) | (with_reducible exact tf (by with_reducible assumption) h) | (try (conv => whnf))) | (with_reducible rfl) | (apply True.intro) | (apply infoT; rfl) | (apply bleI; rfl) | (apply fitI; rfl) | (apply cellsI; rfl) | (apply szI; rfl) | (apply guardI; kernel_rfl) | (apply WhenQ.mk; (try (conv => whnf)); rotate_left; (try (conv => whnf)); rotate_right) | (with_reducible assumption) | (apply not_of; with_reducible assumption) | (apply left_of; with_reducible assumption) | (apply left_of; apply left_of; with_reducible assumption) | (apply and_of <;> first | (with_reducible assumption) | (apply not_of; with_reducible assumption))| (refine lin_plan (by kernel_rfl) ?_; (try (conv => whnf))) | (refine ⟨_, _, rfl, idx_map (by with_reducible assumption), rfl, ?_⟩; (try (conv => whnf))) | (refine ⟨rfl, ?_⟩; (try (conv => whnf))) | fail)
        exact ⟨_, 8, Hc f out ds, (by refine Wk.of ?_ ?_ rfl rfl rfl <;> (repeat' (first | (exact trivial) | (exact WkD.same _) | (exact WkO.same _ _ rfl) | (exact WkD.any _) | (refine WkD.int ?_) | (exact WkD.new' rfl rfl rfl) | (exact WkO.new _ _ rfl) | (refine WkO.vars rfl ?_) | (with_reducible rfl) | (exact rfl) | (refine ⟨?_, ?_⟩) | ((refine wrapA ?_ ?_ ?_); (focus (simp; done)); (focus ((try dsimp only); omega)); (focus ((try dsimp only); omega))) | fail))), hK⟩
    | none =>
      have hn : f[i]? = some f[i] := List.getElem?_eq_getElem hif
      obtain ⟨x, hx⟩ : ∃ x, x = f[i] := ⟨_, rfl⟩
      rw [← hx] at hn
      obtain ⟨hfx, hfy⟩ := hwf i x hn
      have kA := opA_keep hwf hn hin hif (out, ds)
      have kB := opB_keep hwf hn hin hif (opA f n x (out, ds)).2
      have hfin := fin_none (f := f) (n := n) (i := i) (s := (out, ds)) hl hn
      rw [hfin] at hK
      obtain ⟨A, hA⟩ : ∃ A, A = opA f n x (out, ds) := ⟨_, rfl⟩
      rw [← hA] at hK kA kB
      obtain ⟨B, hB⟩ : ∃ B, B = opB f n x A.2 := ⟨_, rfl⟩
      rw [← hB] at hK kB
      have hK' : K (.pv (.int .i64 ((putN B.2.1 (ndB x.op (ndA x A.1) B.1)).1 : Int))) ⟨8, 0, base, objsOf (Hc f (putN B.2.1 (ndB x.op (ndA x A.1) B.1)).2 (dput i (putN B.2.1 (ndB x.op (ndA x A.1) B.1)).1 B.2.2))⟩ := hK
      clear hfin hK hx
      have b1 := kA.2 hb
      have b2 := kB.2 b1
      have hlB : look i B.2.2 = none := by rw [kB.1 i (Nat.le_refl i), kA.1 i (Nat.le_refl i)]; exact hl
      have hcB := cnt_pos hlB hif
      (try (conv => whnf)); repeat' (first | (apply And.intro <;> (try (conv => whnf))) | (intro h; first | (with_reducible exact tf0 h) | (with_reducible exact ft0 h) | (with_reducible exact nt0 h) | (with_reducible exact nf0 h) | (exact litz h rfl) | (with_reducible exact tf h (by with_reducible assumption)) | (with_reducible exact tf (by with_reducible assumption) h) | (try (conv => whnf))) | (with_reducible rfl) | (apply True.intro) | (apply infoT; rfl) | (apply bleI; rfl) | (apply fitI; rfl) | (apply cellsI; rfl) | (apply szI; rfl) | (apply guardI; kernel_rfl) | (apply WhenQ.mk; (try (conv => whnf)); rotate_left; (try (conv => whnf)); rotate_right) | (with_reducible assumption) | (apply not_of; with_reducible assumption) | (apply left_of; with_reducible assumption) | (apply left_of; apply left_of; with_reducible assumption) | (apply and_of <;> first | (with_reducible assumption) | (apply not_of; with_reducible assumption))| (refine lin_plan (by kernel_rfl) ?_; (try (conv => whnf))) | (refine ⟨_, _, rfl, idx_map (by with_reducible assumption), rfl, ?_⟩; (try (conv => whnf))) | (refine ⟨rfl, ?_⟩; (try (conv => whnf))) | fail)
      · obtain ⟨e, _, rfl⟩ := List.mem_map.1 h; rfl
      · refine ⟨none, by rw [mfind_dones, hl]; rfl, ?_⟩
        (try (conv => whnf)); repeat' (first | (apply And.intro <;> (try (conv => whnf))) | (intro h; first | (with_reducible exact tf0 h) | (with_reducible exact ft0 h) | (with_reducible exact nt0 h) | (with_reducible exact nf0 h) | (exact litz h rfl) | (with_reducible exact tf h (by with_reducible assumption)) | (with_reducible exact tf (by with_reducible assumption) h) | (try (conv => whnf))) | (with_reducible rfl) | (apply True.intro) | (apply infoT; rfl) | (apply bleI; rfl) | (apply fitI; rfl) | (apply cellsI; rfl) | (apply szI; rfl) | (apply guardI; kernel_rfl) | (apply WhenQ.mk; (try (conv => whnf)); rotate_left; (try (conv => whnf)); rotate_right) | (with_reducible assumption) | (apply not_of; with_reducible assumption) | (apply left_of; with_reducible assumption) | (apply left_of; apply left_of; with_reducible assumption) | (apply and_of <;> first | (with_reducible assumption) | (apply not_of; with_reducible assumption))| (refine lin_plan (by kernel_rfl) ?_; (try (conv => whnf))) | (refine ⟨_, _, rfl, idx_map (by with_reducible assumption), rfl, ?_⟩; (try (conv => whnf))) | (refine ⟨rfl, ?_⟩; (try (conv => whnf))) | fail)
        refine ⟨i, x.pv, rfl, by simp [hn], rfl, ?_⟩
        (try (conv => whnf)); repeat' (first | (apply And.intro <;> (try (conv => whnf))) | (intro h; first | (with_reducible exact tf0 h) | (with_reducible exact ft0 h) | (with_reducible exact nt0 h) | (with_reducible exact nf0 h) | (exact litz h rfl) | (with_reducible exact tf h (by with_reducible assumption)) | (with_reducible exact tf (by with_reducible assumption) h) | (try (conv => whnf))) | (with_reducible rfl) | (apply True.intro) | (apply infoT; rfl) | (apply bleI; rfl) | (apply fitI; rfl) | (apply cellsI; rfl) | (apply szI; rfl) | (apply guardI; kernel_rfl) | (apply WhenQ.mk; (try (conv => whnf)); rotate_left; (try (conv => whnf)); rotate_right) | (with_reducible assumption) | (apply not_of; with_reducible assumption) | (apply left_of; with_reducible assumption) | (apply left_of; apply left_of; with_reducible assumption) | (apply and_of <;> first | (with_reducible assumption) | (apply not_of; with_reducible assumption))| (refine lin_plan (by kernel_rfl) ?_; (try (conv => whnf))) | (refine ⟨_, _, rfl, idx_map (by with_reducible assumption), rfl, ?_⟩; (try (conv => whnf))) | (refine ⟨rfl, ?_⟩; (try (conv => whnf))) | (refine PureFn.dcq (f := 53) rfl ?_; (try (conv => whnf))) | ((refine ⟨_, _, fm_uses ?_, ?_, ?_⟩); rotate_left 1; (focus (first | (refine ⟨?_, trivial⟩ <;> first | (exact PLe.refl _) | (exact PLe.nil)) | (exact trivial))); (try (conv => whnf))) | (refine ⟨_, (by (conv => whnf); exact fm_uses _), rfl, ?_⟩; (try (conv => whnf))) | fail)
        refine ⟨{ q : Nd × List Nd × List (Nat × Nat) // q.2 = A.2 ∧ q.1 = ndA x A.1 },
          fun q => [(0, .pv (.int .i64 (i : Int))), (1, .ref 5 0), (2, .ref 0 0), (3, .ref 6 0), (4, .ref 3 0), (5, .ref 1 0), (10, .ref 8 0), (11, .ref 9 0)], fun _ => 10,
          fun q => Hc f q.1.2.1 q.1.2.2 ++ [(8, .var q.1.1.dvs), (9, .var (usesDvs x.op))], ?_, ?_⟩
        · (try (conv => whnf)); repeat' (first | (apply And.intro <;> (try (conv => whnf))) | (intro h; first | (with_reducible exact tf0 h) | (with_reducible exact ft0 h) | (with_reducible exact nt0 h) | (with_reducible exact nf0 h) | (exact litz h rfl) | (with_reducible exact tf h (by with_reducible assumption)) | (with_reducible exact tf (by with_reducible assumption) h) | (try (conv => whnf))) | (with_reducible rfl) | (apply True.intro) | (apply infoT; rfl) | (apply bleI; rfl) | (apply fitI; rfl) | (apply cellsI; rfl) | (apply szI; rfl) | (apply guardI; kernel_rfl) | (apply WhenQ.mk; (try (conv => whnf)); rotate_left; (try (conv => whnf)); rotate_right) | (with_reducible assumption) | (apply not_of; with_reducible assumption) | (apply left_of; with_reducible assumption) | (apply left_of; apply left_of; with_reducible assumption) | (apply and_of <;> first | (with_reducible assumption) | (apply not_of; with_reducible assumption))| (refine lin_plan (by kernel_rfl) ?_; (try (conv => whnf))) | (refine ⟨_, _, rfl, idx_map (by with_reducible assumption), rfl, ?_⟩; (try (conv => whnf))) | (refine ⟨rfl, ?_⟩; (try (conv => whnf))) | (refine PureFn.dcq (f := 53) rfl ?_; (try (conv => whnf))) | ((refine ⟨_, _, fm_uses ?_, ?_, ?_⟩); rotate_left 1; (focus (first | (refine ⟨?_, trivial⟩ <;> first | (exact PLe.refl _) | (exact PLe.nil)) | (exact trivial))); (try (conv => whnf))) | (refine ⟨_, (by (conv => whnf); exact fm_uses _), rfl, ?_⟩; (try (conv => whnf))) | fail)
          · have hx0 := hfx h
            refine DC.call 8 (Hc f out ds) ⟨rfl, rfl, rfl, rfl, rfl, rfl, rfl, rfl, trivial⟩ rfl rfl rfl rfl fun M' => ?_
            have hxe : x.x = ((x.x.toNat : Nat) : Int) := by omega
            refine (?_ : DC Try.prog M' w0 89 [.pv (.int .i64 x.x), .ref 5 0, .ref 0 0, .ref 6 0, .ref 3 0, .ref 1 0] ⟨8, 0, 8, objsOf (Hc f out ds)⟩ _)
            rw [hxe]
            refine ih x.x.toNat (out, ds) (by omega) (by omega) hb M' w0 8 _ (Nat.le_refl 8) ⟨rfl, ?_⟩
            have hAe : A = fin f n x.x.toNat (out, ds) := by rw [hA, opA, h]; rfl
            rw [← hAe]
            (try (conv => whnf)); repeat' (first | (apply And.intro <;> (try (conv => whnf))) | (intro h; first | (with_reducible exact tf0 h) | (with_reducible exact ft0 h) | (with_reducible exact nt0 h) | (with_reducible exact nf0 h) | (exact litz h rfl) | (with_reducible exact tf h (by with_reducible assumption)) | (with_reducible exact tf (by with_reducible assumption) h) | (try (conv => whnf))) | (with_reducible rfl) | (apply True.intro) | (apply infoT; rfl) | (apply bleI; rfl) | (apply fitI; rfl) | (apply cellsI; rfl) | (apply szI; rfl) | (apply guardI; kernel_rfl) | (apply WhenQ.mk; (try (conv => whnf)); rotate_left; (try (conv => whnf)); rotate_right) | (with_reducible assumption) | (apply not_of; with_reducible assumption) | (apply left_of; with_reducible assumption) | (apply left_of; apply left_of; with_reducible assumption) | (apply and_of <;> first | (with_reducible assumption) | (apply not_of; with_reducible assumption))| (refine lin_plan (by kernel_rfl) ?_; (try (conv => whnf))) | (refine ⟨_, _, rfl, idx_map (by with_reducible assumption), rfl, ?_⟩; (try (conv => whnf))) | (refine ⟨rfl, ?_⟩; (try (conv => whnf))) | fail)
            exact ⟨⟨(⟨x.op, x.i, x.e, x.g, (A.1 : Int), x.y⟩, A.2), rfl, by unfold ndA; rw [h]; rfl⟩, (by refine Wk.of ?_ ?_ rfl rfl rfl <;> (repeat' (first | (exact trivial) | (exact WkD.same _) | (exact WkO.same _ _ rfl) | (exact WkD.any _) | (refine WkD.int ?_) | (exact WkD.new' rfl rfl rfl) | (exact WkO.new _ _ rfl) | (refine WkO.vars rfl ?_) | (with_reducible rfl) | (exact rfl) | (refine ⟨?_, ?_⟩) | ((refine wrapA ?_ ?_ ?_); (focus (simp; done)); (focus ((try dsimp only); omega)); (focus ((try dsimp only); omega))) | fail)))⟩
          · have hAe : A = (0, (out, ds)) := by rw [hA, opA, h]; rfl
            exact ⟨⟨(x, (out, ds)), by rw [hAe], by unfold ndA; rw [h]; rfl⟩, (by refine Wk.of ?_ ?_ rfl rfl rfl <;> (repeat' (first | (exact trivial) | (exact WkD.same _) | (exact WkO.same _ _ rfl) | (exact WkD.any _) | (refine WkD.int ?_) | (exact WkD.new' rfl rfl rfl) | (exact WkO.new _ _ rfl) | (refine WkO.vars rfl ?_) | (with_reducible rfl) | (exact rfl) | (refine ⟨?_, ?_⟩) | ((refine wrapA ?_ ?_ ?_); (focus (simp; done)); (focus ((try dsimp only); omega)); (focus ((try dsimp only); omega))) | fail)))⟩
        · rintro ⟨⟨y, out1, ds1⟩, hq1, hq2⟩
          have e1 : out1 = A.2.1 := congrArg Prod.fst hq1
          have e2 : ds1 = A.2.2 := congrArg Prod.snd hq1
          subst e1; subst e2
          have hq3 : y = ndA x A.1 := hq2
          have hyop : y.op = x.op := by rw [hq3]; unfold ndA; cases usesX x.op <;> rfl
          have hyy : y.y = x.y := by rw [hq3]; unfold ndA; cases usesX x.op <;> rfl
          (try (conv => whnf)); repeat' (first | (apply And.intro <;> (try (conv => whnf))) | (intro h; first | (with_reducible exact tf0 h) | (with_reducible exact ft0 h) | (with_reducible exact nt0 h) | (with_reducible exact nf0 h) | (exact litz h rfl) | (with_reducible exact tf h (by with_reducible assumption)) | (with_reducible exact tf (by with_reducible assumption) h) | (try (conv => whnf))) | (with_reducible rfl) | (apply True.intro) | (apply infoT; rfl) | (apply bleI; rfl) | (apply fitI; rfl) | (apply cellsI; rfl) | (apply szI; rfl) | (apply guardI; kernel_rfl) | (apply WhenQ.mk; (try (conv => whnf)); rotate_left; (try (conv => whnf)); rotate_right) | (with_reducible assumption) | (apply not_of; with_reducible assumption) | (apply left_of; with_reducible assumption) | (apply left_of; apply left_of; with_reducible assumption) | (apply and_of <;> first | (with_reducible assumption) | (apply not_of; with_reducible assumption))| (refine lin_plan (by kernel_rfl) ?_; (try (conv => whnf))) | (refine ⟨_, _, rfl, idx_map (by with_reducible assumption), rfl, ?_⟩; (try (conv => whnf))) | (refine ⟨rfl, ?_⟩; (try (conv => whnf))) | fail)
          refine ⟨{ q : Nd × List Nd × List (Nat × Nat) // q.2 = B.2 ∧ q.1 = ndB x.op (ndA x A.1) B.1 },
            fun q => [(0, .pv (.int .i64 (i : Int))), (1, .ref 5 0), (2, .ref 0 0), (3, .ref 6 0), (4, .ref 3 0), (5, .ref 1 0), (10, .ref 8 0)], fun _ => 9,
            fun q => Hc f q.1.2.1 q.1.2.2 ++ [(8, .var q.1.1.dvs)], ?_, ?_⟩
          · (try (conv => whnf)); repeat' (first | (apply And.intro <;> (try (conv => whnf))) | (intro h; first | (with_reducible exact tf0 h) | (with_reducible exact ft0 h) | (with_reducible exact nt0 h) | (with_reducible exact nf0 h) | (exact litz h rfl) | (with_reducible exact tf h (by with_reducible assumption)) | (with_reducible exact tf (by with_reducible assumption) h) | (try (conv => whnf))) | (with_reducible rfl) | (apply True.intro) | (apply infoT; rfl) | (apply bleI; rfl) | (apply fitI; rfl) | (apply cellsI; rfl) | (apply szI; rfl) | (apply guardI; kernel_rfl) | (apply WhenQ.mk; (try (conv => whnf)); rotate_left; (try (conv => whnf)); rotate_right) | (with_reducible assumption) | (apply not_of; with_reducible assumption) | (apply left_of; with_reducible assumption) | (apply left_of; apply left_of; with_reducible assumption) | (apply and_of <;> first | (with_reducible assumption) | (apply not_of; with_reducible assumption))| (refine lin_plan (by kernel_rfl) ?_; (try (conv => whnf))) | (refine ⟨_, _, rfl, idx_map (by with_reducible assumption), rfl, ?_⟩; (try (conv => whnf))) | (refine ⟨rfl, ?_⟩; (try (conv => whnf))) | fail)
            · have hy0 := hfy h
              refine DC.call 8 (Hc f A.2.1 A.2.2) ⟨rfl, rfl, rfl, rfl, rfl, rfl, rfl, rfl, trivial⟩ rfl rfl rfl rfl fun M' => ?_
              have hye : y.y = ((x.y.toNat : Nat) : Int) := by omega
              refine (?_ : DC Try.prog M' w0 89 [.pv (.int .i64 y.y), .ref 5 0, .ref 0 0, .ref 6 0, .ref 3 0, .ref 1 0] ⟨8, 0, 8, objsOf (Hc f A.2.1 A.2.2)⟩ _)
              rw [hye]
              refine ih x.y.toNat A.2 (by omega) (by omega) b1 M' w0 8 _ (Nat.le_refl 8) ⟨rfl, ?_⟩
              have hBe : B = fin f n x.y.toNat A.2 := by rw [hB, opB, h]; rfl
              rw [← hBe]
              (try (conv => whnf)); repeat' (first | (apply And.intro <;> (try (conv => whnf))) | (intro h; first | (with_reducible exact tf0 h) | (with_reducible exact ft0 h) | (with_reducible exact nt0 h) | (with_reducible exact nf0 h) | (exact litz h rfl) | (with_reducible exact tf h (by with_reducible assumption)) | (with_reducible exact tf (by with_reducible assumption) h) | (try (conv => whnf))) | (with_reducible rfl) | (apply True.intro) | (apply infoT; rfl) | (apply bleI; rfl) | (apply fitI; rfl) | (apply cellsI; rfl) | (apply szI; rfl) | (apply guardI; kernel_rfl) | (apply WhenQ.mk; (try (conv => whnf)); rotate_left; (try (conv => whnf)); rotate_right) | (with_reducible assumption) | (apply not_of; with_reducible assumption) | (apply left_of; with_reducible assumption) | (apply left_of; apply left_of; with_reducible assumption) | (apply and_of <;> first | (with_reducible assumption) | (apply not_of; with_reducible assumption))| (refine lin_plan (by kernel_rfl) ?_; (try (conv => whnf))) | (refine ⟨_, _, rfl, idx_map (by with_reducible assumption), rfl, ?_⟩; (try (conv => whnf))) | (refine ⟨rfl, ?_⟩; (try (conv => whnf))) | fail)
              exact ⟨⟨(⟨y.op, y.i, y.e, y.g, y.x, (B.1 : Int)⟩, B.2), rfl, by rw [← hq3]; unfold ndB; rw [h]; rfl⟩, (by refine Wk.of ?_ ?_ rfl rfl rfl <;> (repeat' (first | (exact trivial) | (exact WkD.same _) | (exact WkO.same _ _ rfl) | (exact WkD.any _) | (refine WkD.int ?_) | (exact WkD.new' rfl rfl rfl) | (exact WkO.new _ _ rfl) | (refine WkO.vars rfl ?_) | (with_reducible rfl) | (exact rfl) | (refine ⟨?_, ?_⟩) | ((refine wrapA ?_ ?_ ?_); (focus (simp; done)); (focus ((try dsimp only); omega)); (focus ((try dsimp only); omega))) | fail)))⟩
            · have hBe : B = (0, A.2) := by rw [hB, opB, h]; rfl
              exact ⟨⟨(y, A.2), by rw [hBe], by rw [← hq3]; unfold ndB; rw [h]; rfl⟩, (by refine Wk.of ?_ ?_ rfl rfl rfl <;> (repeat' (first | (exact trivial) | (exact WkD.same _) | (exact WkO.same _ _ rfl) | (exact WkD.any _) | (refine WkD.int ?_) | (exact WkD.new' rfl rfl rfl) | (exact WkO.new _ _ rfl) | (refine WkO.vars rfl ?_) | (with_reducible rfl) | (exact rfl) | (refine ⟨?_, ?_⟩) | ((refine wrapA ?_ ?_ ?_); (focus (simp; done)); (focus ((try dsimp only); omega)); (focus ((try dsimp only); omega))) | fail)))⟩
          · rintro ⟨⟨z, out2, ds2⟩, hr1, hr2⟩
            have e1 : out2 = B.2.1 := congrArg Prod.fst hr1
            have e2 : ds2 = B.2.2 := congrArg Prod.snd hr1
            subst e1; subst e2
            have hr3 : z = ndB x.op (ndA x A.1) B.1 := hr2
            rw [← hr3] at hK'
            (try (conv => whnf)); repeat' (first | (apply And.intro <;> (try (conv => whnf))) | (intro h; first | (with_reducible exact tf0 h) | (with_reducible exact ft0 h) | (with_reducible exact nt0 h) | (with_reducible exact nf0 h) | (exact litz h rfl) | (with_reducible exact tf h (by with_reducible assumption)) | (with_reducible exact tf (by with_reducible assumption) h) | (try (conv => whnf))) | (with_reducible rfl) | (apply True.intro) | (apply infoT; rfl) | (apply bleI; rfl) | (apply fitI; rfl) | (apply cellsI; rfl) | (apply szI; rfl) | (apply guardI; kernel_rfl) | (apply WhenQ.mk; (try (conv => whnf)); rotate_left; (try (conv => whnf)); rotate_right) | (with_reducible assumption) | (apply not_of; with_reducible assumption) | (apply left_of; with_reducible assumption) | (apply left_of; apply left_of; with_reducible assumption) | (apply and_of <;> first | (with_reducible assumption) | (apply not_of; with_reducible assumption))| (refine lin_plan (by kernel_rfl) ?_; (try (conv => whnf))) | (refine ⟨_, _, rfl, idx_map (by with_reducible assumption), rfl, ?_⟩; (try (conv => whnf))) | (refine ⟨rfl, ?_⟩; (try (conv => whnf))) | fail)
            · obtain ⟨n', hn'⟩ := mem_nums h; rw [hn']; rfl
            · have hmf := mfind_nums z B.2.1
              obtain ⟨p, hp⟩ : ∃ p, p = putN B.2.1 z := ⟨_, rfl⟩
              rw [← hp] at hK'
              refine ⟨(idx z B.2.1 0).map fun k => PV.int .i64 (k : Int), hmf, ?_⟩
              cases hid : idx z B.2.1 0 with
              | some k =>
                have hp' : p = (k, B.2.1) := by rw [hp, putN, hid]
                (try (conv => whnf)); repeat' (first | (apply And.intro <;> (try (conv => whnf))) | (intro h; first | (with_reducible exact tf0 h) | (with_reducible exact ft0 h) | (with_reducible exact nt0 h) | (with_reducible exact nf0 h) | (exact litz h rfl) | (with_reducible exact tf h (by with_reducible assumption)) | (with_reducible exact tf (by with_reducible assumption) h) | (try (conv => whnf))) | (with_reducible rfl) | (apply True.intro) | (apply infoT; rfl) | (apply bleI; rfl) | (apply fitI; rfl) | (apply cellsI; rfl) | (apply szI; rfl) | (apply guardI; kernel_rfl) | (apply WhenQ.mk; (try (conv => whnf)); rotate_left; (try (conv => whnf)); rotate_right) | (with_reducible assumption) | (apply not_of; with_reducible assumption) | (apply left_of; with_reducible assumption) | (apply left_of; apply left_of; with_reducible assumption) | (apply and_of <;> first | (with_reducible assumption) | (apply not_of; with_reducible assumption))| (refine lin_plan (by kernel_rfl) ?_; (try (conv => whnf))) | (refine ⟨_, _, rfl, idx_map (by with_reducible assumption), rfl, ?_⟩; (try (conv => whnf))) | (refine ⟨rfl, ?_⟩; (try (conv => whnf))) | fail)
                refine ⟨{ q : Nat × List Nd // q = p }, fun q => [(0, .pv (.int .i64 (i : Int))), (1, .ref 5 0), (13, .pv (.int .i64 (q.1.1 : Int)))], fun _ => 8, fun q => Hc f q.1.2 B.2.2, ?_, ?_⟩
                · (try (conv => whnf)); repeat' (first | (apply And.intro <;> (try (conv => whnf))) | (intro h; first | (with_reducible exact tf0 h) | (with_reducible exact ft0 h) | (with_reducible exact nt0 h) | (with_reducible exact nf0 h) | (exact litz h rfl) | (with_reducible exact tf h (by with_reducible assumption)) | (with_reducible exact tf (by with_reducible assumption) h) | (try (conv => whnf))) | (with_reducible rfl) | (apply True.intro) | (apply infoT; rfl) | (apply bleI; rfl) | (apply fitI; rfl) | (apply cellsI; rfl) | (apply szI; rfl) | (apply guardI; kernel_rfl) | (apply WhenQ.mk; (try (conv => whnf)); rotate_left; (try (conv => whnf)); rotate_right) | (with_reducible assumption) | (apply not_of; with_reducible assumption) | (apply left_of; with_reducible assumption) | (apply left_of; apply left_of; with_reducible assumption) | (apply and_of <;> first | (with_reducible assumption) | (apply not_of; with_reducible assumption))| (refine lin_plan (by kernel_rfl) ?_; (try (conv => whnf))) | (refine ⟨_, _, rfl, idx_map (by with_reducible assumption), rfl, ?_⟩; (try (conv => whnf))) | (refine ⟨rfl, ?_⟩; (try (conv => whnf))) | fail)
                  exact ⟨⟨(k, B.2.1), hp'.symm⟩, (by refine Wk.of ?_ ?_ rfl rfl rfl <;> (repeat' (first | (exact trivial) | (exact WkD.same _) | (exact WkO.same _ _ rfl) | (exact WkD.any _) | (refine WkD.int ?_) | (exact WkD.new' rfl rfl rfl) | (exact WkO.new _ _ rfl) | (refine WkO.vars rfl ?_) | (with_reducible rfl) | (exact rfl) | (refine ⟨?_, ?_⟩) | ((refine wrapA ?_ ?_ ?_); (focus (simp; done)); (focus ((try dsimp only); omega)); (focus ((try dsimp only); omega))) | fail)))⟩
                · rintro ⟨q, rfl⟩
                  (try (conv => whnf)); repeat' (first | (apply And.intro <;> (try (conv => whnf))) | (intro h; first | (with_reducible exact tf0 h) | (with_reducible exact ft0 h) | (with_reducible exact nt0 h) | (with_reducible exact nf0 h) | (exact litz h rfl) | (with_reducible exact tf h (by with_reducible assumption)) | (with_reducible exact tf (by with_reducible assumption) h) | (try (conv => whnf))) | (with_reducible rfl) | (apply True.intro) | (apply infoT; rfl) | (apply bleI; rfl) | (apply fitI; rfl) | (apply cellsI; rfl) | (apply szI; rfl) | (apply guardI; kernel_rfl) | (apply WhenQ.mk; (try (conv => whnf)); rotate_left; (try (conv => whnf)); rotate_right) | (with_reducible assumption) | (apply not_of; with_reducible assumption) | (apply left_of; with_reducible assumption) | (apply left_of; apply left_of; with_reducible assumption) | (apply and_of <;> first | (with_reducible assumption) | (apply not_of; with_reducible assumption))| (refine lin_plan (by kernel_rfl) ?_; (try (conv => whnf))) | (refine ⟨_, _, rfl, idx_map (by with_reducible assumption), rfl, ?_⟩; (try (conv => whnf))) | (refine ⟨rfl, ?_⟩; (try (conv => whnf))) | fail)
                  · obtain ⟨e, _, rfl⟩ := List.mem_map.1 h; rfl
                  · exact close_ok hK' rfl rfl rfl rfl rfl rfl rfl (congrArg (fun z => some (DObj.mp z)) (mput_dones i q.1 B.2.2)) rfl rfl rfl
              | none =>
                have hp' : p = (B.2.1.length, B.2.1 ++ [z]) := by rw [hp, putN, hid]
                have hbig : B.2.1.length + 1 ≤ 4294967296 := by omega
                (try (conv => whnf)); repeat' (first | (apply And.intro <;> (try (conv => whnf))) | (intro h; first | (with_reducible exact tf0 h) | (with_reducible exact ft0 h) | (with_reducible exact nt0 h) | (with_reducible exact nf0 h) | (exact litz h rfl) | (with_reducible exact tf h (by with_reducible assumption)) | (with_reducible exact tf (by with_reducible assumption) h) | (try (conv => whnf))) | (with_reducible rfl) | (apply True.intro) | (apply infoT; rfl) | (apply bleI; rfl) | (apply fitI; rfl) | (apply cellsI; rfl) | (apply szI; rfl) | (apply guardI; kernel_rfl) | (apply WhenQ.mk; (try (conv => whnf)); rotate_left; (try (conv => whnf)); rotate_right) | (with_reducible assumption) | (apply not_of; with_reducible assumption) | (apply left_of; with_reducible assumption) | (apply left_of; apply left_of; with_reducible assumption) | (apply and_of <;> first | (with_reducible assumption) | (apply not_of; with_reducible assumption))| (refine lin_plan (by kernel_rfl) ?_; (try (conv => whnf))) | (refine ⟨_, _, rfl, idx_map (by with_reducible assumption), rfl, ?_⟩; (try (conv => whnf))) | (refine ⟨rfl, ?_⟩; (try (conv => whnf))) | fail)
                refine ⟨{ q : Nat × List Nd // q = p }, fun q => [(0, .pv (.int .i64 (i : Int))), (1, .ref 5 0), (13, .pv (.int .i64 (q.1.1 : Int)))], fun _ => 8, fun q => Hc f q.1.2 B.2.2, ?_, ?_⟩
                · (try (conv => whnf)); repeat' (first | (apply And.intro <;> (try (conv => whnf))) | (intro h; first | (with_reducible exact tf0 h) | (with_reducible exact ft0 h) | (with_reducible exact nt0 h) | (with_reducible exact nf0 h) | (exact litz h rfl) | (with_reducible exact tf h (by with_reducible assumption)) | (with_reducible exact tf (by with_reducible assumption) h) | (try (conv => whnf))) | (with_reducible rfl) | (apply True.intro) | (apply infoT; rfl) | (apply bleI; rfl) | (apply fitI; rfl) | (apply cellsI; rfl) | (apply szI; rfl) | (apply guardI; kernel_rfl) | (apply WhenQ.mk; (try (conv => whnf)); rotate_left; (try (conv => whnf)); rotate_right) | (with_reducible assumption) | (apply not_of; with_reducible assumption) | (apply left_of; with_reducible assumption) | (apply left_of; apply left_of; with_reducible assumption) | (apply and_of <;> first | (with_reducible assumption) | (apply not_of; with_reducible assumption))| (refine lin_plan (by kernel_rfl) ?_; (try (conv => whnf))) | (refine ⟨_, _, rfl, idx_map (by with_reducible assumption), rfl, ?_⟩; (try (conv => whnf))) | (refine ⟨rfl, ?_⟩; (try (conv => whnf))) | fail)
                  · show (B.2.1.map Nd.pv).length + 1 ≤ 4294967296
                    rw [List.length_map]; exact hbig
                  · obtain ⟨n', hn'⟩ := mem_nums h; rw [hn']; rfl
                  · refine ⟨⟨(B.2.1.length, B.2.1 ++ [z]), hp'.symm⟩, Wk.of ?_ ?_ rfl rfl rfl⟩
                    · (repeat' (first | (exact trivial) | (exact WkD.same _) | (refine WkD.int ?_) | (refine ⟨?_, ?_⟩) | fail)) <;> exact congrArg Int.ofNat (List.length_map _)
                    · refine ⟨.same _ _ rfl, trivial, .same _ _ ?_, trivial, .same _ _ ?_, trivial, .same _ _ rfl, trivial, .same _ _ rfl, trivial, .same _ _ rfl, trivial, .same _ _ rfl, trivial, .same _ _ ?_, trivial, trivial⟩
                      · refine congrArg (fun z => some (DObj.var [DV.buf 7 z])) ?_
                        simp
                      · refine Eq.trans (congrArg (fun v => some (DObj.mp (mput (nums B.2.1 0) z.pv (.int .i64 v)))) (congrArg Int.ofNat (List.length_map _))) ?_
                        exact congrArg (fun z => some (DObj.mp z)) (mput_nums z B.2.1 hid)
                      · exact congrArg (fun z => some (DObj.arr 6 z)) (List.map_append (f := Nd.pv) (l₁ := B.2.1) (l₂ := [z])).symm
                · rintro ⟨q, rfl⟩
                  (try (conv => whnf)); repeat' (first | (apply And.intro <;> (try (conv => whnf))) | (intro h; first | (with_reducible exact tf0 h) | (with_reducible exact ft0 h) | (with_reducible exact nt0 h) | (with_reducible exact nf0 h) | (exact litz h rfl) | (with_reducible exact tf h (by with_reducible assumption)) | (with_reducible exact tf (by with_reducible assumption) h) | (try (conv => whnf))) | (with_reducible rfl) | (apply True.intro) | (apply infoT; rfl) | (apply bleI; rfl) | (apply fitI; rfl) | (apply cellsI; rfl) | (apply szI; rfl) | (apply guardI; kernel_rfl) | (apply WhenQ.mk; (try (conv => whnf)); rotate_left; (try (conv => whnf)); rotate_right) | (with_reducible assumption) | (apply not_of; with_reducible assumption) | (apply left_of; with_reducible assumption) | (apply left_of; apply left_of; with_reducible assumption) | (apply and_of <;> first | (with_reducible assumption) | (apply not_of; with_reducible assumption))| (refine lin_plan (by kernel_rfl) ?_; (try (conv => whnf))) | (refine ⟨_, _, rfl, idx_map (by with_reducible assumption), rfl, ?_⟩; (try (conv => whnf))) | (refine ⟨rfl, ?_⟩; (try (conv => whnf))) | fail)
                  · obtain ⟨e, _, rfl⟩ := List.mem_map.1 h; rfl
                  · exact close_ok hK' rfl rfl rfl rfl rfl rfl rfl (congrArg (fun z => some (DObj.mp z)) (mput_dones i q.1 B.2.2)) rfl rfl rfl
end Go.Proofs.Ytlmgodcfjaagpaa
