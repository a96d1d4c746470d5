/- Parts of the proof, one after the other: Belief sets: the value of a formula at a valuation (plain). Belief sets: the value of a formula at a valuation, Models, of both sides, walked. Belief sets: the reference's value of a formula; Models of both sides. Belief sets: Formula of both sides walked. -/
import Derived.Test.YthnfbkplkheliaaM8
set_option maxRecDepth 100000
namespace Go.Proofs.Ythnfbkplkheliaa
open Go Go.Dv

theorem ex3 {α : Type} {A B C : α → Prop} {m : α} (h1 : A m) (h2 : B m) (h3 : C m) : ∃ m, A m ∧ B m ∧ C m := ⟨m, h1, h2, h3⟩
theorem ex2 {α : Type} {A B : α → Prop} {m : α} (h1 : A m) (h2 : B m) : ∃ m, A m ∧ B m := ⟨m, h1, h2⟩
def evO (op : Int) (f a b : Bool) : Bool :=
  bif op == 1 then true else bif op == 3 then f else bif op == 4 then !a else bif op == 5 then (bif a then b else false) else bif op == 6 then (bif a then true else b) else bif op == 7 then (bif !a then true else b) else bif op == 8 then a == b else false
def evN (l : List Bool) (x : Nd) (v : Nat) : Bool := evO x.op (v.testBit x.i.toNat) (l.getD x.x.toNat false) (l.getD x.y.toNat false)
def evs (c : List Nd) (v : Nat) : List Bool := c.foldl (fun l x => l ++ [evN l x v]) []
def holds (c : List Nd) (v : Nat) : Bool := (evs c v).getD (c.length - 1) false
theorem evs_take {c : List Nd} {i : Nat} (v : Nat) (h : i < c.length) : evs (c.take (i + 1)) v = evs (c.take i) v ++ [evN (evs (c.take i) v) c[i] v] := by
  rw [List.take_succ_eq_append_getElem h, evs, List.foldl_append]; rfl
theorem evs_len (v : Nat) : ∀ (c : List Nd), (evs c v).length = c.length := by
  have : ∀ (c : List Nd) (d : List Bool), (c.foldl (fun l x => l ++ [evN l x v]) d).length = d.length + c.length := by
    intro c
    induction c with
    | nil => intro d; simp
    | cons x r ih => intro d; rw [List.foldl_cons, ih]; simp; omega
  intro c
  have := this c []
  simpa [evs] using this
/-- The reference's way, condition after condition. -/
def evR (op : Int) (f a b : Bool) : Bool :=
  bif op == 8 then a == b else bif op == 7 then (bif !a then true else b) else bif op == 6 then (bif a then true else b) else bif op == 5 then (bif a then b else false) else bif op == 4 then !a else bif op == 3 then f else op == 1
theorem evR_eq (op : Int) (f a b : Bool) : evR op f a b = evO op f a b := by
  unfold evR evO
  by_cases h1 : op = 1
  · subst h1; rfl
  · by_cases h3 : op = 3
    · subst h3; rfl
    · by_cases h4 : op = 4
      · subst h4; rfl
      · by_cases h5 : op = 5
        · subst h5; rfl
        · by_cases h6 : op = 6
          · subst h6; rfl
          · by_cases h7 : op = 7
            · subst h7; rfl
            · by_cases h8 : op = 8
              · subst h8; rfl
              · have e1 : (op == 1) = false := by simpa using h1
                have e3 : (op == 3) = false := by simpa using h3
                have e4 : (op == 4) = false := by simpa using h4
                have e5 : (op == 5) = false := by simpa using h5
                have e6 : (op == 6) = false := by simpa using h6
                have e7 : (op == 7) = false := by simpa using h7
                have e8 : (op == 8) = false := by simpa using h8
                rw [e1, e3, e4, e5, e6, e7, e8]; rfl
/-- With operands only where there are some. -/
theorem evO_uses (op : Int) (f a b : Bool) : evO op f (bif usesX op then a else false) (bif usesY op then b else false) = evO op f a b := by
  by_cases h4 : op = 4
  · subst h4; rfl
  · by_cases h5 : op = 5
    · subst h5; rfl
    · by_cases h6 : op = 6
      · subst h6; rfl
      · by_cases h7 : op = 7
        · subst h7; rfl
        · by_cases h8 : op = 8
          · subst h8; rfl
          · have e4 : (op == 4) = false := by simpa using h4
            have e5 : (op == 5) = false := by simpa using h5
            have e6 : (op == 6) = false := by simpa using h6
            have e7 : (op == 7) = false := by simpa using h7
            have e8 : (op == 8) = false := by simpa using h8
            unfold evO
            rw [e4, e5, e6, e7, e8]
            simp only [cond_false]
def modelsOf (f : List Nd) (n : Nat) : Nat := maskOf (fun v => holds (comp f) v) (2 ^ n)
def modelsI (f : List Nd) (facts : Int) : Nat × Int :=
  bif !okN facts then (0, 2) else bif check f != 0 then (0, check f) else bif ((frags f : Nat) : Int) != 0 then (0, 10) else bif !fits f 0 facts then (0, 2) else (modelsOf f facts.toNat, 0)

/-! arrays half filled -/
def half (A : List Bool) (n : Nat) : List Bool := A ++ List.replicate (n - A.length) false
theorem half_len {A : List Bool} {n : Nat} (h : A.length ≤ n) : (half A n).length = n := by rw [half, List.length_append, List.length_replicate]; omega
theorem half_get {A : List Bool} {n k : Nat} (h : k < A.length) : (half A n)[k]? = some (A.getD k false) := by
  rw [half, List.getElem?_append_left h, List.getD_eq_getElem?_getD, List.getElem?_eq_getElem h]; rfl
theorem half_all {A : List Bool} {n k : Nat} (h : k < n) : (half A n)[k]? = some (A.getD k false) := by
  rcases Nat.lt_or_ge k A.length with q | q
  · exact half_get q
  · rw [half, List.getElem?_append_right q, List.getElem?_replicate, if_pos (by omega), List.getD_eq_getElem?_getD, List.getElem?_eq_none q]; rfl
theorem half_next {A : List Bool} {n : Nat} (h : A.length < n) : (half A n)[A.length]? = some false := by
  rw [half, List.getElem?_append_right (Nat.le_refl _), Nat.sub_self, List.getElem?_replicate, if_pos (by omega)]
theorem half_set {A : List Bool} {n : Nat} (b : Bool) (h : A.length < n) : (half A n).set A.length b = half (A ++ [b]) n := by
  unfold half
  have e : n - A.length = (n - (A ++ [b]).length) + 1 := by rw [List.length_append]; simp only [List.length_cons, List.length_nil]; omega
  rw [e, List.replicate_succ]
  simp [List.set_append_right]
theorem half_skip {A : List Bool} {n : Nat} (h : A.length < n) : half A n = half (A ++ [false]) n := by
  rw [← half_set false h]
  apply List.ext_getElem?
  intro i
  rw [List.getElem?_set]
  split
  · rename_i e
    subst e
    rw [if_pos (by rw [half_len (by omega)]; exact h), half_next h]
  · rfl
theorem half_full {A : List Bool} {n : Nat} (h : A.length = n) : half A n = A := by
  rw [half, h, Nat.sub_self]; simp
end Go.Proofs.Ythnfbkplkheliaa
set_option maxRecDepth 100000
set_option maxHeartbeats 4000000
namespace Go.Proofs.Ythnfbkplkheliaa
open Go Go.Dv

def bpv (u : List Bool) : List PV := u.map PV.bool
theorem bpv_set (u : List Bool) (k : Nat) (b : Bool) : (bpv u).set k (.bool b) = bpv (u.set k b) := (List.map_set (f := PV.bool) (l := u) (i := k) (a := b)).symm
theorem bpv_len (u : List Bool) : (bpv u).length = u.length := List.length_map _
theorem bpv_get {u : List Bool} {k : Nat} {b : Bool} (h : u[k]? = some b) : (bpv u)[k]? = some (.bool b) := idx_map h
theorem bit64_one {s v : Nat} (hs : s < 2 ^ 62) (hv : v ≤ 64) : (and64 (shr64 s v) 1 == 1) = s.testBit v := by
  rw [bit64_and hs hv]; cases s.testBit v <;> rfl
theorem bit64_r {s v : Nat} (hv : v ≤ 64) : ((shr64 s v).tmod 2 == 1) = s.testBit v := by
  rw [bit64_rem hv]; cases s.testBit v <;> rfl
theorem bs_holds (c : List Nd) (v : Nat) (hv : v < 65536) (hc : Okl c) (h1 : 1 ≤ c.length) (h2 : c.length ≤ 200) : PureFn Try.prog 42 [fpv c, .int .i64 (v : Int)] (.bool (holds c v)) := by
  refine PureFn.introC [20] mixed (fn := Try.f42) rfl rfl rfl fun M w0 => ?_
  (try (conv => whnf)); repeat' (first | (apply And.intro <;> (try (conv => whnf))) | (intro h; first | (with_reducible exact tf0 h) | (with_reducible exact ft0 h) | (with_reducible exact nt0 h) | (with_reducible exact nf0 h) | (exact litz h rfl) | (with_reducible exact tf h (by with_reducible assumption)) | (with_reducible exact tf (by with_reducible assumption) h) | (try (conv => whnf))) | (with_reducible rfl) | (apply True.intro) | (apply infoT; rfl) | (apply bleI; rfl) | (apply fitI; rfl) | (apply cellsI; rfl) | (apply szI; rfl) | (apply guardI; kernel_rfl) | (apply WhenQ.mk; (try (conv => whnf)); rotate_left; (try (conv => whnf)); rotate_right) | (with_reducible assumption) | (apply not_of; with_reducible assumption) | (apply left_of; with_reducible assumption) | (apply left_of; apply left_of; with_reducible assumption) | (apply and_of <;> first | (with_reducible assumption) | (apply not_of; with_reducible assumption))| (refine lin_plan (by kernel_rfl) ?_; (try (conv => whnf))) | (refine ⟨_, _, rfl, idx_map (by with_reducible assumption), rfl, ?_⟩; (try (conv => whnf))) | (refine ⟨rfl, ?_⟩; (try (conv => whnf))) | (exact Nat.le_refl 1) | ((apply ex3); (focus (with_reducible assumption)); (focus (with_reducible assumption)); (try (conv => whnf))) | ((apply ex2); (focus (with_reducible assumption)); (try (conv => whnf))) | fail)
  · rfl
  · exact Int.natCast_nonneg _
  · show _ ≤ (4294967296 : Int)
    rw [List.length_map]; omega
  have e0 : List.replicate (((c.map Nd.pv).length : Int)).toNat (PV.bool false) = bpv (half [] c.length) := by simp [bpv, half]
  rw [e0]
  refine ⟨{ i : Nat // i ≤ c.length }, fun i => [(1, .pv (i64 v)), (5, .buf 0 (bpv (half (evs (c.take i.1) v) c.length)).length), (11, .pv (fpv c)), (12, .pv (.int .i64 (c.map Nd.pv).length)), (13, .pv (i64 i.1))], fun _ => 1, fun i => [(0, .arr 1 (bpv (half (evs (c.take i.1) v) c.length)))], fun i => c.length - i.1, ⟨⟨0, Nat.zero_le _⟩, (by refine Wk.of ?_ ?_ rfl rfl rfl <;> (repeat' (first | (exact trivial) | (exact WkD.same _) | (exact WkO.same _ _ rfl) | (exact WkD.any _) | (refine WkD.int ?_) | (exact WkD.new' rfl rfl rfl) | (exact WkO.new _ _ rfl) | (refine WkO.vars rfl ?_) | (with_reducible rfl) | (exact rfl) | (refine ⟨?_, ?_⟩) | ((refine wrapA ?_ ?_ ?_); (focus (simp; done)); (focus ((try dsimp only); omega)); (focus ((try dsimp only); omega))) | fail)))⟩, ?_⟩
  rintro ⟨i, hi⟩
  (try (conv => whnf)); repeat' (first | (apply And.intro <;> (try (conv => whnf))) | (intro h; first | (with_reducible exact tf0 h) | (with_reducible exact ft0 h) | (with_reducible exact nt0 h) | (with_reducible exact nf0 h) | (exact litz h rfl) | (with_reducible exact tf h (by with_reducible assumption)) | (with_reducible exact tf (by with_reducible assumption) h) | (try (conv => whnf))) | (with_reducible rfl) | (apply True.intro) | (apply infoT; rfl) | (apply bleI; rfl) | (apply fitI; rfl) | (apply cellsI; rfl) | (apply szI; rfl) | (apply guardI; kernel_rfl) | (apply WhenQ.mk; (try (conv => whnf)); rotate_left; (try (conv => whnf)); rotate_right) | (with_reducible assumption) | (apply not_of; with_reducible assumption) | (apply left_of; with_reducible assumption) | (apply left_of; apply left_of; with_reducible assumption) | (apply and_of <;> first | (with_reducible assumption) | (apply not_of; with_reducible assumption))| (refine lin_plan (by kernel_rfl) ?_; (try (conv => whnf))) | (refine ⟨_, _, rfl, idx_map (by with_reducible assumption), rfl, ?_⟩; (try (conv => whnf))) | (refine ⟨rfl, ?_⟩; (try (conv => whnf))) | (exact Nat.le_refl 1) | ((apply ex3); (focus (with_reducible assumption)); (focus (with_reducible assumption)); (try (conv => whnf))) | ((apply ex2); (focus (with_reducible assumption)); (try (conv => whnf))) | fail)
  · have hi' : i < c.length := by simp at h; omega
    have hx : c[i]? = some c[i] := List.getElem?_eq_getElem hi'
    have hev := evs_take v hi'
    generalize c[i] = x at hx hev
    have ok := hc i x hx
    have hAl : (evs (c.take i) v).length = i := by rw [evs_len, List.length_take]; omega
    have hse : ∀ b, evN (evs (c.take i) v) x v = b → (bpv (half (evs (c.take i) v) c.length)).set i (.bool b) = bpv (half (evs (c.take i) v ++ [evN (evs (c.take i) v) x v]) c.length) := fun b hb => by
      rw [bpv_set, hb]
      have := half_set (A := evs (c.take i) v) (n := c.length) b (by omega)
      rw [hAl] at this; rw [this]
    have hln : ∀ u, (bpv (half u c.length)).length = (half u c.length).length := fun u => bpv_len _
    have hl0 : (bpv (half (evs (c.take i) v) c.length)).length = c.length := by rw [bpv_len, half_len (by omega)]
    have hl1 : (bpv (half (evs (c.take i) v ++ [evN (evs (c.take i) v) x v]) c.length)).length = c.length := by rw [bpv_len, half_len (by rw [List.length_append, hAl]; simp; omega)]
    have x0 : 0 ≤ x.x ∧ x.x.toNat < c.length := by
      cases hu : usesX x.op with
      | true => have := ok.x hu; omega
      | false => have := ok.nox hu; omega
    have y0 : 0 ≤ x.y ∧ x.y.toNat < c.length := by
      cases hu : usesY x.op with
      | true => have := ok.y hu; omega
      | false => have := ok.noy hu; omega
    have hii : (i : Int) = ((i : Nat) : Int) := rfl
    have hil : i < (bpv (half (evs (c.take i) v) c.length)).length := by rw [hl0]; exact hi'
    have hig := bpv_get (half_all (A := evs (c.take i) v) hi')
    have hxm : x.x = ((x.x.toNat : Nat) : Int) := by omega
    have hxl : x.x.toNat < (bpv (half (evs (c.take i) v) c.length)).length := by rw [hl0]; exact x0.2
    have hxg := bpv_get (half_all (A := evs (c.take i) v) x0.2)
    have hym : x.y = ((x.y.toNat : Nat) : Int) := by omega
    have hyl : x.y.toNat < (bpv (half (evs (c.take i) v) c.length)).length := by rw [hl0]; exact y0.2
    have hyg := bpv_get (half_all (A := evs (c.take i) v) y0.2)
    refine ⟨Unit, fun _ => [(1, .pv (i64 v)), (5, .buf 0 (bpv (half (evs (c.take i) v ++ [evN (evs (c.take i) v) x v]) c.length)).length), (11, .pv (fpv c)), (12, .pv (.int .i64 (c.map Nd.pv).length)), (13, .pv (i64 i))], fun _ => 1, fun _ => [(0, .arr 1 (bpv (half (evs (c.take i) v ++ [evN (evs (c.take i) v) x v]) c.length)))], ?_, ?_⟩
    · (try (conv => whnf)); repeat' (first | (apply And.intro <;> (try (conv => whnf))) | (intro h; first | (with_reducible exact tf0 h) | (with_reducible exact ft0 h) | (with_reducible exact nt0 h) | (with_reducible exact nf0 h) | (exact litz h rfl) | (with_reducible exact tf h (by with_reducible assumption)) | (with_reducible exact tf (by with_reducible assumption) h) | (try (conv => whnf))) | (with_reducible rfl) | (apply True.intro) | (apply infoT; rfl) | (apply bleI; rfl) | (apply fitI; rfl) | (apply cellsI; rfl) | (apply szI; rfl) | (apply guardI; kernel_rfl) | (apply WhenQ.mk; (try (conv => whnf)); rotate_left; (try (conv => whnf)); rotate_right) | (with_reducible assumption) | (apply not_of; with_reducible assumption) | (apply left_of; with_reducible assumption) | (apply left_of; apply left_of; with_reducible assumption) | (apply and_of <;> first | (with_reducible assumption) | (apply not_of; with_reducible assumption))| (refine ⟨_, _, rfl, idx_map (by with_reducible assumption), rfl, ?_⟩; (try (conv => whnf))) | (refine ⟨rfl, ?_⟩; (try (conv => whnf))) | (exact Nat.le_refl 1) | ((apply ex3); (focus (with_reducible assumption)); (focus (with_reducible assumption)); (try (conv => whnf))) | ((apply ex2); (focus (with_reducible assumption)); (try (conv => whnf))) | fail)
      · refine ⟨(), ?_⟩
        (refine Wk.of ?_ ?_ rfl rfl rfl <;> (repeat' (first | (exact trivial) | (exact WkD.same _) | (exact WkO.same _ _ rfl) | (exact WkD.any _) | (refine WkD.int ?_) | (exact WkD.new' rfl rfl rfl) | (exact WkO.new _ _ rfl) | (refine WkO.vars rfl ?_) | (with_reducible rfl) | (exact rfl) | (refine ⟨?_, ?_⟩) | ((refine wrapA ?_ ?_ ?_); (focus (simp; done)); (focus ((try dsimp only); omega)); (focus ((try dsimp only); omega))) | fail)))
        · exact WkD.eq (congrArg (DV.buf 0) (hl0.trans hl1.symm))
        · exact WkO.same _ _ (congrArg (fun z => some (DObj.arr 1 z)) (hse true (by unfold evN evO; rw [h]; rfl)))
      · have := ok.fact (by simpa using h)
        exact this.1
      · have hf := ok.fact (by simpa using h)
        refine ⟨(), ?_⟩
        (refine Wk.of ?_ ?_ rfl rfl rfl <;> (repeat' (first | (exact trivial) | (exact WkD.same _) | (exact WkO.same _ _ rfl) | (exact WkD.any _) | (refine WkD.int ?_) | (exact WkD.new' rfl rfl rfl) | (exact WkO.new _ _ rfl) | (refine WkO.vars rfl ?_) | (with_reducible rfl) | (exact rfl) | (refine ⟨?_, ?_⟩) | ((refine wrapA ?_ ?_ ?_); (focus (simp; done)); (focus ((try dsimp only); omega)); (focus ((try dsimp only); omega))) | fail)))
        · exact WkD.eq (congrArg (DV.buf 0) (hl0.trans hl1.symm))
        · exact WkO.same _ _ (congrArg (fun z => some (DObj.arr 1 z)) (hse _ (by
            have e : (and64 (shr64 v x.i) 1 == 1) = v.testBit x.i.toNat := by
              have := bit64_one (s := v) (v := x.i.toNat) (by omega) (by omega)
              rwa [show ((x.i.toNat : Nat) : Int) = x.i by omega] at this
            exact Eq.trans (by rename_i q1; unfold evN evO; rw [q1, h]; rfl) e.symm)))
      · refine ⟨(), ?_⟩
        (refine Wk.of ?_ ?_ rfl rfl rfl <;> (repeat' (first | (exact trivial) | (exact WkD.same _) | (exact WkO.same _ _ rfl) | (exact WkD.any _) | (refine WkD.int ?_) | (exact WkD.new' rfl rfl rfl) | (exact WkO.new _ _ rfl) | (refine WkO.vars rfl ?_) | (with_reducible rfl) | (exact rfl) | (refine ⟨?_, ?_⟩) | ((refine wrapA ?_ ?_ ?_); (focus (simp; done)); (focus ((try dsimp only); omega)); (focus ((try dsimp only); omega))) | fail)))
        · exact WkD.eq (congrArg (DV.buf 0) (hl0.trans hl1.symm))
        · exact WkO.same _ _ (congrArg (fun z => some (DObj.arr 1 z)) (hse _ (by rename_i q1 q3; unfold evN evO; rw [q1, q3, h]; rfl)))
      · refine ⟨(), ?_⟩
        (refine Wk.of ?_ ?_ rfl rfl rfl <;> (repeat' (first | (exact trivial) | (exact WkD.same _) | (exact WkO.same _ _ rfl) | (exact WkD.any _) | (refine WkD.int ?_) | (exact WkD.new' rfl rfl rfl) | (exact WkO.new _ _ rfl) | (refine WkO.vars rfl ?_) | (with_reducible rfl) | (exact rfl) | (refine ⟨?_, ?_⟩) | ((refine wrapA ?_ ?_ ?_); (focus (simp; done)); (focus ((try dsimp only); omega)); (focus ((try dsimp only); omega))) | fail)))
        · exact WkD.eq (congrArg (DV.buf 0) (hl0.trans hl1.symm))
        · exact WkO.same _ _ (congrArg (fun z => some (DObj.arr 1 z)) (hse _ (by rename_i q1 q3 q4; unfold evN evO; rw [q1, q3, q4, h]; rfl)))
      · refine ⟨(), ?_⟩
        (refine Wk.of ?_ ?_ rfl rfl rfl <;> (repeat' (first | (exact trivial) | (exact WkD.same _) | (exact WkO.same _ _ rfl) | (exact WkD.any _) | (refine WkD.int ?_) | (exact WkD.new' rfl rfl rfl) | (exact WkO.new _ _ rfl) | (refine WkO.vars rfl ?_) | (with_reducible rfl) | (exact rfl) | (refine ⟨?_, ?_⟩) | ((refine wrapA ?_ ?_ ?_); (focus (simp; done)); (focus ((try dsimp only); omega)); (focus ((try dsimp only); omega))) | fail)))
        · exact WkD.eq (congrArg (DV.buf 0) (hl0.trans hl1.symm))
        · exact WkO.same _ _ (congrArg (fun z => some (DObj.arr 1 z)) (hse _ (by rename_i q1 q3 q4 q5; unfold evN evO; rw [q1, q3, q4, q5, h]; rfl)))
      · refine ⟨(), ?_⟩
        (refine Wk.of ?_ ?_ rfl rfl rfl <;> (repeat' (first | (exact trivial) | (exact WkD.same _) | (exact WkO.same _ _ rfl) | (exact WkD.any _) | (refine WkD.int ?_) | (exact WkD.new' rfl rfl rfl) | (exact WkO.new _ _ rfl) | (refine WkO.vars rfl ?_) | (with_reducible rfl) | (exact rfl) | (refine ⟨?_, ?_⟩) | ((refine wrapA ?_ ?_ ?_); (focus (simp; done)); (focus ((try dsimp only); omega)); (focus ((try dsimp only); omega))) | fail)))
        · exact WkD.eq (congrArg (DV.buf 0) (hl0.trans hl1.symm))
        · exact WkO.same _ _ (congrArg (fun z => some (DObj.arr 1 z)) (hse _ (by rename_i q1 q3 q4 q5 q6; unfold evN evO; rw [q1, q3, q4, q5, q6, h]; rfl)))
      · refine ⟨Plan.lin 0 15, [14], by kernel_rfl, ?_⟩
        (try (conv => whnf)); repeat' (first | (apply And.intro <;> (try (conv => whnf))) | (intro h; first | (with_reducible exact tf0 h) | (with_reducible exact ft0 h) | (with_reducible exact nt0 h) | (with_reducible exact nf0 h) | (exact litz h rfl) | (with_reducible exact tf h (by with_reducible assumption)) | (with_reducible exact tf (by with_reducible assumption) h) | (try (conv => whnf))) | (with_reducible rfl) | (apply True.intro) | (apply infoT; rfl) | (apply bleI; rfl) | (apply fitI; rfl) | (apply cellsI; rfl) | (apply szI; rfl) | (apply guardI; kernel_rfl) | (apply WhenQ.mk; (try (conv => whnf)); rotate_left; (try (conv => whnf)); rotate_right) | (with_reducible assumption) | (apply not_of; with_reducible assumption) | (apply left_of; with_reducible assumption) | (apply left_of; apply left_of; with_reducible assumption) | (apply and_of <;> first | (with_reducible assumption) | (apply not_of; with_reducible assumption))| (refine lin_plan (by kernel_rfl) ?_; (try (conv => whnf))) | (refine ⟨_, _, rfl, idx_map (by with_reducible assumption), rfl, ?_⟩; (try (conv => whnf))) | (refine ⟨rfl, ?_⟩; (try (conv => whnf))) | (exact Nat.le_refl 1) | ((apply ex3); (focus (with_reducible assumption)); (focus (with_reducible assumption)); (try (conv => whnf))) | ((apply ex2); (focus (with_reducible assumption)); (try (conv => whnf))) | fail)
        refine ⟨(), ?_⟩
        (refine Wk.of ?_ ?_ rfl rfl rfl <;> (repeat' (first | (exact trivial) | (exact WkD.same _) | (exact WkO.same _ _ rfl) | (exact WkD.any _) | (refine WkD.int ?_) | (exact WkD.new' rfl rfl rfl) | (exact WkO.new _ _ rfl) | (refine WkO.vars rfl ?_) | (with_reducible rfl) | (exact rfl) | (refine ⟨?_, ?_⟩) | ((refine wrapA ?_ ?_ ?_); (focus (simp; done)); (focus ((try dsimp only); omega)); (focus ((try dsimp only); omega))) | fail)))
        · exact WkD.eq (congrArg (DV.buf 0) (hl0.trans hl1.symm))
        · exact WkO.same _ _ (congrArg (fun z => some (DObj.arr 1 z)) (hse _ (by rename_i q1 q3 q4 q5 q6 q7; unfold evN evO; rw [q1, q3, q4, q5, q6, q7, h]; rfl)))
      · have hz : evN (evs (c.take i) v) x v = false := by rename_i q1 q3 q4 q5 q6 q7; unfold evN evO; rw [q1, q3, q4, q5, q6, q7, h]; rfl
        have hsk := half_skip (A := evs (c.take i) v) (n := c.length) (by omega)
        rw [hz, ← hsk]
        exact ⟨(), (by refine Wk.of ?_ ?_ rfl rfl rfl <;> (repeat' (first | (exact trivial) | (exact WkD.same _) | (exact WkO.same _ _ rfl) | (exact WkD.any _) | (refine WkD.int ?_) | (exact WkD.new' rfl rfl rfl) | (exact WkO.new _ _ rfl) | (refine WkO.vars rfl ?_) | (with_reducible rfl) | (exact rfl) | (refine ⟨?_, ?_⟩) | ((refine wrapA ?_ ?_ ?_); (focus (simp; done)); (focus ((try dsimp only); omega)); (focus ((try dsimp only); omega))) | fail)))⟩
    · rintro ⟨⟩
      (try (conv => whnf)); repeat' (first | (apply And.intro <;> (try (conv => whnf))) | (intro h; first | (with_reducible exact tf0 h) | (with_reducible exact ft0 h) | (with_reducible exact nt0 h) | (with_reducible exact nf0 h) | (exact litz h rfl) | (with_reducible exact tf h (by with_reducible assumption)) | (with_reducible exact tf (by with_reducible assumption) h) | (try (conv => whnf))) | (with_reducible rfl) | (apply True.intro) | (apply infoT; rfl) | (apply bleI; rfl) | (apply fitI; rfl) | (apply cellsI; rfl) | (apply szI; rfl) | (apply guardI; kernel_rfl) | (apply WhenQ.mk; (try (conv => whnf)); rotate_left; (try (conv => whnf)); rotate_right) | (with_reducible assumption) | (apply not_of; with_reducible assumption) | (apply left_of; with_reducible assumption) | (apply left_of; apply left_of; with_reducible assumption) | (apply and_of <;> first | (with_reducible assumption) | (apply not_of; with_reducible assumption))| (refine lin_plan (by kernel_rfl) ?_; (try (conv => whnf))) | (refine ⟨_, _, rfl, idx_map (by with_reducible assumption), rfl, ?_⟩; (try (conv => whnf))) | (refine ⟨rfl, ?_⟩; (try (conv => whnf))) | (exact Nat.le_refl 1) | ((apply ex3); (focus (with_reducible assumption)); (focus (with_reducible assumption)); (try (conv => whnf))) | ((apply ex2); (focus (with_reducible assumption)); (try (conv => whnf))) | fail)
      refine ⟨⟨i + 1, hi'⟩, by show c.length - (i + 1) < c.length - i; omega, ?_⟩
      (refine Wk.of ?_ ?_ rfl rfl rfl <;> (repeat' (first | (exact trivial) | (exact WkD.same _) | (exact WkO.same _ _ rfl) | (exact WkD.any _) | (refine WkD.int ?_) | (exact WkD.new' rfl rfl rfl) | (exact WkO.new _ _ rfl) | (refine WkO.vars rfl ?_) | (with_reducible rfl) | (exact rfl) | (refine ⟨?_, ?_⟩) | ((refine wrapA ?_ ?_ ?_); (focus (simp; done)); (focus ((try dsimp only); omega)); (focus ((try dsimp only); omega))) | fail)))
      · exact WkD.eq (congrArg (fun z => DV.buf 0 (bpv (half z c.length)).length) hev.symm)
      · exact WkO.same _ _ (congrArg (fun z => some (DObj.arr 1 (bpv (half z c.length)))) hev.symm)
  · have hi' : i = c.length := by simp at h; omega
    subst hi'
    have hl : (evs (c.take c.length) v).length = c.length := by rw [evs_len, List.length_take]; omega
    have hl0 : (bpv (half (evs (c.take c.length) v) c.length)).length = c.length := by rw [bpv_len, half_len (by omega)]
    refine ⟨c.length - 1, by rw [hl0]; exact wrapA (by omega) (by omega) (by omega), by rw [hl0]; omega, ?_⟩
    have hg := bpv_get (half_all (A := evs (c.take c.length) v) (n := c.length) (k := c.length - 1) (by omega))
    (try (conv => whnf)); repeat' (first | (apply And.intro <;> (try (conv => whnf))) | (intro h; first | (with_reducible exact tf0 h) | (with_reducible exact ft0 h) | (with_reducible exact nt0 h) | (with_reducible exact nf0 h) | (exact litz h rfl) | (with_reducible exact tf h (by with_reducible assumption)) | (with_reducible exact tf (by with_reducible assumption) h) | (try (conv => whnf))) | (with_reducible rfl) | (apply True.intro) | (apply infoT; rfl) | (apply bleI; rfl) | (apply fitI; rfl) | (apply cellsI; rfl) | (apply szI; rfl) | (apply guardI; kernel_rfl) | (apply WhenQ.mk; (try (conv => whnf)); rotate_left; (try (conv => whnf)); rotate_right) | (with_reducible assumption) | (apply not_of; with_reducible assumption) | (apply left_of; with_reducible assumption) | (apply left_of; apply left_of; with_reducible assumption) | (apply and_of <;> first | (with_reducible assumption) | (apply not_of; with_reducible assumption))| (refine lin_plan (by kernel_rfl) ?_; (try (conv => whnf))) | (refine ⟨_, _, rfl, idx_map (by with_reducible assumption), rfl, ?_⟩; (try (conv => whnf))) | (refine ⟨rfl, ?_⟩; (try (conv => whnf))) | (exact Nat.le_refl 1) | ((apply ex3); (focus (with_reducible assumption)); (focus (with_reducible assumption)); (try (conv => whnf))) | ((apply ex2); (focus (with_reducible assumption)); (try (conv => whnf))) | fail)
    exact le_bool (by rw [List.take_length]; rfl)
end Go.Proofs.Ythnfbkplkheliaa
set_option maxRecDepth 100000
set_option maxHeartbeats 4000000
namespace Go.Proofs.Ythnfbkplkheliaa
open Go Go.Dv

theorem holds_last {c : List Nd} {v : Nat} (h1 : 1 ≤ c.length) : (evs c v)[c.length - 1]? = some (holds c v) := by
  rw [holds, List.getD_eq_getElem?_getD, List.getElem?_eq_getElem (by rw [evs_len]; omega)]; rfl
theorem bpv_snoc (A : List Bool) (b : Bool) : bpv A ++ [PV.bool b] = bpv (A ++ [b]) := by simp [bpv]
theorem OkNd.fact3 {x : Nd} {k : Int} (ok : OkNd x k) (h : (x.op == 3) = true) : 0 ≤ x.i := (ok.fact (by simpa using h)).1
theorem OkNd.bit3 {x : Nd} {k : Int} {v : Nat} (ok : OkNd x k) (h : (x.op == 3) = true) : ((shr64 v x.i).tmod 2 == 1) = v.testBit x.i.toNat := by
  have hf := ok.fact (by simpa using h)
  have := bit64_r (s := v) (v := x.i.toNat) (by omega)
  rwa [show ((x.i.toNat : Nat) : Int) = x.i by omega] at this
theorem rb_True (f : List Nd) (v : Nat) (hcf : check f = 0) : PureFn Try.prog 46 [fpv f, .int .i64 (v : Int)] (.bool (holds (comp f) v)) := by
  refine PureFn.introC [9, 11, 14, 16, 18, 20, 22, 24, 25] mixed (fn := Try.f46) rfl rfl rfl fun M w0 => ?_
  have hCo := ref_Compact f
  have hc := comp_okl f
  have h1 := comp_pos hcf
  have h2 := comp_len f
  generalize comp f = c at hCo hc h1 h2 ⊢
  (try (conv => whnf)); repeat' (first | (apply And.intro <;> (try (conv => whnf))) | (intro h; first | (with_reducible exact tf0 h) | (with_reducible exact ft0 h) | (with_reducible exact nt0 h) | (with_reducible exact nf0 h) | (exact litz h rfl) | (with_reducible exact tf h (by with_reducible assumption)) | (with_reducible exact tf (by with_reducible assumption) h) | (try (conv => whnf))) | (with_reducible rfl) | (apply True.intro) | (apply infoT; rfl) | (apply bleI; rfl) | (apply fitI; rfl) | (apply cellsI; rfl) | (apply szI; rfl) | (apply guardI; kernel_rfl) | (apply WhenQ.mk; (try (conv => whnf)); rotate_left; (try (conv => whnf)); rotate_right) | (with_reducible assumption) | (apply not_of; with_reducible assumption) | (apply left_of; with_reducible assumption) | (apply left_of; apply left_of; with_reducible assumption) | (apply and_of <;> first | (with_reducible assumption) | (apply not_of; with_reducible assumption))| (refine lin_plan (by kernel_rfl) ?_; (try (conv => whnf))) | (refine ⟨_, _, rfl, idx_map (by with_reducible assumption), rfl, ?_⟩; (try (conv => whnf))) | (refine ⟨rfl, ?_⟩; (try (conv => whnf))) | (exact Nat.le_refl 1) | ((apply ex3); (focus (with_reducible assumption)); (focus (with_reducible assumption)); (try (conv => whnf))) | ((apply ex2); (focus (with_reducible assumption)); (try (conv => whnf))) | (refine PureFn.dcq (f := 70) rfl ?_; (try (conv => whnf))) | ((refine ⟨_, _, hCo, ?_, ?_⟩); (focus (first | (refine ⟨?_, trivial⟩ <;> first | (exact PLe.refl _) | (exact PLe.nil)) | (exact trivial))); (try (conv => whnf))) | (refine ⟨_, (by (conv => whnf); exact hCo), rfl, ?_⟩; (try (conv => whnf))) | fail)
  refine ⟨Unit, fun _ => [(6, .buf 0 (bpv (evs c v)).length)], fun _ => 1, fun _ => [(0, .arr 1 (bpv (evs c v)))], ?_, ?_⟩
  · refine ⟨{ i : Nat // i ≤ c.length }, fun i => [(1, .pv (i64 v)), (5, .pv (fpv c)), (6, .buf 0 (bpv (evs (c.take i.1) v)).length), (7, .pv (i64 i.1))], fun _ => 1, fun i => [(0, .arr 1 (bpv (evs (c.take i.1) v)))], fun i => c.length - i.1, ⟨⟨0, Nat.zero_le _⟩, (by refine Wk.of ?_ ?_ rfl rfl rfl <;> (repeat' (first | (exact trivial) | (exact WkD.same _) | (exact WkO.same _ _ rfl) | (exact WkD.any _) | (refine WkD.int ?_) | (exact WkD.new' rfl rfl rfl) | (exact WkO.new _ _ rfl) | (refine WkO.vars rfl ?_) | (with_reducible rfl) | (exact rfl) | (refine ⟨?_, ?_⟩) | ((refine wrapA ?_ ?_ ?_); (focus (simp; done)); (focus ((try dsimp only); omega)); (focus ((try dsimp only); omega))) | fail)))⟩, ?_⟩
    rintro ⟨i, hi⟩
    (try (conv => whnf)); repeat' (first | (apply And.intro <;> (try (conv => whnf))) | (intro h; first | (with_reducible exact tf0 h) | (with_reducible exact ft0 h) | (with_reducible exact nt0 h) | (with_reducible exact nf0 h) | (exact litz h rfl) | (with_reducible exact tf h (by with_reducible assumption)) | (with_reducible exact tf (by with_reducible assumption) h) | (try (conv => whnf))) | (with_reducible rfl) | (apply True.intro) | (apply infoT; rfl) | (apply bleI; rfl) | (apply fitI; rfl) | (apply cellsI; rfl) | (apply szI; rfl) | (apply guardI; kernel_rfl) | (apply WhenQ.mk; (try (conv => whnf)); rotate_left; (try (conv => whnf)); rotate_right) | (with_reducible assumption) | (apply not_of; with_reducible assumption) | (apply left_of; with_reducible assumption) | (apply left_of; apply left_of; with_reducible assumption) | (apply and_of <;> first | (with_reducible assumption) | (apply not_of; with_reducible assumption))| (refine lin_plan (by kernel_rfl) ?_; (try (conv => whnf))) | (refine ⟨_, _, rfl, idx_map (by with_reducible assumption), rfl, ?_⟩; (try (conv => whnf))) | (refine ⟨rfl, ?_⟩; (try (conv => whnf))) | (exact Nat.le_refl 1) | ((apply ex3); (focus (with_reducible assumption)); (focus (with_reducible assumption)); (try (conv => whnf))) | ((apply ex2); (focus (with_reducible assumption)); (try (conv => whnf))) | fail)
    · have hi' : i < c.length := by simp at h; omega
      have hn : c[i]? = some c[i] := List.getElem?_eq_getElem hi'
      have hev := evs_take v hi'
      generalize c[i] = x at hn hev
      have ok := hc i x hn
      have hAl : (evs (c.take i) v).length = i := by rw [evs_len, List.length_take]; omega
      have hgx : usesX x.op = true → x.x = ((x.x.toNat : Nat) : Int) ∧ x.x.toNat < (bpv (evs (c.take i) v)).length ∧ (bpv (evs (c.take i) v))[x.x.toNat]? = some (.bool ((evs (c.take i) v).getD x.x.toNat false)) := fun hu => by
        have := ok.x hu
        refine ⟨by omega, by rw [bpv_len]; omega, bpv_get ?_⟩
        rw [List.getD_eq_getElem?_getD, List.getElem?_eq_getElem (by omega)]; rfl
      have hgy : usesY x.op = true → x.y = ((x.y.toNat : Nat) : Int) ∧ x.y.toNat < (bpv (evs (c.take i) v)).length ∧ (bpv (evs (c.take i) v))[x.y.toNat]? = some (.bool ((evs (c.take i) v).getD x.y.toNat false)) := fun hu => by
        have := ok.y hu
        refine ⟨by omega, by rw [bpv_len]; omega, bpv_get ?_⟩
        rw [List.getD_eq_getElem?_getD, List.getElem?_eq_getElem (by omega)]; rfl
      have hT := evR_eq x.op (v.testBit x.i.toNat) (bif usesX x.op then (evs (c.take i) v).getD x.x.toNat false else false) (bif usesY x.op then (evs (c.take i) v).getD x.y.toNat false else false)
      rw [evO_uses] at hT
      change _ = evN (evs (c.take i) v) x v at hT
      (try (conv => whnf)); repeat' (first | (apply And.intro <;> (try (conv => whnf))) | (intro h; first | (with_reducible exact tf0 h) | (with_reducible exact ft0 h) | (with_reducible exact nt0 h) | (with_reducible exact nf0 h) | (exact litz h rfl) | (with_reducible exact tf h (by with_reducible assumption)) | (with_reducible exact tf (by with_reducible assumption) h) | (try (conv => whnf))) | (with_reducible rfl) | (apply True.intro) | (apply infoT; rfl) | (apply bleI; rfl) | (apply fitI; rfl) | (apply cellsI; rfl) | (apply szI; rfl) | (apply guardI; kernel_rfl) | (apply WhenQ.mk; (try (conv => whnf)); rotate_left; (try (conv => whnf)); rotate_right) | (with_reducible assumption) | (apply not_of; with_reducible assumption) | (apply left_of; with_reducible assumption) | (apply left_of; apply left_of; with_reducible assumption) | (apply and_of <;> first | (with_reducible assumption) | (apply not_of; with_reducible assumption))| (refine lin_plan (by kernel_rfl) ?_; (try (conv => whnf))) | (refine ⟨_, _, rfl, idx_map (by with_reducible assumption), rfl, ?_⟩; (try (conv => whnf))) | (refine ⟨rfl, ?_⟩; (try (conv => whnf))) | (exact Nat.le_refl 1) | ((apply ex3); (focus (with_reducible assumption)); (focus (with_reducible assumption)); (try (conv => whnf))) | ((apply ex2); (focus (with_reducible assumption)); (try (conv => whnf))) | fail)
      refine ⟨Unit, fun _ => [(1, .pv (i64 v)), (5, .pv (fpv c)), (6, .buf 0 (bpv (evs (c.take i) v)).length), (7, .pv (i64 i)), (8, .pv (.bool (bif usesX x.op then (evs (c.take i) v).getD x.x.toNat false else false))), (9, .pv (.bool false))], fun _ => 1, fun _ => [(0, .arr 1 (bpv (evs (c.take i) v)))], ?_, ?_⟩
      · (try (conv => whnf)); repeat' (first | (apply And.intro <;> (try (conv => whnf))) | (intro h; first | (with_reducible exact tf0 h) | (with_reducible exact ft0 h) | (with_reducible exact nt0 h) | (with_reducible exact nf0 h) | (exact litz h rfl) | (with_reducible exact tf h (by with_reducible assumption)) | (with_reducible exact tf (by with_reducible assumption) h) | (try (conv => whnf))) | (with_reducible rfl) | (apply True.intro) | (apply infoT; rfl) | (apply bleI; rfl) | (apply fitI; rfl) | (apply cellsI; rfl) | (apply szI; rfl) | (apply guardI; kernel_rfl) | (apply WhenQ.mk; (try (conv => whnf)); rotate_left; (try (conv => whnf)); rotate_right) | (with_reducible assumption) | (apply not_of; with_reducible assumption) | (apply left_of; with_reducible assumption) | (apply left_of; apply left_of; with_reducible assumption) | (apply and_of <;> first | (with_reducible assumption) | (apply not_of; with_reducible assumption))| (refine lin_plan (by kernel_rfl) ?_; (try (conv => whnf))) | (refine ⟨_, _, rfl, idx_map (by with_reducible assumption), rfl, ?_⟩; (try (conv => whnf))) | (refine ⟨rfl, ?_⟩; (try (conv => whnf))) | (exact Nat.le_refl 1) | ((apply ex3); (focus (with_reducible assumption)); (focus (with_reducible assumption)); (try (conv => whnf))) | ((apply ex2); (focus (with_reducible assumption)); (try (conv => whnf))) | (refine PureFn.dcq (f := 74) rfl ?_; (try (conv => whnf))) | ((refine ⟨_, _, ref_UsesX ?_, ?_, ?_⟩); rotate_left 1; (focus (first | (refine ⟨?_, trivial⟩ <;> first | (exact PLe.refl _) | (exact PLe.nil)) | (exact trivial))); (try (conv => whnf))) | (refine ⟨_, (by (conv => whnf); exact ref_UsesX _), rfl, ?_⟩; (try (conv => whnf))) | fail)
        · have hu : usesX x.op = true := h
          obtain ⟨q1, q2, q3⟩ := hgx hu
          (try (conv => whnf)); repeat' (first | (apply And.intro <;> (try (conv => whnf))) | (intro h; first | (with_reducible exact tf0 h) | (with_reducible exact ft0 h) | (with_reducible exact nt0 h) | (with_reducible exact nf0 h) | (exact litz h rfl) | (with_reducible exact tf h (by with_reducible assumption)) | (with_reducible exact tf (by with_reducible assumption) h) | (try (conv => whnf))) | (with_reducible rfl) | (apply True.intro) | (apply infoT; rfl) | (apply bleI; rfl) | (apply fitI; rfl) | (apply cellsI; rfl) | (apply szI; rfl) | (apply guardI; kernel_rfl) | (apply WhenQ.mk; (try (conv => whnf)); rotate_left; (try (conv => whnf)); rotate_right) | (with_reducible assumption) | (apply not_of; with_reducible assumption) | (apply left_of; with_reducible assumption) | (apply left_of; apply left_of; with_reducible assumption) | (apply and_of <;> first | (with_reducible assumption) | (apply not_of; with_reducible assumption))| (refine lin_plan (by kernel_rfl) ?_; (try (conv => whnf))) | (refine ⟨_, _, rfl, idx_map (by with_reducible assumption), rfl, ?_⟩; (try (conv => whnf))) | (refine ⟨rfl, ?_⟩; (try (conv => whnf))) | (exact Nat.le_refl 1) | ((apply ex3); (focus (with_reducible assumption)); (focus (with_reducible assumption)); (try (conv => whnf))) | ((apply ex2); (focus (with_reducible assumption)); (try (conv => whnf))) | fail)
          rw [hu]
          exact ⟨(), (by refine Wk.of ?_ ?_ rfl rfl rfl <;> (repeat' (first | (exact trivial) | (exact WkD.same _) | (exact WkO.same _ _ rfl) | (exact WkD.any _) | (refine WkD.int ?_) | (exact WkD.new' rfl rfl rfl) | (exact WkO.new _ _ rfl) | (refine WkO.vars rfl ?_) | (with_reducible rfl) | (exact rfl) | (refine ⟨?_, ?_⟩) | ((refine wrapA ?_ ?_ ?_); (focus (simp; done)); (focus ((try dsimp only); omega)); (focus ((try dsimp only); omega))) | fail)))⟩
        · have hu : usesX x.op = false := h
          rw [hu]
          exact ⟨(), (by refine Wk.of ?_ ?_ rfl rfl rfl <;> (repeat' (first | (exact trivial) | (exact WkD.same _) | (exact WkO.same _ _ rfl) | (exact WkD.any _) | (refine WkD.int ?_) | (exact WkD.new' rfl rfl rfl) | (exact WkO.new _ _ rfl) | (refine WkO.vars rfl ?_) | (with_reducible rfl) | (exact rfl) | (refine ⟨?_, ?_⟩) | ((refine wrapA ?_ ?_ ?_); (focus (simp; done)); (focus ((try dsimp only); omega)); (focus ((try dsimp only); omega))) | fail)))⟩
      rintro ⟨⟩
      generalize (bif usesX x.op then (evs (c.take i) v).getD x.x.toNat false else false) = a at hT ⊢
      refine ⟨Unit, fun _ => [(1, .pv (i64 v)), (5, .pv (fpv c)), (6, .buf 0 (bpv (evs (c.take i) v)).length), (7, .pv (i64 i)), (8, .pv (.bool a)), (9, .pv (.bool (bif usesY x.op then (evs (c.take i) v).getD x.y.toNat false else false)))], fun _ => 1, fun _ => [(0, .arr 1 (bpv (evs (c.take i) v)))], ?_, ?_⟩
      · (try (conv => whnf)); repeat' (first | (apply And.intro <;> (try (conv => whnf))) | (intro h; first | (with_reducible exact tf0 h) | (with_reducible exact ft0 h) | (with_reducible exact nt0 h) | (with_reducible exact nf0 h) | (exact litz h rfl) | (with_reducible exact tf h (by with_reducible assumption)) | (with_reducible exact tf (by with_reducible assumption) h) | (try (conv => whnf))) | (with_reducible rfl) | (apply True.intro) | (apply infoT; rfl) | (apply bleI; rfl) | (apply fitI; rfl) | (apply cellsI; rfl) | (apply szI; rfl) | (apply guardI; kernel_rfl) | (apply WhenQ.mk; (try (conv => whnf)); rotate_left; (try (conv => whnf)); rotate_right) | (with_reducible assumption) | (apply not_of; with_reducible assumption) | (apply left_of; with_reducible assumption) | (apply left_of; apply left_of; with_reducible assumption) | (apply and_of <;> first | (with_reducible assumption) | (apply not_of; with_reducible assumption))| (refine lin_plan (by kernel_rfl) ?_; (try (conv => whnf))) | (refine ⟨_, _, rfl, idx_map (by with_reducible assumption), rfl, ?_⟩; (try (conv => whnf))) | (refine ⟨rfl, ?_⟩; (try (conv => whnf))) | (exact Nat.le_refl 1) | ((apply ex3); (focus (with_reducible assumption)); (focus (with_reducible assumption)); (try (conv => whnf))) | ((apply ex2); (focus (with_reducible assumption)); (try (conv => whnf))) | (refine PureFn.dcq (f := 75) rfl ?_; (try (conv => whnf))) | ((refine ⟨_, _, ref_UsesY ?_, ?_, ?_⟩); rotate_left 1; (focus (first | (refine ⟨?_, trivial⟩ <;> first | (exact PLe.refl _) | (exact PLe.nil)) | (exact trivial))); (try (conv => whnf))) | (refine ⟨_, (by (conv => whnf); exact ref_UsesY _), rfl, ?_⟩; (try (conv => whnf))) | fail)
        · have hu : usesY x.op = true := h
          obtain ⟨q1, q2, q3⟩ := hgy hu
          (try (conv => whnf)); repeat' (first | (apply And.intro <;> (try (conv => whnf))) | (intro h; first | (with_reducible exact tf0 h) | (with_reducible exact ft0 h) | (with_reducible exact nt0 h) | (with_reducible exact nf0 h) | (exact litz h rfl) | (with_reducible exact tf h (by with_reducible assumption)) | (with_reducible exact tf (by with_reducible assumption) h) | (try (conv => whnf))) | (with_reducible rfl) | (apply True.intro) | (apply infoT; rfl) | (apply bleI; rfl) | (apply fitI; rfl) | (apply cellsI; rfl) | (apply szI; rfl) | (apply guardI; kernel_rfl) | (apply WhenQ.mk; (try (conv => whnf)); rotate_left; (try (conv => whnf)); rotate_right) | (with_reducible assumption) | (apply not_of; with_reducible assumption) | (apply left_of; with_reducible assumption) | (apply left_of; apply left_of; with_reducible assumption) | (apply and_of <;> first | (with_reducible assumption) | (apply not_of; with_reducible assumption))| (refine lin_plan (by kernel_rfl) ?_; (try (conv => whnf))) | (refine ⟨_, _, rfl, idx_map (by with_reducible assumption), rfl, ?_⟩; (try (conv => whnf))) | (refine ⟨rfl, ?_⟩; (try (conv => whnf))) | (exact Nat.le_refl 1) | ((apply ex3); (focus (with_reducible assumption)); (focus (with_reducible assumption)); (try (conv => whnf))) | ((apply ex2); (focus (with_reducible assumption)); (try (conv => whnf))) | fail)
          rw [hu]
          exact ⟨(), (by refine Wk.of ?_ ?_ rfl rfl rfl <;> (repeat' (first | (exact trivial) | (exact WkD.same _) | (exact WkO.same _ _ rfl) | (exact WkD.any _) | (refine WkD.int ?_) | (exact WkD.new' rfl rfl rfl) | (exact WkO.new _ _ rfl) | (refine WkO.vars rfl ?_) | (with_reducible rfl) | (exact rfl) | (refine ⟨?_, ?_⟩) | ((refine wrapA ?_ ?_ ?_); (focus (simp; done)); (focus ((try dsimp only); omega)); (focus ((try dsimp only); omega))) | fail)))⟩
        · have hu : usesY x.op = false := h
          rw [hu]
          exact ⟨(), (by refine Wk.of ?_ ?_ rfl rfl rfl <;> (repeat' (first | (exact trivial) | (exact WkD.same _) | (exact WkO.same _ _ rfl) | (exact WkD.any _) | (refine WkD.int ?_) | (exact WkD.new' rfl rfl rfl) | (exact WkO.new _ _ rfl) | (refine WkO.vars rfl ?_) | (with_reducible rfl) | (exact rfl) | (refine ⟨?_, ?_⟩) | ((refine wrapA ?_ ?_ ?_); (focus (simp; done)); (focus ((try dsimp only); omega)); (focus ((try dsimp only); omega))) | fail)))⟩
      rintro ⟨⟩
      generalize (bif usesY x.op then (evs (c.take i) v).getD x.y.toNat false else false) = b at hT ⊢
      rw [evR] at hT
      (try (conv => whnf)); repeat' (first | (apply And.intro <;> (try (conv => whnf))) | (intro h; first | (with_reducible exact tf0 h) | (with_reducible exact ft0 h) | (with_reducible exact nt0 h) | (with_reducible exact nf0 h) | (exact litz h rfl) | (with_reducible exact tf h (by with_reducible assumption)) | (with_reducible exact tf (by with_reducible assumption) h) | (try (conv => whnf))) | (with_reducible rfl) | (apply True.intro) | (apply infoT; rfl) | (apply bleI; rfl) | (apply fitI; rfl) | (apply cellsI; rfl) | (apply szI; rfl) | (apply guardI; kernel_rfl) | (apply WhenQ.mk; (try (conv => whnf)); rotate_left; (try (conv => whnf)); rotate_right) | (with_reducible assumption) | (apply not_of; with_reducible assumption) | (apply left_of; with_reducible assumption) | (apply left_of; apply left_of; with_reducible assumption) | (apply and_of <;> first | (with_reducible assumption) | (apply not_of; with_reducible assumption))| (refine lin_plan (by kernel_rfl) ?_; (try (conv => whnf))) | (refine ⟨_, _, rfl, idx_map (by with_reducible assumption), rfl, ?_⟩; (try (conv => whnf))) | (refine ⟨rfl, ?_⟩; (try (conv => whnf))) | (exact Nat.le_refl 1) | ((apply ex3); (focus (with_reducible assumption)); (focus (with_reducible assumption)); (try (conv => whnf))) | ((apply ex2); (focus (with_reducible assumption)); (try (conv => whnf))) | fail)
      generalize (x.op == 1) = t1 at hT ⊢
      refine ⟨Unit, fun _ => [(1, .pv (i64 v)), (5, .pv (fpv c)), (6, .buf 0 (bpv (evs (c.take i) v)).length), (7, .pv (i64 i)), (8, .pv (.bool a)), (9, .pv (.bool b)), (10, .pv (.bool (bif x.op == 3 then v.testBit x.i.toNat else t1)))], fun _ => 1, fun _ => [(0, .arr 1 (bpv (evs (c.take i) v)))], ?_, ?_⟩
      · (try (conv => whnf)); repeat' (first | (apply And.intro <;> (try (conv => whnf))) | (intro h; first | (with_reducible exact tf0 h) | (with_reducible exact ft0 h) | (with_reducible exact nt0 h) | (with_reducible exact nf0 h) | (exact litz h rfl) | (with_reducible exact tf h (by with_reducible assumption)) | (with_reducible exact tf (by with_reducible assumption) h) | (try (conv => whnf))) | (with_reducible rfl) | (apply True.intro) | (apply infoT; rfl) | (apply bleI; rfl) | (apply fitI; rfl) | (apply cellsI; rfl) | (apply szI; rfl) | (apply guardI; kernel_rfl) | (apply WhenQ.mk; (try (conv => whnf)); rotate_left; (try (conv => whnf)); rotate_right) | (with_reducible assumption) | (apply not_of; with_reducible assumption) | (apply left_of; with_reducible assumption) | (apply left_of; apply left_of; with_reducible assumption) | (apply and_of <;> first | (with_reducible assumption) | (apply not_of; with_reducible assumption))| (refine lin_plan (by kernel_rfl) ?_; (try (conv => whnf))) | (refine ⟨_, _, rfl, idx_map (by with_reducible assumption), rfl, ?_⟩; (try (conv => whnf))) | (refine ⟨rfl, ?_⟩; (try (conv => whnf))) | (exact Nat.le_refl 1) | ((apply ex3); (focus (with_reducible assumption)); (focus (with_reducible assumption)); (try (conv => whnf))) | ((apply ex2); (focus (with_reducible assumption)); (try (conv => whnf))) | fail)
        any_goals exact ok.fact3 h
        · rw [h]
          refine ⟨(), ?_⟩
          (refine Wk.of ?_ ?_ rfl rfl rfl <;> (repeat' (first | (exact trivial) | (exact WkD.same _) | (exact WkO.same _ _ rfl) | (exact WkD.any _) | (refine WkD.int ?_) | (exact WkD.new' rfl rfl rfl) | (exact WkO.new _ _ rfl) | (refine WkO.vars rfl ?_) | (with_reducible rfl) | (exact rfl) | (refine ⟨?_, ?_⟩) | ((refine wrapA ?_ ?_ ?_); (focus (simp; done)); (focus ((try dsimp only); omega)); (focus ((try dsimp only); omega))) | fail)))
          all_goals exact WkD.eq (congrArg (fun z => DV.pv (PV.bool z)) (ok.bit3 h))
        · rw [h]
          exact ⟨(), (by refine Wk.of ?_ ?_ rfl rfl rfl <;> (repeat' (first | (exact trivial) | (exact WkD.same _) | (exact WkO.same _ _ rfl) | (exact WkD.any _) | (refine WkD.int ?_) | (exact WkD.new' rfl rfl rfl) | (exact WkO.new _ _ rfl) | (refine WkO.vars rfl ?_) | (with_reducible rfl) | (exact rfl) | (refine ⟨?_, ?_⟩) | ((refine wrapA ?_ ?_ ?_); (focus (simp; done)); (focus ((try dsimp only); omega)); (focus ((try dsimp only); omega))) | fail)))⟩
      rintro ⟨⟩
      generalize (bif x.op == 3 then v.testBit x.i.toNat else t1) = t3 at hT ⊢
      refine ⟨Unit, fun _ => [(1, .pv (i64 v)), (5, .pv (fpv c)), (6, .buf 0 (bpv (evs (c.take i) v)).length), (7, .pv (i64 i)), (8, .pv (.bool a)), (9, .pv (.bool b)), (10, .pv (.bool (bif x.op == 4 then !a else t3)))], fun _ => 1, fun _ => [(0, .arr 1 (bpv (evs (c.take i) v)))], ?_, ?_⟩
      · (try (conv => whnf)); repeat' (first | (apply And.intro <;> (try (conv => whnf))) | (intro h; first | (with_reducible exact tf0 h) | (with_reducible exact ft0 h) | (with_reducible exact nt0 h) | (with_reducible exact nf0 h) | (exact litz h rfl) | (with_reducible exact tf h (by with_reducible assumption)) | (with_reducible exact tf (by with_reducible assumption) h) | (try (conv => whnf))) | (with_reducible rfl) | (apply True.intro) | (apply infoT; rfl) | (apply bleI; rfl) | (apply fitI; rfl) | (apply cellsI; rfl) | (apply szI; rfl) | (apply guardI; kernel_rfl) | (apply WhenQ.mk; (try (conv => whnf)); rotate_left; (try (conv => whnf)); rotate_right) | (with_reducible assumption) | (apply not_of; with_reducible assumption) | (apply left_of; with_reducible assumption) | (apply left_of; apply left_of; with_reducible assumption) | (apply and_of <;> first | (with_reducible assumption) | (apply not_of; with_reducible assumption))| (refine lin_plan (by kernel_rfl) ?_; (try (conv => whnf))) | (refine ⟨_, _, rfl, idx_map (by with_reducible assumption), rfl, ?_⟩; (try (conv => whnf))) | (refine ⟨rfl, ?_⟩; (try (conv => whnf))) | (exact Nat.le_refl 1) | ((apply ex3); (focus (with_reducible assumption)); (focus (with_reducible assumption)); (try (conv => whnf))) | ((apply ex2); (focus (with_reducible assumption)); (try (conv => whnf))) | fail)
        any_goals skip
        · rw [h]
          refine ⟨(), ?_⟩
          (refine Wk.of ?_ ?_ rfl rfl rfl <;> (repeat' (first | (exact trivial) | (exact WkD.same _) | (exact WkO.same _ _ rfl) | (exact WkD.any _) | (refine WkD.int ?_) | (exact WkD.new' rfl rfl rfl) | (exact WkO.new _ _ rfl) | (refine WkO.vars rfl ?_) | (with_reducible rfl) | (exact rfl) | (refine ⟨?_, ?_⟩) | ((refine wrapA ?_ ?_ ?_); (focus (simp; done)); (focus ((try dsimp only); omega)); (focus ((try dsimp only); omega))) | fail)))
          all_goals skip
        · rw [h]
          exact ⟨(), (by refine Wk.of ?_ ?_ rfl rfl rfl <;> (repeat' (first | (exact trivial) | (exact WkD.same _) | (exact WkO.same _ _ rfl) | (exact WkD.any _) | (refine WkD.int ?_) | (exact WkD.new' rfl rfl rfl) | (exact WkO.new _ _ rfl) | (refine WkO.vars rfl ?_) | (with_reducible rfl) | (exact rfl) | (refine ⟨?_, ?_⟩) | ((refine wrapA ?_ ?_ ?_); (focus (simp; done)); (focus ((try dsimp only); omega)); (focus ((try dsimp only); omega))) | fail)))⟩
      rintro ⟨⟩
      generalize (bif x.op == 4 then !a else t3) = t4 at hT ⊢
      refine ⟨Unit, fun _ => [(1, .pv (i64 v)), (5, .pv (fpv c)), (6, .buf 0 (bpv (evs (c.take i) v)).length), (7, .pv (i64 i)), (8, .pv (.bool a)), (9, .pv (.bool b)), (10, .pv (.bool (bif x.op == 5 then (bif a then b else false) else t4)))], fun _ => 1, fun _ => [(0, .arr 1 (bpv (evs (c.take i) v)))], ?_, ?_⟩
      · (try (conv => whnf)); repeat' (first | (apply And.intro <;> (try (conv => whnf))) | (intro h; first | (with_reducible exact tf0 h) | (with_reducible exact ft0 h) | (with_reducible exact nt0 h) | (with_reducible exact nf0 h) | (exact litz h rfl) | (with_reducible exact tf h (by with_reducible assumption)) | (with_reducible exact tf (by with_reducible assumption) h) | (try (conv => whnf))) | (with_reducible rfl) | (apply True.intro) | (apply infoT; rfl) | (apply bleI; rfl) | (apply fitI; rfl) | (apply cellsI; rfl) | (apply szI; rfl) | (apply guardI; kernel_rfl) | (apply WhenQ.mk; (try (conv => whnf)); rotate_left; (try (conv => whnf)); rotate_right) | (with_reducible assumption) | (apply not_of; with_reducible assumption) | (apply left_of; with_reducible assumption) | (apply left_of; apply left_of; with_reducible assumption) | (apply and_of <;> first | (with_reducible assumption) | (apply not_of; with_reducible assumption))| (refine lin_plan (by kernel_rfl) ?_; (try (conv => whnf))) | (refine ⟨_, _, rfl, idx_map (by with_reducible assumption), rfl, ?_⟩; (try (conv => whnf))) | (refine ⟨rfl, ?_⟩; (try (conv => whnf))) | (exact Nat.le_refl 1) | ((apply ex3); (focus (with_reducible assumption)); (focus (with_reducible assumption)); (try (conv => whnf))) | ((apply ex2); (focus (with_reducible assumption)); (try (conv => whnf))) | fail)
        any_goals skip
        · rw [h]
          refine ⟨(), ?_⟩
          (refine Wk.of ?_ ?_ rfl rfl rfl <;> (repeat' (first | (exact trivial) | (exact WkD.same _) | (exact WkO.same _ _ rfl) | (exact WkD.any _) | (refine WkD.int ?_) | (exact WkD.new' rfl rfl rfl) | (exact WkO.new _ _ rfl) | (refine WkO.vars rfl ?_) | (with_reducible rfl) | (exact rfl) | (refine ⟨?_, ?_⟩) | ((refine wrapA ?_ ?_ ?_); (focus (simp; done)); (focus ((try dsimp only); omega)); (focus ((try dsimp only); omega))) | fail)))
          all_goals skip
        · rw [h]
          exact ⟨(), (by refine Wk.of ?_ ?_ rfl rfl rfl <;> (repeat' (first | (exact trivial) | (exact WkD.same _) | (exact WkO.same _ _ rfl) | (exact WkD.any _) | (refine WkD.int ?_) | (exact WkD.new' rfl rfl rfl) | (exact WkO.new _ _ rfl) | (refine WkO.vars rfl ?_) | (with_reducible rfl) | (exact rfl) | (refine ⟨?_, ?_⟩) | ((refine wrapA ?_ ?_ ?_); (focus (simp; done)); (focus ((try dsimp only); omega)); (focus ((try dsimp only); omega))) | fail)))⟩
      rintro ⟨⟩
      generalize (bif x.op == 5 then (bif a then b else false) else t4) = t5 at hT ⊢
      refine ⟨Unit, fun _ => [(1, .pv (i64 v)), (5, .pv (fpv c)), (6, .buf 0 (bpv (evs (c.take i) v)).length), (7, .pv (i64 i)), (8, .pv (.bool a)), (9, .pv (.bool b)), (10, .pv (.bool (bif x.op == 6 then (bif a then true else b) else t5)))], fun _ => 1, fun _ => [(0, .arr 1 (bpv (evs (c.take i) v)))], ?_, ?_⟩
      · (try (conv => whnf)); repeat' (first | (apply And.intro <;> (try (conv => whnf))) | (intro h; first | (with_reducible exact tf0 h) | (with_reducible exact ft0 h) | (with_reducible exact nt0 h) | (with_reducible exact nf0 h) | (exact litz h rfl) | (with_reducible exact tf h (by with_reducible assumption)) | (with_reducible exact tf (by with_reducible assumption) h) | (try (conv => whnf))) | (with_reducible rfl) | (apply True.intro) | (apply infoT; rfl) | (apply bleI; rfl) | (apply fitI; rfl) | (apply cellsI; rfl) | (apply szI; rfl) | (apply guardI; kernel_rfl) | (apply WhenQ.mk; (try (conv => whnf)); rotate_left; (try (conv => whnf)); rotate_right) | (with_reducible assumption) | (apply not_of; with_reducible assumption) | (apply left_of; with_reducible assumption) | (apply left_of; apply left_of; with_reducible assumption) | (apply and_of <;> first | (with_reducible assumption) | (apply not_of; with_reducible assumption))| (refine lin_plan (by kernel_rfl) ?_; (try (conv => whnf))) | (refine ⟨_, _, rfl, idx_map (by with_reducible assumption), rfl, ?_⟩; (try (conv => whnf))) | (refine ⟨rfl, ?_⟩; (try (conv => whnf))) | (exact Nat.le_refl 1) | ((apply ex3); (focus (with_reducible assumption)); (focus (with_reducible assumption)); (try (conv => whnf))) | ((apply ex2); (focus (with_reducible assumption)); (try (conv => whnf))) | fail)
        any_goals skip
        · rw [h]
          refine ⟨(), ?_⟩
          (refine Wk.of ?_ ?_ rfl rfl rfl <;> (repeat' (first | (exact trivial) | (exact WkD.same _) | (exact WkO.same _ _ rfl) | (exact WkD.any _) | (refine WkD.int ?_) | (exact WkD.new' rfl rfl rfl) | (exact WkO.new _ _ rfl) | (refine WkO.vars rfl ?_) | (with_reducible rfl) | (exact rfl) | (refine ⟨?_, ?_⟩) | ((refine wrapA ?_ ?_ ?_); (focus (simp; done)); (focus ((try dsimp only); omega)); (focus ((try dsimp only); omega))) | fail)))
          all_goals skip
        · rw [h]
          exact ⟨(), (by refine Wk.of ?_ ?_ rfl rfl rfl <;> (repeat' (first | (exact trivial) | (exact WkD.same _) | (exact WkO.same _ _ rfl) | (exact WkD.any _) | (refine WkD.int ?_) | (exact WkD.new' rfl rfl rfl) | (exact WkO.new _ _ rfl) | (refine WkO.vars rfl ?_) | (with_reducible rfl) | (exact rfl) | (refine ⟨?_, ?_⟩) | ((refine wrapA ?_ ?_ ?_); (focus (simp; done)); (focus ((try dsimp only); omega)); (focus ((try dsimp only); omega))) | fail)))⟩
      rintro ⟨⟩
      generalize (bif x.op == 6 then (bif a then true else b) else t5) = t6 at hT ⊢
      refine ⟨Unit, fun _ => [(1, .pv (i64 v)), (5, .pv (fpv c)), (6, .buf 0 (bpv (evs (c.take i) v)).length), (7, .pv (i64 i)), (8, .pv (.bool a)), (9, .pv (.bool b)), (10, .pv (.bool (bif x.op == 7 then (bif !a then true else b) else t6)))], fun _ => 1, fun _ => [(0, .arr 1 (bpv (evs (c.take i) v)))], ?_, ?_⟩
      · (try (conv => whnf)); repeat' (first | (apply And.intro <;> (try (conv => whnf))) | (intro h; first | (with_reducible exact tf0 h) | (with_reducible exact ft0 h) | (with_reducible exact nt0 h) | (with_reducible exact nf0 h) | (exact litz h rfl) | (with_reducible exact tf h (by with_reducible assumption)) | (with_reducible exact tf (by with_reducible assumption) h) | (try (conv => whnf))) | (with_reducible rfl) | (apply True.intro) | (apply infoT; rfl) | (apply bleI; rfl) | (apply fitI; rfl) | (apply cellsI; rfl) | (apply szI; rfl) | (apply guardI; kernel_rfl) | (apply WhenQ.mk; (try (conv => whnf)); rotate_left; (try (conv => whnf)); rotate_right) | (with_reducible assumption) | (apply not_of; with_reducible assumption) | (apply left_of; with_reducible assumption) | (apply left_of; apply left_of; with_reducible assumption) | (apply and_of <;> first | (with_reducible assumption) | (apply not_of; with_reducible assumption))| (refine lin_plan (by kernel_rfl) ?_; (try (conv => whnf))) | (refine ⟨_, _, rfl, idx_map (by with_reducible assumption), rfl, ?_⟩; (try (conv => whnf))) | (refine ⟨rfl, ?_⟩; (try (conv => whnf))) | (exact Nat.le_refl 1) | ((apply ex3); (focus (with_reducible assumption)); (focus (with_reducible assumption)); (try (conv => whnf))) | ((apply ex2); (focus (with_reducible assumption)); (try (conv => whnf))) | fail)
        any_goals skip
        · rw [h]
          refine ⟨(), ?_⟩
          (refine Wk.of ?_ ?_ rfl rfl rfl <;> (repeat' (first | (exact trivial) | (exact WkD.same _) | (exact WkO.same _ _ rfl) | (exact WkD.any _) | (refine WkD.int ?_) | (exact WkD.new' rfl rfl rfl) | (exact WkO.new _ _ rfl) | (refine WkO.vars rfl ?_) | (with_reducible rfl) | (exact rfl) | (refine ⟨?_, ?_⟩) | ((refine wrapA ?_ ?_ ?_); (focus (simp; done)); (focus ((try dsimp only); omega)); (focus ((try dsimp only); omega))) | fail)))
          all_goals skip
        · rw [h]
          exact ⟨(), (by refine Wk.of ?_ ?_ rfl rfl rfl <;> (repeat' (first | (exact trivial) | (exact WkD.same _) | (exact WkO.same _ _ rfl) | (exact WkD.any _) | (refine WkD.int ?_) | (exact WkD.new' rfl rfl rfl) | (exact WkO.new _ _ rfl) | (refine WkO.vars rfl ?_) | (with_reducible rfl) | (exact rfl) | (refine ⟨?_, ?_⟩) | ((refine wrapA ?_ ?_ ?_); (focus (simp; done)); (focus ((try dsimp only); omega)); (focus ((try dsimp only); omega))) | fail)))⟩
      rintro ⟨⟩
      generalize (bif x.op == 7 then (bif !a then true else b) else t6) = t7 at hT ⊢
      refine ⟨Unit, fun _ => [(1, .pv (i64 v)), (5, .pv (fpv c)), (6, .buf 0 (bpv (evs (c.take i) v)).length), (7, .pv (i64 i)), (8, .pv (.bool a)), (9, .pv (.bool b)), (10, .pv (.bool (bif x.op == 8 then a == b else t7)))], fun _ => 1, fun _ => [(0, .arr 1 (bpv (evs (c.take i) v)))], ?_, ?_⟩
      · (try (conv => whnf)); repeat' (first | (apply And.intro <;> (try (conv => whnf))) | (intro h; first | (with_reducible exact tf0 h) | (with_reducible exact ft0 h) | (with_reducible exact nt0 h) | (with_reducible exact nf0 h) | (exact litz h rfl) | (with_reducible exact tf h (by with_reducible assumption)) | (with_reducible exact tf (by with_reducible assumption) h) | (try (conv => whnf))) | (with_reducible rfl) | (apply True.intro) | (apply infoT; rfl) | (apply bleI; rfl) | (apply fitI; rfl) | (apply cellsI; rfl) | (apply szI; rfl) | (apply guardI; kernel_rfl) | (apply WhenQ.mk; (try (conv => whnf)); rotate_left; (try (conv => whnf)); rotate_right) | (with_reducible assumption) | (apply not_of; with_reducible assumption) | (apply left_of; with_reducible assumption) | (apply left_of; apply left_of; with_reducible assumption) | (apply and_of <;> first | (with_reducible assumption) | (apply not_of; with_reducible assumption))| (refine lin_plan (by kernel_rfl) ?_; (try (conv => whnf))) | (refine ⟨_, _, rfl, idx_map (by with_reducible assumption), rfl, ?_⟩; (try (conv => whnf))) | (refine ⟨rfl, ?_⟩; (try (conv => whnf))) | (exact Nat.le_refl 1) | ((apply ex3); (focus (with_reducible assumption)); (focus (with_reducible assumption)); (try (conv => whnf))) | ((apply ex2); (focus (with_reducible assumption)); (try (conv => whnf))) | fail)
        any_goals skip
        · rw [h]
          refine ⟨(), ?_⟩
          (refine Wk.of ?_ ?_ rfl rfl rfl <;> (repeat' (first | (exact trivial) | (exact WkD.same _) | (exact WkO.same _ _ rfl) | (exact WkD.any _) | (refine WkD.int ?_) | (exact WkD.new' rfl rfl rfl) | (exact WkO.new _ _ rfl) | (refine WkO.vars rfl ?_) | (with_reducible rfl) | (exact rfl) | (refine ⟨?_, ?_⟩) | ((refine wrapA ?_ ?_ ?_); (focus (simp; done)); (focus ((try dsimp only); omega)); (focus ((try dsimp only); omega))) | fail)))
          all_goals skip
        · rw [h]
          exact ⟨(), (by refine Wk.of ?_ ?_ rfl rfl rfl <;> (repeat' (first | (exact trivial) | (exact WkD.same _) | (exact WkO.same _ _ rfl) | (exact WkD.any _) | (refine WkD.int ?_) | (exact WkD.new' rfl rfl rfl) | (exact WkO.new _ _ rfl) | (refine WkO.vars rfl ?_) | (with_reducible rfl) | (exact rfl) | (refine ⟨?_, ?_⟩) | ((refine wrapA ?_ ?_ ?_); (focus (simp; done)); (focus ((try dsimp only); omega)); (focus ((try dsimp only); omega))) | fail)))⟩
      rintro ⟨⟩
      generalize (bif x.op == 8 then a == b else t7) = t8 at hT ⊢
      (try (conv => whnf)); repeat' (first | (apply And.intro <;> (try (conv => whnf))) | (intro h; first | (with_reducible exact tf0 h) | (with_reducible exact ft0 h) | (with_reducible exact nt0 h) | (with_reducible exact nf0 h) | (exact litz h rfl) | (with_reducible exact tf h (by with_reducible assumption)) | (with_reducible exact tf (by with_reducible assumption) h) | (try (conv => whnf))) | (with_reducible rfl) | (apply True.intro) | (apply infoT; rfl) | (apply bleI; rfl) | (apply fitI; rfl) | (apply cellsI; rfl) | (apply szI; rfl) | (apply guardI; kernel_rfl) | (apply WhenQ.mk; (try (conv => whnf)); rotate_left; (try (conv => whnf)); rotate_right) | (with_reducible assumption) | (apply not_of; with_reducible assumption) | (apply left_of; with_reducible assumption) | (apply left_of; apply left_of; with_reducible assumption) | (apply and_of <;> first | (with_reducible assumption) | (apply not_of; with_reducible assumption))| (refine lin_plan (by kernel_rfl) ?_; (try (conv => whnf))) | (refine ⟨_, _, rfl, idx_map (by with_reducible assumption), rfl, ?_⟩; (try (conv => whnf))) | (refine ⟨rfl, ?_⟩; (try (conv => whnf))) | (exact Nat.le_refl 1) | ((apply ex3); (focus (with_reducible assumption)); (focus (with_reducible assumption)); (try (conv => whnf))) | ((apply ex2); (focus (with_reducible assumption)); (try (conv => whnf))) | fail)
      · show _ ≤ 4294967296
        rw [bpv_len]; simp; omega
      · subst hT
        refine ⟨⟨i + 1, hi'⟩, by show c.length - (i + 1) < c.length - i; omega, ?_⟩
        (refine Wk.of ?_ ?_ rfl rfl rfl <;> (repeat' (first | (exact trivial) | (exact WkD.same _) | (exact WkO.same _ _ rfl) | (exact WkD.any _) | (refine WkD.int ?_) | (exact WkD.new' rfl rfl rfl) | (exact WkO.new _ _ rfl) | (refine WkO.vars rfl ?_) | (with_reducible rfl) | (exact rfl) | (refine ⟨?_, ?_⟩) | ((refine wrapA ?_ ?_ ?_); (focus (simp; done)); (focus ((try dsimp only); omega)); (focus ((try dsimp only); omega))) | fail)))
        · exact WkD.eq (congrArg (DV.buf 0) ((congrArg List.length (bpv_snoc _ _)).trans (congrArg (fun z => (bpv z).length) hev.symm)))
        · exact WkO.same _ _ (congrArg (fun z => some (DObj.arr 1 z)) ((bpv_snoc _ _).trans (congrArg bpv hev.symm)))
    · have hi' : i = c.length := by simp at h; omega
      subst hi'
      refine ⟨(), ?_⟩
      (refine Wk.of ?_ ?_ rfl rfl rfl <;> (repeat' (first | (exact trivial) | (exact WkD.same _) | (exact WkO.same _ _ rfl) | (exact WkD.any _) | (refine WkD.int ?_) | (exact WkD.new' rfl rfl rfl) | (exact WkO.new _ _ rfl) | (refine WkO.vars rfl ?_) | (with_reducible rfl) | (exact rfl) | (refine ⟨?_, ?_⟩) | ((refine wrapA ?_ ?_ ?_); (focus (simp; done)); (focus ((try dsimp only); omega)); (focus ((try dsimp only); omega))) | fail)))
      · exact WkD.eq (congrArg (fun z => DV.buf 0 (bpv (evs z v)).length) (List.take_length))
      · exact WkO.same _ _ (congrArg (fun z => some (DObj.arr 1 (bpv (evs z v)))) (List.take_length))
  · rintro ⟨⟩
    have hl : (bpv (evs c v)).length = c.length := by rw [bpv_len, evs_len]
    have q1 : IntKind.wrap .i64 (((bpv (evs c v)).length : Int) - 1) = ((c.length - 1 : Nat) : Int) := by rw [hl]; exact wrapA (by omega) (by omega) (by omega)
    have q2 : c.length - 1 < (bpv (evs c v)).length := by omega
    have q3 := bpv_get (holds_last (v := v) h1)
    (try (conv => whnf)); repeat' (first | (apply And.intro <;> (try (conv => whnf))) | (intro h; first | (with_reducible exact tf0 h) | (with_reducible exact ft0 h) | (with_reducible exact nt0 h) | (with_reducible exact nf0 h) | (exact litz h rfl) | (with_reducible exact tf h (by with_reducible assumption)) | (with_reducible exact tf (by with_reducible assumption) h) | (try (conv => whnf))) | (with_reducible rfl) | (apply True.intro) | (apply infoT; rfl) | (apply bleI; rfl) | (apply fitI; rfl) | (apply cellsI; rfl) | (apply szI; rfl) | (apply guardI; kernel_rfl) | (apply WhenQ.mk; (try (conv => whnf)); rotate_left; (try (conv => whnf)); rotate_right) | (with_reducible assumption) | (apply not_of; with_reducible assumption) | (apply left_of; with_reducible assumption) | (apply left_of; apply left_of; with_reducible assumption) | (apply and_of <;> first | (with_reducible assumption) | (apply not_of; with_reducible assumption))| (refine lin_plan (by kernel_rfl) ?_; (try (conv => whnf))) | (refine ⟨_, _, rfl, idx_map (by with_reducible assumption), rfl, ?_⟩; (try (conv => whnf))) | (refine ⟨rfl, ?_⟩; (try (conv => whnf))) | (exact Nat.le_refl 1) | ((apply ex3); (focus (with_reducible assumption)); (focus (with_reducible assumption)); (try (conv => whnf))) | ((apply ex2); (focus (with_reducible assumption)); (try (conv => whnf))) | fail)
    refine le_bool ?_
    have e : decide (((bpv (evs c v)).length : Int) > 0) = true := by rw [hl]; simp; omega
    rw [e]; rfl
theorem mdI1 {f : List Nd} {facts : Int} (h : (!okN facts) = true) : modelsI f facts = (0, 2) := by rw [modelsI, h]; rfl
theorem mdI2 {f : List Nd} {facts : Int} (h : (!okN facts) = false) (h2 : (check f != 0) = true) : modelsI f facts = (0, check f) := by rw [modelsI, h, h2]; rfl
theorem mdI3 {f : List Nd} {facts : Int} (h : (!okN facts) = false) (h2 : (check f != 0) = false) (h3 : (((frags f : Nat) : Int) != 0) = true) : modelsI f facts = (0, 10) := by rw [modelsI, h, h2, h3]; rfl
theorem mdI4 {f : List Nd} {facts : Int} (h : (!okN facts) = false) (h2 : (check f != 0) = false) (h3 : (((frags f : Nat) : Int) != 0) = false) (h4 : (!fits f 0 facts) = true) : modelsI f facts = (0, 2) := by rw [modelsI, h, h2, h3, h4]; rfl
theorem mdI5 {f : List Nd} {facts : Int} (h : (!okN facts) = false) (h2 : (check f != 0) = false) (h3 : (((frags f : Nat) : Int) != 0) = false) (h4 : (!fits f 0 facts) = false) : modelsI f facts = (modelsOf f facts.toNat, 0) := by rw [modelsI, h, h2, h3, h4]; rfl
theorem bs_Models (f : List Nd) (facts : Int) : PureFn Try.prog 12 [fpv f, .int .i64 facts] (pairU (modelsI f facts)) := by
  refine PureFn.intro mixed (fn := Try.f12) rfl rfl rfl fun M w0 => ?_
  (try (conv => whnf)); repeat' (first | (apply And.intro <;> (try (conv => whnf))) | (intro h; first | (with_reducible exact tf0 h) | (with_reducible exact ft0 h) | (with_reducible exact nt0 h) | (with_reducible exact nf0 h) | (exact litz h rfl) | (with_reducible exact tf h (by with_reducible assumption)) | (with_reducible exact tf (by with_reducible assumption) h) | (try (conv => whnf))) | (with_reducible rfl) | (apply True.intro) | (apply infoT; rfl) | (apply bleI; rfl) | (apply fitI; rfl) | (apply cellsI; rfl) | (apply szI; rfl) | (apply guardI; kernel_rfl) | (apply WhenQ.mk; (try (conv => whnf)); rotate_left; (try (conv => whnf)); rotate_right) | (with_reducible assumption) | (apply not_of; with_reducible assumption) | (apply left_of; with_reducible assumption) | (apply left_of; apply left_of; with_reducible assumption) | (apply and_of <;> first | (with_reducible assumption) | (apply not_of; with_reducible assumption))| (refine lin_plan (by kernel_rfl) ?_; (try (conv => whnf))) | (refine ⟨_, _, rfl, idx_map (by with_reducible assumption), rfl, ?_⟩; (try (conv => whnf))) | (refine ⟨rfl, ?_⟩; (try (conv => whnf))) | (exact Nat.le_refl 1) | ((apply ex3); (focus (with_reducible assumption)); (focus (with_reducible assumption)); (try (conv => whnf))) | ((apply ex2); (focus (with_reducible assumption)); (try (conv => whnf))) | (refine PureFn.dcq (f := 37) rfl ?_; (try (conv => whnf))) | (refine PureFn.dcq (f := 38) rfl ?_; (try (conv => whnf))) | (refine PureFn.dcq (f := 39) rfl ?_; (try (conv => whnf))) | (refine PureFn.dcq (f := 40) rfl ?_; (try (conv => whnf))) | (refine PureFn.dcq (f := 41) rfl ?_; (try (conv => whnf))) | ((refine ⟨_, _, bs_valid ?_, ?_, ?_⟩); rotate_left 1; (focus (first | (refine ⟨?_, trivial⟩ <;> first | (exact PLe.refl _) | (exact PLe.nil)) | (exact trivial))); (try (conv => whnf))) | (refine ⟨_, (by (conv => whnf); exact bs_valid _), rfl, ?_⟩; (try (conv => whnf))) | ((refine ⟨_, _, fm_Check ?_, ?_, ?_⟩); rotate_left 1; (focus (first | (refine ⟨?_, trivial⟩ <;> first | (exact PLe.refl _) | (exact PLe.nil)) | (exact trivial))); (try (conv => whnf))) | (refine ⟨_, (by (conv => whnf); exact fm_Check _), rfl, ?_⟩; (try (conv => whnf))) | ((refine ⟨_, _, fm_Frags ?_, ?_, ?_⟩); rotate_left 1; (focus (first | (refine ⟨?_, trivial⟩ <;> first | (exact PLe.refl _) | (exact PLe.nil)) | (exact trivial))); (try (conv => whnf))) | (refine ⟨_, (by (conv => whnf); exact fm_Frags _), rfl, ?_⟩; (try (conv => whnf))) | ((refine ⟨_, _, fm_Fits ?_ ?_ ?_, ?_, ?_⟩); rotate_left 3; (focus (first | (refine ⟨?_, ?_, ?_, trivial⟩ <;> first | (exact PLe.refl _) | (exact PLe.nil)) | (exact trivial))); (try (conv => whnf))) | (refine ⟨_, (by (conv => whnf); exact fm_Fits _ _ _), rfl, ?_⟩; (try (conv => whnf))) | ((refine ⟨_, _, fm_Compact ?_, ?_, ?_⟩); rotate_left 1; (focus (first | (refine ⟨?_, trivial⟩ <;> first | (exact PLe.refl _) | (exact PLe.nil)) | (exact trivial))); (try (conv => whnf))) | (refine ⟨_, (by (conv => whnf); exact fm_Compact _), rfl, ?_⟩; (try (conv => whnf))) | fail)
  · rw [mdI1 h]; exact .refl _
  · rename_i h1
    rw [mdI2 h1 h]; exact .refl _
  · rename_i h1 h2
    rw [mdI3 h1 h2 h]; exact .refl _
  · rename_i h1 h2 h3
    rw [mdI4 h1 h2 h3 h]; exact .refl _
  · rename_i h1 h2 h3
    exact okN_pos (by simpa using h1)
  · rename_i h1 h2 h3
    rw [mdI5 h1 h2 h3 h]
    obtain ⟨n, rfl, hn⟩ := okN_iff.1 (by simpa using h1)
    have hc : check f = 0 := by simpa using h2
    have h16 := (vals_le hn).2
    have hsh := shl_n hn
    rw [modelsOf, Int.toNat_natCast]
    have hco := comp_okl f
    have hcp := comp_pos hc
    have hcl := comp_len f
    generalize comp f = c at hco hcp hcl ⊢
    refine ⟨{ i : Nat // i ≤ 2 ^ n }, fun i => [(0, .pv (fpv c)), (7, .pv (u64 (maskOf (holds c) i.1))), (27, .pv (i64 (2 ^ n))), (28, .pv (i64 i.1))], fun _ => 0, fun _ => [], fun i => 2 ^ n - i.1, ⟨⟨0, Nat.zero_le _⟩, ?_⟩, ?_⟩
    · (refine Wk.of ?_ ?_ rfl rfl rfl <;> (repeat' (first | (exact trivial) | (exact WkD.same _) | (exact WkO.same _ _ rfl) | (exact WkD.any _) | (refine WkD.int ?_) | (exact WkD.new' rfl rfl rfl) | (exact WkO.new _ _ rfl) | (refine WkO.vars rfl ?_) | (with_reducible rfl) | (exact rfl) | (refine ⟨?_, ?_⟩) | ((refine wrapA ?_ ?_ ?_); (focus (simp; done)); (focus ((try dsimp only); omega)); (focus ((try dsimp only); omega))) | fail)))
      all_goals exact hsh
    rintro ⟨i, hi⟩
    have hH := bs_holds c i (by omega) hco hcp hcl
    (try (conv => whnf)); repeat' (first | (apply And.intro <;> (try (conv => whnf))) | (intro h; first | (with_reducible exact tf0 h) | (with_reducible exact ft0 h) | (with_reducible exact nt0 h) | (with_reducible exact nf0 h) | (exact litz h rfl) | (with_reducible exact tf h (by with_reducible assumption)) | (with_reducible exact tf (by with_reducible assumption) h) | (try (conv => whnf))) | (with_reducible rfl) | (apply True.intro) | (apply infoT; rfl) | (apply bleI; rfl) | (apply fitI; rfl) | (apply cellsI; rfl) | (apply szI; rfl) | (apply guardI; kernel_rfl) | (apply WhenQ.mk; (try (conv => whnf)); rotate_left; (try (conv => whnf)); rotate_right) | (with_reducible assumption) | (apply not_of; with_reducible assumption) | (apply left_of; with_reducible assumption) | (apply left_of; apply left_of; with_reducible assumption) | (apply and_of <;> first | (with_reducible assumption) | (apply not_of; with_reducible assumption))| (refine lin_plan (by kernel_rfl) ?_; (try (conv => whnf))) | (refine ⟨_, _, rfl, idx_map (by with_reducible assumption), rfl, ?_⟩; (try (conv => whnf))) | (refine ⟨rfl, ?_⟩; (try (conv => whnf))) | (exact Nat.le_refl 1) | ((apply ex3); (focus (with_reducible assumption)); (focus (with_reducible assumption)); (try (conv => whnf))) | ((apply ex2); (focus (with_reducible assumption)); (try (conv => whnf))) | (refine PureFn.dcq (f := 42) rfl ?_; (try (conv => whnf))) | ((refine ⟨_, _, hH, ?_, ?_⟩); (focus (first | (refine ⟨?_, ?_, trivial⟩ <;> first | (exact PLe.refl _) | (exact PLe.nil)) | (exact trivial))); (try (conv => whnf))) | (refine ⟨_, (by (conv => whnf); exact hH), rfl, ?_⟩; (try (conv => whnf))) | fail)
    · exact Int.natCast_nonneg _
    · rename_i h1
      have hi' : i < 2 ^ n := lt_dec h1
      refine ⟨⟨i + 1, hi'⟩, by show 2 ^ n - (i + 1) < 2 ^ n - i; omega, ?_⟩
      (refine Wk.of ?_ ?_ rfl rfl rfl <;> (repeat' (first | (exact trivial) | (exact WkD.same _) | (exact WkO.same _ _ rfl) | (exact WkD.any _) | (refine WkD.int ?_) | (exact WkD.new' rfl rfl rfl) | (exact WkO.new _ _ rfl) | (refine WkO.vars rfl ?_) | (with_reducible rfl) | (exact rfl) | (refine ⟨?_, ?_⟩) | ((refine wrapA ?_ ?_ ?_); (focus (simp; done)); (focus ((try dsimp only); omega)); (focus ((try dsimp only); omega))) | fail)))
      exact mask_step (q := holds c) (i := i) (by omega) h
    · rename_i h1
      have hi' : i < 2 ^ n := lt_dec h1
      refine ⟨⟨i + 1, hi'⟩, by show 2 ^ n - (i + 1) < 2 ^ n - i; omega, ?_⟩
      (refine Wk.of ?_ ?_ rfl rfl rfl <;> (repeat' (first | (exact trivial) | (exact WkD.same _) | (exact WkO.same _ _ rfl) | (exact WkD.any _) | (refine WkD.int ?_) | (exact WkD.new' rfl rfl rfl) | (exact WkO.new _ _ rfl) | (refine WkO.vars rfl ?_) | (with_reducible rfl) | (exact rfl) | (refine ⟨?_, ?_⟩) | ((refine wrapA ?_ ?_ ?_); (focus (simp; done)); (focus ((try dsimp only); omega)); (focus ((try dsimp only); omega))) | fail)))
      exact mask_skip (q := holds c) (i := i) h
    · have hi' : i = 2 ^ n := ge_dec h hi
      subst hi'
      exact .refl _
theorem rb_Models (f : List Nd) (facts : Int) : PureFn Try.prog 13 [fpv f, .int .i64 facts] (pairU (modelsI f facts)) := by
  refine PureFn.intro mixed (fn := Try.f13) rfl rfl rfl fun M w0 => ?_
  (try (conv => whnf)); repeat' (first | (apply And.intro <;> (try (conv => whnf))) | (intro h; first | (with_reducible exact tf0 h) | (with_reducible exact ft0 h) | (with_reducible exact nt0 h) | (with_reducible exact nf0 h) | (exact litz h rfl) | (with_reducible exact tf h (by with_reducible assumption)) | (with_reducible exact tf (by with_reducible assumption) h) | (try (conv => whnf))) | (with_reducible rfl) | (apply True.intro) | (apply infoT; rfl) | (apply bleI; rfl) | (apply fitI; rfl) | (apply cellsI; rfl) | (apply szI; rfl) | (apply guardI; kernel_rfl) | (apply WhenQ.mk; (try (conv => whnf)); rotate_left; (try (conv => whnf)); rotate_right) | (with_reducible assumption) | (apply not_of; with_reducible assumption) | (apply left_of; with_reducible assumption) | (apply left_of; apply left_of; with_reducible assumption) | (apply and_of <;> first | (with_reducible assumption) | (apply not_of; with_reducible assumption))| (refine lin_plan (by kernel_rfl) ?_; (try (conv => whnf))) | (refine ⟨_, _, rfl, idx_map (by with_reducible assumption), rfl, ?_⟩; (try (conv => whnf))) | (refine ⟨rfl, ?_⟩; (try (conv => whnf))) | (exact Nat.le_refl 1) | ((apply ex3); (focus (with_reducible assumption)); (focus (with_reducible assumption)); (try (conv => whnf))) | ((apply ex2); (focus (with_reducible assumption)); (try (conv => whnf))) | (refine PureFn.dcq (f := 43) rfl ?_; (try (conv => whnf))) | (refine PureFn.dcq (f := 44) rfl ?_; (try (conv => whnf))) | (refine PureFn.dcq (f := 45) rfl ?_; (try (conv => whnf))) | ((refine ⟨_, _, ref_Check ?_, ?_, ?_⟩); rotate_left 1; (focus (first | (refine ⟨?_, trivial⟩ <;> first | (exact PLe.refl _) | (exact PLe.nil)) | (exact trivial))); (try (conv => whnf))) | (refine ⟨_, (by (conv => whnf); exact ref_Check _), rfl, ?_⟩; (try (conv => whnf))) | ((refine ⟨_, _, ref_Frags ?_, ?_, ?_⟩); rotate_left 1; (focus (first | (refine ⟨?_, trivial⟩ <;> first | (exact PLe.refl _) | (exact PLe.nil)) | (exact trivial))); (try (conv => whnf))) | (refine ⟨_, (by (conv => whnf); exact ref_Frags _), rfl, ?_⟩; (try (conv => whnf))) | ((refine ⟨_, _, ref_Fits ?_ ?_ ?_, ?_, ?_⟩); rotate_left 3; (focus (first | (refine ⟨?_, ?_, ?_, trivial⟩ <;> first | (exact PLe.refl _) | (exact PLe.nil)) | (exact trivial))); (try (conv => whnf))) | (refine ⟨_, (by (conv => whnf); exact ref_Fits _ _ _), rfl, ?_⟩; (try (conv => whnf))) | fail)
  · rw [ok_not] at h
    rw [mdI1 h]; exact .refl _
  · rename_i h1
    rw [ok_not] at h1
    rw [mdI2 h1 h]; exact .refl _
  · rename_i h1 h2
    rw [ok_not] at h1
    rw [mdI3 h1 h2 h]; exact .refl _
  · rename_i h1 h2 h3
    rw [ok_not] at h1
    rw [mdI4 h1 h2 h3 h]; exact .refl _
  · rename_i h1 h2 h3
    rw [ok_not] at h1
    rw [mdI5 h1 h2 h3 h]
    obtain ⟨n, rfl, hn⟩ := okN_iff.1 (by simpa using h1)
    have hc : check f = 0 := by simpa using h2
    have h16 := (vals_le hn).2
    have hsh := shl_n hn
    rw [modelsOf, Int.toNat_natCast]
    refine ⟨{ i : Nat // i ≤ 2 ^ n }, fun i => [(0, .pv (fpv f)), (1, .pv (i64 n)), (7, .pv (u64 (maskOf (holds (comp f)) i.1))), (8, .pv (i64 i.1))], fun _ => 0, fun _ => [], fun i => 2 ^ n - i.1, ⟨⟨0, Nat.zero_le _⟩, (by refine Wk.of ?_ ?_ rfl rfl rfl <;> (repeat' (first | (exact trivial) | (exact WkD.same _) | (exact WkO.same _ _ rfl) | (exact WkD.any _) | (refine WkD.int ?_) | (exact WkD.new' rfl rfl rfl) | (exact WkO.new _ _ rfl) | (refine WkO.vars rfl ?_) | (with_reducible rfl) | (exact rfl) | (refine ⟨?_, ?_⟩) | ((refine wrapA ?_ ?_ ?_); (focus (simp; done)); (focus ((try dsimp only); omega)); (focus ((try dsimp only); omega))) | fail)))⟩, ?_⟩
    rintro ⟨i, hi⟩
    have hH := rb_True f i hc
    (try (conv => whnf)); repeat' (first | (apply And.intro <;> (try (conv => whnf))) | (intro h; first | (with_reducible exact tf0 h) | (with_reducible exact ft0 h) | (with_reducible exact nt0 h) | (with_reducible exact nf0 h) | (exact litz h rfl) | (with_reducible exact tf h (by with_reducible assumption)) | (with_reducible exact tf (by with_reducible assumption) h) | (try (conv => whnf))) | (with_reducible rfl) | (apply True.intro) | (apply infoT; rfl) | (apply bleI; rfl) | (apply fitI; rfl) | (apply cellsI; rfl) | (apply szI; rfl) | (apply guardI; kernel_rfl) | (apply WhenQ.mk; (try (conv => whnf)); rotate_left; (try (conv => whnf)); rotate_right) | (with_reducible assumption) | (apply not_of; with_reducible assumption) | (apply left_of; with_reducible assumption) | (apply left_of; apply left_of; with_reducible assumption) | (apply and_of <;> first | (with_reducible assumption) | (apply not_of; with_reducible assumption))| (refine lin_plan (by kernel_rfl) ?_; (try (conv => whnf))) | (refine ⟨_, _, rfl, idx_map (by with_reducible assumption), rfl, ?_⟩; (try (conv => whnf))) | (refine ⟨rfl, ?_⟩; (try (conv => whnf))) | (exact Nat.le_refl 1) | ((apply ex3); (focus (with_reducible assumption)); (focus (with_reducible assumption)); (try (conv => whnf))) | ((apply ex2); (focus (with_reducible assumption)); (try (conv => whnf))) | (refine PureFn.dcq (f := 46) rfl ?_; (try (conv => whnf))) | ((refine ⟨_, _, hH, ?_, ?_⟩); (focus (first | (refine ⟨?_, ?_, trivial⟩ <;> first | (exact PLe.refl _) | (exact PLe.nil)) | (exact trivial))); (try (conv => whnf))) | (refine ⟨_, (by (conv => whnf); exact hH), rfl, ?_⟩; (try (conv => whnf))) | fail)
    · exact Int.natCast_nonneg _
    · exact Int.natCast_nonneg _
    · rename_i h1
      have hi' : i < 2 ^ n := lt_dec (lim hsh h1)
      refine ⟨⟨i + 1, hi'⟩, by show 2 ^ n - (i + 1) < 2 ^ n - i; omega, ?_⟩
      (refine Wk.of ?_ ?_ rfl rfl rfl <;> (repeat' (first | (exact trivial) | (exact WkD.same _) | (exact WkO.same _ _ rfl) | (exact WkD.any _) | (refine WkD.int ?_) | (exact WkD.new' rfl rfl rfl) | (exact WkO.new _ _ rfl) | (refine WkO.vars rfl ?_) | (with_reducible rfl) | (exact rfl) | (refine ⟨?_, ?_⟩) | ((refine wrapA ?_ ?_ ?_); (focus (simp; done)); (focus ((try dsimp only); omega)); (focus ((try dsimp only); omega))) | fail)))
      exact mask_step (q := holds (comp f)) (i := i) (by omega) h
    · rename_i h1
      have hi' : i < 2 ^ n := lt_dec (lim hsh h1)
      refine ⟨⟨i + 1, hi'⟩, by show 2 ^ n - (i + 1) < 2 ^ n - i; omega, ?_⟩
      (refine Wk.of ?_ ?_ rfl rfl rfl <;> (repeat' (first | (exact trivial) | (exact WkD.same _) | (exact WkO.same _ _ rfl) | (exact WkD.any _) | (refine WkD.int ?_) | (exact WkD.new' rfl rfl rfl) | (exact WkO.new _ _ rfl) | (refine WkO.vars rfl ?_) | (with_reducible rfl) | (exact rfl) | (refine ⟨?_, ?_⟩) | ((refine wrapA ?_ ?_ ?_); (focus (simp; done)); (focus ((try dsimp only); omega)); (focus ((try dsimp only); omega))) | fail)))
      exact mask_skip (q := holds (comp f)) (i := i) h
    · have hi' : i = 2 ^ n := ge_dec (lim hsh h) hi
      subst hi'
      exact .refl _
end Go.Proofs.Ythnfbkplkheliaa
set_option maxRecDepth 100000
set_option maxHeartbeats 4000000
namespace Go.Proofs.Ythnfbkplkheliaa
open Go Go.Dv

def factL (i : Nat) : List Nd := buildL (nI 3 i) []
def notL (f : List Nd) : List Nd := buildL (n0 4) [f]
def lit (i v : Nat) : List Nd := bif v.testBit i then factL i else notL (factL i)
def lits (v n : Nat) : List (List Nd) := (List.range n).map fun i => lit i v
def caseL (v n : Nat) : List Nd := joinL 5 (buildL (n0 1) []) (lits v n)
def casesL (s n : Nat) : Nat → List (List Nd)
  | 0 => []
  | m + 1 => bif s.testBit m then casesL s n m ++ [caseL m n] else casesL s n m
def formulaL (s n : Nat) : List Nd := joinL 6 (buildL (n0 2) []) (casesL s n (2 ^ n))
def formulaI (s : Nat) (facts : Int) : List Nd × Int := bif bchk s facts != 0 then ([], bchk s facts) else (formulaL s facts.toNat, 0)
def pairF (x : List Nd × Int) : PV := .tup [fpv x.1, .int .i64 x.2]
theorem foI1 {s : Nat} {facts : Int} (h : (bchk s facts != 0) = true) : formulaI s facts = ([], bchk s facts) := by rw [formulaI, h]; rfl
theorem foI2 {s : Nat} {facts : Int} (h : (bchk s facts != 0) = false) : formulaI s facts = (formulaL s facts.toNat, 0) := by rw [formulaI, h]; rfl
theorem lits_succ (v n : Nat) : (lits v (n + 1)).map fpv = (lits v n).map fpv ++ [fpv (lit n v)] := by
  rw [lits, List.range_succ, List.map_append, List.map_append]; rfl
theorem lits_len (v n : Nat) : (lits v n).length = n := by simp [lits]
theorem cases_len (s n : Nat) : ∀ m, (casesL s n m).length ≤ m
  | 0 => Nat.le_refl 0
  | m + 1 => by have := cases_len s n m; rw [casesL]; cases s.testBit m <;> simp <;> omega
theorem rb_Fact (i : Int) : PureFn Try.prog 50 [.int .i64 i] (fpv (buildL (nI 3 i) [])) := by
  rw [build_one]
  have hO := ref_One (nI 3 i)
  refine PureFn.intro mixed (fn := Try.f50) rfl rfl rfl fun M w0 => ?_
  (try (conv => whnf)); repeat' (first | (apply And.intro <;> (try (conv => whnf))) | (intro h; first | (with_reducible exact tf0 h) | (with_reducible exact ft0 h) | (with_reducible exact nt0 h) | (with_reducible exact nf0 h) | (exact litz h rfl) | (with_reducible exact tf h (by with_reducible assumption)) | (with_reducible exact tf (by with_reducible assumption) h) | (try (conv => whnf))) | (with_reducible rfl) | (apply True.intro) | (apply infoT; rfl) | (apply bleI; rfl) | (apply fitI; rfl) | (apply cellsI; rfl) | (apply szI; rfl) | (apply guardI; kernel_rfl) | (apply WhenQ.mk; (try (conv => whnf)); rotate_left; (try (conv => whnf)); rotate_right) | (with_reducible assumption) | (apply not_of; with_reducible assumption) | (apply left_of; with_reducible assumption) | (apply left_of; apply left_of; with_reducible assumption) | (apply and_of <;> first | (with_reducible assumption) | (apply not_of; with_reducible assumption))| (refine lin_plan (by kernel_rfl) ?_; (try (conv => whnf))) | (refine ⟨_, _, rfl, idx_map (by with_reducible assumption), rfl, ?_⟩; (try (conv => whnf))) | (refine ⟨rfl, ?_⟩; (try (conv => whnf))) | (exact Nat.le_refl 1) | ((apply ex3); (focus (with_reducible assumption)); (focus (with_reducible assumption)); (try (conv => whnf))) | ((apply ex2); (focus (with_reducible assumption)); (try (conv => whnf))) | (refine PureFn.dcq (f := 80) rfl ?_; (try (conv => whnf))) | ((refine ⟨_, _, hO, ?_, ?_⟩); (focus (first | (refine ⟨?_, trivial⟩ <;> first | (exact PLe.refl _) | (exact PLe.nil)) | (exact trivial))); (try (conv => whnf))) | (refine ⟨_, (by (conv => whnf); exact hO), rfl, ?_⟩; (try (conv => whnf))) | fail)
  exact .refl _
theorem rb_Not (f : List Nd) : PureFn Try.prog 51 [fpv f] (fpv (notL f)) := by
  rw [notL, build_un _ _ rfl rfl rfl]
  have hB := ref_Unary (n0 4) f
  refine PureFn.intro mixed (fn := Try.f51) rfl rfl rfl fun M w0 => ?_
  (try (conv => whnf)); repeat' (first | (apply And.intro <;> (try (conv => whnf))) | (intro h; first | (with_reducible exact tf0 h) | (with_reducible exact ft0 h) | (with_reducible exact nt0 h) | (with_reducible exact nf0 h) | (exact litz h rfl) | (with_reducible exact tf h (by with_reducible assumption)) | (with_reducible exact tf (by with_reducible assumption) h) | (try (conv => whnf))) | (with_reducible rfl) | (apply True.intro) | (apply infoT; rfl) | (apply bleI; rfl) | (apply fitI; rfl) | (apply cellsI; rfl) | (apply szI; rfl) | (apply guardI; kernel_rfl) | (apply WhenQ.mk; (try (conv => whnf)); rotate_left; (try (conv => whnf)); rotate_right) | (with_reducible assumption) | (apply not_of; with_reducible assumption) | (apply left_of; with_reducible assumption) | (apply left_of; apply left_of; with_reducible assumption) | (apply and_of <;> first | (with_reducible assumption) | (apply not_of; with_reducible assumption))| (refine lin_plan (by kernel_rfl) ?_; (try (conv => whnf))) | (refine ⟨_, _, rfl, idx_map (by with_reducible assumption), rfl, ?_⟩; (try (conv => whnf))) | (refine ⟨rfl, ?_⟩; (try (conv => whnf))) | (exact Nat.le_refl 1) | ((apply ex3); (focus (with_reducible assumption)); (focus (with_reducible assumption)); (try (conv => whnf))) | ((apply ex2); (focus (with_reducible assumption)); (try (conv => whnf))) | (refine PureFn.dcq (f := 81) rfl ?_; (try (conv => whnf))) | ((refine ⟨_, _, hB, ?_, ?_⟩); (focus (first | (refine ⟨?_, ?_, trivial⟩ <;> first | (exact PLe.refl _) | (exact PLe.nil)) | (exact trivial))); (try (conv => whnf))) | (refine ⟨_, (by (conv => whnf); exact hB), rfl, ?_⟩; (try (conv => whnf))) | fail)
  exact .refl _
theorem bit64_zero {s v : Nat} (hs : s < 2 ^ 62) (hv : v ≤ 64) : (and64 (shr64 s v) 1 == 0) = !s.testBit v := by
  rw [bit64_and hs hv]; cases s.testBit v <;> rfl
theorem bit64_r0 {s v : Nat} (hv : v ≤ 64) : ((shr64 s v).tmod 2 == 0) = !s.testBit v := by
  rw [bit64_rem hv]; cases s.testBit v <;> rfl
theorem le_nilF (e : Int) : PLe (.tup [.nil, .int .i64 e]) (pairF ([], e)) := by
  refine .tup _ _ rfl fun i p q hp hq => ?_
  match i with
  | 0 => simp at hp hq; subst hp; subst hq; exact .nil
  | 1 => simp at hp hq; subst hp; subst hq; exact .refl _
  | i + 2 => simp at hp
theorem cases_t {s n i : Nat} (h : s.testBit i = true) : (casesL s n (i + 1)).map fpv = (casesL s n i).map fpv ++ [fpv (caseL i n)] := by rw [casesL, h]; simp
theorem cases_f {s n i : Nat} (h : s.testBit i = false) : casesL s n (i + 1) = casesL s n i := by rw [casesL, h]; rfl
theorem bs_Formula (s : Nat) (facts : Int) (hs : s < 2 ^ 64) : PureFn Try.prog 14 [u64 s, .int .i64 facts] (pairF (formulaI s facts)) := by
  refine PureFn.introC [16] mixed (fn := Try.f14) rfl rfl rfl fun M w0 => ?_
  (try (conv => whnf)); repeat' (first | (apply And.intro <;> (try (conv => whnf))) | (intro h; first | (with_reducible exact tf0 h) | (with_reducible exact ft0 h) | (with_reducible exact nt0 h) | (with_reducible exact nf0 h) | (exact litz h rfl) | (with_reducible exact tf h (by with_reducible assumption)) | (with_reducible exact tf (by with_reducible assumption) h) | (try (conv => whnf))) | (with_reducible rfl) | (apply True.intro) | (apply infoT; rfl) | (apply bleI; rfl) | (apply fitI; rfl) | (apply cellsI; rfl) | (apply szI; rfl) | (apply guardI; kernel_rfl) | (apply WhenQ.mk; (try (conv => whnf)); rotate_left; (try (conv => whnf)); rotate_right) | (with_reducible assumption) | (apply not_of; with_reducible assumption) | (apply left_of; with_reducible assumption) | (apply left_of; apply left_of; with_reducible assumption) | (apply and_of <;> first | (with_reducible assumption) | (apply not_of; with_reducible assumption))| (refine lin_plan (by kernel_rfl) ?_; (try (conv => whnf))) | (refine ⟨_, _, rfl, idx_map (by with_reducible assumption), rfl, ?_⟩; (try (conv => whnf))) | (refine ⟨rfl, ?_⟩; (try (conv => whnf))) | (exact Nat.le_refl 1) | ((apply ex3); (focus (with_reducible assumption)); (focus (with_reducible assumption)); (try (conv => whnf))) | ((apply ex2); (focus (with_reducible assumption)); (try (conv => whnf))) | (refine PureFn.dcq (f := 17) rfl ?_; (try (conv => whnf))) | ((refine ⟨_, _, bs_Check ?_ ?_ ?_, ?_, ?_⟩); rotate_left 3; (focus (first | (refine ⟨?_, ?_, trivial⟩ <;> first | (exact PLe.refl _) | (exact PLe.nil)) | (exact trivial))); (try (conv => whnf))) | (refine ⟨_, (by (conv => whnf); exact bs_Check _ _ _), rfl, ?_⟩; (try (conv => whnf))) | fail)
  · rw [foI1 h]; exact le_nilF _
  · exact posC h
  rw [foI2 h]
  obtain ⟨n, rfl, hn, hs2⟩ := bchk_ok (s := s) (facts := facts) (by simpa using h)
  have h16 := (vals_le hn).2
  have hs6 := sets_le hn
  have hsh := shl_n hn
  rw [Int.toNat_natCast]
  refine ⟨{ i : Nat // i ≤ 2 ^ n }, fun i => [(0, .pv (u64 s)), (1, .pv (i64 n)), (7, .buf 0 ((casesL s n i.1).map fpv).length), (19, .pv (i64 (2 ^ n))), (20, .pv (i64 i.1))], fun _ => 1, fun i => [(0, .arr 1 ((casesL s n i.1).map fpv))], fun i => 2 ^ n - i.1, ⟨⟨0, Nat.zero_le _⟩, ?_⟩, ?_⟩
  · (refine Wk.of ?_ ?_ rfl rfl rfl <;> (repeat' (first | (exact trivial) | (exact WkD.same _) | (exact WkO.same _ _ rfl) | (exact WkD.any _) | (refine WkD.int ?_) | (exact WkD.new' rfl rfl rfl) | (exact WkO.new _ _ rfl) | (refine WkO.vars rfl ?_) | (with_reducible rfl) | (exact rfl) | (refine ⟨?_, ?_⟩) | ((refine wrapA ?_ ?_ ?_); (focus (simp; done)); (focus ((try dsimp only); omega)); (focus ((try dsimp only); omega))) | fail)))
    all_goals exact hsh
  rintro ⟨i, hi⟩
  have hcl := cases_len s n i
  have hAny := fm_Any (casesL s n i) (by omega)
  (try (conv => whnf)); repeat' (first | (apply And.intro <;> (try (conv => whnf))) | (intro h; first | (with_reducible exact tf0 h) | (with_reducible exact ft0 h) | (with_reducible exact nt0 h) | (with_reducible exact nf0 h) | (exact litz h rfl) | (with_reducible exact tf h (by with_reducible assumption)) | (with_reducible exact tf (by with_reducible assumption) h) | (try (conv => whnf))) | (with_reducible rfl) | (apply True.intro) | (apply infoT; rfl) | (apply bleI; rfl) | (apply fitI; rfl) | (apply cellsI; rfl) | (apply szI; rfl) | (apply guardI; kernel_rfl) | (apply WhenQ.mk; (try (conv => whnf)); rotate_left; (try (conv => whnf)); rotate_right) | (with_reducible assumption) | (apply not_of; with_reducible assumption) | (apply left_of; with_reducible assumption) | (apply left_of; apply left_of; with_reducible assumption) | (apply and_of <;> first | (with_reducible assumption) | (apply not_of; with_reducible assumption))| (refine lin_plan (by kernel_rfl) ?_; (try (conv => whnf))) | (refine ⟨_, _, rfl, idx_map (by with_reducible assumption), rfl, ?_⟩; (try (conv => whnf))) | (refine ⟨rfl, ?_⟩; (try (conv => whnf))) | (exact Nat.le_refl 1) | ((apply ex3); (focus (with_reducible assumption)); (focus (with_reducible assumption)); (try (conv => whnf))) | ((apply ex2); (focus (with_reducible assumption)); (try (conv => whnf))) | (refine PureFn.dcq (f := 48) rfl ?_; (try (conv => whnf))) | ((refine ⟨_, _, hAny, ?_, ?_⟩); (focus (first | (refine ⟨?_, trivial⟩ <;> first | (exact PLe.refl _) | (exact PLe.nil)) | (exact trivial))); (try (conv => whnf))) | (refine ⟨_, (by (conv => whnf); exact hAny), rfl, ?_⟩; (try (conv => whnf))) | fail)
  · exact Int.natCast_nonneg _
  · rename_i h1
    have hi' : i < 2 ^ n := lt_dec h1
    have ht : s.testBit i = false := by simpa using (bit_zero (s := s) (v := i) (by omega) (by omega)).symm.trans h
    refine ⟨⟨i + 1, hi'⟩, by show 2 ^ n - (i + 1) < 2 ^ n - i; omega, ?_⟩
    have e := cases_f (n := n) ht
    (refine Wk.of ?_ ?_ rfl rfl rfl <;> (repeat' (first | (exact trivial) | (exact WkD.same _) | (exact WkO.same _ _ rfl) | (exact WkD.any _) | (refine WkD.int ?_) | (exact WkD.new' rfl rfl rfl) | (exact WkO.new _ _ rfl) | (refine WkO.vars rfl ?_) | (with_reducible rfl) | (exact rfl) | (refine ⟨?_, ?_⟩) | ((refine wrapA ?_ ?_ ?_); (focus (simp; done)); (focus ((try dsimp only); omega)); (focus ((try dsimp only); omega))) | fail)))
    · exact WkD.eq (congrArg (fun z => DV.buf 0 (List.map fpv z).length) e.symm)
    · exact WkO.same _ _ (congrArg (fun z => some (DObj.arr 1 (List.map fpv z))) e.symm)
  · rename_i h1
    have hi' : i < 2 ^ n := lt_dec h1
    have ht : s.testBit i = true := by simpa using (bit_zero (s := s) (v := i) (by omega) (by omega)).symm.trans h
    have hct := cases_t (n := n) ht
    have hcz := cases_len s n i
    obtain ⟨Cs, hCs⟩ : ∃ Cs, Cs = (casesL s n i).map fpv := ⟨_, rfl⟩
    rw [← hCs] at hct
    have hCl : Cs.length ≤ 16 := by rw [hCs, List.length_map]; omega
    refine ⟨{ j : Nat // j ≤ n }, fun j => [(0, .pv (u64 s)), (1, .pv (i64 n)), (7, .buf 0 Cs.length), (8, .pv (i64 i)), (9, .buf 1 ((lits i j.1).map fpv).length), (19, .pv (i64 (2 ^ n))), (20, .pv (i64 i)), (28, .pv (i64 n)), (29, .pv (i64 j.1))], fun _ => 2, fun j => [(0, .arr 1 Cs), (1, .arr 1 ((lits i j.1).map fpv))], fun j => n - j.1, ⟨⟨0, Nat.zero_le _⟩, ?_⟩, ?_⟩
    · (refine Wk.of ?_ ?_ rfl rfl rfl <;> (repeat' (first | (exact trivial) | (exact WkD.same _) | (exact WkO.same _ _ rfl) | (exact WkD.any _) | (refine WkD.int ?_) | (exact WkD.new' rfl rfl rfl) | (exact WkO.new _ _ rfl) | (refine WkO.vars rfl ?_) | (with_reducible rfl) | (exact rfl) | (refine ⟨?_, ?_⟩) | ((refine wrapA ?_ ?_ ?_); (focus (simp; done)); (focus ((try dsimp only); omega)); (focus ((try dsimp only); omega))) | fail)))
      · exact WkD.eq (congrArg (fun z : List PV => DV.buf 0 z.length) hCs.symm)
      · exact WkO.same _ _ (congrArg (fun z => some (DObj.arr 1 z)) hCs.symm)
    rintro ⟨j, hj⟩
    have hF : PureFn Try.prog 31 [.int .i64 (j : Int)] (fpv (factL j)) := fm_Fact j
    have hN : PureFn Try.prog 36 [fpv (factL j)] (fpv (notL (factL j))) := fm_Not _
    have hAll : PureFn Try.prog 47 [.sl ((lits i j).map fpv)] (fpv (joinL 5 (buildL (n0 1) []) (lits i j))) := fm_All (lits i j) (by rw [lits_len]; omega)
    (try (conv => whnf)); repeat' (first | (apply And.intro <;> (try (conv => whnf))) | (intro h; first | (with_reducible exact tf0 h) | (with_reducible exact ft0 h) | (with_reducible exact nt0 h) | (with_reducible exact nf0 h) | (exact litz h rfl) | (with_reducible exact tf h (by with_reducible assumption)) | (with_reducible exact tf (by with_reducible assumption) h) | (try (conv => whnf))) | (with_reducible rfl) | (apply True.intro) | (apply infoT; rfl) | (apply bleI; rfl) | (apply fitI; rfl) | (apply cellsI; rfl) | (apply szI; rfl) | (apply guardI; kernel_rfl) | (apply WhenQ.mk; (try (conv => whnf)); rotate_left; (try (conv => whnf)); rotate_right) | (with_reducible assumption) | (apply not_of; with_reducible assumption) | (apply left_of; with_reducible assumption) | (apply left_of; apply left_of; with_reducible assumption) | (apply and_of <;> first | (with_reducible assumption) | (apply not_of; with_reducible assumption))| (refine lin_plan (by kernel_rfl) ?_; (try (conv => whnf))) | (refine ⟨_, _, rfl, idx_map (by with_reducible assumption), rfl, ?_⟩; (try (conv => whnf))) | (refine ⟨rfl, ?_⟩; (try (conv => whnf))) | (exact Nat.le_refl 1) | ((apply ex3); (focus (with_reducible assumption)); (focus (with_reducible assumption)); (try (conv => whnf))) | ((apply ex2); (focus (with_reducible assumption)); (try (conv => whnf))) | (refine PureFn.dcq (f := 47) rfl ?_; (try (conv => whnf))) | ((refine ⟨_, _, hAll, ?_, ?_⟩); (focus (first | (refine ⟨?_, trivial⟩ <;> first | (exact PLe.refl _) | (exact PLe.nil)) | (exact trivial))); (try (conv => whnf))) | (refine ⟨_, (by (conv => whnf); exact hAll), rfl, ?_⟩; (try (conv => whnf))) | fail)
    · have hj' : j < n := lt_dec h
      have hb0 : (and64 (shr64 i j) 1 == 0) = !i.testBit j := bit64_zero (by omega) (by omega)
      (try (conv => whnf)); repeat' (first | (apply And.intro <;> (try (conv => whnf))) | (intro h; first | (with_reducible exact tf0 h) | (with_reducible exact ft0 h) | (with_reducible exact nt0 h) | (with_reducible exact nf0 h) | (exact litz h rfl) | (with_reducible exact tf h (by with_reducible assumption)) | (with_reducible exact tf (by with_reducible assumption) h) | (try (conv => whnf))) | (with_reducible rfl) | (apply True.intro) | (apply infoT; rfl) | (apply bleI; rfl) | (apply fitI; rfl) | (apply cellsI; rfl) | (apply szI; rfl) | (apply guardI; kernel_rfl) | (apply WhenQ.mk; (try (conv => whnf)); rotate_left; (try (conv => whnf)); rotate_right) | (with_reducible assumption) | (apply not_of; with_reducible assumption) | (apply left_of; with_reducible assumption) | (apply left_of; apply left_of; with_reducible assumption) | (apply and_of <;> first | (with_reducible assumption) | (apply not_of; with_reducible assumption))| (refine lin_plan (by kernel_rfl) ?_; (try (conv => whnf))) | (refine ⟨_, _, rfl, idx_map (by with_reducible assumption), rfl, ?_⟩; (try (conv => whnf))) | (refine ⟨rfl, ?_⟩; (try (conv => whnf))) | (exact Nat.le_refl 1) | ((apply ex3); (focus (with_reducible assumption)); (focus (with_reducible assumption)); (try (conv => whnf))) | ((apply ex2); (focus (with_reducible assumption)); (try (conv => whnf))) | (refine PureFn.dcq (f := 31) rfl ?_; (try (conv => whnf))) | ((refine ⟨_, _, hF, ?_, ?_⟩); (focus (first | (refine ⟨?_, trivial⟩ <;> first | (exact PLe.refl _) | (exact PLe.nil)) | (exact trivial))); (try (conv => whnf))) | (refine ⟨_, (by (conv => whnf); exact hF), rfl, ?_⟩; (try (conv => whnf))) | fail)
      refine ⟨Unit, fun _ => [(0, .pv (u64 s)), (1, .pv (i64 n)), (7, .buf 0 Cs.length), (8, .pv (i64 i)), (9, .buf 1 ((lits i j).map fpv).length), (11, .pv (fpv (lit j i))), (19, .pv (i64 (2 ^ n))), (20, .pv (i64 i)), (28, .pv (i64 n)), (29, .pv (i64 j))], fun _ => 2, fun _ => [(0, .arr 1 Cs), (1, .arr 1 ((lits i j).map fpv))], ?_, ?_⟩
      · (try (conv => whnf)); repeat' (first | (apply And.intro <;> (try (conv => whnf))) | (intro h; first | (with_reducible exact tf0 h) | (with_reducible exact ft0 h) | (with_reducible exact nt0 h) | (with_reducible exact nf0 h) | (exact litz h rfl) | (with_reducible exact tf h (by with_reducible assumption)) | (with_reducible exact tf (by with_reducible assumption) h) | (try (conv => whnf))) | (with_reducible rfl) | (apply True.intro) | (apply infoT; rfl) | (apply bleI; rfl) | (apply fitI; rfl) | (apply cellsI; rfl) | (apply szI; rfl) | (apply guardI; kernel_rfl) | (apply WhenQ.mk; (try (conv => whnf)); rotate_left; (try (conv => whnf)); rotate_right) | (with_reducible assumption) | (apply not_of; with_reducible assumption) | (apply left_of; with_reducible assumption) | (apply left_of; apply left_of; with_reducible assumption) | (apply and_of <;> first | (with_reducible assumption) | (apply not_of; with_reducible assumption))| (refine lin_plan (by kernel_rfl) ?_; (try (conv => whnf))) | (refine ⟨_, _, rfl, idx_map (by with_reducible assumption), rfl, ?_⟩; (try (conv => whnf))) | (refine ⟨rfl, ?_⟩; (try (conv => whnf))) | (exact Nat.le_refl 1) | ((apply ex3); (focus (with_reducible assumption)); (focus (with_reducible assumption)); (try (conv => whnf))) | ((apply ex2); (focus (with_reducible assumption)); (try (conv => whnf))) | (refine PureFn.dcq (f := 36) rfl ?_; (try (conv => whnf))) | ((refine ⟨_, _, hN, ?_, ?_⟩); (focus (first | (refine ⟨?_, trivial⟩ <;> first | (exact PLe.refl _) | (exact PLe.nil)) | (exact trivial))); (try (conv => whnf))) | (refine ⟨_, (by (conv => whnf); exact hN), rfl, ?_⟩; (try (conv => whnf))) | fail)
        · exact Int.natCast_nonneg _
        · have hb : i.testBit j = false := by simpa using hb0.symm.trans h
          rw [lit, hb]
          exact ⟨(), (by refine Wk.of ?_ ?_ rfl rfl rfl <;> (repeat' (first | (exact trivial) | (exact WkD.same _) | (exact WkO.same _ _ rfl) | (exact WkD.any _) | (refine WkD.int ?_) | (exact WkD.new' rfl rfl rfl) | (exact WkO.new _ _ rfl) | (refine WkO.vars rfl ?_) | (with_reducible rfl) | (exact rfl) | (refine ⟨?_, ?_⟩) | ((refine wrapA ?_ ?_ ?_); (focus (simp; done)); (focus ((try dsimp only); omega)); (focus ((try dsimp only); omega))) | fail)))⟩
        · have hb : i.testBit j = true := by simpa using hb0.symm.trans h
          rw [lit, hb]
          exact ⟨(), (by refine Wk.of ?_ ?_ rfl rfl rfl <;> (repeat' (first | (exact trivial) | (exact WkD.same _) | (exact WkO.same _ _ rfl) | (exact WkD.any _) | (refine WkD.int ?_) | (exact WkD.new' rfl rfl rfl) | (exact WkO.new _ _ rfl) | (refine WkO.vars rfl ?_) | (with_reducible rfl) | (exact rfl) | (refine ⟨?_, ?_⟩) | ((refine wrapA ?_ ?_ ?_); (focus (simp; done)); (focus ((try dsimp only); omega)); (focus ((try dsimp only); omega))) | fail)))⟩
      · rintro ⟨⟩
        (try (conv => whnf)); repeat' (first | (apply And.intro <;> (try (conv => whnf))) | (intro h; first | (with_reducible exact tf0 h) | (with_reducible exact ft0 h) | (with_reducible exact nt0 h) | (with_reducible exact nf0 h) | (exact litz h rfl) | (with_reducible exact tf h (by with_reducible assumption)) | (with_reducible exact tf (by with_reducible assumption) h) | (try (conv => whnf))) | (with_reducible rfl) | (apply True.intro) | (apply infoT; rfl) | (apply bleI; rfl) | (apply fitI; rfl) | (apply cellsI; rfl) | (apply szI; rfl) | (apply guardI; kernel_rfl) | (apply WhenQ.mk; (try (conv => whnf)); rotate_left; (try (conv => whnf)); rotate_right) | (with_reducible assumption) | (apply not_of; with_reducible assumption) | (apply left_of; with_reducible assumption) | (apply left_of; apply left_of; with_reducible assumption) | (apply and_of <;> first | (with_reducible assumption) | (apply not_of; with_reducible assumption))| (refine lin_plan (by kernel_rfl) ?_; (try (conv => whnf))) | (refine ⟨_, _, rfl, idx_map (by with_reducible assumption), rfl, ?_⟩; (try (conv => whnf))) | (refine ⟨rfl, ?_⟩; (try (conv => whnf))) | (exact Nat.le_refl 1) | ((apply ex3); (focus (with_reducible assumption)); (focus (with_reducible assumption)); (try (conv => whnf))) | ((apply ex2); (focus (with_reducible assumption)); (try (conv => whnf))) | fail)
        · show _ ≤ 4294967296
          rw [List.length_map, lits_len]; simp; omega
        · refine ⟨⟨j + 1, hj'⟩, by show n - (j + 1) < n - j; omega, ?_⟩
          (refine Wk.of ?_ ?_ rfl rfl rfl <;> (repeat' (first | (exact trivial) | (exact WkD.same _) | (exact WkO.same _ _ rfl) | (exact WkD.any _) | (refine WkD.int ?_) | (exact WkD.new' rfl rfl rfl) | (exact WkO.new _ _ rfl) | (refine WkO.vars rfl ?_) | (with_reducible rfl) | (exact rfl) | (refine ⟨?_, ?_⟩) | ((refine wrapA ?_ ?_ ?_); (focus (simp; done)); (focus ((try dsimp only); omega)); (focus ((try dsimp only); omega))) | fail)))
          · exact WkD.eq (congrArg (fun z : List PV => DV.buf 1 z.length) (lits_succ i j).symm)
          · exact WkO.same _ _ (congrArg (fun z => some (DObj.arr 1 z)) (lits_succ i j).symm)
    · show _ ≤ 4294967296
      simp; omega
    · have hj' : j = n := ge_dec h hj
      subst hj'
      refine ⟨⟨i + 1, hi'⟩, by show 2 ^ j - (i + 1) < 2 ^ j - i; omega, ?_⟩
      (refine Wk.of ?_ ?_ rfl rfl rfl <;> (repeat' (first | (exact trivial) | (exact WkD.same _) | (exact WkO.same _ _ rfl) | (exact WkD.any _) | (refine WkD.int ?_) | (exact WkD.new' rfl rfl rfl) | (exact WkO.new _ _ rfl) | (refine WkO.vars rfl ?_) | (with_reducible rfl) | (exact rfl) | (refine ⟨?_, ?_⟩) | ((refine wrapA ?_ ?_ ?_); (focus (simp; done)); (focus ((try dsimp only); omega)); (focus ((try dsimp only); omega))) | fail)))
      · exact WkD.eq (congrArg (fun z : List PV => DV.buf 0 z.length) hct.symm)
      · exact WkO.same _ _ (congrArg (fun z => some (DObj.arr 1 z)) hct.symm)
  · have hi' : i = 2 ^ n := ge_dec h hi
    subst hi'
    exact .refl _
theorem rb_Formula (s : Nat) (facts : Int) (hs : s < 2 ^ 64) : PureFn Try.prog 15 [u64 s, .int .i64 facts] (pairF (formulaI s facts)) := by
  refine PureFn.introC [16] mixed (fn := Try.f15) rfl rfl rfl fun M w0 => ?_
  (try (conv => whnf)); repeat' (first | (apply And.intro <;> (try (conv => whnf))) | (intro h; first | (with_reducible exact tf0 h) | (with_reducible exact ft0 h) | (with_reducible exact nt0 h) | (with_reducible exact nf0 h) | (exact litz h rfl) | (with_reducible exact tf h (by with_reducible assumption)) | (with_reducible exact tf (by with_reducible assumption) h) | (try (conv => whnf))) | (with_reducible rfl) | (apply True.intro) | (apply infoT; rfl) | (apply bleI; rfl) | (apply fitI; rfl) | (apply cellsI; rfl) | (apply szI; rfl) | (apply guardI; kernel_rfl) | (apply WhenQ.mk; (try (conv => whnf)); rotate_left; (try (conv => whnf)); rotate_right) | (with_reducible assumption) | (apply not_of; with_reducible assumption) | (apply left_of; with_reducible assumption) | (apply left_of; apply left_of; with_reducible assumption) | (apply and_of <;> first | (with_reducible assumption) | (apply not_of; with_reducible assumption))| (refine lin_plan (by kernel_rfl) ?_; (try (conv => whnf))) | (refine ⟨_, _, rfl, idx_map (by with_reducible assumption), rfl, ?_⟩; (try (conv => whnf))) | (refine ⟨rfl, ?_⟩; (try (conv => whnf))) | (exact Nat.le_refl 1) | ((apply ex3); (focus (with_reducible assumption)); (focus (with_reducible assumption)); (try (conv => whnf))) | ((apply ex2); (focus (with_reducible assumption)); (try (conv => whnf))) | (refine PureFn.dcq (f := 18) rfl ?_; (try (conv => whnf))) | ((refine ⟨_, _, rb_Check ?_ ?_ ?_, ?_, ?_⟩); rotate_left 3; (focus (first | (refine ⟨?_, ?_, trivial⟩ <;> first | (exact PLe.refl _) | (exact PLe.nil)) | (exact trivial))); (try (conv => whnf))) | (refine ⟨_, (by (conv => whnf); exact rb_Check _ _ _), rfl, ?_⟩; (try (conv => whnf))) | fail)
  · rw [foI1 h]; exact le_nilF _
  rw [foI2 h]
  obtain ⟨n, rfl, hn, hs2⟩ := bchk_ok (s := s) (facts := facts) (by simpa using h)
  have h16 := (vals_le hn).2
  have hs6 := sets_le hn
  have hsh := shl_n hn
  rw [Int.toNat_natCast]
  refine ⟨{ i : Nat // i ≤ 2 ^ n }, fun i => [(0, .pv (u64 s)), (1, .pv (i64 n)), (7, .buf 0 ((casesL s n i.1).map fpv).length), (8, .pv (i64 i.1))], fun _ => 1, fun i => [(0, .arr 1 ((casesL s n i.1).map fpv))], fun i => 2 ^ n - i.1, ⟨⟨0, Nat.zero_le _⟩, (by refine Wk.of ?_ ?_ rfl rfl rfl <;> (repeat' (first | (exact trivial) | (exact WkD.same _) | (exact WkO.same _ _ rfl) | (exact WkD.any _) | (refine WkD.int ?_) | (exact WkD.new' rfl rfl rfl) | (exact WkO.new _ _ rfl) | (refine WkO.vars rfl ?_) | (with_reducible rfl) | (exact rfl) | (refine ⟨?_, ?_⟩) | ((refine wrapA ?_ ?_ ?_); (focus (simp; done)); (focus ((try dsimp only); omega)); (focus ((try dsimp only); omega))) | fail)))⟩, ?_⟩
  rintro ⟨i, hi⟩
  have hcl := cases_len s n i
  have hAny := ref_Any (casesL s n i) (by omega)
  have hH := rb_Has s i (by omega)
  (try (conv => whnf)); repeat' (first | (apply And.intro <;> (try (conv => whnf))) | (intro h; first | (with_reducible exact tf0 h) | (with_reducible exact ft0 h) | (with_reducible exact nt0 h) | (with_reducible exact nf0 h) | (exact litz h rfl) | (with_reducible exact tf h (by with_reducible assumption)) | (with_reducible exact tf (by with_reducible assumption) h) | (try (conv => whnf))) | (with_reducible rfl) | (apply True.intro) | (apply infoT; rfl) | (apply bleI; rfl) | (apply fitI; rfl) | (apply cellsI; rfl) | (apply szI; rfl) | (apply guardI; kernel_rfl) | (apply WhenQ.mk; (try (conv => whnf)); rotate_left; (try (conv => whnf)); rotate_right) | (with_reducible assumption) | (apply not_of; with_reducible assumption) | (apply left_of; with_reducible assumption) | (apply left_of; apply left_of; with_reducible assumption) | (apply and_of <;> first | (with_reducible assumption) | (apply not_of; with_reducible assumption))| (refine lin_plan (by kernel_rfl) ?_; (try (conv => whnf))) | (refine ⟨_, _, rfl, idx_map (by with_reducible assumption), rfl, ?_⟩; (try (conv => whnf))) | (refine ⟨rfl, ?_⟩; (try (conv => whnf))) | (exact Nat.le_refl 1) | ((apply ex3); (focus (with_reducible assumption)); (focus (with_reducible assumption)); (try (conv => whnf))) | ((apply ex2); (focus (with_reducible assumption)); (try (conv => whnf))) | (refine PureFn.dcq (f := 53) rfl ?_; (try (conv => whnf))) | (refine PureFn.dcq (f := 49) rfl ?_; (try (conv => whnf))) | ((refine ⟨_, _, hAny, ?_, ?_⟩); (focus (first | (refine ⟨?_, trivial⟩ <;> first | (exact PLe.refl _) | (exact PLe.nil)) | (exact trivial))); (try (conv => whnf))) | (refine ⟨_, (by (conv => whnf); exact hAny), rfl, ?_⟩; (try (conv => whnf))) | ((refine ⟨_, _, hH, ?_, ?_⟩); (focus (first | (refine ⟨?_, ?_, trivial⟩ <;> first | (exact PLe.refl _) | (exact PLe.nil)) | (exact trivial))); (try (conv => whnf))) | (refine ⟨_, (by (conv => whnf); exact hH), rfl, ?_⟩; (try (conv => whnf))) | fail)
  · exact Int.natCast_nonneg _
  · rename_i h1
    have hi' : i < 2 ^ n := lt_dec (lim hsh h1)
    have ht : s.testBit i = false := by simpa using h
    refine ⟨⟨i + 1, hi'⟩, by show 2 ^ n - (i + 1) < 2 ^ n - i; omega, ?_⟩
    have e := cases_f (n := n) ht
    (refine Wk.of ?_ ?_ rfl rfl rfl <;> (repeat' (first | (exact trivial) | (exact WkD.same _) | (exact WkO.same _ _ rfl) | (exact WkD.any _) | (refine WkD.int ?_) | (exact WkD.new' rfl rfl rfl) | (exact WkO.new _ _ rfl) | (refine WkO.vars rfl ?_) | (with_reducible rfl) | (exact rfl) | (refine ⟨?_, ?_⟩) | ((refine wrapA ?_ ?_ ?_); (focus (simp; done)); (focus ((try dsimp only); omega)); (focus ((try dsimp only); omega))) | fail)))
    · exact WkD.eq (congrArg (fun z => DV.buf 0 (List.map fpv z).length) e.symm)
    · exact WkO.same _ _ (congrArg (fun z => some (DObj.arr 1 (List.map fpv z))) e.symm)
  · rename_i h1
    have hi' : i < 2 ^ n := lt_dec (lim hsh h1)
    have ht : s.testBit i = true := by simpa using h
    have hct := cases_t (n := n) ht
    have hcz := cases_len s n i
    obtain ⟨Cs, hCs⟩ : ∃ Cs, Cs = (casesL s n i).map fpv := ⟨_, rfl⟩
    rw [← hCs] at hct
    have hCl : Cs.length ≤ 16 := by rw [hCs, List.length_map]; omega
    refine ⟨{ j : Nat // j ≤ n }, fun j => [(0, .pv (u64 s)), (1, .pv (i64 n)), (7, .buf 0 Cs.length), (8, .pv (i64 i)), (9, .buf 1 ((lits i j.1).map fpv).length), (10, .pv (i64 j.1))], fun _ => 2, fun j => [(0, .arr 1 Cs), (1, .arr 1 ((lits i j.1).map fpv))], fun j => n - j.1, ⟨⟨0, Nat.zero_le _⟩, ?_⟩, ?_⟩
    · (refine Wk.of ?_ ?_ rfl rfl rfl <;> (repeat' (first | (exact trivial) | (exact WkD.same _) | (exact WkO.same _ _ rfl) | (exact WkD.any _) | (refine WkD.int ?_) | (exact WkD.new' rfl rfl rfl) | (exact WkO.new _ _ rfl) | (refine WkO.vars rfl ?_) | (with_reducible rfl) | (exact rfl) | (refine ⟨?_, ?_⟩) | ((refine wrapA ?_ ?_ ?_); (focus (simp; done)); (focus ((try dsimp only); omega)); (focus ((try dsimp only); omega))) | fail)))
      · exact WkD.eq (congrArg (fun z : List PV => DV.buf 0 z.length) hCs.symm)
      · exact WkO.same _ _ (congrArg (fun z => some (DObj.arr 1 z)) hCs.symm)
    rintro ⟨j, hj⟩
    have hF : PureFn Try.prog 50 [.int .i64 (j : Int)] (fpv (factL j)) := rb_Fact j
    have hN : PureFn Try.prog 51 [fpv (factL j)] (fpv (notL (factL j))) := rb_Not _
    have hAll : PureFn Try.prog 52 [.sl ((lits i j).map fpv)] (fpv (joinL 5 (buildL (n0 1) []) (lits i j))) := ref_All (lits i j) (by rw [lits_len]; omega)
    (try (conv => whnf)); repeat' (first | (apply And.intro <;> (try (conv => whnf))) | (intro h; first | (with_reducible exact tf0 h) | (with_reducible exact ft0 h) | (with_reducible exact nt0 h) | (with_reducible exact nf0 h) | (exact litz h rfl) | (with_reducible exact tf h (by with_reducible assumption)) | (with_reducible exact tf (by with_reducible assumption) h) | (try (conv => whnf))) | (with_reducible rfl) | (apply True.intro) | (apply infoT; rfl) | (apply bleI; rfl) | (apply fitI; rfl) | (apply cellsI; rfl) | (apply szI; rfl) | (apply guardI; kernel_rfl) | (apply WhenQ.mk; (try (conv => whnf)); rotate_left; (try (conv => whnf)); rotate_right) | (with_reducible assumption) | (apply not_of; with_reducible assumption) | (apply left_of; with_reducible assumption) | (apply left_of; apply left_of; with_reducible assumption) | (apply and_of <;> first | (with_reducible assumption) | (apply not_of; with_reducible assumption))| (refine lin_plan (by kernel_rfl) ?_; (try (conv => whnf))) | (refine ⟨_, _, rfl, idx_map (by with_reducible assumption), rfl, ?_⟩; (try (conv => whnf))) | (refine ⟨rfl, ?_⟩; (try (conv => whnf))) | (exact Nat.le_refl 1) | ((apply ex3); (focus (with_reducible assumption)); (focus (with_reducible assumption)); (try (conv => whnf))) | ((apply ex2); (focus (with_reducible assumption)); (try (conv => whnf))) | (refine PureFn.dcq (f := 52) rfl ?_; (try (conv => whnf))) | ((refine ⟨_, _, hAll, ?_, ?_⟩); (focus (first | (refine ⟨?_, trivial⟩ <;> first | (exact PLe.refl _) | (exact PLe.nil)) | (exact trivial))); (try (conv => whnf))) | (refine ⟨_, (by (conv => whnf); exact hAll), rfl, ?_⟩; (try (conv => whnf))) | fail)
    · have hj' : j < n := lt_dec h
      have hb0 : ((shr64 i j).tmod 2 == 0) = !i.testBit j := bit64_r0 (by omega)
      (try (conv => whnf)); repeat' (first | (apply And.intro <;> (try (conv => whnf))) | (intro h; first | (with_reducible exact tf0 h) | (with_reducible exact ft0 h) | (with_reducible exact nt0 h) | (with_reducible exact nf0 h) | (exact litz h rfl) | (with_reducible exact tf h (by with_reducible assumption)) | (with_reducible exact tf (by with_reducible assumption) h) | (try (conv => whnf))) | (with_reducible rfl) | (apply True.intro) | (apply infoT; rfl) | (apply bleI; rfl) | (apply fitI; rfl) | (apply cellsI; rfl) | (apply szI; rfl) | (apply guardI; kernel_rfl) | (apply WhenQ.mk; (try (conv => whnf)); rotate_left; (try (conv => whnf)); rotate_right) | (with_reducible assumption) | (apply not_of; with_reducible assumption) | (apply left_of; with_reducible assumption) | (apply left_of; apply left_of; with_reducible assumption) | (apply and_of <;> first | (with_reducible assumption) | (apply not_of; with_reducible assumption))| (refine lin_plan (by kernel_rfl) ?_; (try (conv => whnf))) | (refine ⟨_, _, rfl, idx_map (by with_reducible assumption), rfl, ?_⟩; (try (conv => whnf))) | (refine ⟨rfl, ?_⟩; (try (conv => whnf))) | (exact Nat.le_refl 1) | ((apply ex3); (focus (with_reducible assumption)); (focus (with_reducible assumption)); (try (conv => whnf))) | ((apply ex2); (focus (with_reducible assumption)); (try (conv => whnf))) | (refine PureFn.dcq (f := 50) rfl ?_; (try (conv => whnf))) | ((refine ⟨_, _, hF, ?_, ?_⟩); (focus (first | (refine ⟨?_, trivial⟩ <;> first | (exact PLe.refl _) | (exact PLe.nil)) | (exact trivial))); (try (conv => whnf))) | (refine ⟨_, (by (conv => whnf); exact hF), rfl, ?_⟩; (try (conv => whnf))) | fail)
      refine ⟨Unit, fun _ => [(0, .pv (u64 s)), (1, .pv (i64 n)), (7, .buf 0 Cs.length), (8, .pv (i64 i)), (9, .buf 1 ((lits i j).map fpv).length), (11, .pv (fpv (lit j i))), (10, .pv (i64 j))], fun _ => 2, fun _ => [(0, .arr 1 Cs), (1, .arr 1 ((lits i j).map fpv))], ?_, ?_⟩
      · (try (conv => whnf)); repeat' (first | (apply And.intro <;> (try (conv => whnf))) | (intro h; first | (with_reducible exact tf0 h) | (with_reducible exact ft0 h) | (with_reducible exact nt0 h) | (with_reducible exact nf0 h) | (exact litz h rfl) | (with_reducible exact tf h (by with_reducible assumption)) | (with_reducible exact tf (by with_reducible assumption) h) | (try (conv => whnf))) | (with_reducible rfl) | (apply True.intro) | (apply infoT; rfl) | (apply bleI; rfl) | (apply fitI; rfl) | (apply cellsI; rfl) | (apply szI; rfl) | (apply guardI; kernel_rfl) | (apply WhenQ.mk; (try (conv => whnf)); rotate_left; (try (conv => whnf)); rotate_right) | (with_reducible assumption) | (apply not_of; with_reducible assumption) | (apply left_of; with_reducible assumption) | (apply left_of; apply left_of; with_reducible assumption) | (apply and_of <;> first | (with_reducible assumption) | (apply not_of; with_reducible assumption))| (refine lin_plan (by kernel_rfl) ?_; (try (conv => whnf))) | (refine ⟨_, _, rfl, idx_map (by with_reducible assumption), rfl, ?_⟩; (try (conv => whnf))) | (refine ⟨rfl, ?_⟩; (try (conv => whnf))) | (exact Nat.le_refl 1) | ((apply ex3); (focus (with_reducible assumption)); (focus (with_reducible assumption)); (try (conv => whnf))) | ((apply ex2); (focus (with_reducible assumption)); (try (conv => whnf))) | (refine PureFn.dcq (f := 51) rfl ?_; (try (conv => whnf))) | ((refine ⟨_, _, hN, ?_, ?_⟩); (focus (first | (refine ⟨?_, trivial⟩ <;> first | (exact PLe.refl _) | (exact PLe.nil)) | (exact trivial))); (try (conv => whnf))) | (refine ⟨_, (by (conv => whnf); exact hN), rfl, ?_⟩; (try (conv => whnf))) | fail)
        · exact Int.natCast_nonneg _
        · have hb : i.testBit j = false := by simpa using hb0.symm.trans h
          rw [lit, hb]
          exact ⟨(), (by refine Wk.of ?_ ?_ rfl rfl rfl <;> (repeat' (first | (exact trivial) | (exact WkD.same _) | (exact WkO.same _ _ rfl) | (exact WkD.any _) | (refine WkD.int ?_) | (exact WkD.new' rfl rfl rfl) | (exact WkO.new _ _ rfl) | (refine WkO.vars rfl ?_) | (with_reducible rfl) | (exact rfl) | (refine ⟨?_, ?_⟩) | ((refine wrapA ?_ ?_ ?_); (focus (simp; done)); (focus ((try dsimp only); omega)); (focus ((try dsimp only); omega))) | fail)))⟩
        · have hb : i.testBit j = true := by simpa using hb0.symm.trans h
          rw [lit, hb]
          exact ⟨(), (by refine Wk.of ?_ ?_ rfl rfl rfl <;> (repeat' (first | (exact trivial) | (exact WkD.same _) | (exact WkO.same _ _ rfl) | (exact WkD.any _) | (refine WkD.int ?_) | (exact WkD.new' rfl rfl rfl) | (exact WkO.new _ _ rfl) | (refine WkO.vars rfl ?_) | (with_reducible rfl) | (exact rfl) | (refine ⟨?_, ?_⟩) | ((refine wrapA ?_ ?_ ?_); (focus (simp; done)); (focus ((try dsimp only); omega)); (focus ((try dsimp only); omega))) | fail)))⟩
      · rintro ⟨⟩
        (try (conv => whnf)); repeat' (first | (apply And.intro <;> (try (conv => whnf))) | (intro h; first | (with_reducible exact tf0 h) | (with_reducible exact ft0 h) | (with_reducible exact nt0 h) | (with_reducible exact nf0 h) | (exact litz h rfl) | (with_reducible exact tf h (by with_reducible assumption)) | (with_reducible exact tf (by with_reducible assumption) h) | (try (conv => whnf))) | (with_reducible rfl) | (apply True.intro) | (apply infoT; rfl) | (apply bleI; rfl) | (apply fitI; rfl) | (apply cellsI; rfl) | (apply szI; rfl) | (apply guardI; kernel_rfl) | (apply WhenQ.mk; (try (conv => whnf)); rotate_left; (try (conv => whnf)); rotate_right) | (with_reducible assumption) | (apply not_of; with_reducible assumption) | (apply left_of; with_reducible assumption) | (apply left_of; apply left_of; with_reducible assumption) | (apply and_of <;> first | (with_reducible assumption) | (apply not_of; with_reducible assumption))| (refine lin_plan (by kernel_rfl) ?_; (try (conv => whnf))) | (refine ⟨_, _, rfl, idx_map (by with_reducible assumption), rfl, ?_⟩; (try (conv => whnf))) | (refine ⟨rfl, ?_⟩; (try (conv => whnf))) | (exact Nat.le_refl 1) | ((apply ex3); (focus (with_reducible assumption)); (focus (with_reducible assumption)); (try (conv => whnf))) | ((apply ex2); (focus (with_reducible assumption)); (try (conv => whnf))) | fail)
        · show _ ≤ 4294967296
          rw [List.length_map, lits_len]; simp; omega
        · refine ⟨⟨j + 1, hj'⟩, by show n - (j + 1) < n - j; omega, ?_⟩
          (refine Wk.of ?_ ?_ rfl rfl rfl <;> (repeat' (first | (exact trivial) | (exact WkD.same _) | (exact WkO.same _ _ rfl) | (exact WkD.any _) | (refine WkD.int ?_) | (exact WkD.new' rfl rfl rfl) | (exact WkO.new _ _ rfl) | (refine WkO.vars rfl ?_) | (with_reducible rfl) | (exact rfl) | (refine ⟨?_, ?_⟩) | ((refine wrapA ?_ ?_ ?_); (focus (simp; done)); (focus ((try dsimp only); omega)); (focus ((try dsimp only); omega))) | fail)))
          · exact WkD.eq (congrArg (fun z : List PV => DV.buf 1 z.length) (lits_succ i j).symm)
          · exact WkO.same _ _ (congrArg (fun z => some (DObj.arr 1 z)) (lits_succ i j).symm)
    · show _ ≤ 4294967296
      simp; omega
    · have hj' : j = n := ge_dec h hj
      subst hj'
      refine ⟨⟨i + 1, hi'⟩, by show 2 ^ j - (i + 1) < 2 ^ j - i; omega, ?_⟩
      (refine Wk.of ?_ ?_ rfl rfl rfl <;> (repeat' (first | (exact trivial) | (exact WkD.same _) | (exact WkO.same _ _ rfl) | (exact WkD.any _) | (refine WkD.int ?_) | (exact WkD.new' rfl rfl rfl) | (exact WkO.new _ _ rfl) | (refine WkO.vars rfl ?_) | (with_reducible rfl) | (exact rfl) | (refine ⟨?_, ?_⟩) | ((refine wrapA ?_ ?_ ?_); (focus (simp; done)); (focus ((try dsimp only); omega)); (focus ((try dsimp only); omega))) | fail)))
      · exact WkD.eq (congrArg (fun z : List PV => DV.buf 0 z.length) hct.symm)
      · exact WkO.same _ _ (congrArg (fun z => some (DObj.arr 1 z)) hct.symm)
  · have hi' : i = 2 ^ n := ge_dec (lim hsh h) hi
    subst hi'
    exact .refl _
end Go.Proofs.Ythnfbkplkheliaa
