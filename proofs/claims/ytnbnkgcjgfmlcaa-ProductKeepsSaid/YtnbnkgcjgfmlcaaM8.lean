/- Parts of the proof, one after the other: Action models: Check, valid and Few of the reference walked. The layer Dv, part 22: what a law is given, as pure values; a law's row out of its contract. Formulas: the arguments of the laws as pure values. Belief sets: numbers and arrays as arguments of the laws. Action models: as arguments of the laws. -/
import Derived.ProofKit
import Derived.OpenShut
import Derived.Test.YtnbnkgcjgfmlcaaRows
import Derived.Test.YtnbnkgcjgfmlcaaM7
set_option maxRecDepth 100000
set_option maxHeartbeats 4000000
namespace Go.Proofs.Ytnbnkgcjgfmlcaa
open Go Go.Dv

theorem frag16 : ∀ n : Fin 512, (nand64' (n.1 : Int) 15 != 0) = (IntKind.wrap .i64 (Int.tdiv (n.1 : Int) 16) != 0) := by decide +kernel
theorem frag_q (f : List Nd) : (nand64' (frags f : Nat) 15 != 0) = (IntKind.wrap .i64 (Int.tdiv (frags f : Nat) 16) != 0) := frag16 ⟨frags f, frags_lt f⟩
theorem ra_static (f : List Nd) (ag n : Int) : PureFn Try.prog 119 [fpv f, .int .i64 ag, .int .i64 n] (.int .i64 (statI ag n f)) := by
  refine PureFn.intro mixed (fn := Try.f119) rfl rfl rfl fun M w0 => ?_
  have hq := frag_q f
  (try conv=>whnf);repeat' (first|(apply And.intro<;>try conv=>whnf)|(intro h;first|(with_reducible first|exact tf0 h|exact ft0 h|exact nt0 h|exact nf0 h)|exact litz h rfl|(with_reducible first|exact tf h (by assumption)|exact tf (by assumption) h)|try conv=>whnf)|with_reducible rfl|apply True.intro|((first|apply infoT|apply bleI|apply fitI|apply cellsI|apply szI);rfl)|(apply guardI;kernel_rfl)|(apply WhenQ.mk;(try conv=>whnf);rotate_left;(try conv=>whnf);rotate_right)|(with_reducible first|assumption|(apply not_of;assumption)|(apply left_of;assumption)|(apply left_of;apply left_of;assumption)|(apply and_of<;>first|assumption|(apply not_of;assumption)))|(refine lin_plan (by kernel_rfl) ?_;try conv=>whnf)|(refine ⟨_, _, rfl, idx_map (by with_reducible assumption), rfl, ?_⟩;try conv=>whnf)|(refine ⟨rfl, ?_⟩;try conv=>whnf)|exact Nat.le_refl 1|((first|(apply ex3;(focus with_reducible assumption);(focus with_reducible assumption))|(apply ex2;(focus with_reducible assumption)));try conv=>whnf)|(refine PureFn.dcq (f := 127) rfl ?_;try conv=>whnf)|(refine PureFn.dcq (f := 128) rfl ?_;try conv=>whnf)|(refine PureFn.dcq (f := 129) rfl ?_;try conv=>whnf)|((refine ⟨_, _, ref_Check ?_, ?_, ?_⟩);rotate_left 1;(focus (first|(refine ⟨?_, trivial⟩<;>first|exact PLe.refl _|exact PLe.nil)|exact trivial));try conv=>whnf)|(refine ⟨_, (by (conv=>whnf);exact ref_Check _), rfl, ?_⟩;try conv=>whnf)|((refine ⟨_, _, ref_Frags ?_, ?_, ?_⟩);rotate_left 1;(focus (first|(refine ⟨?_, trivial⟩<;>first|exact PLe.refl _|exact PLe.nil)|exact trivial));try conv=>whnf)|(refine ⟨_, (by (conv=>whnf);exact ref_Frags _), rfl, ?_⟩;try conv=>whnf)|((refine ⟨_, _, ref_Fits ?_ ?_ ?_, ?_, ?_⟩);rotate_left 3;(focus (first|(refine ⟨?_, ?_, ?_, trivial⟩<;>first|exact PLe.refl _|exact PLe.nil)|exact trivial));try conv=>whnf)|(refine ⟨_, (by (conv=>whnf);exact ref_Fits _ _ _), rfl, ?_⟩;try conv=>whnf)|fail)
  · refine le_int ?_
    rw [statI, h]; rfl
  · rename_i h1
    refine le_int ?_
    rw [statI, h1, hq, show (IntKind.wrap .i64 (Int.tdiv (frags f : Nat) 16) != 0) = true from h]; rfl
  · rename_i h2 h1
    refine le_int ?_
    rw [statI, h2, hq, show (IntKind.wrap .i64 (Int.tdiv (frags f : Nat) 16) != 0) = false from h1, h]; rfl
  · rename_i h2 h1
    refine le_int ?_
    rw [statI, h2, hq, show (IntKind.wrap .i64 (Int.tdiv (frags f : Nat) 16) != 0) = false from h1, h]; rfl
def evI (ag n : Int) (f : List Nd) (l : List Asg) : Int := bif statI ag n f != 0 then statI ag n f else chgs ag n l (-1)
theorem ra_event (a : Act) (e : Nat) (ag n : Int) (f : List Nd) (l : List Asg) (hn : a.pre[e]? = some f) (hm : a.post[e]? = some l) (hl : l.length ≤ 1000) : PureFn Try.prog 105 [a.pv, i64 e, .int .i64 ag, .int .i64 n] (.int .i64 (evI ag n f l)) := by
  refine PureFn.introC [4] mixed (fn := Try.f105) rfl rfl rfl fun M w0 => ?_
  have hT := ra_static f ag n
  (try conv=>whnf);repeat' (first|(apply And.intro<;>try conv=>whnf)|(intro h;first|(with_reducible first|exact tf0 h|exact ft0 h|exact nt0 h|exact nf0 h)|exact litz h rfl|(with_reducible first|exact tf h (by assumption)|exact tf (by assumption) h)|try conv=>whnf)|with_reducible rfl|apply True.intro|((first|apply infoT|apply bleI|apply fitI|apply cellsI|apply szI);rfl)|(apply guardI;kernel_rfl)|(apply WhenQ.mk;(try conv=>whnf);rotate_left;(try conv=>whnf);rotate_right)|(with_reducible first|assumption|(apply not_of;assumption)|(apply left_of;assumption)|(apply left_of;apply left_of;assumption)|(apply and_of<;>first|assumption|(apply not_of;assumption)))|(refine lin_plan (by kernel_rfl) ?_;try conv=>whnf)|(refine ⟨_, _, rfl, idx_map (by with_reducible assumption), rfl, ?_⟩;try conv=>whnf)|(refine ⟨rfl, ?_⟩;try conv=>whnf)|exact Nat.le_refl 1|((first|(apply ex3;(focus with_reducible assumption);(focus with_reducible assumption))|(apply ex2;(focus with_reducible assumption)));try conv=>whnf)|fail)
  refine ⟨{ _x : Unit // (statI ag n f != 0) = false }, fun _ => [(1, .pv (i64 e)), (2, .pv (.int .i64 ag)), (3, .pv (.int .i64 n)), (4, .ref 0 0)], fun _ => 1, fun _ => [(0, .var (cellsA a))], ?_, ?_⟩
  · (try conv=>whnf);repeat' (first|(apply And.intro<;>try conv=>whnf)|(intro h;first|(with_reducible first|exact tf0 h|exact ft0 h|exact nt0 h|exact nf0 h)|exact litz h rfl|(with_reducible first|exact tf h (by assumption)|exact tf (by assumption) h)|try conv=>whnf)|with_reducible rfl|apply True.intro|((first|apply infoT|apply bleI|apply fitI|apply cellsI|apply szI);rfl)|(apply guardI;kernel_rfl)|(apply WhenQ.mk;(try conv=>whnf);rotate_left;(try conv=>whnf);rotate_right)|(with_reducible first|assumption|(apply not_of;assumption)|(apply left_of;assumption)|(apply left_of;apply left_of;assumption)|(apply and_of<;>first|assumption|(apply not_of;assumption)))|(refine lin_plan (by kernel_rfl) ?_;try conv=>whnf)|(refine ⟨_, _, rfl, idx_map (by with_reducible assumption), rfl, ?_⟩;try conv=>whnf)|(refine ⟨rfl, ?_⟩;try conv=>whnf)|exact Nat.le_refl 1|((first|(apply ex3;(focus with_reducible assumption);(focus with_reducible assumption))|(apply ex2;(focus with_reducible assumption)));try conv=>whnf)|(refine PureFn.dcq (f := 119) rfl ?_;try conv=>whnf)|((refine ⟨_, _, hT, ?_, ?_⟩);(focus (first|(refine ⟨?_, ?_, ?_, trivial⟩<;>first|exact PLe.refl _|exact PLe.nil)|exact trivial));try conv=>whnf)|(refine ⟨_, (by (conv=>whnf);exact hT), rfl, ?_⟩;try conv=>whnf)|fail)
    · rw [evI, h]; exact .refl _
    · exact ⟨⟨(), h⟩, (by refine Wk.of ?_ ?_ rfl rfl rfl<;>(repeat' (first|exact trivial|exact WkD.same _|exact WkO.same _ _ rfl|exact WkD.any _|(apply WkD.nil;first|exact Or.inl rfl|exact Or.inr rfl)|(exact WkD.fz _ _ _ rfl (Or.inl ⟨_, rfl⟩) rfl)|(exact WkD.fz _ _ _ rfl (Or.inr rfl) rfl)|refine WkD.int ?_|exact WkD.new' rfl rfl rfl|exact WkO.new _ _ rfl|refine WkO.vars rfl ?_|with_reducible rfl|exact rfl|refine ⟨?_, ?_⟩|((refine wrapA ?_ ?_ ?_);(focus simp;done);(focus (try dsimp only);omega);(focus (try dsimp only);omega))|fail)))⟩
  rintro ⟨_, h0⟩
  rw [show evI ag n f l = chgs ag n l (-1) by rw [evI, h0]; rfl]
  (try conv=>whnf);repeat' (first|(apply And.intro<;>try conv=>whnf)|(intro h;first|(with_reducible first|exact tf0 h|exact ft0 h|exact nt0 h|exact nf0 h)|exact litz h rfl|(with_reducible first|exact tf h (by assumption)|exact tf (by assumption) h)|try conv=>whnf)|with_reducible rfl|apply True.intro|((first|apply infoT|apply bleI|apply fitI|apply cellsI|apply szI);rfl)|(apply guardI;kernel_rfl)|(apply WhenQ.mk;(try conv=>whnf);rotate_left;(try conv=>whnf);rotate_right)|(with_reducible first|assumption|(apply not_of;assumption)|(apply left_of;assumption)|(apply left_of;apply left_of;assumption)|(apply and_of<;>first|assumption|(apply not_of;assumption)))|(refine lin_plan (by kernel_rfl) ?_;try conv=>whnf)|(refine ⟨_, _, rfl, idx_map (by with_reducible assumption), rfl, ?_⟩;try conv=>whnf)|(refine ⟨rfl, ?_⟩;try conv=>whnf)|exact Nat.le_refl 1|((first|(apply ex3;(focus with_reducible assumption);(focus with_reducible assumption))|(apply ex2;(focus with_reducible assumption)));try conv=>whnf)|fail)
  refine ⟨{ q : Nat × Int // q.1 ≤ l.length ∧ chgs ag n l (-1) = chgs ag n (l.drop q.1) q.2 }, fun q => [(2, .pv (.int .i64 ag)), (3, .pv (.int .i64 n)), (10, .pv (.int .i64 q.1.2)), (29, .pv (postPV l)), (30, .pv (i64 (l.map Asg.pv).length)), (31, .pv (i64 q.1.1))], fun _ => 1, fun _ => [(0, .var (cellsA a))], fun q => l.length - q.1.1, ⟨⟨(0, -1), Nat.zero_le _, rfl⟩, (by refine Wk.of ?_ ?_ rfl rfl rfl<;>(repeat' (first|exact trivial|exact WkD.same _|exact WkO.same _ _ rfl|exact WkD.any _|(apply WkD.nil;first|exact Or.inl rfl|exact Or.inr rfl)|(exact WkD.fz _ _ _ rfl (Or.inl ⟨_, rfl⟩) rfl)|(exact WkD.fz _ _ _ rfl (Or.inr rfl) rfl)|refine WkD.int ?_|exact WkD.new' rfl rfl rfl|exact WkO.new _ _ rfl|refine WkO.vars rfl ?_|with_reducible rfl|exact rfl|refine ⟨?_, ?_⟩|((refine wrapA ?_ ?_ ?_);(focus simp;done);(focus (try dsimp only);omega);(focus (try dsimp only);omega))|fail)))⟩, ?_⟩
  rintro ⟨⟨i, last⟩, hi, he⟩
  simp only at hi he
  (try conv=>whnf);repeat' (first|(apply And.intro<;>try conv=>whnf)|(intro h;first|(with_reducible first|exact tf0 h|exact ft0 h|exact nt0 h|exact nf0 h)|exact litz h rfl|(with_reducible first|exact tf h (by assumption)|exact tf (by assumption) h)|try conv=>whnf)|with_reducible rfl|apply True.intro|((first|apply infoT|apply bleI|apply fitI|apply cellsI|apply szI);rfl)|(apply guardI;kernel_rfl)|(apply WhenQ.mk;(try conv=>whnf);rotate_left;(try conv=>whnf);rotate_right)|(with_reducible first|assumption|(apply not_of;assumption)|(apply left_of;assumption)|(apply left_of;apply left_of;assumption)|(apply and_of<;>first|assumption|(apply not_of;assumption)))|(refine lin_plan (by kernel_rfl) ?_;try conv=>whnf)|(refine ⟨_, _, rfl, idx_map (by with_reducible assumption), rfl, ?_⟩;try conv=>whnf)|(refine ⟨rfl, ?_⟩;try conv=>whnf)|exact Nat.le_refl 1|((first|(apply ex3;(focus with_reducible assumption);(focus with_reducible assumption))|(apply ex2;(focus with_reducible assumption)));try conv=>whnf)|fail)
  · have hi' : i < l.length := by simpa using lt_dec h
    have hx : l[i]? = some l[i] := List.getElem?_eq_getElem hi'
    have hS := ra_static l[i].to ag n
    rw [chgs_drop hi'] at he
    refine ⟨_, _, rfl, idx_map hx, rfl, ?_⟩
    (try conv=>whnf);repeat' (first|(apply And.intro<;>try conv=>whnf)|(intro h;first|(with_reducible first|exact tf0 h|exact ft0 h|exact nt0 h|exact nf0 h)|exact litz h rfl|(with_reducible first|exact tf h (by assumption)|exact tf (by assumption) h)|try conv=>whnf)|with_reducible rfl|apply True.intro|((first|apply infoT|apply bleI|apply fitI|apply cellsI|apply szI);rfl)|(apply guardI;kernel_rfl)|(apply WhenQ.mk;(try conv=>whnf);rotate_left;(try conv=>whnf);rotate_right)|(with_reducible first|assumption|(apply not_of;assumption)|(apply left_of;assumption)|(apply left_of;apply left_of;assumption)|(apply and_of<;>first|assumption|(apply not_of;assumption)))|(refine lin_plan (by kernel_rfl) ?_;try conv=>whnf)|(refine ⟨_, _, rfl, idx_map (by with_reducible assumption), rfl, ?_⟩;try conv=>whnf)|(refine ⟨rfl, ?_⟩;try conv=>whnf)|exact Nat.le_refl 1|((first|(apply ex3;(focus with_reducible assumption);(focus with_reducible assumption))|(apply ex2;(focus with_reducible assumption)));try conv=>whnf)|(refine PureFn.dcq (f := 119) rfl ?_;try conv=>whnf)|((refine ⟨_, _, hS, ?_, ?_⟩);(focus (first|(refine ⟨?_, ?_, ?_, trivial⟩<;>first|exact PLe.refl _|exact PLe.nil)|exact trivial));try conv=>whnf)|(refine ⟨_, (by (conv=>whnf);exact hS), rfl, ?_⟩;try conv=>whnf)|fail)
    · refine le_int ?_
      rw [he, show (bif decide (l[i].fact < 0) then true else decide (l[i].fact ≥ n)) = true from h]; rfl
    · rename_i h1
      refine le_int ?_
      rw [he, show (bif decide (l[i].fact < 0) then true else decide (l[i].fact ≥ n)) = false from h1, show decide (l[i].fact ≤ last) = true from h]; rfl
    · rename_i h2 h1
      refine le_int ?_
      rw [he, show (bif decide (l[i].fact < 0) then true else decide (l[i].fact ≥ n)) = false from h2, show decide (l[i].fact ≤ last) = false from h1, h]; rfl
    · rename_i h2 h1
      rw [show (bif decide (l[i].fact < 0) then true else decide (l[i].fact ≥ n)) = false from h2, show decide (l[i].fact ≤ last) = false from h1, h] at he
      exact ⟨⟨(i + 1, l[i].fact), hi', he⟩, by show l.length - (i + 1) < l.length - i; omega, (by refine Wk.of ?_ ?_ rfl rfl rfl<;>(repeat' (first|exact trivial|exact WkD.same _|exact WkO.same _ _ rfl|exact WkD.any _|(apply WkD.nil;first|exact Or.inl rfl|exact Or.inr rfl)|(exact WkD.fz _ _ _ rfl (Or.inl ⟨_, rfl⟩) rfl)|(exact WkD.fz _ _ _ rfl (Or.inr rfl) rfl)|refine WkD.int ?_|exact WkD.new' rfl rfl rfl|exact WkO.new _ _ rfl|refine WkO.vars rfl ?_|with_reducible rfl|exact rfl|refine ⟨?_, ?_⟩|((refine wrapA ?_ ?_ ?_);(focus simp;done);(focus (try dsimp only);omega);(focus (try dsimp only);omega))|fail)))⟩
  · have hi' : i = l.length := by have := ge_dec (m := (l.map Asg.pv).length) h (by simpa using hi); simpa using this
    subst hi'
    rw [he, List.drop_eq_nil_of_le (Nat.le_refl _)]; exact .refl _
theorem shr_len {s n : Nat} (hs : s < 2 ^ 64) (hn : n ≤ 8) : (shrU s n != 0) = decide ((len64 s : Int) > (n : Int)) := by
  rw [shrU_geq hs (by omega), Bool.eq_iff_iff, decide_eq_true_iff, bne_iff_ne]
  have h1 := len64_lt (x := s) (k := n)
  have h2 : s >>> n = 0 ↔ s < 2 ^ n := by rw [Nat.shiftRight_eq_div_pow, Nat.div_eq_zero_iff]; have := Nat.two_pow_pos n; omega
  constructor
  · intro h3
    have : ¬ s < 2 ^ n := fun q => h3 (by rw [h2.2 q]; rfl)
    have : ¬ len64 s ≤ n := fun q => this (h1.1 q)
    omega
  · intro h3 h4
    have h5 : s >>> n = 0 := by omega
    have := h1.2 (h2.1 h5)
    omega
def five (a : Act) (ag n : Int) : Bool := bif bif bif bif bif decide (ag < 0) then true else decide (ag > 4) then true else decide (n < 0) then true else decide (n > 8) then true else decide ((a.pre.length : Int) < 1) then true else decide ((a.pre.length : Int) > 8)
theorem act_five1 {a : Act} {ag n : Int} (h : five a ag n = true) : actI a ag n = 2 := by
  unfold five at h
  unfold actI shapeI
  cases h1 : (bif bif bif decide (ag < 0) then true else decide (ag > 4) then true else decide (n < 0) then true else decide (n > 8)) with
  | true => rfl
  | false =>
    rw [h1] at h
    rw [show (bif decide ((a.pre.length : Int) < 1) then true else decide ((a.pre.length : Int) > 8)) = true from h]; rfl
theorem five_ok {a : Act} {ag n : Int} (h : five a ag n = false) : (bif bif bif decide (ag < 0) then true else decide (ag > 4) then true else decide (n < 0) then true else decide (n > 8)) = false ∧ a.pre.length ≤ 8 := by
  unfold five at h
  cases h1 : (bif bif bif decide (ag < 0) then true else decide (ag > 4) then true else decide (n < 0) then true else decide (n > 8)) with
  | true => rw [h1] at h; cases h
  | false =>
    rw [h1] at h
    refine ⟨rfl, ?_⟩
    cases h2 : decide ((a.pre.length : Int) < 1) with
    | true => rw [h2] at h; cases h
    | false =>
      rw [h2] at h
      have := of_decide_eq_false (show decide ((a.pre.length : Int) > 8) = false from h)
      omega
theorem act_five2 {a : Act} {ag n : Int} (h : five a ag n = false) : actI a ag n = bif (bif (a.post.length : Int) != (a.pre.length : Int) then true else (a.rel.length : Int) != ag) then 3 else bif rowsBad a.rel a.pre.length then 3 else bif bitsBad a.rel a.pre.length then 2 else evs' ag n a.pre a.post := by
  obtain ⟨h1, h2⟩ := five_ok h
  have h3 : (bif decide ((a.pre.length : Int) < 1) then true else decide ((a.pre.length : Int) > 8)) = false := by
    unfold five at h
    rw [h1] at h; exact h
  rw [actI, h1, shapeI, h3]
  cases (bif (a.post.length : Int) != (a.pre.length : Int) then true else (a.rel.length : Int) != ag) with
  | true => rfl
  | false =>
    cases rowsBad a.rel a.pre.length with
    | true => rfl
    | false => cases bitsBad a.rel a.pre.length <;> rfl
theorem ev_yes {ag n : Int} {f : List Nd} {l : List Asg} {z : Int} (h : (evI ag n f l != 0) = true) : (bif statI ag n f != 0 then statI ag n f else bif chgs ag n l (-1) != 0 then chgs ag n l (-1) else z) = evI ag n f l := by
  unfold evI at *
  cases h1 : (statI ag n f != 0) with
  | true => rfl
  | false =>
    rw [h1] at h
    rw [show (chgs ag n l (-1) != 0) = true from h]; rfl
theorem ev_no {ag n : Int} {f : List Nd} {l : List Asg} {z : Int} (h : (evI ag n f l != 0) = false) : (bif statI ag n f != 0 then statI ag n f else bif chgs ag n l (-1) != 0 then chgs ag n l (-1) else z) = z := by
  unfold evI at h
  cases h1 : (statI ag n f != 0) with
  | true =>
    rw [h1] at h
    rw [show (statI ag n f != 0) = false from h] at h1; cases h1
  | false =>
    rw [h1] at h
    rw [show (chgs ag n l (-1) != 0) = false from h]; rfl
theorem ra_Check (a : Act) (ag n : Int) (hf : Fit a) (hl : a.rel.length ≤ 1000) (hp : ∀ l, l ∈ a.post → l.length ≤ 1000) : PureFn Try.prog 84 [a.pv, .int .i64 ag, .int .i64 n] (.int .i64 (actI a ag n)) := by
  refine PureFn.introC [4, 6, 12, 22] mixed (fn := Try.f84) rfl rfl rfl fun M w0 => ?_
  have e1 : ((a.pre.map fpv).length : Int) = (a.pre.length : Int) := by simp
  have e2 : ((a.post.map postPV).length : Int) = (a.post.length : Int) := by simp
  have e3 : ((a.rel.map rowPV).length : Int) = (a.rel.length : Int) := by simp
  (try conv=>whnf);repeat' (first|(apply And.intro<;>try conv=>whnf)|(intro h;first|(with_reducible first|exact tf0 h|exact ft0 h|exact nt0 h|exact nf0 h)|exact litz h rfl|(with_reducible first|exact tf h (by assumption)|exact tf (by assumption) h)|try conv=>whnf)|with_reducible rfl|apply True.intro|((first|apply infoT|apply bleI|apply fitI|apply cellsI|apply szI);rfl)|(apply guardI;kernel_rfl)|(apply WhenQ.mk;(try conv=>whnf);rotate_left;(try conv=>whnf);rotate_right)|(with_reducible first|assumption|(apply not_of;assumption)|(apply left_of;assumption)|(apply left_of;apply left_of;assumption)|(apply and_of<;>first|assumption|(apply not_of;assumption)))|(refine lin_plan (by kernel_rfl) ?_;try conv=>whnf)|(refine ⟨_, _, rfl, idx_map (by with_reducible assumption), rfl, ?_⟩;try conv=>whnf)|(refine ⟨rfl, ?_⟩;try conv=>whnf)|exact Nat.le_refl 1|((first|(apply ex3;(focus with_reducible assumption);(focus with_reducible assumption))|(apply ex2;(focus with_reducible assumption)));try conv=>whnf)|fail)
  refine ⟨{ _x : Unit // five a ag n = false }, fun _ => [(1, .pv (.int .i64 ag)), (2, .pv (.int .i64 n)), (3, .ref 0 0), (7, .pv (i64 a.pre.length))], fun _ => 1, fun _ => [(0, .var (cellsA a))], ?_, ?_⟩
  · (try conv=>whnf);repeat' (first|(apply And.intro<;>try conv=>whnf)|(intro h;first|(with_reducible first|exact tf0 h|exact ft0 h|exact nt0 h|exact nf0 h)|exact litz h rfl|(with_reducible first|exact tf h (by assumption)|exact tf (by assumption) h)|try conv=>whnf)|with_reducible rfl|apply True.intro|((first|apply infoT|apply bleI|apply fitI|apply cellsI|apply szI);rfl)|(apply guardI;kernel_rfl)|(apply WhenQ.mk;(try conv=>whnf);rotate_left;(try conv=>whnf);rotate_right)|(with_reducible first|assumption|(apply not_of;assumption)|(apply left_of;assumption)|(apply left_of;apply left_of;assumption)|(apply and_of<;>first|assumption|(apply not_of;assumption)))|(refine lin_plan (by kernel_rfl) ?_;try conv=>whnf)|(refine ⟨_, _, rfl, idx_map (by with_reducible assumption), rfl, ?_⟩;try conv=>whnf)|(refine ⟨rfl, ?_⟩;try conv=>whnf)|exact Nat.le_refl 1|((first|(apply ex3;(focus with_reducible assumption);(focus with_reducible assumption))|(apply ex2;(focus with_reducible assumption)));try conv=>whnf)|fail)
    · have h9 : five a ag n = true := by rw [five, ← e1]; exact h
      rw [act_five1 h9]; exact .refl _
    · have h9 : five a ag n = false := by rw [five, ← e1]; exact h
      refine ⟨⟨(), h9⟩, ?_⟩
      (refine Wk.of ?_ ?_ rfl rfl rfl<;>(repeat' (first|exact trivial|exact WkD.same _|exact WkO.same _ _ rfl|exact WkD.any _|(apply WkD.nil;first|exact Or.inl rfl|exact Or.inr rfl)|(exact WkD.fz _ _ _ rfl (Or.inl ⟨_, rfl⟩) rfl)|(exact WkD.fz _ _ _ rfl (Or.inr rfl) rfl)|refine WkD.int ?_|exact WkD.new' rfl rfl rfl|exact WkO.new _ _ rfl|refine WkO.vars rfl ?_|with_reducible rfl|exact rfl|refine ⟨?_, ?_⟩|((refine wrapA ?_ ?_ ?_);(focus simp;done);(focus (try dsimp only);omega);(focus (try dsimp only);omega))|fail)))
      exact e1
  rintro ⟨_, h1⟩
  refine ⟨{ _x : Unit // (bif (a.post.length : Int) != (a.pre.length : Int) then true else (a.rel.length : Int) != ag) = false }, fun _ => [(1, .pv (.int .i64 ag)), (2, .pv (.int .i64 n)), (3, .ref 0 0), (7, .pv (i64 a.pre.length))], fun _ => 1, fun _ => [(0, .var (cellsA a))], ?_, ?_⟩
  · (try conv=>whnf);repeat' (first|(apply And.intro<;>try conv=>whnf)|(intro h;first|(with_reducible first|exact tf0 h|exact ft0 h|exact nt0 h|exact nf0 h)|exact litz h rfl|(with_reducible first|exact tf h (by assumption)|exact tf (by assumption) h)|try conv=>whnf)|with_reducible rfl|apply True.intro|((first|apply infoT|apply bleI|apply fitI|apply cellsI|apply szI);rfl)|(apply guardI;kernel_rfl)|(apply WhenQ.mk;(try conv=>whnf);rotate_left;(try conv=>whnf);rotate_right)|(with_reducible first|assumption|(apply not_of;assumption)|(apply left_of;assumption)|(apply left_of;apply left_of;assumption)|(apply and_of<;>first|assumption|(apply not_of;assumption)))|(refine lin_plan (by kernel_rfl) ?_;try conv=>whnf)|(refine ⟨_, _, rfl, idx_map (by with_reducible assumption), rfl, ?_⟩;try conv=>whnf)|(refine ⟨rfl, ?_⟩;try conv=>whnf)|exact Nat.le_refl 1|((first|(apply ex3;(focus with_reducible assumption);(focus with_reducible assumption))|(apply ex2;(focus with_reducible assumption)));try conv=>whnf)|fail)
    · have h9 : (bif (a.post.length : Int) != (a.pre.length : Int) then true else (a.rel.length : Int) != ag) = true := by rw [← e2, ← e3]; exact h
      rw [act_five2 h1, h9]; exact .refl _
    · exact ⟨⟨(), by rw [← e2, ← e3]; exact h⟩, (by refine Wk.of ?_ ?_ rfl rfl rfl<;>(repeat' (first|exact trivial|exact WkD.same _|exact WkO.same _ _ rfl|exact WkD.any _|(apply WkD.nil;first|exact Or.inl rfl|exact Or.inr rfl)|(exact WkD.fz _ _ _ rfl (Or.inl ⟨_, rfl⟩) rfl)|(exact WkD.fz _ _ _ rfl (Or.inr rfl) rfl)|refine WkD.int ?_|exact WkD.new' rfl rfl rfl|exact WkO.new _ _ rfl|refine WkO.vars rfl ?_|with_reducible rfl|exact rfl|refine ⟨?_, ?_⟩|((refine wrapA ?_ ?_ ?_);(focus simp;done);(focus (try dsimp only);omega);(focus (try dsimp only);omega))|fail)))⟩
  rintro ⟨_, h2⟩
  refine ⟨{ _x : Unit // rowsBad a.rel a.pre.length = false }, fun _ => [(1, .pv (.int .i64 ag)), (2, .pv (.int .i64 n)), (3, .ref 0 0), (7, .pv (i64 a.pre.length))], fun _ => 1, fun _ => [(0, .var (cellsA a))], ?_, ?_⟩
  · (try conv=>whnf);repeat' (first|(apply And.intro<;>try conv=>whnf)|(intro h;first|(with_reducible first|exact tf0 h|exact ft0 h|exact nt0 h|exact nf0 h)|exact litz h rfl|(with_reducible first|exact tf h (by assumption)|exact tf (by assumption) h)|try conv=>whnf)|with_reducible rfl|apply True.intro|((first|apply infoT|apply bleI|apply fitI|apply cellsI|apply szI);rfl)|(apply guardI;kernel_rfl)|(apply WhenQ.mk;(try conv=>whnf);rotate_left;(try conv=>whnf);rotate_right)|(with_reducible first|assumption|(apply not_of;assumption)|(apply left_of;assumption)|(apply left_of;apply left_of;assumption)|(apply and_of<;>first|assumption|(apply not_of;assumption)))|(refine lin_plan (by kernel_rfl) ?_;try conv=>whnf)|(refine ⟨_, _, rfl, idx_map (by with_reducible assumption), rfl, ?_⟩;try conv=>whnf)|(refine ⟨rfl, ?_⟩;try conv=>whnf)|exact Nat.le_refl 1|((first|(apply ex3;(focus with_reducible assumption);(focus with_reducible assumption))|(apply ex2;(focus with_reducible assumption)));try conv=>whnf)|fail)
    refine ⟨{ i : Nat // i ≤ a.rel.length ∧ rowsBad (a.rel.take i) a.pre.length = false }, fun i => [(1, .pv (.int .i64 ag)), (2, .pv (.int .i64 n)), (3, .ref 0 0), (7, .pv (i64 a.pre.length)), (54, .pv (.sl (a.rel.map rowPV))), (55, .pv (i64 (a.rel.map rowPV).length)), (56, .pv (i64 i.1))], fun _ => 1, fun _ => [(0, .var (cellsA a))], fun i => a.rel.length - i.1, ⟨⟨0, Nat.zero_le _, rfl⟩, (by refine Wk.of ?_ ?_ rfl rfl rfl<;>(repeat' (first|exact trivial|exact WkD.same _|exact WkO.same _ _ rfl|exact WkD.any _|(apply WkD.nil;first|exact Or.inl rfl|exact Or.inr rfl)|(exact WkD.fz _ _ _ rfl (Or.inl ⟨_, rfl⟩) rfl)|(exact WkD.fz _ _ _ rfl (Or.inr rfl) rfl)|refine WkD.int ?_|exact WkD.new' rfl rfl rfl|exact WkO.new _ _ rfl|refine WkO.vars rfl ?_|with_reducible rfl|exact rfl|refine ⟨?_, ?_⟩|((refine wrapA ?_ ?_ ?_);(focus simp;done);(focus (try dsimp only);omega);(focus (try dsimp only);omega))|fail)))⟩, ?_⟩
    rintro ⟨i, hi, hb⟩
    (try conv=>whnf);repeat' (first|(apply And.intro<;>try conv=>whnf)|(intro h;first|(with_reducible first|exact tf0 h|exact ft0 h|exact nt0 h|exact nf0 h)|exact litz h rfl|(with_reducible first|exact tf h (by assumption)|exact tf (by assumption) h)|try conv=>whnf)|with_reducible rfl|apply True.intro|((first|apply infoT|apply bleI|apply fitI|apply cellsI|apply szI);rfl)|(apply guardI;kernel_rfl)|(apply WhenQ.mk;(try conv=>whnf);rotate_left;(try conv=>whnf);rotate_right)|(with_reducible first|assumption|(apply not_of;assumption)|(apply left_of;assumption)|(apply left_of;apply left_of;assumption)|(apply and_of<;>first|assumption|(apply not_of;assumption)))|(refine lin_plan (by kernel_rfl) ?_;try conv=>whnf)|(refine ⟨_, _, rfl, idx_map (by with_reducible assumption), rfl, ?_⟩;try conv=>whnf)|(refine ⟨rfl, ?_⟩;try conv=>whnf)|exact Nat.le_refl 1|((first|(apply ex3;(focus with_reducible assumption);(focus with_reducible assumption))|(apply ex2;(focus with_reducible assumption)));try conv=>whnf)|fail)
    · have hi' : i < a.rel.length := by simpa using lt_dec h
      have hn : a.rel[i]? = some a.rel[i] := List.getElem?_eq_getElem hi'
      have e4 : ((a.rel[i].map u64).length : Int) = (a.rel[i].length : Int) := by simp
      refine ⟨_, _, rfl, idx_map hn, rfl, ?_⟩
      (try conv=>whnf);repeat' (first|(apply And.intro<;>try conv=>whnf)|(intro h;first|(with_reducible first|exact tf0 h|exact ft0 h|exact nt0 h|exact nf0 h)|exact litz h rfl|(with_reducible first|exact tf h (by assumption)|exact tf (by assumption) h)|try conv=>whnf)|with_reducible rfl|apply True.intro|((first|apply infoT|apply bleI|apply fitI|apply cellsI|apply szI);rfl)|(apply guardI;kernel_rfl)|(apply WhenQ.mk;(try conv=>whnf);rotate_left;(try conv=>whnf);rotate_right)|(with_reducible first|assumption|(apply not_of;assumption)|(apply left_of;assumption)|(apply left_of;apply left_of;assumption)|(apply and_of<;>first|assumption|(apply not_of;assumption)))|(refine lin_plan (by kernel_rfl) ?_;try conv=>whnf)|(refine ⟨_, _, rfl, idx_map (by with_reducible assumption), rfl, ?_⟩;try conv=>whnf)|(refine ⟨rfl, ?_⟩;try conv=>whnf)|exact Nat.le_refl 1|((first|(apply ex3;(focus with_reducible assumption);(focus with_reducible assumption))|(apply ex2;(focus with_reducible assumption)));try conv=>whnf)|fail)
      · have h9 : rowsBad a.rel a.pre.length = true := any_at (p := fun r : List Nat => ((r.length : Int) != (a.pre.length : Int))) hi' (by rw [← e4]; exact h)
        rw [act_five2 h1, h2, h9]; exact .refl _
      · exact ⟨⟨i + 1, hi', any_take (p := fun r : List Nat => ((r.length : Int) != (a.pre.length : Int))) hi' hb (by rw [← e4]; exact h)⟩, by show a.rel.length - (i + 1) < a.rel.length - i; omega, (by refine Wk.of ?_ ?_ rfl rfl rfl<;>(repeat' (first|exact trivial|exact WkD.same _|exact WkO.same _ _ rfl|exact WkD.any _|(apply WkD.nil;first|exact Or.inl rfl|exact Or.inr rfl)|(exact WkD.fz _ _ _ rfl (Or.inl ⟨_, rfl⟩) rfl)|(exact WkD.fz _ _ _ rfl (Or.inr rfl) rfl)|refine WkD.int ?_|exact WkD.new' rfl rfl rfl|exact WkO.new _ _ rfl|refine WkO.vars rfl ?_|with_reducible rfl|exact rfl|refine ⟨?_, ?_⟩|((refine wrapA ?_ ?_ ?_);(focus simp;done);(focus (try dsimp only);omega);(focus (try dsimp only);omega))|fail)))⟩
    · have hi' : i = a.rel.length := by have := ge_dec (m := (a.rel.map rowPV).length) h (by simpa using hi); simpa using this
      subst hi'
      rw [List.take_length] at hb
      exact ⟨⟨(), hb⟩, (by refine Wk.of ?_ ?_ rfl rfl rfl<;>(repeat' (first|exact trivial|exact WkD.same _|exact WkO.same _ _ rfl|exact WkD.any _|(apply WkD.nil;first|exact Or.inl rfl|exact Or.inr rfl)|(exact WkD.fz _ _ _ rfl (Or.inl ⟨_, rfl⟩) rfl)|(exact WkD.fz _ _ _ rfl (Or.inr rfl) rfl)|refine WkD.int ?_|exact WkD.new' rfl rfl rfl|exact WkO.new _ _ rfl|refine WkO.vars rfl ?_|with_reducible rfl|exact rfl|refine ⟨?_, ?_⟩|((refine wrapA ?_ ?_ ?_);(focus simp;done);(focus (try dsimp only);omega);(focus (try dsimp only);omega))|fail)))⟩
  rintro ⟨_, h3⟩
  have n8 := (five_ok h1).2
  have npost : a.post.length = a.pre.length := by
    cases hh : ((a.post.length : Int) != (a.pre.length : Int)) with
    | true => rw [hh] at h2; cases h2
    | false => have : (a.post.length : Int) = a.pre.length := by simpa using hh
               omega
  refine ⟨{ _x : Unit // bitsBad a.rel a.pre.length = false }, fun _ => [(1, .pv (.int .i64 ag)), (2, .pv (.int .i64 n)), (3, .ref 0 0), (7, .pv (i64 a.pre.length))], fun _ => 1, fun _ => [(0, .var (cellsA a))], ?_, ?_⟩
  · (try conv=>whnf);repeat' (first|(apply And.intro<;>try conv=>whnf)|(intro h;first|(with_reducible first|exact tf0 h|exact ft0 h|exact nt0 h|exact nf0 h)|exact litz h rfl|(with_reducible first|exact tf h (by assumption)|exact tf (by assumption) h)|try conv=>whnf)|with_reducible rfl|apply True.intro|((first|apply infoT|apply bleI|apply fitI|apply cellsI|apply szI);rfl)|(apply guardI;kernel_rfl)|(apply WhenQ.mk;(try conv=>whnf);rotate_left;(try conv=>whnf);rotate_right)|(with_reducible first|assumption|(apply not_of;assumption)|(apply left_of;assumption)|(apply left_of;apply left_of;assumption)|(apply and_of<;>first|assumption|(apply not_of;assumption)))|(refine lin_plan (by kernel_rfl) ?_;try conv=>whnf)|(refine ⟨_, _, rfl, idx_map (by with_reducible assumption), rfl, ?_⟩;try conv=>whnf)|(refine ⟨rfl, ?_⟩;try conv=>whnf)|exact Nat.le_refl 1|((first|(apply ex3;(focus with_reducible assumption);(focus with_reducible assumption))|(apply ex2;(focus with_reducible assumption)));try conv=>whnf)|fail)
    refine ⟨{ i : Nat // i ≤ a.rel.length ∧ bitsBad (a.rel.take i) a.pre.length = false }, fun i => [(1, .pv (.int .i64 ag)), (2, .pv (.int .i64 n)), (3, .ref 0 0), (7, .pv (i64 a.pre.length)), (66, .pv (.sl (a.rel.map rowPV))), (67, .pv (i64 (a.rel.map rowPV).length)), (68, .pv (i64 i.1))], fun _ => 1, fun _ => [(0, .var (cellsA a))], fun i => a.rel.length - i.1, ⟨⟨0, Nat.zero_le _, rfl⟩, (by refine Wk.of ?_ ?_ rfl rfl rfl<;>(repeat' (first|exact trivial|exact WkD.same _|exact WkO.same _ _ rfl|exact WkD.any _|(apply WkD.nil;first|exact Or.inl rfl|exact Or.inr rfl)|(exact WkD.fz _ _ _ rfl (Or.inl ⟨_, rfl⟩) rfl)|(exact WkD.fz _ _ _ rfl (Or.inr rfl) rfl)|refine WkD.int ?_|exact WkD.new' rfl rfl rfl|exact WkO.new _ _ rfl|refine WkO.vars rfl ?_|with_reducible rfl|exact rfl|refine ⟨?_, ?_⟩|((refine wrapA ?_ ?_ ?_);(focus simp;done);(focus (try dsimp only);omega);(focus (try dsimp only);omega))|fail)))⟩, ?_⟩
    rintro ⟨i, hi, hb⟩
    (try conv=>whnf);repeat' (first|(apply And.intro<;>try conv=>whnf)|(intro h;first|(with_reducible first|exact tf0 h|exact ft0 h|exact nt0 h|exact nf0 h)|exact litz h rfl|(with_reducible first|exact tf h (by assumption)|exact tf (by assumption) h)|try conv=>whnf)|with_reducible rfl|apply True.intro|((first|apply infoT|apply bleI|apply fitI|apply cellsI|apply szI);rfl)|(apply guardI;kernel_rfl)|(apply WhenQ.mk;(try conv=>whnf);rotate_left;(try conv=>whnf);rotate_right)|(with_reducible first|assumption|(apply not_of;assumption)|(apply left_of;assumption)|(apply left_of;apply left_of;assumption)|(apply and_of<;>first|assumption|(apply not_of;assumption)))|(refine lin_plan (by kernel_rfl) ?_;try conv=>whnf)|(refine ⟨_, _, rfl, idx_map (by with_reducible assumption), rfl, ?_⟩;try conv=>whnf)|(refine ⟨rfl, ?_⟩;try conv=>whnf)|exact Nat.le_refl 1|((first|(apply ex3;(focus with_reducible assumption);(focus with_reducible assumption))|(apply ex2;(focus with_reducible assumption)));try conv=>whnf)|fail)
    · have hi' : i < a.rel.length := by simpa using lt_dec h
      have hri := rows_ok h3 _ (List.getElem_mem hi')
      have hfi := hf _ (List.getElem_mem hi')
      have hat := fun (hh : (a.rel[i]).any (fun s => decide ((len64 s : Int) > (a.pre.length : Int))) = true) => any_at (p := fun r : List Nat => r.any fun s => decide ((len64 s : Int) > (a.pre.length : Int))) hi' hh
      have htk := any_take (p := fun r : List Nat => r.any fun s => decide ((len64 s : Int) > (a.pre.length : Int))) hi' hb
      obtain ⟨r, hn, hr⟩ : ∃ r, a.rel[i]? = some r ∧ a.rel[i] = r := ⟨_, List.getElem?_eq_getElem hi', rfl⟩
      rw [hr] at hri hfi hat htk
      refine ⟨_, _, rfl, idx_map hn, rfl, ?_⟩
      clear hn
      (try conv=>whnf);repeat' (first|(apply And.intro<;>try conv=>whnf)|(intro h;first|(with_reducible first|exact tf0 h|exact ft0 h|exact nt0 h|exact nf0 h)|exact litz h rfl|(with_reducible first|exact tf h (by assumption)|exact tf (by assumption) h)|try conv=>whnf)|with_reducible rfl|apply True.intro|((first|apply infoT|apply bleI|apply fitI|apply cellsI|apply szI);rfl)|(apply guardI;kernel_rfl)|(apply WhenQ.mk;(try conv=>whnf);rotate_left;(try conv=>whnf);rotate_right)|(with_reducible first|assumption|(apply not_of;assumption)|(apply left_of;assumption)|(apply left_of;apply left_of;assumption)|(apply and_of<;>first|assumption|(apply not_of;assumption)))|(refine lin_plan (by kernel_rfl) ?_;try conv=>whnf)|(refine ⟨_, _, rfl, idx_map (by with_reducible assumption), rfl, ?_⟩;try conv=>whnf)|(refine ⟨rfl, ?_⟩;try conv=>whnf)|exact Nat.le_refl 1|((first|(apply ex3;(focus with_reducible assumption);(focus with_reducible assumption))|(apply ex2;(focus with_reducible assumption)));try conv=>whnf)|fail)
      refine ⟨{ j : Nat // j ≤ r.length ∧ (r.take j).any (fun s => decide ((len64 s : Int) > (a.pre.length : Int))) = false }, fun j => [(1, .pv (.int .i64 ag)), (2, .pv (.int .i64 n)), (3, .ref 0 0), (7, .pv (i64 a.pre.length)), (66, .pv (.sl (a.rel.map rowPV))), (67, .pv (i64 (a.rel.map rowPV).length)), (68, .pv (i64 i)), (72, .pv (rowPV r)), (73, .pv (i64 (r.map u64).length)), (74, .pv (i64 j.1))], fun _ => 1, fun _ => [(0, .var (cellsA a))], fun j => r.length - j.1, ⟨⟨0, Nat.zero_le _, rfl⟩, (by refine Wk.of ?_ ?_ rfl rfl rfl<;>(repeat' (first|exact trivial|exact WkD.same _|exact WkO.same _ _ rfl|exact WkD.any _|(apply WkD.nil;first|exact Or.inl rfl|exact Or.inr rfl)|(exact WkD.fz _ _ _ rfl (Or.inl ⟨_, rfl⟩) rfl)|(exact WkD.fz _ _ _ rfl (Or.inr rfl) rfl)|refine WkD.int ?_|exact WkD.new' rfl rfl rfl|exact WkO.new _ _ rfl|refine WkO.vars rfl ?_|with_reducible rfl|exact rfl|refine ⟨?_, ?_⟩|((refine wrapA ?_ ?_ ?_);(focus simp;done);(focus (try dsimp only);omega);(focus (try dsimp only);omega))|fail)))⟩, ?_⟩
      rintro ⟨j, hj, hc⟩
      (try conv=>whnf);repeat' (first|(apply And.intro<;>try conv=>whnf)|(intro h;first|(with_reducible first|exact tf0 h|exact ft0 h|exact nt0 h|exact nf0 h)|exact litz h rfl|(with_reducible first|exact tf h (by assumption)|exact tf (by assumption) h)|try conv=>whnf)|with_reducible rfl|apply True.intro|((first|apply infoT|apply bleI|apply fitI|apply cellsI|apply szI);rfl)|(apply guardI;kernel_rfl)|(apply WhenQ.mk;(try conv=>whnf);rotate_left;(try conv=>whnf);rotate_right)|(with_reducible first|assumption|(apply not_of;assumption)|(apply left_of;assumption)|(apply left_of;apply left_of;assumption)|(apply and_of<;>first|assumption|(apply not_of;assumption)))|(refine lin_plan (by kernel_rfl) ?_;try conv=>whnf)|(refine ⟨_, _, rfl, idx_map (by with_reducible assumption), rfl, ?_⟩;try conv=>whnf)|(refine ⟨rfl, ?_⟩;try conv=>whnf)|exact Nat.le_refl 1|((first|(apply ex3;(focus with_reducible assumption);(focus with_reducible assumption))|(apply ex2;(focus with_reducible assumption)));try conv=>whnf)|fail)
      · have hj' : j < r.length := by simpa using lt_dec h
        have hL := shr_len (hfi _ (List.getElem_mem hj')) n8
        have hm : r[j]? = some r[j] := List.getElem?_eq_getElem hj'
        refine ⟨_, _, rfl, idx_map hm, rfl, ?_⟩
        (try conv=>whnf);repeat' (first|(apply And.intro<;>try conv=>whnf)|(intro h;first|(with_reducible first|exact tf0 h|exact ft0 h|exact nt0 h|exact nf0 h)|exact litz h rfl|(with_reducible first|exact tf h (by assumption)|exact tf (by assumption) h)|try conv=>whnf)|with_reducible rfl|apply True.intro|((first|apply infoT|apply bleI|apply fitI|apply cellsI|apply szI);rfl)|(apply guardI;kernel_rfl)|(apply WhenQ.mk;(try conv=>whnf);rotate_left;(try conv=>whnf);rotate_right)|(with_reducible first|assumption|(apply not_of;assumption)|(apply left_of;assumption)|(apply left_of;apply left_of;assumption)|(apply and_of<;>first|assumption|(apply not_of;assumption)))|(refine lin_plan (by kernel_rfl) ?_;try conv=>whnf)|(refine ⟨_, _, rfl, idx_map (by with_reducible assumption), rfl, ?_⟩;try conv=>whnf)|(refine ⟨rfl, ?_⟩;try conv=>whnf)|exact Nat.le_refl 1|((first|(apply ex3;(focus with_reducible assumption);(focus with_reducible assumption))|(apply ex2;(focus with_reducible assumption)));try conv=>whnf)|fail)
        · exact Int.natCast_nonneg _
        · have e : r.any (fun s => decide ((len64 s : Int) > (a.pre.length : Int))) = true := any_at hj' (by rw [← hL]; exact h)
          rw [act_five2 h1, h2, h3, show bitsBad a.rel a.pre.length = true from hat e]; exact .refl _
        · exact ⟨⟨j + 1, hj', any_take hj' hc (by rw [← hL]; exact h)⟩, by show r.length - (j + 1) < r.length - j; omega, (by refine Wk.of ?_ ?_ rfl rfl rfl<;>(repeat' (first|exact trivial|exact WkD.same _|exact WkO.same _ _ rfl|exact WkD.any _|(apply WkD.nil;first|exact Or.inl rfl|exact Or.inr rfl)|(exact WkD.fz _ _ _ rfl (Or.inl ⟨_, rfl⟩) rfl)|(exact WkD.fz _ _ _ rfl (Or.inr rfl) rfl)|refine WkD.int ?_|exact WkD.new' rfl rfl rfl|exact WkO.new _ _ rfl|refine WkO.vars rfl ?_|with_reducible rfl|exact rfl|refine ⟨?_, ?_⟩|((refine wrapA ?_ ?_ ?_);(focus simp;done);(focus (try dsimp only);omega);(focus (try dsimp only);omega))|fail)))⟩
      · have hj' : j = r.length := by have := ge_dec (m := (r.map u64).length) h (by simpa using hj); simpa using this
        subst hj'
        rw [List.take_length] at hc
        exact ⟨⟨i + 1, hi', htk hc⟩, by show a.rel.length - (i + 1) < a.rel.length - i; omega, (by refine Wk.of ?_ ?_ rfl rfl rfl<;>(repeat' (first|exact trivial|exact WkD.same _|exact WkO.same _ _ rfl|exact WkD.any _|(apply WkD.nil;first|exact Or.inl rfl|exact Or.inr rfl)|(exact WkD.fz _ _ _ rfl (Or.inl ⟨_, rfl⟩) rfl)|(exact WkD.fz _ _ _ rfl (Or.inr rfl) rfl)|refine WkD.int ?_|exact WkD.new' rfl rfl rfl|exact WkO.new _ _ rfl|refine WkO.vars rfl ?_|with_reducible rfl|exact rfl|refine ⟨?_, ?_⟩|((refine wrapA ?_ ?_ ?_);(focus simp;done);(focus (try dsimp only);omega);(focus (try dsimp only);omega))|fail)))⟩
    · have hi' : i = a.rel.length := by have := ge_dec (m := (a.rel.map rowPV).length) h (by simpa using hi); simpa using this
      subst hi'
      rw [List.take_length] at hb
      exact ⟨⟨(), hb⟩, (by refine Wk.of ?_ ?_ rfl rfl rfl<;>(repeat' (first|exact trivial|exact WkD.same _|exact WkO.same _ _ rfl|exact WkD.any _|(apply WkD.nil;first|exact Or.inl rfl|exact Or.inr rfl)|(exact WkD.fz _ _ _ rfl (Or.inl ⟨_, rfl⟩) rfl)|(exact WkD.fz _ _ _ rfl (Or.inr rfl) rfl)|refine WkD.int ?_|exact WkD.new' rfl rfl rfl|exact WkO.new _ _ rfl|refine WkO.vars rfl ?_|with_reducible rfl|exact rfl|refine ⟨?_, ?_⟩|((refine wrapA ?_ ?_ ?_);(focus simp;done);(focus (try dsimp only);omega);(focus (try dsimp only);omega))|fail)))⟩
  rintro ⟨_, h4⟩
  have hact : actI a ag n = evs' ag n a.pre a.post := by rw [act_five2 h1, h2, h3, h4]; rfl
  rw [hact]
  (try conv=>whnf);repeat' (first|(apply And.intro<;>try conv=>whnf)|(intro h;first|(with_reducible first|exact tf0 h|exact ft0 h|exact nt0 h|exact nf0 h)|exact litz h rfl|(with_reducible first|exact tf h (by assumption)|exact tf (by assumption) h)|try conv=>whnf)|with_reducible rfl|apply True.intro|((first|apply infoT|apply bleI|apply fitI|apply cellsI|apply szI);rfl)|(apply guardI;kernel_rfl)|(apply WhenQ.mk;(try conv=>whnf);rotate_left;(try conv=>whnf);rotate_right)|(with_reducible first|assumption|(apply not_of;assumption)|(apply left_of;assumption)|(apply left_of;apply left_of;assumption)|(apply and_of<;>first|assumption|(apply not_of;assumption)))|(refine lin_plan (by kernel_rfl) ?_;try conv=>whnf)|(refine ⟨_, _, rfl, idx_map (by with_reducible assumption), rfl, ?_⟩;try conv=>whnf)|(refine ⟨rfl, ?_⟩;try conv=>whnf)|exact Nat.le_refl 1|((first|(apply ex3;(focus with_reducible assumption);(focus with_reducible assumption))|(apply ex2;(focus with_reducible assumption)));try conv=>whnf)|fail)
  refine ⟨{ i : Nat // i ≤ a.pre.length ∧ evs' ag n a.pre a.post = evs' ag n (a.pre.drop i) (a.post.drop i) }, fun i => [(1, .pv (.int .i64 ag)), (2, .pv (.int .i64 n)), (3, .ref 0 0), (7, .pv (i64 a.pre.length)), (14, .pv (i64 i.1))], fun _ => 1, fun _ => [(0, .var (cellsA a))], fun i => a.pre.length - i.1, ⟨⟨0, Nat.zero_le _, rfl⟩, (by refine Wk.of ?_ ?_ rfl rfl rfl<;>(repeat' (first|exact trivial|exact WkD.same _|exact WkO.same _ _ rfl|exact WkD.any _|(apply WkD.nil;first|exact Or.inl rfl|exact Or.inr rfl)|(exact WkD.fz _ _ _ rfl (Or.inl ⟨_, rfl⟩) rfl)|(exact WkD.fz _ _ _ rfl (Or.inr rfl) rfl)|refine WkD.int ?_|exact WkD.new' rfl rfl rfl|exact WkO.new _ _ rfl|refine WkO.vars rfl ?_|with_reducible rfl|exact rfl|refine ⟨?_, ?_⟩|((refine wrapA ?_ ?_ ?_);(focus simp;done);(focus (try dsimp only);omega);(focus (try dsimp only);omega))|fail)))⟩, ?_⟩
  rintro ⟨i, hi, he⟩
  (try conv=>whnf);repeat' (first|(apply And.intro<;>try conv=>whnf)|(intro h;first|(with_reducible first|exact tf0 h|exact ft0 h|exact nt0 h|exact nf0 h)|exact litz h rfl|(with_reducible first|exact tf h (by assumption)|exact tf (by assumption) h)|try conv=>whnf)|with_reducible rfl|apply True.intro|((first|apply infoT|apply bleI|apply fitI|apply cellsI|apply szI);rfl)|(apply guardI;kernel_rfl)|(apply WhenQ.mk;(try conv=>whnf);rotate_left;(try conv=>whnf);rotate_right)|(with_reducible first|assumption|(apply not_of;assumption)|(apply left_of;assumption)|(apply left_of;apply left_of;assumption)|(apply and_of<;>first|assumption|(apply not_of;assumption)))|(refine lin_plan (by kernel_rfl) ?_;try conv=>whnf)|(refine ⟨_, _, rfl, idx_map (by with_reducible assumption), rfl, ?_⟩;try conv=>whnf)|(refine ⟨rfl, ?_⟩;try conv=>whnf)|exact Nat.le_refl 1|((first|(apply ex3;(focus with_reducible assumption);(focus with_reducible assumption))|(apply ex2;(focus with_reducible assumption)));try conv=>whnf)|fail)
  · have hi' : i < a.pre.length := by simpa using lt_dec h
    have hE := ra_event a i ag n a.pre[i] a.post[i] (List.getElem?_eq_getElem hi') (List.getElem?_eq_getElem (by omega)) (hp _ (List.getElem_mem (by omega)))
    rw [evs_drop hi' (by omega)] at he
    (try conv=>whnf);repeat' (first|(apply And.intro<;>try conv=>whnf)|(intro h;first|(with_reducible first|exact tf0 h|exact ft0 h|exact nt0 h|exact nf0 h)|exact litz h rfl|(with_reducible first|exact tf h (by assumption)|exact tf (by assumption) h)|try conv=>whnf)|with_reducible rfl|apply True.intro|((first|apply infoT|apply bleI|apply fitI|apply cellsI|apply szI);rfl)|(apply guardI;kernel_rfl)|(apply WhenQ.mk;(try conv=>whnf);rotate_left;(try conv=>whnf);rotate_right)|(with_reducible first|assumption|(apply not_of;assumption)|(apply left_of;assumption)|(apply left_of;apply left_of;assumption)|(apply and_of<;>first|assumption|(apply not_of;assumption)))|(refine lin_plan (by kernel_rfl) ?_;try conv=>whnf)|(refine ⟨_, _, rfl, idx_map (by with_reducible assumption), rfl, ?_⟩;try conv=>whnf)|(refine ⟨rfl, ?_⟩;try conv=>whnf)|exact Nat.le_refl 1|((first|(apply ex3;(focus with_reducible assumption);(focus with_reducible assumption))|(apply ex2;(focus with_reducible assumption)));try conv=>whnf)|(refine PureFn.dcq (f := 105) rfl ?_;try conv=>whnf)|((refine ⟨_, _, hE, ?_, ?_⟩);(focus (first|(refine ⟨?_, ?_, ?_, ?_, trivial⟩<;>first|exact PLe.refl _|exact PLe.nil)|exact trivial));try conv=>whnf)|(refine ⟨_, (by (conv=>whnf);exact hE), rfl, ?_⟩;try conv=>whnf)|fail)
    · have h9 : (evI ag n a.pre[i] a.post[i] != 0) = true := h
      rw [he, ev_yes h9]; exact .refl _
    · have h9 : (evI ag n a.pre[i] a.post[i] != 0) = false := h
      rw [ev_no h9] at he
      exact ⟨⟨i + 1, hi', he⟩, by show a.pre.length - (i + 1) < a.pre.length - i; omega, (by refine Wk.of ?_ ?_ rfl rfl rfl<;>(repeat' (first|exact trivial|exact WkD.same _|exact WkO.same _ _ rfl|exact WkD.any _|(apply WkD.nil;first|exact Or.inl rfl|exact Or.inr rfl)|(exact WkD.fz _ _ _ rfl (Or.inl ⟨_, rfl⟩) rfl)|(exact WkD.fz _ _ _ rfl (Or.inr rfl) rfl)|refine WkD.int ?_|exact WkD.new' rfl rfl rfl|exact WkO.new _ _ rfl|refine WkO.vars rfl ?_|with_reducible rfl|exact rfl|refine ⟨?_, ?_⟩|((refine wrapA ?_ ?_ ?_);(focus simp;done);(focus (try dsimp only);omega);(focus (try dsimp only);omega))|fail)))⟩
  · have hi' : i = a.pre.length := by simp at h; omega
    subst hi'
    rw [he, List.drop_eq_nil_of_le (Nat.le_refl _)]; exact .refl _
theorem ra_valid (a : Act) (hf : Fit a) (hl : a.rel.length ≤ 1000) (hp : ∀ l, l ∈ a.post → l.length ≤ 1000) : PureFn Try.prog 56 [a.pv] (.int .i64 (aloneI a)) := by
  refine PureFn.intro mixed (fn := Try.f56) rfl rfl rfl fun M w0 => ?_
  have hC := ra_Check a (((a.rel.map rowPV).length : Nat) : Int) 8 hf hl hp
  have e3 : ((a.rel.map rowPV).length : Int) = (a.rel.length : Int) := by simp
  (try conv=>whnf);repeat' (first|(apply And.intro<;>try conv=>whnf)|(intro h;first|(with_reducible first|exact tf0 h|exact ft0 h|exact nt0 h|exact nf0 h)|exact litz h rfl|(with_reducible first|exact tf h (by assumption)|exact tf (by assumption) h)|try conv=>whnf)|with_reducible rfl|apply True.intro|((first|apply infoT|apply bleI|apply fitI|apply cellsI|apply szI);rfl)|(apply guardI;kernel_rfl)|(apply WhenQ.mk;(try conv=>whnf);rotate_left;(try conv=>whnf);rotate_right)|(with_reducible first|assumption|(apply not_of;assumption)|(apply left_of;assumption)|(apply left_of;apply left_of;assumption)|(apply and_of<;>first|assumption|(apply not_of;assumption)))|(refine lin_plan (by kernel_rfl) ?_;try conv=>whnf)|(refine ⟨_, _, rfl, idx_map (by with_reducible assumption), rfl, ?_⟩;try conv=>whnf)|(refine ⟨rfl, ?_⟩;try conv=>whnf)|exact Nat.le_refl 1|((first|(apply ex3;(focus with_reducible assumption);(focus with_reducible assumption))|(apply ex2;(focus with_reducible assumption)));try conv=>whnf)|(refine PureFn.dcq (f := 84) rfl ?_;try conv=>whnf)|((refine ⟨_, _, hC, ?_, ?_⟩);(focus (first|(refine ⟨?_, ?_, ?_, trivial⟩<;>first|exact PLe.refl _|exact PLe.nil)|exact trivial));try conv=>whnf)|(refine ⟨_, (by (conv=>whnf);exact hC), rfl, ?_⟩;try conv=>whnf)|fail)
  refine le_int ?_
  rw [aloneI, ← e3]
/-- Few of the reference. -/
def lenB (a : Act) : Bool := bif bif decide ((a.pre.length : Int) > 12) then true else decide ((a.post.length : Int) > 12) then true else decide ((a.rel.length : Int) > 8)
def preB (n : Int) (l : List (List Nd)) : Bool := l.any fun f => decide ((f.length : Int) > n)
def asgB (n : Int) (l : List Asg) : Bool := l.any fun p => decide ((p.to.length : Int) > n)
def postB (n : Int) (l : List (List Asg)) : Bool := l.any fun l => bif decide ((l.length : Int) > 12) then true else asgB n l
def fewI (a : Act) (n : Int) : Bool := bif lenB a then false else bif preB n a.pre then false else !postB n a.post
theorem ra_Few (a : Act) (n : Int) : PureFn Try.prog 45 [a.pv, .int .i64 n] (.bool (fewI a n)) := by
  refine PureFn.introC [3, 9] mixed (fn := Try.f45) rfl rfl rfl fun M w0 => ?_
  have e1 : ((a.pre.map fpv).length : Int) = (a.pre.length : Int) := by simp
  have e2 : ((a.post.map postPV).length : Int) = (a.post.length : Int) := by simp
  have e3 : ((a.rel.map rowPV).length : Int) = (a.rel.length : Int) := by simp
  (try conv=>whnf);repeat' (first|(apply And.intro<;>try conv=>whnf)|(intro h;first|(with_reducible first|exact tf0 h|exact ft0 h|exact nt0 h|exact nf0 h)|exact litz h rfl|(with_reducible first|exact tf h (by assumption)|exact tf (by assumption) h)|try conv=>whnf)|with_reducible rfl|apply True.intro|((first|apply infoT|apply bleI|apply fitI|apply cellsI|apply szI);rfl)|(apply guardI;kernel_rfl)|(apply WhenQ.mk;(try conv=>whnf);rotate_left;(try conv=>whnf);rotate_right)|(with_reducible first|assumption|(apply not_of;assumption)|(apply left_of;assumption)|(apply left_of;apply left_of;assumption)|(apply and_of<;>first|assumption|(apply not_of;assumption)))|(refine lin_plan (by kernel_rfl) ?_;try conv=>whnf)|(refine ⟨_, _, rfl, idx_map (by with_reducible assumption), rfl, ?_⟩;try conv=>whnf)|(refine ⟨rfl, ?_⟩;try conv=>whnf)|exact Nat.le_refl 1|((first|(apply ex3;(focus with_reducible assumption);(focus with_reducible assumption))|(apply ex2;(focus with_reducible assumption)));try conv=>whnf)|fail)
  refine ⟨{ _x : Unit // lenB a = false }, fun _ => [(1, .pv (.int .i64 n)), (2, .ref 0 0)], fun _ => 1, fun _ => [(0, .var (cellsA a))], ?_, ?_⟩
  · (try conv=>whnf);repeat' (first|(apply And.intro<;>try conv=>whnf)|(intro h;first|(with_reducible first|exact tf0 h|exact ft0 h|exact nt0 h|exact nf0 h)|exact litz h rfl|(with_reducible first|exact tf h (by assumption)|exact tf (by assumption) h)|try conv=>whnf)|with_reducible rfl|apply True.intro|((first|apply infoT|apply bleI|apply fitI|apply cellsI|apply szI);rfl)|(apply guardI;kernel_rfl)|(apply WhenQ.mk;(try conv=>whnf);rotate_left;(try conv=>whnf);rotate_right)|(with_reducible first|assumption|(apply not_of;assumption)|(apply left_of;assumption)|(apply left_of;apply left_of;assumption)|(apply and_of<;>first|assumption|(apply not_of;assumption)))|(refine lin_plan (by kernel_rfl) ?_;try conv=>whnf)|(refine ⟨_, _, rfl, idx_map (by with_reducible assumption), rfl, ?_⟩;try conv=>whnf)|(refine ⟨rfl, ?_⟩;try conv=>whnf)|exact Nat.le_refl 1|((first|(apply ex3;(focus with_reducible assumption);(focus with_reducible assumption))|(apply ex2;(focus with_reducible assumption)));try conv=>whnf)|fail)
    · have h9 : lenB a = true := by rw [lenB, ← e1, ← e2, ← e3]; exact h
      rw [fewI, h9]; exact .refl _
    · exact ⟨⟨(), by rw [lenB, ← e1, ← e2, ← e3]; exact h⟩, (by refine Wk.of ?_ ?_ rfl rfl rfl<;>(repeat' (first|exact trivial|exact WkD.same _|exact WkO.same _ _ rfl|exact WkD.any _|(apply WkD.nil;first|exact Or.inl rfl|exact Or.inr rfl)|(exact WkD.fz _ _ _ rfl (Or.inl ⟨_, rfl⟩) rfl)|(exact WkD.fz _ _ _ rfl (Or.inr rfl) rfl)|refine WkD.int ?_|exact WkD.new' rfl rfl rfl|exact WkO.new _ _ rfl|refine WkO.vars rfl ?_|with_reducible rfl|exact rfl|refine ⟨?_, ?_⟩|((refine wrapA ?_ ?_ ?_);(focus simp;done);(focus (try dsimp only);omega);(focus (try dsimp only);omega))|fail)))⟩
  rintro ⟨_, h1⟩
  have hb1 : a.pre.length ≤ 12 ∧ a.post.length ≤ 12 := by
    unfold lenB at h1
    cases q1 : decide ((a.pre.length : Int) > 12) with
    | true => rw [q1] at h1; cases h1
    | false =>
      cases q2 : decide ((a.post.length : Int) > 12) with
      | true => rw [q1, q2] at h1; cases h1
      | false => have := of_decide_eq_false q1; have := of_decide_eq_false q2; omega
  refine ⟨{ _x : Unit // preB n a.pre = false }, fun _ => [(1, .pv (.int .i64 n)), (2, .ref 0 0)], fun _ => 1, fun _ => [(0, .var (cellsA a))], ?_, ?_⟩
  · (try conv=>whnf);repeat' (first|(apply And.intro<;>try conv=>whnf)|(intro h;first|(with_reducible first|exact tf0 h|exact ft0 h|exact nt0 h|exact nf0 h)|exact litz h rfl|(with_reducible first|exact tf h (by assumption)|exact tf (by assumption) h)|try conv=>whnf)|with_reducible rfl|apply True.intro|((first|apply infoT|apply bleI|apply fitI|apply cellsI|apply szI);rfl)|(apply guardI;kernel_rfl)|(apply WhenQ.mk;(try conv=>whnf);rotate_left;(try conv=>whnf);rotate_right)|(with_reducible first|assumption|(apply not_of;assumption)|(apply left_of;assumption)|(apply left_of;apply left_of;assumption)|(apply and_of<;>first|assumption|(apply not_of;assumption)))|(refine lin_plan (by kernel_rfl) ?_;try conv=>whnf)|(refine ⟨_, _, rfl, idx_map (by with_reducible assumption), rfl, ?_⟩;try conv=>whnf)|(refine ⟨rfl, ?_⟩;try conv=>whnf)|exact Nat.le_refl 1|((first|(apply ex3;(focus with_reducible assumption);(focus with_reducible assumption))|(apply ex2;(focus with_reducible assumption)));try conv=>whnf)|fail)
    refine ⟨{ i : Nat // i ≤ a.pre.length ∧ preB n (a.pre.take i) = false }, fun i => [(1, .pv (.int .i64 n)), (2, .ref 0 0), (28, .pv (.sl (a.pre.map fpv))), (29, .pv (i64 (a.pre.map fpv).length)), (30, .pv (i64 i.1))], fun _ => 1, fun _ => [(0, .var (cellsA a))], fun i => a.pre.length - i.1, ⟨⟨0, Nat.zero_le _, rfl⟩, (by refine Wk.of ?_ ?_ rfl rfl rfl<;>(repeat' (first|exact trivial|exact WkD.same _|exact WkO.same _ _ rfl|exact WkD.any _|(apply WkD.nil;first|exact Or.inl rfl|exact Or.inr rfl)|(exact WkD.fz _ _ _ rfl (Or.inl ⟨_, rfl⟩) rfl)|(exact WkD.fz _ _ _ rfl (Or.inr rfl) rfl)|refine WkD.int ?_|exact WkD.new' rfl rfl rfl|exact WkO.new _ _ rfl|refine WkO.vars rfl ?_|with_reducible rfl|exact rfl|refine ⟨?_, ?_⟩|((refine wrapA ?_ ?_ ?_);(focus simp;done);(focus (try dsimp only);omega);(focus (try dsimp only);omega))|fail)))⟩, ?_⟩
    rintro ⟨i, hi, hb⟩
    (try conv=>whnf);repeat' (first|(apply And.intro<;>try conv=>whnf)|(intro h;first|(with_reducible first|exact tf0 h|exact ft0 h|exact nt0 h|exact nf0 h)|exact litz h rfl|(with_reducible first|exact tf h (by assumption)|exact tf (by assumption) h)|try conv=>whnf)|with_reducible rfl|apply True.intro|((first|apply infoT|apply bleI|apply fitI|apply cellsI|apply szI);rfl)|(apply guardI;kernel_rfl)|(apply WhenQ.mk;(try conv=>whnf);rotate_left;(try conv=>whnf);rotate_right)|(with_reducible first|assumption|(apply not_of;assumption)|(apply left_of;assumption)|(apply left_of;apply left_of;assumption)|(apply and_of<;>first|assumption|(apply not_of;assumption)))|(refine lin_plan (by kernel_rfl) ?_;try conv=>whnf)|(refine ⟨_, _, rfl, idx_map (by with_reducible assumption), rfl, ?_⟩;try conv=>whnf)|(refine ⟨rfl, ?_⟩;try conv=>whnf)|exact Nat.le_refl 1|((first|(apply ex3;(focus with_reducible assumption);(focus with_reducible assumption))|(apply ex2;(focus with_reducible assumption)));try conv=>whnf)|fail)
    · have hi' : i < a.pre.length := by simpa using lt_dec h
      have hn : a.pre[i]? = some a.pre[i] := List.getElem?_eq_getElem hi'
      have e4 : ((a.pre[i].map Nd.pv).length : Int) = (a.pre[i].length : Int) := by simp
      refine ⟨_, _, rfl, idx_map hn, rfl, ?_⟩
      (try conv=>whnf);repeat' (first|(apply And.intro<;>try conv=>whnf)|(intro h;first|(with_reducible first|exact tf0 h|exact ft0 h|exact nt0 h|exact nf0 h)|exact litz h rfl|(with_reducible first|exact tf h (by assumption)|exact tf (by assumption) h)|try conv=>whnf)|with_reducible rfl|apply True.intro|((first|apply infoT|apply bleI|apply fitI|apply cellsI|apply szI);rfl)|(apply guardI;kernel_rfl)|(apply WhenQ.mk;(try conv=>whnf);rotate_left;(try conv=>whnf);rotate_right)|(with_reducible first|assumption|(apply not_of;assumption)|(apply left_of;assumption)|(apply left_of;apply left_of;assumption)|(apply and_of<;>first|assumption|(apply not_of;assumption)))|(refine lin_plan (by kernel_rfl) ?_;try conv=>whnf)|(refine ⟨_, _, rfl, idx_map (by with_reducible assumption), rfl, ?_⟩;try conv=>whnf)|(refine ⟨rfl, ?_⟩;try conv=>whnf)|exact Nat.le_refl 1|((first|(apply ex3;(focus with_reducible assumption);(focus with_reducible assumption))|(apply ex2;(focus with_reducible assumption)));try conv=>whnf)|fail)
      · have h9 : preB n a.pre = true := any_at (p := fun f : List Nd => decide ((f.length : Int) > n)) hi' (by rw [← e4]; exact h)
        rw [fewI, h1, h9]; exact .refl _
      · exact ⟨⟨i + 1, hi', any_take (p := fun f : List Nd => decide ((f.length : Int) > n)) hi' hb (by rw [← e4]; exact h)⟩, by show a.pre.length - (i + 1) < a.pre.length - i; omega, (by refine Wk.of ?_ ?_ rfl rfl rfl<;>(repeat' (first|exact trivial|exact WkD.same _|exact WkO.same _ _ rfl|exact WkD.any _|(apply WkD.nil;first|exact Or.inl rfl|exact Or.inr rfl)|(exact WkD.fz _ _ _ rfl (Or.inl ⟨_, rfl⟩) rfl)|(exact WkD.fz _ _ _ rfl (Or.inr rfl) rfl)|refine WkD.int ?_|exact WkD.new' rfl rfl rfl|exact WkO.new _ _ rfl|refine WkO.vars rfl ?_|with_reducible rfl|exact rfl|refine ⟨?_, ?_⟩|((refine wrapA ?_ ?_ ?_);(focus simp;done);(focus (try dsimp only);omega);(focus (try dsimp only);omega))|fail)))⟩
    · have hi' : i = a.pre.length := by have := ge_dec (m := (a.pre.map fpv).length) h (by simpa using hi); simpa using this
      subst hi'
      rw [List.take_length] at hb
      exact ⟨⟨(), hb⟩, (by refine Wk.of ?_ ?_ rfl rfl rfl<;>(repeat' (first|exact trivial|exact WkD.same _|exact WkO.same _ _ rfl|exact WkD.any _|(apply WkD.nil;first|exact Or.inl rfl|exact Or.inr rfl)|(exact WkD.fz _ _ _ rfl (Or.inl ⟨_, rfl⟩) rfl)|(exact WkD.fz _ _ _ rfl (Or.inr rfl) rfl)|refine WkD.int ?_|exact WkD.new' rfl rfl rfl|exact WkO.new _ _ rfl|refine WkO.vars rfl ?_|with_reducible rfl|exact rfl|refine ⟨?_, ?_⟩|((refine wrapA ?_ ?_ ?_);(focus simp;done);(focus (try dsimp only);omega);(focus (try dsimp only);omega))|fail)))⟩
  rintro ⟨_, h2⟩
  rw [show fewI a n = !postB n a.post by rw [fewI, h1, h2]; rfl]
  (try conv=>whnf);repeat' (first|(apply And.intro<;>try conv=>whnf)|(intro h;first|(with_reducible first|exact tf0 h|exact ft0 h|exact nt0 h|exact nf0 h)|exact litz h rfl|(with_reducible first|exact tf h (by assumption)|exact tf (by assumption) h)|try conv=>whnf)|with_reducible rfl|apply True.intro|((first|apply infoT|apply bleI|apply fitI|apply cellsI|apply szI);rfl)|(apply guardI;kernel_rfl)|(apply WhenQ.mk;(try conv=>whnf);rotate_left;(try conv=>whnf);rotate_right)|(with_reducible first|assumption|(apply not_of;assumption)|(apply left_of;assumption)|(apply left_of;apply left_of;assumption)|(apply and_of<;>first|assumption|(apply not_of;assumption)))|(refine lin_plan (by kernel_rfl) ?_;try conv=>whnf)|(refine ⟨_, _, rfl, idx_map (by with_reducible assumption), rfl, ?_⟩;try conv=>whnf)|(refine ⟨rfl, ?_⟩;try conv=>whnf)|exact Nat.le_refl 1|((first|(apply ex3;(focus with_reducible assumption);(focus with_reducible assumption))|(apply ex2;(focus with_reducible assumption)));try conv=>whnf)|fail)
  refine ⟨{ i : Nat // i ≤ a.post.length ∧ postB n (a.post.take i) = false }, fun i => [(1, .pv (.int .i64 n)), (2, .ref 0 0), (40, .pv (.sl (a.post.map postPV))), (41, .pv (i64 (a.post.map postPV).length)), (42, .pv (i64 i.1))], fun _ => 1, fun _ => [(0, .var (cellsA a))], fun i => a.post.length - i.1, ⟨⟨0, Nat.zero_le _, rfl⟩, (by refine Wk.of ?_ ?_ rfl rfl rfl<;>(repeat' (first|exact trivial|exact WkD.same _|exact WkO.same _ _ rfl|exact WkD.any _|(apply WkD.nil;first|exact Or.inl rfl|exact Or.inr rfl)|(exact WkD.fz _ _ _ rfl (Or.inl ⟨_, rfl⟩) rfl)|(exact WkD.fz _ _ _ rfl (Or.inr rfl) rfl)|refine WkD.int ?_|exact WkD.new' rfl rfl rfl|exact WkO.new _ _ rfl|refine WkO.vars rfl ?_|with_reducible rfl|exact rfl|refine ⟨?_, ?_⟩|((refine wrapA ?_ ?_ ?_);(focus simp;done);(focus (try dsimp only);omega);(focus (try dsimp only);omega))|fail)))⟩, ?_⟩
  rintro ⟨i, hi, hb⟩
  (try conv=>whnf);repeat' (first|(apply And.intro<;>try conv=>whnf)|(intro h;first|(with_reducible first|exact tf0 h|exact ft0 h|exact nt0 h|exact nf0 h)|exact litz h rfl|(with_reducible first|exact tf h (by assumption)|exact tf (by assumption) h)|try conv=>whnf)|with_reducible rfl|apply True.intro|((first|apply infoT|apply bleI|apply fitI|apply cellsI|apply szI);rfl)|(apply guardI;kernel_rfl)|(apply WhenQ.mk;(try conv=>whnf);rotate_left;(try conv=>whnf);rotate_right)|(with_reducible first|assumption|(apply not_of;assumption)|(apply left_of;assumption)|(apply left_of;apply left_of;assumption)|(apply and_of<;>first|assumption|(apply not_of;assumption)))|(refine lin_plan (by kernel_rfl) ?_;try conv=>whnf)|(refine ⟨_, _, rfl, idx_map (by with_reducible assumption), rfl, ?_⟩;try conv=>whnf)|(refine ⟨rfl, ?_⟩;try conv=>whnf)|exact Nat.le_refl 1|((first|(apply ex3;(focus with_reducible assumption);(focus with_reducible assumption))|(apply ex2;(focus with_reducible assumption)));try conv=>whnf)|fail)
  · have hi' : i < a.post.length := by simpa using lt_dec h
    have hat := any_at (p := fun l : List Asg => bif decide ((l.length : Int) > 12) then true else asgB n l) hi'
    have htk := any_take (p := fun l : List Asg => bif decide ((l.length : Int) > 12) then true else asgB n l) hi' hb
    obtain ⟨l, hn, hr⟩ : ∃ l, a.post[i]? = some l ∧ a.post[i] = l := ⟨_, List.getElem?_eq_getElem hi', rfl⟩
    rw [hr] at hat htk
    have e4 : ((l.map Asg.pv).length : Int) = (l.length : Int) := by simp
    refine ⟨_, _, rfl, idx_map hn, rfl, ?_⟩
    clear hn
    (try conv=>whnf);repeat' (first|(apply And.intro<;>try conv=>whnf)|(intro h;first|(with_reducible first|exact tf0 h|exact ft0 h|exact nt0 h|exact nf0 h)|exact litz h rfl|(with_reducible first|exact tf h (by assumption)|exact tf (by assumption) h)|try conv=>whnf)|with_reducible rfl|apply True.intro|((first|apply infoT|apply bleI|apply fitI|apply cellsI|apply szI);rfl)|(apply guardI;kernel_rfl)|(apply WhenQ.mk;(try conv=>whnf);rotate_left;(try conv=>whnf);rotate_right)|(with_reducible first|assumption|(apply not_of;assumption)|(apply left_of;assumption)|(apply left_of;apply left_of;assumption)|(apply and_of<;>first|assumption|(apply not_of;assumption)))|(refine lin_plan (by kernel_rfl) ?_;try conv=>whnf)|(refine ⟨_, _, rfl, idx_map (by with_reducible assumption), rfl, ?_⟩;try conv=>whnf)|(refine ⟨rfl, ?_⟩;try conv=>whnf)|exact Nat.le_refl 1|((first|(apply ex3;(focus with_reducible assumption);(focus with_reducible assumption))|(apply ex2;(focus with_reducible assumption)));try conv=>whnf)|fail)
    · have h9 : decide ((l.length : Int) > 12) = true := by rw [← e4]; exact h
      rw [show postB n a.post = true from hat (by rw [h9]; rfl)]; exact .refl _
    have h9 : decide ((l.length : Int) > 12) = false := by rw [← e4]; exact h
    have hll : l.length ≤ 12 := by have := of_decide_eq_false h9; omega
    refine ⟨{ j : Nat // j ≤ l.length ∧ asgB n (l.take j) = false }, fun j => [(1, .pv (.int .i64 n)), (2, .ref 0 0), (40, .pv (.sl (a.post.map postPV))), (41, .pv (i64 (a.post.map postPV).length)), (42, .pv (i64 i)), (49, .pv (postPV l)), (50, .pv (i64 (l.map Asg.pv).length)), (51, .pv (i64 j.1))], fun _ => 1, fun _ => [(0, .var (cellsA a))], fun j => l.length - j.1, ⟨⟨0, Nat.zero_le _, rfl⟩, (by refine Wk.of ?_ ?_ rfl rfl rfl<;>(repeat' (first|exact trivial|exact WkD.same _|exact WkO.same _ _ rfl|exact WkD.any _|(apply WkD.nil;first|exact Or.inl rfl|exact Or.inr rfl)|(exact WkD.fz _ _ _ rfl (Or.inl ⟨_, rfl⟩) rfl)|(exact WkD.fz _ _ _ rfl (Or.inr rfl) rfl)|refine WkD.int ?_|exact WkD.new' rfl rfl rfl|exact WkO.new _ _ rfl|refine WkO.vars rfl ?_|with_reducible rfl|exact rfl|refine ⟨?_, ?_⟩|((refine wrapA ?_ ?_ ?_);(focus simp;done);(focus (try dsimp only);omega);(focus (try dsimp only);omega))|fail)))⟩, ?_⟩
    rintro ⟨j, hj, hc⟩
    (try conv=>whnf);repeat' (first|(apply And.intro<;>try conv=>whnf)|(intro h;first|(with_reducible first|exact tf0 h|exact ft0 h|exact nt0 h|exact nf0 h)|exact litz h rfl|(with_reducible first|exact tf h (by assumption)|exact tf (by assumption) h)|try conv=>whnf)|with_reducible rfl|apply True.intro|((first|apply infoT|apply bleI|apply fitI|apply cellsI|apply szI);rfl)|(apply guardI;kernel_rfl)|(apply WhenQ.mk;(try conv=>whnf);rotate_left;(try conv=>whnf);rotate_right)|(with_reducible first|assumption|(apply not_of;assumption)|(apply left_of;assumption)|(apply left_of;apply left_of;assumption)|(apply and_of<;>first|assumption|(apply not_of;assumption)))|(refine lin_plan (by kernel_rfl) ?_;try conv=>whnf)|(refine ⟨_, _, rfl, idx_map (by with_reducible assumption), rfl, ?_⟩;try conv=>whnf)|(refine ⟨rfl, ?_⟩;try conv=>whnf)|exact Nat.le_refl 1|((first|(apply ex3;(focus with_reducible assumption);(focus with_reducible assumption))|(apply ex2;(focus with_reducible assumption)));try conv=>whnf)|fail)
    · have hj' : j < l.length := by simpa using lt_dec h
      have hm : l[j]? = some l[j] := List.getElem?_eq_getElem hj'
      have e5 : ((l[j].to.map Nd.pv).length : Int) = (l[j].to.length : Int) := by simp
      refine ⟨_, _, rfl, idx_map hm, rfl, ?_⟩
      (try conv=>whnf);repeat' (first|(apply And.intro<;>try conv=>whnf)|(intro h;first|(with_reducible first|exact tf0 h|exact ft0 h|exact nt0 h|exact nf0 h)|exact litz h rfl|(with_reducible first|exact tf h (by assumption)|exact tf (by assumption) h)|try conv=>whnf)|with_reducible rfl|apply True.intro|((first|apply infoT|apply bleI|apply fitI|apply cellsI|apply szI);rfl)|(apply guardI;kernel_rfl)|(apply WhenQ.mk;(try conv=>whnf);rotate_left;(try conv=>whnf);rotate_right)|(with_reducible first|assumption|(apply not_of;assumption)|(apply left_of;assumption)|(apply left_of;apply left_of;assumption)|(apply and_of<;>first|assumption|(apply not_of;assumption)))|(refine lin_plan (by kernel_rfl) ?_;try conv=>whnf)|(refine ⟨_, _, rfl, idx_map (by with_reducible assumption), rfl, ?_⟩;try conv=>whnf)|(refine ⟨rfl, ?_⟩;try conv=>whnf)|exact Nat.le_refl 1|((first|(apply ex3;(focus with_reducible assumption);(focus with_reducible assumption))|(apply ex2;(focus with_reducible assumption)));try conv=>whnf)|fail)
      · have h7 : asgB n l = true := any_at (p := fun p : Asg => decide ((p.to.length : Int) > n)) hj' (by rw [← e5]; exact h)
        rw [show postB n a.post = true from hat (by rw [h9, h7]; rfl)]; exact .refl _
      · exact ⟨⟨j + 1, hj', any_take (p := fun p : Asg => decide ((p.to.length : Int) > n)) hj' hc (by rw [← e5]; exact h)⟩, by show l.length - (j + 1) < l.length - j; omega, (by refine Wk.of ?_ ?_ rfl rfl rfl<;>(repeat' (first|exact trivial|exact WkD.same _|exact WkO.same _ _ rfl|exact WkD.any _|(apply WkD.nil;first|exact Or.inl rfl|exact Or.inr rfl)|(exact WkD.fz _ _ _ rfl (Or.inl ⟨_, rfl⟩) rfl)|(exact WkD.fz _ _ _ rfl (Or.inr rfl) rfl)|refine WkD.int ?_|exact WkD.new' rfl rfl rfl|exact WkO.new _ _ rfl|refine WkO.vars rfl ?_|with_reducible rfl|exact rfl|refine ⟨?_, ?_⟩|((refine wrapA ?_ ?_ ?_);(focus simp;done);(focus (try dsimp only);omega);(focus (try dsimp only);omega))|fail)))⟩
    · have hj' : j = l.length := by have := ge_dec (m := (l.map Asg.pv).length) h (by simpa using hj); simpa using this
      subst hj'
      rw [List.take_length] at hc
      exact ⟨⟨i + 1, hi', htk (by rw [h9, hc]; rfl)⟩, by show a.post.length - (i + 1) < a.post.length - i; omega, (by refine Wk.of ?_ ?_ rfl rfl rfl<;>(repeat' (first|exact trivial|exact WkD.same _|exact WkO.same _ _ rfl|exact WkD.any _|(apply WkD.nil;first|exact Or.inl rfl|exact Or.inr rfl)|(exact WkD.fz _ _ _ rfl (Or.inl ⟨_, rfl⟩) rfl)|(exact WkD.fz _ _ _ rfl (Or.inr rfl) rfl)|refine WkD.int ?_|exact WkD.new' rfl rfl rfl|exact WkO.new _ _ rfl|refine WkO.vars rfl ?_|with_reducible rfl|exact rfl|refine ⟨?_, ?_⟩|((refine wrapA ?_ ?_ ?_);(focus simp;done);(focus (try dsimp only);omega);(focus (try dsimp only);omega))|fail)))⟩
  · have hi' : i = a.post.length := by have := ge_dec (m := (a.post.map postPV).length) h (by simpa using hi); simpa using this
    subst hi'
    rw [List.take_length] at hb
    rw [hb]; exact .refl _
end Go.Proofs.Ytnbnkgcjgfmlcaa
namespace Go.Dv
open Go.RowKit (Below Below.trod)
open Go.ChangeShapes

def NoT : Nat → Prop := fun _ => False
def mkE (P : Program) (e : TypeId) (cs : List PV) : PV := match kindT P e with
  | some true => .agg cs
  | _ => (match cs with | [p] => p | _ => .agg cs)
/-- The fields lie without gaps. -/
def gapless (P : Program) : List Field → Nat → Nat → Bool
  | [], off, n => Nat.beq off n
  | f :: r, off, n => Nat.beq f.offset off && gapless P r (off + P.cellsOf f.type) n
/-- Is the type made of bools, integers, strings, slices and structs alone? -/
def plainT (P : Program) : Nat → TypeId → Bool
  | 0, _ => false
  | n + 1, t => match P.underlying t with
    | some .bool => true
    | some (.int _) => true
    | some .string => true
    | some (.slice e) => plainT P n e && !Nat.beq (P.cellsOf e) 0
    | some (.struct fs) => gapless P fs.toList 0 (P.cellsOf t) && fs.toList.all fun f => plainT P n f.type
    | some (.array m e) => Nat.beq (m * P.cellsOf e) (P.cellsOf t) && plainT P n e
    | _ => false
def TyAs (F : TypeId → List PV → Prop) (e : TypeId) : Nat → List PV → Prop
  | 0, ps => ps = []
  | m + 1, ps => ∃ a b, ps = a ++ b ∧ F e a ∧ TyAs F e m b
def TyFs (F : TypeId → List PV → Prop) : List Field → List PV → Prop
  | [], ps => ps = []
  | f :: r, ps => ∃ a b, ps = a ++ b ∧ F f.type a ∧ TyFs F r b
/-- The cells of a value of a type. -/
def TyC (P : Program) : Nat → TypeId → List PV → Prop
  | 0, _, _ => False
  | n + 1, t, ps => match P.underlying t with
    | some .bool => ∃ b, ps = [.bool b]
    | some (.int k) => ∃ m, ps = [.int k m] ∧ (Lit.int k m).wf = true
    | some .string => ∃ s, ps = [.str s]
    | some (.slice e) => ps = [.nil] ∨ ∃ l, ps = [.sl l] ∧ ∀ p, p ∈ l → ∃ cs, TyC P n e cs ∧ p = mkE P e cs
    | some (.struct fs) => TyFs (TyC P n) fs.toList ps
    | some (.array m e) => TyAs (TyC P n) e m ps
    | _ => False

theorem mkE_cells {P : Program} {n : Nat} {e : TypeId} {cs : List PV} (h : TyC P n e cs) : (mkE P e cs).cells = cs := by
  cases n with
  | zero => exact h.elim
  | succ n =>
    simp only [TyC] at h
    unfold mkE kindT
    split at h
    · rename_i hu; obtain ⟨b, rfl⟩ := h; simp [hu, PV.cells]
    · rename_i k hu; obtain ⟨m, rfl, _⟩ := h; simp [hu, PV.cells]
    · rename_i hu; obtain ⟨s, rfl⟩ := h; simp [hu, PV.cells]
    · rename_i e' hu; rcases h with rfl | ⟨l, rfl, _⟩ <;> simp [hu, PV.cells]
    · rename_i fs hu; simp [hu, PV.cells]
    · rename_i m e' hu; simp [hu, PV.cells]
    · exact h.elim

theorem relPs_nil (w : World) : RelPs NoT w [] [] := ⟨rfl, fun i p v h => by simp at h⟩
theorem relPs_one {w : World} {p : PV} {v : Value} (h : RelP NoT w p v) : RelPs NoT w [p] [v] := ⟨rfl, fun i q u hq hu => by
  cases i with
  | zero => simp at hq hu; subst hq; subst hu; exact h
  | succ i => simp at hq⟩
theorem relPs_append {w : World} {ps qs : List PV} {vs us : List Value} (h1 : RelPs NoT w ps vs) (h2 : RelPs NoT w qs us) : RelPs NoT w (ps ++ qs) (vs ++ us) := by
  refine ⟨by simp [h1.1, h2.1], fun i p v hp hv => ?_⟩
  rcases Nat.lt_or_ge i ps.length with hl | hl
  · rw [List.getElem?_append_left hl] at hp
    rw [List.getElem?_append_left (by rw [← h1.1]; exact hl)] at hv
    exact h1.2 i p v hp hv
  · rw [List.getElem?_append_right hl] at hp
    rw [List.getElem?_append_right (by rw [← h1.1]; exact hl), ← h1.1] at hv
    exact h2.2 _ p v hp hv

section
variable {H : Type} {enc : TypeId × Value → H} {P : Program} {w : World}

theorem fields_rel {F : TypeId → List PV → Prop} {cs : List Value} : ∀ (l : List Field) (off : Nat), (∀ f, f ∈ l → ∃ ps, F f.type ps ∧ RelPs NoT w ps ((cs.drop f.offset).take (P.cellsOf f.type))) → gapless P l off cs.length = true →
    ∃ ps, TyFs F l ps ∧ RelPs NoT w ps (cs.drop off)
  | [], off, _, hg => by
    simp only [gapless] at hg
    have : off = cs.length := Nat.eq_of_beq_eq_true hg
    exact ⟨[], rfl, by rw [this, List.drop_length]; exact relPs_nil w⟩
  | f :: r, off, hf, hg => by
    simp only [gapless, Bool.and_eq_true] at hg
    have ho : f.offset = off := Nat.eq_of_beq_eq_true hg.1
    obtain ⟨a, ha1, ha2⟩ := hf f (by simp)
    obtain ⟨b, hb1, hb2⟩ := fields_rel r (off + P.cellsOf f.type) (fun g hg' => hf g (by simp [hg'])) hg.2
    refine ⟨a ++ b, ⟨a, b, rfl, ha1, hb1⟩, ?_⟩
    have e : cs.drop off = (cs.drop off).take (P.cellsOf f.type) ++ cs.drop (off + P.cellsOf f.type) := by
      rw [← List.drop_drop, List.take_append_drop]
    rw [e]
    rw [ho] at ha2
    exact relPs_append ha2 hb2

theorem elems_rel {F : TypeId → List PV → Prop} {cs : List Value} {e : TypeId} : ∀ (m off : Nat), (∀ i, i < m → ∃ ps, F e ps ∧ RelPs NoT w ps ((cs.drop (off + i * P.cellsOf e)).take (P.cellsOf e))) → cs.length = off + m * P.cellsOf e →
    ∃ ps, TyAs F e m ps ∧ RelPs NoT w ps (cs.drop off)
  | 0, off, _, hg => ⟨[], rfl, by rw [show off = cs.length by omega, List.drop_length]; exact relPs_nil w⟩
  | m + 1, off, hf, hg => by
    obtain ⟨a, ha1, ha2⟩ := hf 0 (by omega)
    rw [Nat.zero_mul, Nat.add_zero] at ha2
    obtain ⟨b, hb1, hb2⟩ := elems_rel m (off + P.cellsOf e) (fun i hi => by
      have := hf (i + 1) (by omega)
      rwa [show off + (i + 1) * P.cellsOf e = off + P.cellsOf e + i * P.cellsOf e by rw [Nat.add_mul]; omega] at this) (by rw [hg, Nat.add_mul]; omega)
    refine ⟨a ++ b, ⟨a, b, rfl, ha1, hb1⟩, ?_⟩
    have e' : cs.drop off = (cs.drop off).take (P.cellsOf e) ++ cs.drop (off + P.cellsOf e) := by
      rw [← List.drop_drop, List.take_append_drop]
    rw [e']
    exact relPs_append ha2 hb2

theorem trod_rel : ∀ (n : Nat) (t : TypeId) (fuel : Nat) (cs : List Value) (x : DataW H × List MemPlace), plainT P n t = true → DataW.trod enc P w 0 (fun _ => true) true fuel t cs = some x → ∃ ps, TyC P n t ps ∧ RelPs NoT w ps cs
  | 0, t, fuel, cs, x, hp, _ => by simp [plainT] at hp
  | n + 1, t, fuel, cs, x, hp, h => by
    simp only [plainT] at hp
    simp only [TyC]
    split at hp
    · rename_i hu
      obtain ⟨b, rfl, _⟩ := DataW.trod_bool hu h
      exact ⟨[.bool b], ⟨b, rfl⟩, relPs_one (.bool b)⟩
    · rename_i k hu
      obtain ⟨m, rfl, _, hm⟩ := DataW.trod_int hu h
      exact ⟨[.int k m], ⟨m, rfl, hm⟩, relPs_one (.int k m)⟩
    · rename_i hu
      obtain ⟨s, rfl, _⟩ := DataW.trod_string hu h
      exact ⟨[.str s], ⟨s, rfl⟩, relPs_one (.str s)⟩
    · rename_i e hu
      simp only [Bool.and_eq_true, Bool.not_eq_true'] at hp
      have hpos : 0 < P.cellsOf e := by
        rcases Nat.eq_zero_or_pos (P.cellsOf e) with h0 | h0
        · rw [h0] at hp; simp at hp
        · exact h0
      rcases DataW.trod_slice hu h with ⟨rfl, _⟩ | ⟨a, len, cap, elems, rest, m, _, rfl, _, _, hle, _, hlen, hel, _, _⟩
      · exact ⟨[.nil], .inl rfl, relPs_one .nil⟩
      · -- each element
        have each : ∀ i, i < len → ∃ ps, TyC P n e ps ∧ ∃ us, w.cells? 0 (a.add (i * P.cellsOf e)) (P.cellsOf e) = some us ∧ RelPs NoT w ps us := by
          intro i hi
          have h1 := hel i hi
          rw [List.getElem?_eq_getElem (by omega)] at h1
          obtain ⟨us, h2, h3⟩ := Option.bind_eq_some_iff.1 h1
          obtain ⟨ps, h4, h5⟩ := trod_rel n e m us _ hp.1 h3
          exact ⟨ps, h4, us, h2, h5⟩
        cases len with
        | zero => exact ⟨[.sl []], .inr ⟨[], rfl, fun p hp => by simp at hp⟩, relPs_one (.e0 (some a) cap)⟩
        | succ len =>
          have hspot : a = ⟨a.block, a.off, none⟩ ∧ a.block < w.heap.size := by
            obtain ⟨ps, _, us, h2, _⟩ := each 0 (by omega)
            obtain ⟨_, hl, hc⟩ := World.cells?_some h2
            have := hc 0 hpos
            rw [Nat.zero_mul] at this
            have e0 : (a.add 0).add 0 = a := by simp [Addr.add]
            rw [e0, List.getElem?_eq_getElem (by omega)] at this
            unfold World.cell? at this
            split at this
            · rename_i c _ _ hb
              have hb' := (Array.getElem?_eq_some_iff.1 hb).1
              refine ⟨?_, hb'⟩
              cases hs : a.spot with
              | none => cases a; simp at hs; subst hs; rfl
              | some s => rw [hs] at this; simp at this
            · cases this
          obtain ⟨ha, hb⟩ := hspot
          have hch : ∃ f : Nat → List PV, ∀ i, i < len + 1 → TyC P n e (f i) ∧ ∃ us, w.cells? 0 (a.add (i * P.cellsOf e)) (P.cellsOf e) = some us ∧ RelPs NoT w (f i) us := by
            refine ⟨fun i => if hi : i < len + 1 then Classical.choose (each i hi) else [], fun i hi => ?_⟩
            simp only [dif_pos hi]
            exact Classical.choose_spec (each i hi)
          obtain ⟨f, hf⟩ := hch
          refine ⟨[.sl ((List.range (len + 1)).map fun i => mkE P e (f i))], .inr ⟨_, rfl, fun p hp => ?_⟩, relPs_one ?_⟩
          · obtain ⟨i, hi, rfl⟩ := List.mem_map.1 hp
            exact ⟨f i, (hf i (by simpa using hi)).1, rfl⟩
          · have hll : ((List.range (len + 1)).map fun i => mkE P e (f i)).length = len + 1 := by simp
            have hcell : ∀ i, i < len + 1 → ∃ us : List Value, us.length = P.cellsOf e ∧ (f i).length = P.cellsOf e ∧ (∀ j, j < P.cellsOf e → w.cell? ⟨a.block, a.off + i * P.cellsOf e + j, none⟩ = us[j]?) ∧ RelPs NoT w (f i) us := by
              intro i hi
              obtain ⟨_, us, h2, h3⟩ := hf i hi
              obtain ⟨_, hl, hc⟩ := World.cells?_some h2
              refine ⟨us, hl, by rw [h3.1, hl], fun j hj => ?_, h3⟩
              rw [← hc j hj]
              congr 1
              rw [ha]
              simp only [Addr.add]
              by_cases e1 : i * P.cellsOf e = 0 <;> by_cases e2 : j = 0 <;> simp [e1, e2, Nat.add_assoc]
            have hget : ∀ (i : Nat) p, ((List.range (len + 1)).map fun i => mkE P e (f i))[i]? = some p → i < len + 1 ∧ p.cells = f i := by
              intro i p hp
              have hi : i < len + 1 := by have := (List.getElem?_eq_some_iff.1 hp).1; simpa using this
              rw [List.getElem?_map, List.getElem?_range hi] at hp
              simp at hp; subst hp
              exact ⟨hi, mkE_cells (hf i hi).1⟩
            have key := RelP.sl (T := NoT) (w := w) a.block a.off (P.cellsOf e) cap ((List.range (len + 1)).map fun i => mkE P e (f i)) (fun i j => (w.cell? ⟨a.block, a.off + i * P.cellsOf e + j, none⟩).getD undef) (fun h => h) hb (by rw [hll]; exact hle)
              (fun p hp => by
                obtain ⟨i, hi⟩ := List.mem_iff_getElem?.1 hp
                obtain ⟨h1, h2⟩ := hget i p hi
                obtain ⟨us, _, g2, _⟩ := hcell i h1
                rw [h2, g2])
              (fun i p j q hp hq => by
                obtain ⟨h1, h2⟩ := hget i p hp
                obtain ⟨us, g1, g2, g3, g4⟩ := hcell i h1
                rw [h2] at hq
                have hj : j < P.cellsOf e := by have := (List.getElem?_eq_some_iff.1 hq).1; omega
                rw [g3 j hj, List.getElem?_eq_getElem (by omega)]; rfl)
              (fun i p j q hp hq => by
                obtain ⟨h1, h2⟩ := hget i p hp
                obtain ⟨us, g1, g2, g3, g4⟩ := hcell i h1
                rw [h2] at hq
                have hj : j < P.cellsOf e := by have := (List.getElem?_eq_some_iff.1 hq).1; omega
                rw [g3 j hj, List.getElem?_eq_getElem (by omega)]
                exact g4.2 j q _ hq (List.getElem?_eq_getElem (by omega)))
            rw [hll, ← ha] at key
            exact key
    · rename_i fs hu
      simp only [Bool.and_eq_true, List.all_eq_true] at hp
      obtain ⟨xs, m, _, _, hl, hxl, hx⟩ := DataW.trod_struct hu h
      obtain ⟨ps, h1, h2⟩ := fields_rel (P := P) (w := w) (F := TyC P n) (cs := cs) fs.toList 0 (fun f hf => by
        obtain ⟨i, hi⟩ := List.mem_iff_getElem?.1 hf
        have hi' : fs[i]? = some f := by simpa using hi
        have := hx i f hi'
        have hlt : i < xs.length := by rw [hxl]; exact (Array.getElem?_eq_some_iff.1 hi').1
        rw [List.getElem?_eq_getElem hlt] at this
        exact trod_rel n f.type m _ _ (hp.2 f hf) this) (by rw [hl]; exact hp.1)
      exact ⟨ps, h1, by simpa using h2⟩
    · rename_i m e hu
      simp only [Bool.and_eq_true] at hp
      have hsz : m * P.cellsOf e = P.cellsOf t := Nat.eq_of_beq_eq_true hp.1
      obtain ⟨xs, k, _, _, hl, hxl, hx⟩ := DataW.trod_array hu h
      obtain ⟨ps, h1, h2⟩ := elems_rel (P := P) (w := w) (F := TyC P n) (cs := cs) (e := e) m 0 (fun i hi => by
        have := hx i hi
        rw [List.getElem?_eq_getElem (by omega)] at this
        rw [Nat.zero_add]
        exact trod_rel n e k _ _ hp.2 this) (by rw [hl, ← hsz, Nat.zero_add])
      exact ⟨ps, h1, by simpa using h2⟩
    · cases hp

theorem shut_bool' {w' : World} {base : Nat} {spare : Nat → Bool} {held : Bool} {t : TypeId} (ht : P.underlying t = some .bool) : DataW.Trod enc P w' base spare held t (.bool true) (.lit (.bool true)) [] :=
  ⟨1, by simp [DataW.trod, Value.cells, ht]⟩
/-- A parameter's pure value. -/
def TyA (P : Program) (n : Nat) (t : TypeId) (p : PV) : Prop := ∃ cs, TyC P n t cs ∧ p = mkE P t cs
def TyAll (P : Program) (n : Nat) : List TypeId → List PV → Prop
  | [], ps => ps = []
  | t :: ts, ps => ∃ p r, ps = p :: r ∧ TyA P n t p ∧ TyAll P n ts r

theorem arg_rel {n : Nat} {t : TypeId} {v : Value} {d : DataW H} {q : List MemPlace} {r : Reach} {b : Nat} (hp : plainT P n t = true) (hval : Value.okWide P w r b t v) (h : DataW.Trod enc P w 0 (fun _ => true) true t v d q) :
    ∃ p, TyA P n t p ∧ RelP NoT w p v := by
  obtain ⟨fuel, h⟩ := h
  obtain ⟨ps, h1, h2⟩ := trod_rel n t fuel _ _ hp h
  refine ⟨mkE P t ps, ⟨ps, h1, rfl⟩, ?_⟩
  cases n with
  | zero => exact h1.elim
  | succ n =>
    have h1' := h1
    simp only [TyC] at h1
    have single : ∀ p, ps = [p] → (∀ xs, v = .agg xs → False) → RelP NoT w p v := by
      intro p hps ho
      subst hps
      have hc : v.cells.toList = [v] := by cases v with
        | agg xs => exact (ho xs rfl).elim
        | _ => rfl
      rw [hc] at h2
      exact h2.2 0 p v rfl rfl
    unfold mkE kindT
    split at h1
    · rename_i hu
      obtain ⟨b, rfl⟩ := h1
      simp only [hu]
      exact single _ rfl fun xs e => by subst e; simp [Value.okWide, hu, Cell.okWide, Cell.ok] at hval
    · rename_i k hu
      obtain ⟨m, rfl, _⟩ := h1
      simp only [hu]
      exact single _ rfl fun xs e => by subst e; simp [Value.okWide, hu, Cell.okWide, Cell.ok] at hval
    · rename_i hu
      obtain ⟨s, rfl⟩ := h1
      simp only [hu]
      exact single _ rfl fun xs e => by subst e; simp [Value.okWide, hu, Cell.okWide, Cell.ok] at hval
    · rename_i e hu
      have ho : ∀ xs, v = .agg xs → False := fun xs e => by subst e; simp [Value.okWide, hu, Cell.okWide, Cell.ok] at hval
      rcases h1 with rfl | ⟨l, rfl, _⟩
      · simp only [hu]; exact single _ rfl ho
      · simp only [hu]; exact single _ rfl ho
    · rename_i fs hu
      simp only [hu]
      simp only [Value.okWide, hu] at hval
      obtain ⟨cs, rfl, _⟩ := hval
      exact .agg ps cs.toList h2.1 fun i p v hp hv => h2.2 i p v hp hv
    · rename_i m e hu
      simp only [hu]
      simp only [Value.okWide, hu] at hval
      obtain ⟨cs, rfl, _⟩ := hval
      exact .agg ps cs.toList h2.1 fun i p v hp hv => h2.2 i p v hp hv
    · exact h1.elim

theorem args_rel {n : Nat} {r : Reach} {b : Nat} : ∀ (ts : List TypeId) (vs : List Value) (ds : List (DataW H)) (q : List MemPlace), (ts.all fun t => plainT P n t) = true → (∀ (j : Nat) t v, ts[j]? = some t → vs[j]? = some v → Value.okWide P w r b t v) →
    DataW.TrodAll enc P w 0 (fun _ => true) true ts vs ds q → ∃ ps, TyAll P n ts ps ∧ RelPs NoT w ps vs
  | [], vs, ds, q, _, _, h => by
    cases vs with
    | nil => exact ⟨[], rfl, relPs_nil w⟩
    | cons v vs => cases ds <;> exact h.elim
  | t :: ts, vs, ds, q, hp, hval, h => by
    cases vs with
    | nil => cases ds <;> exact h.elim
    | cons v vs =>
      cases ds with
      | nil => exact h.elim
      | cons d ds =>
        obtain ⟨a, c, h1, h2, _⟩ := h
        simp only [List.all_cons, Bool.and_eq_true] at hp
        obtain ⟨p, g1, g2⟩ := arg_rel hp.1 (hval 0 t v rfl rfl) h1
        obtain ⟨ps, g3, g4⟩ := args_rel ts vs ds c hp.2 (fun j t v ht hv => hval (j + 1) t v (by simpa using ht) (by simpa using hv)) h2
        exact ⟨p :: ps, ⟨p, ps, rfl, g1, g3⟩, relPs_append (relPs_one g2) g4⟩

theorem trods_stay {w' : World} (hl : laidOutB P = true) (hb : Below w.heap.size w w') : ∀ (ts : List TypeId) (vs : List Value) (ds : List (DataW H)) (q : List MemPlace), (ts.all fun t => P.readableRec t && decide (t < P.types.size)) = true → (∀ x ∈ q, x.block < w.heap.size) →
    DataW.TrodAll enc P w 0 (fun _ => true) true ts vs ds q → DataW.TrodAll enc P w' 0 (fun b => decide (b < w.heap.size)) true ts vs ds q
  | [], vs, ds, q, _, _, h => by
    cases vs <;> cases ds <;> exact h
  | t :: ts, vs, ds, q, hr, hlt, h => by
    cases vs with
    | nil => cases ds <;> exact h.elim
    | cons v vs =>
      cases ds with
      | nil => exact h.elim
      | cons d ds =>
        obtain ⟨a, c, h1, h2, rfl⟩ := h
        simp only [List.all_cons, Bool.and_eq_true, decide_eq_true_eq] at hr
        exact ⟨a, c, Below.trod hl hr.1.1 hr.1.2 h1 hb (fun x hx => hlt x (List.mem_append_left _ hx)), trods_stay hl hb ts vs ds c hr.2 (fun x hx => hlt x (List.mem_append_right _ hx)) h2, rfl⟩

/-- What a law's row asks of each call. -/
theorem law_calls {n : Nat} {f : FuncId} {fn : Func} {s : ChangeSpec} {tb : TypeId} {apart : Bool} {W : World} {base : Nat} {args : Array Value} {ds gs : List (DataW H)} {before : List MemPlace} (hl : laidOutB P = true)
    (hr : (fn.params.toList.all fun t => P.readableRec t && decide (t < P.types.size)) = true) (hp : (fn.params.toList.all fun t => plainT P n t) = true) (hres : fn.resultTypes = #[tb]) (hb : P.underlying tb = some .bool) (hvs : s.vars = [])
    (hs : ∀ ds : List (DataW H), ds.length = fn.params.toList.length → s.fn H ds = { results := [.lit (.bool true)], args := ds })
    (hval : ∀ (j : Nat) t v, fn.params[j]? = some t → args[j]? = some v → Value.okWide P W .any base t v) (hW : DataW.Whole enc P fn.params.toList s.vars apart W args.toList ds gs before)
    (hpure : ∀ ps, TyAll P n fn.params.toList ps → PureFn P f ps (.bool true)) :
    Calls P f args W fun e W' => ∃ v, e = .returned v ∧ s.post enc P fn apart true false false W args v W' := by
  have hW' := hW
  obtain ⟨p, q, hA, hV, rfl, hfz, hnd⟩ := hW
  rw [hvs] at hV
  obtain ⟨rfl, rfl⟩ : gs = [] ∧ q = [] := by cases gs with
    | nil => exact ⟨rfl, hV⟩
    | cons g gs => exact hV.elim
  obtain ⟨ps, h1, h2⟩ := args_rel (n := n) (r := .any) (b := base) fn.params.toList args.toList ds p hp (fun j t v ht hv => hval j t v (by simpa using ht) (by simpa using hv)) hA
  refine ((hpure ps h1).elim.2 NoT W args.toList (fun b hb => hb.elim) h2).mono ?_
  rintro e W' ⟨v, rfl, hv, hB⟩
  obtain rfl : v = .bool true := by cases hv; rfl
  have hlen : ds.length = fn.params.toList.length := by
    have : ∀ (ts : List TypeId) (vs : List Value) (ds : List (DataW H)) (q : List MemPlace), DataW.TrodAll enc P W 0 (fun _ => true) true ts vs ds q → ds.length = ts.length := by
      intro ts
      induction ts with
      | nil => intro vs ds q h; cases vs <;> cases ds <;> first | rfl | exact h.elim
      | cons t ts ih =>
        intro vs ds q h
        cases vs with
        | nil => cases ds <;> exact h.elim
        | cons v vs =>
          cases ds with
          | nil => exact h.elim
          | cons d ds => obtain ⟨a, c, _, h2, _⟩ := h; simp [ih vs ds c h2]
    exact this _ _ _ _ hA
  have hlt : ∀ x ∈ p, x.block < W.heap.size := fun x hx => hW'.lt x (by simpa using hx)
  have e1 : s.fn H (ds ++ []) = { results := [.lit (.bool true)], args := ds } := by rw [List.append_nil]; exact hs ds hlen
  refine ⟨_, rfl, ds, [], _, [], p, [], hW', ?_, ?_, ?_, hB.frame _, fun h => by cases h⟩
  · rw [e1, hres]
    exact trodAll_mk1 (shut_bool' hb)
  · rw [e1]
    exact trods_stay hl hB fn.params.toList args.toList ds p hr hlt hA
  · rw [e1, hvs]
    exact rfl
end
end Go.Dv
set_option maxRecDepth 100000
set_option maxHeartbeats 4000000
namespace Go.Proofs.Ytnbnkgcjgfmlcaa
open Go Go.Dv

theorem Try.own : ownKnob Try.prog.godebug = none := by kernel_rfl
theorem Try.laidOut : laidOutB Try.prog = true := by kernel_rfl
theorem u_int : Try.prog.underlying 3 = some (.int .i64) := by kernel_rfl
theorem u_nodes : Try.prog.underlying 45 = some (.slice 66) := by kernel_rfl

theorem int_of {n : Nat} {cs : List PV} (h : TyC Try.prog (n + 1) 3 cs) : ∃ i : Int, cs = [.int .i64 i] ∧ (Lit.int .i64 i).wf = true := by
  simp only [TyC, u_int] at h
  obtain ⟨m, rfl, hm⟩ := h
  exact ⟨m, rfl, hm⟩
theorem u_node : ∃ fs : Array Field, Try.prog.underlying 66 = some (.struct fs) ∧ fs.toList.map (·.type) = [3, 3, 3, 3, 3, 3] := ⟨_, rfl, by kernel_rfl⟩
theorem nd_of {n : Nat} {cs : List PV} (h : TyC Try.prog (n + 2) 66 cs) : ∃ x : Nd, mkE Try.prog 66 cs = x.pv := by
  obtain ⟨fs, hu, hf⟩ := u_node
  simp only [TyC, hu] at h
  have key : ∀ (l : List Field) (k : Nat) (ps : List PV), l.map (·.type) = List.replicate k 3 → TyFs (TyC Try.prog (n + 1)) l ps → ∃ is : List Int, is.length = k ∧ ps = is.map (PV.int .i64) := by
    intro l
    induction l with
    | nil => intro k ps hk hp; simp only [TyFs] at hp; subst hp; cases k with
      | zero => exact ⟨[], rfl, rfl⟩
      | succ k => simp [List.replicate] at hk
    | cons f r ih =>
      intro k ps hk hp
      cases k with
      | zero => simp at hk
      | succ k =>
        simp only [List.map_cons, List.replicate_succ, List.cons.injEq] at hk
        obtain ⟨a, b, rfl, h1, h2⟩ := hp
        rw [hk.1] at h1
        obtain ⟨i, rfl, _⟩ := int_of h1
        obtain ⟨is, h3, rfl⟩ := ih k b hk.2 h2
        exact ⟨i :: is, by simp [h3], rfl⟩
  obtain ⟨is, h1, rfl⟩ := key fs.toList 6 cs hf h
  match is, h1 with
  | [a, b, c, d, e, f], _ => exact ⟨⟨a, b, c, d, e, f⟩, by simp only [mkE, kindT, hu]; rfl⟩
theorem arg_nodes {n : Nat} {p : PV} (h : TyA Try.prog (n + 3) 45 p) : ∃ f : List Nd, PLe p (fpv f) := by
  obtain ⟨cs, h1, rfl⟩ := h
  simp only [TyC, u_nodes] at h1
  rcases h1 with rfl | ⟨l, rfl, hl⟩
  · exact ⟨[], by simp only [mkE, kindT, u_nodes]; exact .nil⟩
  · have : ∃ f : List Nd, l = f.map Nd.pv := by
      induction l with
      | nil => exact ⟨[], rfl⟩
      | cons p r ih =>
        obtain ⟨cs, g1, g2⟩ := hl p (by simp)
        obtain ⟨x, hx⟩ := nd_of g1
        obtain ⟨f, rfl⟩ := ih fun q hq => hl q (by simp [hq])
        exact ⟨x :: f, by rw [g2, hx]; rfl⟩
    obtain ⟨f, rfl⟩ := this
    exact ⟨f, by simp only [mkE, kindT, u_nodes]; exact .refl _⟩
end Go.Proofs.Ytnbnkgcjgfmlcaa
set_option maxRecDepth 100000
set_option maxHeartbeats 4000000
namespace Go.Proofs.Ytnbnkgcjgfmlcaa
open Go Go.Dv

theorem u_u64 : Try.prog.underlying 58 = some (.int .u64) := by kernel_rfl
theorem u64_of {n : Nat} {cs : List PV} (h : TyC Try.prog (n + 1) 58 cs) : ∃ s : Nat, cs = [u64 s] ∧ s < 2 ^ 64 := by
  simp only [TyC, u_u64] at h
  obtain ⟨m, rfl, hm⟩ := h
  simp [Lit.wf, IntKind.min, IntKind.max, IntKind.signed, IntKind.bits] at hm
  refine ⟨m.toNat, ?_, by omega⟩
  rw [u64, show ((m.toNat : Nat) : Int) = m by omega]
theorem arg_u64 {n : Nat} {p : PV} (h : TyA Try.prog (n + 1) 58 p) : ∃ s : Nat, p = u64 s ∧ s < 2 ^ 64 := by
  obtain ⟨cs, h1, rfl⟩ := h
  obtain ⟨s, rfl, hs⟩ := u64_of h1
  exact ⟨s, by simp only [mkE, kindT, u_u64], hs⟩
end Go.Proofs.Ytnbnkgcjgfmlcaa
set_option maxRecDepth 100000
set_option maxHeartbeats 4000000
namespace Go.Proofs.Ytnbnkgcjgfmlcaa
open Go Go.Dv

theorem u_preT : Try.prog.underlying 26 = some (.slice 45) := by kernel_rfl
theorem u_postT : Try.prog.underlying 27 = some (.slice 41) := by kernel_rfl
theorem u_relT : Try.prog.underlying 23 = some (.slice 22) := by kernel_rfl
theorem u_rowT : Try.prog.underlying 22 = some (.slice 58) := by kernel_rfl
theorem u_asgs : Try.prog.underlying 41 = some (.slice 81) := by kernel_rfl
theorem u_asg : ∃ fs : Array Field, Try.prog.underlying 81 = some (.struct fs) ∧ fs.toList.map (·.type) = [3, 45] := ⟨_, rfl, by kernel_rfl⟩
theorem u_act : ∃ fs : Array Field, Try.prog.underlying 29 = some (.struct fs) ∧ fs.toList.map (·.type) = [26, 27, 23] := ⟨_, rfl, by kernel_rfl⟩
theorem slice_of {α : Type} {n : Nat} {t e : Nat} {g : α → PV} {Q : α → Prop} (hu : Try.prog.underlying t = some (.slice e)) (hel : ∀ p, TyA Try.prog n e p → ∃ x, PLe p (g x) ∧ Q x) {cs : List PV} (h : TyC Try.prog (n + 1) t cs) :
    ∃ (L : List α) (p : PV), cs = [p] ∧ PLe p (.sl (L.map g)) ∧ ∀ x, x ∈ L → Q x := by
  simp only [TyC, hu] at h
  rcases h with rfl | ⟨l, rfl, hl⟩
  · exact ⟨[], .nil, rfl, .nil, by simp⟩
  · have : ∃ L : List α, PLes l (L.map g) ∧ ∀ x, x ∈ L → Q x := by
      induction l with
      | nil => exact ⟨[], trivial, by simp⟩
      | cons p r ih =>
        obtain ⟨x, hx, qx⟩ := hel p (hl p (by simp))
        obtain ⟨L, h1, h2⟩ := ih fun q hq => hl q (by simp [hq])
        exact ⟨x :: L, ⟨hx, h1⟩, fun y hy => by rcases List.mem_cons.1 hy with rfl | hy; exact qx; exact h2 y hy⟩
    obtain ⟨L, h1, h2⟩ := this
    exact ⟨L, _, rfl, PLe.sls h1, h2⟩
theorem el_of {α : Type} {n : Nat} {t e : Nat} {g : α → PV} {Q : α → Prop} (hu : Try.prog.underlying t = some (.slice e)) (hel : ∀ p, TyA Try.prog n e p → ∃ x, PLe p (g x) ∧ Q x) : ∀ p, TyA Try.prog (n + 1) t p → ∃ L : List α, PLe p (.sl (L.map g)) ∧ ∀ x, x ∈ L → Q x := by
  rintro p ⟨cs, h1, rfl⟩
  obtain ⟨L, q, rfl, h2, h3⟩ := slice_of hu hel h1
  refine ⟨L, ?_, h3⟩
  have : mkE Try.prog t [q] = q := by simp only [mkE, kindT, hu]
  rw [this]; exact h2
theorem nodes_el {n : Nat} : ∀ p, TyA Try.prog (n + 3) 45 p → ∃ f : List Nd, PLe p (fpv f) ∧ True := fun p h => by
  obtain ⟨f, hf⟩ := arg_nodes h
  exact ⟨f, hf, trivial⟩
theorem tyS {n : Nat} {t : Nat} {fs : Array Field} {cs : List PV} (hu : Try.prog.underlying t = some (.struct fs)) (h : TyC Try.prog (n + 1) t cs) : TyFs (TyC Try.prog n) fs.toList cs := by
  simp only [TyC, hu] at h; exact h
theorem fs_cons {F : TypeId → List PV → Prop} {l : List Field} {t : Nat} {ts : List Nat} {cs : List PV} (hl : l.map (·.type) = t :: ts) (h : TyFs F l cs) : ∃ a b r, cs = a ++ b ∧ F t a ∧ TyFs F r b ∧ r.map (·.type) = ts := by
  cases l with
  | nil => cases hl
  | cons f r =>
    simp only [List.map_cons, List.cons.injEq] at hl
    obtain ⟨a, b, h1, h2, h3⟩ := h
    exact ⟨a, b, r, h1, hl.1 ▸ h2, h3, hl.2⟩
theorem fs_nil {F : TypeId → List PV → Prop} {l : List Field} {cs : List PV} (hl : l.map (·.type) = []) (h : TyFs F l cs) : cs = [] := by
  cases l with
  | nil => exact h
  | cons f r => cases hl
theorem asg_el {n : Nat} : ∀ p, TyA Try.prog (n + 4) 81 p → ∃ x : Asg, PLe p x.pv ∧ True := by
  rintro p ⟨cs, h, rfl⟩
  obtain ⟨fs, hu, hf⟩ := u_asg
  have hm : mkE Try.prog 81 cs = .agg cs := by simp only [mkE, kindT, hu]
  obtain ⟨a, b, r1, rfl, h1, hb, m1⟩ := fs_cons hf (tyS (n := n + 3) hu h)
  obtain ⟨c, d, r2, rfl, h2, hd, m2⟩ := fs_cons m1 hb
  have := fs_nil m2 hd
  subst this
  obtain ⟨i, rfl, _⟩ := int_of (n := n + 2) h1
  obtain ⟨f, q, rfl, hq, _⟩ := slice_of (n := n + 2) (g := Nd.pv) (Q := fun _ => True) u_nodes (fun p hp => by
    obtain ⟨cs, g1, rfl⟩ := hp
    obtain ⟨x, hx⟩ := nd_of (n := n) g1
    exact ⟨x, by rw [hx]; exact .refl _, trivial⟩) h2
  refine ⟨⟨i, f⟩, ?_, trivial⟩
  rw [hm]
  exact PLe.aggs ⟨.refl _, hq, trivial⟩
theorem u64_el {n : Nat} : ∀ p, TyA Try.prog (n + 1) 58 p → ∃ s : Nat, PLe p (u64 s) ∧ s < 2 ^ 64 := fun p h => by
  obtain ⟨s, rfl, hs⟩ := arg_u64 h
  exact ⟨s, .refl _, hs⟩
theorem arg_act {n : Nat} {p : PV} (h : TyA Try.prog (n + 7) 29 p) : ∃ a : Act, PLe p a.pv ∧ Fit a := by
  obtain ⟨cs, h, rfl⟩ := h
  obtain ⟨fs, hu, hf⟩ := u_act
  have hm : mkE Try.prog 29 cs = .agg cs := by simp only [mkE, kindT, hu]
  obtain ⟨a, b, r1, rfl, h1, hb, m1⟩ := fs_cons hf (tyS (n := n + 6) hu h)
  obtain ⟨c, d, r2, rfl, h2, hd, m2⟩ := fs_cons m1 hb
  obtain ⟨e, g, r3, rfl, h3, hg, m3⟩ := fs_cons m2 hd
  have := fs_nil m3 hg
  subst this
  obtain ⟨pre, q1, rfl, l1, _⟩ := slice_of (n := n + 5) (g := fpv) (Q := fun _ => True) u_preT (nodes_el (n := n + 2)) h1
  obtain ⟨post, q2, rfl, l2, _⟩ := slice_of (n := n + 5) (g := postPV) (Q := fun _ => True) u_postT (fun p hp => by
    obtain ⟨L, hL, _⟩ := el_of (n := n + 4) u_asgs (asg_el (n := n)) p hp
    exact ⟨L, hL, trivial⟩) h2
  obtain ⟨rel, q3, rfl, l3, hr⟩ := slice_of (n := n + 5) (g := rowPV) (Q := fun r => ∀ s, s ∈ r → s < 2 ^ 64) u_relT (fun p hp => el_of (n := n + 4) u_rowT (u64_el (n := n + 3)) p hp) h3
  refine ⟨⟨pre, post, rel⟩, ?_, hr⟩
  rw [hm]
  exact PLe.aggs ⟨l1, l2, l3, trivial⟩

/-! ActionChecks -/
theorem few_ok {a : Act} {n : Int} (h : fewI a n = true) : a.pre.length ≤ 12 ∧ a.post.length ≤ 12 ∧ a.rel.length ≤ 8 ∧ (∀ f, f ∈ a.pre → (f.length : Int) ≤ n) ∧ ∀ l, l ∈ a.post → l.length ≤ 12 ∧ ∀ x, x ∈ l → (x.to.length : Int) ≤ n := by
  unfold fewI at h
  cases h1 : lenB a with
  | true => rw [h1] at h; cases h
  | false =>
    rw [h1] at h
    cases h2 : preB n a.pre with
    | true => rw [h2] at h; cases h
    | false =>
      rw [h2] at h
      have h3 : postB n a.post = false := by simpa using h
      unfold lenB at h1
      cases q1 : decide ((a.pre.length : Int) > 12) with
      | true => rw [q1] at h1; cases h1
      | false =>
        cases q2 : decide ((a.post.length : Int) > 12) with
        | true => rw [q1, q2] at h1; cases h1
        | false =>
          rw [q1, q2] at h1
          have := of_decide_eq_false q1
          have := of_decide_eq_false q2
          have := of_decide_eq_false (show decide ((a.rel.length : Int) > 8) = false from h1)
          refine ⟨by omega, by omega, by omega, fun f hf => ?_, fun l hl => ?_⟩
          · have := List.any_eq_false.1 h2 f hf
            simpa using this
          · have := List.any_eq_false.1 h3 l hl
            cases q : decide ((l.length : Int) > 12) with
            | true => rw [q] at this; exact absurd rfl this
            | false =>
              rw [q] at this
              have h5 : asgB n l = false := by simpa using this
              refine ⟨by have := of_decide_eq_false q; omega, fun x hx => ?_⟩
              have := List.any_eq_false.1 h5 x hx
              simpa using this
end Go.Proofs.Ytnbnkgcjgfmlcaa
