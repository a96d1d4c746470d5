/- Parts of the proof, one after the other: Formulas: put and finish of the reference. Formulas: Sub, Compact, Size of both sides. Formulas: Sub, Compact, Size of both sides. Formulas: equality and order of both sides. Formulas: the canonical list is without error; depth, fragments, facts, agents (plain). -/
import Derived.Test.YtnbnkgcjgfmlcaaM4
set_option maxRecDepth 100000
set_option maxHeartbeats 4000000
namespace Go.Proofs.Ytnbnkgcjgfmlcaa
open Go Go.Dv

/-- What is done, as the reference keeps it. -/
def dn (ds : List (Nat × Nat)) (k : Nat) : PV := .int .i64 (match look k ds with | some v => (v : Int) | none => -1)
def dnl (ds : List (Nat × Nat)) (n : Nat) : List PV := (List.range n).map (dn ds)
def Hr (out : List Nd) (dl : List PV) : List (Nat × DObj) := [(0, .var [.buf 1 (out.map Nd.pv).length, .buf 2 dl.length]), (1, .arr 6 (out.map Nd.pv)), (2, .arr 1 dl)]

theorem idx_drop {x : Nd} {out : List Nd} {i : Nat} (h : i < out.length) : idx x (out.drop i) i = if out[i] = x then some i else idx x (out.drop (i + 1)) (i + 1) := by
  rw [List.drop_eq_getElem_cons h]; rfl
theorem eqPVs_nd (a b : Nd) : eqPVs [.int .i64 a.op, .int .i64 a.i, .int .i64 a.e, .int .i64 a.g, .int .i64 a.x, .int .i64 a.y] [.int .i64 b.op, .int .i64 b.i, .int .i64 b.e, .int .i64 b.g, .int .i64 b.x, .int .i64 b.y] = decide (a = b) := by
  cases a; cases b
  simp only [eqPVs, eqPV, Nd.mk.injEq, Bool.and_true]
  rw [Bool.eq_iff_iff]
  simp

theorem put_dc (out : List Nd) (dl : List PV) (x : Nd) (hN : out.length ≤ 1000000) (M : Nat → Prop) (w0 : World) (base : Nat) (K : DV → DH → Prop)
    (hK : K (.pv (.int .i64 ((putN out x).1 : Int))) ⟨3, 0, base, objsOf (Hr (putN out x).2 dl)⟩) : DC Try.prog M w0 142 [.ref 0 0, .agg x.dvs] ⟨3, 0, base, objsOf (Hr out dl)⟩ K := by
  refine DC.weaken (DC.intro mixed (fn := Try.f142) rfl rfl rfl ?_)
  (try conv=>whnf);repeat' (first|(apply And.intro<;>try conv=>whnf)|(intro h;first|(with_reducible first|exact tf0 h|exact ft0 h|exact nt0 h|exact nf0 h)|exact litz h rfl|(with_reducible first|exact tf h (by assumption)|exact tf (by assumption) h)|try conv=>whnf)|with_reducible rfl|apply True.intro|((first|apply infoT|apply bleI|apply fitI|apply cellsI|apply szI);rfl)|(apply guardI;kernel_rfl)|(apply WhenQ.mk;(try conv=>whnf);rotate_left;(try conv=>whnf);rotate_right)|(with_reducible first|assumption|(apply not_of;assumption)|(apply left_of;assumption)|(apply left_of;apply left_of;assumption)|(apply and_of<;>first|assumption|(apply not_of;assumption)))|(refine lin_plan (by kernel_rfl) ?_;try conv=>whnf)|(refine ⟨_, _, rfl, idx_map (by with_reducible assumption), rfl, ?_⟩;try conv=>whnf)|(refine ⟨rfl, ?_⟩;try conv=>whnf)|exact Nat.le_refl 1|((first|(apply ex3;(focus with_reducible assumption);(focus with_reducible assumption))|(apply ex2;(focus with_reducible assumption)));try conv=>whnf)|fail)
  refine ⟨{ i : Nat // i ≤ out.length ∧ idx x out 0 = idx x (out.drop i) i }, fun i => [(0, .ref 0 0), (3, .ref 3 0), (5, .pv (.int .i64 (i.1 : Nat)))], fun _ => 4, fun _ => Hr out dl ++ [(3, .var x.dvs)], fun i => out.length - i.1,
    ⟨⟨0, Nat.zero_le _, rfl⟩, (by refine Wk.of ?_ ?_ rfl rfl rfl<;>(repeat' (first|exact trivial|exact WkD.same _|exact WkO.same _ _ rfl|exact WkD.any _|(apply WkD.nil;first|exact Or.inl rfl|exact Or.inr rfl)|(exact WkD.fz _ _ _ rfl (Or.inl ⟨_, rfl⟩) rfl)|(exact WkD.fz _ _ _ rfl (Or.inr rfl) rfl)|refine WkD.int ?_|exact WkD.new' rfl rfl rfl|exact WkO.new _ _ rfl|refine WkO.vars rfl ?_|with_reducible rfl|exact rfl|refine ⟨?_, ?_⟩|((refine wrapA ?_ ?_ ?_);(focus simp;done);(focus (try dsimp only);omega);(focus (try dsimp only);omega))|fail)))⟩, ?_⟩
  rintro ⟨i, hi, he⟩
  (try conv=>whnf);repeat' (first|(apply And.intro<;>try conv=>whnf)|(intro h;first|(with_reducible first|exact tf0 h|exact ft0 h|exact nt0 h|exact nf0 h)|exact litz h rfl|(with_reducible first|exact tf h (by assumption)|exact tf (by assumption) h)|try conv=>whnf)|with_reducible rfl|apply True.intro|((first|apply infoT|apply bleI|apply fitI|apply cellsI|apply szI);rfl)|(apply guardI;kernel_rfl)|(apply WhenQ.mk;(try conv=>whnf);rotate_left;(try conv=>whnf);rotate_right)|(with_reducible first|assumption|(apply not_of;assumption)|(apply left_of;assumption)|(apply left_of;apply left_of;assumption)|(apply and_of<;>first|assumption|(apply not_of;assumption)))|(refine lin_plan (by kernel_rfl) ?_;try conv=>whnf)|(refine ⟨_, _, rfl, idx_map (by with_reducible assumption), rfl, ?_⟩;try conv=>whnf)|(refine ⟨rfl, ?_⟩;try conv=>whnf)|exact Nat.le_refl 1|((first|(apply ex3;(focus with_reducible assumption);(focus with_reducible assumption))|(apply ex2;(focus with_reducible assumption)));try conv=>whnf)|fail)
  · have hi' : i < out.length := by simpa using h
    have hn : out[i]? = some out[i] := List.getElem?_eq_getElem hi'
    have hd := idx_drop (x := x) hi'
    refine ⟨i, rfl, by simpa using hi', ?_⟩
    (try conv=>whnf);repeat' (first|(apply And.intro<;>try conv=>whnf)|(intro h;first|(with_reducible first|exact tf0 h|exact ft0 h|exact nt0 h|exact nf0 h)|exact litz h rfl|(with_reducible first|exact tf h (by assumption)|exact tf (by assumption) h)|try conv=>whnf)|with_reducible rfl|apply True.intro|((first|apply infoT|apply bleI|apply fitI|apply cellsI|apply szI);rfl)|(apply guardI;kernel_rfl)|(apply WhenQ.mk;(try conv=>whnf);rotate_left;(try conv=>whnf);rotate_right)|(with_reducible first|assumption|(apply not_of;assumption)|(apply left_of;assumption)|(apply left_of;apply left_of;assumption)|(apply and_of<;>first|assumption|(apply not_of;assumption)))|(refine lin_plan (by kernel_rfl) ?_;try conv=>whnf)|(refine ⟨_, _, rfl, idx_map (by with_reducible assumption), rfl, ?_⟩;try conv=>whnf)|(refine ⟨rfl, ?_⟩;try conv=>whnf)|exact Nat.le_refl 1|((first|(apply ex3;(focus with_reducible assumption);(focus with_reducible assumption))|(apply ex2;(focus with_reducible assumption)));try conv=>whnf)|fail)
    refine ⟨(out[i]).pv, by simp [hn], ?_⟩
    (try conv=>whnf);repeat' (first|(apply And.intro<;>try conv=>whnf)|(intro h;first|(with_reducible first|exact tf0 h|exact ft0 h|exact nt0 h|exact nf0 h)|exact litz h rfl|(with_reducible first|exact tf h (by assumption)|exact tf (by assumption) h)|try conv=>whnf)|with_reducible rfl|apply True.intro|((first|apply infoT|apply bleI|apply fitI|apply cellsI|apply szI);rfl)|(apply guardI;kernel_rfl)|(apply WhenQ.mk;(try conv=>whnf);rotate_left;(try conv=>whnf);rotate_right)|(with_reducible first|assumption|(apply not_of;assumption)|(apply left_of;assumption)|(apply left_of;apply left_of;assumption)|(apply and_of<;>first|assumption|(apply not_of;assumption)))|(refine lin_plan (by kernel_rfl) ?_;try conv=>whnf)|(refine ⟨_, _, rfl, idx_map (by with_reducible assumption), rfl, ?_⟩;try conv=>whnf)|(refine ⟨rfl, ?_⟩;try conv=>whnf)|exact Nat.le_refl 1|((first|(apply ex3;(focus with_reducible assumption);(focus with_reducible assumption))|(apply ex2;(focus with_reducible assumption)));try conv=>whnf)|fail)
    · have hx : out[i] = x := by have := (eqPVs_nd out[i] x).symm.trans h; simpa using this
      have hp : putN out x = (i, out) := by
        have : idx x out 0 = some i := by rw [he, hd, if_pos hx]
        rw [putN, this]
      rw [hp] at hK
      exact ⟨.pv (.int .i64 (i : Int)), 3, Hr out dl, (by refine Wk.of ?_ ?_ rfl rfl rfl<;>(repeat' (first|exact trivial|exact WkD.same _|exact WkO.same _ _ rfl|exact WkD.any _|(apply WkD.nil;first|exact Or.inl rfl|exact Or.inr rfl)|(exact WkD.fz _ _ _ rfl (Or.inl ⟨_, rfl⟩) rfl)|(exact WkD.fz _ _ _ rfl (Or.inr rfl) rfl)|refine WkD.int ?_|exact WkD.new' rfl rfl rfl|exact WkO.new _ _ rfl|refine WkO.vars rfl ?_|with_reducible rfl|exact rfl|refine ⟨?_, ?_⟩|((refine wrapA ?_ ?_ ?_);(focus simp;done);(focus (try dsimp only);omega);(focus (try dsimp only);omega))|fail))), hK⟩
    · have hx : ¬ out[i] = x := by have := (eqPVs_nd out[i] x).symm.trans h; simpa using this
      refine ⟨⟨i + 1, hi', by rw [he, hd, if_neg hx]⟩, by show out.length - (i + 1) < out.length - i; omega, (by refine Wk.of ?_ ?_ rfl rfl rfl<;>(repeat' (first|exact trivial|exact WkD.same _|exact WkO.same _ _ rfl|exact WkD.any _|(apply WkD.nil;first|exact Or.inl rfl|exact Or.inr rfl)|(exact WkD.fz _ _ _ rfl (Or.inl ⟨_, rfl⟩) rfl)|(exact WkD.fz _ _ _ rfl (Or.inr rfl) rfl)|refine WkD.int ?_|exact WkD.new' rfl rfl rfl|exact WkO.new _ _ rfl|refine WkO.vars rfl ?_|with_reducible rfl|exact rfl|refine ⟨?_, ?_⟩|((refine wrapA ?_ ?_ ?_);(focus simp;done);(focus (try dsimp only);omega);(focus (try dsimp only);omega))|fail)))⟩
  · show (out.map Nd.pv).length + 1 ≤ 4294967296
    rw [List.length_map]; omega
  · have hi' : ¬ i < out.length := by simpa using h
    have hp : putN out x = (out.length, out ++ [x]) := by
      have : idx x out 0 = none := by rw [he, List.drop_eq_nil_of_le (by omega)]; rfl
      rw [putN, this]
    rw [hp] at hK
    refine ⟨.pv (.int .i64 (out.length : Int)), 3, Hr (out ++ [x]) dl, Wk.of ⟨WkD.int ?_, trivial⟩ ⟨WkO.vars rfl ⟨WkD.eq ?_, .same _, trivial⟩, trivial, WkO.same _ _ ?_, trivial, .same _ _ rfl, trivial, trivial⟩ rfl rfl rfl, hK⟩
    · refine (congrArg (fun n : Nat => IntKind.wrap .i64 ((n : Int) - 1)) (by simp : _ = out.length + 1)).trans (wrapA ?_ ?_ ?_) <;> omega
    · exact congrArg (DV.buf 1) (by simp)
    · exact congrArg (fun z => some (DObj.arr 6 z)) (List.map_append (f := Nd.pv) (l₁ := out) (l₂ := [x])).symm

theorem dnl_get {ds : List (Nat × Nat)} {n i : Nat} (h : i < n) : (dnl ds n)[i]? = some (dn ds i) := by
  simp only [dnl, List.getElem?_map, List.getElem?_range h]; rfl
theorem dnl_len (ds : List (Nat × Nat)) (n : Nat) : (dnl ds n).length = n := by simp [dnl]
theorem dnl_set (ds : List (Nat × Nat)) (n i k : Nat) : (dnl ds n).set i (.int .i64 (k : Int)) = dnl (dput i k ds) n := by
  refine List.ext_getElem? fun j => ?_
  rw [List.getElem?_set]
  by_cases hj : j < n
  · rw [dnl_get hj, dnl_get hj, dnl_len]
    by_cases e : i = j
    · subst e
      rw [if_pos rfl, if_pos hj, dn, look_dput, if_pos rfl]
    · rw [if_neg e, dn, dn, look_dput, if_neg (Ne.symm e)]
  · have h1 : (dnl ds n)[j]? = none := List.getElem?_eq_none (by rw [dnl_len]; omega)
    have h2 : (dnl (dput i k ds) n)[j]? = none := List.getElem?_eq_none (by rw [dnl_len]; omega)
    rw [h1, h2, dnl_len]
    by_cases e : i = j
    · rw [if_pos e, if_neg (by omega)]
    · rw [if_neg e]

def endP : Plan := .one 8 (.one 9 .done)
def finPlan : Plan := .one 0 (.one 4 (.one 5 (.one 6 (.two 1 (.two 2 (.two 3 (.one 7 endP) 7 (.one 3 endP)) 7 (.one 2 (.one 3 endP))) 7 (.one 1 (.one 2 (.one 3 endP)))))))

theorem rfin_dc (f : List Nd) (hwf : Wf f) (hN : f.length ≤ 1000000) : ∀ (n i : Nat) (s : List Nd × List (Nat × Nat)), i < n → i < f.length → s.1.length + cnt s.2 f.length ≤ f.length →
    ∀ (M : Nat → Prop) (w0 : World) (base : Nat) (K : DV → DH → Prop), K (.pv (.int .i64 ((fin f n i s).1 : Int))) ⟨3, 0, base, objsOf (Hr (fin f n i s).2.1 (dnl (fin f n i s).2.2 f.length))⟩ →
      DC Try.prog M w0 141 [.pv (fpv f), .pv (.int .i64 (i : Int)), .ref 0 0] ⟨3, 0, base, objsOf (Hr s.1 (dnl s.2 f.length))⟩ K := by
  intro n
  induction n with
  | zero => intro i s h; omega
  | succ n ih =>
    intro i s hin hif hb M w0 base K hK
    obtain ⟨out, ds⟩ := s
    refine DC.weaken (DC.introC [6, 8, 9] mixed (fn := Try.f141) rfl rfl rfl ?_)
    have hlt : ∀ ds, i < (dnl ds f.length).length := fun ds => by rw [dnl_len]; exact hif
    have hget := dnl_get (ds := ds) hif
    cases hl : look i ds with
    | some k =>
      have hfin : fin f (n + 1) i (out, ds) = (k, out, ds) := by simp only [fin, hl]
      have hdn : dn ds i = .int .i64 (k : Int) := by simp only [dn, hl]
      rw [hfin] at hK
      rw [hdn] at hget
      (try conv=>whnf);repeat' (first|(apply And.intro<;>try conv=>whnf)|(intro h;first|(with_reducible first|exact tf0 h|exact ft0 h|exact nt0 h|exact nf0 h)|exact litz h rfl|(with_reducible first|exact tf h (by assumption)|exact tf (by assumption) h)|try conv=>whnf)|with_reducible rfl|apply True.intro|((first|apply infoT|apply bleI|apply fitI|apply cellsI|apply szI);rfl)|(apply guardI;kernel_rfl)|(apply WhenQ.mk;(try conv=>whnf);rotate_left;(try conv=>whnf);rotate_right)|(with_reducible first|assumption|(apply not_of;assumption)|(apply left_of;assumption)|(apply left_of;apply left_of;assumption)|(apply and_of<;>first|assumption|(apply not_of;assumption)))|(refine lin_plan (by kernel_rfl) ?_;try conv=>whnf)|(refine ⟨_, _, rfl, idx_map (by with_reducible assumption), rfl, ?_⟩;try conv=>whnf)|(refine ⟨rfl, ?_⟩;try conv=>whnf)|exact Nat.le_refl 1|((first|(apply ex3;(focus with_reducible assumption);(focus with_reducible assumption))|(apply ex2;(focus with_reducible assumption)));try conv=>whnf)|fail)
      refine ⟨i, rfl, hlt _, ?_⟩
      (try conv=>whnf);repeat' (first|(apply And.intro<;>try conv=>whnf)|(intro h;first|(with_reducible first|exact tf0 h|exact ft0 h|exact nt0 h|exact nf0 h)|exact litz h rfl|(with_reducible first|exact tf h (by assumption)|exact tf (by assumption) h)|try conv=>whnf)|with_reducible rfl|apply True.intro|((first|apply infoT|apply bleI|apply fitI|apply cellsI|apply szI);rfl)|(apply guardI;kernel_rfl)|(apply WhenQ.mk;(try conv=>whnf);rotate_left;(try conv=>whnf);rotate_right)|(with_reducible first|assumption|(apply not_of;assumption)|(apply left_of;assumption)|(apply left_of;apply left_of;assumption)|(apply and_of<;>first|assumption|(apply not_of;assumption)))|(refine lin_plan (by kernel_rfl) ?_;try conv=>whnf)|(refine ⟨_, _, rfl, idx_map (by with_reducible assumption), rfl, ?_⟩;try conv=>whnf)|(refine ⟨rfl, ?_⟩;try conv=>whnf)|exact Nat.le_refl 1|((first|(apply ex3;(focus with_reducible assumption);(focus with_reducible assumption))|(apply ex2;(focus with_reducible assumption)));try conv=>whnf)|fail)
      refine ⟨_, hget, ?_⟩
      (try conv=>whnf);repeat' (first|(apply And.intro<;>try conv=>whnf)|(intro h;first|(with_reducible first|exact tf0 h|exact ft0 h|exact nt0 h|exact nf0 h)|exact litz h rfl|(with_reducible first|exact tf h (by assumption)|exact tf (by assumption) h)|try conv=>whnf)|with_reducible rfl|apply True.intro|((first|apply infoT|apply bleI|apply fitI|apply cellsI|apply szI);rfl)|(apply guardI;kernel_rfl)|(apply WhenQ.mk;(try conv=>whnf);rotate_left;(try conv=>whnf);rotate_right)|(with_reducible first|assumption|(apply not_of;assumption)|(apply left_of;assumption)|(apply left_of;apply left_of;assumption)|(apply and_of<;>first|assumption|(apply not_of;assumption)))|(refine lin_plan (by kernel_rfl) ?_;try conv=>whnf)|(refine ⟨_, _, rfl, idx_map (by with_reducible assumption), rfl, ?_⟩;try conv=>whnf)|(refine ⟨rfl, ?_⟩;try conv=>whnf)|exact Nat.le_refl 1|((first|(apply ex3;(focus with_reducible assumption);(focus with_reducible assumption))|(apply ex2;(focus with_reducible assumption)));try conv=>whnf)|fail)
      · refine ⟨i, rfl, hlt _, ?_⟩
        (try conv=>whnf);repeat' (first|(apply And.intro<;>try conv=>whnf)|(intro h;first|(with_reducible first|exact tf0 h|exact ft0 h|exact nt0 h|exact nf0 h)|exact litz h rfl|(with_reducible first|exact tf h (by assumption)|exact tf (by assumption) h)|try conv=>whnf)|with_reducible rfl|apply True.intro|((first|apply infoT|apply bleI|apply fitI|apply cellsI|apply szI);rfl)|(apply guardI;kernel_rfl)|(apply WhenQ.mk;(try conv=>whnf);rotate_left;(try conv=>whnf);rotate_right)|(with_reducible first|assumption|(apply not_of;assumption)|(apply left_of;assumption)|(apply left_of;apply left_of;assumption)|(apply and_of<;>first|assumption|(apply not_of;assumption)))|(refine lin_plan (by kernel_rfl) ?_;try conv=>whnf)|(refine ⟨_, _, rfl, idx_map (by with_reducible assumption), rfl, ?_⟩;try conv=>whnf)|(refine ⟨rfl, ?_⟩;try conv=>whnf)|exact Nat.le_refl 1|((first|(apply ex3;(focus with_reducible assumption);(focus with_reducible assumption))|(apply ex2;(focus with_reducible assumption)));try conv=>whnf)|fail)
        refine ⟨_, hget, ?_⟩
        (try conv=>whnf);repeat' (first|(apply And.intro<;>try conv=>whnf)|(intro h;first|(with_reducible first|exact tf0 h|exact ft0 h|exact nt0 h|exact nf0 h)|exact litz h rfl|(with_reducible first|exact tf h (by assumption)|exact tf (by assumption) h)|try conv=>whnf)|with_reducible rfl|apply True.intro|((first|apply infoT|apply bleI|apply fitI|apply cellsI|apply szI);rfl)|(apply guardI;kernel_rfl)|(apply WhenQ.mk;(try conv=>whnf);rotate_left;(try conv=>whnf);rotate_right)|(with_reducible first|assumption|(apply not_of;assumption)|(apply left_of;assumption)|(apply left_of;apply left_of;assumption)|(apply and_of<;>first|assumption|(apply not_of;assumption)))|(refine lin_plan (by kernel_rfl) ?_;try conv=>whnf)|(refine ⟨_, _, rfl, idx_map (by with_reducible assumption), rfl, ?_⟩;try conv=>whnf)|(refine ⟨rfl, ?_⟩;try conv=>whnf)|exact Nat.le_refl 1|((first|(apply ex3;(focus with_reducible assumption);(focus with_reducible assumption))|(apply ex2;(focus with_reducible assumption)));try conv=>whnf)|fail)
        exact ⟨_, 3, Hr out (dnl ds f.length), (by refine Wk.of ?_ ?_ rfl rfl rfl<;>(repeat' (first|exact trivial|exact WkD.same _|exact WkO.same _ _ rfl|exact WkD.any _|(apply WkD.nil;first|exact Or.inl rfl|exact Or.inr rfl)|(exact WkD.fz _ _ _ rfl (Or.inl ⟨_, rfl⟩) rfl)|(exact WkD.fz _ _ _ rfl (Or.inr rfl) rfl)|refine WkD.int ?_|exact WkD.new' rfl rfl rfl|exact WkO.new _ _ rfl|refine WkO.vars rfl ?_|with_reducible rfl|exact rfl|refine ⟨?_, ?_⟩|((refine wrapA ?_ ?_ ?_);(focus simp;done);(focus (try dsimp only);omega);(focus (try dsimp only);omega))|fail))), hK⟩
      · exact absurd h (by simp)
    | none =>
      have hn : f[i]? = some f[i] := List.getElem?_eq_getElem hif
      obtain ⟨x, hx⟩ : ∃ x, x = f[i] := ⟨_, rfl⟩
      rw [← hx] at hn
      have hdn : dn ds i = .int .i64 (-1) := by simp only [dn, hl]
      rw [hdn] at hget
      obtain ⟨hfx, hfy⟩ := hwf i x hn
      have kA := opA_keep hwf hn hin hif (out, ds)
      have kB := opB_keep hwf hn hin hif (opA f n x (out, ds)).2
      have hfin := fin_none (f := f) (n := n) (i := i) (s := (out, ds)) hl hn
      rw [hfin] at hK
      obtain ⟨A, hA⟩ : ∃ A, A = opA f n x (out, ds) := ⟨_, rfl⟩
      rw [← hA] at hK kA kB
      obtain ⟨B, hB⟩ : ∃ B, B = opB f n x A.2 := ⟨_, rfl⟩
      rw [← hB] at hK kB
      have hK' : K (.pv (.int .i64 ((putN B.2.1 (ndB x.op (ndA x A.1) B.1)).1 : Int))) ⟨3, 0, base, objsOf (Hr (putN B.2.1 (ndB x.op (ndA x A.1) B.1)).2 (dnl (dput i (putN B.2.1 (ndB x.op (ndA x A.1) B.1)).1 B.2.2) f.length))⟩ := hK
      clear hfin hK hx
      have b1 := kA.2 hb
      have b2 := kB.2 b1
      have hlB : look i B.2.2 = none := by rw [kB.1 i (Nat.le_refl i), kA.1 i (Nat.le_refl i)]; exact hl
      have hcB := cnt_pos hlB hif
      (try conv=>whnf);repeat' (first|(apply And.intro<;>try conv=>whnf)|(intro h;first|(with_reducible first|exact tf0 h|exact ft0 h|exact nt0 h|exact nf0 h)|exact litz h rfl|(with_reducible first|exact tf h (by assumption)|exact tf (by assumption) h)|try conv=>whnf)|with_reducible rfl|apply True.intro|((first|apply infoT|apply bleI|apply fitI|apply cellsI|apply szI);rfl)|(apply guardI;kernel_rfl)|(apply WhenQ.mk;(try conv=>whnf);rotate_left;(try conv=>whnf);rotate_right)|(with_reducible first|assumption|(apply not_of;assumption)|(apply left_of;assumption)|(apply left_of;apply left_of;assumption)|(apply and_of<;>first|assumption|(apply not_of;assumption)))|(refine lin_plan (by kernel_rfl) ?_;try conv=>whnf)|(refine ⟨_, _, rfl, idx_map (by with_reducible assumption), rfl, ?_⟩;try conv=>whnf)|(refine ⟨rfl, ?_⟩;try conv=>whnf)|exact Nat.le_refl 1|((first|(apply ex3;(focus with_reducible assumption);(focus with_reducible assumption))|(apply ex2;(focus with_reducible assumption)));try conv=>whnf)|fail)
      refine ⟨i, rfl, hlt _, ?_⟩
      (try conv=>whnf);repeat' (first|(apply And.intro<;>try conv=>whnf)|(intro h;first|(with_reducible first|exact tf0 h|exact ft0 h|exact nt0 h|exact nf0 h)|exact litz h rfl|(with_reducible first|exact tf h (by assumption)|exact tf (by assumption) h)|try conv=>whnf)|with_reducible rfl|apply True.intro|((first|apply infoT|apply bleI|apply fitI|apply cellsI|apply szI);rfl)|(apply guardI;kernel_rfl)|(apply WhenQ.mk;(try conv=>whnf);rotate_left;(try conv=>whnf);rotate_right)|(with_reducible first|assumption|(apply not_of;assumption)|(apply left_of;assumption)|(apply left_of;apply left_of;assumption)|(apply and_of<;>first|assumption|(apply not_of;assumption)))|(refine lin_plan (by kernel_rfl) ?_;try conv=>whnf)|(refine ⟨_, _, rfl, idx_map (by with_reducible assumption), rfl, ?_⟩;try conv=>whnf)|(refine ⟨rfl, ?_⟩;try conv=>whnf)|exact Nat.le_refl 1|((first|(apply ex3;(focus with_reducible assumption);(focus with_reducible assumption))|(apply ex2;(focus with_reducible assumption)));try conv=>whnf)|fail)
      refine ⟨_, hget, ?_⟩
      (try conv=>whnf);repeat' (first|(apply And.intro<;>try conv=>whnf)|(intro h;first|(with_reducible first|exact tf0 h|exact ft0 h|exact nt0 h|exact nf0 h)|exact litz h rfl|(with_reducible first|exact tf h (by assumption)|exact tf (by assumption) h)|try conv=>whnf)|with_reducible rfl|apply True.intro|((first|apply infoT|apply bleI|apply fitI|apply cellsI|apply szI);rfl)|(apply guardI;kernel_rfl)|(apply WhenQ.mk;(try conv=>whnf);rotate_left;(try conv=>whnf);rotate_right)|(with_reducible first|assumption|(apply not_of;assumption)|(apply left_of;assumption)|(apply left_of;apply left_of;assumption)|(apply and_of<;>first|assumption|(apply not_of;assumption)))|(refine lin_plan (by kernel_rfl) ?_;try conv=>whnf)|(refine ⟨_, _, rfl, idx_map (by with_reducible assumption), rfl, ?_⟩;try conv=>whnf)|(refine ⟨rfl, ?_⟩;try conv=>whnf)|exact Nat.le_refl 1|((first|(apply ex3;(focus with_reducible assumption);(focus with_reducible assumption))|(apply ex2;(focus with_reducible assumption)));try conv=>whnf)|fail)
      · exact absurd h (by simp)
      · (try conv=>whnf);repeat' (first|(apply And.intro<;>try conv=>whnf)|(intro h;first|(with_reducible first|exact tf0 h|exact ft0 h|exact nt0 h|exact nf0 h)|exact litz h rfl|(with_reducible first|exact tf h (by assumption)|exact tf (by assumption) h)|try conv=>whnf)|with_reducible rfl|apply True.intro|((first|apply infoT|apply bleI|apply fitI|apply cellsI|apply szI);rfl)|(apply guardI;kernel_rfl)|(apply WhenQ.mk;(try conv=>whnf);rotate_left;(try conv=>whnf);rotate_right)|(with_reducible first|assumption|(apply not_of;assumption)|(apply left_of;assumption)|(apply left_of;apply left_of;assumption)|(apply and_of<;>first|assumption|(apply not_of;assumption)))|(refine lin_plan (by kernel_rfl) ?_;try conv=>whnf)|(refine ⟨_, _, rfl, idx_map (by with_reducible assumption), rfl, ?_⟩;try conv=>whnf)|(refine ⟨rfl, ?_⟩;try conv=>whnf)|exact Nat.le_refl 1|((first|(apply ex3;(focus with_reducible assumption);(focus with_reducible assumption))|(apply ex2;(focus with_reducible assumption)));try conv=>whnf)|(refine PureFn.dcq (f := 136) rfl ?_;try conv=>whnf)|((refine ⟨_, _, ref_UsesX ?_, ?_, ?_⟩);rotate_left 1;(focus (first|(refine ⟨?_, trivial⟩<;>first|exact PLe.refl _|exact PLe.nil)|exact trivial));try conv=>whnf)|(refine ⟨_, (by (conv=>whnf);exact ref_UsesX _), rfl, ?_⟩;try conv=>whnf)|fail)
        refine ⟨{ q : Nd × List Nd × List (Nat × Nat) // q.2 = A.2 ∧ q.1 = ndA x A.1 },
          fun q => [(0, .pv (fpv f)), (1, .pv (.int .i64 (i : Int))), (2, .ref 0 0), (7, .ref 3 0)], fun _ => 4,
          fun q => Hr q.1.2.1 (dnl q.1.2.2 f.length) ++ [(3, .var q.1.1.dvs)], ?_, ?_⟩
        · (try conv=>whnf);repeat' (first|(apply And.intro<;>try conv=>whnf)|(intro h;first|(with_reducible first|exact tf0 h|exact ft0 h|exact nt0 h|exact nf0 h)|exact litz h rfl|(with_reducible first|exact tf h (by assumption)|exact tf (by assumption) h)|try conv=>whnf)|with_reducible rfl|apply True.intro|((first|apply infoT|apply bleI|apply fitI|apply cellsI|apply szI);rfl)|(apply guardI;kernel_rfl)|(apply WhenQ.mk;(try conv=>whnf);rotate_left;(try conv=>whnf);rotate_right)|(with_reducible first|assumption|(apply not_of;assumption)|(apply left_of;assumption)|(apply left_of;apply left_of;assumption)|(apply and_of<;>first|assumption|(apply not_of;assumption)))|(refine lin_plan (by kernel_rfl) ?_;try conv=>whnf)|(refine ⟨_, _, rfl, idx_map (by with_reducible assumption), rfl, ?_⟩;try conv=>whnf)|(refine ⟨rfl, ?_⟩;try conv=>whnf)|exact Nat.le_refl 1|((first|(apply ex3;(focus with_reducible assumption);(focus with_reducible assumption))|(apply ex2;(focus with_reducible assumption)));try conv=>whnf)|(refine PureFn.dcq (f := 136) rfl ?_;try conv=>whnf)|((refine ⟨_, _, ref_UsesX ?_, ?_, ?_⟩);rotate_left 1;(focus (first|(refine ⟨?_, trivial⟩<;>first|exact PLe.refl _|exact PLe.nil)|exact trivial));try conv=>whnf)|(refine ⟨_, (by (conv=>whnf);exact ref_UsesX _), rfl, ?_⟩;try conv=>whnf)|fail)
          · have hx0 := hfx h
            refine DC.call 3 (Hr out (dnl ds f.length)) ⟨rfl, rfl, rfl, trivial⟩ rfl rfl rfl rfl fun M' => ?_
            have hxe : x.x = ((x.x.toNat : Nat) : Int) := by omega
            refine (?_ : DC Try.prog M' w0 141 [.pv (fpv f), .pv (.int .i64 x.x), .ref 0 0] ⟨3, 0, 3, objsOf (Hr out (dnl ds f.length))⟩ _)
            rw [hxe]
            refine ih x.x.toNat (out, ds) (by omega) (by omega) hb M' w0 3 _ ⟨rfl, ?_⟩
            have hAe : A = fin f n x.x.toNat (out, ds) := by rw [hA, opA, h]; rfl
            rw [← hAe]
            (try conv=>whnf);repeat' (first|(apply And.intro<;>try conv=>whnf)|(intro h;first|(with_reducible first|exact tf0 h|exact ft0 h|exact nt0 h|exact nf0 h)|exact litz h rfl|(with_reducible first|exact tf h (by assumption)|exact tf (by assumption) h)|try conv=>whnf)|with_reducible rfl|apply True.intro|((first|apply infoT|apply bleI|apply fitI|apply cellsI|apply szI);rfl)|(apply guardI;kernel_rfl)|(apply WhenQ.mk;(try conv=>whnf);rotate_left;(try conv=>whnf);rotate_right)|(with_reducible first|assumption|(apply not_of;assumption)|(apply left_of;assumption)|(apply left_of;apply left_of;assumption)|(apply and_of<;>first|assumption|(apply not_of;assumption)))|(refine lin_plan (by kernel_rfl) ?_;try conv=>whnf)|(refine ⟨_, _, rfl, idx_map (by with_reducible assumption), rfl, ?_⟩;try conv=>whnf)|(refine ⟨rfl, ?_⟩;try conv=>whnf)|exact Nat.le_refl 1|((first|(apply ex3;(focus with_reducible assumption);(focus with_reducible assumption))|(apply ex2;(focus with_reducible assumption)));try conv=>whnf)|fail)
            exact ⟨⟨(⟨x.op, x.i, x.e, x.g, (A.1 : Int), x.y⟩, A.2), rfl, by unfold ndA; rw [h]; rfl⟩, (by refine Wk.of ?_ ?_ rfl rfl rfl<;>(repeat' (first|exact trivial|exact WkD.same _|exact WkO.same _ _ rfl|exact WkD.any _|(apply WkD.nil;first|exact Or.inl rfl|exact Or.inr rfl)|(exact WkD.fz _ _ _ rfl (Or.inl ⟨_, rfl⟩) rfl)|(exact WkD.fz _ _ _ rfl (Or.inr rfl) rfl)|refine WkD.int ?_|exact WkD.new' rfl rfl rfl|exact WkO.new _ _ rfl|refine WkO.vars rfl ?_|with_reducible rfl|exact rfl|refine ⟨?_, ?_⟩|((refine wrapA ?_ ?_ ?_);(focus simp;done);(focus (try dsimp only);omega);(focus (try dsimp only);omega))|fail)))⟩
          · have hAe : A = (0, (out, ds)) := by rw [hA, opA, h]; rfl
            exact ⟨⟨(x, (out, ds)), by rw [hAe], by unfold ndA; rw [h]; rfl⟩, (by refine Wk.of ?_ ?_ rfl rfl rfl<;>(repeat' (first|exact trivial|exact WkD.same _|exact WkO.same _ _ rfl|exact WkD.any _|(apply WkD.nil;first|exact Or.inl rfl|exact Or.inr rfl)|(exact WkD.fz _ _ _ rfl (Or.inl ⟨_, rfl⟩) rfl)|(exact WkD.fz _ _ _ rfl (Or.inr rfl) rfl)|refine WkD.int ?_|exact WkD.new' rfl rfl rfl|exact WkO.new _ _ rfl|refine WkO.vars rfl ?_|with_reducible rfl|exact rfl|refine ⟨?_, ?_⟩|((refine wrapA ?_ ?_ ?_);(focus simp;done);(focus (try dsimp only);omega);(focus (try dsimp only);omega))|fail)))⟩
        · rintro ⟨⟨y, out1, ds1⟩, hq1, hq2⟩
          have e1 : out1 = A.2.1 := congrArg Prod.fst hq1
          have e2 : ds1 = A.2.2 := congrArg Prod.snd hq1
          subst e1; subst e2
          have hq3 : y = ndA x A.1 := hq2
          have hyop : y.op = x.op := by rw [hq3]; unfold ndA; cases usesX x.op <;> rfl
          (try conv=>whnf);repeat' (first|(apply And.intro<;>try conv=>whnf)|(intro h;first|(with_reducible first|exact tf0 h|exact ft0 h|exact nt0 h|exact nf0 h)|exact litz h rfl|(with_reducible first|exact tf h (by assumption)|exact tf (by assumption) h)|try conv=>whnf)|with_reducible rfl|apply True.intro|((first|apply infoT|apply bleI|apply fitI|apply cellsI|apply szI);rfl)|(apply guardI;kernel_rfl)|(apply WhenQ.mk;(try conv=>whnf);rotate_left;(try conv=>whnf);rotate_right)|(with_reducible first|assumption|(apply not_of;assumption)|(apply left_of;assumption)|(apply left_of;apply left_of;assumption)|(apply and_of<;>first|assumption|(apply not_of;assumption)))|(refine lin_plan (by kernel_rfl) ?_;try conv=>whnf)|(refine ⟨_, _, rfl, idx_map (by with_reducible assumption), rfl, ?_⟩;try conv=>whnf)|(refine ⟨rfl, ?_⟩;try conv=>whnf)|exact Nat.le_refl 1|((first|(apply ex3;(focus with_reducible assumption);(focus with_reducible assumption))|(apply ex2;(focus with_reducible assumption)));try conv=>whnf)|(refine PureFn.dcq (f := 137) rfl ?_;try conv=>whnf)|((refine ⟨_, _, ref_UsesY ?_, ?_, ?_⟩);rotate_left 1;(focus (first|(refine ⟨?_, trivial⟩<;>first|exact PLe.refl _|exact PLe.nil)|exact trivial));try conv=>whnf)|(refine ⟨_, (by (conv=>whnf);exact ref_UsesY _), rfl, ?_⟩;try conv=>whnf)|fail)
          refine ⟨{ q : Nd × List Nd × List (Nat × Nat) // q.2 = B.2 ∧ q.1 = ndB x.op (ndA x A.1) B.1 },
            fun q => [(0, .pv (fpv f)), (1, .pv (.int .i64 (i : Int))), (2, .ref 0 0), (7, .ref 3 0)], fun _ => 4,
            fun q => Hr q.1.2.1 (dnl q.1.2.2 f.length) ++ [(3, .var q.1.1.dvs)], ?_, ?_⟩
          · (try conv=>whnf);repeat' (first|(apply And.intro<;>try conv=>whnf)|(intro h;first|(with_reducible first|exact tf0 h|exact ft0 h|exact nt0 h|exact nf0 h)|exact litz h rfl|(with_reducible first|exact tf h (by assumption)|exact tf (by assumption) h)|try conv=>whnf)|with_reducible rfl|apply True.intro|((first|apply infoT|apply bleI|apply fitI|apply cellsI|apply szI);rfl)|(apply guardI;kernel_rfl)|(apply WhenQ.mk;(try conv=>whnf);rotate_left;(try conv=>whnf);rotate_right)|(with_reducible first|assumption|(apply not_of;assumption)|(apply left_of;assumption)|(apply left_of;apply left_of;assumption)|(apply and_of<;>first|assumption|(apply not_of;assumption)))|(refine lin_plan (by kernel_rfl) ?_;try conv=>whnf)|(refine ⟨_, _, rfl, idx_map (by with_reducible assumption), rfl, ?_⟩;try conv=>whnf)|(refine ⟨rfl, ?_⟩;try conv=>whnf)|exact Nat.le_refl 1|((first|(apply ex3;(focus with_reducible assumption);(focus with_reducible assumption))|(apply ex2;(focus with_reducible assumption)));try conv=>whnf)|(refine PureFn.dcq (f := 137) rfl ?_;try conv=>whnf)|((refine ⟨_, _, ref_UsesY ?_, ?_, ?_⟩);rotate_left 1;(focus (first|(refine ⟨?_, trivial⟩<;>first|exact PLe.refl _|exact PLe.nil)|exact trivial));try conv=>whnf)|(refine ⟨_, (by (conv=>whnf);exact ref_UsesY _), rfl, ?_⟩;try conv=>whnf)|fail)
            · have h : usesY x.op = true := by rw [← hyop]; exact h
              have hy0 := hfy h
              refine DC.call 3 (Hr A.2.1 (dnl A.2.2 f.length)) ⟨rfl, rfl, rfl, trivial⟩ rfl rfl rfl rfl fun M' => ?_
              have hye : x.y = ((x.y.toNat : Nat) : Int) := by omega
              refine (?_ : DC Try.prog M' w0 141 [.pv (fpv f), .pv (.int .i64 x.y), .ref 0 0] ⟨3, 0, 3, objsOf (Hr A.2.1 (dnl A.2.2 f.length))⟩ _)
              rw [hye]
              refine ih x.y.toNat A.2 (by omega) (by omega) b1 M' w0 3 _ ⟨rfl, ?_⟩
              have hBe : B = fin f n x.y.toNat A.2 := by rw [hB, opB, h]; rfl
              rw [← hBe]
              (try conv=>whnf);repeat' (first|(apply And.intro<;>try conv=>whnf)|(intro h;first|(with_reducible first|exact tf0 h|exact ft0 h|exact nt0 h|exact nf0 h)|exact litz h rfl|(with_reducible first|exact tf h (by assumption)|exact tf (by assumption) h)|try conv=>whnf)|with_reducible rfl|apply True.intro|((first|apply infoT|apply bleI|apply fitI|apply cellsI|apply szI);rfl)|(apply guardI;kernel_rfl)|(apply WhenQ.mk;(try conv=>whnf);rotate_left;(try conv=>whnf);rotate_right)|(with_reducible first|assumption|(apply not_of;assumption)|(apply left_of;assumption)|(apply left_of;apply left_of;assumption)|(apply and_of<;>first|assumption|(apply not_of;assumption)))|(refine lin_plan (by kernel_rfl) ?_;try conv=>whnf)|(refine ⟨_, _, rfl, idx_map (by with_reducible assumption), rfl, ?_⟩;try conv=>whnf)|(refine ⟨rfl, ?_⟩;try conv=>whnf)|exact Nat.le_refl 1|((first|(apply ex3;(focus with_reducible assumption);(focus with_reducible assumption))|(apply ex2;(focus with_reducible assumption)));try conv=>whnf)|fail)
              exact ⟨⟨(⟨y.op, y.i, y.e, y.g, y.x, (B.1 : Int)⟩, B.2), rfl, by rw [← hq3]; unfold ndB; rw [h]; rfl⟩, (by refine Wk.of ?_ ?_ rfl rfl rfl<;>(repeat' (first|exact trivial|exact WkD.same _|exact WkO.same _ _ rfl|exact WkD.any _|(apply WkD.nil;first|exact Or.inl rfl|exact Or.inr rfl)|(exact WkD.fz _ _ _ rfl (Or.inl ⟨_, rfl⟩) rfl)|(exact WkD.fz _ _ _ rfl (Or.inr rfl) rfl)|refine WkD.int ?_|exact WkD.new' rfl rfl rfl|exact WkO.new _ _ rfl|refine WkO.vars rfl ?_|with_reducible rfl|exact rfl|refine ⟨?_, ?_⟩|((refine wrapA ?_ ?_ ?_);(focus simp;done);(focus (try dsimp only);omega);(focus (try dsimp only);omega))|fail)))⟩
            · have h : usesY x.op = false := by rw [← hyop]; exact h
              have hBe : B = (0, A.2) := by rw [hB, opB, h]; rfl
              exact ⟨⟨(y, A.2), by rw [hBe], by rw [← hq3]; unfold ndB; rw [h]; rfl⟩, (by refine Wk.of ?_ ?_ rfl rfl rfl<;>(repeat' (first|exact trivial|exact WkD.same _|exact WkO.same _ _ rfl|exact WkD.any _|(apply WkD.nil;first|exact Or.inl rfl|exact Or.inr rfl)|(exact WkD.fz _ _ _ rfl (Or.inl ⟨_, rfl⟩) rfl)|(exact WkD.fz _ _ _ rfl (Or.inr rfl) rfl)|refine WkD.int ?_|exact WkD.new' rfl rfl rfl|exact WkO.new _ _ rfl|refine WkO.vars rfl ?_|with_reducible rfl|exact rfl|refine ⟨?_, ?_⟩|((refine wrapA ?_ ?_ ?_);(focus simp;done);(focus (try dsimp only);omega);(focus (try dsimp only);omega))|fail)))⟩
          · rintro ⟨⟨z, out2, ds2⟩, hr1, hr2⟩
            have e1 : out2 = B.2.1 := congrArg Prod.fst hr1
            have e2 : ds2 = B.2.2 := congrArg Prod.snd hr1
            subst e1; subst e2
            have hr3 : z = ndB x.op (ndA x A.1) B.1 := hr2
            rw [← hr3] at hK'
            (try conv=>whnf);repeat' (first|(apply And.intro<;>try conv=>whnf)|(intro h;first|(with_reducible first|exact tf0 h|exact ft0 h|exact nt0 h|exact nf0 h)|exact litz h rfl|(with_reducible first|exact tf h (by assumption)|exact tf (by assumption) h)|try conv=>whnf)|with_reducible rfl|apply True.intro|((first|apply infoT|apply bleI|apply fitI|apply cellsI|apply szI);rfl)|(apply guardI;kernel_rfl)|(apply WhenQ.mk;(try conv=>whnf);rotate_left;(try conv=>whnf);rotate_right)|(with_reducible first|assumption|(apply not_of;assumption)|(apply left_of;assumption)|(apply left_of;apply left_of;assumption)|(apply and_of<;>first|assumption|(apply not_of;assumption)))|(refine lin_plan (by kernel_rfl) ?_;try conv=>whnf)|(refine ⟨_, _, rfl, idx_map (by with_reducible assumption), rfl, ?_⟩;try conv=>whnf)|(refine ⟨rfl, ?_⟩;try conv=>whnf)|exact Nat.le_refl 1|((first|(apply ex3;(focus with_reducible assumption);(focus with_reducible assumption))|(apply ex2;(focus with_reducible assumption)));try conv=>whnf)|fail)
            refine ⟨{ q : Nat × List Nd // q = putN B.2.1 z }, fun q => [(1, .pv (.int .i64 (i : Int))), (2, .ref 0 0)], fun _ => 3,
              fun q => Hr q.1.2 (dnl (dput i q.1.1 B.2.2) f.length), ?_, ?_⟩
            · (try conv=>whnf);repeat' (first|(apply And.intro<;>try conv=>whnf)|(intro h;first|(with_reducible first|exact tf0 h|exact ft0 h|exact nt0 h|exact nf0 h)|exact litz h rfl|(with_reducible first|exact tf h (by assumption)|exact tf (by assumption) h)|try conv=>whnf)|with_reducible rfl|apply True.intro|((first|apply infoT|apply bleI|apply fitI|apply cellsI|apply szI);rfl)|(apply guardI;kernel_rfl)|(apply WhenQ.mk;(try conv=>whnf);rotate_left;(try conv=>whnf);rotate_right)|(with_reducible first|assumption|(apply not_of;assumption)|(apply left_of;assumption)|(apply left_of;apply left_of;assumption)|(apply and_of<;>first|assumption|(apply not_of;assumption)))|(refine ⟨_, _, rfl, idx_map (by with_reducible assumption), rfl, ?_⟩;try conv=>whnf)|(refine ⟨rfl, ?_⟩;try conv=>whnf)|exact Nat.le_refl 1|((first|(apply ex3;(focus with_reducible assumption);(focus with_reducible assumption))|(apply ex2;(focus with_reducible assumption)));try conv=>whnf)|fail)
              refine ⟨finPlan, [7, 9], by kernel_rfl, ?_⟩
              (try conv=>whnf);repeat' (first|(apply And.intro<;>try conv=>whnf)|(intro h;first|(with_reducible first|exact tf0 h|exact ft0 h|exact nt0 h|exact nf0 h)|exact litz h rfl|(with_reducible first|exact tf h (by assumption)|exact tf (by assumption) h)|try conv=>whnf)|with_reducible rfl|apply True.intro|((first|apply infoT|apply bleI|apply fitI|apply cellsI|apply szI);rfl)|(apply guardI;kernel_rfl)|(apply WhenQ.mk;(try conv=>whnf);rotate_left;(try conv=>whnf);rotate_right)|(with_reducible first|assumption|(apply not_of;assumption)|(apply left_of;assumption)|(apply left_of;apply left_of;assumption)|(apply and_of<;>first|assumption|(apply not_of;assumption)))|(refine lin_plan (by kernel_rfl) ?_;try conv=>whnf)|(refine ⟨_, _, rfl, idx_map (by with_reducible assumption), rfl, ?_⟩;try conv=>whnf)|(refine ⟨rfl, ?_⟩;try conv=>whnf)|exact Nat.le_refl 1|((first|(apply ex3;(focus with_reducible assumption);(focus with_reducible assumption))|(apply ex2;(focus with_reducible assumption)));try conv=>whnf)|fail)
              all_goals
                refine DC.call 3 (Hr B.2.1 (dnl B.2.2 f.length)) ⟨rfl, rfl, rfl, trivial⟩ rfl rfl rfl rfl fun M' => ?_
                refine put_dc B.2.1 (dnl B.2.2 f.length) z (by omega) M' w0 3 _ ⟨rfl, ?_⟩
                obtain ⟨p, hp⟩ : ∃ p, p = putN B.2.1 z := ⟨_, rfl⟩
                rw [← hp] at hK' ⊢
                (try conv=>whnf);repeat' (first|(apply And.intro<;>try conv=>whnf)|(intro h;first|(with_reducible first|exact tf0 h|exact ft0 h|exact nt0 h|exact nf0 h)|exact litz h rfl|(with_reducible first|exact tf h (by assumption)|exact tf (by assumption) h)|try conv=>whnf)|with_reducible rfl|apply True.intro|((first|apply infoT|apply bleI|apply fitI|apply cellsI|apply szI);rfl)|(apply guardI;kernel_rfl)|(apply WhenQ.mk;(try conv=>whnf);rotate_left;(try conv=>whnf);rotate_right)|(with_reducible first|assumption|(apply not_of;assumption)|(apply left_of;assumption)|(apply left_of;apply left_of;assumption)|(apply and_of<;>first|assumption|(apply not_of;assumption)))|(refine lin_plan (by kernel_rfl) ?_;try conv=>whnf)|(refine ⟨_, _, rfl, idx_map (by with_reducible assumption), rfl, ?_⟩;try conv=>whnf)|(refine ⟨rfl, ?_⟩;try conv=>whnf)|exact Nat.le_refl 1|((first|(apply ex3;(focus with_reducible assumption);(focus with_reducible assumption))|(apply ex2;(focus with_reducible assumption)));try conv=>whnf)|fail)
                refine ⟨i, rfl, hlt _, ?_⟩
                (try conv=>whnf);repeat' (first|(apply And.intro<;>try conv=>whnf)|(intro h;first|(with_reducible first|exact tf0 h|exact ft0 h|exact nt0 h|exact nf0 h)|exact litz h rfl|(with_reducible first|exact tf h (by assumption)|exact tf (by assumption) h)|try conv=>whnf)|with_reducible rfl|apply True.intro|((first|apply infoT|apply bleI|apply fitI|apply cellsI|apply szI);rfl)|(apply guardI;kernel_rfl)|(apply WhenQ.mk;(try conv=>whnf);rotate_left;(try conv=>whnf);rotate_right)|(with_reducible first|assumption|(apply not_of;assumption)|(apply left_of;assumption)|(apply left_of;apply left_of;assumption)|(apply and_of<;>first|assumption|(apply not_of;assumption)))|(refine lin_plan (by kernel_rfl) ?_;try conv=>whnf)|(refine ⟨_, _, rfl, idx_map (by with_reducible assumption), rfl, ?_⟩;try conv=>whnf)|(refine ⟨rfl, ?_⟩;try conv=>whnf)|exact Nat.le_refl 1|((first|(apply ex3;(focus with_reducible assumption);(focus with_reducible assumption))|(apply ex2;(focus with_reducible assumption)));try conv=>whnf)|fail)
                refine ⟨_, dnl_get hif, ?_⟩
                (try conv=>whnf);repeat' (first|(apply And.intro<;>try conv=>whnf)|(intro h;first|(with_reducible first|exact tf0 h|exact ft0 h|exact nt0 h|exact nf0 h)|exact litz h rfl|(with_reducible first|exact tf h (by assumption)|exact tf (by assumption) h)|try conv=>whnf)|with_reducible rfl|apply True.intro|((first|apply infoT|apply bleI|apply fitI|apply cellsI|apply szI);rfl)|(apply guardI;kernel_rfl)|(apply WhenQ.mk;(try conv=>whnf);rotate_left;(try conv=>whnf);rotate_right)|(with_reducible first|assumption|(apply not_of;assumption)|(apply left_of;assumption)|(apply left_of;apply left_of;assumption)|(apply and_of<;>first|assumption|(apply not_of;assumption)))|(refine lin_plan (by kernel_rfl) ?_;try conv=>whnf)|(refine ⟨_, _, rfl, idx_map (by with_reducible assumption), rfl, ?_⟩;try conv=>whnf)|(refine ⟨rfl, ?_⟩;try conv=>whnf)|exact Nat.le_refl 1|((first|(apply ex3;(focus with_reducible assumption);(focus with_reducible assumption))|(apply ex2;(focus with_reducible assumption)));try conv=>whnf)|fail)
                · refine ⟨⟨p, rfl⟩, Wk.of ⟨.same _, .same _, trivial⟩ ⟨WkO.vars rfl ⟨.same _, WkD.eq (congrArg (DV.buf 2) ((dnl_len _ _).trans (dnl_len _ _).symm)), trivial⟩, trivial, .same _ _ rfl, trivial, .same _ _ ?_, trivial, trivial⟩ rfl rfl rfl⟩
                  exact congrArg (fun z => some (DObj.arr 1 z)) (dnl_set B.2.2 f.length i p.1)
            · rintro ⟨q, rfl⟩
              (try conv=>whnf);repeat' (first|(apply And.intro<;>try conv=>whnf)|(intro h;first|(with_reducible first|exact tf0 h|exact ft0 h|exact nt0 h|exact nf0 h)|exact litz h rfl|(with_reducible first|exact tf h (by assumption)|exact tf (by assumption) h)|try conv=>whnf)|with_reducible rfl|apply True.intro|((first|apply infoT|apply bleI|apply fitI|apply cellsI|apply szI);rfl)|(apply guardI;kernel_rfl)|(apply WhenQ.mk;(try conv=>whnf);rotate_left;(try conv=>whnf);rotate_right)|(with_reducible first|assumption|(apply not_of;assumption)|(apply left_of;assumption)|(apply left_of;apply left_of;assumption)|(apply and_of<;>first|assumption|(apply not_of;assumption)))|(refine lin_plan (by kernel_rfl) ?_;try conv=>whnf)|(refine ⟨_, _, rfl, idx_map (by with_reducible assumption), rfl, ?_⟩;try conv=>whnf)|(refine ⟨rfl, ?_⟩;try conv=>whnf)|exact Nat.le_refl 1|((first|(apply ex3;(focus with_reducible assumption);(focus with_reducible assumption))|(apply ex2;(focus with_reducible assumption)));try conv=>whnf)|fail)
              refine ⟨i, rfl, hlt _, ?_⟩
              (try conv=>whnf);repeat' (first|(apply And.intro<;>try conv=>whnf)|(intro h;first|(with_reducible first|exact tf0 h|exact ft0 h|exact nt0 h|exact nf0 h)|exact litz h rfl|(with_reducible first|exact tf h (by assumption)|exact tf (by assumption) h)|try conv=>whnf)|with_reducible rfl|apply True.intro|((first|apply infoT|apply bleI|apply fitI|apply cellsI|apply szI);rfl)|(apply guardI;kernel_rfl)|(apply WhenQ.mk;(try conv=>whnf);rotate_left;(try conv=>whnf);rotate_right)|(with_reducible first|assumption|(apply not_of;assumption)|(apply left_of;assumption)|(apply left_of;apply left_of;assumption)|(apply and_of<;>first|assumption|(apply not_of;assumption)))|(refine lin_plan (by kernel_rfl) ?_;try conv=>whnf)|(refine ⟨_, _, rfl, idx_map (by with_reducible assumption), rfl, ?_⟩;try conv=>whnf)|(refine ⟨rfl, ?_⟩;try conv=>whnf)|exact Nat.le_refl 1|((first|(apply ex3;(focus with_reducible assumption);(focus with_reducible assumption))|(apply ex2;(focus with_reducible assumption)));try conv=>whnf)|fail)
              refine ⟨_, dnl_get hif, ?_⟩
              have hdn : dn (dput i (putN B.2.1 z).1 B.2.2) i = .int .i64 ((putN B.2.1 z).1 : Int) := by rw [dn, look_dput, if_pos rfl]
              (try conv=>whnf);repeat' (first|(apply And.intro<;>try conv=>whnf)|(intro h;first|(with_reducible first|exact tf0 h|exact ft0 h|exact nt0 h|exact nf0 h)|exact litz h rfl|(with_reducible first|exact tf h (by assumption)|exact tf (by assumption) h)|try conv=>whnf)|with_reducible rfl|apply True.intro|((first|apply infoT|apply bleI|apply fitI|apply cellsI|apply szI);rfl)|(apply guardI;kernel_rfl)|(apply WhenQ.mk;(try conv=>whnf);rotate_left;(try conv=>whnf);rotate_right)|(with_reducible first|assumption|(apply not_of;assumption)|(apply left_of;assumption)|(apply left_of;apply left_of;assumption)|(apply and_of<;>first|assumption|(apply not_of;assumption)))|(refine lin_plan (by kernel_rfl) ?_;try conv=>whnf)|(refine ⟨_, _, rfl, idx_map (by with_reducible assumption), rfl, ?_⟩;try conv=>whnf)|(refine ⟨rfl, ?_⟩;try conv=>whnf)|exact Nat.le_refl 1|((first|(apply ex3;(focus with_reducible assumption);(focus with_reducible assumption))|(apply ex2;(focus with_reducible assumption)));try conv=>whnf)|fail)
              · exact ⟨_, 3, Hr (putN B.2.1 z).2 (dnl (dput i (putN B.2.1 z).1 B.2.2) f.length), Wk.of ⟨WkD.eq (congrArg DV.pv hdn), trivial⟩ ⟨.same _ _ rfl, trivial, .same _ _ rfl, trivial, .same _ _ rfl, trivial, trivial⟩ rfl rfl rfl, hK'⟩
end Go.Proofs.Ytnbnkgcjgfmlcaa
set_option maxRecDepth 100000
set_option maxHeartbeats 4000000
namespace Go.Proofs.Ytnbnkgcjgfmlcaa
open Go Go.Dv

theorem firstErr_zero : ∀ {f : List Nd} {s : Nat}, firstErr f s = 0 → ∀ (i : Nat) x, f[i]? = some x → nodeErr x ((s + i : Nat) : Int) = 0
  | [], s, _, i, x, hx => by simp at hx
  | n :: r, s, h, i, x, hx => by
    simp only [firstErr] at h
    cases hb : (nodeErr n s != 0) with
    | true => rw [hb] at h; simp only [cond_true] at h; rw [h] at hb; simp at hb
    | false =>
      rw [hb] at h
      simp only [cond_false] at h
      cases i with
      | zero => simp at hx; subst hx; simpa using hb
      | succ i =>
        have := firstErr_zero h i x (by simpa using hx)
        rw [show s + (i + 1) = s + 1 + i by omega]; exact this
theorem check_ok {f : List Nd} (h : check f = 0) : 1 ≤ f.length ∧ f.length ≤ 200 ∧ ∀ (i : Nat) x, f[i]? = some x → nodeErr x (i : Int) = 0 := by
  unfold check at h
  cases h1 : ((f.length : Int) == 0) with
  | true => rw [h1] at h; simp at h
  | false =>
    cases h2 : decide ((f.length : Int) > 200) with
    | true => rw [h1, h2] at h; simp at h
    | false =>
      rw [h1, h2] at h
      simp only [cond_false] at h
      refine ⟨?_, ?_, fun i x hx => ?_⟩
      · have : ¬ (f.length : Int) = 0 := by simpa using h1
        omega
      · have : ¬ (f.length : Int) > 200 := by simpa using h2
        omega
      · have := firstErr_zero h i x hx
        simpa using this
/-- What a node has that is without error. -/
structure OkNd (n : Nd) (k : Int) : Prop where
  op : 1 ≤ n.op ∧ n.op ≤ 21
  x : usesX n.op = true → 0 ≤ n.x ∧ n.x < k
  nox : usesX n.op = false → n.x = 0
  y : usesY n.op = true → 0 ≤ n.y ∧ n.y < k
  noy : usesY n.op = false → n.y = 0
  fact : n.op = 3 → 0 ≤ n.i ∧ n.i < 8
  agent : isAgent n.op = true → 0 ≤ n.i ∧ n.i < 4
  act : n.op = 17 → 0 ≤ n.i ∧ n.i < 8 ∧ 0 ≤ n.e ∧ n.e < 8
  noi : n.op ≠ 3 → isAgent n.op = false → n.op ≠ 17 → n.i = 0
  noe : n.op ≠ 17 → n.e = 0
  group : isGroup n.op = true → 1 ≤ n.g ∧ n.g < 16
  nog : isGroup n.op = false → n.g = 0
theorem nodeErr_ok {x : Nd} {a : Int} : nodeErr x a = 0 ↔ OkNd x a := by
  have hd : ∀ {c : Bool} {p q : Int}, p ≠ 0 → ((bif c then p else q) = 0 ↔ c = false ∧ q = 0) := by
    intro c p q hp; cases c <;> simp [hp]
  unfold nodeErr
  rw [hd (by decide), hd (by decide), hd (by decide), hd (by decide), hd (by decide), hd (by decide), hd (by decide)]
  cases hx : usesX x.op <;> cases hy : usesY x.op <;> cases ha : isAgent x.op <;> cases hg : isGroup x.op <;>
    (constructor
     · intro h
       simp only [cond_true, cond_false, Bool.not_true, Bool.not_false] at h
       constructor <;> simp_all <;> (try omega)
     · intro h
       obtain ⟨h1, h2, h3, h4, h5, h6, h7, h8, h9, h10, h11, h12⟩ := h
       by_cases e3 : x.op = 3 <;> by_cases e17 : x.op = 17 <;> simp_all <;> (try omega))
theorem check_wf {f : List Nd} (h : check f = 0) : Wf f := fun i x hx =>
  have := nodeErr_ok.1 ((check_ok h).2.2 i x hx)
  ⟨this.x, this.y⟩
/-- The subformula at a node. -/
def sub (f : List Nd) (node : Int) : List Nd := bif bif bif check f != 0 then true else decide (node < 0) then true else decide (node ≥ (f.length : Int)) then [] else canon f node.toNat
def comp (f : List Nd) : List Nd := sub f ((f.length : Int) - 1)

theorem sub_no {f : List Nd} {node : Int} (h : (bif bif check f != 0 then true else decide (node < 0) then true else decide (node ≥ ((f.map Nd.pv).length : Int))) = true) : sub f node = [] := by
  rw [List.length_map] at h
  rw [sub, h]; rfl
theorem sub_yes {f : List Nd} {node : Int} (h : (bif bif check f != 0 then true else decide (node < 0) then true else decide (node ≥ ((f.map Nd.pv).length : Int))) = false) :
    check f = 0 ∧ ∃ k : Nat, node = k ∧ k < f.length ∧ sub f node = canon f k := by
  rw [List.length_map] at h
  have hs : sub f node = canon f node.toNat := by rw [sub, h]; rfl
  cases h1 : (check f != 0) with
  | true => rw [h1] at h; simp at h
  | false =>
    rw [h1] at h
    have h2 : ¬ node < 0 := by intro hh; simp [hh] at h
    have h3 : ¬ node ≥ (f.length : Int) := by intro hh; simp [h2, hh] at h
    exact ⟨by simpa using h1, node.toNat, by omega, by omega, hs⟩
end Go.Proofs.Ytnbnkgcjgfmlcaa
set_option maxRecDepth 100000
set_option maxHeartbeats 4000000
namespace Go.Proofs.Ytnbnkgcjgfmlcaa
open Go Go.Dv

theorem fm_Sub (f : List Nd) (node : Int) : PureFn Try.prog 100 [fpv f, .int .i64 node] (fpv (sub f node)) := by
  refine PureFn.intro mixed (fn := Try.f100) rfl rfl rfl fun M w0 => ?_
  (try conv=>whnf);repeat' (first|(apply And.intro<;>try conv=>whnf)|(intro h;first|(with_reducible first|exact tf0 h|exact ft0 h|exact nt0 h|exact nf0 h)|exact litz h rfl|(with_reducible first|exact tf h (by assumption)|exact tf (by assumption) h)|try conv=>whnf)|with_reducible rfl|apply True.intro|((first|apply infoT|apply bleI|apply fitI|apply cellsI|apply szI);rfl)|(apply guardI;kernel_rfl)|(apply WhenQ.mk;(try conv=>whnf);rotate_left;(try conv=>whnf);rotate_right)|(with_reducible first|assumption|(apply not_of;assumption)|(apply left_of;assumption)|(apply left_of;apply left_of;assumption)|(apply and_of<;>first|assumption|(apply not_of;assumption)))|(refine lin_plan (by kernel_rfl) ?_;try conv=>whnf)|(refine ⟨_, _, rfl, idx_map (by with_reducible assumption), rfl, ?_⟩;try conv=>whnf)|(refine ⟨rfl, ?_⟩;try conv=>whnf)|exact Nat.le_refl 1|((first|(apply ex3;(focus with_reducible assumption);(focus with_reducible assumption))|(apply ex2;(focus with_reducible assumption)));try conv=>whnf)|(refine PureFn.dcq (f := 90) rfl ?_;try conv=>whnf)|((refine ⟨_, _, fm_Check ?_, ?_, ?_⟩);rotate_left 1;(focus (first|(refine ⟨?_, trivial⟩<;>first|exact PLe.refl _|exact PLe.nil)|exact trivial));try conv=>whnf)|(refine ⟨_, (by (conv=>whnf);exact fm_Check _), rfl, ?_⟩;try conv=>whnf)|fail)
  · rw [sub_no h]; exact .nil
  · obtain ⟨hc, k, rfl, hk, hs⟩ := sub_yes h
    have hcomp := fm_compact f k (check_wf hc) hk (by have := (check_ok hc).2.1; omega)
    (try conv=>whnf);repeat' (first|(apply And.intro<;>try conv=>whnf)|(intro h;first|(with_reducible first|exact tf0 h|exact ft0 h|exact nt0 h|exact nf0 h)|exact litz h rfl|(with_reducible first|exact tf h (by assumption)|exact tf (by assumption) h)|try conv=>whnf)|with_reducible rfl|apply True.intro|((first|apply infoT|apply bleI|apply fitI|apply cellsI|apply szI);rfl)|(apply guardI;kernel_rfl)|(apply WhenQ.mk;(try conv=>whnf);rotate_left;(try conv=>whnf);rotate_right)|(with_reducible first|assumption|(apply not_of;assumption)|(apply left_of;assumption)|(apply left_of;apply left_of;assumption)|(apply and_of<;>first|assumption|(apply not_of;assumption)))|(refine lin_plan (by kernel_rfl) ?_;try conv=>whnf)|(refine ⟨_, _, rfl, idx_map (by with_reducible assumption), rfl, ?_⟩;try conv=>whnf)|(refine ⟨rfl, ?_⟩;try conv=>whnf)|exact Nat.le_refl 1|((first|(apply ex3;(focus with_reducible assumption);(focus with_reducible assumption))|(apply ex2;(focus with_reducible assumption)));try conv=>whnf)|(refine PureFn.dcq (f := 93) rfl ?_;try conv=>whnf)|((refine ⟨_, _, hcomp, ?_, ?_⟩);(focus (first|(refine ⟨?_, ?_, trivial⟩<;>first|exact PLe.refl _|exact PLe.nil)|exact trivial));try conv=>whnf)|(refine ⟨_, (by (conv=>whnf);exact hcomp), rfl, ?_⟩;try conv=>whnf)|fail)
    rw [hs]; exact .refl _

theorem dnl_succ (i : Nat) : dnl [] (i + 1) = dnl [] i ++ [.int .i64 (-1)] := by
  simp only [dnl, List.range_succ, List.map_append, List.map_cons, List.map_nil]; rfl

theorem ref_Sub (f : List Nd) (node : Int) : PureFn Try.prog 140 [fpv f, .int .i64 node] (fpv (sub f node)) := by
  refine PureFn.intro mixed (fn := Try.f140) rfl rfl rfl fun M w0 => ?_
  (try conv=>whnf);repeat' (first|(apply And.intro<;>try conv=>whnf)|(intro h;first|(with_reducible first|exact tf0 h|exact ft0 h|exact nt0 h|exact nf0 h)|exact litz h rfl|(with_reducible first|exact tf h (by assumption)|exact tf (by assumption) h)|try conv=>whnf)|with_reducible rfl|apply True.intro|((first|apply infoT|apply bleI|apply fitI|apply cellsI|apply szI);rfl)|(apply guardI;kernel_rfl)|(apply WhenQ.mk;(try conv=>whnf);rotate_left;(try conv=>whnf);rotate_right)|(with_reducible first|assumption|(apply not_of;assumption)|(apply left_of;assumption)|(apply left_of;apply left_of;assumption)|(apply and_of<;>first|assumption|(apply not_of;assumption)))|(refine lin_plan (by kernel_rfl) ?_;try conv=>whnf)|(refine ⟨_, _, rfl, idx_map (by with_reducible assumption), rfl, ?_⟩;try conv=>whnf)|(refine ⟨rfl, ?_⟩;try conv=>whnf)|exact Nat.le_refl 1|((first|(apply ex3;(focus with_reducible assumption);(focus with_reducible assumption))|(apply ex2;(focus with_reducible assumption)));try conv=>whnf)|(refine PureFn.dcq (f := 127) rfl ?_;try conv=>whnf)|((refine ⟨_, _, ref_Check ?_, ?_, ?_⟩);rotate_left 1;(focus (first|(refine ⟨?_, trivial⟩<;>first|exact PLe.refl _|exact PLe.nil)|exact trivial));try conv=>whnf)|(refine ⟨_, (by (conv=>whnf);exact ref_Check _), rfl, ?_⟩;try conv=>whnf)|fail)
  · rw [sub_no h]; exact .nil
  · obtain ⟨hc, k, rfl, hk, hs⟩ := sub_yes h
    have hl := (check_ok hc).2.1
    (try conv=>whnf);repeat' (first|(apply And.intro<;>try conv=>whnf)|(intro h;first|(with_reducible first|exact tf0 h|exact ft0 h|exact nt0 h|exact nf0 h)|exact litz h rfl|(with_reducible first|exact tf h (by assumption)|exact tf (by assumption) h)|try conv=>whnf)|with_reducible rfl|apply True.intro|((first|apply infoT|apply bleI|apply fitI|apply cellsI|apply szI);rfl)|(apply guardI;kernel_rfl)|(apply WhenQ.mk;(try conv=>whnf);rotate_left;(try conv=>whnf);rotate_right)|(with_reducible first|assumption|(apply not_of;assumption)|(apply left_of;assumption)|(apply left_of;apply left_of;assumption)|(apply and_of<;>first|assumption|(apply not_of;assumption)))|(refine lin_plan (by kernel_rfl) ?_;try conv=>whnf)|(refine ⟨_, _, rfl, idx_map (by with_reducible assumption), rfl, ?_⟩;try conv=>whnf)|(refine ⟨rfl, ?_⟩;try conv=>whnf)|exact Nat.le_refl 1|((first|(apply ex3;(focus with_reducible assumption);(focus with_reducible assumption))|(apply ex2;(focus with_reducible assumption)));try conv=>whnf)|fail)
    refine ⟨{ i : Nat // i ≤ f.length }, fun i => [(0, .pv (fpv f)), (1, .pv (.int .i64 (k : Int))), (5, .ref 0 0), (6, .pv (.int .i64 (i.1 : Nat)))], fun _ => 3, fun i => Hr [] (dnl [] i), fun i => f.length - i.1,
      ⟨⟨0, Nat.zero_le _⟩, (by refine Wk.of ?_ ?_ rfl rfl rfl<;>(repeat' (first|exact trivial|exact WkD.same _|exact WkO.same _ _ rfl|exact WkD.any _|(apply WkD.nil;first|exact Or.inl rfl|exact Or.inr rfl)|(exact WkD.fz _ _ _ rfl (Or.inl ⟨_, rfl⟩) rfl)|(exact WkD.fz _ _ _ rfl (Or.inr rfl) rfl)|refine WkD.int ?_|exact WkD.new' rfl rfl rfl|exact WkO.new _ _ rfl|refine WkO.vars rfl ?_|with_reducible rfl|exact rfl|refine ⟨?_, ?_⟩|((refine wrapA ?_ ?_ ?_);(focus simp;done);(focus (try dsimp only);omega);(focus (try dsimp only);omega))|fail)))⟩, ?_⟩
    rintro ⟨i, hi⟩
    (try conv=>whnf);repeat' (first|(apply And.intro<;>try conv=>whnf)|(intro h;first|(with_reducible first|exact tf0 h|exact ft0 h|exact nt0 h|exact nf0 h)|exact litz h rfl|(with_reducible first|exact tf h (by assumption)|exact tf (by assumption) h)|try conv=>whnf)|with_reducible rfl|apply True.intro|((first|apply infoT|apply bleI|apply fitI|apply cellsI|apply szI);rfl)|(apply guardI;kernel_rfl)|(apply WhenQ.mk;(try conv=>whnf);rotate_left;(try conv=>whnf);rotate_right)|(with_reducible first|assumption|(apply not_of;assumption)|(apply left_of;assumption)|(apply left_of;apply left_of;assumption)|(apply and_of<;>first|assumption|(apply not_of;assumption)))|(refine lin_plan (by kernel_rfl) ?_;try conv=>whnf)|(refine ⟨_, _, rfl, idx_map (by with_reducible assumption), rfl, ?_⟩;try conv=>whnf)|(refine ⟨rfl, ?_⟩;try conv=>whnf)|exact Nat.le_refl 1|((first|(apply ex3;(focus with_reducible assumption);(focus with_reducible assumption))|(apply ex2;(focus with_reducible assumption)));try conv=>whnf)|fail)
    · show (dnl [] i).length + 1 ≤ 4294967296
      rw [dnl_len]; omega
    · have hi' : i < f.length := by simpa using h
      refine ⟨⟨i + 1, hi'⟩, by show f.length - (i + 1) < f.length - i; omega, Wk.of ⟨.same _, .same _, .same _, WkD.int (wrapA (by simp) (by dsimp only; omega) (by dsimp only; omega)), trivial⟩ ⟨WkO.vars rfl ⟨.same _, WkD.eq ?_, trivial⟩, trivial, .same _ _ rfl, trivial, .same _ _ ?_, trivial, trivial⟩ rfl rfl rfl⟩
      · exact congrArg (DV.buf 2) (congrArg List.length (dnl_succ i).symm)
      · exact congrArg (fun z => some (DObj.arr 1 z)) (dnl_succ i).symm
    · have hi' : i = f.length := by have : ¬ i < f.length := by simpa using h
                                    omega
      subst hi'
      refine rfin_dc f (check_wf hc) (by omega) (k + 1) k ([], []) (by omega) hk ?_ M w0 _ _ ?_
      · show 0 + cnt [] f.length ≤ f.length
        rw [cnt_nil]; omega
      · (try conv=>whnf);repeat' (first|(apply And.intro<;>try conv=>whnf)|(intro h;first|(with_reducible first|exact tf0 h|exact ft0 h|exact nt0 h|exact nf0 h)|exact litz h rfl|(with_reducible first|exact tf h (by assumption)|exact tf (by assumption) h)|try conv=>whnf)|with_reducible rfl|apply True.intro|((first|apply infoT|apply bleI|apply fitI|apply cellsI|apply szI);rfl)|(apply guardI;kernel_rfl)|(apply WhenQ.mk;(try conv=>whnf);rotate_left;(try conv=>whnf);rotate_right)|(with_reducible first|assumption|(apply not_of;assumption)|(apply left_of;assumption)|(apply left_of;apply left_of;assumption)|(apply and_of<;>first|assumption|(apply not_of;assumption)))|(refine lin_plan (by kernel_rfl) ?_;try conv=>whnf)|(refine ⟨_, _, rfl, idx_map (by with_reducible assumption), rfl, ?_⟩;try conv=>whnf)|(refine ⟨rfl, ?_⟩;try conv=>whnf)|exact Nat.le_refl 1|((first|(apply ex3;(focus with_reducible assumption);(focus with_reducible assumption))|(apply ex2;(focus with_reducible assumption)));try conv=>whnf)|fail)
        rw [hs]; exact .refl _
theorem comp_wrap (f : List Nd) : sub f (IntKind.wrap .i64 (((f.map Nd.pv).length : Int) - 1)) = comp f := by
  rw [List.length_map]
  by_cases h : f.length ≤ 200
  · rw [wrap_small (by omega) (by omega)]; rfl
  · have hc : (check f != 0) = true := by
      cases hb : (check f != 0) with
      | true => rfl
      | false => exact absurd (check_ok (by simpa using hb)).2.1 h
    rw [comp, sub, sub, hc]; rfl
theorem fm_Compact (f : List Nd) : PureFn Try.prog 74 [fpv f] (fpv (comp f)) := by
  refine PureFn.intro mixed (fn := Try.f74) rfl rfl rfl fun M w0 => ?_
  (try conv=>whnf);repeat' (first|(apply And.intro<;>try conv=>whnf)|(intro h;first|(with_reducible first|exact tf0 h|exact ft0 h|exact nt0 h|exact nf0 h)|exact litz h rfl|(with_reducible first|exact tf h (by assumption)|exact tf (by assumption) h)|try conv=>whnf)|with_reducible rfl|apply True.intro|((first|apply infoT|apply bleI|apply fitI|apply cellsI|apply szI);rfl)|(apply guardI;kernel_rfl)|(apply WhenQ.mk;(try conv=>whnf);rotate_left;(try conv=>whnf);rotate_right)|(with_reducible first|assumption|(apply not_of;assumption)|(apply left_of;assumption)|(apply left_of;apply left_of;assumption)|(apply and_of<;>first|assumption|(apply not_of;assumption)))|(refine lin_plan (by kernel_rfl) ?_;try conv=>whnf)|(refine ⟨_, _, rfl, idx_map (by with_reducible assumption), rfl, ?_⟩;try conv=>whnf)|(refine ⟨rfl, ?_⟩;try conv=>whnf)|exact Nat.le_refl 1|((first|(apply ex3;(focus with_reducible assumption);(focus with_reducible assumption))|(apply ex2;(focus with_reducible assumption)));try conv=>whnf)|(refine PureFn.dcq (f := 100) rfl ?_;try conv=>whnf)|((refine ⟨_, _, fm_Sub ?_ ?_, ?_, ?_⟩);rotate_left 2;(focus (first|(refine ⟨?_, ?_, trivial⟩<;>first|exact PLe.refl _|exact PLe.nil)|exact trivial));try conv=>whnf)|(refine ⟨_, (by (conv=>whnf);exact fm_Sub _ _), rfl, ?_⟩;try conv=>whnf)|fail)
  exact comp_wrap f ▸ .refl _
theorem ref_Compact (f : List Nd) : PureFn Try.prog 132 [fpv f] (fpv (comp f)) := by
  refine PureFn.intro mixed (fn := Try.f132) rfl rfl rfl fun M w0 => ?_
  (try conv=>whnf);repeat' (first|(apply And.intro<;>try conv=>whnf)|(intro h;first|(with_reducible first|exact tf0 h|exact ft0 h|exact nt0 h|exact nf0 h)|exact litz h rfl|(with_reducible first|exact tf h (by assumption)|exact tf (by assumption) h)|try conv=>whnf)|with_reducible rfl|apply True.intro|((first|apply infoT|apply bleI|apply fitI|apply cellsI|apply szI);rfl)|(apply guardI;kernel_rfl)|(apply WhenQ.mk;(try conv=>whnf);rotate_left;(try conv=>whnf);rotate_right)|(with_reducible first|assumption|(apply not_of;assumption)|(apply left_of;assumption)|(apply left_of;apply left_of;assumption)|(apply and_of<;>first|assumption|(apply not_of;assumption)))|(refine lin_plan (by kernel_rfl) ?_;try conv=>whnf)|(refine ⟨_, _, rfl, idx_map (by with_reducible assumption), rfl, ?_⟩;try conv=>whnf)|(refine ⟨rfl, ?_⟩;try conv=>whnf)|exact Nat.le_refl 1|((first|(apply ex3;(focus with_reducible assumption);(focus with_reducible assumption))|(apply ex2;(focus with_reducible assumption)));try conv=>whnf)|(refine PureFn.dcq (f := 140) rfl ?_;try conv=>whnf)|((refine ⟨_, _, ref_Sub ?_ ?_, ?_, ?_⟩);rotate_left 2;(focus (first|(refine ⟨?_, ?_, trivial⟩<;>first|exact PLe.refl _|exact PLe.nil)|exact trivial));try conv=>whnf)|(refine ⟨_, (by (conv=>whnf);exact ref_Sub _ _), rfl, ?_⟩;try conv=>whnf)|fail)
  exact comp_wrap f ▸ .refl _
end Go.Proofs.Ytnbnkgcjgfmlcaa
set_option maxRecDepth 100000
set_option maxHeartbeats 4000000
namespace Go.Proofs.Ytnbnkgcjgfmlcaa
open Go Go.Dv

/-! equality -/
/-- The canonical list is no longer than the list. -/
theorem canon_len {f : List Nd} (hwf : Wf f) {i : Nat} (hi : i < f.length) : (canon f i).length ≤ f.length := by
  have := (fin_keep hwf (i + 1) i ([], []) (by omega) hi).2 (by show 0 + cnt [] f.length ≤ f.length; rw [cnt_nil]; omega)
  unfold canon
  omega
theorem sub_len (f : List Nd) (node : Int) : (sub f node).length ≤ 200 := by
  cases h : (bif bif check f != 0 then true else decide (node < 0) then true else decide (node ≥ ((f.map Nd.pv).length : Int))) with
  | true => rw [sub_no h]; simp
  | false =>
    obtain ⟨hc, k, rfl, hk, hs⟩ := sub_yes h
    rw [hs]
    have := canon_len (check_wf hc) hk
    have := (check_ok hc).2.1
    omega
theorem comp_len (f : List Nd) : (comp f).length ≤ 200 := sub_len f _

def same (a b : List Nd) : Bool := bif bif check a == 0 then check b == 0 else false then decide (comp a = comp b) else false
/-! order -/
/-! order of the reference -/
end Go.Proofs.Ytnbnkgcjgfmlcaa
namespace Go.Proofs.Ytnbnkgcjgfmlcaa
open Go Go.Dv

def Okl (f : List Nd) : Prop := ∀ (i : Nat) x, f[i]? = some x → OkNd x (i : Int)
theorem Okl.wf {f : List Nd} (h : Okl f) : Wf f := fun i x hx => ⟨(h i x hx).x, (h i x hx).y⟩
def DsOk (s : List Nd × List (Nat × Nat)) : Prop := ∀ j v, look j s.2 = some v → v < s.1.length

theorem idx_some {x : Nd} : ∀ {out : List Nd} {i k : Nat}, idx x out i = some k → i ≤ k ∧ out[k - i]? = some x
  | [], i, k, h => by simp [idx] at h
  | n :: r, i, k, h => by
    simp only [idx] at h
    by_cases e : n = x
    · rw [if_pos e] at h
      simp at h; subst h; subst e
      simp
    · rw [if_neg e] at h
      obtain ⟨h1, h2⟩ := idx_some h
      refine ⟨by omega, ?_⟩
      rw [show k - i = (k - (i + 1)) + 1 by omega]
      simpa using h2
theorem putN_spec (out : List Nd) (x : Nd) : (putN out x).2[(putN out x).1]? = some x ∧ (putN out x).1 < (putN out x).2.length ∧ ∃ t, (putN out x).2 = out ++ t ∧ ∀ y, y ∈ t → y = x := by
  unfold putN
  cases h : idx x out 0 with
  | some k =>
    obtain ⟨_, h2⟩ := idx_some h
    simp only [Nat.sub_zero] at h2
    exact ⟨h2, (List.getElem?_eq_some_iff.1 h2).1, [], by simp, by simp⟩
  | none => exact ⟨by simp, by simp, [x], rfl, by simp⟩
theorem putN_ok {out : List Nd} {x : Nd} (ho : Okl out) (hx : OkNd x out.length) : Okl (putN out x).2 := by
  unfold putN
  cases h : idx x out 0 with
  | some k => exact ho
  | none =>
    intro i y hy
    simp only at hy
    rcases Nat.lt_or_ge i out.length with hl | hl
    · rw [List.getElem?_append_left hl] at hy; exact ho i y hy
    · rw [List.getElem?_append_right hl] at hy
      have : i = out.length := by
        have := (List.getElem?_eq_some_iff.1 hy).1
        simp at this; omega
      subst this
      simp at hy; subst hy; exact hx
theorem OkNd.mono {x : Nd} {a b : Int} (h : OkNd x a) (hab : a ≤ b) : OkNd x b :=
  ⟨h.op, fun u => ⟨(h.x u).1, by have := (h.x u).2; omega⟩, h.nox, fun u => ⟨(h.y u).1, by have := (h.y u).2; omega⟩, h.noy, h.fact, h.agent, h.act, h.noi, h.noe, h.group, h.nog⟩

/-- The node that is put. -/
def ndZ (x : Nd) (a b : Nat) : Nd := ndB x.op (ndA x a) b
theorem ndZ_op (x : Nd) (a b : Nat) : (ndZ x a b).op = x.op := by unfold ndZ ndB ndA; cases usesX x.op <;> cases usesY x.op <;> rfl
theorem ndZ_i (x : Nd) (a b : Nat) : (ndZ x a b).i = x.i := by unfold ndZ ndB ndA; cases usesX x.op <;> cases usesY x.op <;> rfl
theorem ndZ_e (x : Nd) (a b : Nat) : (ndZ x a b).e = x.e := by unfold ndZ ndB ndA; cases usesX x.op <;> cases usesY x.op <;> rfl
theorem ndZ_g (x : Nd) (a b : Nat) : (ndZ x a b).g = x.g := by unfold ndZ ndB ndA; cases usesX x.op <;> cases usesY x.op <;> rfl
theorem ndZ_x (x : Nd) (a b : Nat) : (ndZ x a b).x = bif usesX x.op then (a : Int) else x.x := by unfold ndZ ndB ndA; cases usesX x.op <;> cases usesY x.op <;> rfl
theorem ndZ_y (x : Nd) (a b : Nat) : (ndZ x a b).y = bif usesY x.op then (b : Int) else x.y := by unfold ndZ ndB ndA; cases usesX x.op <;> cases usesY x.op <;> rfl
theorem ndZ_ok {x : Nd} {i : Int} {a b n : Nat} (h : OkNd x i) (ha : usesX x.op = true → a < n) (hb : usesY x.op = true → b < n) : OkNd (ndZ x a b) n := by
  constructor
  · rw [ndZ_op]; exact h.op
  · rw [ndZ_op, ndZ_x]; intro u; rw [u]; have := ha u; simp only [cond_true]; omega
  · rw [ndZ_op, ndZ_x]; intro u; rw [u]; exact h.nox u
  · rw [ndZ_op, ndZ_y]; intro u; rw [u]; have := hb u; simp only [cond_true]; omega
  · rw [ndZ_op, ndZ_y]; intro u; rw [u]; exact h.noy u
  · rw [ndZ_op, ndZ_i]; exact h.fact
  · rw [ndZ_op, ndZ_i]; exact h.agent
  · rw [ndZ_op, ndZ_i, ndZ_e]; exact h.act
  · rw [ndZ_op, ndZ_i]; exact h.noi
  · rw [ndZ_op, ndZ_e]; exact h.noe
  · rw [ndZ_op, ndZ_g]; exact h.group
  · rw [ndZ_op, ndZ_g]; exact h.nog

structure FinOk (s t : List Nd × List (Nat × Nat)) (k : Nat) : Prop where
  ok : Okl t.1
  ds : DsOk t
  lt : k < t.1.length
  ext : ∃ u, t.1 = s.1 ++ u

theorem fin_ok {f : List Nd} (hf : Okl f) : ∀ (n i : Nat) (s : List Nd × List (Nat × Nat)), i < n → i < f.length → Okl s.1 → DsOk s → FinOk s (fin f n i s).2 (fin f n i s).1
  | 0, i, s, h, _, _, _ => by omega
  | n + 1, i, s, hin, hif, ho, hd => by
    cases hl : look i s.2 with
    | some k => simp only [fin, hl]; exact ⟨ho, hd, hd i k hl, [], by simp⟩
    | none =>
      have hn : f[i]? = some f[i] := List.getElem?_eq_getElem hif
      generalize hx : f[i] = x at hn
      have hok := hf i x hn
      rw [fin_none hl hn]
      have hA : Okl (opA f n x s).2.1 ∧ DsOk (opA f n x s).2 ∧ (usesX x.op = true → (opA f n x s).1 < (opA f n x s).2.1.length) ∧ ∃ u, (opA f n x s).2.1 = s.1 ++ u := by
        unfold opA
        cases hu : usesX x.op with
        | false => exact ⟨ho, hd, (fun h => by cases h), [], by simp⟩
        | true =>
          have := hok.x hu
          have q := fin_ok hf n x.x.toNat s (by omega) (by omega) ho hd
          exact ⟨q.ok, q.ds, fun _ => q.lt, q.ext⟩
      generalize opA f n x s = A at hA ⊢
      obtain ⟨a1, a2, a3, ua, a4⟩ := hA
      have hB : Okl (opB f n x A.2).2.1 ∧ DsOk (opB f n x A.2).2 ∧ (usesY x.op = true → (opB f n x A.2).1 < (opB f n x A.2).2.1.length) ∧ ∃ u, (opB f n x A.2).2.1 = A.2.1 ++ u := by
        unfold opB
        cases hu : usesY x.op with
        | false => exact ⟨a1, a2, (fun h => by cases h), [], by simp⟩
        | true =>
          have := hok.y hu
          have q := fin_ok hf n x.y.toNat A.2 (by omega) (by omega) a1 a2
          exact ⟨q.ok, q.ds, fun _ => q.lt, q.ext⟩
      generalize opB f n x A.2 = B at hB ⊢
      obtain ⟨b1, b2, b3, ub, b4⟩ := hB
      have hz : OkNd (ndZ x A.1 B.1) B.2.1.length := ndZ_ok hok (fun u => by have := a3 u; rw [b4, List.length_append]; omega) b3
      change FinOk s ((putN B.2.1 (ndZ x A.1 B.1)).2, dput i (putN B.2.1 (ndZ x A.1 B.1)).1 B.2.2) (putN B.2.1 (ndZ x A.1 B.1)).1
      obtain ⟨p1, p2, t, p3, _⟩ := putN_spec B.2.1 (ndZ x A.1 B.1)
      refine ⟨putN_ok b1 hz, ?_, p2, ua ++ ub ++ t, by simp only; rw [p3, b4, a4]; simp [List.append_assoc]⟩
      intro j v hv
      simp only [look_dput] at hv
      by_cases e : j = i
      · rw [if_pos e] at hv; simp at hv; subst hv; exact p2
      · rw [if_neg e] at hv
        have := b2 j v hv
        simp only
        rw [p3, List.length_append]; omega

theorem canon_ok {f : List Nd} (hf : Okl f) {i : Nat} (hi : i < f.length) : Okl (canon f i) ∧ 1 ≤ (canon f i).length := by
  have q := fin_ok hf (i + 1) i ([], []) (by omega) hi (fun j x h => by simp at h) (fun j v h => by simp [look] at h)
  exact ⟨q.ok, by have := q.lt; unfold canon; omega⟩
theorem check_okl {f : List Nd} (h : check f = 0) : Okl f := fun i x hx => nodeErr_ok.1 ((check_ok h).2.2 i x hx)
theorem okl_check {f : List Nd} (h : Okl f) (h1 : 1 ≤ f.length) (h2 : f.length ≤ 200) : check f = 0 := by
  have e1 : ((f.length : Int) == 0) = false := by simp; intro e; subst e; simp at h1
  have e2 : decide ((f.length : Int) > 200) = false := by simp; omega
  rw [check, e1, e2]
  have : ∀ (l : List Nd) (s : Nat), (∀ (i : Nat) x, l[i]? = some x → nodeErr x ((s + i : Nat) : Int) = 0) → firstErr l s = 0 := by
    intro l
    induction l with
    | nil => intro s _; rfl
    | cons n r ih =>
      intro s hs
      have h0 : nodeErr n s = 0 := by simpa using hs 0 n rfl
      simp only [firstErr, h0]
      exact ih (s + 1) fun i x hx => by
        have := hs (i + 1) x (by simpa using hx)
        rw [show s + 1 + i = s + (i + 1) by omega]; exact this
  exact this f 0 fun i x hx => nodeErr_ok.2 (by simpa using h i x hx)
theorem sub_okl (f : List Nd) (node : Int) : Okl (sub f node) := by
  cases h : (bif bif check f != 0 then true else decide (node < 0) then true else decide (node ≥ ((f.map Nd.pv).length : Int))) with
  | true => rw [sub_no h]; intro i x hx; simp at hx
  | false =>
    obtain ⟨hc, k, rfl, hk, hs⟩ := sub_yes h
    rw [hs]
    exact (canon_ok (check_okl hc) hk).1
theorem comp_okl (f : List Nd) : Okl (comp f) := sub_okl f _
theorem comp_eq {f : List Nd} (h : check f = 0) : comp f = canon f (f.length - 1) := by
  have := (check_ok h).1
  have e1 : (check f != 0) = false := by rw [h]; rfl
  have e2 : decide (((f.length : Int) - 1) < 0) = false := by simp; omega
  have e3 : decide (((f.length : Int) - 1) ≥ (f.length : Int)) = false := by simp; omega
  rw [comp, sub, e1, e2, e3]
  exact congrArg (canon f) (by omega)
/-! unions of masks -/
def orN (m : Nd → Nat) (c : List Nd) : Nat := c.foldl (fun a x => a ||| m x) 0
theorem foldl_or (m : Nd → Nat) : ∀ (c : List Nd) (a : Nat), c.foldl (fun a x => a ||| m x) a = a ||| orN m c
  | [], a => by simp [orN]
  | x :: r, a => by
    simp only [orN, List.foldl_cons]
    rw [foldl_or m r, foldl_or m r, Nat.zero_or, Nat.or_assoc]
theorem orN_cons (m : Nd → Nat) (x : Nd) (r : List Nd) : orN m (x :: r) = m x ||| orN m r := by
  rw [orN, List.foldl_cons, foldl_or, Nat.zero_or]
theorem orN_take {m : Nd → Nat} {c : List Nd} {i : Nat} (h : i < c.length) : orN m (c.take (i + 1)) = orN m (c.take i) ||| m c[i] := by
  rw [List.take_succ_eq_append_getElem h, orN, List.foldl_append, foldl_or]
  rw [orN_cons]; simp only [orN, List.foldl_nil, Nat.or_zero]
theorem orN_lt {m : Nd → Nat} {k : Nat} : ∀ {c : List Nd}, (∀ x, x ∈ c → m x < 2 ^ k) → orN m c < 2 ^ k
  | [], _ => Nat.two_pow_pos k
  | x :: r, h => by
    rw [orN_cons]
    exact Nat.or_lt_two_pow (h x (by simp)) (orN_lt fun y hy => h y (by simp [hy]))
def fragN (x : Nd) : Nat := (frag x.op).toNat
def factN (x : Nd) : Nat := bif x.op == 3 then 2 ^ x.i.toNat else 0
def agN (x : Nd) : Nat := bif isAgent x.op then 2 ^ x.i.toNat else x.g.toNat
def frags (f : List Nd) : Nat := orN fragN (comp f)
def facts (f : List Nd) : Nat := orN factN (comp f)
def agents (f : List Nd) : Nat := orN agN (comp f)

theorem okl_mem {f : List Nd} (h : Okl f) {x : Nd} (hx : x ∈ f) : ∃ i : Nat, OkNd x i := by
  obtain ⟨i, hi, rfl⟩ := List.mem_iff_getElem.1 hx
  exact ⟨i, h i _ (List.getElem?_eq_getElem hi)⟩
theorem fragN_lt {x : Nd} {k : Int} (h : OkNd x k) : fragN x < 2 ^ 9 ∧ frag x.op = (fragN x : Int) := by
  have ho := h.op
  have key : ∀ op : Nat, op < 22 → (frag (op : Int)).toNat < 512 ∧ frag (op : Int) = ((frag (op : Int)).toNat : Int) := by decide
  have := key x.op.toNat (by omega)
  rw [show ((x.op.toNat : Nat) : Int) = x.op by omega] at this
  exact this
theorem pow_lt {i : Int} {a k : Nat} (h1 : 0 ≤ i) (h2 : i < a) (hk : a ≤ k) : 2 ^ i.toNat < 2 ^ k := Nat.pow_lt_pow_right (by decide) (by omega)
theorem factN_lt {x : Nd} {k : Int} (h : OkNd x k) : factN x < 2 ^ 8 := by
  unfold factN
  cases hb : (x.op == 3) with
  | false => show 0 < 2 ^ 8; decide
  | true => have := h.fact (by simpa using hb); exact pow_lt (a := 8) this.1 this.2 (by decide)
theorem agN_lt {x : Nd} {k : Int} (h : OkNd x k) : agN x < 2 ^ 4 := by
  unfold agN
  cases hb : isAgent x.op with
  | true => have := h.agent hb; exact pow_lt (a := 4) this.1 this.2 (by decide)
  | false =>
    cases hg : isGroup x.op with
    | true => have := h.group hg; show x.g.toNat < 16; omega
    | false => have := h.nog hg; show x.g.toNat < 16; omega
theorem frags_lt (f : List Nd) : frags f < 2 ^ 9 := orN_lt fun x hx => by obtain ⟨i, hi⟩ := okl_mem (comp_okl f) hx; exact (fragN_lt hi).1
theorem facts_lt (f : List Nd) : facts f < 2 ^ 8 := orN_lt fun x hx => by obtain ⟨i, hi⟩ := okl_mem (comp_okl f) hx; exact factN_lt hi
theorem agents_lt (f : List Nd) : agents f < 2 ^ 4 := orN_lt fun x hx => by obtain ⟨i, hi⟩ := okl_mem (comp_okl f) hx; exact agN_lt hi

/-! int's or, shifts -/
def or64 (a b : Int) : Int := IntKind.wrap .i64 ((BitVec.ofInt (IntKind.bits .i64) a ||| BitVec.ofInt (IntKind.bits .i64) b).toNat : Int)
theorem or64_nat {a b : Nat} (ha : a < 2 ^ 62) (hb : b < 2 ^ 62) : or64 a b = ((a ||| b : Nat) : Int) := by
  unfold or64
  have e1 : BitVec.ofInt (IntKind.bits .i64) (a : Int) = BitVec.ofNat 64 a := BitVec.ofInt_natCast 64 a
  have e2 : BitVec.ofInt (IntKind.bits .i64) (b : Int) = BitVec.ofNat 64 b := BitVec.ofInt_natCast 64 b
  have ho : a ||| b < 2 ^ 62 := Nat.or_lt_two_pow ha hb
  have h1 : (BitVec.ofInt (IntKind.bits .i64) (a : Int) ||| BitVec.ofInt (IntKind.bits .i64) (b : Int)).toNat = a ||| b := by
    rw [e1, e2]
    refine (BitVec.toNat_or (BitVec.ofNat 64 a) (BitVec.ofNat 64 b)).trans ?_
    rw [BitVec.toNat_ofNat, BitVec.toNat_ofNat, Nat.mod_eq_of_lt (by omega), Nat.mod_eq_of_lt (by omega)]
  rw [h1]
  exact wrap_small (by omega) (by omega)
def shl64 (a b : Int) : Int := IntKind.wrap .i64 (a * 2 ^ (min b.toNat (IntKind.bits .i64)))
theorem shl64_one {i : Int} (h1 : 0 ≤ i) (h2 : i < 62) : shl64 1 i = ((2 ^ i.toNat : Nat) : Int) := by
  unfold shl64
  rw [show min i.toNat (IntKind.bits .i64) = i.toNat from Nat.min_eq_left (by show i.toNat ≤ 64; omega), Int.one_mul]
  have : 2 ^ i.toNat < 2 ^ 62 := Nat.pow_lt_pow_right (by decide) (by omega)
  have e : ((2 : Int) ^ i.toNat) = ((2 ^ i.toNat : Nat) : Int) := by simp
  rw [e]
  generalize 2 ^ i.toNat = m at *
  exact wrap_small (by omega) (by omega)
def shr64 (a b : Int) : Int := a.fdiv (2 ^ (min b.toNat (IntKind.bits .i64)))
theorem shr64_nat (a k : Nat) (hk : k ≤ 64) : shr64 a k = ((a >>> k : Nat) : Int) := by
  unfold shr64
  rw [show min ((k : Int)).toNat (IntKind.bits .i64) = k from Nat.min_eq_left hk, Nat.shiftRight_eq_div_pow]
  rw [show ((2 : Int) ^ k) = ((2 ^ k : Nat) : Int) by simp, Int.fdiv_eq_ediv_of_nonneg _ (Int.natCast_nonneg _)]
  rfl
/-- The modal depth. -/
def dstep (d : List Int) (x : Nd) : Int :=
  let a := bif usesX x.op then d.getD x.x.toNat 0 else 0
  let b := bif usesY x.op then max a (d.getD x.y.toNat 0) else a
  bif decide (9 ≤ x.op) && decide (x.op ≤ 15) || decide (18 ≤ x.op) then b + 1 else b
def depths (c : List Nd) : List Int := c.foldl (fun d x => d ++ [dstep d x]) []
def depth (f : List Nd) : Int := ((depths (comp f)).getLast?).getD (-1)
end Go.Proofs.Ytnbnkgcjgfmlcaa
