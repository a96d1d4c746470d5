/- Parts of the proof, one after the other: Action models: their values; errors, relations and models of usual messages (plain). Messages: errors and perceptions of the program walked. Messages: the action model with given preconditions and perceptions, of the program, walked. Messages: Suspected, Private, Semi, Secret and Toss of the program walked. Messages: Change of the program walked; Public and Skip of action models. Messages: Look of the program walked. Messages: errors, relations and Suspected, Private, Semi, Change, Secret, Toss of the reference walked. Messages: the comparisons of action models with themselves, walked. Messages: the examples of the laws walked. Action models: errors (plain). Action models: Check of the program walked. Action models: the conditions of the logics, of the program, walked. Action models: Group, Meet and Value of the program walked. Action models: what can be reached from an event (plain). Action models: Generated of the program walked. -/
import Derived.Test.YtkjjoalphllolaaM5
set_option maxRecDepth 100000
namespace Go.Proofs.Ytkjjoalphllolaa
open Go Go.Dv

structure Asg where
  fact : Int
  to : List Nd
structure Act where
  pre : List (List Nd)
  post : List (List Asg)
  rel : List (List Nat)
def Asg.pv (a : Asg) : PV := .agg [.int .i64 a.fact, fpv a.to]
def rowPV (r : List Nat) : PV := .sl (r.map u64)
def postPV (l : List Asg) : PV := .sl (l.map Asg.pv)
def Act.pv (a : Act) : PV := .agg [.sl (a.pre.map fpv), .sl (a.post.map postPV), .sl (a.rel.map rowPV)]
def noAct : Act := ⟨[], [], []⟩
def pairA (x : Act × Int) : PV := .tup [x.1.pv, .int .i64 x.2]

/-! lists in which a nil slice stands for an empty one -/
theorem PLe.sls {l l' : List PV} (h : PLes l l') : PLe (.sl l) (.sl l') := by
  have h1 : ∀ {l l' : List PV}, PLes l l' → l.length = l'.length ∧ ∀ (i : Nat) p q, l[i]? = some p → l'[i]? = some q → PLe p q := by
    intro l
    induction l with
    | nil => intro l' h; cases l' with
      | nil => exact ⟨rfl, fun i p q hp => by simp at hp⟩
      | cons => exact h.elim
    | cons a r ih => intro l' h; cases l' with
      | nil => exact h.elim
      | cons b s =>
        obtain ⟨e, k⟩ := ih h.2
        refine ⟨by simp [e], fun i p q hp hq => ?_⟩
        cases i with
        | zero => simp at hp hq; subst hp; subst hq; exact h.1
        | succ i => exact k i p q (by simpa using hp) (by simpa using hq)
  exact .sl _ _ (h1 h).1 (h1 h).2
theorem PLe.aggs {l l' : List PV} (h : PLes l l') : PLe (.agg l) (.agg l') := by
  have := PLe.sls h
  cases this with
  | refl => exact .refl _
  | sl _ _ h1 h2 => exact .agg _ _ h1 h2
theorem PLe.tups {l l' : List PV} (h : PLes l l') : PLe (.tup l) (.tup l') := by
  have := PLe.sls h
  cases this with
  | refl => exact .refl _
  | sl _ _ h1 h2 => exact .tup _ _ h1 h2
theorem le_noAct (e : Int) : PLe (.tup [.agg [.nil, .nil, .nil], .int .i64 e]) (pairA (noAct, e)) := PLe.tups ⟨PLe.aggs ⟨.nil, .nil, .nil, trivial⟩, .refl _, trivial⟩

/-! errors -/
def nand64' (a b : Int) : Int := IntKind.wrap .i64 ((BitVec.ofInt (IntKind.bits .i64) a &&& ~~~BitVec.ofInt (IntKind.bits .i64) b).toNat : Int)
def statI (ag : Int) (n : Int) (f : List Nd) : Int := bif check f != 0 then check f else bif nand64' (frags f : Nat) 15 != 0 then 10 else bif !fits f ag n then 2 else 0
def badAg (ag : Int) : Bool := bif decide (ag < 0) then true else decide (ag > 4)
def badG (ag g : Int) : Bool := bif decide (g < 0) then true else decide (g ≥ shl64 1 ag)
def badF (fact : Int) : Bool := bif decide (fact < 0) then true else decide (fact ≥ 8)
def errI (ag fact : Int) (gs : List Int) (f : List Nd) : Int := bif badAg ag then 2 else bif gs.any (badG ag) then 1 else bif badF fact then 2 else statI ag 8 f
theorem badAg_no {ag : Int} (h : badAg ag = false) : ∃ n : Nat, ag = n ∧ n ≤ 4 := by
  unfold badAg at h
  by_cases h1 : ag < 0
  · rw [decide_eq_true h1] at h; cases h
  · by_cases h2 : ag > 4
    · rw [decide_eq_false h1, decide_eq_true h2] at h; cases h
    · exact ⟨ag.toNat, by omega, by omega⟩
theorem statI_ok {ag n : Int} {f : List Nd} (h : statI ag n f = 0) : check f = 0 ∧ nand64' (frags f : Nat) 15 = 0 ∧ fits f ag n = true := by
  unfold statI at h
  cases h1 : (check f != 0) with
  | true => rw [h1] at h; simp only [cond_true] at h; rw [h] at h1; cases h1
  | false =>
    rw [h1] at h
    cases h2 : (nand64' (frags f : Nat) 15 != 0) with
    | true => rw [h2] at h; cases h
    | false =>
      rw [h2] at h
      cases h3 : fits f ag n with
      | false => rw [h3] at h; cases h
      | true => exact ⟨by simpa using h1, by simpa using h2, rfl⟩
theorem errI_ok {ag fact : Int} {gs : List Int} {f : List Nd} (h : errI ag fact gs f = 0) : badAg ag = false ∧ gs.any (badG ag) = false ∧ badF fact = false ∧ statI ag 8 f = 0 := by
  unfold errI at h
  cases h1 : badAg ag with
  | true => rw [h1] at h; cases h
  | false =>
    rw [h1] at h
    cases h2 : gs.any (badG ag) with
    | true => rw [h2] at h; cases h
    | false =>
      rw [h2] at h
      cases h3 : badF fact with
      | true => rw [h3] at h; cases h
      | false => rw [h3] at h; exact ⟨rfl, rfl, rfl, h⟩

/-! relations -/
def rcell (n e : Nat) (c : Int) : Nat := bif c == 0 then 2 ^ e else bif c == 1 then 2 ^ n - 1 else 2 ^ (n - 1)
def relOf (ag n : Nat) (pc : Nat → Int) : List (List Nat) := (List.range ag).map fun a => (List.range n).map fun e => rcell n e (pc a)
/-- A row of which the first e values are there. -/
def rowH (n : Nat) (c : Int) (e : Nat) : List PV := (List.range n).map fun j => u64 (bif decide (j < e) then rcell n j c else 0)
theorem rowH_len (n : Nat) (c : Int) (e : Nat) : (rowH n c e).length = n := by simp [rowH]
theorem rowH_zero (n : Nat) (c : Int) : rowH n c 0 = List.replicate n (u64 0) := by
  apply List.ext_getElem (by simp [rowH])
  intro i h1 h2
  simp [rowH]
theorem rowH_get {n : Nat} {c : Int} {e : Nat} (h : e < n) : (rowH n c e)[e]? = some (u64 0) := by
  simp [rowH, List.getElem?_map, List.getElem?_range h]
theorem rowH_set {n : Nat} {c : Int} {e : Nat} : (rowH n c e).set e (u64 (rcell n e c)) = rowH n c (e + 1) := by
  apply List.ext_getElem?
  intro i
  rw [List.getElem?_set]
  by_cases hi : i < n
  · simp only [rowH, List.getElem?_map, List.getElem?_range hi, List.length_map, List.length_range, Option.map_some]
    by_cases he : e = i
    · subst he; simp [hi]
    · have : decide (i < e + 1) = decide (i < e) := by
        by_cases q : i < e
        · simp [q, Nat.lt_succ_of_lt q]
        · have : ¬ i < e + 1 := by omega
          simp [q, this]
      simp [he, this]
  · have h1 : (rowH n c e)[i]? = none := List.getElem?_eq_none (by rw [rowH_len]; omega)
    have h2 : (rowH n c (e + 1))[i]? = none := List.getElem?_eq_none (by rw [rowH_len]; omega)
    rw [h1, h2]
    split
    · split
      · rename_i h3 h4; rw [rowH_len] at h4; omega
      · rfl
    · rfl
theorem rowH_full (n : Nat) (c : Int) : PV.sl (rowH n c n) = rowPV ((List.range n).map fun e => rcell n e c) := by
  rw [rowPV, List.map_map, rowH]
  congr 1
  apply List.map_congr_left
  intro j hj
  rw [decide_eq_true (List.mem_range.1 hj)]; rfl
def rowsH (n : Nat) (pc : Nat → Int) (i : Nat) : List PV := (List.range i).map fun a => PV.sl (rowH n (pc a) n)
theorem rowsH_succ (n : Nat) (pc : Nat → Int) (i : Nat) : rowsH n pc (i + 1) = rowsH n pc i ++ [PV.sl (rowH n (pc i) n)] := by simp [rowsH, List.range_succ]
theorem rowsH_len (n : Nat) (pc : Nat → Int) (i : Nat) : (rowsH n pc i).length = i := by simp [rowsH]
theorem rowsH_full (n : Nat) (pc : Nat → Int) (ag : Nat) : rowsH n pc ag = (relOf ag n pc).map rowPV := by
  rw [relOf, List.map_map, rowsH]
  apply List.map_congr_left
  intro a _
  exact rowH_full n (pc a)
/-! how the agents perceive the events -/
def pcB (g o : Int) (a : Nat) : Int := bif and64 (shr64 g a) 1 == 1 then 0 else o
def pcA (to who : Int) (a : Nat) : Int := bif (bif and64 (shr64 to a) 1 == 0 then and64 (shr64 who a) 1 == 1 else false) then 1 else pcB to 2 a

/-! the messages -/
def suspI (ag to who : Int) (f : List Nd) : Act × Int :=
  bif errI ag 0 [to, who] f != 0 then (noAct, errI ag 0 [to, who] f) else (⟨[comp f, buildL (n0 1) []], [[], []], relOf ag.toNat 2 (pcA to who)⟩, 0)
def semiI (ag to : Int) (f : List Nd) : Act × Int :=
  bif errI ag 0 [to] f != 0 then (noAct, errI ag 0 [to] f) else bif ((buildL (n0 4) [f]).length : Int) == 0 then (noAct, 8) else (⟨[comp f, buildL (n0 4) [f]], [[], []], relOf ag.toNat 2 (pcB to 1)⟩, 0)
def tossI (ag to fact : Int) : Act × Int :=
  bif errI ag fact [to] (buildL (n0 1) []) != 0 then (noAct, errI ag fact [to] (buildL (n0 1) []))
  else (⟨[buildL (n0 1) [], buildL (n0 1) []], [[⟨fact, buildL (n0 1) []⟩], [⟨fact, buildL (n0 2) []⟩]], relOf ag.toNat 2 (pcB to 1)⟩, 0)
end Go.Proofs.Ytkjjoalphllolaa
set_option maxRecDepth 100000
set_option maxHeartbeats 4000000
namespace Go.Proofs.Ytkjjoalphllolaa
open Go Go.Dv

theorem any_take {α : Type} {p : α → Bool} {l : List α} {i : Nat} (hi : i < l.length) (h : (l.take i).any p = false) (h2 : p l[i] = false) : (l.take (i + 1)).any p = false := by
  rw [List.take_succ_eq_append_getElem hi, List.any_append, h]; simp [h2]
theorem any_at {α : Type} {p : α → Bool} {l : List α} {i : Nat} (hi : i < l.length) (h2 : p l[i] = true) : l.any p = true := List.any_eq_true.2 ⟨l[i], List.getElem_mem hi, h2⟩
theorem ms_errors (ag fact : Int) (gs : List Int) (f : List Nd) (hl : gs.length ≤ 10) : PureFn Try.prog 31 [.int .i64 ag, .int .i64 fact, .sl (gs.map (PV.int .i64)), fpv f] (.int .i64 (errI ag fact gs f)) := by
  refine PureFn.intro mixed (fn := Try.f31) rfl rfl rfl fun M w0 => ?_
  (try conv=>whnf);repeat' (first|(apply And.intro<;>try conv=>whnf)|(intro h;try conv=>whnf)|apply True.intro|(apply WhenQ.mk;(try conv=>whnf);rotate_left;(try conv=>whnf);rotate_right)|with_reducible assumption|(apply not_of;with_reducible assumption)|fail)
  · refine le_int ?_
    have e : badAg ag = true := h
    rw [errI, e]; rfl
  have e0 : badAg ag = false := h
  obtain ⟨n, rfl, hn⟩ := badAg_no e0
  refine ⟨{ i : Nat // i ≤ gs.length ∧ (gs.take i).any (badG n) = false }, fun i => [(0, .pv (i64 n)), (1, .pv (.int .i64 fact)), (3, .pv (fpv f)), (18, .pv (.sl (gs.map (PV.int .i64)))), (19, .pv (i64 (gs.map (PV.int .i64)).length)), (20, .pv (i64 i.1))], fun _ => 0, fun _ => [], fun i => gs.length - i.1, ⟨⟨0, Nat.zero_le _, rfl⟩, (by refine Wk.of ?_ ?_ rfl rfl rfl<;>repeat' (first|exact trivial|exact WkD.same _|refine ⟨?_, ?_⟩|fail))⟩, ?_⟩
  rintro ⟨i, hi, ha⟩
  (try conv=>whnf);repeat' (first|(apply And.intro<;>try conv=>whnf)|(intro h;try conv=>whnf)|apply True.intro|(apply infoT;rfl)|(apply WhenQ.mk;(try conv=>whnf);rotate_left;(try conv=>whnf);rotate_right)|with_reducible assumption|(apply not_of;with_reducible assumption)|(refine PureFn.dcq (f := 53) rfl ?_;try conv=>whnf)|(refine PureFn.dcq (f := 5) rfl ?_;try conv=>whnf)|(refine PureFn.dcq (f := 55) rfl ?_;try conv=>whnf)|(refine ⟨_, _, fm_Check ?_, ?_, ?_⟩;rotate_left 1;(focus first|(refine ⟨?_, trivial⟩<;>first|exact PLe.refl _|exact PLe.nil)|exact trivial);try conv=>whnf)|(refine ⟨_, _, fm_Frags ?_, ?_, ?_⟩;rotate_left 1;(focus first|(refine ⟨?_, trivial⟩<;>first|exact PLe.refl _|exact PLe.nil)|exact trivial);try conv=>whnf)|(refine ⟨_, _, fm_Fits ?_ ?_ ?_, ?_, ?_⟩;rotate_left 3;(focus first|(refine ⟨?_, ?_, ?_, trivial⟩<;>first|exact PLe.refl _|exact PLe.nil)|exact trivial);try conv=>whnf)|fail)
  · have hi' : i < gs.length := by simpa using lt_dec h
    have hn2 : gs[i]? = some gs[i] := List.getElem?_eq_getElem hi'
    refine ⟨_, _, rfl, idx_map hn2, rfl, ?_⟩
    (try conv=>whnf);repeat' (first|(apply And.intro<;>try conv=>whnf)|(intro h;try conv=>whnf)|apply True.intro|(apply WhenQ.mk;(try conv=>whnf);rotate_left;(try conv=>whnf);rotate_right)|with_reducible assumption|(apply not_of;with_reducible assumption)|fail)
    · exact Int.natCast_nonneg _
    · have e1 : badG n gs[i] = true := h
      refine le_int ?_
      rw [errI, e0, any_at hi' e1]; rfl
    · have e1 : badG n gs[i] = false := h
      exact ⟨⟨i + 1, hi', any_take hi' ha e1⟩, by show gs.length - (i + 1) < gs.length - i; omega, (by refine Wk.of ?_ ?_ rfl rfl rfl<;>repeat' (first|exact trivial|exact WkD.same _|refine WkD.int ?_|refine ⟨?_, ?_⟩|(refine wrapA ?_ ?_ ?_;(focus simp;done);(focus (try dsimp only);omega);(focus (try dsimp only);omega))|fail))⟩
  all_goals
    have ha' : gs.any (badG n) = false := by
      have hi' : i = gs.length := by
        have := ge_dec (i := i) (m := (gs.map (PV.int .i64)).length) (by assumption) (by simpa using hi)
        simpa using this
      subst hi'
      rwa [List.take_length] at ha
  · have e1 : badF fact = true := h
    refine le_int ?_
    rw [errI, e0, ha', e1]; rfl
  · rename_i h1
    have e1 : badF fact = false := h1
    refine le_int ?_
    rw [errI, e0, ha', e1, statI, h]; rfl
  · rename_i h2 h1
    have e1 : badF fact = false := h2
    refine le_int ?_
    rw [errI, e0, ha', e1, statI, h1, show (nand64' (frags f : Nat) 15 != 0) = true from h]; rfl
  · rename_i h3 h2 h1
    have e1 : badF fact = false := h3
    refine le_int ?_
    rw [errI, e0, ha', e1, statI, h2, show (nand64' (frags f : Nat) 15 != 0) = false from h1, h]; rfl
  · rename_i h3 h2 h1
    have e1 : badF fact = false := h3
    refine le_int ?_
    rw [errI, e0, ha', e1, statI, h2, show (nand64' (frags f : Nat) 15 != 0) = false from h1, h]; rfl
theorem ms_in {M : Nat → Prop} {w0 : W0} (g o : Int) (L : DH) (K : DV → DH → Prop) (hK : K (.clo 57 [] [.ref L.next 0, .ref (L.next + 1) 0]) ((L.push (.var [.pv (.int .i64 g)])).push (.var [.pv (.int .i64 o)]))) :
    DC Try.prog M w0 34 [.pv (.int .i64 g), .pv (.int .i64 o)] L K := by
  refine DC.intro mixed (fn := Try.f34) rfl rfl rfl ?_
  try conv=>whnf
  exact hK
def HB (g o : Int) : List (Nat × DObj) := [(0, .var [.pv .nil, .pv .nil, .pv .nil]), (1, .var [.pv (.int .i64 g)]), (2, .var [.pv (.int .i64 o)])]
def HA (to who : Int) : List (Nat × DObj) := [(0, .var [.pv (.int .i64 to)]), (1, .var [.pv (.int .i64 who)]), (2, .var [.pv .nil, .pv .nil, .pv .nil]), (3, .var [.pv (.int .i64 to)]), (4, .var [.pv (.int .i64 2)]), (5, .var [.clo 57 [] [.ref 3 0, .ref 4 0]])]
theorem in1_B {M : Nat → Prop} {w0 : W0} (a : Nat) (g o : Int) (base : Nat) (K : DV → DH → Prop) (hK : K (.pv (.int .i64 (pcB g o a))) ⟨3, 0, base, objsOf (HB g o)⟩) :
    DC Try.prog M w0 57 [.pv (.int .i64 (a : Int)), .ref 1 0, .ref 2 0] ⟨3, 0, base, objsOf (HB g o)⟩ K := by
  refine DC.intro mixed (fn := Try.f57) rfl rfl rfl ?_
  (try conv=>whnf);repeat' (first|(apply And.intro<;>try conv=>whnf)|(intro h;try conv=>whnf)|fail)
  all_goals first | exact Int.natCast_nonneg _ | skip
  · rw [pcB, show (and64 (shr64 g a) 1 == 1) = true from h] at hK; exact hK
  · rw [pcB, show (and64 (shr64 g a) 1 == 1) = false from h] at hK; exact hK
theorem in1_A {M : Nat → Prop} {w0 : W0} (a : Nat) (g o : Int) (base : Nat) (K : DV → DH → Prop) (hK : K (.pv (.int .i64 (pcB g 2 a))) ⟨6, 0, base, objsOf (HA g o)⟩) :
    DC Try.prog M w0 57 [.pv (.int .i64 (a : Int)), .ref 3 0, .ref 4 0] ⟨6, 0, base, objsOf (HA g o)⟩ K := by
  refine DC.intro mixed (fn := Try.f57) rfl rfl rfl ?_
  (try conv=>whnf);repeat' (first|(apply And.intro<;>try conv=>whnf)|(intro h;try conv=>whnf)|fail)
  all_goals first | exact Int.natCast_nonneg _ | skip
  · rw [pcB, show (and64 (shr64 g a) 1 == 1) = true from h] at hK; exact hK
  · rw [pcB, show (and64 (shr64 g a) 1 == 1) = false from h] at hK; exact hK
theorem sus1 {M : Nat → Prop} {w0 : W0} (a : Nat) (g o : Int) (base : Nat) (K : DV → DH → Prop) (hK : K (.pv (.int .i64 (pcA g o a))) ⟨6, 0, base, objsOf (HA g o)⟩) :
    DC Try.prog M w0 52 [.pv (.int .i64 (a : Int)), .ref 0 0, .ref 1 0, .ref 5 0] ⟨6, 0, base, objsOf (HA g o)⟩ K := by
  refine DC.weaken (DC.intro mixed (fn := Try.f52) rfl rfl rfl ?_)
  (try conv=>whnf);repeat' (first|(apply And.intro<;>try conv=>whnf)|(intro h;try conv=>whnf)|apply True.intro|(apply WhenQ.mk;(try conv=>whnf);rotate_left;(try conv=>whnf);rotate_right)|with_reducible assumption|fail)
  all_goals first | exact Int.natCast_nonneg _ | skip
  · rw [pcA, show (bif and64 (shr64 g a) 1 == 0 then and64 (shr64 o a) 1 == 1 else false) = true from h] at hK
    exact ⟨.pv (.int .i64 1), 6, HA g o, (by refine Wk.of ?_ ?_ rfl rfl rfl<;>repeat' (first|exact trivial|exact WkD.same _|exact WkO.same _ _ rfl|refine ⟨?_, ?_⟩|fail)), hK⟩
  · rw [pcA, show (bif and64 (shr64 g a) 1 == 0 then and64 (shr64 o a) 1 == 1 else false) = false from h] at hK
    refine DC.call 6 (HA g o) ⟨rfl, rfl, rfl, rfl, rfl, rfl, trivial⟩ rfl rfl rfl rfl fun M' => ?_
    refine in1_A a g o 6 _ ⟨rfl, ?_⟩
    try conv=>whnf
    exact ⟨.pv (.int .i64 (pcB g 2 a)), 6, HA g o, (by refine Wk.of ?_ ?_ rfl rfl rfl<;>repeat' (first|exact trivial|exact WkD.same _|exact WkO.same _ _ rfl|refine ⟨?_, ?_⟩|fail)), hK⟩
end Go.Proofs.Ytkjjoalphllolaa
set_option maxRecDepth 100000
set_option maxHeartbeats 4000000
namespace Go.Proofs.Ytkjjoalphllolaa
open Go Go.Dv

theorem buf_len {k n m : Nat} (h : n = m) {L : DH} {H : List (Nat × DObj)} : WkD L H (.buf k n) (.buf k m) := WkD.eq (congrArg (DV.buf k) h)
theorem shlU_nat {e : Nat} (h : e < 63) : shlU 1 (e : Int) = ((2 ^ e : Nat) : Int) := shlU_one (by omega)
theorem cell0 {n e : Nat} {c : Int} (he : e < 63) (h : (c == 0) = true) : PV.int .u64 (shlU 1 (e : Int)) = u64 (rcell n e c) := by
  rw [shlU_nat he, rcell, h]; rfl
theorem cell1 {n e : Nat} {c : Int} (hn : n < 63) (h0 : (c == 0) = false) (h : (c == 1) = true) : PV.int .u64 (IntKind.wrap .u64 (shlU 1 (n : Int) - 1)) = u64 (rcell n e c) := by
  have h1 : 2 ^ n < 2 ^ 63 := Nat.pow_lt_pow_right (by decide) hn
  have h2 : 1 ≤ 2 ^ n := Nat.one_le_two_pow
  rw [shlU_nat hn, rcell, h0, h, wrapU (by omega) (by omega)]
  show PV.int .u64 _ = PV.int .u64 ((2 ^ n - 1 : Nat) : Int)
  congr 1; omega
theorem cell2 {n e : Nat} {c : Int} (h1 : 1 ≤ n) (hn : n < 63) (h0 : (c == 0) = false) (h : (c == 1) = false) : PV.int .u64 (shlU 1 (IntKind.wrap .i64 ((n : Int) - 1))) = u64 (rcell n e c) := by
  rw [wrap_small (by omega) (by omega), show (n : Int) - 1 = ((n - 1 : Nat) : Int) by omega, shlU_nat (by omega), rcell, h0, h]; rfl
theorem row_next {n e : Nat} {c : Int} {p : PV} (h : p = u64 (rcell n e c)) : (rowH n c e).set e p = rowH n c (e + 1) := by rw [h]; exact rowH_set
theorem row_new (n : Nat) (c : Int) : List.replicate n (PV.int .u64 0) = rowH n c 0 := (rowH_zero n c).symm
theorem pre_len (pre : List (List Nd)) : ((pre.map fpv).length : Int) = (pre.length : Int) := by simp
theorem rep_len (pre : List (List Nd)) : List.replicate (Int.toNat ((pre.map fpv).length : Int)) PV.nil = List.replicate pre.length PV.nil := by simp
theorem le_big {a : Int} (h : a ≤ 255) : a ≤ ((big : Nat) : Int) := by show a ≤ 4294967296; omega
theorem model_B {M : Nat → Prop} {w0 : W0} (ag : Nat) (pre : List (List Nd)) (g o : Int) (hag : ag ≤ 4) (h1 : 1 ≤ pre.length) (h8 : pre.length ≤ 8) (base : Nat) (K : DV → DH → Prop)
    (hK : K (.agg [.pv (.sl (pre.map fpv)), .buf 4 (List.replicate pre.length PV.nil).length, .pv (.sl ((relOf ag pre.length (pcB g o)).map rowPV))]) ⟨7, 0, base, objsOf (HB g o ++ [(4, .arr 1 (List.replicate pre.length .nil))])⟩) :
    DC Try.prog M w0 32 [.pv (.int .i64 (ag : Int)), .pv (.sl (pre.map fpv)), .clo 57 [] [.ref 1 0, .ref 2 0]] ⟨3, 0, base, objsOf (HB g o)⟩ K := by
  refine DC.weaken (DC.introC [19] mixed (fn := Try.f32) rfl rfl rfl ?_)
  obtain ⟨n, qn⟩ : ∃ n, n = pre.length := ⟨_, rfl⟩
  have epl := pre_len pre
  have erl := rep_len pre
  rw [← qn] at h1 h8 hK epl erl
  (try conv=>whnf);repeat' (first|(apply And.intro<;>try conv=>whnf)|(apply Or.inl;try conv=>whnf)|fail)
  · rfl
  · exact Int.natCast_nonneg _
  · exact le_big (by omega)
  refine ⟨Unit, fun _ => [(6, .ref 3 0), (8, .ref 5 0)], fun _ => 7, fun _ => HB g o ++ [(3, .var [.pv .nil, .pv .nil, .pv .nil]), (4, .arr 1 (List.replicate n .nil)), (5, .var [.pv (.sl (pre.map fpv)), .buf 4 (List.replicate n PV.nil).length, .pv (.sl (rowsH n (pcB g o) ag))])], ?_, ?_⟩
  · try conv=>whnf
    refine ⟨{ i : Nat // i ≤ ag }, fun i => [(2, .clo 57 [] [.ref 1 0, .ref 2 0]), (6, .ref 3 0), (7, .pv (i64 n)), (8, .ref 5 0), (18, .pv (i64 ag)), (19, .pv (i64 i.1))], fun _ => 7, fun i => HB g o ++ [(3, .var [.pv .nil, .pv .nil, .pv .nil]), (4, .arr 1 (List.replicate n .nil)), (5, .var [.pv (.sl (pre.map fpv)), .buf 4 (List.replicate n PV.nil).length, .buf 6 (rowsH n (pcB g o) i.1).length]), (6, .arr 1 (rowsH n (pcB g o) i.1))], fun i => ag - i.1, ⟨⟨0, Nat.zero_le _⟩, ?_⟩, ?_⟩
    · (refine Wk.of ?_ ?_ rfl rfl rfl<;>repeat' (first|exact trivial|exact WkD.same _|exact WkO.same _ _ rfl|exact WkD.eq (congrArg (fun z : List PV => DV.buf _ z.length) erl)|exact WkO.same _ _ (congrArg (fun z => some (DObj.arr _ z)) erl)|refine WkD.int ?_|exact WkD.new' rfl rfl rfl|exact WkO.new _ _ rfl|refine WkO.vars rfl ?_|exact rfl|refine ⟨?_, ?_⟩|fail))
      exact epl
    rintro ⟨i, hi⟩
    (try conv=>whnf);repeat' (first|(apply And.intro<;>try conv=>whnf)|(intro h;try conv=>whnf)|(apply Or.inl;try conv=>whnf)|fail)
    · rfl
    · exact Int.natCast_nonneg _
    · exact le_big (by omega)
    · have hi' : i < ag := lt_dec h
      obtain ⟨c, qc⟩ : ∃ c, c = pcB g o i := ⟨_, rfl⟩
      refine ⟨{ e : Nat // e ≤ n }, fun e => [(2, .clo 57 [] [.ref 1 0, .ref 2 0]), (6, .ref 3 0), (7, .pv (i64 n)), (8, .ref 5 0), (9, .pv (i64 i)), (10, .buf 7 (rowH n c e.1).length), (18, .pv (i64 ag)), (19, .pv (i64 i)), (25, .pv (i64 n)), (26, .pv (i64 e.1))], fun _ => 8, fun e => HB g o ++ [(3, .var [.pv .nil, .pv .nil, .pv .nil]), (4, .arr 1 (List.replicate n .nil)), (5, .var [.pv (.sl (pre.map fpv)), .buf 4 (List.replicate n PV.nil).length, .buf 6 (rowsH n (pcB g o) i).length]), (6, .arr 1 (rowsH n (pcB g o) i)), (7, .arr 1 (rowH n c e.1))], fun e => n - e.1, ⟨⟨0, Nat.zero_le _⟩, ?_⟩, ?_⟩
      · have er0 := row_new n c
        (refine Wk.of ?_ ?_ rfl rfl rfl<;>repeat' (first|exact trivial|exact WkD.same _|exact WkO.same _ _ rfl|exact WkD.eq (congrArg (fun z : List PV => DV.buf _ z.length) er0)|exact WkO.same _ _ (congrArg (fun z => some (DObj.arr _ z)) er0)|refine WkD.int ?_|refine ⟨?_, ?_⟩|fail))
        exact congrArg (fun z : Nat => (z : Int)) List.length_replicate
      rintro ⟨e, he⟩
      have hget : e < n → (rowH n c e)[e]? = some (u64 0) := fun h => rowH_get h
      have hlen : (rowH n c e).length = n := rowH_len n c e
      (try conv=>whnf);repeat' (first|(apply And.intro<;>try conv=>whnf)|(intro h;try conv=>whnf)|(apply bleI;rfl)|(apply cellsI;rfl)|(apply szI;rfl)|(apply Or.inl;try conv=>whnf)|fail)
      · have he' : e < n := lt_dec h
        replace hget := hget he'
        have hlt : e < (rowH n c e).length := by rw [hlen]; exact he'
        refine DC.call 3 (HB g o) ⟨rfl, rfl, rfl, trivial⟩ rfl rfl rfl rfl fun M' => ?_
        refine in1_B i g o 3 _ ⟨rfl, ?_⟩
        rw [← qc]
        (try conv=>whnf);repeat' (first|(apply And.intro<;>try conv=>whnf)|(intro h;try conv=>whnf)|fail)
        · exact Int.natCast_nonneg _
        · refine ⟨e, rfl, hlt, ?_⟩
          (try conv=>whnf);repeat' (first|(apply And.intro<;>try conv=>whnf)|exact Nat.le_refl 1|(apply ex2;(focus with_reducible assumption);try conv=>whnf)|fail)
          have er := row_next (cell0 (n := n) (e := e) (by omega) h)
          refine ⟨⟨e + 1, he'⟩, by show n - (e + 1) < n - e; omega, ?_⟩
          (refine Wk.of ?_ ?_ rfl rfl rfl<;>repeat' (first|exact trivial|exact WkD.same _|exact WkO.same _ _ rfl|exact WkO.same _ _ (congrArg (fun z => some (DObj.arr _ z)) er)|refine WkD.int ?_|refine ⟨?_, ?_⟩|(refine wrapA ?_ ?_ ?_;(focus simp;done);(focus (try dsimp only);omega);(focus (try dsimp only);omega))|fail))
          exact buf_len ((rowH_len _ _ _).trans (rowH_len _ _ _).symm)
        · exact Int.natCast_nonneg _
        · rename_i h0
          refine ⟨e, rfl, hlt, ?_⟩
          (try conv=>whnf);repeat' (first|(apply And.intro<;>try conv=>whnf)|exact Nat.le_refl 1|(apply ex2;(focus with_reducible assumption);try conv=>whnf)|fail)
          have er := row_next (cell1 (n := n) (e := e) (by omega) h0 h)
          refine ⟨⟨e + 1, he'⟩, by show n - (e + 1) < n - e; omega, ?_⟩
          (refine Wk.of ?_ ?_ rfl rfl rfl<;>repeat' (first|exact trivial|exact WkD.same _|exact WkO.same _ _ rfl|exact WkO.same _ _ (congrArg (fun z => some (DObj.arr _ z)) er)|refine WkD.int ?_|refine ⟨?_, ?_⟩|(refine wrapA ?_ ?_ ?_;(focus simp;done);(focus (try dsimp only);omega);(focus (try dsimp only);omega))|fail))
          exact buf_len ((rowH_len _ _ _).trans (rowH_len _ _ _).symm)
        · have : 0 ≤ IntKind.wrap .i64 ((n : Int) - 1) := by rw [wrap_small (by omega) (by omega)]; omega
          exact this
        · rename_i h0
          refine ⟨e, rfl, hlt, ?_⟩
          (try conv=>whnf);repeat' (first|(apply And.intro<;>try conv=>whnf)|exact Nat.le_refl 1|(apply ex2;(focus with_reducible assumption);try conv=>whnf)|fail)
          have er := row_next (cell2 (n := n) (e := e) h1 (by omega) h0 h)
          refine ⟨⟨e + 1, he'⟩, by show n - (e + 1) < n - e; omega, ?_⟩
          (refine Wk.of ?_ ?_ rfl rfl rfl<;>repeat' (first|exact trivial|exact WkD.same _|exact WkO.same _ _ rfl|exact WkO.same _ _ (congrArg (fun z => some (DObj.arr _ z)) er)|refine WkD.int ?_|refine ⟨?_, ?_⟩|(refine wrapA ?_ ?_ ?_;(focus simp;done);(focus (try dsimp only);omega);(focus (try dsimp only);omega))|fail))
          exact buf_len ((rowH_len _ _ _).trans (rowH_len _ _ _).symm)
      · show (rowsH n (pcB g o) i).length + 1 ≤ 4294967296
        rw [rowsH_len]; omega
      · have he' : e = n := ge_dec h he
        subst he'
        have er := (rowsH_succ e (pcB g o) i).symm
        rw [← qc] at er
        refine ⟨⟨i + 1, hi'⟩, by show ag - (i + 1) < ag - i; omega, ?_⟩
        (refine Wk.of ?_ ?_ rfl rfl rfl<;>repeat' (first|exact trivial|exact WkD.same _|exact WkO.same _ _ rfl|exact WkD.eq (congrArg (fun z : List PV => DV.buf _ z.length) er)|exact WkO.same _ _ (congrArg (fun z => some (DObj.arr _ z)) er)|refine WkD.int ?_|refine WkO.vars rfl ?_|refine ⟨?_, ?_⟩|(refine wrapA ?_ ?_ ?_;(focus simp;done);(focus (try dsimp only);omega);(focus (try dsimp only);omega))|fail))
    · have hi' : i = ag := ge_dec h hi
      subst hi'
      exact ⟨(), (by refine Wk.of ?_ ?_ rfl rfl rfl<;>repeat' (first|exact trivial|exact WkD.same _|exact WkO.same _ _ rfl|exact WkD.fz _ _ _ rfl (Or.inl ⟨_, rfl⟩) rfl|refine WkO.vars rfl ?_|refine ⟨?_, ?_⟩|fail))⟩
  rintro ⟨⟩
  try conv=>whnf
  rw [← rowsH_full] at hK
  exact ⟨.agg [.pv (.sl (pre.map fpv)), .buf 4 (List.replicate n PV.nil).length, .pv (.sl (rowsH n (pcB g o) ag))], 7, HB g o ++ [(4, .arr 1 (List.replicate n .nil))], (by refine Wk.of ?_ ?_ rfl rfl rfl<;>repeat' (first|exact trivial|exact WkD.same _|exact WkO.same _ _ rfl|refine ⟨?_, ?_⟩|fail)), hK⟩
theorem model_A {M : Nat → Prop} {w0 : W0} (ag : Nat) (pre : List (List Nd)) (g o : Int) (hag : ag ≤ 4) (h1 : 1 ≤ pre.length) (h8 : pre.length ≤ 8) (base : Nat) (K : DV → DH → Prop)
    (hK : K (.agg [.pv (.sl (pre.map fpv)), .buf 7 (List.replicate pre.length PV.nil).length, .pv (.sl ((relOf ag pre.length (pcA g o)).map rowPV))]) ⟨10, 0, base, objsOf (HA g o ++ [(7, .arr 1 (List.replicate pre.length .nil))])⟩) :
    DC Try.prog M w0 32 [.pv (.int .i64 (ag : Int)), .pv (.sl (pre.map fpv)), .clo 52 [] [.ref 0 0, .ref 1 0, .ref 5 0]] ⟨6, 0, base, objsOf (HA g o)⟩ K := by
  refine DC.weaken (DC.introC [19] mixed (fn := Try.f32) rfl rfl rfl ?_)
  obtain ⟨n, qn⟩ : ∃ n, n = pre.length := ⟨_, rfl⟩
  have epl := pre_len pre
  have erl := rep_len pre
  rw [← qn] at h1 h8 hK epl erl
  (try conv=>whnf);repeat' (first|(apply And.intro<;>try conv=>whnf)|(apply Or.inl;try conv=>whnf)|fail)
  · rfl
  · exact Int.natCast_nonneg _
  · exact le_big (by omega)
  refine ⟨Unit, fun _ => [(6, .ref 6 0), (8, .ref 8 0)], fun _ => 10, fun _ => HA g o ++ [(6, .var [.pv .nil, .pv .nil, .pv .nil]), (7, .arr 1 (List.replicate n .nil)), (8, .var [.pv (.sl (pre.map fpv)), .buf 7 (List.replicate n PV.nil).length, .pv (.sl (rowsH n (pcA g o) ag))])], ?_, ?_⟩
  · try conv=>whnf
    refine ⟨{ i : Nat // i ≤ ag }, fun i => [(2, .clo 52 [] [.ref 0 0, .ref 1 0, .ref 5 0]), (6, .ref 6 0), (7, .pv (i64 n)), (8, .ref 8 0), (18, .pv (i64 ag)), (19, .pv (i64 i.1))], fun _ => 10, fun i => HA g o ++ [(6, .var [.pv .nil, .pv .nil, .pv .nil]), (7, .arr 1 (List.replicate n .nil)), (8, .var [.pv (.sl (pre.map fpv)), .buf 7 (List.replicate n PV.nil).length, .buf 9 (rowsH n (pcA g o) i.1).length]), (9, .arr 1 (rowsH n (pcA g o) i.1))], fun i => ag - i.1, ⟨⟨0, Nat.zero_le _⟩, ?_⟩, ?_⟩
    · (refine Wk.of ?_ ?_ rfl rfl rfl<;>repeat' (first|exact trivial|exact WkD.same _|exact WkO.same _ _ rfl|exact WkD.eq (congrArg (fun z : List PV => DV.buf _ z.length) erl)|exact WkO.same _ _ (congrArg (fun z => some (DObj.arr _ z)) erl)|refine WkD.int ?_|exact WkD.new' rfl rfl rfl|exact WkO.new _ _ rfl|refine WkO.vars rfl ?_|exact rfl|refine ⟨?_, ?_⟩|fail))
      exact epl
    rintro ⟨i, hi⟩
    (try conv=>whnf);repeat' (first|(apply And.intro<;>try conv=>whnf)|(intro h;try conv=>whnf)|(apply Or.inl;try conv=>whnf)|fail)
    · rfl
    · exact Int.natCast_nonneg _
    · exact le_big (by omega)
    · have hi' : i < ag := lt_dec h
      obtain ⟨c, qc⟩ : ∃ c, c = pcA g o i := ⟨_, rfl⟩
      refine ⟨{ e : Nat // e ≤ n }, fun e => [(2, .clo 52 [] [.ref 0 0, .ref 1 0, .ref 5 0]), (6, .ref 6 0), (7, .pv (i64 n)), (8, .ref 8 0), (9, .pv (i64 i)), (10, .buf 10 (rowH n c e.1).length), (18, .pv (i64 ag)), (19, .pv (i64 i)), (25, .pv (i64 n)), (26, .pv (i64 e.1))], fun _ => 11, fun e => HA g o ++ [(6, .var [.pv .nil, .pv .nil, .pv .nil]), (7, .arr 1 (List.replicate n .nil)), (8, .var [.pv (.sl (pre.map fpv)), .buf 7 (List.replicate n PV.nil).length, .buf 9 (rowsH n (pcA g o) i).length]), (9, .arr 1 (rowsH n (pcA g o) i)), (10, .arr 1 (rowH n c e.1))], fun e => n - e.1, ⟨⟨0, Nat.zero_le _⟩, ?_⟩, ?_⟩
      · have er0 := row_new n c
        (refine Wk.of ?_ ?_ rfl rfl rfl<;>repeat' (first|exact trivial|exact WkD.same _|exact WkO.same _ _ rfl|exact WkD.eq (congrArg (fun z : List PV => DV.buf _ z.length) er0)|exact WkO.same _ _ (congrArg (fun z => some (DObj.arr _ z)) er0)|refine WkD.int ?_|refine ⟨?_, ?_⟩|fail))
        exact congrArg (fun z : Nat => (z : Int)) List.length_replicate
      rintro ⟨e, he⟩
      have hget : e < n → (rowH n c e)[e]? = some (u64 0) := fun h => rowH_get h
      have hlen : (rowH n c e).length = n := rowH_len n c e
      (try conv=>whnf);repeat' (first|(apply And.intro<;>try conv=>whnf)|(intro h;try conv=>whnf)|(apply bleI;rfl)|(apply cellsI;rfl)|(apply szI;rfl)|(apply Or.inl;try conv=>whnf)|fail)
      · have he' : e < n := lt_dec h
        replace hget := hget he'
        have hlt : e < (rowH n c e).length := by rw [hlen]; exact he'
        refine DC.call 6 (HA g o) ⟨rfl, rfl, rfl, rfl, rfl, rfl, trivial⟩ rfl rfl rfl rfl fun M' => ?_
        refine sus1 i g o 6 _ ⟨rfl, ?_⟩
        rw [← qc]
        (try conv=>whnf);repeat' (first|(apply And.intro<;>try conv=>whnf)|(intro h;try conv=>whnf)|fail)
        · exact Int.natCast_nonneg _
        · refine ⟨e, rfl, hlt, ?_⟩
          (try conv=>whnf);repeat' (first|(apply And.intro<;>try conv=>whnf)|exact Nat.le_refl 1|(apply ex2;(focus with_reducible assumption);try conv=>whnf)|fail)
          have er := row_next (cell0 (n := n) (e := e) (by omega) h)
          refine ⟨⟨e + 1, he'⟩, by show n - (e + 1) < n - e; omega, ?_⟩
          (refine Wk.of ?_ ?_ rfl rfl rfl<;>repeat' (first|exact trivial|exact WkD.same _|exact WkO.same _ _ rfl|exact WkO.same _ _ (congrArg (fun z => some (DObj.arr _ z)) er)|refine WkD.int ?_|refine ⟨?_, ?_⟩|(refine wrapA ?_ ?_ ?_;(focus simp;done);(focus (try dsimp only);omega);(focus (try dsimp only);omega))|fail))
          exact buf_len ((rowH_len _ _ _).trans (rowH_len _ _ _).symm)
        · exact Int.natCast_nonneg _
        · rename_i h0
          refine ⟨e, rfl, hlt, ?_⟩
          (try conv=>whnf);repeat' (first|(apply And.intro<;>try conv=>whnf)|exact Nat.le_refl 1|(apply ex2;(focus with_reducible assumption);try conv=>whnf)|fail)
          have er := row_next (cell1 (n := n) (e := e) (by omega) h0 h)
          refine ⟨⟨e + 1, he'⟩, by show n - (e + 1) < n - e; omega, ?_⟩
          (refine Wk.of ?_ ?_ rfl rfl rfl<;>repeat' (first|exact trivial|exact WkD.same _|exact WkO.same _ _ rfl|exact WkO.same _ _ (congrArg (fun z => some (DObj.arr _ z)) er)|refine WkD.int ?_|refine ⟨?_, ?_⟩|(refine wrapA ?_ ?_ ?_;(focus simp;done);(focus (try dsimp only);omega);(focus (try dsimp only);omega))|fail))
          exact buf_len ((rowH_len _ _ _).trans (rowH_len _ _ _).symm)
        · have : 0 ≤ IntKind.wrap .i64 ((n : Int) - 1) := by rw [wrap_small (by omega) (by omega)]; omega
          exact this
        · rename_i h0
          refine ⟨e, rfl, hlt, ?_⟩
          (try conv=>whnf);repeat' (first|(apply And.intro<;>try conv=>whnf)|exact Nat.le_refl 1|(apply ex2;(focus with_reducible assumption);try conv=>whnf)|fail)
          have er := row_next (cell2 (n := n) (e := e) h1 (by omega) h0 h)
          refine ⟨⟨e + 1, he'⟩, by show n - (e + 1) < n - e; omega, ?_⟩
          (refine Wk.of ?_ ?_ rfl rfl rfl<;>repeat' (first|exact trivial|exact WkD.same _|exact WkO.same _ _ rfl|exact WkO.same _ _ (congrArg (fun z => some (DObj.arr _ z)) er)|refine WkD.int ?_|refine ⟨?_, ?_⟩|(refine wrapA ?_ ?_ ?_;(focus simp;done);(focus (try dsimp only);omega);(focus (try dsimp only);omega))|fail))
          exact buf_len ((rowH_len _ _ _).trans (rowH_len _ _ _).symm)
      · show (rowsH n (pcA g o) i).length + 1 ≤ 4294967296
        rw [rowsH_len]; omega
      · have he' : e = n := ge_dec h he
        subst he'
        have er := (rowsH_succ e (pcA g o) i).symm
        rw [← qc] at er
        refine ⟨⟨i + 1, hi'⟩, by show ag - (i + 1) < ag - i; omega, ?_⟩
        (refine Wk.of ?_ ?_ rfl rfl rfl<;>repeat' (first|exact trivial|exact WkD.same _|exact WkO.same _ _ rfl|exact WkD.eq (congrArg (fun z : List PV => DV.buf _ z.length) er)|exact WkO.same _ _ (congrArg (fun z => some (DObj.arr _ z)) er)|refine WkD.int ?_|refine WkO.vars rfl ?_|refine ⟨?_, ?_⟩|(refine wrapA ?_ ?_ ?_;(focus simp;done);(focus (try dsimp only);omega);(focus (try dsimp only);omega))|fail))
    · have hi' : i = ag := ge_dec h hi
      subst hi'
      exact ⟨(), (by refine Wk.of ?_ ?_ rfl rfl rfl<;>repeat' (first|exact trivial|exact WkD.same _|exact WkO.same _ _ rfl|exact WkD.fz _ _ _ rfl (Or.inl ⟨_, rfl⟩) rfl|refine WkO.vars rfl ?_|refine ⟨?_, ?_⟩|fail))⟩
  rintro ⟨⟩
  try conv=>whnf
  rw [← rowsH_full] at hK
  exact ⟨.agg [.pv (.sl (pre.map fpv)), .buf 7 (List.replicate n PV.nil).length, .pv (.sl (rowsH n (pcA g o) ag))], 10, HA g o ++ [(7, .arr 1 (List.replicate n .nil))], (by refine Wk.of ?_ ?_ rfl rfl rfl<;>repeat' (first|exact trivial|exact WkD.same _|exact WkO.same _ _ rfl|refine ⟨?_, ?_⟩|fail)), hK⟩
end Go.Proofs.Ytkjjoalphllolaa
set_option maxRecDepth 100000
set_option maxHeartbeats 4000000
namespace Go.Proofs.Ytkjjoalphllolaa
open Go Go.Dv

theorem PLes.reps : ∀ (n : Nat), PLes (List.replicate n PV.nil) (List.replicate n (PV.sl []))
  | 0 => trivial
  | n + 1 => ⟨.nil, PLes.reps n⟩
/-- Nothing is assigned at any event. -/
theorem le_post (n : Nat) : PLe (.sl (List.replicate n PV.nil)) (.sl ((List.replicate n ([] : List Asg)).map postPV)) := by
  rw [List.map_replicate]; exact PLe.sls (PLes.reps n)
theorem pre_nd (f : List Nd) : ((f.map Nd.pv).length : Int) = (f.length : Int) := by simp
theorem ms_Suspected (ag to who : Int) (f : List Nd) : PureFn Try.prog 24 [.int .i64 ag, .int .i64 to, .int .i64 who, fpv f] (pairA (suspI ag to who f)) := by
  refine PureFn.introC [5] mixed (fn := Try.f24) rfl rfl rfl fun M w0 => ?_
  have hE := ms_errors ag 0 [to, who] f (by simp)
  have hC := fm_Compact f
  (try conv=>whnf);repeat' (first|(apply And.intro<;>try conv=>whnf)|(intro h;try conv=>whnf)|(apply cellsI;rfl)|(refine PureFn.dy hE rfl ?_;try conv=>whnf)|(apply Or.inl;try conv=>whnf)|fail)
  · rw [suspI, h]; exact le_noAct _
  obtain ⟨g1, g2, _, _⟩ := errI_ok (ag := ag) (fact := 0) (gs := [to, who]) (f := f) (by simpa using h)
  rw [suspI, h]
  obtain ⟨n, rfl, hn⟩ := badAg_no g1
  refine ⟨Unit, fun _ => [(0, .pv (i64 n)), (3, .pv (fpv f)), (5, .ref 0 0), (6, .ref 1 0), (8, .ref 2 0), (11, .ref 5 0)], fun _ => 6, fun _ => HA to who, ?_, ?_⟩
  · try conv=>whnf
    refine ms_in to 2 _ _ ?_
    try conv=>whnf
    exact ⟨(), (by refine Wk.of ?_ ?_ rfl rfl rfl<;>repeat' (first|exact trivial|exact WkD.same _|exact WkO.same _ _ rfl|refine ⟨?_, ?_⟩|fail))⟩
  rintro ⟨⟩
  (try conv=>whnf);repeat' (first|(apply And.intro<;>try conv=>whnf)|(apply cellsI;rfl)|(refine PureFn.dy hC rfl ?_;try conv=>whnf)|(refine PureFn.dy fm_True rfl ?_;try conv=>whnf)|(apply Or.inl;try conv=>whnf)|fail)
  refine model_A n [comp f, buildL (n0 1) []] to who hn (by simp) (by simp) _ _ ?_
  (try conv=>whnf);repeat' (first|(apply And.intro<;>try conv=>whnf)|(apply bleI;rfl)|fail)
  exact PLe.tups ⟨PLe.aggs ⟨.refl _, le_post 2, .refl _, trivial⟩, .refl _, trivial⟩
theorem ms_Private (ag to : Int) (f : List Nd) : PureFn Try.prog 23 [.int .i64 ag, .int .i64 to, fpv f] (pairA (suspI ag to 0 f)) := by
  refine PureFn.intro mixed (fn := Try.f23) rfl rfl rfl fun M w0 => ?_
  have hS := ms_Suspected ag to 0 f
  generalize suspI ag to 0 f = X at hS
  (try conv=>whnf);repeat' (first|(refine PureFn.dy hS rfl ?_;try conv=>whnf)|fail)
  exact .refl _
/-- A call of 'model' behind a call of 'in'. -/
theorem model_in {M : Nat → Prop} {w0 : W0} (ag : Nat) (pre : List (List Nd)) (g o : Int) (hag : ag ≤ 4) (h1 : 1 ≤ pre.length) (h8 : pre.length ≤ 8) (base : Nat) (hb : base ≤ 3) (K : DV → DH → Prop)
    (hK : K (.agg [.pv (.sl (pre.map fpv)), .buf 4 (List.replicate pre.length PV.nil).length, .pv (.sl ((relOf ag pre.length (pcB g o)).map rowPV))]) ⟨7, 0, base, objsOf (HB g o ++ [(4, .arr 1 (List.replicate pre.length .nil))])⟩) :
    DC Try.prog M w0 32 [.pv (.int .i64 (ag : Int)), .pv (.sl (pre.map fpv)), .clo 57 [] [.ref 1 0, .ref 2 0]]
      ((DH.push ⟨1, 0, base, objsOf [(0, .var [.pv .nil, .pv .nil, .pv .nil])]⟩ (.var [.pv (.int .i64 g)])).push (.var [.pv (.int .i64 o)])) K := by
  refine DC.wkIn (args' := [.pv (.int .i64 (ag : Int)), .pv (.sl (pre.map fpv)), .clo 57 [] [.ref 1 0, .ref 2 0]]) (nx := 3) (Hl := HB g o) (model_B ag pre g o hag h1 h8 base K hK) ?_ (Nat.le_refl 3) ⟨.same _, .same _, .same _, trivial⟩ rfl
  refine Wk.of trivial ⟨.same _ _ rfl, trivial, .same _ _ rfl, trivial, .same _ _ rfl, trivial, trivial⟩ rfl rfl ?_
  show Nat.ble base 3 = true
  simpa using hb
theorem ms_Semi (ag to : Int) (f : List Nd) : PureFn Try.prog 7 [.int .i64 ag, .int .i64 to, fpv f] (pairA (semiI ag to f)) := by
  refine PureFn.introC [7] mixed (fn := Try.f7) rfl rfl rfl fun M w0 => ?_
  have hE := ms_errors ag 0 [to] f (by simp)
  have hC := fm_Compact f
  have hN := fm_Not f
  (try conv=>whnf);repeat' (first|(apply And.intro<;>try conv=>whnf)|(intro h;try conv=>whnf)|(apply cellsI;rfl)|(refine PureFn.dy hE rfl ?_;try conv=>whnf)|(refine PureFn.dy hN rfl ?_;try conv=>whnf)|(apply Or.inl;try conv=>whnf)|fail)
  · rw [semiI, h]; exact le_noAct _
  rw [semiI, h]
  obtain ⟨g1, g2, _, _⟩ := errI_ok (ag := ag) (fact := 0) (gs := [to]) (f := f) (by simpa using h)
  obtain ⟨n, rfl, hn⟩ := badAg_no g1
  refine ⟨{ _x : Unit // (((buildL (n0 4) [f]).length : Int) == 0) = false }, fun _ => [(0, .pv (i64 n)), (1, .pv (.int .i64 to)), (2, .pv (fpv f)), (6, .ref 0 0), (9, .pv (fpv (buildL (n0 4) [f])))], fun _ => 1, fun _ => [(0, .var [.pv .nil, .pv .nil, .pv .nil])], ?_, ?_⟩
  · (try conv=>whnf);repeat' (first|(apply And.intro<;>try conv=>whnf)|(intro h;try conv=>whnf)|fail)
    · have e : (((buildL (n0 4) [f]).length : Int) == 0) = true := by rw [← pre_nd]; exact h
      rw [e]; exact le_noAct _
    · have e : (((buildL (n0 4) [f]).length : Int) == 0) = false := by rw [← pre_nd]; exact h
      exact ⟨⟨(), e⟩, (by refine Wk.of ?_ ?_ rfl rfl rfl<;>repeat' (first|exact trivial|exact WkD.same _|exact WkO.same _ _ rfl|refine ⟨?_, ?_⟩|fail))⟩
  rintro ⟨_, e⟩
  (try conv=>whnf);repeat' (first|(apply And.intro<;>try conv=>whnf)|(apply cellsI;rfl)|(refine PureFn.dy hC rfl ?_;try conv=>whnf)|(apply Or.inl;try conv=>whnf)|fail)
  refine ms_in to 1 _ _ ?_
  try conv=>whnf
  refine model_in n [comp f, buildL (n0 4) [f]] to 1 hn (by simp) (by simp) _ (by decide) _ ?_
  (try conv=>whnf);repeat' (first|(apply And.intro<;>try conv=>whnf)|(apply bleI;rfl)|fail)
  rw [e]
  exact PLe.tups ⟨PLe.aggs ⟨.refl _, le_post 2, .refl _, trivial⟩, .refl _, trivial⟩
theorem ms_Toss (ag to fact : Int) : PureFn Try.prog 25 [.int .i64 ag, .int .i64 to, .int .i64 fact] (pairA (tossI ag to fact)) := by
  refine PureFn.introC [4, 5, 6] mixed (fn := Try.f25) rfl rfl rfl fun M w0 => ?_
  have hE := ms_errors ag fact [to] (buildL (n0 1) []) (by simp)
  try conv=>whnf
  refine ⟨{ _x : Unit // (errI ag fact [to] (buildL (n0 1) []) != 0) = false }, fun _ => [(0, .pv (.int .i64 ag)), (1, .pv (.int .i64 to)), (2, .pv (.int .i64 fact)), (6, .ref 0 0)], fun _ => 1, fun _ => [(0, .var [.pv .nil, .pv .nil, .pv .nil])], ?_, ?_⟩
  · (try conv=>whnf);repeat' (first|(apply And.intro<;>try conv=>whnf)|(intro h;try conv=>whnf)|(apply cellsI;rfl)|(refine PureFn.dy hE rfl ?_;try conv=>whnf)|(refine PureFn.dy fm_True rfl ?_;try conv=>whnf)|(apply Or.inl;try conv=>whnf)|fail)
    · rw [tossI, h]; exact le_noAct _
    · exact ⟨⟨(), h⟩, (by refine Wk.of ?_ ?_ rfl rfl rfl<;>repeat' (first|exact trivial|exact WkD.same _|exact WkO.same _ _ rfl|refine ⟨?_, ?_⟩|fail))⟩
  rintro ⟨_, hh⟩
  obtain ⟨g1, g2, _, _⟩ := errI_ok (ag := ag) (fact := fact) (gs := [to]) (f := buildL (n0 1) []) (by simpa using hh)
  obtain ⟨n, rfl, hn⟩ := badAg_no g1
  refine ⟨Unit, fun _ => [(2, .pv (.int .i64 fact)), (6, .ref 0 0), (9, .ref 7 0)], fun _ => 8, fun _ => [(0, .var [.pv .nil, .pv .nil, .pv .nil]), (4, .arr 1 [.nil, .nil]), (7, .var [.pv (.sl ([buildL (n0 1) [], buildL (n0 1) []].map fpv)), .buf 4 2, .pv (.sl ((relOf n 2 (pcB to 1)).map rowPV))])], ?_, ?_⟩
  · (try conv=>whnf);repeat' (first|(apply And.intro<;>try conv=>whnf)|(apply cellsI;rfl)|(refine PureFn.dy fm_True rfl ?_;try conv=>whnf)|(apply Or.inl;try conv=>whnf)|fail)
    refine ms_in to 1 _ _ ?_
    try conv=>whnf
    refine model_in n [buildL (n0 1) [], buildL (n0 1) []] to 1 hn (by simp) (by simp) _ (by decide) _ ?_
    try conv=>whnf
    exact ⟨(), (by refine Wk.of ?_ ?_ rfl rfl rfl<;>repeat' (first|exact trivial|exact WkD.same _|exact WkO.same _ _ rfl|refine ⟨?_, ?_⟩|fail))⟩
  rintro ⟨⟩
  refine ⟨Unit, fun _ => [(2, .pv (.int .i64 fact)), (6, .ref 0 0), (9, .ref 7 0)], fun _ => 8, fun _ => [(0, .var [.pv .nil, .pv .nil, .pv .nil]), (4, .arr 1 [postPV [⟨fact, buildL (n0 1) []⟩], .nil]), (7, .var [.pv (.sl ([buildL (n0 1) [], buildL (n0 1) []].map fpv)), .buf 4 2, .pv (.sl ((relOf n 2 (pcB to 1)).map rowPV))])], ?_, ?_⟩
  · try conv=>whnf
    refine ⟨Plan.lin 0 8, [7], by kernel_rfl, ?_⟩
    (try conv=>whnf);repeat' (first|(apply And.intro<;>try conv=>whnf)|(apply cellsI;rfl)|(refine ⟨_, (by (conv=>whnf);exact fm_True), rfl, ?_⟩;try conv=>whnf)|fail)
    · rfl
    refine ⟨0, rfl, by decide, ?_⟩
    (try conv=>whnf);repeat' (first|(apply And.intro<;>try conv=>whnf)|fail)
    any_goals rfl
    refine ⟨_, rfl, ?_⟩
    (try conv=>whnf);repeat' (first|(apply And.intro<;>try conv=>whnf)|exact Nat.le_refl 1|fail)
    exact ⟨(), (by refine Wk.of ?_ ?_ rfl rfl rfl<;>repeat' (first|exact trivial|exact WkD.same _|exact WkO.same _ _ rfl|refine ⟨?_, ?_⟩|fail))⟩
  rintro ⟨⟩
  try conv=>whnf
  refine ⟨Plan.lin 0 8, [7], by kernel_rfl, ?_⟩
  (try conv=>whnf);repeat' (first|(apply And.intro<;>try conv=>whnf)|(apply cellsI;rfl)|(refine ⟨_, (by (conv=>whnf);exact fm_False), rfl, ?_⟩;try conv=>whnf)|fail)
  · rfl
  refine ⟨1, rfl, by decide, ?_⟩
  (try conv=>whnf);repeat' (first|(apply And.intro<;>try conv=>whnf)|fail)
  any_goals rfl
  refine ⟨_, rfl, ?_⟩
  (try conv=>whnf);repeat' (first|(apply And.intro<;>try conv=>whnf)|(apply bleI;rfl)|exact Nat.le_refl 1|fail)
  · rfl
  rw [tossI, hh]
  exact PLe.tups ⟨PLe.aggs ⟨.refl _, .refl _, .refl _, trivial⟩, .refl _, trivial⟩
end Go.Proofs.Ytkjjoalphllolaa
set_option maxRecDepth 100000
set_option maxHeartbeats 4000000
namespace Go.Proofs.Ytkjjoalphllolaa
open Go Go.Dv

theorem ac_static (f : List Nd) (ag n : Int) : PureFn Try.prog 75 [fpv f, .int .i64 ag, .int .i64 n] (.int .i64 (statI ag n f)) := by
  refine PureFn.intro mixed (fn := Try.f75) rfl rfl rfl fun M w0 => ?_
  (try conv=>whnf);repeat' (first|(apply And.intro<;>try conv=>whnf)|(intro h;try conv=>whnf)|(refine PureFn.dcq (f := 53) rfl ?_;try conv=>whnf)|(refine PureFn.dcq (f := 5) rfl ?_;try conv=>whnf)|(refine PureFn.dcq (f := 55) rfl ?_;try conv=>whnf)|(refine ⟨_, _, fm_Check ?_, ?_, ?_⟩;rotate_left 1;(focus first|(refine ⟨?_, trivial⟩<;>first|exact PLe.refl _|exact PLe.nil)|exact trivial);try conv=>whnf)|(refine ⟨_, _, fm_Frags ?_, ?_, ?_⟩;rotate_left 1;(focus first|(refine ⟨?_, trivial⟩<;>first|exact PLe.refl _|exact PLe.nil)|exact trivial);try conv=>whnf)|(refine ⟨_, _, fm_Fits ?_ ?_ ?_, ?_, ?_⟩;rotate_left 3;(focus first|(refine ⟨?_, ?_, ?_, trivial⟩<;>first|exact PLe.refl _|exact PLe.nil)|exact trivial);try conv=>whnf)|fail)
  · refine le_int ?_
    rw [statI, h]; rfl
  · rename_i h1
    refine le_int ?_
    rw [statI, h1, show (nand64' (frags f : Nat) 15 != 0) = true from h]; rfl
  · rename_i h2 h1
    refine le_int ?_
    rw [statI, h2, show (nand64' (frags f : Nat) 15 != 0) = false from h1, h]; rfl
  · rename_i h2 h1
    refine le_int ?_
    rw [statI, h2, show (nand64' (frags f : Nat) 15 != 0) = false from h1, h]; rfl
theorem comp_true : comp (buildL (n0 1) []) = buildL (n0 1) [] := by kernel_rfl
end Go.Proofs.Ytkjjoalphllolaa
set_option maxRecDepth 100000
set_option maxHeartbeats 4000000
namespace Go.Proofs.Ytkjjoalphllolaa
open Go Go.Dv

/-! bits -/
def cntB (x : Nat) : Nat → Nat
  | 0 => 0
  | i + 1 => bif x.testBit i then cntB x i + 1 else cntB x i
theorem bits_64 (x : Nat) (hx : x < 256) : PureFn Try.prog 64 [u64 x] (.int .i64 (cntB x 8 : Nat)) := by
  refine PureFn.intro mixed (fn := Try.f64) rfl rfl rfl fun M w0 => ?_
  (try conv=>whnf);repeat' (first|(apply And.intro<;>try conv=>whnf)|fail)
  all_goals first | (show (0 : Int) ≤ _; decide) | skip
  refine le_int ?_
  clear M w0
  revert x
  decide +kernel
theorem bits_u (x : Nat) (hx : x < 256) : PureFn Try.prog 46 [u64 x] (.int .i64 (cntB x 8 : Nat)) := by
  have h64 := bits_64 x hx
  refine PureFn.intro mixed (fn := Try.f46) rfl rfl rfl fun M w0 => ?_
  (try conv=>whnf);repeat' (first|(apply And.intro<;>try conv=>whnf)|(intro h;first|with_reducible exact ft0 h|try conv=>whnf)|(refine PureFn.dy h64 rfl ?_;try conv=>whnf)|fail)
  exact .refl _
theorem bit64_one {s v : Nat} (hs : s < 2 ^ 62) (hv : v ≤ 64) : (and64 (shr64 s v) 1 == 1) = s.testBit v := by
  rw [bit64_and hs hv]; cases s.testBit v <;> rfl
theorem bit64_zero {s v : Nat} (hs : s < 2 ^ 62) (hv : v ≤ 64) : (and64 (shr64 s v) 1 == 0) = !s.testBit v := by
  rw [bit64_and hs hv]; cases s.testBit v <;> rfl
theorem nand_eq {a b : Nat} (ha : a < 2 ^ 62) : nand64' a b = ((a ^^^ (a &&& b) : Nat) : Int) := by
  have hlt : a ^^^ (a &&& b) < 2 ^ 62 := Nat.xor_lt_two_pow ha (Nat.lt_of_le_of_lt Nat.and_le_left ha)
  unfold nand64'
  show IntKind.wrap .i64 ((BitVec.ofInt 64 (a : Int) &&& ~~~BitVec.ofInt 64 (b : Int)).toNat : Int) = _
  rw [ofInt_nat, ofInt_nat]
  have h2 : (BitVec.ofNat 64 a &&& ~~~BitVec.ofNat 64 b).toNat = a ^^^ (a &&& b) := by
    apply Nat.eq_of_testBit_eq
    intro i
    rw [BitVec.testBit_toNat, BitVec.getLsbD_and, BitVec.getLsbD_not, BitVec.getLsbD_ofNat, BitVec.getLsbD_ofNat, Nat.testBit_xor, Nat.testBit_and]
    by_cases hi : i < 64
    · simp only [hi, decide_true, Bool.true_and]; cases a.testBit i <;> cases b.testBit i <;> rfl
    · have : a.testBit i = false := Nat.testBit_lt_two_pow (Nat.lt_of_lt_of_le (show a < 2 ^ 64 by omega) (Nat.pow_le_pow_right (by decide) (by omega)))
      simp [hi, this]
  rw [h2, wrap_small (by omega) (by omega)]
def subM (s m : Nat) : Bool := s &&& m == s
theorem nand_zero {a b : Nat} (ha : a < 2 ^ 62) : (nand64' a b == 0) = subM a b := by
  rw [nand_eq ha, subM, Bool.eq_iff_iff, beq_iff_eq, beq_iff_eq]
  constructor
  · intro h
    have h0 : a ^^^ (a &&& b) = 0 := by omega
    have h4 : (a ^^^ (a &&& b)) ^^^ (a &&& b) = a := by rw [Nat.xor_assoc, Nat.xor_self, Nat.xor_zero]
    rw [h0, Nat.zero_xor] at h4; exact h4
  · intro h
    rw [h, Nat.xor_self]; rfl

/-! the formulas of a look -/
def litX (i s : Nat) : List Nd := bif s.testBit i then buildL (nI 3 i) [] else buildL (n0 4) [buildL (nI 3 i) []]
def litsX (s m : Nat) : Nat → List (List Nd)
  | 0 => []
  | i + 1 => bif m.testBit i then litsX s m i ++ [litX i s] else litsX s m i
def litL (s m : Nat) : List Nd := joinL 5 (buildL (n0 1) []) (litsX s m 8)
def lookL (m : Nat) : Nat → List (List Nd)
  | 0 => []
  | s + 1 => bif subM s m then lookL m s ++ [litL s m] else lookL m s
def lookN (m : Nat) : Nat → Nat
  | 0 => 0
  | s + 1 => bif subM s m then lookN m s + 1 else lookN m s
theorem lookL_len (m : Nat) : ∀ s, (lookL m s).length = lookN m s
  | 0 => rfl
  | s + 1 => by
    rw [lookL, lookN]
    cases subM s m with
    | true => simp [lookL_len m s]
    | false => simp [lookL_len m s]
theorem litsX_len (s m : Nat) : ∀ i, (litsX s m i).length ≤ i
  | 0 => Nat.le_refl 0
  | i + 1 => by
    have := litsX_len s m i
    rw [litsX]
    cases m.testBit i with
    | true => simp; omega
    | false => simp; omega
theorem lookN_le (m : Nat) : ∀ s, lookN m s ≤ s
  | 0 => Nat.le_refl 0
  | s + 1 => by
    have := lookN_le m s
    rw [lookN]
    cases subM s m <;> simp <;> omega
/-- Eight events at most are three facts at most. -/
theorem look_few : ∀ m, m < 256 → (decide (lookN m (m + 1) > 8) = decide (cntB m 8 > 3)) ∧ 1 ≤ lookN m (m + 1) := by decide +kernel
def badM (m : Int) : Bool := bif decide (m < 0) then true else decide (m > 255)
def lookI (ag to m : Int) : Act × Int :=
  bif errI ag 0 [to] (buildL (n0 1) []) != 0 then (noAct, errI ag 0 [to] (buildL (n0 1) [])) else bif badM m then (noAct, 1) else bif decide (cntB m.toNat 8 > 3) then (noAct, 8)
  else (⟨lookL m.toNat (m.toNat + 1), List.replicate (lookN m.toNat (m.toNat + 1)) [], relOf ag.toNat (lookN m.toNat (m.toNat + 1)) (pcB to 1)⟩, 0)
theorem badM_no {m : Int} (h : badM m = false) : ∃ k : Nat, m = k ∧ k < 256 := by
  unfold badM at h
  by_cases h1 : m < 0
  · rw [decide_eq_true h1] at h; cases h
  · by_cases h2 : m > 255
    · rw [decide_eq_false h1, decide_eq_true h2] at h; cases h
    · exact ⟨m.toNat, by omega, by omega⟩
theorem litsX_t {s m i : Nat} {p : List Nd} (h : m.testBit i = true) (hp : litX i s = p) : (litsX s m i).map fpv ++ [fpv p] = (litsX s m (i + 1)).map fpv := by rw [litsX, h, ← hp]; simp
theorem litsX_f {s m i : Nat} (h : m.testBit i = false) : (litsX s m i).map fpv = (litsX s m (i + 1)).map fpv := by rw [litsX, h]; rfl
theorem lookL_t {m s : Nat} (h : subM s m = true) : (lookL m s).map fpv ++ [fpv (litL s m)] = (lookL m (s + 1)).map fpv := by rw [lookL, h]; simp
theorem lookL_f {m s : Nat} (h : subM s m = false) : (lookL m s).map fpv = (lookL m (s + 1)).map fpv := by rw [lookL, h]; rfl
theorem lits_t {i s : Nat} (h : s.testBit i = true) : litX i s = buildL (nI 3 i) [] := by rw [litX, h]; rfl
theorem lits_f {i s : Nat} (h : s.testBit i = false) : litX i s = buildL (n0 4) [buildL (nI 3 i) []] := by rw [litX, h]; rfl
theorem nand_t {s k : Nat} (hs : s < 2 ^ 62) (h : (nand64' s k != 0) = true) : subM s k = false := by
  rw [← nand_zero hs]; rw [bne] at h; simpa using h
theorem nand_f {s k : Nat} (hs : s < 2 ^ 62) (h : (nand64' s k != 0) = false) : subM s k = true := by
  rw [← nand_zero hs]; rw [bne] at h; simpa using h
theorem app_big {l : List PV} {n : Nat} {p : PV} (h : l.length ≤ n) (hn : n ≤ 1000) : l.length + [p].length ≤ big := by
  show l.length + 1 ≤ 4294967296; omega
theorem cnt_dec {c : Nat} : decide ((c : Int) > 3) = decide (c > 3) := by rw [Bool.eq_iff_iff, decide_eq_true_iff, decide_eq_true_iff]; omega
theorem ms_Look (ag to m : Int) : PureFn Try.prog 15 [.int .i64 ag, .int .i64 to, .int .i64 m] (pairA (lookI ag to m)) := by
  refine PureFn.introC [4, 24] mixed (fn := Try.f15) rfl rfl rfl fun M w0 => ?_
  have hE := ms_errors ag 0 [to] (buildL (n0 1) []) (by simp)
  try conv=>whnf
  refine ⟨{ _x : Unit // (errI ag 0 [to] (buildL (n0 1) []) != 0) = false }, fun _ => [(0, .pv (.int .i64 ag)), (1, .pv (.int .i64 to)), (2, .pv (.int .i64 m)), (6, .ref 0 0)], fun _ => 1, fun _ => [(0, .var [.pv .nil, .pv .nil, .pv .nil])], ?_, ?_⟩
  · (try conv=>whnf);repeat' (first|(apply And.intro<;>try conv=>whnf)|(intro h;try conv=>whnf)|(apply cellsI;rfl)|(refine PureFn.dy hE rfl ?_;try conv=>whnf)|(refine PureFn.dy fm_True rfl ?_;try conv=>whnf)|(apply Or.inl;try conv=>whnf)|fail)
    · rw [lookI, h]; exact le_noAct _
    · exact ⟨⟨(), h⟩, (by refine Wk.of ?_ ?_ rfl rfl rfl<;>repeat' (first|exact trivial|exact WkD.same _|exact WkO.same _ _ rfl|refine ⟨?_, ?_⟩|fail))⟩
  rintro ⟨_, hh⟩
  obtain ⟨g1, g2, _, _⟩ := errI_ok (ag := ag) (fact := 0) (gs := [to]) (f := buildL (n0 1) []) (by simpa using hh)
  obtain ⟨n, rfl, hn⟩ := badAg_no g1
  have hU : ∀ k : Nat, m = k → k < 256 → PureFn Try.prog 46 [.int .u64 (IntKind.wrap .u64 m)] (.int .i64 (cntB k 8 : Nat)) := fun k e hk => by
    rw [e, wrapU (by omega) (by omega)]
    exact bits_u k hk
  (try conv=>whnf);repeat' (first|(apply And.intro<;>try conv=>whnf)|(intro h;try conv=>whnf)|apply True.intro|(apply WhenQ.mk;(try conv=>whnf);rotate_left;(try conv=>whnf);rotate_right)|with_reducible assumption|(apply not_of;with_reducible assumption)|fail)
  · rw [lookI, hh, show badM m = true from h]; exact le_noAct _
  have e1 : badM m = false := h
  obtain ⟨k, rfl, hk⟩ := badM_no e1
  have hU' := hU k rfl hk
  (try conv=>whnf);repeat' (first|(apply And.intro<;>try conv=>whnf)|(intro h;try conv=>whnf)|(refine PureFn.dy hU' rfl ?_;try conv=>whnf)|fail)
  · rw [lookI, hh, e1, Int.toNat_natCast, ← cnt_dec, show decide (((cntB k 8 : Nat) : Int) > 3) = true from h]; exact le_noAct _
  have e2 : decide (cntB k 8 > 3) = false := cnt_dec.symm.trans h
  have e3 := (look_few k hk).1.trans e2
  have e4 := (look_few k hk).2
  have e5 : lookN k (k + 1) ≤ 8 := Nat.not_lt.1 (of_decide_eq_false e3)
  refine ⟨Unit, fun _ => [(0, .pv (i64 n)), (1, .pv (.int .i64 to)), (6, .ref 0 0), (9, .pv (.sl ((lookL k (k + 1)).map fpv)))], fun _ => 1, fun _ => [(0, .var [.pv .nil, .pv .nil, .pv .nil])], ?_, ?_⟩
  · try conv=>whnf
    refine ⟨{ s : Nat // s ≤ k + 1 }, fun s => [(0, .pv (i64 n)), (1, .pv (.int .i64 to)), (2, .pv (i64 k)), (6, .ref 0 0), (9, .buf 1 ((lookL k s.1).map fpv).length), (35, .pv (i64 (k + 1))), (36, .pv (i64 s.1))], fun _ => 2, fun s => [(0, .var [.pv .nil, .pv .nil, .pv .nil]), (1, .arr 1 ((lookL k s.1).map fpv))], fun s => k + 1 - s.1, ⟨⟨0, Nat.zero_le _⟩, ?_⟩, ?_⟩
    · (refine Wk.of ?_ ?_ rfl rfl rfl<;>repeat' (first|exact trivial|exact WkD.same _|exact WkO.same _ _ rfl|refine WkD.int ?_|exact WkD.new' rfl rfl rfl|exact WkO.new _ _ rfl|exact rfl|refine ⟨?_, ?_⟩|(refine wrapA ?_ ?_ ?_;(focus simp;done);(focus (try dsimp only);omega);(focus (try dsimp only);omega))|fail))
    rintro ⟨s, hs⟩
    have hll := lookL_len k s
    have hln := lookN_le k s
    (try conv=>whnf);repeat' (first|(apply And.intro<;>try conv=>whnf)|(intro h;try conv=>whnf)|fail)
    · rename_i h1
      have hs' : s < k + 1 := lt_dec h1
      have hn := nand_t (show s < 2 ^ 62 by omega) h
      have er := lookL_f hn
      refine ⟨⟨s + 1, hs'⟩, by show k + 1 - (s + 1) < k + 1 - s; omega, ?_⟩
      (refine Wk.of ?_ ?_ rfl rfl rfl<;>repeat' (first|exact trivial|exact WkD.same _|exact WkO.same _ _ rfl|exact WkD.eq (congrArg (fun z : List PV => DV.buf _ z.length) er)|exact WkO.same _ _ (congrArg (fun z => some (DObj.arr _ z)) er)|refine WkD.int ?_|refine ⟨?_, ?_⟩|(refine wrapA ?_ ?_ ?_;(focus simp;done);(focus (try dsimp only);omega);(focus (try dsimp only);omega))|fail))
    · rename_i h1
      have hs' : s < k + 1 := lt_dec h1
      have hy := nand_f (show s < 2 ^ 62 by omega) h
      refine ⟨{ i : Nat // i ≤ 8 }, fun i => [(0, .pv (i64 n)), (1, .pv (.int .i64 to)), (2, .pv (i64 k)), (6, .ref 0 0), (9, .buf 1 ((lookL k s).map fpv).length), (10, .pv (i64 s)), (11, .buf 2 ((litsX s k i.1).map fpv).length), (35, .pv (i64 (k + 1))), (36, .pv (i64 s)), (43, .pv (i64 i.1))], fun _ => 3, fun i => [(0, .var [.pv .nil, .pv .nil, .pv .nil]), (1, .arr 1 ((lookL k s).map fpv)), (2, .arr 1 ((litsX s k i.1).map fpv))], fun i => 8 - i.1, ⟨⟨0, Nat.zero_le _⟩, (by refine Wk.of ?_ ?_ rfl rfl rfl<;>repeat' (first|exact trivial|exact WkD.same _|exact WkO.same _ _ rfl|exact WkD.new' rfl rfl rfl|exact WkO.new _ _ rfl|exact rfl|refine ⟨?_, ?_⟩|fail))⟩, ?_⟩
      rintro ⟨i, hi⟩
      have hxl := litsX_len s k i
      have hF := fm_Fact (i : Int)
      have hNo := fm_Not (buildL (nI 3 i) [])
      have hAl := fm_All (litsX s k i) (by omega)
      (try conv=>whnf);repeat' (first|(apply And.intro<;>try conv=>whnf)|(intro h;try conv=>whnf)|(apply bleI;rfl)|(apply cellsI;rfl)|(apply szI;rfl)|(refine PureFn.dy hF rfl ?_;try conv=>whnf)|(refine PureFn.dy hNo rfl ?_;try conv=>whnf)|(refine PureFn.dcq (f := 43) rfl ?_;try conv=>whnf)|(refine ⟨_, _, hAl, ?_, ?_⟩;(focus first|(refine ⟨?_, trivial⟩<;>first|exact PLe.refl _|exact PLe.nil)|exact trivial);try conv=>whnf)|(apply Or.inl;try conv=>whnf)|fail)
      · exact Int.natCast_nonneg _
      · rename_i h2
        have hi' : i < 8 := lt_dec h2
        have hb : k.testBit i = false := by simpa using (bit64_zero (s := k) (v := i) (by omega) (by omega)).symm.trans h
        have er := litsX_f (s := s) hb
        refine ⟨⟨i + 1, hi'⟩, by show 8 - (i + 1) < 8 - i; omega, ?_⟩
        (refine Wk.of ?_ ?_ rfl rfl rfl<;>repeat' (first|exact trivial|exact WkD.same _|exact WkO.same _ _ rfl|exact WkD.eq (congrArg (fun z : List PV => DV.buf _ z.length) er)|exact WkO.same _ _ (congrArg (fun z => some (DObj.arr _ z)) er)|refine WkD.int ?_|refine ⟨?_, ?_⟩|(refine wrapA ?_ ?_ ?_;(focus simp;done);(focus (try dsimp only);omega);(focus (try dsimp only);omega))|fail))
      · exact Int.natCast_nonneg _
      · exact app_big (n := 8) (by simp; omega) (by decide)
      · rename_i h3 h2
        have hi' : i < 8 := lt_dec h3
        have hb : k.testBit i = true := by simpa using (bit64_zero (s := k) (v := i) (by omega) (by omega)).symm.trans h2
        have hc : s.testBit i = true := by simpa using (bit64_one (s := s) (v := i) (by omega) (by omega)).symm.trans h
        have er := litsX_t hb (lits_t hc)
        refine ⟨⟨i + 1, hi'⟩, by show 8 - (i + 1) < 8 - i; omega, ?_⟩
        (refine Wk.of ?_ ?_ rfl rfl rfl<;>repeat' (first|exact trivial|exact WkD.same _|exact WkO.same _ _ rfl|exact WkD.eq (congrArg (fun z : List PV => DV.buf _ z.length) er)|exact WkO.same _ _ (congrArg (fun z => some (DObj.arr _ z)) er)|refine WkD.int ?_|refine ⟨?_, ?_⟩|(refine wrapA ?_ ?_ ?_;(focus simp;done);(focus (try dsimp only);omega);(focus (try dsimp only);omega))|fail))
      · exact app_big (n := 8) (by simp; omega) (by decide)
      · rename_i h3 h2
        have hi' : i < 8 := lt_dec h3
        have hb : k.testBit i = true := by simpa using (bit64_zero (s := k) (v := i) (by omega) (by omega)).symm.trans h2
        have hc : s.testBit i = false := by simpa using (bit64_one (s := s) (v := i) (by omega) (by omega)).symm.trans h
        have er := litsX_t hb (lits_f hc)
        refine ⟨⟨i + 1, hi'⟩, by show 8 - (i + 1) < 8 - i; omega, ?_⟩
        (refine Wk.of ?_ ?_ rfl rfl rfl<;>repeat' (first|exact trivial|exact WkD.same _|exact WkO.same _ _ rfl|exact WkD.eq (congrArg (fun z : List PV => DV.buf _ z.length) er)|exact WkO.same _ _ (congrArg (fun z => some (DObj.arr _ z)) er)|refine WkD.int ?_|refine ⟨?_, ?_⟩|(refine wrapA ?_ ?_ ?_;(focus simp;done);(focus (try dsimp only);omega);(focus (try dsimp only);omega))|fail))
      · exact app_big (n := 257) (by simp; omega) (by decide)
      · have hi' : i = 8 := ge_dec h hi
        subst hi'
        have hs' : s < k + 1 := lt_dec h1
        have er := lookL_t hy
        refine ⟨⟨s + 1, hs'⟩, by show k + 1 - (s + 1) < k + 1 - s; omega, ?_⟩
        (refine Wk.of ?_ ?_ rfl rfl rfl<;>repeat' (first|exact trivial|exact WkD.same _|exact WkO.same _ _ rfl|exact WkD.eq (congrArg (fun z : List PV => DV.buf _ z.length) er)|exact WkO.same _ _ (congrArg (fun z => some (DObj.arr _ z)) er)|refine WkD.int ?_|refine ⟨?_, ?_⟩|(refine wrapA ?_ ?_ ?_;(focus simp;done);(focus (try dsimp only);omega);(focus (try dsimp only);omega))|fail))
    · have hs' : s = k + 1 := ge_dec h hs
      subst hs'
      exact ⟨(), (by refine Wk.of ?_ ?_ rfl rfl rfl<;>repeat' (first|exact trivial|exact WkD.same _|exact WkO.same _ _ rfl|exact WkD.fz _ _ _ rfl (Or.inl ⟨_, rfl⟩) rfl|refine ⟨?_, ?_⟩|fail))⟩
  rintro ⟨⟩
  try conv=>whnf
  refine ms_in to 1 _ _ ?_
  try conv=>whnf
  have e6 : (lookL k (k + 1)).length = lookN k (k + 1) := lookL_len k (k + 1)
  refine model_in n (lookL k (k + 1)) to 1 hn (by omega) (by omega) _ (by decide) _ ?_
  (try conv=>whnf);repeat' (first|(apply And.intro<;>try conv=>whnf)|(apply bleI;rfl)|fail)
  rw [e6, lookI, hh, e1, Int.toNat_natCast, e2]
  exact PLe.tups ⟨PLe.aggs ⟨.refl _, le_post _, .refl _, trivial⟩, .refl _, trivial⟩
end Go.Proofs.Ytkjjoalphllolaa
set_option maxRecDepth 100000
set_option maxHeartbeats 4000000
namespace Go.Proofs.Ytkjjoalphllolaa
open Go Go.Dv

theorem wrapU_pos (a : Int) : 0 ≤ IntKind.wrap .u64 a := Int.emod_nonneg _ (by decide)
theorem wrapU_nat {n : Nat} (h : n < 1000000) : IntKind.wrap .u64 (n : Int) = (n : Int) := wrapU (by omega) (by omega)
/-! relations -/
end Go.Proofs.Ytkjjoalphllolaa
set_option maxRecDepth 100000
set_option maxHeartbeats 4000000
namespace Go.Proofs.Ytkjjoalphllolaa
open Go Go.Dv

theorem rs_Same (r : List Nat) (hl : r.length ≤ 1000) : PureFn Try.prog 29 [rowPV r, rowPV r] (.bool true) := by
  refine PureFn.intro mixed (fn := Try.f29) rfl rfl rfl fun M w0 => ?_
  (try conv=>whnf);repeat' (first|(apply And.intro<;>try conv=>whnf)|(intro h;try conv=>whnf)|fail)
  · simp at h
  refine ⟨{ i : Nat // i ≤ r.length }, fun i => [(0, .pv (rowPV r)), (1, .pv (rowPV r)), (5, .pv (i64 i.1))], fun _ => 0, fun _ => [], fun i => r.length - i.1, ⟨⟨0, Nat.zero_le _⟩, (by refine Wk.of ?_ ?_ rfl rfl rfl<;>repeat' (first|exact trivial|exact WkD.same _|refine ⟨?_, ?_⟩|fail))⟩, ?_⟩
  rintro ⟨i, hi⟩
  (try conv=>whnf);repeat' (first|(apply And.intro<;>try conv=>whnf)|(intro h;try conv=>whnf)|(apply infoT;rfl)|(refine lin_plan (by kernel_rfl) ?_;try conv=>whnf)|fail)
  · have hi' : i < r.length := by simpa using lt_dec h
    have hn : r[i]? = some r[i] := List.getElem?_eq_getElem hi'
    refine ⟨_, _, rfl, idx_map hn, rfl, ?_⟩
    (try conv=>whnf);repeat' (first|(apply And.intro<;>try conv=>whnf)|(intro h;try conv=>whnf)|(apply infoT;rfl)|(refine ⟨_, _, rfl, idx_map (by with_reducible assumption), rfl, ?_⟩;try conv=>whnf)|fail)
    · simp at h
    · exact ⟨⟨i + 1, hi'⟩, by show r.length - (i + 1) < r.length - i; omega, (by refine Wk.of ?_ ?_ rfl rfl rfl<;>repeat' (first|exact trivial|exact WkD.same _|refine WkD.int ?_|refine ⟨?_, ?_⟩|(refine wrapA ?_ ?_ ?_;(focus simp;done);(focus (try dsimp only);omega);(focus (try dsimp only);omega))|fail))⟩
  · exact .refl _
def cellsA (a : Act) : List DV := [.pv (.sl (a.pre.map fpv)), .pv (.sl (a.post.map postPV)), .pv (.sl (a.rel.map rowPV))]
theorem flat_len : ∀ {rows : List (List Nat)}, (∀ r, r ∈ rows → r.length = 2) → rows.flatten.length = 2 * rows.length
  | [], _ => rfl
  | r :: s, h => by
    have h1 := h r (by simp)
    have h2 := flat_len (rows := s) fun q hq => h q (by simp [hq])
    rw [List.flatten_cons, List.length_append, h1, h2, List.length_cons]; omega
theorem flat_at : ∀ {rows : List (List Nat)} {i : Nat} {r : List Nat}, (∀ r, r ∈ rows → r.length = 2) → rows[i]? = some r → (rows.flatten.drop (2 * i)).take 2 = r
  | [], i, r, _, h => by simp at h
  | q :: s, 0, r, h, hr => by
    have h1 := h q (by simp)
    simp at hr; subst hr
    rw [List.flatten_cons]
    simp only [Nat.mul_zero, List.drop_zero]
    rw [List.take_append_of_le_length (by omega), List.take_of_length_le (by omega)]
  | q :: s, i + 1, r, h, hr => by
    have h1 := h q (by simp)
    have h2 := flat_at (rows := s) (i := i) (r := r) (fun q hq => h q (by simp [hq])) (by simpa using hr)
    rw [List.flatten_cons, show 2 * (i + 1) = q.length + 2 * i by omega, List.drop_length_add_append]
    exact h2
theorem cells_u64 (l : List Nat) : cellsAll 1 (l.map u64) = true := by simp [cellsAll, u64, PV.cells, PV.one]
theorem lw_related (pre post : List PV) (rows : List (List Nat)) (hl : rows.length ≤ 100) (h2 : ∀ r, r ∈ rows → r.length = 2) :
    PureFn Try.prog 26 [.agg [.sl pre, .sl post, .sl (rows.map rowPV)], .int .i64 0, .sl (rows.flatten.map u64)] (.bool true) := by
  refine PureFn.intro mixed (fn := Try.f26) rfl rfl rfl fun M w0 => ?_
  have hfl := flat_len h2
  (try conv=>whnf);repeat' (first|(apply And.intro<;>try conv=>whnf)|(intro h;try conv=>whnf)|apply True.intro|(apply WhenQ.mk;(try conv=>whnf);rotate_left;(try conv=>whnf);rotate_right)|with_reducible assumption|(apply not_of;with_reducible assumption)|fail)
  · exfalso
    have h3 : (IntKind.wrap .i64 (2 * ((rows.map rowPV).length : Int)) != ((rows.flatten.map u64).length : Int)) = true := h
    rw [List.length_map, List.length_map, hfl, wrap_small (by omega) (by omega)] at h3
    simp at h3
  refine ⟨{ i : Nat // i ≤ rows.length }, fun i => [(2, .pv (.sl (rows.flatten.map u64))), (3, .ref 0 0), (7, .pv (i64 i.1))], fun _ => 1, fun _ => [(0, .var [.pv (.sl pre), .pv (.sl post), .pv (.sl (rows.map rowPV))])], fun i => rows.length - i.1, ⟨⟨0, Nat.zero_le _⟩, (by refine Wk.of ?_ ?_ rfl rfl rfl<;>repeat' (first|exact trivial|exact WkD.same _|exact WkO.same _ _ rfl|refine ⟨?_, ?_⟩|fail))⟩, ?_⟩
  rintro ⟨i, hi⟩
  (try conv=>whnf);repeat' (first|(apply And.intro<;>try conv=>whnf)|(intro h;try conv=>whnf)|(apply infoT;rfl)|(refine lin_plan (by kernel_rfl) ?_;try conv=>whnf)|fail)
  · have hi' : i < rows.length := by simpa using lt_dec h
    have hn : rows[i]? = some rows[i] := List.getElem?_eq_getElem hi'
    have hr2 := h2 _ (List.getElem_mem hi')
    have hS := rs_Same rows[i] (by omega)
    have hfa := flat_at h2 hn
    refine ⟨_, _, rfl, idx_map hn, rfl, ?_⟩
    have hS' : PureFn Try.prog 29 [rowPV rows[i], .sl (((rows.flatten.map u64).drop (2 * i)).take (2 * i + 2 - 2 * i))] (.bool true) := by
      rw [← List.map_drop, ← List.map_take, show 2 * i + 2 - 2 * i = 2 by omega, hfa]; exact hS
    (try conv=>whnf);repeat' (first|(apply And.intro<;>try conv=>whnf)|(apply infoT;rfl)|fail)
    · exact cells_u64 _
    refine ⟨2 * i, 2 * i + 2, ?_, ?_, by omega, by rw [List.length_map, hfl]; omega, ?_⟩
    · exact wrapA (a := 2 * (i : Int)) (by omega) (by omega) (by omega)
    · have : IntKind.wrap .i64 (IntKind.wrap .i64 (2 * (i : Int)) + 2) = ((2 * i + 2 : Nat) : Int) := by
        rw [wrap_small (n := 2 * (i : Int)) (by omega) (by omega), wrap_small (by omega) (by omega)]; omega
      exact this
    (try conv=>whnf);repeat' (first|(apply And.intro<;>try conv=>whnf)|(intro h;first|with_reducible exact nt0 h|try conv=>whnf)|(refine ⟨_, (by (conv=>whnf);exact hS'), rfl, ?_⟩;try conv=>whnf)|fail)
    exact ⟨⟨i + 1, hi'⟩, by show rows.length - (i + 1) < rows.length - i; omega, (by refine Wk.of ?_ ?_ rfl rfl rfl<;>repeat' (first|exact trivial|exact WkD.same _|exact WkO.same _ _ rfl|refine WkD.int ?_|refine ⟨?_, ?_⟩|(refine wrapA ?_ ?_ ?_;(focus simp;done);(focus (try dsimp only);omega);(focus (try dsimp only);omega))|fail))⟩
  · exact .refl _
end Go.Proofs.Ytkjjoalphllolaa
set_option maxRecDepth 100000
set_option maxHeartbeats 4000000
namespace Go.Proofs.Ytkjjoalphllolaa
open Go Go.Dv

theorem ml_awake : PureFn Try.prog 6 [] (.bool true) := by
  obtain ⟨P, qP⟩ : ∃ z : List Nd, z = buildL (nI 3 0) [] := ⟨_, rfl⟩
  obtain ⟨R, qR⟩ : ∃ z : List Nd, z = buildL (nI 3 2) [] := ⟨_, rfl⟩
  obtain ⟨T, qT⟩ : ∃ z : List Nd, z = buildL (n0 1) [] := ⟨_, rfl⟩
  obtain ⟨F, qF⟩ : ∃ z : List Nd, z = buildL (n0 2) [] := ⟨_, rfl⟩
  obtain ⟨NP, qNP⟩ : ∃ z : List Nd, z = buildL (n0 4) [P] := ⟨_, rfl⟩
  obtain ⟨NR, qNR⟩ : ∃ z : List Nd, z = buildL (n0 4) [R] := ⟨_, rfl⟩
  obtain ⟨PN, qPN⟩ : ∃ z : List Nd, z = buildL (n0 5) [P, NR] := ⟨_, rfl⟩
  obtain ⟨L0, qL0⟩ : ∃ z : List Nd, z = litL 0 5 := ⟨_, rfl⟩
  obtain ⟨L1, qL1⟩ : ∃ z : List Nd, z = litL 1 5 := ⟨_, rfl⟩
  obtain ⟨L4, qL4⟩ : ∃ z : List Nd, z = litL 4 5 := ⟨_, rfl⟩
  obtain ⟨L5, qL5⟩ : ∃ z : List Nd, z = litL 5 5 := ⟨_, rfl⟩
  have hP := fm_Fact 0
  rw [← qP] at hP
  have hR := fm_Fact 2
  rw [← qR] at hR
  have hF := fm_False
  rw [← qF] at hF
  have hNP := fm_Not P
  rw [← qNP] at hNP
  have hNR := fm_Not R
  rw [← qNR] at hNR
  have hPN := fm_And P NR
  rw [← qPN] at hPN
  have h1 := (ms_Private 2 1 P).to (q := .tup [.agg [.sl [fpv P, fpv T], .sl [.sl [], .sl []], .sl [rowPV [1, 2], rowPV [2, 2]]], .int .i64 0]) (by rw [qP, qT]; kernel_rfl)
  have h2 := (ms_Semi 2 2 P).to (q := .tup [.agg [.sl [fpv P, fpv NP], .sl [.sl [], .sl []], .sl [rowPV [3, 3], rowPV [1, 2]]], .int .i64 0]) (by rw [qNP, qP]; kernel_rfl)
  have h3 := (ms_Suspected 3 1 2 P).to (q := .tup [.agg [.sl [fpv P, fpv T], .sl [.sl [], .sl []], .sl [rowPV [1, 2], rowPV [3, 3], rowPV [2, 2]]], .int .i64 0]) (by rw [qP, qT]; kernel_rfl)
  have h4 := (ms_Look 1 0 5).to (q := .tup [.agg [.sl [fpv L0, fpv L1, fpv L4, fpv L5], .sl [.sl [], .sl [], .sl [], .sl []], .sl [rowPV [15, 15, 15, 15]]], .int .i64 0]) (by rw [qL0, qL1, qL4, qL5]; kernel_rfl)
  have h5 := (ms_Toss 1 1 0).to (q := .tup [.agg [.sl [fpv T, fpv T], .sl [.sl [.agg [.int .i64 0, fpv T]], .sl [.agg [.int .i64 0, fpv F]]], .sl [rowPV [1, 2]]], .int .i64 0]) (by rw [qT, qF]; kernel_rfl)
  have r1 : PureFn Try.prog 26 [.agg [.sl [fpv P, fpv T], .sl [.sl [], .sl []], .sl [rowPV [1, 2], rowPV [2, 2]]], .int .i64 0, .sl [.int .u64 1, .int .u64 2, .int .u64 2, .int .u64 2]] (.bool true) := lw_related _ _ [[1, 2], [2, 2]] (by decide) (by decide)
  have r2 : PureFn Try.prog 26 [.agg [.sl [fpv P, fpv NP], .sl [.sl [], .sl []], .sl [rowPV [3, 3], rowPV [1, 2]]], .int .i64 0, .sl [.int .u64 3, .int .u64 3, .int .u64 1, .int .u64 2]] (.bool true) := lw_related _ _ [[3, 3], [1, 2]] (by decide) (by decide)
  have r3 : PureFn Try.prog 26 [.agg [.sl [fpv P, fpv T], .sl [.sl [], .sl []], .sl [rowPV [1, 2], rowPV [3, 3], rowPV [2, 2]]], .int .i64 0, .sl [.int .u64 1, .int .u64 2, .int .u64 3, .int .u64 3, .int .u64 2, .int .u64 2]] (.bool true) := lw_related _ _ [[1, 2], [3, 3], [2, 2]] (by decide) (by decide)
  have r5 : PureFn Try.prog 26 [.agg [.sl [fpv T, fpv T], .sl [.sl [.agg [.int .i64 0, fpv T]], .sl [.agg [.int .i64 0, fpv F]]], .sl [rowPV [1, 2]]], .int .i64 0, .sl [.int .u64 1, .int .u64 2]] (.bool true) := lw_related _ _ [[1, 2]] (by decide) (by decide)
  have s1 := (fm_Same NP NP).to (q := .bool true) (by rw [qNP, qP]; kernel_rfl)
  have s2 := (fm_Same L1 PN).to (q := .bool true) (by rw [qL1, qPN, qNR, qP, qR]; kernel_rfl)
  have s3 := (fm_Same F F).to (q := .bool true) (by rw [qF]; kernel_rfl)
  have w1 : PureFn Try.prog 29 [rowPV [15, 15, 15, 15], .sl [.int .u64 15, .int .u64 15, .int .u64 15, .int .u64 15]] (.bool true) := rs_Same [15, 15, 15, 15] (by decide)
  clear qP qR qT qF qNP qNR qPN qL0 qL1 qL4 qL5
  refine PureFn.introC [2, 3, 4, 5, 6, 7, 9] mixed (fn := Try.f6) rfl rfl rfl fun M w0 => ?_
  try conv=>whnf
  refine ⟨Unit, fun _ => [(1, .pv (fpv P)), (2, .pv (fpv R))], fun _ => 0, fun _ => [], ?_, ?_⟩
  · (try conv=>whnf);repeat' (first|(refine PureFn.dy hP rfl ?_;try conv=>whnf)|(refine PureFn.dy hR rfl ?_;try conv=>whnf)|fail)
    exact ⟨(), (by refine Wk.of ?_ ?_ rfl rfl rfl<;>repeat' (first|exact trivial|exact WkD.same _|refine ⟨?_, ?_⟩|fail))⟩
  rintro ⟨⟩
  refine ⟨Unit, fun _ => [(1, .pv (fpv P)), (2, .pv (fpv R)), (3, .ref 0 0), (4, .pv (.int .i64 0))], fun _ => 1, fun _ => [(0, .var [.pv (.sl [fpv P, fpv T]), .pv (.sl [.sl [], .sl []]), .pv (.sl [rowPV [1, 2], rowPV [2, 2]])])], ?_, ?_⟩
  · (try conv=>whnf);repeat' (first|(refine PureFn.dy h1 rfl ?_;try conv=>whnf)|fail)
    exact ⟨(), (by refine Wk.of ?_ ?_ rfl rfl rfl<;>repeat' (first|exact trivial|exact WkD.same _|exact WkO.same _ _ rfl|refine ⟨?_, ?_⟩|fail))⟩
  rintro ⟨⟩
  refine ⟨Unit, fun _ => [(1, .pv (fpv P)), (2, .pv (fpv R)), (3, .ref 0 0), (4, .pv (.int .i64 0)), (5, .ref 1 0), (6, .pv (.int .i64 0))], fun _ => 2, fun _ => [(0, .var [.pv (.sl [fpv P, fpv T]), .pv (.sl [.sl [], .sl []]), .pv (.sl [rowPV [1, 2], rowPV [2, 2]])]), (1, .var [.pv (.sl [fpv P, fpv NP]), .pv (.sl [.sl [], .sl []]), .pv (.sl [rowPV [3, 3], rowPV [1, 2]])])], ?_, ?_⟩
  · (try conv=>whnf);repeat' (first|(refine PureFn.dy h2 rfl ?_;try conv=>whnf)|fail)
    exact ⟨(), (by refine Wk.of ?_ ?_ rfl rfl rfl<;>repeat' (first|exact trivial|exact WkD.same _|exact WkO.same _ _ rfl|refine ⟨?_, ?_⟩|fail))⟩
  rintro ⟨⟩
  refine ⟨Unit, fun _ => [(1, .pv (fpv P)), (2, .pv (fpv R)), (3, .ref 0 0), (4, .pv (.int .i64 0)), (5, .ref 1 0), (6, .pv (.int .i64 0)), (7, .ref 2 0), (8, .pv (.int .i64 0))], fun _ => 3, fun _ => [(0, .var [.pv (.sl [fpv P, fpv T]), .pv (.sl [.sl [], .sl []]), .pv (.sl [rowPV [1, 2], rowPV [2, 2]])]), (1, .var [.pv (.sl [fpv P, fpv NP]), .pv (.sl [.sl [], .sl []]), .pv (.sl [rowPV [3, 3], rowPV [1, 2]])]), (2, .var [.pv (.sl [fpv P, fpv T]), .pv (.sl [.sl [], .sl []]), .pv (.sl [rowPV [1, 2], rowPV [3, 3], rowPV [2, 2]])])], ?_, ?_⟩
  · (try conv=>whnf);repeat' (first|(refine PureFn.dy h3 rfl ?_;try conv=>whnf)|fail)
    exact ⟨(), (by refine Wk.of ?_ ?_ rfl rfl rfl<;>repeat' (first|exact trivial|exact WkD.same _|exact WkO.same _ _ rfl|refine ⟨?_, ?_⟩|fail))⟩
  rintro ⟨⟩
  refine ⟨Unit, fun _ => [(1, .pv (fpv P)), (2, .pv (fpv R)), (3, .ref 0 0), (4, .pv (.int .i64 0)), (5, .ref 1 0), (6, .pv (.int .i64 0)), (7, .ref 2 0), (8, .pv (.int .i64 0)), (9, .ref 3 0), (10, .pv (.int .i64 0))], fun _ => 4, fun _ => [(0, .var [.pv (.sl [fpv P, fpv T]), .pv (.sl [.sl [], .sl []]), .pv (.sl [rowPV [1, 2], rowPV [2, 2]])]), (1, .var [.pv (.sl [fpv P, fpv NP]), .pv (.sl [.sl [], .sl []]), .pv (.sl [rowPV [3, 3], rowPV [1, 2]])]), (2, .var [.pv (.sl [fpv P, fpv T]), .pv (.sl [.sl [], .sl []]), .pv (.sl [rowPV [1, 2], rowPV [3, 3], rowPV [2, 2]])]), (3, .var [.pv (.sl [fpv L0, fpv L1, fpv L4, fpv L5]), .pv (.sl [.sl [], .sl [], .sl [], .sl []]), .pv (.sl [rowPV [15, 15, 15, 15]])])], ?_, ?_⟩
  · (try conv=>whnf);repeat' (first|(refine PureFn.dy h4 rfl ?_;try conv=>whnf)|fail)
    exact ⟨(), (by refine Wk.of ?_ ?_ rfl rfl rfl<;>repeat' (first|exact trivial|exact WkD.same _|exact WkO.same _ _ rfl|refine ⟨?_, ?_⟩|fail))⟩
  rintro ⟨⟩
  refine ⟨Unit, fun _ => [(1, .pv (fpv P)), (2, .pv (fpv R)), (3, .ref 0 0), (4, .pv (.int .i64 0)), (5, .ref 1 0), (6, .pv (.int .i64 0)), (7, .ref 2 0), (8, .pv (.int .i64 0)), (9, .ref 3 0), (10, .pv (.int .i64 0)), (11, .ref 4 0), (12, .pv (.int .i64 0))], fun _ => 5, fun _ => [(0, .var [.pv (.sl [fpv P, fpv T]), .pv (.sl [.sl [], .sl []]), .pv (.sl [rowPV [1, 2], rowPV [2, 2]])]), (1, .var [.pv (.sl [fpv P, fpv NP]), .pv (.sl [.sl [], .sl []]), .pv (.sl [rowPV [3, 3], rowPV [1, 2]])]), (2, .var [.pv (.sl [fpv P, fpv T]), .pv (.sl [.sl [], .sl []]), .pv (.sl [rowPV [1, 2], rowPV [3, 3], rowPV [2, 2]])]), (3, .var [.pv (.sl [fpv L0, fpv L1, fpv L4, fpv L5]), .pv (.sl [.sl [], .sl [], .sl [], .sl []]), .pv (.sl [rowPV [15, 15, 15, 15]])]), (4, .var [.pv (.sl [fpv T, fpv T]), .pv (.sl [.sl [.agg [.int .i64 0, fpv T]], .sl [.agg [.int .i64 0, fpv F]]]), .pv (.sl [rowPV [1, 2]])])], ?_, ?_⟩
  · (try conv=>whnf);repeat' (first|(refine PureFn.dy h5 rfl ?_;try conv=>whnf)|fail)
    exact ⟨(), (by refine Wk.of ?_ ?_ rfl rfl rfl<;>repeat' (first|exact trivial|exact WkD.same _|exact WkO.same _ _ rfl|refine ⟨?_, ?_⟩|fail))⟩
  rintro ⟨⟩
  refine ⟨Unit, fun _ => [(1, .pv (fpv P)), (2, .pv (fpv R)), (9, .ref 3 0), (10, .pv (.int .i64 0)), (11, .ref 4 0)], fun _ => 5, fun _ => [(3, .var [.pv (.sl [fpv L0, fpv L1, fpv L4, fpv L5]), .pv (.sl [.sl [], .sl [], .sl [], .sl []]), .pv (.sl [rowPV [15, 15, 15, 15]])]), (4, .var [.pv (.sl [fpv T, fpv T]), .pv (.sl [.sl [.agg [.int .i64 0, fpv T]], .sl [.agg [.int .i64 0, fpv F]]]), .pv (.sl [rowPV [1, 2]])])], ?_, ?_⟩
  · (try conv=>whnf);repeat' (first|(apply And.intro<;>try conv=>whnf)|(intro h;try conv=>whnf)|apply True.intro|(apply infoT;rfl)|(apply cellsI;rfl)|(apply WhenQ.mk;(try conv=>whnf);rotate_left;(try conv=>whnf);rotate_right)|with_reducible assumption|(apply not_of;with_reducible assumption)|(refine lin_plan (by kernel_rfl) ?_;try conv=>whnf)|(refine ⟨1, _, rfl, rfl, rfl, ?_⟩;try conv=>whnf)|(refine ⟨_, (by (conv=>whnf);exact r1), rfl, ?_⟩;try conv=>whnf)|(refine ⟨_, (by (conv=>whnf);exact r2), rfl, ?_⟩;try conv=>whnf)|(refine ⟨_, (by (conv=>whnf);exact r3), rfl, ?_⟩;try conv=>whnf)|(refine ⟨_, (by (conv=>whnf);exact r5), rfl, ?_⟩;try conv=>whnf)|(refine ⟨_, (by (conv=>whnf);exact hNP), rfl, ?_⟩;try conv=>whnf)|(refine ⟨_, (by (conv=>whnf);exact s1), rfl, ?_⟩;try conv=>whnf)|fail)
    · simp at h
    · exact ⟨(), (by refine Wk.of ?_ ?_ rfl rfl rfl<;>repeat' (first|exact trivial|exact WkD.same _|exact WkO.same _ _ rfl|refine ⟨?_, ?_⟩|fail))⟩
  rintro ⟨⟩
  (try conv=>whnf);repeat' (first|(apply And.intro<;>try conv=>whnf)|(intro h;try conv=>whnf)|apply True.intro|(apply infoT;rfl)|(apply cellsI;rfl)|(apply WhenQ.mk;(try conv=>whnf);rotate_left;(try conv=>whnf);rotate_right)|with_reducible assumption|(refine lin_plan (by kernel_rfl) ?_;try conv=>whnf)|(refine ⟨0, _, rfl, rfl, rfl, ?_⟩;try conv=>whnf)|(refine ⟨1, _, rfl, rfl, rfl, ?_⟩;try conv=>whnf)|(refine ⟨_, (by (conv=>whnf);exact hNR), rfl, ?_⟩;try conv=>whnf)|(refine ⟨_, (by (conv=>whnf);exact hPN), rfl, ?_⟩;try conv=>whnf)|(refine ⟨_, (by (conv=>whnf);exact s2), rfl, ?_⟩;try conv=>whnf)|(refine ⟨_, (by (conv=>whnf);exact s3), rfl, ?_⟩;try conv=>whnf)|(refine ⟨_, (by (conv=>whnf);exact hF), rfl, ?_⟩;try conv=>whnf)|(refine ⟨_, (by (conv=>whnf);exact w1), rfl, ?_⟩;try conv=>whnf)|fail)
  exact le_bool (by simp)
end Go.Proofs.Ytkjjoalphllolaa
set_option maxRecDepth 100000
namespace Go.Proofs.Ytkjjoalphllolaa
open Go Go.Dv

/-! the length of a number in bits -/
def len64 (x : Nat) : Nat := if x = 0 then 0 else Nat.log2 x + 1
theorem len64_lt {x k : Nat} : len64 x ≤ k ↔ x < 2 ^ k := by
  unfold len64
  by_cases h : x = 0
  · subst h; simp [Nat.two_pow_pos]
  · rw [if_neg h, ← Nat.log2_lt h]; omega
theorem len64_shift {x k : Nat} (h : 2 ^ k ≤ x) : len64 x = k + len64 (x >>> k) := by
  have key : ∀ j, len64 x ≤ k + j ↔ len64 (x >>> k) ≤ j := fun j => by
    rw [len64_lt, len64_lt, Nat.shiftRight_eq_div_pow, Nat.div_lt_iff_lt_mul (Nat.two_pow_pos k), Nat.pow_add, Nat.mul_comm]
  have h1 : k < len64 x := by
    rcases Nat.lt_or_ge k (len64 x) with q | q
    · exact q
    · have q2 : len64 x ≤ k := q
      rw [len64_lt] at q2; omega
  have h2 := (key (len64 x - k)).1 (by omega)
  have h3 := (key (len64 (x >>> k))).2 (Nat.le_refl _)
  omega

/-! errors -/
def chgs (ag n : Int) : List Asg → Int → Int
  | [], _ => 0
  | x :: r, last => bif (bif decide (x.fact < 0) then true else decide (x.fact ≥ n)) then 2 else bif decide (x.fact ≤ last) then 9 else bif statI ag n x.to != 0 then statI ag n x.to else chgs ag n r x.fact
def evs' (ag n : Int) : List (List Nd) → List (List Asg) → Int
  | [], _ => 0
  | f :: r, post => bif statI ag n f != 0 then statI ag n f else bif chgs ag n (post.headD []) (-1) != 0 then chgs ag n (post.headD []) (-1) else evs' ag n r post.tail
def rowsBad (rel : List (List Nat)) (n : Nat) : Bool := rel.any fun r => ((r.length : Int) != (n : Int))
def bitsBad (rel : List (List Nat)) (n : Nat) : Bool := rel.any fun r => r.any fun s => decide ((len64 s : Int) > (n : Int))
def shapeI (a : Act) (ag : Int) : Int :=
  bif (bif decide ((a.pre.length : Int) < 1) then true else decide ((a.pre.length : Int) > 8)) then 2 else
  bif (bif (bif (a.post.length : Int) != (a.pre.length : Int) then true else (a.rel.length : Int) != ag) then true else rowsBad a.rel a.pre.length) then 3 else bif bitsBad a.rel a.pre.length then 2 else 0
def actI (a : Act) (ag n : Int) : Int :=
  bif (bif bif bif decide (ag < 0) then true else decide (ag > 4) then true else decide (n < 0) then true else decide (n > 8)) then 2 else bif shapeI a ag != 0 then shapeI a ag else evs' ag n a.pre a.post
/-- The error of an action model by itself. -/
def aloneI (a : Act) : Int := actI a (a.rel.length : Int) 8
theorem shapeI_ok {a : Act} {ag : Int} (h : shapeI a ag = 0) : 1 ≤ a.pre.length ∧ a.pre.length ≤ 8 ∧ a.post.length = a.pre.length ∧ (a.rel.length : Int) = ag ∧ rowsBad a.rel a.pre.length = false ∧ bitsBad a.rel a.pre.length = false := by
  unfold shapeI at h
  cases h1 : (bif decide ((a.pre.length : Int) < 1) then true else decide ((a.pre.length : Int) > 8)) with
  | true => rw [h1] at h; cases h
  | false =>
    rw [h1] at h
    cases h2 : (bif (bif (a.post.length : Int) != (a.pre.length : Int) then true else (a.rel.length : Int) != ag) then true else rowsBad a.rel a.pre.length) with
    | true => rw [h2] at h; cases h
    | false =>
      rw [h2] at h
      cases h3 : bitsBad a.rel a.pre.length with
      | true => rw [h3] at h; cases h
      | false =>
        cases h4 : ((a.post.length : Int) != (a.pre.length : Int)) with
        | true => rw [h4] at h2; cases h2
        | false =>
          rw [h4] at h2
          cases h5 : ((a.rel.length : Int) != ag) with
          | true => rw [h5] at h2; cases h2
          | false =>
            rw [h5] at h2
            by_cases h6 : (a.pre.length : Int) < 1
            · rw [decide_eq_true h6] at h1; cases h1
            · rw [decide_eq_false h6] at h1
              by_cases h7 : (a.pre.length : Int) > 8
              · rw [decide_eq_true h7] at h1; cases h1
              · have h8 : (a.post.length : Int) = a.pre.length := by simpa using h4
                exact ⟨by omega, by omega, by omega, by simpa using h5, h2, rfl⟩
theorem rows_ok {rel : List (List Nat)} {n : Nat} (h : rowsBad rel n = false) : ∀ r, r ∈ rel → r.length = n := by
  intro r hr
  have := List.any_eq_false.1 h r hr
  have h2 : ((r.length : Int) != (n : Int)) = false := by simpa using this
  have h3 : (r.length : Int) = (n : Int) := by simpa using h2
  omega
theorem bits_ok {rel : List (List Nat)} {n : Nat} (h : bitsBad rel n = false) : ∀ r, r ∈ rel → ∀ s, s ∈ r → s < 2 ^ n := by
  intro r hr s hs
  have h1 := List.any_eq_false.1 h r hr
  rw [← len64_lt]
  rcases Nat.lt_or_ge n (len64 s) with q | q
  · exact absurd (List.any_eq_true.2 ⟨s, hs, decide_eq_true (by omega)⟩) h1
  · exact q
/-- What an action model consists of that is without error. -/
structure OkA (a : Act) (ag n : Int) : Prop where
  ags : ag = (a.rel.length : Int)
  agn : a.rel.length ≤ 4
  n1 : 1 ≤ a.pre.length
  n8 : a.pre.length ≤ 8
  post : a.post.length = a.pre.length
  rows : ∀ r, r ∈ a.rel → r.length = a.pre.length
  bits : ∀ r, r ∈ a.rel → ∀ s, s ∈ r → s < 2 ^ a.pre.length
  ev : evs' ag n a.pre a.post = 0
theorem actI_ok {a : Act} {ag n : Int} (h : actI a ag n = 0) : OkA a ag n := by
  unfold actI at h
  cases h1 : (bif bif bif decide (ag < 0) then true else decide (ag > 4) then true else decide (n < 0) then true else decide (n > 8)) with
  | true => rw [h1] at h; cases h
  | false =>
    rw [h1] at h
    cases h2 : (shapeI a ag != 0) with
    | true => rw [h2] at h; simp only [cond_false, cond_true] at h; rw [h] at h2; cases h2
    | false =>
      rw [h2] at h
      obtain ⟨s1, s2, s3, s4, s5, s6⟩ := shapeI_ok (a := a) (ag := ag) (by simpa using h2)
      have h4 : ¬ ag > 4 := by
        intro hh
        by_cases h5 : ag < 0
        · omega
        · rw [decide_eq_false h5, decide_eq_true hh] at h1; cases h1
      exact ⟨s4.symm, by omega, s1, s2, s3, rows_ok s5, bits_ok s6, h⟩
theorem evs_drop {ag n : Int} {pre : List (List Nd)} {post : List (List Asg)} {i : Nat} (h : i < pre.length) (h2 : i < post.length) :
    evs' ag n (pre.drop i) (post.drop i) = bif statI ag n pre[i] != 0 then statI ag n pre[i] else bif chgs ag n post[i] (-1) != 0 then chgs ag n post[i] (-1) else evs' ag n (pre.drop (i + 1)) (post.drop (i + 1)) := by
  rw [List.drop_eq_getElem_cons h, List.drop_eq_getElem_cons h2]; rfl
theorem chgs_drop {ag n last : Int} {l : List Asg} {i : Nat} (h : i < l.length) :
    chgs ag n (l.drop i) last = bif (bif decide (l[i].fact < 0) then true else decide (l[i].fact ≥ n)) then 2 else bif decide (l[i].fact ≤ last) then 9 else bif statI ag n l[i].to != 0 then statI ag n l[i].to else chgs ag n (l.drop (i + 1)) l[i].fact := by
  rw [List.drop_eq_getElem_cons h]; rfl
/-- All numbers of a relation fit a word. -/
def Fit (a : Act) : Prop := ∀ r, r ∈ a.rel → ∀ s, s ∈ r → s < 2 ^ 64
end Go.Proofs.Ytkjjoalphllolaa
set_option maxRecDepth 100000
set_option maxHeartbeats 4000000
namespace Go.Proofs.Ytkjjoalphllolaa
open Go Go.Dv

theorem shr_lt {x k m : Nat} (h : x < 2 ^ (k + m)) : x >>> k < 2 ^ m := by
  rw [Nat.shiftRight_eq_div_pow]
  exact Nat.div_lt_of_lt_mul (by rw [← Nat.pow_add]; exact h)
theorem bits_Len64 (x : Nat) (hx : x < 2 ^ 64) : PureFn Try.prog 89 [u64 x] (.int .i64 (len64 x : Nat)) := by
  refine PureFn.introC [4, 7, 10] mixed (fn := Try.f89) rfl rfl rfl fun M w0 => ?_
  try conv=>whnf
  refine ⟨{ q : Nat × Nat // q.1 < 2 ^ 32 ∧ q.2 ≤ 32 ∧ len64 x = q.2 + len64 q.1 }, fun q => [(0, .pv (u64 q.1.1)), (2, .pv (i64 q.1.2))], fun _ => 0, fun _ => [], ?_, ?_⟩
  · (try conv=>whnf);repeat' (first|(apply And.intro<;>try conv=>whnf)|(intro h;try conv=>whnf)|fail)
    · exact Int.natCast_nonneg 32
    · have h1 : 2 ^ 32 ≤ x := by have := of_decide_eq_true h; omega
      refine ⟨⟨(x >>> 32, 32), shr_lt hx, by omega, len64_shift h1⟩, ?_⟩
      (refine Wk.of ?_ ?_ rfl rfl rfl<;>repeat' (first|exact trivial|exact WkD.same _|refine WkD.int ?_|refine ⟨?_, ?_⟩|fail))
      exact shrU_nat x 32 (by omega)
    · have h1 : ¬ 2 ^ 32 ≤ x := by have := of_decide_eq_false h; omega
      refine ⟨⟨(x, 0), by omega, by omega, by simp⟩, ?_⟩
      (refine Wk.of ?_ ?_ rfl rfl rfl<;>repeat' (first|exact trivial|exact WkD.same _|refine ⟨?_, ?_⟩|fail))
  rintro ⟨⟨y, n⟩, hy, hn, he⟩
  simp only at hy hn he
  refine ⟨{ q : Nat × Nat // q.1 < 2 ^ 16 ∧ q.2 ≤ 48 ∧ len64 x = q.2 + len64 q.1 }, fun q => [(0, .pv (u64 q.1.1)), (2, .pv (i64 q.1.2))], fun _ => 0, fun _ => [], ?_, ?_⟩
  · (try conv=>whnf);repeat' (first|(apply And.intro<;>try conv=>whnf)|(intro h;try conv=>whnf)|fail)
    · exact Int.natCast_nonneg 16
    · have h1 : 2 ^ 16 ≤ y := by have := of_decide_eq_true h; simp only at *; omega
      have h2 := len64_shift h1
      refine ⟨⟨(y >>> 16, n + 16), shr_lt hy, by simp only at *; omega, by simp only at *; omega⟩, ?_⟩
      (refine Wk.of ?_ ?_ rfl rfl rfl<;>repeat' (first|exact trivial|refine WkD.int ?_|refine ⟨?_, ?_⟩|(refine wrapA ?_ ?_ ?_;(focus simp;done);(focus (try dsimp only);omega);(focus (try dsimp only);omega))|fail))
      all_goals first | exact shrU_nat y 16 (by omega) | exact (wrap_small (by simp only at *; omega) (by simp only at *; omega)).trans (by simp)
    · have h1 : ¬ 2 ^ 16 ≤ y := by have := of_decide_eq_false h; simp only at *; omega
      exact ⟨⟨(y, n), by simp only at *; omega, by simp only at *; omega, he⟩, (by refine Wk.of ?_ ?_ rfl rfl rfl<;>repeat' (first|exact trivial|exact WkD.same _|refine ⟨?_, ?_⟩|fail))⟩
  rintro ⟨⟨y, n⟩, hy, hn, he⟩
  simp only at hy hn he
  refine ⟨{ q : Nat × Nat // q.1 < 2 ^ 8 ∧ q.2 ≤ 56 ∧ len64 x = q.2 + len64 q.1 }, fun q => [(0, .pv (u64 q.1.1)), (2, .pv (i64 q.1.2))], fun _ => 0, fun _ => [], ?_, ?_⟩
  · (try conv=>whnf);repeat' (first|(apply And.intro<;>try conv=>whnf)|(intro h;try conv=>whnf)|fail)
    · exact Int.natCast_nonneg 8
    · have h1 : 2 ^ 8 ≤ y := by have := of_decide_eq_true h; simp only at *; omega
      have h2 := len64_shift h1
      refine ⟨⟨(y >>> 8, n + 8), shr_lt hy, by simp only at *; omega, by simp only at *; omega⟩, ?_⟩
      (refine Wk.of ?_ ?_ rfl rfl rfl<;>repeat' (first|exact trivial|refine WkD.int ?_|refine ⟨?_, ?_⟩|(refine wrapA ?_ ?_ ?_;(focus simp;done);(focus (try dsimp only);omega);(focus (try dsimp only);omega))|fail))
      all_goals first | exact shrU_nat y 8 (by omega) | exact (wrap_small (by simp only at *; omega) (by simp only at *; omega)).trans (by simp)
    · have h1 : ¬ 2 ^ 8 ≤ y := by have := of_decide_eq_false h; simp only at *; omega
      exact ⟨⟨(y, n), by simp only at *; omega, by simp only at *; omega, he⟩, (by refine Wk.of ?_ ?_ rfl rfl rfl<;>repeat' (first|exact trivial|exact WkD.same _|refine ⟨?_, ?_⟩|fail))⟩
  rintro ⟨⟨y, n⟩, hy, hn, he⟩
  simp only at hy hn he
  try conv=>whnf
  refine ⟨y, len64 y, ?_, ?_, ?_⟩
  · have h1 : IntKind.wrap .u8 (y : Int) = (y : Int) % 256 := rfl
    exact h1.trans (Int.emod_eq_of_lt (by omega) (by omega))
  · clear he
    revert y
    decide +kernel
  try conv=>whnf
  have h8 : len64 y ≤ 8 := len64_lt.2 hy
  refine le_int ?_
  have e : IntKind.wrap .i64 ((n : Int) + IntKind.wrap .i64 (len64 y : Nat)) = ((len64 x : Nat) : Int) := by
    rw [wrap_small (n := ((len64 y : Nat) : Int)) (by omega) (by omega), wrap_small (by omega) (by omega), he]; omega
  exact e
theorem ac_changes (l : List Asg) (ag n : Int) (hl : l.length ≤ 1000) : PureFn Try.prog 76 [postPV l, .int .i64 ag, .int .i64 n] (.int .i64 (chgs ag n l (-1))) := by
  refine PureFn.intro mixed (fn := Try.f76) rfl rfl rfl fun M w0 => ?_
  try conv=>whnf
  refine ⟨{ q : Nat × Int // q.1 ≤ l.length ∧ chgs ag n l (-1) = chgs ag n (l.drop q.1) q.2 }, fun q => [(1, .pv (.int .i64 ag)), (2, .pv (.int .i64 n)), (7, .pv (.int .i64 q.1.2)), (11, .pv (postPV l)), (12, .pv (i64 (l.map Asg.pv).length)), (13, .pv (i64 q.1.1))], fun _ => 0, fun _ => [], fun q => l.length - q.1.1, ⟨⟨(0, -1), Nat.zero_le _, rfl⟩, (by refine Wk.of ?_ ?_ rfl rfl rfl<;>repeat' (first|exact trivial|exact WkD.same _|refine ⟨?_, ?_⟩|fail))⟩, ?_⟩
  rintro ⟨⟨i, last⟩, hi, he⟩
  simp only at hi he
  (try conv=>whnf);repeat' (first|(apply And.intro<;>try conv=>whnf)|(intro h;try conv=>whnf)|(apply infoT;rfl)|fail)
  · have hi' : i < l.length := by simpa using lt_dec h
    have hn : l[i]? = some l[i] := List.getElem?_eq_getElem hi'
    have hS := ac_static l[i].to ag n
    rw [chgs_drop hi'] at he
    refine ⟨_, _, rfl, idx_map hn, rfl, ?_⟩
    (try conv=>whnf);repeat' (first|(apply And.intro<;>try conv=>whnf)|(intro h;try conv=>whnf)|apply True.intro|(apply WhenQ.mk;(try conv=>whnf);rotate_left;(try conv=>whnf);rotate_right)|with_reducible assumption|(apply not_of;with_reducible assumption)|(refine PureFn.dy hS rfl ?_;try conv=>whnf)|fail)
    · refine le_int ?_
      rw [he, show (bif decide (l[i].fact < 0) then true else decide (l[i].fact ≥ n)) = true from h]; rfl
    · rename_i h1
      refine le_int ?_
      rw [he, show (bif decide (l[i].fact < 0) then true else decide (l[i].fact ≥ n)) = false from h1, show decide (l[i].fact ≤ last) = true from h]; rfl
    · rename_i h2 h1
      refine le_int ?_
      rw [he, show (bif decide (l[i].fact < 0) then true else decide (l[i].fact ≥ n)) = false from h2, show decide (l[i].fact ≤ last) = false from h1, h]; rfl
    · rename_i h2 h1
      rw [show (bif decide (l[i].fact < 0) then true else decide (l[i].fact ≥ n)) = false from h2, show decide (l[i].fact ≤ last) = false from h1, h] at he
      exact ⟨⟨(i + 1, l[i].fact), hi', he⟩, by show l.length - (i + 1) < l.length - i; omega, (by refine Wk.of ?_ ?_ rfl rfl rfl<;>repeat' (first|exact trivial|exact WkD.same _|refine WkD.int ?_|refine ⟨?_, ?_⟩|(refine wrapA ?_ ?_ ?_;(focus simp;done);(focus (try dsimp only);omega);(focus (try dsimp only);omega))|fail))⟩
  · have hi' : i = l.length := by have := ge_dec (m := (l.map Asg.pv).length) h (by simpa using hi); simpa using this
    subst hi'
    rw [he, List.drop_eq_nil_of_le (Nat.le_refl _)]; exact .refl _
def HS (a : Act) : List (Nat × DObj) := [(0, .var (cellsA a)), (1, .var [.pv (i64 a.pre.length)])]
theorem shp1 {M : Nat → Prop} {w0 : W0} (a : Act) (r : List Nat) (base : Nat) (K : DV → DH → Prop) (hK : K (.pv (.bool ((r.length : Int) != (a.pre.length : Int)))) ⟨2, 0, base, objsOf (HS a)⟩) :
    DC Try.prog M w0 88 [.pv (rowPV r), .ref 1 0] ⟨2, 0, base, objsOf (HS a)⟩ K := by
  refine DC.intro mixed (fn := Try.f88) rfl rfl rfl ?_
  have e : ((r.map u64).length : Int) = (r.length : Int) := by simp
  rw [← e] at hK
  try conv=>whnf
  exact hK
theorem idx_S {M : Nat → Prop} {w0 : W0} (a : Act) (rows : List (List Nat)) (hl : rows.length ≤ 1000) (hr : ∀ r, r ∈ rows → True) (base : Nat) (K : DV → DH → Prop) (hK : ∀ r : Int, decide (r ≥ 0) = rows.any (fun r => ((r.length : Int) != (a.pre.length : Int))) → K (.pv (.int .i64 r)) ⟨2, 0, base, objsOf (HS a)⟩) :
    DC Try.prog M w0 68 [.pv (.sl (rows.map rowPV)), .clo 88 [] [.ref 1 0]] ⟨2, 0, base, objsOf (HS a)⟩ K := by
  refine DC.weaken (DC.intro mixed (fn := Try.f68) rfl rfl rfl ?_)
  try conv=>whnf
  refine ⟨{ i : Nat // i ≤ rows.length ∧ (rows.take i).any (fun r => ((r.length : Int) != (a.pre.length : Int))) = false }, fun i => [(0, .pv (.sl (rows.map rowPV))), (1, .clo 88 [] [.ref 1 0]), (7, .pv (i64 (rows.map rowPV).length)), (8, .pv (i64 i.1))], fun _ => 2, fun _ => HS a, fun i => rows.length - i.1, ⟨⟨0, Nat.zero_le _, rfl⟩, (by refine Wk.of ?_ ?_ rfl rfl rfl<;>repeat' (first|exact trivial|exact WkD.same _|exact WkO.same _ _ rfl|refine ⟨?_, ?_⟩|fail))⟩, ?_⟩
  rintro ⟨i, hi, ha⟩
  (try conv=>whnf);repeat' (first|(apply And.intro<;>try conv=>whnf)|(intro h;try conv=>whnf)|(apply infoT;rfl)|fail)
  · have hi' : i < rows.length := by simpa using lt_dec h
    have hn : rows[i]? = some rows[i] := List.getElem?_eq_getElem hi'
    have _hri := hr _ (List.getElem_mem hi')
    refine ⟨_, _, rfl, idx_map hn, rfl, ?_⟩
    try conv=>whnf
    refine shp1 a rows[i] _ _ ?_
    (try conv=>whnf);repeat' (first|(apply And.intro<;>try conv=>whnf)|(intro h;try conv=>whnf)|fail)
    · have e : rows.any (fun r => ((r.length : Int) != (a.pre.length : Int))) = true := any_at hi' h
      exact ⟨.pv (.int .i64 (i : Int)), 2, HS a, (by refine Wk.of ?_ ?_ rfl rfl rfl<;>repeat' (first|exact trivial|exact WkD.same _|exact WkO.same _ _ rfl|refine ⟨?_, ?_⟩|fail)), hK i (by rw [e]; simp)⟩
    · exact ⟨⟨i + 1, hi', any_take hi' ha h⟩, by show rows.length - (i + 1) < rows.length - i; omega, (by refine Wk.of ?_ ?_ rfl rfl rfl<;>repeat' (first|exact trivial|exact WkD.same _|exact WkO.same _ _ rfl|refine WkD.int ?_|refine ⟨?_, ?_⟩|(refine wrapA ?_ ?_ ?_;(focus simp;done);(focus (try dsimp only);omega);(focus (try dsimp only);omega))|fail))⟩
  · have hi' : i = rows.length := by have := ge_dec (m := (rows.map rowPV).length) h (by simpa using hi); simpa using this
    subst hi'
    rw [List.take_length] at ha
    exact ⟨.pv (.int .i64 (-1)), 2, HS a, (by refine Wk.of ?_ ?_ rfl rfl rfl<;>repeat' (first|exact trivial|exact WkD.same _|exact WkO.same _ _ rfl|refine ⟨?_, ?_⟩|fail)), hK (-1) (by rw [ha]; decide)⟩
theorem cont_S {M : Nat → Prop} {w0 : W0} (a : Act) (rows : List (List Nat)) (hl : rows.length ≤ 1000) (hr : ∀ r, r ∈ rows → True) (base : Nat) (K : DV → DH → Prop) (hK : K (.pv (.bool (rows.any (fun r => ((r.length : Int) != (a.pre.length : Int)))))) ⟨2, 0, base, objsOf (HS a)⟩) :
    DC Try.prog M w0 48 [.pv (.sl (rows.map rowPV)), .clo 88 [] [.ref 1 0]] ⟨2, 0, base, objsOf (HS a)⟩ K := by
  refine DC.intro mixed (fn := Try.f48) rfl rfl rfl ?_
  try conv=>whnf
  refine idx_S a rows hl hr 2 _ fun r e => ?_
  rw [← e] at hK
  try conv=>whnf
  exact hK
theorem ac_shape (a : Act) (ag : Int) (hf : Fit a) (hl : a.rel.length ≤ 1000) : PureFn Try.prog 74 [a.pv, .int .i64 ag] (.int .i64 (shapeI a ag)) := by
  refine PureFn.introC [2, 4, 6] mixed (fn := Try.f74) rfl rfl rfl fun M w0 => ?_
  have e1 : ((a.pre.map fpv).length : Int) = (a.pre.length : Int) := by simp
  have e2 : ((a.post.map postPV).length : Int) = (a.post.length : Int) := by simp
  have e3 : ((a.rel.map rowPV).length : Int) = (a.rel.length : Int) := by simp
  try conv=>whnf
  refine ⟨Unit, fun _ => [(1, .pv (.int .i64 ag)), (2, .ref 0 0), (5, .ref 1 0)], fun _ => 2, fun _ => HS a, ?_, ?_⟩
  · try conv=>whnf
    refine ⟨(), ?_⟩
    (refine Wk.of ?_ ?_ rfl rfl rfl<;>repeat' (first|exact trivial|exact WkD.same _|exact WkO.same _ _ rfl|refine WkD.int ?_|refine WkO.vars rfl ?_|refine ⟨?_, ?_⟩|fail))
    exact e1
  rintro ⟨⟩
  refine ⟨{ _x : Unit // (bif decide ((a.pre.length : Int) < 1) then true else decide ((a.pre.length : Int) > 8)) = false }, fun _ => [(1, .pv (.int .i64 ag)), (2, .ref 0 0), (5, .ref 1 0)], fun _ => 2, fun _ => HS a, ?_, ?_⟩
  · (try conv=>whnf);repeat' (first|(apply And.intro<;>try conv=>whnf)|(intro h;try conv=>whnf)|apply True.intro|(apply WhenQ.mk;(try conv=>whnf);rotate_left;(try conv=>whnf);rotate_right)|with_reducible assumption|(apply not_of;with_reducible assumption)|fail)
    · refine le_int ?_
      rw [shapeI, show (bif decide ((a.pre.length : Int) < 1) then true else decide ((a.pre.length : Int) > 8)) = true from h]; rfl
    · exact ⟨⟨(), h⟩, (by refine Wk.of ?_ ?_ rfl rfl rfl<;>repeat' (first|exact trivial|exact WkD.same _|exact WkO.same _ _ rfl|refine ⟨?_, ?_⟩|fail))⟩
  rintro ⟨_, h1⟩
  refine ⟨{ _x : Unit // (bif (bif (a.post.length : Int) != (a.pre.length : Int) then true else (a.rel.length : Int) != ag) then true else rowsBad a.rel a.pre.length) = false }, fun _ => [(2, .ref 0 0), (5, .ref 1 0)], fun _ => 2, fun _ => HS a, ?_, ?_⟩
  · (try conv=>whnf);repeat' (first|(apply And.intro<;>try conv=>whnf)|(intro h;try conv=>whnf)|apply True.intro|(apply WhenQ.mk;(try conv=>whnf);rotate_left;(try conv=>whnf);rotate_right)|with_reducible assumption|(apply not_of;with_reducible assumption)|fail)
    · refine cont_S a a.rel hl (fun _ _ => trivial) 0 _ ?_
      (try conv=>whnf);repeat' (first|(apply And.intro<;>try conv=>whnf)|fail)
    · (try conv=>whnf);repeat' (first|(apply And.intro<;>try conv=>whnf)|(intro h;try conv=>whnf)|(apply not_of;with_reducible assumption)|fail)
      · have h3 : (bif (bif (a.post.length : Int) != (a.pre.length : Int) then true else (a.rel.length : Int) != ag) then true else rowsBad a.rel a.pre.length) = true := by rw [← e2, ← e3]; exact h
        refine le_int ?_
        rw [shapeI, h1, h3]; rfl
      · have h3 : (bif (bif (a.post.length : Int) != (a.pre.length : Int) then true else (a.rel.length : Int) != ag) then true else rowsBad a.rel a.pre.length) = false := by rw [← e2, ← e3]; exact h
        exact ⟨⟨(), h3⟩, (by refine Wk.of ?_ ?_ rfl rfl rfl<;>repeat' (first|exact trivial|exact WkD.same _|exact WkO.same _ _ rfl|refine ⟨?_, ?_⟩|fail))⟩
  rintro ⟨_, h2⟩
  have hsh : shapeI a ag = bif bitsBad a.rel a.pre.length then 2 else 0 := by rw [shapeI, h1, h2]; rfl
  have hrw : rowsBad a.rel a.pre.length = false := by
    cases h4 : rowsBad a.rel a.pre.length with
    | false => rfl
    | true =>
      rw [h4] at h2
      cases hh : (bif (a.post.length : Int) != (a.pre.length : Int) then true else (a.rel.length : Int) != ag) <;> rw [hh] at h2 <;> cases h2
  have hrow := rows_ok hrw
  have hn8 : a.pre.length ≤ 8 := by
    by_cases h6 : (a.pre.length : Int) < 1
    · omega
    · rw [decide_eq_false h6] at h1
      have := of_decide_eq_false h1
      omega
  rw [hsh]
  try conv=>whnf
  refine ⟨{ i : Nat // i ≤ a.rel.length ∧ bitsBad (a.rel.take i) a.pre.length = false }, fun i => [(2, .ref 0 0), (5, .ref 1 0), (38, .pv (.sl (a.rel.map rowPV))), (39, .pv (i64 (a.rel.map rowPV).length)), (40, .pv (i64 i.1))], fun _ => 2, fun _ => HS a, fun i => a.rel.length - i.1, ⟨⟨0, Nat.zero_le _, rfl⟩, (by refine Wk.of ?_ ?_ rfl rfl rfl<;>repeat' (first|exact trivial|exact WkD.same _|exact WkO.same _ _ rfl|refine ⟨?_, ?_⟩|fail))⟩, ?_⟩
  rintro ⟨i, hi, hb⟩
  (try conv=>whnf);repeat' (first|(apply And.intro<;>try conv=>whnf)|(intro h;try conv=>whnf)|(apply infoT;rfl)|fail)
  · have hi' : i < a.rel.length := by simpa using lt_dec h
    have hn : a.rel[i]? = some a.rel[i] := List.getElem?_eq_getElem hi'
    have hri := hrow _ (List.getElem_mem hi')
    have hfi := hf _ (List.getElem_mem hi')
    have hat := fun (hh : (a.rel[i]).any (fun s => decide ((len64 s : Int) > (a.pre.length : Int))) = true) => any_at (p := fun r : List Nat => r.any fun s => decide ((len64 s : Int) > (a.pre.length : Int))) hi' hh
    have htk := any_take (p := fun r : List Nat => r.any fun s => decide ((len64 s : Int) > (a.pre.length : Int))) hi' hb
    refine ⟨_, _, rfl, idx_map hn, rfl, ?_⟩
    generalize a.rel[i] = r at hn hri hfi hat htk
    try conv=>whnf
    refine ⟨{ j : Nat // j ≤ r.length ∧ (r.take j).any (fun s => decide ((len64 s : Int) > (a.pre.length : Int))) = false }, fun j => [(2, .ref 0 0), (5, .ref 1 0), (38, .pv (.sl (a.rel.map rowPV))), (39, .pv (i64 (a.rel.map rowPV).length)), (40, .pv (i64 i)), (44, .pv (rowPV r)), (45, .pv (i64 (r.map u64).length)), (46, .pv (i64 j.1))], fun _ => 2, fun _ => HS a, fun j => r.length - j.1, ⟨⟨0, Nat.zero_le _, rfl⟩, (by refine Wk.of ?_ ?_ rfl rfl rfl<;>repeat' (first|exact trivial|exact WkD.same _|exact WkO.same _ _ rfl|refine ⟨?_, ?_⟩|fail))⟩, ?_⟩
    rintro ⟨j, hj, hc⟩
    (try conv=>whnf);repeat' (first|(apply And.intro<;>try conv=>whnf)|(intro h;try conv=>whnf)|(apply infoT;rfl)|fail)
    · have hj' : j < r.length := by simpa using lt_dec h
      have hm : r[j]? = some r[j] := List.getElem?_eq_getElem hj'
      have hL := bits_Len64 r[j] (hfi _ (List.getElem_mem hj'))
      refine ⟨_, _, rfl, idx_map hm, rfl, ?_⟩
      (try conv=>whnf);repeat' (first|(apply And.intro<;>try conv=>whnf)|(intro h;try conv=>whnf)|(refine lin_plan (by kernel_rfl) ?_;try conv=>whnf)|(refine ⟨_, (by (conv=>whnf);exact hL), rfl, ?_⟩;try conv=>whnf)|fail)
      · have e : r.any (fun s => decide ((len64 s : Int) > (a.pre.length : Int))) = true := any_at hj' h
        rw [show bitsBad a.rel a.pre.length = true from hat e]; exact .refl _
      · exact ⟨⟨j + 1, hj', any_take hj' hc h⟩, by show r.length - (j + 1) < r.length - j; omega, (by refine Wk.of ?_ ?_ rfl rfl rfl<;>repeat' (first|exact trivial|exact WkD.same _|exact WkO.same _ _ rfl|refine WkD.int ?_|refine ⟨?_, ?_⟩|(refine wrapA ?_ ?_ ?_;(focus simp;done);(focus (try dsimp only);omega);(focus (try dsimp only);omega))|fail))⟩
    · have hj' : j = r.length := by have := ge_dec (m := (r.map u64).length) h (by simpa using hj); simpa using this
      subst hj'
      rw [List.take_length] at hc
      exact ⟨⟨i + 1, hi', htk hc⟩, by show a.rel.length - (i + 1) < a.rel.length - i; omega, (by refine Wk.of ?_ ?_ rfl rfl rfl<;>repeat' (first|exact trivial|exact WkD.same _|exact WkO.same _ _ rfl|refine WkD.int ?_|refine ⟨?_, ?_⟩|(refine wrapA ?_ ?_ ?_;(focus simp;done);(focus (try dsimp only);omega);(focus (try dsimp only);omega))|fail))⟩
  · have hi' : i = a.rel.length := by have := ge_dec (m := (a.rel.map rowPV).length) h (by simpa using hi); simpa using this
    subst hi'
    rw [List.take_length] at hb
    rw [hb]; exact .refl _
theorem ac_Check (a : Act) (ag n : Int) (hf : Fit a) (hl : a.rel.length ≤ 1000) (hp : ∀ l, l ∈ a.post → l.length ≤ 1000) : PureFn Try.prog 58 [a.pv, .int .i64 ag, .int .i64 n] (.int .i64 (actI a ag n)) := by
  refine PureFn.introC [3, 6] mixed (fn := Try.f58) rfl rfl rfl fun M w0 => ?_
  have hS := ac_shape a ag hf hl
  try conv=>whnf
  refine ⟨{ _x : Unit // (bif bif bif decide (ag < 0) then true else decide (ag > 4) then true else decide (n < 0) then true else decide (n > 8)) = false }, fun _ => [(1, .pv (.int .i64 ag)), (2, .pv (.int .i64 n)), (3, .ref 0 0)], fun _ => 1, fun _ => [(0, .var (cellsA a))], ?_, ?_⟩
  · (try conv=>whnf);repeat' (first|(apply And.intro<;>try conv=>whnf)|(intro h;try conv=>whnf)|apply True.intro|(apply WhenQ.mk;(try conv=>whnf);rotate_left;(try conv=>whnf);rotate_right)|with_reducible assumption|(apply not_of;with_reducible assumption)|fail)
    · refine le_int ?_
      rw [actI, show (bif bif bif decide (ag < 0) then true else decide (ag > 4) then true else decide (n < 0) then true else decide (n > 8)) = true from h]; rfl
    · exact ⟨⟨(), h⟩, (by refine Wk.of ?_ ?_ rfl rfl rfl<;>repeat' (first|exact trivial|exact WkD.same _|exact WkO.same _ _ rfl|refine ⟨?_, ?_⟩|fail))⟩
  rintro ⟨_, h1⟩
  refine ⟨{ _x : Unit // (shapeI a ag != 0) = false }, fun _ => [(1, .pv (.int .i64 ag)), (2, .pv (.int .i64 n)), (3, .ref 0 0)], fun _ => 1, fun _ => [(0, .var (cellsA a))], ?_, ?_⟩
  · (try conv=>whnf);repeat' (first|(apply And.intro<;>try conv=>whnf)|(intro h;try conv=>whnf)|(refine PureFn.dy hS rfl ?_;try conv=>whnf)|fail)
    · refine le_int ?_
      rw [actI, h1, h]; rfl
    · exact ⟨⟨(), h⟩, (by refine Wk.of ?_ ?_ rfl rfl rfl<;>repeat' (first|exact trivial|exact WkD.same _|exact WkO.same _ _ rfl|refine ⟨?_, ?_⟩|fail))⟩
  rintro ⟨_, h2⟩
  obtain ⟨_, n8, npost, _, _, _⟩ := shapeI_ok (a := a) (ag := ag) (by simpa using h2)
  have hact : actI a ag n = evs' ag n a.pre a.post := by rw [actI, h1, h2]; rfl
  rw [hact]
  try conv=>whnf
  refine ⟨{ i : Nat // i ≤ a.pre.length ∧ evs' ag n a.pre a.post = evs' ag n (a.pre.drop i) (a.post.drop i) }, fun i => [(1, .pv (.int .i64 ag)), (2, .pv (.int .i64 n)), (3, .ref 0 0), (33, .pv (.sl (a.pre.map fpv))), (34, .pv (i64 (a.pre.map fpv).length)), (35, .pv (i64 i.1))], fun _ => 1, fun _ => [(0, .var (cellsA a))], fun i => a.pre.length - i.1, ⟨⟨0, Nat.zero_le _, rfl⟩, (by refine Wk.of ?_ ?_ rfl rfl rfl<;>repeat' (first|exact trivial|exact WkD.same _|exact WkO.same _ _ rfl|refine ⟨?_, ?_⟩|fail))⟩, ?_⟩
  rintro ⟨i, hi, he⟩
  (try conv=>whnf);repeat' (first|(apply And.intro<;>try conv=>whnf)|(intro h;try conv=>whnf)|(apply infoT;rfl)|fail)
  · have hi' : i < a.pre.length := by simpa using lt_dec h
    have hn : a.pre[i]? = some a.pre[i] := List.getElem?_eq_getElem hi'
    have hm : a.post[i]? = some a.post[i] := List.getElem?_eq_getElem (by omega)
    have hT := ac_static a.pre[i] ag n
    have hC := ac_changes a.post[i] ag n (hp _ (List.getElem_mem (by omega)))
    rw [evs_drop hi' (by omega)] at he
    refine ⟨_, _, rfl, idx_map hn, rfl, ?_⟩
    (try conv=>whnf);repeat' (first|(apply And.intro<;>try conv=>whnf)|(intro h;try conv=>whnf)|(apply infoT;rfl)|(refine ⟨_, _, rfl, idx_map (by with_reducible assumption), rfl, ?_⟩;try conv=>whnf)|(refine PureFn.dy hT rfl ?_;try conv=>whnf)|(refine PureFn.dy hC rfl ?_;try conv=>whnf)|fail)
    · refine le_int ?_
      rw [he, h]; rfl
    · rename_i h3
      refine le_int ?_
      rw [he, h3, h]; rfl
    · rename_i h3
      rw [h3, h] at he
      exact ⟨⟨i + 1, hi', he⟩, by show a.pre.length - (i + 1) < a.pre.length - i; omega, (by refine Wk.of ?_ ?_ rfl rfl rfl<;>repeat' (first|exact trivial|exact WkD.same _|exact WkO.same _ _ rfl|refine WkD.int ?_|refine ⟨?_, ?_⟩|(refine wrapA ?_ ?_ ?_;(focus simp;done);(focus (try dsimp only);omega);(focus (try dsimp only);omega))|fail))⟩
  · have hi' : i = a.pre.length := by have := ge_dec (m := (a.pre.map fpv).length) h (by simpa using hi); simpa using this
    subst hi'
    rw [he, List.drop_eq_nil_of_le (Nat.le_refl _)]; exact .refl _
theorem ac_alone (a : Act) (hf : Fit a) (hl : a.rel.length ≤ 1000) (hp : ∀ l, l ∈ a.post → l.length ≤ 1000) : PureFn Try.prog 59 [a.pv] (.int .i64 (aloneI a)) := by
  refine PureFn.intro mixed (fn := Try.f59) rfl rfl rfl fun M w0 => ?_
  have hC := ac_Check a (((a.rel.map rowPV).length : Nat) : Int) 8 hf hl hp
  have e3 : ((a.rel.map rowPV).length : Int) = (a.rel.length : Int) := by simp
  (try conv=>whnf);repeat' (first|(refine PureFn.dy hC rfl ?_;try conv=>whnf)|fail)
  refine le_int ?_
  rw [aloneI, ← e3]
end Go.Proofs.Ytkjjoalphllolaa
set_option maxRecDepth 100000
set_option maxHeartbeats 4000000
namespace Go.Proofs.Ytkjjoalphllolaa
open Go Go.Dv

theorem andNotU_eq {a b : Nat} (ha : a < 2 ^ 64) : andNotU a b = ((a ^^^ (a &&& b) : Nat) : Int) := by
  have hlt : a ^^^ (a &&& b) < 2 ^ 64 := Nat.xor_lt_two_pow ha (Nat.lt_of_le_of_lt Nat.and_le_left ha)
  unfold andNotU
  show IntKind.wrap .u64 ((BitVec.ofInt 64 (a : Int) &&& ~~~BitVec.ofInt 64 (b : Int)).toNat : Int) = _
  rw [ofInt_nat, ofInt_nat]
  have h2 : (BitVec.ofNat 64 a &&& ~~~BitVec.ofNat 64 b).toNat = a ^^^ (a &&& b) := by
    apply Nat.eq_of_testBit_eq
    intro i
    rw [BitVec.testBit_toNat, BitVec.getLsbD_and, BitVec.getLsbD_not, BitVec.getLsbD_ofNat, BitVec.getLsbD_ofNat, Nat.testBit_xor, Nat.testBit_and]
    by_cases hi : i < 64
    · simp only [hi, decide_true, Bool.true_and]; cases a.testBit i <;> cases b.testBit i <;> rfl
    · have : a.testBit i = false := Nat.testBit_lt_two_pow (Nat.lt_of_lt_of_le ha (Nat.pow_le_pow_right (by decide) (by omega)))
      simp [hi, this]
  rw [h2, wrapU (by omega) (by omega)]
theorem andNotU_subM {a b : Nat} (ha : a < 2 ^ 64) : (andNotU a b == 0) = subM a b := by
  rw [andNotU_eq ha, subM, Bool.eq_iff_iff, beq_iff_eq, beq_iff_eq]
  constructor
  · intro h
    have h0 : a ^^^ (a &&& b) = 0 := by omega
    have h4 : (a ^^^ (a &&& b)) ^^^ (a &&& b) = a := by rw [Nat.xor_assoc, Nat.xor_self, Nat.xor_zero]
    rw [h0, Nat.zero_xor] at h4; exact h4
  · intro h
    rw [h, Nat.xor_self]; rfl

/-! the conditions -/
/-! the logics -/
end Go.Proofs.Ytkjjoalphllolaa
set_option maxRecDepth 100000
set_option maxHeartbeats 4000000
namespace Go.Proofs.Ytkjjoalphllolaa
open Go Go.Dv

/-- The relations of a group joined at an event, those of the first i agents. -/
def joinA (op : Nat → Nat → Nat) (rel : List (List Nat)) (g : Int) (first e : Nat) : Nat → Nat
  | 0 => first
  | i + 1 => bif and64 (shr64 g i) 1 == 1 then op (joinA op rel g first e i) ((rel.getD i []).getD e 0) else joinA op rel g first e i
/-- All events, as the program reckons them. -/
def allW (n : Nat) : Nat := (IntKind.wrap .u64 (shlU 1 n - 1)).toNat
/-! the value of a fact -/
def valL (fact : Int) : List Asg → List Nd
  | [] => buildL (nI 3 fact) []
  | x :: r => bif x.fact == fact then comp x.to else valL fact r
theorem valL_drop {fact : Int} {l : List Asg} {i : Nat} (h : i < l.length) : valL fact (l.drop i) = bif l[i].fact == fact then comp l[i].to else valL fact (l.drop (i + 1)) := by
  rw [List.drop_eq_getElem_cons h]; rfl
def badEv (a : Act) (ev : Int) : Bool := bif decide (ev < 0) then true else decide (ev ≥ (a.pre.length : Int))
def valI (a : Act) (ev fact : Int) : List Nd × Int :=
  bif aloneI a != 0 then ([], aloneI a) else bif badEv a ev then ([], 6) else bif badF fact then ([], 2) else (valL fact (a.post.getD ev.toNat []), 0)
def pairF (x : List Nd × Int) : PV := .tup [fpv x.1, .int .i64 x.2]
theorem le_nilF (e : Int) : PLe (.tup [.nil, .int .i64 e]) (pairF ([], e)) := PLe.tups ⟨.nil, .refl _, trivial⟩
theorem badEv_no {a : Act} {ev : Int} (h : badEv a ev = false) : ∃ k : Nat, ev = k ∧ k < a.pre.length := by
  unfold badEv at h
  by_cases h1 : ev < 0
  · rw [decide_eq_true h1] at h; cases h
  · by_cases h2 : ev ≥ (a.pre.length : Int)
    · rw [decide_eq_false h1, decide_eq_true h2] at h; cases h
    · exact ⟨ev.toNat, by omega, by omega⟩
theorem ac_Value (a : Act) (ev fact : Int) (hf : Fit a) (hl : a.rel.length ≤ 1000) (hp : ∀ l, l ∈ a.post → l.length ≤ 1000) : PureFn Try.prog 37 [a.pv, .int .i64 ev, .int .i64 fact] (pairF (valI a ev fact)) := by
  refine PureFn.introC [4, 6, 8] mixed (fn := Try.f37) rfl rfl rfl fun M w0 => ?_
  have hA := ac_alone a hf hl hp
  have e1 : ((a.pre.map fpv).length : Int) = (a.pre.length : Int) := by simp
  try conv=>whnf
  refine ⟨{ _x : Unit // (aloneI a != 0) = false }, fun _ => [(1, .pv (.int .i64 ev)), (2, .pv (.int .i64 fact)), (3, .ref 0 0)], fun _ => 1, fun _ => [(0, .var (cellsA a))], ?_, ?_⟩
  · (try conv=>whnf);repeat' (first|(apply And.intro<;>try conv=>whnf)|(intro h;try conv=>whnf)|(refine PureFn.dy hA rfl ?_;try conv=>whnf)|fail)
    · rw [valI, h]; exact le_nilF _
    · exact ⟨⟨(), h⟩, (by refine Wk.of ?_ ?_ rfl rfl rfl<;>repeat' (first|exact trivial|exact WkD.same _|exact WkO.same _ _ rfl|refine ⟨?_, ?_⟩|fail))⟩
  rintro ⟨_, h0⟩
  refine ⟨{ _x : Unit // badEv a ev = false }, fun _ => [(1, .pv (.int .i64 ev)), (2, .pv (.int .i64 fact)), (3, .ref 0 0)], fun _ => 1, fun _ => [(0, .var (cellsA a))], ?_, ?_⟩
  · (try conv=>whnf);repeat' (first|(apply And.intro<;>try conv=>whnf)|(intro h;try conv=>whnf)|apply True.intro|(apply WhenQ.mk;(try conv=>whnf);rotate_left;(try conv=>whnf);rotate_right)|with_reducible assumption|(apply not_of;with_reducible assumption)|fail)
    · have hb : badEv a ev = true := by rw [badEv, ← e1]; exact h
      rw [valI, h0, hb]; exact le_nilF _
    · exact ⟨⟨(), by rw [badEv, ← e1]; exact h⟩, (by refine Wk.of ?_ ?_ rfl rfl rfl<;>repeat' (first|exact trivial|exact WkD.same _|exact WkO.same _ _ rfl|refine ⟨?_, ?_⟩|fail))⟩
  rintro ⟨_, h1⟩
  refine ⟨{ _x : Unit // badF fact = false }, fun _ => [(1, .pv (.int .i64 ev)), (2, .pv (.int .i64 fact)), (3, .ref 0 0)], fun _ => 1, fun _ => [(0, .var (cellsA a))], ?_, ?_⟩
  · (try conv=>whnf);repeat' (first|(apply And.intro<;>try conv=>whnf)|(intro h;try conv=>whnf)|apply True.intro|(apply WhenQ.mk;(try conv=>whnf);rotate_left;(try conv=>whnf);rotate_right)|with_reducible assumption|(apply not_of;with_reducible assumption)|fail)
    · rw [valI, h0, h1, show badF fact = true from h]; exact le_nilF _
    · exact ⟨⟨(), h⟩, (by refine Wk.of ?_ ?_ rfl rfl rfl<;>repeat' (first|exact trivial|exact WkD.same _|exact WkO.same _ _ rfl|refine ⟨?_, ?_⟩|fail))⟩
  rintro ⟨_, h2⟩
  have hv : valI a ev fact = (valL fact (a.post.getD ev.toNat []), 0) := by rw [valI, h0, h1, h2]; rfl
  obtain ⟨k, rfl, hk⟩ := badEv_no h1
  have hO := actI_ok (show aloneI a = 0 by simpa using h0)
  have hk2 : k < a.post.length := by rw [hO.post]; exact hk
  have hn : a.post[k]? = some a.post[k] := List.getElem?_eq_getElem hk2
  have hlp := hp _ (List.getElem_mem hk2)
  rw [hv, show a.post.getD (k : Int).toNat [] = a.post[k] by rw [Int.toNat_natCast, List.getD_eq_getElem?_getD, hn]; rfl]
  generalize a.post[k] = l at hn hlp
  (try conv=>whnf);repeat' (first|(apply And.intro<;>try conv=>whnf)|(apply infoT;rfl)|(refine ⟨_, _, rfl, idx_map (by with_reducible assumption), rfl, ?_⟩;try conv=>whnf)|fail)
  refine ⟨{ i : Nat // i ≤ l.length ∧ valL fact l = valL fact (l.drop i) }, fun i => [(2, .pv (.int .i64 fact)), (35, .pv (postPV l)), (36, .pv (i64 (l.map Asg.pv).length)), (37, .pv (i64 i.1))], fun _ => 1, fun _ => [(0, .var (cellsA a))], fun i => l.length - i.1, ⟨⟨0, Nat.zero_le _, rfl⟩, (by refine Wk.of ?_ ?_ rfl rfl rfl<;>repeat' (first|exact trivial|exact WkD.same _|exact WkO.same _ _ rfl|refine ⟨?_, ?_⟩|fail))⟩, ?_⟩
  rintro ⟨i, hi, he⟩
  (try conv=>whnf);repeat' (first|(apply And.intro<;>try conv=>whnf)|(intro h;try conv=>whnf)|(apply infoT;rfl)|fail)
  · have hi' : i < l.length := by simpa using lt_dec h
    have hm : l[i]? = some l[i] := List.getElem?_eq_getElem hi'
    have hd := valL_drop (fact := fact) hi'
    have hC := fm_Compact l[i].to
    refine ⟨_, _, rfl, idx_map hm, rfl, ?_⟩
    (try conv=>whnf);repeat' (first|(apply And.intro<;>try conv=>whnf)|(intro h;try conv=>whnf)|(refine PureFn.dy hC rfl ?_;try conv=>whnf)|fail)
    · rw [he, hd, show (l[i].fact == fact) = true from h]; exact .refl _
    · exact ⟨⟨i + 1, hi', by rw [he, hd, show (l[i].fact == fact) = false from h]; rfl⟩, by show l.length - (i + 1) < l.length - i; omega, (by refine Wk.of ?_ ?_ rfl rfl rfl<;>repeat' (first|exact trivial|exact WkD.same _|exact WkO.same _ _ rfl|refine WkD.int ?_|refine ⟨?_, ?_⟩|(refine wrapA ?_ ?_ ?_;(focus simp;done);(focus (try dsimp only);omega);(focus (try dsimp only);omega))|fail))⟩
  · have hi' : i = l.length := by have := ge_dec (m := (l.map Asg.pv).length) h (by simpa using hi); simpa using this
    have hF := fm_Fact fact
    (try conv=>whnf);repeat' (first|(refine PureFn.dy hF rfl ?_;try conv=>whnf)|fail)
    rw [he, hi', List.drop_length]; exact .refl _
end Go.Proofs.Ytkjjoalphllolaa
set_option maxRecDepth 100000
set_option maxHeartbeats 4000000
namespace Go.Proofs.Ytkjjoalphllolaa
open Go Go.Dv

/-! the program's rounds -/
def orA (rel : List (List Nat)) (e : Nat) : Nat → Nat
  | 0 => 0
  | i + 1 => orA rel e i ||| (rel.getD i []).getD e 0
def inP (rel : List (List Nat)) (b e s i : Nat) : Nat := bif b.testBit e then s ||| orA rel e i else s
/-- Relations over n events. -/
def Rel (rel : List (List Nat)) (n : Nat) : Prop := (∀ r, r ∈ rel → r.length = n) ∧ ∀ r, r ∈ rel → ∀ s, s ∈ r → s < 2 ^ n
theorem rel_get {rel : List (List Nat)} {n i e : Nat} (h : Rel rel n) : (rel.getD i []).getD e 0 < 2 ^ n := by
  rw [List.getD_eq_getElem?_getD, List.getD_eq_getElem?_getD]
  cases h1 : rel[i]? with
  | none => simp; exact Nat.two_pow_pos _
  | some r =>
    simp only [Option.getD_some]
    cases h2 : r[e]? with
    | none => simp; exact Nat.two_pow_pos _
    | some s => exact h.2 r (List.mem_iff_getElem?.2 ⟨i, h1⟩) s (List.mem_iff_getElem?.2 ⟨e, h2⟩)
theorem orA_lt {rel : List (List Nat)} {n e : Nat} (h : Rel rel n) : ∀ i, orA rel e i < 2 ^ n
  | 0 => Nat.two_pow_pos _
  | i + 1 => Nat.or_lt_two_pow (orA_lt h i) (rel_get h)
theorem inP_lt {rel : List (List Nat)} {n b e s i : Nat} (h : Rel rel n) (hs : s < 2 ^ n) : inP rel b e s i < 2 ^ n := by
  unfold inP
  cases b.testBit e with
  | true => exact Nat.or_lt_two_pow hs (orA_lt h i)
  | false => exact hs
/-! sets of bits -/
def Sub (a b : Nat) : Prop := ∀ i, a.testBit i = true → b.testBit i = true
theorem sub_or {a b : Nat} : Sub a (a ||| b) := fun i h => by rw [Nat.testBit_or, h]; rfl
theorem Sub.trans {a b c : Nat} (h : Sub a b) (g : Sub b c) : Sub a c := fun i hi => g i (h i hi)
theorem or_sub {a b c : Nat} (h : Sub a c) (g : Sub b c) : Sub (a ||| b) c := fun i hi => by
  rw [Nat.testBit_or] at hi
  cases q : a.testBit i with
  | true => exact h i q
  | false => rw [q] at hi; exact g i (by simpa using hi)
theorem sub_antisymm {a b : Nat} (h : Sub a b) (g : Sub b a) : a = b := Nat.eq_of_testBit_eq fun i => by
  cases q : a.testBit i with
  | true => exact (h i q).symm
  | false =>
    cases r : b.testBit i with
    | false => rfl
    | true => rw [g i r] at q; cases q
def card (n s : Nat) : Nat := ((List.range n).filter fun e => s.testBit e).length
theorem card_le (n s : Nat) : card n s ≤ n := by
  have := List.length_filter_le (fun e => s.testBit e) (List.range n)
  rw [List.length_range] at this; exact this
theorem card_mono {s t : Nat} (h : Sub s t) : ∀ n, card n s ≤ card n t
  | 0 => Nat.le_refl _
  | n + 1 => by
    have ih := card_mono h n
    unfold card at *
    rw [List.range_succ, List.filter_append, List.filter_append, List.length_append, List.length_append]
    cases q : s.testBit n with
    | true => simp [q, h n q]; exact ih
    | false => simp [q]; omega
theorem card_lt {s t : Nat} (h : Sub s t) {e : Nat} (h1 : s.testBit e = false) (h2 : t.testBit e = true) : ∀ n, e < n → card n s < card n t
  | 0, h => by omega
  | n + 1, he => by
    unfold card
    rw [List.range_succ, List.filter_append, List.filter_append, List.length_append, List.length_append]
    by_cases q : e = n
    · subst q
      have := card_mono h e
      unfold card at this
      simp [h1, h2]; omega
    · have := card_lt h h1 h2 n (by omega)
      unfold card at this
      cases q : s.testBit n with
      | true => simp [q, h n q]; exact this
      | false => simp [q]; omega
theorem bit_lt {s n i : Nat} (hs : s < 2 ^ n) (h : s.testBit i = true) : i < n := by
  rcases Nat.lt_or_ge i n with q | q
  · exact q
  · rw [Nat.testBit_lt_two_pow (Nat.lt_of_lt_of_le hs (Nat.pow_le_pow_right (by decide) q))] at h; cases h
theorem card_grow {s t n : Nat} (h : Sub s t) (hne : s ≠ t) (ht : t < 2 ^ n) : card n s < card n t := by
  have : ∃ e, s.testBit e = false ∧ t.testBit e = true := Classical.byContradiction fun hn => hne (sub_antisymm h fun i hi => by
    cases q : s.testBit i with
    | true => rfl
    | false => exact absurd ⟨i, q, hi⟩ hn)
  obtain ⟨e, h1, h2⟩ := this
  exact card_lt h h1 h2 n (bit_lt ht h2)
/-- A growing sequence of sets of fewer than n + 1 elements stops. -/
theorem grow_stops {n : Nat} {f : Nat → Nat} (q : Nat → Nat) (hq : ∀ k, q (k + 1) = f (q k)) (hlt : ∀ k, q k < 2 ^ n) (hsub : ∀ k, Sub (q k) (q (k + 1))) (h0 : q 0 ≠ 0) :
    ∀ k, q k = q (k + 1) ∨ k + 2 ≤ card n (q (k + 1)) := by
  have hc0 : 1 ≤ card n (q 0) := by
    have : card n 0 < card n (q 0) := card_grow (fun i hi => by rw [Nat.zero_testBit] at hi; cases hi) (fun e => h0 e.symm) (hlt 0)
    omega
  intro k
  induction k with
  | zero =>
    by_cases e : q 0 = q 1
    · exact .inl e
    · have := card_grow (hsub 0) e (hlt 1); exact .inr (by omega)
  | succ k ih =>
    by_cases e : q (k + 1) = q (k + 2)
    · exact .inl e
    · rcases ih with h | h
      · exact absurd (by rw [hq (k + 1), ← h, ← hq k]; exact h) e
      · have := card_grow (hsub (k + 1)) e (hlt (k + 2)); exact .inr (by omega)
theorem inP_sub {rel : List (List Nat)} {b e s i : Nat} : Sub s (inP rel b e s i) := by
  unfold inP
  cases b.testBit e with
  | true => exact sub_or
  | false => exact fun _ h => h
/-! the part -/
end Go.Proofs.Ytkjjoalphllolaa
set_option maxRecDepth 100000
set_option maxHeartbeats 4000000
namespace Go.Proofs.Ytkjjoalphllolaa
open Go Go.Dv

theorem getD_mem {α : Type} {l : List α} {i : Nat} {d : α} (h : i < l.length) : l[i]? = some (l.getD i d) := by rw [List.getD_eq_getElem?_getD, List.getElem?_eq_getElem h]; rfl
end Go.Proofs.Ytkjjoalphllolaa
