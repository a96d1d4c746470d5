/- Parts of the proof, one after the other: Reductions of whole formulas: request of the program walked. Reductions of whole formulas: request, reduced and Reduce of the program walked. The dynamic language: how small the law's inputs are (walked). Reductions: how small the inputs of the laws are; the example walked. Reductions of announcements: the reference walked. Reductions: the laws ReduceAnnounced and ReduceStatic walked. Reductions: the law ReduceAgents walked. Reductions: the laws' arguments. -/
import Derived.Test.YtibbphifegibkaaM7
set_option maxRecDepth 100000
set_option maxHeartbeats 4000000
namespace Go.Proofs.Ytibbphifegibkaa
open Go Go.Dv

def badRd (acts : List Act) (x : Nd) : Bool := bif x.op == 17 then (bif decide (x.i ≥ (acts.length : Int)) then true else decide (x.e ≥ ((acts.getD x.i.toNat noAct).pre.length : Int))) else false
def difR (acts : List Act) (a : Act) : Bool := (a.rel.length : Int) != ((acts.getD 0 noAct).rel.length : Int)
def envE : List Act → Int
  | [] => 0
  | a :: r => bif chkI a != 0 then chkI a else envE r
def fitR (acts : List Act) (f : List Nd) : Bool := bif decide ((acts.length : Int) > 0) then !fits f ((acts.getD 0 noAct).rel.length : Int) 8 else false
def rqI (acts : List Act) (f : List Nd) : Int :=
  bif decide ((acts.length : Int) > 8) then 8 else bif acts.any (difR acts) then 1 else bif envE acts != 0 then envE acts else bif check f != 0 then check f
  else bif nand64' (frags f : Nat) 207 != 0 then 10 else bif (comp f).any (badRd acts) then 6 else bif fitR acts f then 2 else 0
def HRq (acts : List Act) : List (Nat × DObj) := [(0, .var [.pv (actsPV acts)])]
theorem WkD.bol {L : DH} {H : List (Nat × DObj)} {a b : Bool} (h : a = b) : WkD L H (.pv (.bool a)) (.pv (.bool b)) := h ▸ .same _
theorem rq1 {M : Nat → Prop} {w0 : World} (acts : List Act) (a : Act) (h0 : acts ≠ []) (base : Nat) (K : DV → DH → Prop) (hK : K (.pv (.bool (difR acts a))) ⟨1, 0, base, objsOf (HRq acts)⟩) :
    DC Try.prog M w0 58 [.agg (cellsA a), .ref 0 0] ⟨1, 0, base, objsOf (HRq acts)⟩ K := by
  obtain ⟨b, r, rfl⟩ : ∃ b r, acts = b :: r := by
    cases acts with
    | nil => exact absurd rfl h0
    | cons b r => exact ⟨b, r, rfl⟩
  have hb : (b :: r)[0]? = some b := rfl
  have e1 : ((a.rel.map rowPV).length : Int) = (a.rel.length : Int) := by simp
  have e2 : ((b.rel.map rowPV).length : Int) = (b.rel.length : Int) := by simp
  have hd : difR (b :: r) a = (((a.rel.map rowPV).length : Int) != ((b.rel.map rowPV).length : Int)) := by rw [e1, e2]; rfl
  rw [hd] at hK
  refine DC.weaken (DC.intro mixed (fn := Try.f58) rfl rfl rfl ?_)
  (try conv=>whnf);repeat' (first|(apply And.intro<;>try conv=>whnf)|(apply infoT;rfl)|(refine lin_plan (by kernel_rfl) ?_;try conv=>whnf)|(refine ⟨_, _, rfl, idx_map (by with_reducible assumption), rfl, ?_⟩;try conv=>whnf)|fail)
  exact ⟨_, 1, HRq (b :: r), (by refine Wk.of ?_ ?_ rfl rfl rfl<;>repeat' (first|exact trivial|exact WkD.same _|exact WkO.same _ _ rfl|refine ⟨?_, ?_⟩|fail)), hK⟩
theorem rq2 {M : Nat → Prop} {w0 : World} (acts : List Act) (x : Nd) (hx : x.op = 17 → 0 ≤ x.i) (base : Nat) (K : DV → DH → Prop) (hK : K (.pv (.bool (badRd acts x))) ⟨1, 0, base, objsOf (HRq acts)⟩) :
    DC Try.prog M w0 60 [.agg x.dvs, .ref 0 0] ⟨1, 0, base, objsOf (HRq acts)⟩ K := by
  obtain ⟨op, fi, ei, gi, xx, yy⟩ := x
  simp only at hx
  have e1 : ((acts.map Act.pv).length : Int) = (acts.length : Int) := by simp
  refine DC.weaken (DC.intro mixed (fn := Try.f60) rfl rfl rfl ?_)
  cases h17 : (op == 17) with
  | false =>
    have hb : badRd acts ⟨op, fi, ei, gi, xx, yy⟩ = false := by
      show (bif op == 17 then _ else false) = false
      rw [h17]; rfl
    rw [hb] at hK
    have hoff : (op == 17 && !false) = false := by rw [h17]; rfl
    (try conv=>whnf);repeat' (first|(apply And.intro<;>try conv=>whnf)|(intro h;first|with_reducible exact tf h (by assumption)|try conv=>whnf)|(apply whenOff;(focus with_reducible assumption);try conv=>whnf)|(refine lin_plan (by kernel_rfl) ?_;try conv=>whnf)|fail)
    refine ⟨_, 1, HRq acts, ?_, hK⟩
    refine Wk.of ⟨WkD.bol ?_, trivial⟩ ⟨WkO.same _ _ rfl, trivial, trivial⟩ rfl rfl rfl
    rw [h17]
    rfl
  | true =>
    have e17 : op = 17 := by simpa using h17
    have h0 := hx e17
    cases hge : decide (fi ≥ ((acts.map Act.pv).length : Int)) with
    | true =>
      have hb : badRd acts ⟨op, fi, ei, gi, xx, yy⟩ = true := by
        show (bif op == 17 then (bif decide (fi ≥ (acts.length : Int)) then true else _) else false) = true
        rw [h17, ← e1, hge]; rfl
      rw [hb] at hK
      have hoff : (op == 17 && !decide (fi ≥ ((acts.map Act.pv).length : Int))) = false := by rw [h17, hge]; rfl
      (try conv=>whnf);repeat' (first|(apply And.intro<;>try conv=>whnf)|(intro h;first|with_reducible exact tf (by assumption) h|try conv=>whnf)|apply True.intro|(apply whenOff;(focus with_reducible assumption);try conv=>whnf)|(apply WhenQ.mk;(try conv=>whnf);rotate_left;(try conv=>whnf);rotate_right)|with_reducible assumption|(refine lin_plan (by kernel_rfl) ?_;try conv=>whnf)|fail)
      refine ⟨_, 1, HRq acts, ?_, hK⟩
      refine Wk.of ⟨WkD.bol ?_, trivial⟩ ⟨WkO.same _ _ rfl, trivial, trivial⟩ rfl rfl rfl
      rw [h17]
      show (bif decide (fi ≥ ((acts.map Act.pv).length : Int)) then true else _) = _
      rw [hge]; rfl
    | false =>
      have hlt := of_decide_eq_false hge
      rw [e1] at hlt
      obtain ⟨q, eq⟩ : ∃ q : Nat, fi = q := ⟨fi.toNat, by omega⟩
      subst eq
      obtain ⟨a, ha, had⟩ : ∃ a, acts[q]? = some a ∧ acts.getD q noAct = a := ⟨_, getD_mem (by omega), rfl⟩
      have hb : badRd acts ⟨op, (q : Int), ei, gi, xx, yy⟩ = decide (ei ≥ ((a.pre.map fpv).length : Int)) := by
        show (bif op == 17 then (bif decide ((q : Int) ≥ (acts.length : Int)) then true else decide (ei ≥ ((acts.getD (q : Int).toNat noAct).pre.length : Int))) else false) = _
        rw [h17, ← e1, hge, Int.toNat_natCast, had, List.length_map]; rfl
      rw [hb] at hK
      (try conv=>whnf);repeat' (first|(apply And.intro<;>try conv=>whnf)|(intro h;try conv=>whnf)|apply True.intro|(apply infoT;rfl)|(apply WhenQ.mk;(try conv=>whnf);rotate_left;(try conv=>whnf);rotate_right)|with_reducible assumption|(apply and_of<;>first|with_reducible assumption|(apply not_of;with_reducible assumption))|(refine lin_plan (by kernel_rfl) ?_;try conv=>whnf)|(refine ⟨_, _, rfl, idx_map (by with_reducible assumption), rfl, ?_⟩;try conv=>whnf)|fail)
      refine ⟨_, 1, HRq acts, ?_, hK⟩
      refine Wk.of ⟨WkD.bol ?_, trivial⟩ ⟨WkO.same _ _ rfl, trivial, trivial⟩ rfl rfl rfl
      rw [h17]
      show (bif decide ((q : Int) ≥ ((acts.map Act.pv).length : Int)) then true else _) = _
      rw [hge]; rfl
theorem rqN_ix {M : Nat → Prop} {w0 : World} (acts : List Act) (l : List Nd) (hl : l.length ≤ 1000) (hs : ∀ x, x ∈ l → x.op = 17 → 0 ≤ x.i) (base : Nat) (K : DV → DH → Prop) (hK : ∀ r : Int, decide (r ≥ 0) = l.any (badRd acts) → K (.pv (.int .i64 r)) ⟨1, 0, base, objsOf (HRq acts)⟩) :
    DC Try.prog M w0 79 [.pv (.sl (l.map Nd.pv)), .clo 60 [] [.ref 0 0]] ⟨1, 0, base, objsOf (HRq acts)⟩ K := by
  refine DC.weaken (DC.intro mixed (fn := Try.f79) rfl rfl rfl ?_)
  try conv=>whnf
  refine ⟨{ i : Nat // i ≤ l.length ∧ (l.take i).any (badRd acts) = false }, fun i => [(0, .pv (.sl (l.map Nd.pv))), (1, .clo 60 [] [.ref 0 0]), (7, .pv (i64 (l.map Nd.pv).length)), (8, .pv (i64 i.1))], fun _ => 1, fun _ => HRq acts, fun i => l.length - i.1, ⟨⟨0, Nat.zero_le _, rfl⟩, (by refine Wk.of ?_ ?_ rfl rfl rfl<;>repeat' (first|exact trivial|exact WkD.same _|exact WkO.same _ _ rfl|refine ⟨?_, ?_⟩|fail))⟩, ?_⟩
  rintro ⟨i, hi, ha⟩
  (try conv=>whnf);repeat' (first|(apply And.intro<;>try conv=>whnf)|(intro h;try conv=>whnf)|(apply infoT;rfl)|fail)
  · have hi' : i < l.length := by simpa using lt_dec h
    have hm : l[i]? = some l[i] := List.getElem?_eq_getElem hi'
    have hsi := hs _ (List.getElem_mem hi')
    refine ⟨_, _, rfl, idx_map hm, rfl, ?_⟩
    try conv=>whnf
    refine rq2 acts l[i] hsi _ _ ?_
    (try conv=>whnf);repeat' (first|(apply And.intro<;>try conv=>whnf)|(intro h;try conv=>whnf)|fail)
    · have e : l.any (badRd acts) = true := any_at hi' h
      exact ⟨.pv (.int .i64 (i : Int)), 1, HRq acts, (by refine Wk.of ?_ ?_ rfl rfl rfl<;>repeat' (first|exact trivial|exact WkD.same _|exact WkO.same _ _ rfl|refine ⟨?_, ?_⟩|fail)), hK i (by rw [e]; simp)⟩
    · exact ⟨⟨i + 1, hi', any_take hi' ha h⟩, by show l.length - (i + 1) < l.length - i; omega, (by refine Wk.of ?_ ?_ rfl rfl rfl<;>repeat' (first|exact trivial|exact WkD.same _|exact WkO.same _ _ rfl|refine WkD.int ?_|refine ⟨?_, ?_⟩|(refine wrapA ?_ ?_ ?_;(focus simp;done);(focus (try dsimp only);omega);(focus (try dsimp only);omega))|fail))⟩
  · have hi' : i = l.length := by have := ge_dec (m := (l.map Nd.pv).length) h (by simpa using hi); simpa using this
    subst hi'
    rw [List.take_length] at ha
    exact ⟨.pv (.int .i64 (-1)), 1, HRq acts, (by refine Wk.of ?_ ?_ rfl rfl rfl<;>repeat' (first|exact trivial|exact WkD.same _|exact WkO.same _ _ rfl|refine ⟨?_, ?_⟩|fail)), hK (-1) (by rw [ha]; decide)⟩
theorem rqN_ct {M : Nat → Prop} {w0 : World} (acts : List Act) (l : List Nd) (hl : l.length ≤ 1000) (hs : ∀ x, x ∈ l → x.op = 17 → 0 ≤ x.i) (base : Nat) (K : DV → DH → Prop) (hK : K (.pv (.bool (l.any (badRd acts)))) ⟨1, 0, base, objsOf (HRq acts)⟩) :
    DC Try.prog M w0 59 [.pv (.sl (l.map Nd.pv)), .clo 60 [] [.ref 0 0]] ⟨1, 0, base, objsOf (HRq acts)⟩ K := by
  refine DC.intro mixed (fn := Try.f59) rfl rfl rfl ?_
  try conv=>whnf
  refine rqN_ix acts l hl hs 1 _ fun r e => ?_
  rw [← e] at hK
  try conv=>whnf
  exact hK
theorem rqA_ix {M : Nat → Prop} {w0 : World} (acts : List Act) (l : List Act) (hl : l.length ≤ 1000) (hs : ∀ x, x ∈ l → acts ≠ []) (base : Nat) (K : DV → DH → Prop) (hK : ∀ r : Int, decide (r ≥ 0) = l.any (difR acts) → K (.pv (.int .i64 r)) ⟨1, 0, base, objsOf (HRq acts)⟩) :
    DC Try.prog M w0 78 [.pv (.sl (l.map Act.pv)), .clo 58 [] [.ref 0 0]] ⟨1, 0, base, objsOf (HRq acts)⟩ K := by
  refine DC.weaken (DC.intro mixed (fn := Try.f78) rfl rfl rfl ?_)
  try conv=>whnf
  refine ⟨{ i : Nat // i ≤ l.length ∧ (l.take i).any (difR acts) = false }, fun i => [(0, .pv (.sl (l.map Act.pv))), (1, .clo 58 [] [.ref 0 0]), (7, .pv (i64 (l.map Act.pv).length)), (8, .pv (i64 i.1))], fun _ => 1, fun _ => HRq acts, fun i => l.length - i.1, ⟨⟨0, Nat.zero_le _, rfl⟩, (by refine Wk.of ?_ ?_ rfl rfl rfl<;>repeat' (first|exact trivial|exact WkD.same _|exact WkO.same _ _ rfl|refine ⟨?_, ?_⟩|fail))⟩, ?_⟩
  rintro ⟨i, hi, ha⟩
  (try conv=>whnf);repeat' (first|(apply And.intro<;>try conv=>whnf)|(intro h;try conv=>whnf)|(apply infoT;rfl)|fail)
  · have hi' : i < l.length := by simpa using lt_dec h
    have hm : l[i]? = some l[i] := List.getElem?_eq_getElem hi'
    have hsi := hs _ (List.getElem_mem hi')
    refine ⟨_, _, rfl, idx_map hm, rfl, ?_⟩
    try conv=>whnf
    refine rq1 acts l[i] hsi _ _ ?_
    (try conv=>whnf);repeat' (first|(apply And.intro<;>try conv=>whnf)|(intro h;try conv=>whnf)|fail)
    · have e : l.any (difR acts) = true := any_at hi' h
      exact ⟨.pv (.int .i64 (i : Int)), 1, HRq acts, (by refine Wk.of ?_ ?_ rfl rfl rfl<;>repeat' (first|exact trivial|exact WkD.same _|exact WkO.same _ _ rfl|refine ⟨?_, ?_⟩|fail)), hK i (by rw [e]; simp)⟩
    · exact ⟨⟨i + 1, hi', any_take hi' ha h⟩, by show l.length - (i + 1) < l.length - i; omega, (by refine Wk.of ?_ ?_ rfl rfl rfl<;>repeat' (first|exact trivial|exact WkD.same _|exact WkO.same _ _ rfl|refine WkD.int ?_|refine ⟨?_, ?_⟩|(refine wrapA ?_ ?_ ?_;(focus simp;done);(focus (try dsimp only);omega);(focus (try dsimp only);omega))|fail))⟩
  · have hi' : i = l.length := by have := ge_dec (m := (l.map Act.pv).length) h (by simpa using hi); simpa using this
    subst hi'
    rw [List.take_length] at ha
    exact ⟨.pv (.int .i64 (-1)), 1, HRq acts, (by refine Wk.of ?_ ?_ rfl rfl rfl<;>repeat' (first|exact trivial|exact WkD.same _|exact WkO.same _ _ rfl|refine ⟨?_, ?_⟩|fail)), hK (-1) (by rw [ha]; decide)⟩
theorem rqA_ct {M : Nat → Prop} {w0 : World} (acts : List Act) (l : List Act) (hl : l.length ≤ 1000) (hs : ∀ x, x ∈ l → acts ≠ []) (base : Nat) (K : DV → DH → Prop) (hK : K (.pv (.bool (l.any (difR acts)))) ⟨1, 0, base, objsOf (HRq acts)⟩) :
    DC Try.prog M w0 57 [.pv (.sl (l.map Act.pv)), .clo 58 [] [.ref 0 0]] ⟨1, 0, base, objsOf (HRq acts)⟩ K := by
  refine DC.intro mixed (fn := Try.f57) rfl rfl rfl ?_
  try conv=>whnf
  refine rqA_ix acts l hl hs 1 _ fun r e => ?_
  rw [← e] at hK
  try conv=>whnf
  exact hK
end Go.Proofs.Ytibbphifegibkaa
set_option maxRecDepth 100000
set_option maxHeartbeats 4000000
namespace Go.Proofs.Ytibbphifegibkaa
open Go Go.Dv

theorem envE_drop {acts : List Act} {i : Nat} {a : Act} (h : acts[i]? = some a) : envE (acts.drop i) = bif chkI a != 0 then chkI a else envE (acts.drop (i + 1)) := by
  obtain ⟨h1, h2⟩ := List.getElem?_eq_some_iff.1 h
  rw [List.drop_eq_getElem_cons h1, h2]; rfl
theorem red_request (acts : List Act) (f : List Nd) (hS : ∀ a, a ∈ acts → SmX a) : PureFn Try.prog 36 [actsPV acts, fpv f] (.int .i64 (rqI acts f)) := by
  have e1 : ((acts.map Act.pv).length : Int) = (acts.length : Int) := by simp
  have hneg : ∀ x, x ∈ comp f → x.op = 17 → 0 ≤ x.i := fun x hx h17 => by
    obtain ⟨k, hk⟩ := okl_mem (comp_okl f) hx
    exact (hk.act h17).1
  have hlen := comp_len f
  refine PureFn.introC [5, 12] mixed (fn := Try.f36) rfl rfl rfl fun M w0 => ?_
  (try conv=>whnf);repeat' (first|(apply And.intro<;>try conv=>whnf)|(intro h;try conv=>whnf)|fail)
  · refine le_int ?_
    rw [rqI, ← e1, show decide (((acts.map Act.pv).length : Int) > 8) = true from h]; rfl
  have hA : decide ((acts.length : Int) > 8) = false := by rw [← e1]; exact h
  have h8 := of_decide_eq_false hA
  have hal : acts.length ≤ 8 := by omega
  clear h h8
  refine ⟨{ _x : Unit // acts.any (difR acts) = false }, fun _ => [(1, .pv (fpv f)), (2, .ref 0 0)], fun _ => 1, fun _ => HRq acts, ?_, ?_⟩
  · try conv=>whnf
    refine rqA_ct acts acts (by omega) (fun x hx e => by rw [e] at hx; cases hx) 0 _ ?_
    (try conv=>whnf);repeat' (first|(apply And.intro<;>try conv=>whnf)|(intro h;try conv=>whnf)|fail)
    · refine le_int ?_
      rw [rqI, hA, show acts.any (difR acts) = true from h]; rfl
    · exact ⟨⟨(), h⟩, (by refine Wk.of ?_ ?_ rfl rfl rfl<;>repeat' (first|exact trivial|exact WkD.same _|exact WkO.same _ _ rfl|refine ⟨?_, ?_⟩|fail))⟩
  rintro ⟨_, h1⟩
  refine ⟨{ _x : Unit // envE acts = 0 }, fun _ => [(1, .pv (fpv f)), (2, .ref 0 0)], fun _ => 1, fun _ => HRq acts, ?_, ?_⟩
  · try conv=>whnf
    refine ⟨{ i : Nat // i ≤ acts.length ∧ envE (acts.drop i) = envE acts }, fun i => [(1, .pv (fpv f)), (2, .ref 0 0), (15, .pv (actsPV acts)), (16, .pv (i64 (acts.map Act.pv).length)), (17, .pv (i64 i.1))], fun _ => 1, fun _ => HRq acts, fun i => acts.length - i.1, ⟨⟨0, Nat.zero_le _, rfl⟩, (by refine Wk.of ?_ ?_ rfl rfl rfl<;>repeat' (first|exact trivial|exact WkD.same _|exact WkO.same _ _ rfl|refine ⟨?_, ?_⟩|fail))⟩, ?_⟩
    rintro ⟨i, hi, hd⟩
    (try conv=>whnf);repeat' (first|(apply And.intro<;>try conv=>whnf)|(intro h;try conv=>whnf)|(apply infoT;rfl)|fail)
    · have hi' : i < acts.length := by simpa using lt_dec h
      obtain ⟨a, ha⟩ : ∃ a, acts[i]? = some a := ⟨_, List.getElem?_eq_getElem hi'⟩
      have hSa := hS a (List.mem_iff_getElem?.2 ⟨i, ha⟩)
      have ea : ((a.rel.map rowPV).length : Int) = (a.rel.length : Int) := by simp
      have hC := ac_Check a (min ((a.rel.map rowPV).length : Int) 4) 8 hSa.fit hSa.rel hSa.post
      have hCe : actI a (min ((a.rel.map rowPV).length : Int) 4) 8 = chkI a := by rw [ea]; rfl
      rw [hCe] at hC
      have hed := envE_drop ha
      refine ⟨_, _, rfl, idx_map ha, rfl, ?_⟩
      (try conv=>whnf);repeat' (first|(apply And.intro<;>try conv=>whnf)|(intro h;try conv=>whnf)|(refine PureFn.dcq (f := 47) rfl ?_;try conv=>whnf)|(refine ⟨_, _, hC, ?_, ?_⟩;(focus first|(refine ⟨?_, ?_, ?_, trivial⟩<;>first|exact PLe.refl _|exact PLe.nil)|exact trivial);try conv=>whnf)|fail)
      · refine le_int ?_
        have hv : envE acts = chkI a := by rw [← hd, hed, show (chkI a != 0) = true from h]; rfl
        rw [rqI, hA, h1, hv, show (chkI a != 0) = true from h]; rfl
      · refine ⟨⟨i + 1, hi', ?_⟩, by show acts.length - (i + 1) < acts.length - i; omega, (by refine Wk.of ?_ ?_ rfl rfl rfl<;>repeat' (first|exact trivial|exact WkD.same _|exact WkO.same _ _ rfl|refine WkD.int ?_|refine ⟨?_, ?_⟩|(refine wrapA ?_ ?_ ?_;(focus simp;done);(focus (try dsimp only);omega);(focus (try dsimp only);omega))|fail))⟩
        rw [← hd, hed, show (chkI a != 0) = false from h]; rfl
    · have hi' : i = acts.length := by have := ge_dec (m := (acts.map Act.pv).length) h (by simpa using hi); simpa using this
      subst hi'
      rw [List.drop_length] at hd
      exact ⟨⟨(), hd.symm⟩, (by refine Wk.of ?_ ?_ rfl rfl rfl<;>repeat' (first|exact trivial|exact WkD.same _|exact WkO.same _ _ rfl|refine ⟨?_, ?_⟩|fail))⟩
  rintro ⟨_, h2⟩
  have hv : rqI acts f = bif check f != 0 then check f else bif nand64' (frags f : Nat) 207 != 0 then 10 else bif (comp f).any (badRd acts) then 6 else bif fitR acts f then 2 else 0 := by
    rw [rqI, hA, h1, h2]; rfl
  (try conv=>whnf);repeat' (first|(apply And.intro<;>try conv=>whnf)|(intro h;try conv=>whnf)|(refine PureFn.dcq (f := 12) rfl ?_;try conv=>whnf)|(refine PureFn.dcq (f := 13) rfl ?_;try conv=>whnf)|(refine PureFn.dcq (f := 14) rfl ?_;try conv=>whnf)|(refine ⟨_, _, fm_Check ?_, ?_, ?_⟩;rotate_left 1;(focus first|(refine ⟨?_, trivial⟩<;>first|exact PLe.refl _|exact PLe.nil)|exact trivial);try conv=>whnf)|(refine ⟨_, _, fm_Frags ?_, ?_, ?_⟩;rotate_left 1;(focus first|(refine ⟨?_, trivial⟩<;>first|exact PLe.refl _|exact PLe.nil)|exact trivial);try conv=>whnf)|(refine ⟨_, _, fm_Compact ?_, ?_, ?_⟩;rotate_left 1;(focus first|(refine ⟨?_, trivial⟩<;>first|exact PLe.refl _|exact PLe.nil)|exact trivial);try conv=>whnf)|fail)
  · refine le_int ?_
    rw [hv, h]; rfl
  · rename_i h3
    refine le_int ?_
    rw [hv, h3, show (nand64' (frags f : Nat) 207 != 0) = true from h]; rfl
  rename_i h3
  have hv : rqI acts f = bif (comp f).any (badRd acts) then 6 else bif fitR acts f then 2 else 0 := by
    rw [hv, h3, show (nand64' (frags f : Nat) 207 != 0) = false from h]; rfl
  refine rqN_ct acts (comp f) (by omega) hneg 0 _ ?_
  cases acts with
  | nil =>
    have hoff : decide (((([] : List Act).map Act.pv).length : Int) > 0) = false := rfl
    have hfr : fitR [] f = false := rfl
    (try conv=>whnf);repeat' (first|(apply And.intro<;>try conv=>whnf)|(intro h;first|with_reducible exact tf h (by assumption)|try conv=>whnf)|(apply whenOff;(focus with_reducible assumption);try conv=>whnf)|fail)
    · refine le_int ?_
      rw [hv, h]; rfl
    · exact absurd (show false = true from h) (by decide)
    · rename_i h5
      refine le_int ?_
      rw [hv, h5, hfr]; rfl
  | cons b r =>
    have eb : ((b.rel.map rowPV).length : Int) = (b.rel.length : Int) := by simp
    have hfr : fitR (b :: r) f = (bif decide (((b :: r).map Act.pv).length > (0 : Int)) then !fits f ((b.rel.map rowPV).length : Int) 8 else false) := by rw [eb, e1]; rfl
    (try conv=>whnf);repeat' (first|(apply And.intro<;>try conv=>whnf)|(intro h;try conv=>whnf)|apply True.intro|(apply infoT;rfl)|(apply WhenQ.mk;(try conv=>whnf);rotate_left;(try conv=>whnf);rotate_right)|with_reducible assumption|(refine PureFn.dcq (f := 48) rfl ?_;try conv=>whnf)|(refine ⟨0, _, rfl, rfl, rfl, ?_⟩;try conv=>whnf)|(refine ⟨_, _, fm_Fits ?_ ?_ ?_, ?_, ?_⟩;rotate_left 3;(focus first|(refine ⟨?_, ?_, ?_, trivial⟩<;>first|exact PLe.refl _|exact PLe.nil)|exact trivial);try conv=>whnf)|fail)
    · refine le_int ?_
      rw [hv, h]; rfl
    · rename_i h5
      refine le_int ?_
      rw [hv, h5, hfr, h]; rfl
    · rename_i h5
      refine le_int ?_
      rw [hv, h5, hfr, h]; rfl
/-- What stepR asks of a node and its operands. -/
structure StepOk (acts : List Act) (x : Nd) (X Y : List Nd) : Prop where
  op : 1 ≤ x.op ∧ (x.op ≤ 13 ∨ x.op = 16 ∨ x.op = 17)
  ann : x.op = 16 → check Y = 0 ∧ ∀ z, z ∈ comp Y → z.op ≤ 13
  act : x.op = 17 → ∃ q ev : Nat, x.i = q ∧ x.e = ev ∧ ∃ a, acts[q]? = some a ∧ acts.getD q noAct = a ∧ SmX a ∧ OkA a a.rel.length 8 ∧ ev < a.pre.length ∧ check X = 0 ∧ ((and64 (frags X : Nat) 8 != 0) = false → AftOk a X)
theorem red_reduced (acts : List Act) (x : Nd) (X Y : List Nd) (h : StepOk acts x X Y) : PureFn Try.prog 38 [actsPV acts, x.pv, fpv X, fpv Y] (pairF (stepR acts x X Y)) := by
  have no : ∀ {a b : Int} {p : Prop}, (a == b) = false → a = b → p := fun h e => by rw [e] at h; simp at h
  have hst : stepR acts x X Y = bif x.op == 16 then annF (comp X) (comp Y) else bif x.op == 17 then (bif and64 (frags X : Nat) 8 != 0 then ([], 10) else aftF (acts.getD x.i.toNat noAct) x.e.toNat (comp X)) else nz (apN x X Y) := rfl
  by_cases h16 : x.op = 16
  · obtain ⟨c1, c2⟩ := h.ann h16
    have hA := red_announce X Y c1 c2
    rw [hst, show (x.op == 16) = true by simpa using h16]
    refine PureFn.intro mixed (fn := Try.f38) rfl rfl rfl fun M w0 => ?_
    (try conv=>whnf);repeat' (first|(apply And.intro<;>try conv=>whnf)|(intro h;try conv=>whnf)|(refine PureFn.dcq (f := 29) rfl ?_;try conv=>whnf)|(refine ⟨_, _, hA, ?_, ?_⟩;(focus first|(refine ⟨?_, ?_, trivial⟩<;>first|exact PLe.refl _|exact PLe.nil)|exact trivial);try conv=>whnf)|fail)
    · exact .refl _
    all_goals exact no (by with_reducible assumption) h16
  · by_cases h17 : x.op = 17
    · obtain ⟨q, ev, hq, hev, a, ha, had, hS, hO, hel, hcX, hop⟩ := h.act h17
      rw [hst, show (x.op == 16) = false by simpa using h16, show (x.op == 17) = true by simpa using h17, hq, hev, Int.toNat_natCast, Int.toNat_natCast, had]
      simp only [cond_false, cond_true]
      have hF := red_after a 8 hO hS.fit hS.rel hS.post ev hel X hcX
      obtain ⟨op, fi, ei, gi, xx, yy⟩ := x
      simp only at hq hev h16 h17
      subst hq; subst hev
      cases hc : (and64 (frags X : Nat) 8 != 0) with
      | true =>
        refine PureFn.intro mixed (fn := Try.f38) rfl rfl rfl fun M w0 => ?_
        (try conv=>whnf);repeat' (first|(apply And.intro<;>try conv=>whnf)|(intro h;try conv=>whnf)|(apply infoT;rfl)|(refine lin_plan (by kernel_rfl) ?_;try conv=>whnf)|(refine ⟨_, _, rfl, idx_map (by with_reducible assumption), rfl, ?_⟩;try conv=>whnf)|(refine PureFn.dcq (f := 13) rfl ?_;try conv=>whnf)|(refine ⟨_, _, fm_Frags ?_, ?_, ?_⟩;rotate_left 1;(focus first|(refine ⟨?_, trivial⟩<;>first|exact PLe.refl _|exact PLe.nil)|exact trivial);try conv=>whnf)|fail)
        all_goals first
          | exact le_nilF _
          | exact absurd (eq_of_beq (by with_reducible assumption)) h16
          | exact no (by with_reducible assumption) h17
          | skip
        exact absurd (hc.symm.trans (show (and64 (frags X : Nat) 8 != 0) = false from by assumption)) (by decide)
      | false =>
        have hG := hF (hop hc)
        refine PureFn.intro mixed (fn := Try.f38) rfl rfl rfl fun M w0 => ?_
        (try conv=>whnf);repeat' (first|(apply And.intro<;>try conv=>whnf)|(intro h;try conv=>whnf)|(apply infoT;rfl)|(refine lin_plan (by kernel_rfl) ?_;try conv=>whnf)|(refine ⟨_, _, rfl, idx_map (by with_reducible assumption), rfl, ?_⟩;try conv=>whnf)|(refine PureFn.dcq (f := 13) rfl ?_;try conv=>whnf)|(refine ⟨_, _, fm_Frags ?_, ?_, ?_⟩;rotate_left 1;(focus first|(refine ⟨?_, trivial⟩<;>first|exact PLe.refl _|exact PLe.nil)|exact trivial);try conv=>whnf)|(refine ⟨_, (by (conv=>whnf);exact hG), rfl, ?_⟩;try conv=>whnf)|fail)
        all_goals first
          | exact .refl _
          | exact absurd (eq_of_beq (by with_reducible assumption)) h16
          | exact no (by with_reducible assumption) h17
          | skip
        exact absurd (hc.symm.trans (show (and64 (frags X : Nat) 8 != 0) = true from by assumption)) (by decide)
    · obtain ⟨z, hz⟩ : ∃ z, apN x X Y = z := ⟨_, rfl⟩
      have hAp := red_apply0 x X Y ⟨h.op.1, by rcases h.op.2 with h | h | h; exact h; exact absurd h h16; exact absurd h h17⟩
      rw [hst, show (x.op == 16) = false by simpa using h16, show (x.op == 17) = false by simpa using h17, cond_false, cond_false, hz]
      rw [hz] at hAp
      refine PureFn.intro mixed (fn := Try.f38) rfl rfl rfl fun M w0 => ?_
      cases z with
      | nil =>
        (try conv=>whnf);repeat' (first|(apply And.intro<;>try conv=>whnf)|(intro h;first|with_reducible exact tf0 h|try conv=>whnf)|(refine PureFn.dcq (f := 61) rfl ?_;try conv=>whnf)|(refine ⟨_, _, hAp, ?_, ?_⟩;(focus first|(refine ⟨?_, ?_, ?_, trivial⟩<;>first|exact PLe.refl _|exact PLe.nil)|exact trivial);try conv=>whnf)|fail)
        all_goals first
          | exact le_nilF _
          | exact absurd (eq_of_beq (by with_reducible assumption)) h16
          | exact absurd (eq_of_beq (by with_reducible assumption)) h17
      | cons b r =>
        (try conv=>whnf);repeat' (first|(apply And.intro<;>try conv=>whnf)|(intro h;first|with_reducible exact ft0 h|try conv=>whnf)|(refine PureFn.dcq (f := 61) rfl ?_;try conv=>whnf)|(refine ⟨_, _, hAp, ?_, ?_⟩;(focus first|(refine ⟨?_, ?_, ?_, trivial⟩<;>first|exact PLe.refl _|exact PLe.nil)|exact trivial);try conv=>whnf)|fail)
        all_goals first
          | exact .refl _
          | exact absurd (eq_of_beq (by with_reducible assumption)) h16
          | exact absurd (eq_of_beq (by with_reducible assumption)) h17
def rdI (acts : List Act) (f : List Nd) : List Nd × Int := bif rqI acts f != 0 then ([], rqI acts f) else redF acts f
/-- How many agents there are. -/
def agR (acts : List Act) : Nat := match acts with
  | [] => 4
  | a :: _ => a.rel.length
structure RqOk (acts : List Act) (f : List Nd) : Prop where
  chk : ∀ a, a ∈ acts → chkI a = 0
  rel : ∀ a, a ∈ acts → a.rel.length = agR acts
  a4 : agR acts ≤ 4
  cf : check f = 0
  nd : ∀ x, x ∈ comp f → (x.op ≤ 13 ∨ x.op = 16 ∨ x.op = 17) ∧ (x.op ≤ 13 → stM (agR acts) 8 x.op x.i x.e x.g = true) ∧ badRd acts x = false
theorem bif_cases {c : Bool} {a b : Int} (h : (bif c then a else b) = 0) (ha : a ≠ 0) : c = false ∧ b = 0 := by
  cases c with
  | true => exact absurd h ha
  | false => exact ⟨rfl, h⟩
theorem bif_same {a b : Int} (h : (bif a != 0 then a else b) = 0) : a = 0 ∧ b = 0 := by
  by_cases q : a = 0
  · subst q; exact ⟨rfl, h⟩
  · rw [show (a != 0) = true by simpa using q] at h
    exact absurd h q
theorem envE_ok : ∀ {acts : List Act}, envE acts = 0 → ∀ a, a ∈ acts → chkI a = 0
  | [], _, a, ha => by cases ha
  | b :: r, h, a, ha => by
    obtain ⟨h1, h2⟩ := bif_same (show (bif chkI b != 0 then chkI b else envE r) = 0 from h)
    rcases List.mem_cons.1 ha with rfl | ha
    · exact h1
    · exact envE_ok h2 a ha
theorem rq_ok {acts : List Act} {f : List Nd} (h : rqI acts f = 0) : RqOk acts f := by
  unfold rqI at h
  obtain ⟨_, h⟩ := bif_cases h (by decide)
  obtain ⟨h1, h⟩ := bif_cases h (by decide)
  obtain ⟨h2, h⟩ := bif_same h
  obtain ⟨h3, h⟩ := bif_same h
  obtain ⟨h4, h⟩ := bif_cases h (by decide)
  obtain ⟨h5, h⟩ := bif_cases h (by decide)
  obtain ⟨h6, _⟩ := bif_cases h (by decide)
  have hck := envE_ok h2
  have hrel : ∀ a, a ∈ acts → a.rel.length = agR acts := fun a ha => by
    cases acts with
    | nil => cases ha
    | cons b r =>
      have := List.any_eq_false.1 h1 a ha
      have hd : ¬ ((a.rel.length : Int) != (b.rel.length : Int)) = true := this
      have : (a.rel.length : Int) = b.rel.length := by simpa using hd
      show a.rel.length = b.rel.length
      omega
  have hA4 : agR acts ≤ 4 := by
    cases acts with
    | nil => exact Nat.le_refl 4
    | cons b r => exact (chk_ok (hck b (by simp))).2.2.1
  have hag : agents f < 2 ^ agR acts := by
    cases acts with
    | nil => exact agents_lt f
    | cons b r =>
      have h7 : (!fits f (b.rel.length : Int) 8) = false := by
        have : (bif decide ((((b :: r).length : Nat) : Int) > 0) then !fits f (b.rel.length : Int) 8 else false) = false := h6
        rwa [decide_eq_true (by simp), cond_true] at this
      have hft : fits f (b.rel.length : Int) 8 = true := by simpa using h7
      unfold fits at hft
      rw [h3] at hft
      cases hb : belowB (agents f) (b.rel.length : Int) with
      | false => rw [hb] at hft; cases hft
      | true => exact (below_lt (agents_lt f) (by decide)).1 hb
  refine ⟨hck, hrel, hA4, h3, fun x hx => ?_⟩
  obtain ⟨k, hk⟩ := okl_mem (comp_okl f) hx
  have ho := hk.op
  have hfr : frags f < 2 ^ 62 := Nat.lt_of_lt_of_le (frags_lt f) (by decide)
  have h8 : frags f &&& 207 = frags f := by
    have h4' : nand64' (frags f : Nat) 207 = 0 := by simpa using h4
    have := nand_zero (a := frags f) (b := 207) hfr
    rw [show ((207 : Nat) : Int) = 207 from rfl, h4'] at this
    have h9 : subM (frags f) 207 = true := by rw [← this]; rfl
    exact eq_of_beq h9
  have h9 : fragN x &&& 207 = fragN x := by
    have hin : fragN x ||| frags f = frags f := orN_mm hx
    apply Nat.eq_of_testBit_eq
    intro i
    rw [Nat.testBit_and]
    cases hb : (fragN x).testBit i with
    | false => rfl
    | true =>
      have h10 : (frags f).testBit i = true := by rw [← hin, Nat.testBit_or, hb]; rfl
      rw [← h8, Nat.testBit_and, Bool.and_eq_true] at h10
      rw [h10.2]; rfl
  have hop : x.op ≤ 13 ∨ x.op = 16 ∨ x.op = 17 := by
    have key : ∀ op : Nat, op < 22 → (frag (op : Int)).toNat &&& 207 = (frag (op : Int)).toNat → 1 ≤ op → op ≤ 13 ∨ op = 16 ∨ op = 17 := by decide
    have := key x.op.toNat (by omega) (by rw [show ((x.op.toNat : Nat) : Int) = x.op by omega]; exact h9) (by omega)
    omega
  refine ⟨hop, fun h13 => stM_iff.2 ⟨⟨?_, (show agN x < 2 ^ agR acts from Nat.lt_of_le_of_lt (orN_le hx) hag)⟩, (show factN x < 2 ^ 8 from Nat.lt_of_le_of_lt (orN_le hx) (facts_lt f))⟩, by simpa using List.any_eq_false.1 h5 x hx⟩
  show (frag x.op).toNat < 16
  have key : ∀ op : Nat, op < 14 → (frag (op : Int)).toNat < 16 := by decide
  have := key x.op.toNat (by omega)
  rwa [show ((x.op.toNat : Nat) : Int) = x.op by omega] at this
theorem rq_trees {acts : List Act} {f : List Nd} (h : RqOk acts f) (j : Nat) : allT (rgQ (stM (agR acts) 8)) (redT acts (tree (comp f) j)) = true := by
  refine redT_all (stM_clo _ _) (fun a ha => ?_) _ (trn_all (fun x hx => ?_) _ _)
  · have := (chk_ok (h.chk a ha)).2.1
    rw [h.rel a ha] at this
    exact act_Q (Nat.le_refl 8) this
  · obtain ⟨k, hk⟩ := okl_mem (comp_okl f) hx
    obtain ⟨h1, h2, _⟩ := h.nd x hx
    rcases h1 with h1 | h1 | h1
    · show (x.op == 16 || x.op == 17 || rgQ (stM (agR acts) 8) x.op x.i x.e x.g) = true
      rw [rg_iff.2 ⟨h2 h1, hk.group⟩, Bool.or_true]
    · show (x.op == 16 || x.op == 17 || _) = true
      rw [h1]; rfl
    · show (x.op == 16 || x.op == 17 || _) = true
      rw [h1]; rfl
theorem rq_nmd {acts : List Act} {f : List Nd} (h : RqOk acts f) : Nmd acts (comp f) := fun x hx h17 => by
  obtain ⟨k, hk⟩ := okl_mem (comp_okl f) hx
  obtain ⟨a1, a2, a3, a4⟩ := hk.act h17
  have hb := (h.nd x hx).2.2
  unfold badRd at hb
  rw [show (x.op == 17) = true by simpa using h17, cond_true] at hb
  cases hq : decide (x.i ≥ (acts.length : Int)) with
  | true => rw [hq] at hb; cases hb
  | false =>
    rw [hq, cond_false] at hb
    have := of_decide_eq_false hb
    omega
theorem can_stM {A F : Nat} {z : List Nd} (hz : Can z) (ha : allT (rgQ (stM A F)) (root z) = true) : ∀ x, x ∈ comp z → stM A F x.op x.i x.e x.g = true := fun x hx => by
  rw [can_comp hz, ← hz.fix] at hx
  exact (rg_iff.1 (finT_all (Q := rgQ (stM A F)) _ _ ha (by simp) x hx)).1
theorem rq_step {acts : List Act} {f : List Nd} (hS : ∀ a, a ∈ acts → SmX a) (h : RqOk acts f) {i : Nat} {x : Nd} {l : List (List Nd)} (hx : (comp f)[i]? = some x) (hl : l.length = i) (hQ : ∀ (j : Nat) z, l[j]? = some z → TreesOk (comp f) (redT acts) j z) :
    StepOk acts x (l.getD x.x.toNat []) (l.getD x.y.toNat []) := by
  have hm := List.mem_of_getElem? hx
  have hok := comp_okl f i x hx
  obtain ⟨h1, h2, h3⟩ := h.nd x hm
  obtain ⟨oX, oY⟩ := opn (comp_okl f) hx hl hQ
  refine ⟨⟨hok.op.1, h1⟩, fun h16 => ?_, fun h17 => ?_⟩
  · have cY := oY (by rw [h16]; rfl)
    refine ⟨cY.1.check, fun z hz => ?_⟩
    obtain ⟨k, hk⟩ := okl_mem (comp_okl _) hz
    exact (nd_fit hk (can_stM cY.1 (by rw [cY.2]; exact rq_trees h _) z hz) h.a4).1
  · have cX := oX (by rw [h17]; rfl)
    obtain ⟨a1, a2, a3, a4⟩ := hok.act h17
    have hN := rq_nmd h x hm h17
    unfold badRd at h3
    rw [show (x.op == 17) = true by simpa using h17, cond_true] at h3
    have hq : decide (x.i ≥ (acts.length : Int)) = false := by
      cases hq : decide (x.i ≥ (acts.length : Int)) with
      | true => rw [hq] at h3; cases h3
      | false => rfl
    have hlt := of_decide_eq_false hq
    have hget : acts[x.i.toNat]? = some (acts.getD x.i.toNat noAct) := getD_mem (by omega)
    have hma := List.mem_of_getElem? hget
    obtain ⟨c1, c2, c3, c4⟩ := chk_ok (h.chk _ hma)
    have hrl := h.rel _ hma
    refine ⟨x.i.toNat, x.e.toNat, by omega, by omega, _, hget, rfl, hS _ hma, c1, hN, cX.1.check, fun hc => aft_ok (F := 8) c2 c3 (can_stM cX.1 ?_) hc⟩
    rw [cX.2, hrl]; exact rq_trees h _
theorem red_Reduce (acts : List Act) (f : List Nd) (hS : ∀ a, a ∈ acts → SmX a) : PureFn Try.prog 11 [actsPV acts, fpv f] (pairF (rdI acts f)) := by
  have hq := red_request acts f hS
  by_cases h0 : rqI acts f = 0
  · have hR := rq_ok h0
    have hF : rdI acts f = redF acts f := by rw [rdI, h0]; rfl
    rw [h0] at hq
    rw [hF, redF]
    have hlen := comp_len f
    have hpos := comp_pos hR.cf
    have hstep := fun i x l => rq_step (i := i) (x := x) (l := l) hS hR
    have htree := fun i x l => red_step (i := i) (x := x) (l := l) (comp_okl f) (rq_nmd hR)
    have hokl := comp_okl f
    refine PureFn.introC [8, 9] mixed (fn := Try.f11) rfl rfl rfl fun M w0 => ?_
    (try conv=>whnf);repeat' (first|(apply And.intro<;>try conv=>whnf)|(intro h;try conv=>whnf)|(refine PureFn.dcq (f := 36) rfl ?_;try conv=>whnf)|(refine PureFn.dcq (f := 14) rfl ?_;try conv=>whnf)|(refine ⟨_, _, hq, ?_, ?_⟩;(focus first|(refine ⟨?_, ?_, trivial⟩<;>first|exact PLe.refl _|exact PLe.nil)|exact trivial);try conv=>whnf)|(refine ⟨_, _, fm_Compact ?_, ?_, ?_⟩;rotate_left 1;(focus first|(refine ⟨?_, trivial⟩<;>first|exact PLe.refl _|exact PLe.nil)|exact trivial);try conv=>whnf)|fail)
    · exact absurd h (by decide)
    clear h
    generalize comp f = c at *
    refine ⟨{ q : Nat × List (List Nd) // q.1 ≤ c.length ∧ q.2.length = q.1 ∧ redE [] (stepR acts) c [] = redE [] (stepR acts) (c.drop q.1) q.2 ∧ ∀ (j : Nat) z, q.2[j]? = some z → TreesOk c (redT acts) j z },
      fun q => [(0, .pv (actsPV acts)), (7, .buf 0 (q.1.2.map fpv).length), (21, .pv (fpv c)), (22, .pv (.int .i64 (c.map Nd.pv).length)), (23, .pv (.int .i64 (q.1.1 : Nat)))], fun _ => 1, fun q => [(0, .arr 1 (q.1.2.map fpv))], fun q => c.length - q.1.1,
      ⟨⟨(0, []), Nat.zero_le _, rfl, rfl, fun j z h => by simp at h⟩, (by refine Wk.of ?_ ?_ rfl rfl rfl<;>repeat' (first|exact trivial|exact WkD.same _|exact WkD.new' rfl rfl rfl|exact WkO.new _ _ rfl|exact rfl|refine ⟨?_, ?_⟩|fail))⟩, ?_⟩
    rintro ⟨⟨i, l⟩, hi, hl, he, hQ⟩
    simp only at hi hl he hQ
    have hlm : (l.map fpv).length = i := by rw [List.length_map]; exact hl
    (try conv=>whnf);repeat' (first|(apply And.intro<;>try conv=>whnf)|(intro h;try conv=>whnf)|fail)
    · have hi' : i < c.length := by simpa using h
      obtain ⟨x, hx⟩ : ∃ x, c[i]? = some x := ⟨_, List.getElem?_eq_getElem hi'⟩
      have ok := hokl i x hx
      have hst := hstep i x l hx hl hQ
      have htr := htree i x l hx hl hQ
      have hrd := red_reduced acts x _ _ hst
      obtain ⟨X, hX⟩ : ∃ X, l.getD x.x.toNat [] = X := ⟨_, rfl⟩
      obtain ⟨Y, hY⟩ : ∃ Y, l.getD x.y.toNat [] = Y := ⟨_, rfl⟩
      have hh : stepR acts x (l.getD x.x.toNat []) (l.getD x.y.toNat []) = stepR acts x X Y := by rw [hX, hY]
      rw [hX, hY] at hrd htr
      refine ⟨Unit, fun _ => [(0, .pv (actsPV acts)), (7, .buf 0 (l.map fpv).length), (21, .pv (fpv c)), (22, .pv (.int .i64 (c.map Nd.pv).length)), (23, .pv (.int .i64 (i : Nat))), (9, .ref 1 0)], fun _ => 2, fun _ => [(0, .arr 1 (l.map fpv)), (1, .var x.dvs)], ?_, ?_⟩
      · (try conv=>whnf);repeat' (first|(apply And.intro<;>try conv=>whnf)|(apply infoT;rfl)|(refine ⟨_, _, rfl, idx_map (by with_reducible assumption), rfl, ?_⟩;try conv=>whnf)|fail)
        exact ⟨(), (by refine Wk.of ?_ ?_ rfl rfl rfl<;>repeat' (first|exact trivial|exact WkD.same _|exact WkO.same _ _ rfl|refine ⟨?_, ?_⟩|fail))⟩
      rintro ⟨⟩
      refine ⟨{ q : DV × DV // (q.1 = .pv (fpv X) ∧ q.2 = .pv (fpv Y)) }, fun q => [(0, .pv (actsPV acts)), (7, .buf 0 (l.map fpv).length), (21, .pv (fpv c)), (22, .pv (.int .i64 (c.map Nd.pv).length)), (23, .pv (.int .i64 (i : Nat))), (9, .ref 1 0), (10, q.1.1), (11, q.1.2)], fun _ => 2, fun _ => [(0, .arr 1 (l.map fpv)), (1, .var x.dvs)], ?_, ?_⟩
      · try conv=>whnf
        refine DC.call 1 [(0, .arr 1 (l.map fpv))] ⟨rfl, trivial⟩ rfl rfl rfl rfl fun M' => ?_
        refine op_own x l (by rw [hl]; exact ok) M' _ _ _ (fun e => ⟨rfl, ?_⟩) (fun e => ⟨rfl, ?_⟩)
        · subst e
          try conv=>whnf
          have e1 : X = [] := by rw [← hX]; rfl
          have e2 : Y = [] := by rw [← hY]; rfl
          refine ⟨⟨(.pv (fpv X), .pv (fpv Y)), rfl, rfl⟩, ?_⟩
          subst e1; subst e2
          (refine Wk.of ?_ ?_ rfl rfl rfl<;>repeat' (first|exact trivial|exact WkD.same _|exact WkO.same _ _ rfl|exact WkD.nil _ (Or.inl rfl)|refine ⟨?_, ?_⟩|fail))
        · try conv=>whnf
          refine ⟨⟨(.pv (fpv X), .pv (fpv Y)), rfl, rfl⟩, ?_⟩
          rw [hX, hY]
          (refine Wk.of ?_ ?_ rfl rfl rfl<;>repeat' (first|exact trivial|exact WkD.same _|exact WkO.same _ _ rfl|refine ⟨?_, ?_⟩|fail))
      rintro ⟨⟨dx, dy⟩, e1, e2⟩
      simp only at e1 e2
      subst e1; subst e2
      generalize stepR acts x X Y = z at hrd htr hh
      obtain ⟨z, e⟩ := z
      simp only at htr
      (try conv=>whnf);repeat' (first|(apply And.intro<;>try conv=>whnf)|(intro h;try conv=>whnf)|(apply cellsI;rfl)|(apply szI;rfl)|(refine PureFn.dcq (f := 38) rfl ?_;try conv=>whnf)|(refine ⟨_, _, hrd, ?_, ?_⟩;(focus first|(refine ⟨?_, ?_, ?_, ?_, trivial⟩<;>first|exact PLe.refl _|exact PLe.nil)|exact trivial);try conv=>whnf)|fail)
      · have hno := redE_no hx hh h
        have hE : lastF (redE [] (stepR acts) c []) = ([], e) := by rw [he, hno, lastF]; show (bif e != 0 then _ else _) = _; rw [show (e != 0) = true from h]; rfl
        rw [hE]; exact le_nilF _
      · show (l.map fpv).length + 1 ≤ 4294967296
        omega
      · have he0 : e = 0 := by simpa using h
        have hyes := redE_yes hx hh he0
        have hm := map_snoc (l := l) (z := z)
        refine ⟨⟨(i + 1, l ++ [z]), hi', by simp [hl], by rw [he, hyes], fun j y hy => ?_⟩, by show c.length - (i + 1) < c.length - i; omega, ?_⟩
        · rcases Nat.lt_or_ge j l.length with q | q
          · rw [List.getElem?_append_left q] at hy; exact hQ j y hy
          · rw [List.getElem?_append_right q] at hy
            have hj : j = l.length := by
              have := (List.getElem?_eq_some_iff.1 hy).1
              simp at this; omega
            subst hj
            simp at hy
            subst hy
            rw [hl]
            exact htr he0
        · (refine Wk.of ?_ ?_ rfl rfl rfl<;>repeat' (first|exact trivial|exact WkD.same _|exact WkD.eq (congrArg (fun z : List PV => DV.buf _ z.length) hm)|exact WkO.same _ _ (congrArg (fun z => some (DObj.arr _ z)) hm)|refine WkD.int ?_|refine ⟨?_, ?_⟩|(refine wrapA ?_ ?_ ?_;(focus simp;done);(focus (try dsimp only);omega);(focus (try dsimp only);omega))|fail))
    · have hi' : i = c.length := by have := ge_dec (m := (c.map Nd.pv).length) h (by simpa using hi); simpa using this
      subst hi'
      rw [redE_end] at he
      have hw : IntKind.wrap .i64 (((l.map fpv).length : Int) - 1) = ((l.length - 1 : Nat) : Int) := by
        rw [List.length_map]; exact wrapA (by omega) (by omega) (by omega)
      have hll : l.length = c.length := hl
      refine ⟨l.length - 1, hw, (show l.length - 1 < (l.map fpv).length by rw [List.length_map]; omega), ?_⟩
      (try conv=>whnf);repeat' (first|(apply And.intro<;>try conv=>whnf)|fail)
      refine ⟨_, fget (show l.length - 1 < l.length by omega), ?_⟩
      try conv=>whnf
      exact le_pairF (a := (l.getD (l.length - 1) [], 0)) (by rw [he]; rfl)
  · have hF : rdI acts f = ([], rqI acts f) := by rw [rdI, show (rqI acts f != 0) = true by simpa using h0]; rfl
    rw [hF]
    refine PureFn.intro mixed (fn := Try.f11) rfl rfl rfl fun M w0 => ?_
    (try conv=>whnf);repeat' (first|(apply And.intro<;>try conv=>whnf)|(intro h;try conv=>whnf)|(refine PureFn.dcq (f := 36) rfl ?_;try conv=>whnf)|(refine ⟨_, _, hq, ?_, ?_⟩;(focus first|(refine ⟨?_, ?_, trivial⟩<;>first|exact PLe.refl _|exact PLe.nil)|exact trivial);try conv=>whnf)|fail)
    · exact le_nilF _
    all_goals exact absurd (show rqI acts f = 0 by simpa using h) h0
end Go.Proofs.Ytibbphifegibkaa
set_option maxRecDepth 100000
set_option maxHeartbeats 8000000
namespace Go.Proofs.Ytibbphifegibkaa
open Go Go.Dv

def lenR (a : Act) : Bool := bif bif decide ((a.pre.length : Int) > 10) then true else decide ((a.post.length : Int) > 10) then true else decide ((a.rel.length : Int) > 6)
def rowsR (l : List (List Nat)) : Bool := l.any fun r => decide ((r.length : Int) > 12)
def badR (a : Act) : Bool := bif lenR a then true else bif preB 40 a.pre then true else bif postB 40 a.post then true else rowsR a.rel
def fewR (acts : List Act) : Bool := bif decide ((acts.length : Int) > 10) then false else !acts.any badR
theorem fewR_ok {acts : List Act} (h : fewR acts = true) : acts.length ≤ 10 ∧ ∀ a, a ∈ acts → a.pre.length ≤ 10 ∧ a.post.length ≤ 10 ∧ a.rel.length ≤ 6 ∧ (∀ f, f ∈ a.pre → f.length ≤ 40) ∧ ∀ l, l ∈ a.post → l.length ≤ 12 := by
  unfold fewR at h
  cases h1 : decide ((acts.length : Int) > 10) with
  | true => rw [h1] at h; cases h
  | false =>
    rw [h1, cond_false] at h
    have := of_decide_eq_false h1
    refine ⟨by omega, fun a ha => ?_⟩
    have hb : badR a = false := by
      have := List.any_eq_false.1 (show acts.any badR = false by simpa using h) a ha
      simpa using this
    unfold badR at hb
    cases h2 : lenR a with
    | true => rw [h2] at hb; cases hb
    | false =>
      rw [h2, cond_false] at hb
      cases h3 : preB 40 a.pre with
      | true => rw [h3] at hb; cases hb
      | false =>
        rw [h3, cond_false] at hb
        cases h4 : postB 40 a.post with
        | true => rw [h4] at hb; cases hb
        | false =>
          unfold lenR at h2
          cases q1 : decide ((a.pre.length : Int) > 10) with
          | true => rw [q1] at h2; cases h2
          | false =>
            cases q2 : decide ((a.post.length : Int) > 10) with
            | true => rw [q1, q2] at h2; cases h2
            | false =>
              rw [q1, q2] at h2
              have g1 := of_decide_eq_false q1
              have g2 := of_decide_eq_false q2
              have g3 := of_decide_eq_false (show decide ((a.rel.length : Int) > 6) = false from h2)
              refine ⟨by omega, by omega, by omega, fun f hf => ?_, fun l hl => ?_⟩
              · have := List.any_eq_false.1 h3 f hf
                have := of_decide_eq_false (show decide ((f.length : Int) > 40) = false by simpa using this)
                omega
              · have := List.any_eq_false.1 h4 l hl
                cases q : decide ((l.length : Int) > 12) with
                | true => rw [q] at this; exact absurd rfl this
                | false => have := of_decide_eq_false q; omega
theorem rd_Few (acts : List Act) : PureFn Try.prog 27 [actsPV acts] (.bool (fewR acts)) := by
  have e0 : ((acts.map Act.pv).length : Int) = (acts.length : Int) := by simp
  refine PureFn.introC [8, 13, 23] mixed (fn := Try.f27) rfl rfl rfl fun M w0 => ?_
  (try conv=>whnf);repeat' (first|(apply And.intro<;>try conv=>whnf)|(intro h;try conv=>whnf)|fail)
  · rw [fewR, ← e0, show decide (((acts.map Act.pv).length : Int) > 10) = true from h]; exact .refl _
  rw [show fewR acts = !acts.any badR by rw [fewR, ← e0, show decide (((acts.map Act.pv).length : Int) > 10) = false from h]; rfl]
  have hal : acts.length ≤ 10 := by have := of_decide_eq_false h; simp at this; omega
  clear h
  refine ⟨{ i : Nat // i ≤ acts.length ∧ (acts.take i).any badR = false }, fun i => [(0, .pv (actsPV acts)), (3, .pv (i64 i.1))], fun _ => 0, fun _ => [], fun i => acts.length - i.1, ⟨⟨0, Nat.zero_le _, rfl⟩, (by refine Wk.of ?_ ?_ rfl rfl rfl<;>repeat' (first|exact trivial|exact WkD.same _|refine ⟨?_, ?_⟩|fail))⟩, ?_⟩
  rintro ⟨i, hi, hb⟩
  (try conv=>whnf);repeat' (first|(apply And.intro<;>try conv=>whnf)|(intro h;try conv=>whnf)|fail)
  · have hi' : i < acts.length := by simpa using lt_dec h
    have hat := any_at (p := badR) hi'
    have htk := any_take (p := badR) hi' hb
    obtain ⟨a, hn, hr⟩ : ∃ a, acts[i]? = some a ∧ acts[i] = a := ⟨_, List.getElem?_eq_getElem hi', rfl⟩
    rw [hr] at hat htk
    have e1 : ((a.pre.map fpv).length : Int) = (a.pre.length : Int) := by simp
    have e2 : ((a.post.map postPV).length : Int) = (a.post.length : Int) := by simp
    have e3 : ((a.rel.map rowPV).length : Int) = (a.rel.length : Int) := by simp
    clear h
    refine ⟨{ _x : Unit // lenR a = false }, fun _ => [(0, .pv (actsPV acts)), (3, .pv (i64 i))], fun _ => 0, fun _ => [], ?_, ?_⟩
    · (try conv=>whnf);repeat' (first|(apply And.intro<;>try conv=>whnf)|(intro h;try conv=>whnf)|apply True.intro|(apply infoT;rfl)|(apply WhenQ.mk;(try conv=>whnf);rotate_left;(try conv=>whnf);rotate_right)|with_reducible assumption|(apply not_of;with_reducible assumption)|(refine ⟨_, _, rfl, idx_map (by with_reducible assumption), rfl, ?_⟩;try conv=>whnf)|fail)
      · have h9 : lenR a = true := by rw [lenR, ← e1, ← e2, ← e3]; exact h
        rw [hat (by rw [badR, h9]; rfl)]; exact .refl _
      · exact ⟨⟨(), by rw [lenR, ← e1, ← e2, ← e3]; exact h⟩, (by refine Wk.of ?_ ?_ rfl rfl rfl<;>repeat' (first|exact trivial|exact WkD.same _|refine ⟨?_, ?_⟩|fail))⟩
    rintro ⟨_, h1⟩
    have hb1 : a.pre.length ≤ 10 ∧ a.post.length ≤ 10 ∧ a.rel.length ≤ 6 := by
      unfold lenR at h1
      cases q1 : decide ((a.pre.length : Int) > 10) with
      | true => rw [q1] at h1; cases h1
      | false =>
        cases q2 : decide ((a.post.length : Int) > 10) with
        | true => rw [q1, q2] at h1; cases h1
        | false =>
          rw [q1, q2] at h1
          have g1 := of_decide_eq_false q1
          have g2 := of_decide_eq_false q2
          have g3 := of_decide_eq_false (show decide ((a.rel.length : Int) > 6) = false from h1)
          exact ⟨by omega, by omega, by omega⟩
    refine ⟨{ _x : Unit // preB 40 a.pre = false }, fun _ => [(0, .pv (actsPV acts)), (3, .pv (i64 i))], fun _ => 0, fun _ => [], ?_, ?_⟩
    · try conv=>whnf
      refine ⟨{ k : Nat // k ≤ a.pre.length ∧ preB 40 (a.pre.take k) = false }, fun k => [(0, .pv (actsPV acts)), (3, .pv (i64 i)), (4, .pv (i64 k.1))], fun _ => 0, fun _ => [], fun k => a.pre.length - k.1, ⟨⟨0, Nat.zero_le _, rfl⟩, (by refine Wk.of ?_ ?_ rfl rfl rfl<;>repeat' (first|exact trivial|exact WkD.same _|refine ⟨?_, ?_⟩|fail))⟩, ?_⟩
      rintro ⟨k, hk, hc⟩
      (try conv=>whnf);repeat' (first|(apply And.intro<;>try conv=>whnf)|(intro h;try conv=>whnf)|(apply infoT;rfl)|(refine ⟨_, _, rfl, idx_map (by with_reducible assumption), rfl, ?_⟩;try conv=>whnf)|fail)
      · have hk' : k < a.pre.length := by simpa using lt_dec h
        have hkn : a.pre[k]? = some a.pre[k] := List.getElem?_eq_getElem hk'
        have e4 : ((a.pre[k].map Nd.pv).length : Int) = (a.pre[k].length : Int) := by simp
        (try conv=>whnf);repeat' (first|(apply And.intro<;>try conv=>whnf)|(intro h;try conv=>whnf)|(refine ⟨_, _, rfl, idx_map (by with_reducible assumption), rfl, ?_⟩;try conv=>whnf)|fail)
        · have h9 : preB 40 a.pre = true := any_at (p := fun f : List Nd => decide ((f.length : Int) > 40)) hk' (by rw [← e4]; exact h)
          rw [hat (by rw [badR, h1, h9]; rfl)]; exact .refl _
        · exact ⟨⟨k + 1, hk', any_take (p := fun f : List Nd => decide ((f.length : Int) > 40)) hk' hc (by rw [← e4]; exact h)⟩, by show a.pre.length - (k + 1) < a.pre.length - k; omega, (by refine Wk.of ?_ ?_ rfl rfl rfl<;>repeat' (first|exact trivial|exact WkD.same _|refine WkD.int ?_|refine ⟨?_, ?_⟩|(refine wrapA ?_ ?_ ?_;(focus simp;done);(focus (try dsimp only);omega);(focus (try dsimp only);omega))|fail))⟩
      · have hk' : k = a.pre.length := by have := ge_dec (m := (a.pre.map fpv).length) h (by simpa using hk); simpa using this
        subst hk'
        rw [List.take_length] at hc
        exact ⟨⟨(), hc⟩, (by refine Wk.of ?_ ?_ rfl rfl rfl<;>repeat' (first|exact trivial|exact WkD.same _|refine ⟨?_, ?_⟩|fail))⟩
    rintro ⟨_, h2⟩
    refine ⟨{ _x : Unit // postB 40 a.post = false }, fun _ => [(0, .pv (actsPV acts)), (3, .pv (i64 i))], fun _ => 0, fun _ => [], ?_, ?_⟩
    · try conv=>whnf
      refine ⟨{ k : Nat // k ≤ a.post.length ∧ postB 40 (a.post.take k) = false }, fun k => [(0, .pv (actsPV acts)), (3, .pv (i64 i)), (5, .pv (i64 k.1))], fun _ => 0, fun _ => [], fun k => a.post.length - k.1, ⟨⟨0, Nat.zero_le _, rfl⟩, (by refine Wk.of ?_ ?_ rfl rfl rfl<;>repeat' (first|exact trivial|exact WkD.same _|refine ⟨?_, ?_⟩|fail))⟩, ?_⟩
      rintro ⟨k, hk, hc⟩
      (try conv=>whnf);repeat' (first|(apply And.intro<;>try conv=>whnf)|(intro h;try conv=>whnf)|(apply infoT;rfl)|(refine ⟨_, _, rfl, idx_map (by with_reducible assumption), rfl, ?_⟩;try conv=>whnf)|fail)
      · have hk' : k < a.post.length := by simpa using lt_dec h
        have hat2 := any_at (p := fun l : List Asg => bif decide ((l.length : Int) > 12) then true else asgB 40 l) hk'
        have htk2 := any_take (p := fun l : List Asg => bif decide ((l.length : Int) > 12) then true else asgB 40 l) hk' hc
        obtain ⟨l, hkn, hkr⟩ : ∃ l, a.post[k]? = some l ∧ a.post[k] = l := ⟨_, List.getElem?_eq_getElem hk', rfl⟩
        rw [hkr] at hat2 htk2
        have e4 : ((l.map Asg.pv).length : Int) = (l.length : Int) := by simp
        (try conv=>whnf);repeat' (first|(apply And.intro<;>try conv=>whnf)|(intro h;try conv=>whnf)|(refine ⟨_, _, rfl, idx_map (by with_reducible assumption), rfl, ?_⟩;try conv=>whnf)|fail)
        · have h9 : decide ((l.length : Int) > 12) = true := by rw [← e4]; exact h
          rw [hat (by rw [badR, h1, h2, show postB 40 a.post = true from hat2 (by rw [h9]; rfl)]; rfl)]; exact .refl _
        have h9 : decide ((l.length : Int) > 12) = false := by rw [← e4]; exact h
        have hll : l.length ≤ 12 := by have := of_decide_eq_false h9; omega
        refine ⟨{ j : Nat // j ≤ l.length ∧ asgB 40 (l.take j) = false }, fun j => [(0, .pv (actsPV acts)), (3, .pv (i64 i)), (5, .pv (i64 k)), (6, .pv (i64 j.1))], fun _ => 0, fun _ => [], fun j => l.length - j.1, ⟨⟨0, Nat.zero_le _, rfl⟩, (by refine Wk.of ?_ ?_ rfl rfl rfl<;>repeat' (first|exact trivial|exact WkD.same _|refine ⟨?_, ?_⟩|fail))⟩, ?_⟩
        rintro ⟨j, hj, hd⟩
        (try conv=>whnf);repeat' (first|(apply And.intro<;>try conv=>whnf)|(intro h;try conv=>whnf)|(apply infoT;rfl)|(refine ⟨_, _, rfl, idx_map (by with_reducible assumption), rfl, ?_⟩;try conv=>whnf)|fail)
        · have hj' : j < l.length := by simpa using lt_dec h
          have hm : l[j]? = some l[j] := List.getElem?_eq_getElem hj'
          have e5 : ((l[j].to.map Nd.pv).length : Int) = (l[j].to.length : Int) := by simp
          (try conv=>whnf);repeat' (first|(apply And.intro<;>try conv=>whnf)|(intro h;try conv=>whnf)|(refine ⟨_, _, rfl, idx_map (by with_reducible assumption), rfl, ?_⟩;try conv=>whnf)|fail)
          · have h7 : asgB 40 l = true := any_at (p := fun p : Asg => decide ((p.to.length : Int) > 40)) hj' (by rw [← e5]; exact h)
            rw [hat (by rw [badR, h1, h2, show postB 40 a.post = true from hat2 (by rw [h9, h7]; rfl)]; rfl)]; exact .refl _
          · exact ⟨⟨j + 1, hj', any_take (p := fun p : Asg => decide ((p.to.length : Int) > 40)) hj' hd (by rw [← e5]; exact h)⟩, by show l.length - (j + 1) < l.length - j; omega, (by refine Wk.of ?_ ?_ rfl rfl rfl<;>repeat' (first|exact trivial|exact WkD.same _|refine WkD.int ?_|refine ⟨?_, ?_⟩|(refine wrapA ?_ ?_ ?_;(focus simp;done);(focus (try dsimp only);omega);(focus (try dsimp only);omega))|fail))⟩
        · have hj' : j = l.length := by have := ge_dec (m := (l.map Asg.pv).length) h (by simpa using hj); simpa using this
          subst hj'
          rw [List.take_length] at hd
          exact ⟨⟨k + 1, hk', htk2 (by rw [h9, hd]; rfl)⟩, by show a.post.length - (k + 1) < a.post.length - k; omega, (by refine Wk.of ?_ ?_ rfl rfl rfl<;>repeat' (first|exact trivial|exact WkD.same _|refine WkD.int ?_|refine ⟨?_, ?_⟩|(refine wrapA ?_ ?_ ?_;(focus simp;done);(focus (try dsimp only);omega);(focus (try dsimp only);omega))|fail))⟩
      · have hk' : k = a.post.length := by have := ge_dec (m := (a.post.map postPV).length) h (by simpa using hk); simpa using this
        subst hk'
        rw [List.take_length] at hc
        exact ⟨⟨(), hc⟩, (by refine Wk.of ?_ ?_ rfl rfl rfl<;>repeat' (first|exact trivial|exact WkD.same _|refine ⟨?_, ?_⟩|fail))⟩
    rintro ⟨_, h3⟩
    try conv=>whnf
    refine ⟨{ k : Nat // k ≤ a.rel.length ∧ rowsR (a.rel.take k) = false }, fun k => [(0, .pv (actsPV acts)), (3, .pv (i64 i)), (7, .pv (i64 k.1))], fun _ => 0, fun _ => [], fun k => a.rel.length - k.1, ⟨⟨0, Nat.zero_le _, rfl⟩, (by refine Wk.of ?_ ?_ rfl rfl rfl<;>repeat' (first|exact trivial|exact WkD.same _|refine ⟨?_, ?_⟩|fail))⟩, ?_⟩
    rintro ⟨k, hk, hc⟩
    (try conv=>whnf);repeat' (first|(apply And.intro<;>try conv=>whnf)|(intro h;try conv=>whnf)|(apply infoT;rfl)|(refine ⟨_, _, rfl, idx_map (by with_reducible assumption), rfl, ?_⟩;try conv=>whnf)|fail)
    · have hk' : k < a.rel.length := by simpa using lt_dec h
      have hkn : a.rel[k]? = some a.rel[k] := List.getElem?_eq_getElem hk'
      have e4 : ((a.rel[k].map u64).length : Int) = (a.rel[k].length : Int) := by simp
      (try conv=>whnf);repeat' (first|(apply And.intro<;>try conv=>whnf)|(intro h;try conv=>whnf)|(refine ⟨_, _, rfl, idx_map (by with_reducible assumption), rfl, ?_⟩;try conv=>whnf)|fail)
      · have h9 : rowsR a.rel = true := any_at (p := fun r : List Nat => decide ((r.length : Int) > 12)) hk' (by rw [← e4]; exact h)
        rw [hat (by rw [badR, h1, h2, h3, h9]; rfl)]; exact .refl _
      · exact ⟨⟨k + 1, hk', any_take (p := fun r : List Nat => decide ((r.length : Int) > 12)) hk' hc (by rw [← e4]; exact h)⟩, by show a.rel.length - (k + 1) < a.rel.length - k; omega, (by refine Wk.of ?_ ?_ rfl rfl rfl<;>repeat' (first|exact trivial|exact WkD.same _|refine WkD.int ?_|refine ⟨?_, ?_⟩|(refine wrapA ?_ ?_ ?_;(focus simp;done);(focus (try dsimp only);omega);(focus (try dsimp only);omega))|fail))⟩
    · have hk' : k = a.rel.length := by have := ge_dec (m := (a.rel.map rowPV).length) h (by simpa using hk); simpa using this
      subst hk'
      rw [List.take_length] at hc
      exact ⟨⟨i + 1, hi', htk (by rw [badR, h1, h2, h3, hc]; rfl)⟩, by show acts.length - (i + 1) < acts.length - i; omega, (by refine Wk.of ?_ ?_ rfl rfl rfl<;>repeat' (first|exact trivial|exact WkD.same _|refine WkD.int ?_|refine ⟨?_, ?_⟩|(refine wrapA ?_ ?_ ?_;(focus simp;done);(focus (try dsimp only);omega);(focus (try dsimp only);omega))|fail))⟩
  · have hi' : i = acts.length := by have := ge_dec (m := (acts.map Act.pv).length) h (by simpa using hi); simpa using this
    subst hi'
    rw [List.take_length] at hb
    rw [hb]; exact .refl _
end Go.Proofs.Ytibbphifegibkaa
set_option maxRecDepth 100000
set_option maxHeartbeats 8000000
namespace Go.Proofs.Ytibbphifegibkaa
open Go Go.Dv

def longL (l : List (List Nd)) : Bool := l.any fun f => decide ((f.length : Int) > 40)
def fewL (acts : List Act) (l : List (List Nd)) : Bool := bif longL l then false else fewR acts
theorem rl_few (acts : List Act) (l : List (List Nd)) (hl : l.length ≤ 1000) : PureFn Try.prog 7 [actsPV acts, .sl (l.map fpv)] (.bool (fewL acts l)) := by
  have hF := rd_Few acts
  refine PureFn.intro mixed (fn := Try.f7) rfl rfl rfl fun M w0 => ?_
  try conv=>whnf
  refine ⟨{ i : Nat // i ≤ l.length ∧ longL (l.take i) = false }, fun i => [(0, .pv (actsPV acts)), (7, .pv (.sl (l.map fpv))), (8, .pv (i64 (l.map fpv).length)), (9, .pv (i64 i.1))], fun _ => 0, fun _ => [], fun i => l.length - i.1, ⟨⟨0, Nat.zero_le _, rfl⟩, (by refine Wk.of ?_ ?_ rfl rfl rfl<;>repeat' (first|exact trivial|exact WkD.same _|refine ⟨?_, ?_⟩|fail))⟩, ?_⟩
  rintro ⟨i, hi, ha⟩
  (try conv=>whnf);repeat' (first|(apply And.intro<;>try conv=>whnf)|(intro h;try conv=>whnf)|(apply infoT;rfl)|fail)
  · have hi' : i < l.length := by simpa using lt_dec h
    have hm : l[i]? = some l[i] := List.getElem?_eq_getElem hi'
    have ef : ((l[i].map Nd.pv).length : Int) = (l[i].length : Int) := by simp
    (try conv=>whnf);repeat' (first|(apply And.intro<;>try conv=>whnf)|(intro h;try conv=>whnf)|(refine ⟨_, _, rfl, idx_map (by with_reducible assumption), rfl, ?_⟩;try conv=>whnf)|fail)
    · rw [ef] at h
      have : longL l = true := any_at hi' h
      rw [fewL, this]; exact .refl _
    · rw [ef] at h
      exact ⟨⟨i + 1, hi', any_take hi' ha h⟩, by show l.length - (i + 1) < l.length - i; omega, (by refine Wk.of ?_ ?_ rfl rfl rfl<;>repeat' (first|exact trivial|exact WkD.same _|refine WkD.int ?_|refine ⟨?_, ?_⟩|(refine wrapA ?_ ?_ ?_;(focus simp;done);(focus (try dsimp only);omega);(focus (try dsimp only);omega))|fail))⟩
  · have hi' : i = l.length := by have := ge_dec (m := (l.map fpv).length) h (by simpa using hi); simpa using this
    subst hi'
    rw [List.take_length] at ha
    rw [fewL, ha]
    (try conv=>whnf);repeat' (first|(refine PureFn.dcq (f := 27) rfl ?_;try conv=>whnf)|(refine ⟨_, _, hF, ?_, ?_⟩;(focus first|(refine ⟨?_, trivial⟩<;>first|exact PLe.refl _|exact PLe.nil)|exact trivial);try conv=>whnf)|fail)
    exact .refl _
theorem few_len {acts : List Act} {l : List (List Nd)} (h : fewL acts l = true) : fewR acts = true ∧ ∀ f, f ∈ l → f.length ≤ 40 := by
  unfold fewL at h
  cases h1 : longL l with
  | true => rw [h1] at h; cases h
  | false =>
    rw [h1] at h
    refine ⟨h, fun f hf => ?_⟩
    have := List.any_eq_false.1 h1 f hf
    have := of_decide_eq_false (show decide ((f.length : Int) > 40) = false by simpa using this)
    omega
theorem awS {a : Act} (h1 : (a.rel.all fun r => r.all fun s => decide (s < 2 ^ 64)) = true) (h2 : a.rel.length ≤ 1000) (h3 : (a.post.all fun l => decide (l.length ≤ 1000)) = true) : SmX a := by
  refine ⟨fun r hr s hs => ?_, h2, fun l hl => ?_⟩
  · have := List.all_eq_true.1 (List.all_eq_true.1 h1 r hr) s hs
    simpa using this
  · simpa using List.all_eq_true.1 h3 l hl
theorem pair_of {a : List Nd × Int} {z : List Nd} {e : Int} (h1 : z = a.1) (h2 : a.2 = e) : a = (z, e) := by
  obtain ⟨x, y⟩ := a
  simp only at h1 h2
  rw [h1, h2]
theorem rl_awake : PureFn Try.prog 6 [] (.bool true) := by
  obtain ⟨P, qP⟩ : ∃ z : List Nd, z = buildL (nI 3 0) [] := ⟨_, rfl⟩
  have hP := fm_Fact 0
  rw [← qP] at hP
  obtain ⟨Q, qQ⟩ : ∃ z : List Nd, z = buildL (nI 3 1) [] := ⟨_, rfl⟩
  have hQ := fm_Fact 1
  rw [← qQ] at hQ
  obtain ⟨Y, qY⟩ : ∃ z : List Nd, z = buildL (n0 1) [] := ⟨_, rfl⟩
  have hY := fm_True
  rw [← qY] at hY
  obtain ⟨K, qK⟩ : ∃ z : List Nd, z = buildL (nI 9 0) [Q] := ⟨_, rfl⟩
  have hK := fm_Know 0 Q
  rw [← qK] at hK
  obtain ⟨C3, qC3⟩ : ∃ z : List Nd, z = buildL (nG 13 3) [Y, Q] := ⟨_, rfl⟩
  have hC3 := fm_Common 3 Y Q
  rw [← qC3] at hC3
  obtain ⟨C1, qC1⟩ : ∃ z : List Nd, z = buildL (nG 13 1) [Y, Q] := ⟨_, rfl⟩
  have hC1 := fm_Common 1 Y Q
  rw [← qC1] at hC1
  obtain ⟨PQ, qPQ⟩ : ∃ z : List Nd, z = buildL (n0 7) [P, Q] := ⟨_, rfl⟩
  have hPQ := fm_Imp P Q
  rw [← qPQ] at hPQ
  obtain ⟨K2, qK2⟩ : ∃ z : List Nd, z = buildL (nI 9 0) [PQ] := ⟨_, rfl⟩
  have hK2 := fm_Know 0 PQ
  rw [← qK2] at hK2
  obtain ⟨F1, qF1⟩ : ∃ z : List Nd, z = buildL (n0 7) [P, K2] := ⟨_, rfl⟩
  have hF1 := fm_Imp P K2
  rw [← qF1] at hF1
  obtain ⟨PY, qPY⟩ : ∃ z : List Nd, z = buildL (n0 7) [P, Y] := ⟨_, rfl⟩
  have hPY := fm_Imp P Y
  rw [← qPY] at hPY
  obtain ⟨AY, qAY⟩ : ∃ z : List Nd, z = buildL (n0 5) [P, PY] := ⟨_, rfl⟩
  have hAY := fm_And P PY
  rw [← qAY] at hAY
  obtain ⟨CA, qCA⟩ : ∃ z : List Nd, z = buildL (nG 13 3) [AY, PQ] := ⟨_, rfl⟩
  have hCA := fm_Common 3 AY PQ
  rw [← qCA] at hCA
  obtain ⟨F2, qF2⟩ : ∃ z : List Nd, z = buildL (n0 7) [P, CA] := ⟨_, rfl⟩
  have hF2 := fm_Imp P CA
  rw [← qF2] at hF2
  obtain ⟨YQ, qYQ⟩ : ∃ z : List Nd, z = buildL (n0 7) [Y, Q] := ⟨_, rfl⟩
  have hYQ := fm_Imp Y Q
  rw [← qYQ] at hYQ
  obtain ⟨K3, qK3⟩ : ∃ z : List Nd, z = buildL (nI 9 0) [YQ] := ⟨_, rfl⟩
  have hK3 := fm_Know 0 YQ
  rw [← qK3] at hK3
  obtain ⟨A4, qA4⟩ : ∃ z : List Nd, z = buildL (n0 5) [K2, K3] := ⟨_, rfl⟩
  have hA4 := fm_And K2 K3
  rw [← qA4] at hA4
  obtain ⟨F4, qF4⟩ : ∃ z : List Nd, z = buildL (n0 7) [Y, A4] := ⟨_, rfl⟩
  have hF4 := fm_Imp Y A4
  rw [← qF4] at hF4
  obtain ⟨T0, qT0⟩ : ∃ z : List Nd, z = buildL ⟨17, 0, 0, 0, 0, 0⟩ [Q] := ⟨_, rfl⟩
  have hT0 := fm_Act 0 0 Q
  rw [← qT0] at hT0
  obtain ⟨T1, qT1⟩ : ∃ z : List Nd, z = buildL (n0 16) [P, T0] := ⟨_, rfl⟩
  have hT1 := fm_Announce P T0
  rw [← qT1] at hT1
  obtain ⟨T2, qT2⟩ : ∃ z : List Nd, z = buildL ⟨17, 0, 0, 0, 0, 0⟩ [C1] := ⟨_, rfl⟩
  have hT2 := fm_Act 0 0 C1
  rw [← qT2] at hT2
  obtain ⟨A, qA⟩ : ∃ a : Act, a = ⟨[P, Y], [[], []], [[1, 3]]⟩ := ⟨_, rfl⟩
  have hSA : SmX A := by rw [qA]; exact awS rfl (by simp) rfl
  obtain ⟨RA, qRA⟩ : ∃ z : List Nd, z = (annI P K).1 := ⟨_, rfl⟩
  have hRA := red_Announced P K
  rw [pair_of qRA (e := 0) (by rw [qK, qQ, qP]; kernel_rfl)] at hRA
  obtain ⟨RB, qRB⟩ : ∃ z : List Nd, z = (annI P C3).1 := ⟨_, rfl⟩
  have hRB := red_Announced P C3
  rw [pair_of qRB (e := 0) (by rw [qC3, qY, qQ, qP]; kernel_rfl)] at hRB
  obtain ⟨RC, qRC⟩ : ∃ z : List Nd, z = (aftI A 0 K).1 := ⟨_, rfl⟩
  have hRC := red_After A 0 K hSA
  rw [pair_of qRC (e := 0) (by rw [qA, qK, qY, qQ, qP]; kernel_rfl)] at hRC
  obtain ⟨RD, qRD⟩ : ∃ z : List Nd, z = (aftI A 1 K).1 := ⟨_, rfl⟩
  have hRD := red_After A 1 K hSA
  rw [pair_of qRD (e := 0) (by rw [qA, qK, qY, qQ, qP]; kernel_rfl)] at hRD
  have hSL : ∀ a, a ∈ [A] → SmX a := fun a ha => by rw [List.mem_singleton.1 ha]; exact hSA
  obtain ⟨RX, qRX⟩ : ∃ z : List Nd, z = (rdI [A] T1).1 := ⟨_, rfl⟩
  have hRX := red_Reduce [A] T1 hSL
  rw [pair_of qRX (e := 0) (by rw [qA, qT1, qT0, qY, qQ, qP]; kernel_rfl)] at hRX
  obtain ⟨RJ, qRJ⟩ : ∃ z : List Nd, z = (rdI [A] T2).1 := ⟨_, rfl⟩
  have hRJ := red_Reduce [A] T2 hSL
  rw [pair_of qRJ (e := 10) (by rw [qA, qT2, qC1, qY, qQ, qP]; kernel_rfl)] at hRJ
  obtain ⟨RY, qRY⟩ : ∃ z : List Nd, z = (annI P PQ).1 := ⟨_, rfl⟩
  have hRY := red_Announced P PQ
  rw [pair_of qRY (e := 0) (by rw [qPQ, qQ, qP]; kernel_rfl)] at hRY
  have s1 := (fm_Same RA F1).to (q := .bool true) (by rw [qRA, qF1, qK2, qK, qPQ, qQ, qP]; kernel_rfl)
  have s2 := (fm_Same RB F2).to (q := .bool true) (by rw [qRB, qF2, qCA, qAY, qPY, qC3, qPQ, qY, qQ, qP]; kernel_rfl)
  have s3 := (fm_Same RC F1).to (q := .bool true) (by rw [qRC, qF1, qA, qK2, qK, qPQ, qY, qQ, qP]; kernel_rfl)
  have s4 := (fm_Same RD F4).to (q := .bool true) (by rw [qRD, qF4, qA4, qK3, qYQ, qA, qK2, qK, qPQ, qY, qQ, qP]; kernel_rfl)
  have s5 := (fm_Same RX RY).to (q := .bool true) (by rw [qRX, qRY, qA, qT1, qT0, qPQ, qY, qQ, qP]; kernel_rfl)
  have hpv : A.pv = .agg [.sl [fpv P, fpv Y], .sl [.sl [], .sl []], .sl [.sl [u64 1, u64 3]]] := by rw [qA]; rfl
  have le1 : PLe (.agg [.sl [fpv P, fpv Y], .sl [.nil, .nil], .sl [.sl [u64 1, u64 3]]]) A.pv := by
    rw [hpv]
    refine .agg _ _ rfl fun i p q hp hq => ?_
    match i, hp, hq with
    | 0, hp, hq => cases hp; cases hq; exact .refl _
    | 1, hp, hq =>
      cases hp; cases hq
      refine .sl _ _ rfl fun j p q hp hq => ?_
      match j, hp, hq with
      | 0, hp, hq => cases hp; cases hq; exact .nil
      | 1, hp, hq => cases hp; cases hq; exact .nil
      | _ + 2, hp, _ => simp at hp
    | 2, hp, hq => cases hp; cases hq; exact .refl _
    | _ + 3, hp, _ => simp at hp
  have le2 : PLe (.sl [.agg [.sl [fpv P, fpv Y], .sl [.nil, .nil], .sl [.sl [u64 1, u64 3]]]]) (actsPV [A]) := .sl _ _ rfl fun i p q hp hq => by
    match i, hp, hq with
    | 0, hp, hq => cases hp; cases hq; exact le1
    | _ + 1, hp, _ => simp at hp
  have hRC := hRC.le (ps := [.agg [.sl [fpv P, fpv Y], .sl [.nil, .nil], .sl [.sl [u64 1, u64 3]]], .int .i64 0, fpv K]) ⟨le1, .refl _, .refl _, trivial⟩
  have hRD := hRD.le (ps := [.agg [.sl [fpv P, fpv Y], .sl [.nil, .nil], .sl [.sl [u64 1, u64 3]]], .int .i64 1, fpv K]) ⟨le1, .refl _, .refl _, trivial⟩
  have hRX := hRX.le (ps := [.sl [.agg [.sl [fpv P, fpv Y], .sl [.nil, .nil], .sl [.sl [u64 1, u64 3]]]], fpv T1]) ⟨le2, .refl _, trivial⟩
  have hRJ := hRJ.le (ps := [.sl [.agg [.sl [fpv P, fpv Y], .sl [.nil, .nil], .sl [.sl [u64 1, u64 3]]]], fpv T2]) ⟨le2, .refl _, trivial⟩
  clear le1 le2 hpv hSA hSL
  refine PureFn.introC [2, 3, 4, 5, 6, 7, 8, 9, 10, 11, 12] mixed (fn := Try.f6) rfl rfl rfl fun M w0 => ?_
  try conv=>whnf
  refine ⟨Unit, fun _ => [(1, .pv (fpv P)), (2, .pv (fpv Q)), (3, .pv (fpv Y))], fun _ => 0, fun _ => [], ?_, ?_⟩
  · (try conv=>whnf);repeat' (first|(refine PureFn.dcq (f := 18) rfl ?_;try conv=>whnf)|(refine PureFn.dcq (f := 19) rfl ?_;try conv=>whnf)|(refine ⟨_, _, hP, ?_, ?_⟩;(focus first|(refine ⟨?_, trivial⟩<;>first|exact PLe.refl _|exact PLe.nil)|exact trivial);try conv=>whnf)|(refine ⟨_, _, hQ, ?_, ?_⟩;(focus first|(refine ⟨?_, trivial⟩<;>first|exact PLe.refl _|exact PLe.nil)|exact trivial);try conv=>whnf)|(refine ⟨_, _, hY, ?_, ?_⟩;(focus first|(refine ⟨trivial⟩<;>first|exact PLe.refl _|exact PLe.nil)|exact trivial);try conv=>whnf)|fail)
    exact ⟨(), (by refine Wk.of ?_ ?_ rfl rfl rfl<;>repeat' (first|exact trivial|exact WkD.same _|refine ⟨?_, ?_⟩|fail))⟩
  rintro ⟨⟩
  refine ⟨Unit, fun _ => [(1, .pv (fpv P)), (2, .pv (fpv Q)), (3, .pv (fpv Y)), (4, .pv (fpv RA)), (5, .pv (.int .i64 0))], fun _ => 0, fun _ => [], ?_, ?_⟩
  · (try conv=>whnf);repeat' (first|(refine PureFn.dcq (f := 20) rfl ?_;try conv=>whnf)|(refine PureFn.dcq (f := 8) rfl ?_;try conv=>whnf)|(refine ⟨_, _, hK, ?_, ?_⟩;(focus first|(refine ⟨?_, ?_, trivial⟩<;>first|exact PLe.refl _|exact PLe.nil)|exact trivial);try conv=>whnf)|(refine ⟨_, _, hRA, ?_, ?_⟩;(focus first|(refine ⟨?_, ?_, trivial⟩<;>first|exact PLe.refl _|exact PLe.nil)|exact trivial);try conv=>whnf)|fail)
    exact ⟨(), (by refine Wk.of ?_ ?_ rfl rfl rfl<;>repeat' (first|exact trivial|exact WkD.same _|refine ⟨?_, ?_⟩|fail))⟩
  rintro ⟨⟩
  refine ⟨Unit, fun _ => [(1, .pv (fpv P)), (2, .pv (fpv Q)), (3, .pv (fpv Y)), (4, .pv (fpv RA)), (5, .pv (.int .i64 0)), (6, .pv (fpv RB)), (7, .pv (.int .i64 0))], fun _ => 0, fun _ => [], ?_, ?_⟩
  · (try conv=>whnf);repeat' (first|(refine PureFn.dcq (f := 21) rfl ?_;try conv=>whnf)|(refine PureFn.dcq (f := 8) rfl ?_;try conv=>whnf)|(refine ⟨_, _, hC3, ?_, ?_⟩;(focus first|(refine ⟨?_, ?_, ?_, trivial⟩<;>first|exact PLe.refl _|exact PLe.nil)|exact trivial);try conv=>whnf)|(refine ⟨_, _, hRB, ?_, ?_⟩;(focus first|(refine ⟨?_, ?_, trivial⟩<;>first|exact PLe.refl _|exact PLe.nil)|exact trivial);try conv=>whnf)|fail)
    exact ⟨(), (by refine Wk.of ?_ ?_ rfl rfl rfl<;>repeat' (first|exact trivial|exact WkD.same _|refine ⟨?_, ?_⟩|fail))⟩
  rintro ⟨⟩
  refine ⟨Unit, fun _ => [(1, .pv (fpv P)), (2, .pv (fpv Q)), (3, .pv (fpv Y)), (4, .pv (fpv RA)), (5, .pv (.int .i64 0)), (6, .pv (fpv RB)), (7, .pv (.int .i64 0)), (8, .ref 1 0)], fun _ => 2, fun _ => [(1, .var [.pv (.sl [fpv P, fpv Y]), .pv (.sl [.nil, .nil]), .pv (.sl [.sl [u64 1, u64 3]])])], ?_, ?_⟩
  · (try conv=>whnf);repeat' (first|(apply And.intro<;>try conv=>whnf)|(apply cellsI;rfl)|(apply Or.inl;try conv=>whnf)|fail)
    all_goals first | exact ⟨(), (by refine Wk.of ?_ ?_ rfl rfl rfl<;>repeat' (first|exact trivial|exact WkD.same _|exact WkD.fz _ _ _ rfl (Or.inl ⟨_, rfl⟩) rfl|refine WkO.vars rfl ?_|refine ⟨?_, ?_⟩|fail))⟩ | rfl | exact (by decide : (0 : Int) ≤ 2) | exact (by decide : (2 : Int) ≤ (big : Int)) | trivial
  rintro ⟨⟩
  refine ⟨Unit, fun _ => [(1, .pv (fpv P)), (2, .pv (fpv Q)), (3, .pv (fpv Y)), (4, .pv (fpv RA)), (5, .pv (.int .i64 0)), (6, .pv (fpv RB)), (7, .pv (.int .i64 0)), (8, .ref 1 0), (9, .pv (fpv RC)), (10, .pv (.int .i64 0))], fun _ => 2, fun _ => [(1, .var [.pv (.sl [fpv P, fpv Y]), .pv (.sl [.nil, .nil]), .pv (.sl [.sl [u64 1, u64 3]])])], ?_, ?_⟩
  · (try conv=>whnf);repeat' (first|(refine lin_plan (by kernel_rfl) ?_;try conv=>whnf)|(refine ⟨_, (by (conv=>whnf);exact hK), rfl, ?_⟩;try conv=>whnf)|(refine ⟨_, (by (conv=>whnf);exact hRC), rfl, ?_⟩;try conv=>whnf)|fail)
    exact ⟨(), (by refine Wk.of ?_ ?_ rfl rfl rfl<;>repeat' (first|exact trivial|exact WkD.same _|exact WkO.same _ _ rfl|refine ⟨?_, ?_⟩|fail))⟩
  rintro ⟨⟩
  refine ⟨Unit, fun _ => [(1, .pv (fpv P)), (2, .pv (fpv Q)), (3, .pv (fpv Y)), (4, .pv (fpv RA)), (5, .pv (.int .i64 0)), (6, .pv (fpv RB)), (7, .pv (.int .i64 0)), (8, .ref 1 0), (9, .pv (fpv RC)), (10, .pv (.int .i64 0)), (11, .pv (fpv RD)), (12, .pv (.int .i64 0))], fun _ => 2, fun _ => [(1, .var [.pv (.sl [fpv P, fpv Y]), .pv (.sl [.nil, .nil]), .pv (.sl [.sl [u64 1, u64 3]])])], ?_, ?_⟩
  · (try conv=>whnf);repeat' (first|(refine lin_plan (by kernel_rfl) ?_;try conv=>whnf)|(refine ⟨_, (by (conv=>whnf);exact hK), rfl, ?_⟩;try conv=>whnf)|(refine ⟨_, (by (conv=>whnf);exact hRD), rfl, ?_⟩;try conv=>whnf)|fail)
    exact ⟨(), (by refine Wk.of ?_ ?_ rfl rfl rfl<;>repeat' (first|exact trivial|exact WkD.same _|exact WkO.same _ _ rfl|refine ⟨?_, ?_⟩|fail))⟩
  rintro ⟨⟩
  refine ⟨Unit, fun _ => [(1, .pv (fpv P)), (2, .pv (fpv Q)), (3, .pv (fpv Y)), (4, .pv (fpv RA)), (5, .pv (.int .i64 0)), (6, .pv (fpv RB)), (7, .pv (.int .i64 0)), (8, .ref 1 0), (9, .pv (fpv RC)), (10, .pv (.int .i64 0)), (11, .pv (fpv RD)), (12, .pv (.int .i64 0)), (13, .pv (fpv RX)), (14, .pv (.int .i64 0))], fun _ => 2, fun _ => [(1, .var [.pv (.sl [fpv P, fpv Y]), .pv (.sl [.nil, .nil]), .pv (.sl [.sl [u64 1, u64 3]])])], ?_, ?_⟩
  · (try conv=>whnf);repeat' (first|(apply And.intro<;>try conv=>whnf)|(apply cellsI;rfl)|(refine lin_plan (by kernel_rfl) ?_;try conv=>whnf)|(refine ⟨_, (by (conv=>whnf);exact hT0), rfl, ?_⟩;try conv=>whnf)|(refine ⟨_, (by (conv=>whnf);exact hT1), rfl, ?_⟩;try conv=>whnf)|(refine ⟨_, (by (conv=>whnf);exact hRX), rfl, ?_⟩;try conv=>whnf)|fail)
    exact ⟨(), (by refine Wk.of ?_ ?_ rfl rfl rfl<;>repeat' (first|exact trivial|exact WkD.same _|exact WkO.same _ _ rfl|refine ⟨?_, ?_⟩|fail))⟩
  rintro ⟨⟩
  refine ⟨Unit, fun _ => [(1, .pv (fpv P)), (2, .pv (fpv Q)), (3, .pv (fpv Y)), (4, .pv (fpv RA)), (5, .pv (.int .i64 0)), (6, .pv (fpv RB)), (7, .pv (.int .i64 0)), (9, .pv (fpv RC)), (10, .pv (.int .i64 0)), (11, .pv (fpv RD)), (12, .pv (.int .i64 0)), (13, .pv (fpv RX)), (14, .pv (.int .i64 0)), (16, .pv (.int .i64 10))], fun _ => 2, fun _ => [], ?_, ?_⟩
  · (try conv=>whnf);repeat' (first|(apply And.intro<;>try conv=>whnf)|(apply cellsI;rfl)|(refine lin_plan (by kernel_rfl) ?_;try conv=>whnf)|(refine ⟨_, (by (conv=>whnf);exact hC1), rfl, ?_⟩;try conv=>whnf)|(refine ⟨_, (by (conv=>whnf);exact hT2), rfl, ?_⟩;try conv=>whnf)|(refine ⟨_, (by (conv=>whnf);exact hRJ), rfl, ?_⟩;try conv=>whnf)|fail)
    exact ⟨(), (by refine Wk.of ?_ ?_ rfl rfl rfl<;>repeat' (first|exact trivial|exact WkD.same _|refine ⟨?_, ?_⟩|fail))⟩
  rintro ⟨⟩
  refine ⟨Unit, fun _ => [(1, .pv (fpv P)), (2, .pv (fpv Q)), (3, .pv (fpv Y)), (4, .pv (fpv RA)), (5, .pv (.int .i64 0)), (6, .pv (fpv RB)), (7, .pv (.int .i64 0)), (9, .pv (fpv RC)), (10, .pv (.int .i64 0)), (11, .pv (fpv RD)), (12, .pv (.int .i64 0)), (13, .pv (fpv RX)), (14, .pv (.int .i64 0)), (16, .pv (.int .i64 10)), (17, .pv (fpv PQ))], fun _ => 2, fun _ => [], ?_, ?_⟩
  · (try conv=>whnf);repeat' (first|(refine PureFn.dcq (f := 25) rfl ?_;try conv=>whnf)|(refine ⟨_, _, hPQ, ?_, ?_⟩;(focus first|(refine ⟨?_, ?_, trivial⟩<;>first|exact PLe.refl _|exact PLe.nil)|exact trivial);try conv=>whnf)|fail)
    exact ⟨(), (by refine Wk.of ?_ ?_ rfl rfl rfl<;>repeat' (first|exact trivial|exact WkD.same _|refine ⟨?_, ?_⟩|fail))⟩
  rintro ⟨⟩
  refine ⟨Unit, fun _ => [(1, .pv (fpv P)), (2, .pv (fpv Q)), (3, .pv (fpv Y)), (4, .pv (fpv RA)), (5, .pv (.int .i64 0)), (6, .pv (fpv RB)), (7, .pv (.int .i64 0)), (9, .pv (fpv RC)), (10, .pv (.int .i64 0)), (11, .pv (fpv RD)), (12, .pv (.int .i64 0)), (13, .pv (fpv RX)), (14, .pv (.int .i64 0)), (16, .pv (.int .i64 10)), (17, .pv (fpv PQ)), (18, .pv (fpv RY)), (19, .pv (.int .i64 0))], fun _ => 2, fun _ => [], ?_, ?_⟩
  · (try conv=>whnf);repeat' (first|(refine PureFn.dcq (f := 8) rfl ?_;try conv=>whnf)|(refine ⟨_, _, hRY, ?_, ?_⟩;(focus first|(refine ⟨?_, ?_, trivial⟩<;>first|exact PLe.refl _|exact PLe.nil)|exact trivial);try conv=>whnf)|fail)
    exact ⟨(), (by refine Wk.of ?_ ?_ rfl rfl rfl<;>repeat' (first|exact trivial|exact WkD.same _|refine ⟨?_, ?_⟩|fail))⟩
  rintro ⟨⟩
  refine ⟨Unit, fun _ => [(1, .pv (fpv P)), (2, .pv (fpv Q)), (3, .pv (fpv Y)), (4, .pv (fpv RA)), (6, .pv (fpv RB)), (9, .pv (fpv RC)), (11, .pv (fpv RD)), (13, .pv (fpv RX)), (17, .pv (fpv PQ)), (18, .pv (fpv RY)), (20, .pv (.bool true))], fun _ => 2, fun _ => [], ?_, ?_⟩
  · (try conv=>whnf);repeat' (first|(apply And.intro<;>try conv=>whnf)|(intro h;try conv=>whnf)|apply True.intro|(apply WhenQ.mk;(try conv=>whnf);rotate_left;(try conv=>whnf);rotate_right)|with_reducible assumption|fail)
    exact ⟨(), (by refine Wk.of ?_ ?_ rfl rfl rfl<;>repeat' (first|exact trivial|exact WkD.same _|refine ⟨?_, ?_⟩|fail))⟩
  rintro ⟨⟩
  (try conv=>whnf);repeat' (first|(apply And.intro<;>try conv=>whnf)|(intro h;try conv=>whnf)|apply True.intro|(apply WhenQ.mk;(try conv=>whnf);rotate_left;(try conv=>whnf);rotate_right)|with_reducible assumption|(refine PureFn.dcq (f := 15) rfl ?_;try conv=>whnf)|(refine PureFn.dcq (f := 25) rfl ?_;try conv=>whnf)|(refine PureFn.dcq (f := 20) rfl ?_;try conv=>whnf)|(refine PureFn.dcq (f := 26) rfl ?_;try conv=>whnf)|(refine PureFn.dcq (f := 21) rfl ?_;try conv=>whnf)|(refine ⟨_, _, s1, ?_, ?_⟩;(focus first|(refine ⟨?_, ?_, trivial⟩<;>first|exact PLe.refl _|exact PLe.nil)|exact trivial);try conv=>whnf)|(refine ⟨_, _, s2, ?_, ?_⟩;(focus first|(refine ⟨?_, ?_, trivial⟩<;>first|exact PLe.refl _|exact PLe.nil)|exact trivial);try conv=>whnf)|(refine ⟨_, _, s3, ?_, ?_⟩;(focus first|(refine ⟨?_, ?_, trivial⟩<;>first|exact PLe.refl _|exact PLe.nil)|exact trivial);try conv=>whnf)|(refine ⟨_, _, s4, ?_, ?_⟩;(focus first|(refine ⟨?_, ?_, trivial⟩<;>first|exact PLe.refl _|exact PLe.nil)|exact trivial);try conv=>whnf)|(refine ⟨_, _, s5, ?_, ?_⟩;(focus first|(refine ⟨?_, ?_, trivial⟩<;>first|exact PLe.refl _|exact PLe.nil)|exact trivial);try conv=>whnf)|(refine ⟨_, _, hK2, ?_, ?_⟩;(focus first|(refine ⟨?_, ?_, trivial⟩<;>first|exact PLe.refl _|exact PLe.nil)|exact trivial);try conv=>whnf)|(refine ⟨_, _, hF1, ?_, ?_⟩;(focus first|(refine ⟨?_, ?_, trivial⟩<;>first|exact PLe.refl _|exact PLe.nil)|exact trivial);try conv=>whnf)|(refine ⟨_, _, hPY, ?_, ?_⟩;(focus first|(refine ⟨?_, ?_, trivial⟩<;>first|exact PLe.refl _|exact PLe.nil)|exact trivial);try conv=>whnf)|(refine ⟨_, _, hAY, ?_, ?_⟩;(focus first|(refine ⟨?_, ?_, trivial⟩<;>first|exact PLe.refl _|exact PLe.nil)|exact trivial);try conv=>whnf)|(refine ⟨_, _, hCA, ?_, ?_⟩;(focus first|(refine ⟨?_, ?_, ?_, trivial⟩<;>first|exact PLe.refl _|exact PLe.nil)|exact trivial);try conv=>whnf)|(refine ⟨_, _, hF2, ?_, ?_⟩;(focus first|(refine ⟨?_, ?_, trivial⟩<;>first|exact PLe.refl _|exact PLe.nil)|exact trivial);try conv=>whnf)|(refine ⟨_, _, hYQ, ?_, ?_⟩;(focus first|(refine ⟨?_, ?_, trivial⟩<;>first|exact PLe.refl _|exact PLe.nil)|exact trivial);try conv=>whnf)|(refine ⟨_, _, hK3, ?_, ?_⟩;(focus first|(refine ⟨?_, ?_, trivial⟩<;>first|exact PLe.refl _|exact PLe.nil)|exact trivial);try conv=>whnf)|(refine ⟨_, _, hA4, ?_, ?_⟩;(focus first|(refine ⟨?_, ?_, trivial⟩<;>first|exact PLe.refl _|exact PLe.nil)|exact trivial);try conv=>whnf)|(refine ⟨_, _, hF4, ?_, ?_⟩;(focus first|(refine ⟨?_, ?_, trivial⟩<;>first|exact PLe.refl _|exact PLe.nil)|exact trivial);try conv=>whnf)|fail)
  exact le_bool (by simp)
end Go.Proofs.Ytibbphifegibkaa
set_option maxRecDepth 100000
set_option maxHeartbeats 4000000
namespace Go.Proofs.Ytibbphifegibkaa
open Go Go.Dv

theorem ref_Imp (f g : List Nd) : PureFn Try.prog 54 [fpv f, fpv g] (fpv (buildL (n0 7) [f, g])) := by
  rw [build_bin _ _ _ rfl rfl]
  have hB := ref_Binary (n0 7) f g
  refine PureFn.intro mixed (fn := Try.f54) rfl rfl rfl fun M w0 => ?_
  (try conv=>whnf);repeat' (first|(refine PureFn.dcq (f := 75) rfl ?_;try conv=>whnf)|(refine ⟨_, _, hB, ?_, ?_⟩;(focus first|(refine ⟨?_, ?_, ?_, trivial⟩<;>first|exact PLe.refl _|exact PLe.nil)|exact trivial);try conv=>whnf)|fail)
  exact .refl _
theorem rr_apply (x : Nd) (X Y : List Nd) (k : Int) (hk : OkNd x k) : PureFn Try.prog 55 [x.pv, fpv X, fpv Y] (fpv (apN x X Y)) := by
  have h1 := ref_Binary x X Y
  have h2 := ref_Unary x X
  have h3 := ref_One x
  rw [ap_eq hk]
  refine PureFn.intro mixed (fn := Try.f55) rfl rfl rfl fun M w0 => ?_
  (try conv=>whnf);repeat' (first|(apply And.intro<;>try conv=>whnf)|(intro h;try conv=>whnf)|(refine PureFn.dcq (f := 33) rfl ?_;try conv=>whnf)|(refine PureFn.dcq (f := 34) rfl ?_;try conv=>whnf)|(refine PureFn.dcq (f := 75) rfl ?_;try conv=>whnf)|(refine PureFn.dcq (f := 76) rfl ?_;try conv=>whnf)|(refine PureFn.dcq (f := 77) rfl ?_;try conv=>whnf)|(refine ⟨_, _, ref_UsesX ?_, ?_, ?_⟩;rotate_left 1;(focus first|(refine ⟨?_, trivial⟩<;>first|exact PLe.refl _|exact PLe.nil)|exact trivial);try conv=>whnf)|(refine ⟨_, _, ref_UsesY ?_, ?_, ?_⟩;rotate_left 1;(focus first|(refine ⟨?_, trivial⟩<;>first|exact PLe.refl _|exact PLe.nil)|exact trivial);try conv=>whnf)|(refine ⟨_, _, h1, ?_, ?_⟩;(focus first|(refine ⟨?_, ?_, ?_, trivial⟩<;>first|exact PLe.refl _|exact PLe.nil)|exact trivial);try conv=>whnf)|(refine ⟨_, _, h2, ?_, ?_⟩;(focus first|(refine ⟨?_, ?_, trivial⟩<;>first|exact PLe.refl _|exact PLe.nil)|exact trivial);try conv=>whnf)|(refine ⟨_, _, h3, ?_, ?_⟩;(focus first|(refine ⟨?_, trivial⟩<;>first|exact PLe.refl _|exact PLe.nil)|exact trivial);try conv=>whnf)|fail)
  · rw [show usesY x.op = true by assumption]; exact .refl _
  · rw [show usesY x.op = false by assumption, show usesX x.op = true by assumption]; exact .refl _
  · rw [show usesY x.op = false by assumption, show usesX x.op = false by assumption]; exact .refl _
theorem rr_announced (p : List Nd) (x : Nd) (X Y : List Nd) (k : Int) (hk : OkNd x k) : PureFn Try.prog 35 [fpv p, x.pv, fpv X, fpv Y] (fpv (annN p x X Y)) := by
  have no : ∀ {a b : Int} {p : Prop}, (a == b) = false → a = b → p := fun h e => by rw [e] at h; simp at h
  by_cases h10 : x.op = 10
  · have hA0 := rr_apply x (conL p X) [] k hk
    have hA : PureFn Try.prog 55 [x.pv, fpv (conL p X), .nil] (fpv (apN x (conL p X) [])) := hA0.le ⟨.refl _, .refl _, .nil, trivial⟩
    have e : annN p x X Y = impL p (apN x (conL p X) []) := by
      unfold annN
      rw [show isPC x.op = true by rw [h10]; rfl, cond_true]
      congr 1
      exact ap_cong (fun _ => rfl) (fun u => by rw [h10] at u; cases u)
    rw [e]
    refine PureFn.intro mixed (fn := Try.f35) rfl rfl rfl fun M w0 => ?_
    (try conv=>whnf);repeat' (first|(apply And.intro<;>try conv=>whnf)|(intro h;try conv=>whnf)|(refine lin_plan (by kernel_rfl) ?_;try conv=>whnf)|(refine PureFn.dcq (f := 55) rfl ?_;try conv=>whnf)|(refine ⟨_, (by (conv=>whnf);exact hA), rfl, ?_⟩;try conv=>whnf)|(refine ⟨_, (by (conv=>whnf);exact ref_And _ _), rfl, ?_⟩;try conv=>whnf)|(refine ⟨_, (by (conv=>whnf);exact ref_Imp _ _), rfl, ?_⟩;try conv=>whnf)|fail)
    all_goals first
      | exact .refl _
      | exact no (by with_reducible assumption) h10
  · by_cases h13 : x.op = 13
    · have hA := rr_apply x (conL p X) Y k hk
      have e : annN p x X Y = impL p (apN x (conL p X) Y) := by
        unfold annN
        rw [show isPC x.op = true by rw [h13]; rfl, cond_true]
      rw [e]
      refine PureFn.intro mixed (fn := Try.f35) rfl rfl rfl fun M w0 => ?_
      (try conv=>whnf);repeat' (first|(apply And.intro<;>try conv=>whnf)|(intro h;try conv=>whnf)|(refine lin_plan (by kernel_rfl) ?_;try conv=>whnf)|(refine PureFn.dcq (f := 55) rfl ?_;try conv=>whnf)|(refine ⟨_, (by (conv=>whnf);exact hA), rfl, ?_⟩;try conv=>whnf)|(refine ⟨_, (by (conv=>whnf);exact ref_And _ _), rfl, ?_⟩;try conv=>whnf)|(refine ⟨_, (by (conv=>whnf);exact ref_Imp _ _), rfl, ?_⟩;try conv=>whnf)|fail)
      all_goals first
        | exact .refl _
        | exact absurd (eq_of_beq (by with_reducible assumption)) h10
        | exact no (by with_reducible assumption) h13
    · have hA := rr_apply x X Y k hk
      have e : annN p x X Y = impL p (apN x X Y) := by
        unfold annN isPC
        rw [show (x.op == 10) = false by simpa using h10, show (x.op == 13) = false by simpa using h13]; rfl
      rw [e]
      refine PureFn.intro mixed (fn := Try.f35) rfl rfl rfl fun M w0 => ?_
      (try conv=>whnf);repeat' (first|(apply And.intro<;>try conv=>whnf)|(intro h;try conv=>whnf)|(refine lin_plan (by kernel_rfl) ?_;try conv=>whnf)|(refine PureFn.dcq (f := 55) rfl ?_;try conv=>whnf)|(refine PureFn.dcq (f := 54) rfl ?_;try conv=>whnf)|(refine ⟨_, _, hA, ?_, ?_⟩;(focus first|(refine ⟨?_, ?_, ?_, trivial⟩<;>first|exact PLe.refl _|exact PLe.nil)|exact trivial);try conv=>whnf)|(refine ⟨_, _, ref_Imp ?_ ?_, ?_, ?_⟩;rotate_left 2;(focus first|(refine ⟨?_, ?_, trivial⟩<;>first|exact PLe.refl _|exact PLe.nil)|exact trivial);try conv=>whnf)|fail)
      all_goals first
        | exact .refl _
        | exact absurd (eq_of_beq (by with_reducible assumption)) h10
        | exact absurd (eq_of_beq (by with_reducible assumption)) h13
theorem nand_or {a b : Nat} (ha : a < 512) (hb : b < 512) : (nand64' (or64 (a : Nat) (b : Nat)) 15 != 0) = (bif !(nand64' (a : Nat) 15 == 0) then true else !(nand64' (b : Nat) 15 == 0)) := by
  rw [or64_nat (Nat.lt_of_lt_of_le ha (by decide)) (Nat.lt_of_lt_of_le hb (by decide))]
  have h15 : ∀ m : Nat, m < 2 ^ 62 → (nand64' (m : Nat) 15 == 0) = decide (m < 16) := fun m hm => by
    rw [Bool.eq_iff_iff, beq_iff_eq, frag_low hm, decide_eq_true_eq]
  have ha2 : a < 2 ^ 62 := Nat.lt_of_lt_of_le ha (by decide)
  have hb2 : b < 2 ^ 62 := Nat.lt_of_lt_of_le hb (by decide)
  have hab : a ||| b < 2 ^ 62 := Nat.or_lt_two_pow ha2 hb2
  rw [show ∀ z : Int, (z != 0) = !(z == 0) from fun z => rfl, h15 _ hab, h15 _ ha2, h15 _ hb2]
  by_cases q1 : a < 16
  · by_cases q2 : b < 16
    · rw [decide_eq_true q1, decide_eq_true q2, decide_eq_true (Nat.or_lt_two_pow (n := 4) q1 q2)]; rfl
    · have : ¬ (a ||| b) < 16 := fun h => q2 (Nat.lt_of_le_of_lt Nat.right_le_or h)
      rw [decide_eq_true q1, decide_eq_false q2, decide_eq_false this]; rfl
  · have : ¬ (a ||| b) < 16 := fun h => q1 (Nat.lt_of_le_of_lt Nat.left_le_or h)
    rw [decide_eq_false q1, decide_eq_false this]; rfl
theorem rr_Announced (f g : List Nd) : PureFn Try.prog 9 [fpv f, fpv g] (pairF (annI f g)) := by
  refine PureFn.introC [4, 16, 18] mixed (fn := Try.f9) rfl rfl rfl fun M w0 => ?_
  have hlen := comp_len g
  (try conv=>whnf);repeat' (first|(refine PureFn.dcq (f := 30) rfl ?_;try conv=>whnf)|(refine ⟨_, _, ref_Check ?_, ?_, ?_⟩;rotate_left 1;(focus first|(refine ⟨?_, trivial⟩<;>first|exact PLe.refl _|exact PLe.nil)|exact trivial);try conv=>whnf)|fail)
  refine ⟨{ e : Int // e = bif check f != 0 then check f else check g }, fun e => [(0, .pv (fpv f)), (1, .pv (fpv g)), (6, .pv (.int .i64 e.1))], fun _ => 0, fun _ => [], ?_, ?_⟩
  · (try conv=>whnf);repeat' (first|(apply And.intro<;>try conv=>whnf)|(intro h;try conv=>whnf)|(refine PureFn.dcq (f := 30) rfl ?_;try conv=>whnf)|(refine ⟨_, _, ref_Check ?_, ?_, ?_⟩;rotate_left 1;(focus first|(refine ⟨?_, trivial⟩<;>first|exact PLe.refl _|exact PLe.nil)|exact trivial);try conv=>whnf)|fail)
    · have h0 : check f = 0 := by simpa using h
      exact ⟨⟨check g, by rw [h0]; rfl⟩, (by refine Wk.of ?_ ?_ rfl rfl rfl<;>repeat' (first|exact trivial|exact WkD.same _|refine ⟨?_, ?_⟩|fail))⟩
    · have h0 : ¬ check f = 0 := by simpa using h
      exact ⟨⟨check f, by rw [show (check f != 0) = true by simpa using h0]; rfl⟩, (by refine Wk.of ?_ ?_ rfl rfl rfl<;>repeat' (first|exact trivial|exact WkD.same _|refine ⟨?_, ?_⟩|fail))⟩
  rintro ⟨e, he⟩
  have hn := nand_or (frags_lt f) (frags_lt g)
  have hann : annI f g = bif e != 0 then ([], e) else bif (bif !stB f then true else !stB g) then ([], 10) else annF (comp f) (comp g) := by
    rw [annI, he]
    cases h1 : (check f != 0) with
    | true => rw [cond_true, cond_true, h1]; rfl
    | false => rfl
  (try conv=>whnf);repeat' (first|(apply And.intro<;>try conv=>whnf)|(intro h;try conv=>whnf)|(refine PureFn.dcq (f := 31) rfl ?_;try conv=>whnf)|(refine PureFn.dcq (f := 32) rfl ?_;try conv=>whnf)|(refine ⟨_, _, ref_Frags ?_, ?_, ?_⟩;rotate_left 1;(focus first|(refine ⟨?_, trivial⟩<;>first|exact PLe.refl _|exact PLe.nil)|exact trivial);try conv=>whnf)|(refine ⟨_, _, ref_Compact ?_, ?_, ?_⟩;rotate_left 1;(focus first|(refine ⟨?_, trivial⟩<;>first|exact PLe.refl _|exact PLe.nil)|exact trivial);try conv=>whnf)|fail)
  · rw [hann, show (e != 0) = true from h]; exact le_nilF _
  · rename_i h1
    have h2 : (bif !stB f then true else !stB g) = true := hn.symm.trans h
    rw [hann, show (e != 0) = false from h1, h2]; exact le_nilF _
  rename_i h1
  have h2 : (bif !stB f then true else !stB g) = false := hn.symm.trans h
  have e0 : e = 0 := by simpa using h1
  have hcg : check g = 0 := by
    rw [e0] at he
    cases q : (check f != 0) with
    | true => rw [q, cond_true] at he; rw [← he] at q; cases q
    | false => rw [q] at he; exact he.symm
  rw [hann, show (e != 0) = false from h1, h2, cond_false, cond_false]
  have hpos := comp_pos hcg
  have hokl := comp_okl g
  clear hann h2 hcg e0
  generalize comp f = p
  generalize comp g = c at hlen hpos hokl ⊢
  refine ⟨{ q : Nat × List (List Nd) // q.1 ≤ c.length ∧ q.2.length = q.1 ∧ redE [] (annH p) c [] = redE [] (annH p) (c.drop q.1) q.2 },
    fun q => [(7, .pv (fpv p)), (8, .pv (fpv c)), (9, .buf 0 (q.1.2.map fpv).length), (10, .pv (.int .i64 (q.1.1 : Nat)))], fun _ => 1, fun q => [(0, .arr 1 (q.1.2.map fpv))], fun q => c.length - q.1.1,
    ⟨⟨(0, []), Nat.zero_le _, rfl, rfl⟩, (by refine Wk.of ?_ ?_ rfl rfl rfl<;>repeat' (first|exact trivial|exact WkD.same _|exact WkD.new' rfl rfl rfl|exact WkO.new _ _ rfl|exact rfl|refine ⟨?_, ?_⟩|fail))⟩, ?_⟩
  rintro ⟨⟨i, l⟩, hi, hl, he'⟩
  have he := he'
  simp only at hi hl he
  have hlm : (l.map fpv).length = i := by rw [List.length_map]; exact hl
  (try conv=>whnf);repeat' (first|(apply And.intro<;>try conv=>whnf)|(intro h;try conv=>whnf)|fail)
  · have hi' : i < c.length := by simpa using h
    obtain ⟨x, hx⟩ : ∃ x, c[i]? = some x := ⟨_, List.getElem?_eq_getElem hi'⟩
    have ok := hokl i x hx
    have hUX : usesX x.op = true → ∃ k : Nat, x.x = k ∧ k < l.length := fun u => ⟨x.x.toNat, by have := ok.x u; omega, by have := ok.x u; omega⟩
    have hUY : usesY x.op = true → ∃ k : Nat, x.y = k ∧ k < l.length := fun u => ⟨x.y.toNat, by have := ok.y u; omega, by have := ok.y u; omega⟩
    try conv=>whnf
    refine ⟨{ X : List Nd // X = bif usesX x.op then l.getD x.x.toNat [] else [] }, fun X => [(7, .pv (fpv p)), (8, .pv (fpv c)), (9, .buf 0 (l.map fpv).length), (10, .pv (.int .i64 (i : Nat))), (11, .pv (fpv X.1)), (12, .pv (.sl []))], fun _ => 1, fun _ => [(0, .arr 1 (l.map fpv))], ?_, ?_⟩
    · (try conv=>whnf);repeat' (first|(apply And.intro<;>try conv=>whnf)|(intro h;try conv=>whnf)|(apply infoT;rfl)|(refine ⟨_, _, rfl, idx_map (by with_reducible assumption), rfl, ?_⟩;try conv=>whnf)|(refine PureFn.dcq (f := 33) rfl ?_;try conv=>whnf)|(refine ⟨_, _, ref_UsesX ?_, ?_, ?_⟩;rotate_left 1;(focus first|(refine ⟨?_, trivial⟩<;>first|exact PLe.refl _|exact PLe.nil)|exact trivial);try conv=>whnf)|fail)
      · obtain ⟨k, hk, hk2⟩ := hUX h
        refine ⟨k, hk, (show k < (l.map fpv).length by omega), ?_⟩
        (try conv=>whnf);repeat' (first|(apply And.intro<;>try conv=>whnf)|fail)
        refine ⟨_, fget hk2, ?_⟩
        try conv=>whnf
        exact ⟨⟨l.getD k [], by rw [h, hk]; rfl⟩, (by refine Wk.of ?_ ?_ rfl rfl rfl<;>repeat' (first|exact trivial|exact WkD.same _|exact WkO.same _ _ rfl|exact WkD.nil _ (Or.inl rfl)|refine ⟨?_, ?_⟩|fail))⟩
      · exact ⟨⟨[], by rw [h]; rfl⟩, (by refine Wk.of ?_ ?_ rfl rfl rfl<;>repeat' (first|exact trivial|exact WkD.same _|exact WkO.same _ _ rfl|exact WkD.nil _ (Or.inl rfl)|refine ⟨?_, ?_⟩|fail))⟩
    rintro ⟨X, hX⟩
    try conv=>whnf
    refine ⟨{ Y : List Nd // Y = bif usesY x.op then l.getD x.y.toNat [] else [] }, fun Y => [(7, .pv (fpv p)), (8, .pv (fpv c)), (9, .buf 0 (l.map fpv).length), (10, .pv (.int .i64 (i : Nat))), (11, .pv (fpv X)), (12, .pv (fpv Y.1))], fun _ => 1, fun _ => [(0, .arr 1 (l.map fpv))], ?_, ?_⟩
    · (try conv=>whnf);repeat' (first|(apply And.intro<;>try conv=>whnf)|(intro h;try conv=>whnf)|(apply infoT;rfl)|(refine ⟨_, _, rfl, idx_map (by with_reducible assumption), rfl, ?_⟩;try conv=>whnf)|(refine PureFn.dcq (f := 34) rfl ?_;try conv=>whnf)|(refine ⟨_, _, ref_UsesY ?_, ?_, ?_⟩;rotate_left 1;(focus first|(refine ⟨?_, trivial⟩<;>first|exact PLe.refl _|exact PLe.nil)|exact trivial);try conv=>whnf)|fail)
      · obtain ⟨k, hk, hk2⟩ := hUY h
        refine ⟨k, hk, (show k < (l.map fpv).length by omega), ?_⟩
        (try conv=>whnf);repeat' (first|(apply And.intro<;>try conv=>whnf)|fail)
        refine ⟨_, fget hk2, ?_⟩
        try conv=>whnf
        exact ⟨⟨l.getD k [], by rw [h, hk]; rfl⟩, (by refine Wk.of ?_ ?_ rfl rfl rfl<;>repeat' (first|exact trivial|exact WkD.same _|exact WkO.same _ _ rfl|refine ⟨?_, ?_⟩|fail))⟩
      · exact ⟨⟨[], by rw [h]; rfl⟩, (by refine Wk.of ?_ ?_ rfl rfl rfl<;>repeat' (first|exact trivial|exact WkD.same _|exact WkO.same _ _ rfl|refine ⟨?_, ?_⟩|fail))⟩
    rintro ⟨Y, hY⟩
    have hA := rr_announced p x X Y i ok
    have hcg : annN p x (l.getD x.x.toNat []) (l.getD x.y.toNat []) = annN p x X Y := ann_cong (fun u => by rw [hX, u]; rfl) (fun u => by rw [hY, u]; rfl)
    obtain ⟨z, hz⟩ : ∃ z, annN p x X Y = z := ⟨_, rfl⟩
    rw [hz] at hA
    have hh : annH p x (l.getD x.x.toNat []) (l.getD x.y.toNat []) = nz z := by rw [annH, hcg, hz]
    (try conv=>whnf);repeat' (first|(apply And.intro<;>try conv=>whnf)|(intro h;try conv=>whnf)|(apply infoT;rfl)|(apply cellsI;rfl)|(apply szI;rfl)|(refine ⟨_, _, rfl, idx_map (by with_reducible assumption), rfl, ?_⟩;try conv=>whnf)|(refine PureFn.dcq (f := 35) rfl ?_;try conv=>whnf)|(refine ⟨_, _, hA, ?_, ?_⟩;(focus first|(refine ⟨?_, ?_, ?_, ?_, trivial⟩<;>first|exact PLe.refl _|exact PLe.nil)|exact trivial);try conv=>whnf)|fail)
    · have hz0 : z = [] := by
        have : (((z.map Nd.pv).length : Nat) : Int) = 0 := by simpa using h
        rw [List.length_map] at this
        exact List.eq_nil_of_length_eq_zero (by omega)
      rw [hz0] at hh
      have hno := redE_no (e := 8) hx hh rfl
      have hF : annF p c = ([], 8) := by rw [annF, he, hno]; rfl
      rw [hF]; exact le_nilF _
    · show (l.map fpv).length + 1 ≤ 4294967296
      omega
    · have hz0 : z.isEmpty = false := by
        cases z with
        | nil => exact absurd h (by decide)
        | cons b r => rfl
      have hh2 : annH p x (l.getD x.x.toNat []) (l.getD x.y.toNat []) = (z, 0) := by rw [hh, nz, hz0]; rfl
      have hyes := redE_yes hx hh2 rfl
      have hm := map_snoc (l := l) (z := z)
      refine ⟨⟨(i + 1, l ++ [z]), hi', by simp [hl], by rw [he, hyes]⟩, by show c.length - (i + 1) < c.length - i; omega, ?_⟩
      (refine Wk.of ?_ ?_ rfl rfl rfl<;>repeat' (first|exact trivial|exact WkD.same _|exact WkD.eq (congrArg (fun z : List PV => DV.buf _ z.length) hm)|exact WkO.same _ _ (congrArg (fun z => some (DObj.arr _ z)) hm)|refine WkD.int ?_|refine ⟨?_, ?_⟩|(refine wrapA ?_ ?_ ?_;(focus simp;done);(focus (try dsimp only);omega);(focus (try dsimp only);omega))|fail))
      all_goals exact wrapA (by simp) (by omega) (by omega)
  · have hi' : i = c.length := by have := ge_dec (m := (c.map Nd.pv).length) h (by simpa using hi); simpa using this
    subst hi'
    rw [redE_end] at he
    have hw : IntKind.wrap .i64 (((l.map fpv).length : Int) - 1) = ((l.length - 1 : Nat) : Int) := by
      rw [List.length_map]; exact wrapA (by omega) (by omega) (by omega)
    have hll : l.length = c.length := hl
    refine ⟨l.length - 1, hw, (show l.length - 1 < (l.map fpv).length by rw [List.length_map]; omega), ?_⟩
    (try conv=>whnf);repeat' (first|(apply And.intro<;>try conv=>whnf)|fail)
    refine ⟨_, fget (show l.length - 1 < l.length by omega), ?_⟩
    try conv=>whnf
    exact le_pairF (a := (l.getD (l.length - 1) [], 0)) (b := annF p c) (by rw [annF, he]; rfl)
end Go.Proofs.Ytibbphifegibkaa
set_option maxRecDepth 100000
set_option maxHeartbeats 8000000
namespace Go.Proofs.Ytibbphifegibkaa
open Go Go.Dv

theorem lastF_nil {r : List (List Nd) × Int} (h : (lastF r).2 ≠ 0) : (lastF r).1 = [] := by
  unfold lastF at h ⊢
  cases q : (r.2 != 0) with
  | true => rfl
  | false => rw [q] at h; exact absurd rfl h
theorem rd_zero {acts : List Act} {f : List Nd} (h : (rdI acts f).2 ≠ 0) : (rdI acts f).1 = [] := by
  unfold rdI at h ⊢
  cases q : (rqI acts f != 0) with
  | true => rfl
  | false => rw [q] at h; exact lastF_nil h
theorem rd_fine {acts : List Act} {f : List Nd} (h : (rdI acts f).2 = 0) : RqOk acts f ∧ Can (rdI acts f).1 ∧ root (rdI acts f).1 = redT acts (root f) := by
  unfold rdI at h ⊢
  cases q : (rqI acts f != 0) with
  | true => rw [q] at h; exact absurd h (by simpa using q)
  | false =>
    rw [q] at h
    have hR := rq_ok (show rqI acts f = 0 by simpa using q)
    exact ⟨hR, redF_tree hR.cf (rq_nmd hR) h⟩
theorem rd_stat {acts : List Act} {f : List Nd} (h : (rdI acts f).2 = 0) : statI (agR acts) 8 (rdI acts f).1 = 0 := by
  obtain ⟨h1, h2, h3⟩ := rd_fine h
  refine stat_all (F := 8) h2 ?_
  rw [h3, ← root_comp h1.cf]
  exact rq_trees h1 _
theorem redT_id {acts : List Act} : ∀ {t : Tr}, allT (fun op _ _ _ => decide (op ≤ 13)) t = true → redT acts t = t
  | .none, _ => rfl
  | .nd op i e g a b, h => by
    rw [allT, Bool.and_eq_true, Bool.and_eq_true] at h
    obtain ⟨⟨h1, h2⟩, h3⟩ := h
    have := of_decide_eq_true h1
    rw [redT, show (op == 16) = false by simp; omega, show (op == 17) = false by simp; omega, cond_false, cond_false, redT_id h2, redT_id h3]
theorem rd_same {acts : List Act} {f : List Nd} (h : (rdI acts f).2 = 0) (h15 : nand64' (frags f : Nat) 15 = 0) : same (rdI acts f).1 f = true := by
  obtain ⟨h1, h2, h3⟩ := rd_fine h
  have h16 := (frag_low (Nat.lt_of_lt_of_le (frags_lt f) (by decide))).1 h15
  have h4 : allT (fun op _ _ _ => decide (op ≤ 13)) (root f) = true := by
    rw [← root_comp h1.cf]
    refine trn_all (fun x hx => ?_) _ _
    have q : fragN x ≤ frags f := orN_le hx
    rcases (h1.nd x hx).1 with hn | hn | hn
    · exact decide_eq_true hn
    · have : fragN x = 64 := by show (frag x.op).toNat = 64; rw [hn]; rfl
      omega
    · have : fragN x = 128 := by show (frag x.op).toNat = 128; rw [hn]; rfl
      omega
  rw [redT_id h4] at h3
  have h5 : comp (rdI acts f).1 = comp f := by rw [comp_root h2.check, comp_root h1.cf, h3]
  rw [same, h2.check, h1.cf, h5]
  simp
theorem can_len {z : List Nd} (h : Can z) : z.length ≤ 200 := by
  have := comp_len z
  rwa [can_comp h] at this
theorem annI_len (f g : List Nd) : (annI f g).1.length ≤ 200 := by
  unfold annI
  cases h1 : (check f != 0) with
  | true => exact Nat.zero_le _
  | false =>
    cases h2 : (check g != 0) with
    | true => exact Nat.zero_le _
    | false =>
      cases (bif !stB f then true else !stB g) with
      | true => exact Nat.zero_le _
      | false =>
        show (annF (comp f) (comp g)).1.length ≤ 200
        by_cases q : (annF (comp f) (comp g)).2 = 0
        · exact can_len (annF_tree (comp_okl g) (comp_pos (by simpa using h2)) q).1
        · have : (annF (comp f) (comp g)).1 = [] := lastF_nil q
          rw [this]; exact Nat.zero_le _
theorem l30_announced (f g : List Nd) : PureFn Try.prog 3 [fpv f, fpv g] (.bool true) := by
  have hA := rl_awake
  have hW := rl_few [] [f, g] (by simp)
  have hX := red_Announced f g
  have hY := rr_Announced f g
  have hl := annI_len f g
  generalize annI f g = z at hX hY hl
  obtain ⟨x, e⟩ := z
  have hE := ref_Equal x x (Nat.le_trans hl (by decide))
  cases hfw : fewL [] [f, g] with
  | false =>
    rw [hfw] at hW
    refine PureFn.introC [3] mixed (fn := Try.f3) rfl rfl rfl fun M w0 => ?_
    try conv=>whnf
    refine ⟨{ _x : Unit // False }, fun _ => [], fun _ => 0, fun _ => [], ?_, fun ⟨_, h⟩ => h.elim⟩
    (try conv=>whnf);repeat' (first|(apply And.intro<;>try conv=>whnf)|(intro h;try conv=>whnf)|apply True.intro|(apply cellsI;rfl)|(apply WhenQ.mk;(try conv=>whnf);rotate_left;(try conv=>whnf);rotate_right)|with_reducible assumption|(apply not_of;with_reducible assumption)|(refine PureFn.dcq (f := 7) rfl ?_;try conv=>whnf)|(refine PureFn.dcq (f := 6) rfl ?_;try conv=>whnf)|(refine ⟨_, _, hW, ?_, ?_⟩;(focus first|(refine ⟨?_, ?_, trivial⟩<;>first|exact PLe.refl _|exact PLe.nil)|exact trivial);try conv=>whnf)|(refine ⟨_, _, hA, ?_, ?_⟩;(focus first|(refine ⟨trivial⟩<;>first|exact PLe.refl _|exact PLe.nil)|exact trivial);try conv=>whnf)|fail)
    · exact .refl _
    · exact absurd h (by decide)
  | true =>
    rw [hfw] at hW
    refine PureFn.introC [3] mixed (fn := Try.f3) rfl rfl rfl fun M w0 => ?_
    try conv=>whnf
    refine ⟨Unit, fun _ => [(0, .pv (fpv f)), (1, .pv (fpv g))], fun _ => 0, fun _ => [], ?_, ?_⟩
    · (try conv=>whnf);repeat' (first|(apply And.intro<;>try conv=>whnf)|(intro h;try conv=>whnf)|apply True.intro|(apply cellsI;rfl)|(apply WhenQ.mk;(try conv=>whnf);rotate_left;(try conv=>whnf);rotate_right)|with_reducible assumption|(apply not_of;with_reducible assumption)|(refine PureFn.dcq (f := 7) rfl ?_;try conv=>whnf)|(refine PureFn.dcq (f := 6) rfl ?_;try conv=>whnf)|(refine ⟨_, _, hW, ?_, ?_⟩;(focus first|(refine ⟨?_, ?_, trivial⟩<;>first|exact PLe.refl _|exact PLe.nil)|exact trivial);try conv=>whnf)|(refine ⟨_, _, hA, ?_, ?_⟩;(focus first|(refine ⟨trivial⟩<;>first|exact PLe.refl _|exact PLe.nil)|exact trivial);try conv=>whnf)|fail)
      · exact .refl _
      · exact ⟨(), (by refine Wk.of ?_ ?_ rfl rfl rfl<;>repeat' (first|exact trivial|exact WkD.same _|refine ⟨?_, ?_⟩|fail))⟩
    rintro ⟨⟩
    (try conv=>whnf);repeat' (first|(apply And.intro<;>try conv=>whnf)|(intro h;try conv=>whnf)|apply True.intro|(apply WhenQ.mk;(try conv=>whnf);rotate_left;(try conv=>whnf);rotate_right)|with_reducible assumption|(refine PureFn.dcq (f := 8) rfl ?_;try conv=>whnf)|(refine PureFn.dcq (f := 9) rfl ?_;try conv=>whnf)|(refine PureFn.dcq (f := 10) rfl ?_;try conv=>whnf)|(refine ⟨_, _, hX, ?_, ?_⟩;(focus first|(refine ⟨?_, ?_, trivial⟩<;>first|exact PLe.refl _|exact PLe.nil)|exact trivial);try conv=>whnf)|(refine ⟨_, _, hY, ?_, ?_⟩;(focus first|(refine ⟨?_, ?_, trivial⟩<;>first|exact PLe.refl _|exact PLe.nil)|exact trivial);try conv=>whnf)|(refine ⟨_, _, hE, ?_, ?_⟩;(focus first|(refine ⟨?_, ?_, trivial⟩<;>first|exact PLe.refl _|exact PLe.nil)|exact trivial);try conv=>whnf)|fail)
    exact le_bool (by simp)
theorem l30_static (acts : List Act) (f : List Nd) (hS : fewL acts [f] = true → ∀ a, a ∈ acts → SmX a) : PureFn Try.prog 4 [actsPV acts, fpv f] (.bool true) := by
  have hA := rl_awake
  have hW := rl_few acts [f] (by simp)
  cases hfw : fewL acts [f] with
  | false =>
    rw [hfw] at hW
    refine PureFn.introC [3] mixed (fn := Try.f4) rfl rfl rfl fun M w0 => ?_
    try conv=>whnf
    refine ⟨{ _x : Unit // False }, fun _ => [], fun _ => 0, fun _ => [], ?_, fun ⟨_, h⟩ => h.elim⟩
    (try conv=>whnf);repeat' (first|(apply And.intro<;>try conv=>whnf)|(intro h;try conv=>whnf)|apply True.intro|(apply cellsI;rfl)|(apply WhenQ.mk;(try conv=>whnf);rotate_left;(try conv=>whnf);rotate_right)|with_reducible assumption|(apply not_of;with_reducible assumption)|(refine PureFn.dcq (f := 7) rfl ?_;try conv=>whnf)|(refine PureFn.dcq (f := 6) rfl ?_;try conv=>whnf)|(refine ⟨_, _, hW, ?_, ?_⟩;(focus first|(refine ⟨?_, ?_, trivial⟩<;>first|exact PLe.refl _|exact PLe.nil)|exact trivial);try conv=>whnf)|(refine ⟨_, _, hA, ?_, ?_⟩;(focus first|(refine ⟨trivial⟩<;>first|exact PLe.refl _|exact PLe.nil)|exact trivial);try conv=>whnf)|fail)
    · exact .refl _
    · exact absurd h (by decide)
  | true =>
    rw [hfw] at hW
    have hX := red_Reduce acts f (hS hfw)
    have z0 := rd_zero (acts := acts) (f := f)
    have z1 := rd_stat (acts := acts) (f := f)
    have z2 := fun h => (rd_fine (acts := acts) (f := f) h).2.1
    have z3 := rd_same (acts := acts) (f := f)
    generalize rdI acts f = z at hX z0 z1 z2 z3
    obtain ⟨x, e⟩ := z
    simp only at z0 z1 z2 z3
    have ex : ((x.map Nd.pv).length : Int) = (x.length : Int) := by simp
    refine PureFn.introC [3, 4] mixed (fn := Try.f4) rfl rfl rfl fun M w0 => ?_
    try conv=>whnf
    refine ⟨Unit, fun _ => [(0, .pv (actsPV acts)), (1, .pv (fpv f))], fun _ => 0, fun _ => [], ?_, ?_⟩
    · (try conv=>whnf);repeat' (first|(apply And.intro<;>try conv=>whnf)|(intro h;try conv=>whnf)|apply True.intro|(apply cellsI;rfl)|(apply WhenQ.mk;(try conv=>whnf);rotate_left;(try conv=>whnf);rotate_right)|with_reducible assumption|(apply not_of;with_reducible assumption)|(refine PureFn.dcq (f := 7) rfl ?_;try conv=>whnf)|(refine PureFn.dcq (f := 6) rfl ?_;try conv=>whnf)|(refine ⟨_, _, hW, ?_, ?_⟩;(focus first|(refine ⟨?_, ?_, trivial⟩<;>first|exact PLe.refl _|exact PLe.nil)|exact trivial);try conv=>whnf)|(refine ⟨_, _, hA, ?_, ?_⟩;(focus first|(refine ⟨trivial⟩<;>first|exact PLe.refl _|exact PLe.nil)|exact trivial);try conv=>whnf)|fail)
      · exact .refl _
      · exact ⟨(), (by refine Wk.of ?_ ?_ rfl rfl rfl<;>repeat' (first|exact trivial|exact WkD.same _|refine ⟨?_, ?_⟩|fail))⟩
    rintro ⟨⟩
    refine ⟨Unit, fun _ => [(1, .pv (fpv f)), (5, .pv (fpv x)), (6, .pv (.int .i64 e))], fun _ => 0, fun _ => [], ?_, ?_⟩
    · (try conv=>whnf);repeat' (first|(refine PureFn.dcq (f := 11) rfl ?_;try conv=>whnf)|(refine ⟨_, _, hX, ?_, ?_⟩;(focus first|(refine ⟨?_, ?_, trivial⟩<;>first|exact PLe.refl _|exact PLe.nil)|exact trivial);try conv=>whnf)|fail)
      exact ⟨(), (by refine Wk.of ?_ ?_ rfl rfl rfl<;>repeat' (first|exact trivial|exact WkD.same _|refine ⟨?_, ?_⟩|fail))⟩
    rintro ⟨⟩
    by_cases h0 : e = 0
    · subst h0
      have s1 := z1 rfl
      have s2 := statI_ok s1
      have hc := (fm_Compact x).to (q := fpv x) (by rw [can_comp (z2 rfl)])
      have hE := (ref_Equal x x (Nat.le_trans (can_len (z2 rfl)) (by decide))).to (q := .bool true) (by simp)
      have hK := (fm_Check x).to (q := .int .i64 0) (by rw [s2.1])
      have f1 : (nand64' (frags x : Nat) 15 != 0) = false := by rw [s2.2.1]; rfl
      (try conv=>whnf);repeat' (first|(apply And.intro<;>try conv=>whnf)|(intro h;try conv=>whnf)|apply True.intro|(apply WhenQ.mk;(try conv=>whnf);rotate_left;(try conv=>whnf);rotate_right)|with_reducible assumption|(apply not_of;with_reducible assumption)|(refine PureFn.dcq (f := 12) rfl ?_;try conv=>whnf)|(refine PureFn.dcq (f := 14) rfl ?_;try conv=>whnf)|(refine PureFn.dcq (f := 10) rfl ?_;try conv=>whnf)|(refine PureFn.dcq (f := 13) rfl ?_;try conv=>whnf)|(refine PureFn.dcq (f := 15) rfl ?_;try conv=>whnf)|(refine ⟨_, _, hK, ?_, ?_⟩;(focus first|(refine ⟨?_, trivial⟩<;>first|exact PLe.refl _|exact PLe.nil)|exact trivial);try conv=>whnf)|(refine ⟨_, _, hc, ?_, ?_⟩;(focus first|(refine ⟨?_, trivial⟩<;>first|exact PLe.refl _|exact PLe.nil)|exact trivial);try conv=>whnf)|(refine ⟨_, _, hE, ?_, ?_⟩;(focus first|(refine ⟨?_, ?_, trivial⟩<;>first|exact PLe.refl _|exact PLe.nil)|exact trivial);try conv=>whnf)|(refine ⟨_, _, fm_Frags ?_, ?_, ?_⟩;rotate_left 1;(focus first|(refine ⟨?_, trivial⟩<;>first|exact PLe.refl _|exact PLe.nil)|exact trivial);try conv=>whnf)|(refine ⟨_, _, fm_Same ?_ ?_, ?_, ?_⟩;rotate_left 2;(focus first|(refine ⟨?_, ?_, trivial⟩<;>first|exact PLe.refl _|exact PLe.nil)|exact trivial);try conv=>whnf)|fail)
      · exact absurd h (by decide)
      · have h' : (bif (bif ((0 : Int) != 0) then true else (nand64' (frags x : Nat) 15 != 0)) then true else !true) = true := h
        rw [f1] at h'
        exact absurd h' (by decide)
      · refine le_bool ?_
        show (bif (nand64' (frags f : Nat) 15 != 0) then true else same x f) = true
        cases q : (nand64' (frags f : Nat) 15 != 0) with
        | true => rfl
        | false => exact z3 rfl (by simpa using q)
    · have hx := z0 h0
      subst hx
      have f1 : (e != 0) = true := by simpa using h0
      (try conv=>whnf);repeat' (first|(apply And.intro<;>try conv=>whnf)|(intro h;first|with_reducible exact tf (by assumption) h|try conv=>whnf)|fail)
      · exact le_bool rfl
end Go.Proofs.Ytibbphifegibkaa
set_option maxRecDepth 100000
set_option maxHeartbeats 8000000
namespace Go.Proofs.Ytibbphifegibkaa
open Go Go.Dv

def SubB (a m : Nat) : Prop := ∀ i, a.testBit i = true → m.testBit i = true
theorem sb_iff {a m : Nat} : subM a m = true ↔ SubB a m := by
  rw [subM, beq_iff_eq]
  constructor
  · intro h i hi
    rw [← h, Nat.testBit_and, Bool.and_eq_true] at hi
    exact hi.2
  · intro h
    apply Nat.eq_of_testBit_eq
    intro i
    rw [Nat.testBit_and]
    cases hb : a.testBit i with
    | false => rfl
    | true => rw [h i hb]; rfl
theorem sb_or {a b m : Nat} (h1 : SubB a m) (h2 : SubB b m) : SubB (a ||| b) m := fun i hi => by
  rw [Nat.testBit_or, Bool.or_eq_true] at hi
  rcases hi with h | h
  · exact h1 i h
  · exact h2 i h
theorem sb_z (m : Nat) : SubB 0 m := fun i hi => by simp at hi
theorem sb_refl (m : Nat) : SubB m m := fun _ h => h
theorem sb_trans {a b c : Nat} (h1 : SubB a b) (h2 : SubB b c) : SubB a c := fun i h => h2 i (h1 i h)
theorem sb_l (a b : Nat) : SubB a (a ||| b) := fun i h => by rw [Nat.testBit_or, h]; rfl
theorem sb_r (a b : Nat) : SubB b (a ||| b) := fun i h => by rw [Nat.testBit_or, h, Bool.or_true]
theorem orN_sub {μ : Nd → Nat} {m : Nat} : ∀ {c : List Nd} {a : Nat}, SubB a m → (∀ x, x ∈ c → SubB (μ x) m) → SubB (c.foldl (fun a x => a ||| μ x) a) m
  | [], _, h, _ => h
  | x :: r, a, h, hc => by
    rw [List.foldl_cons]
    exact orN_sub (sb_or h (hc x (by simp))) fun y hy => hc y (List.mem_cons_of_mem _ hy)
theorem orN_in {μ : Nd → Nat} {c : List Nd} {x : Nd} (h : x ∈ c) : SubB (μ x) (orN μ c) := fun i hi => by
  rw [← orN_mm h, Nat.testBit_or, hi]; rfl
def agQ (m k : Nat) (op i e g : Int) : Bool := subM (agN ⟨op, i, e, g, 0, 0⟩) m && subM (factN ⟨op, i, e, g, 0, 0⟩) k
theorem agQ_iff {m k : Nat} {op i e g : Int} : agQ m k op i e g = true ↔ SubB (agN ⟨op, i, e, g, 0, 0⟩) m ∧ SubB (factN ⟨op, i, e, g, 0, 0⟩) k := by
  rw [agQ, Bool.and_eq_true, sb_iff, sb_iff]
theorem sb_bit {g : Int} {m j : Nat} (h1 : 1 ≤ g) (h16 : g < 16) (h : SubB g.toNat m) (hj : (and64 (shr64 g j) 1 == 1) = true) (h4 : j < 4) : SubB (2 ^ j) m := fun i hi => by
  obtain ⟨k, rfl⟩ : ∃ k : Nat, g = k := ⟨g.toNat, by omega⟩
  rw [bit64_one (show k < 2 ^ 62 by have : (16 : Nat) < 2 ^ 62 := by decide
                                    omega) (by omega)] at hj
  rw [Nat.testBit_two_pow] at hi
  have : j = i := by simpa using hi
  subst this
  exact h _ hj
theorem agQ_clo (m k : Nat) : Clo (rgQ (agQ m k)) := by
  refine ⟨?_, ?_, ?_, ?_, ?_, fun i e g h => ?_, fun i e g h => ?_, fun i e g h => ?_, fun i e g j h hj h4 => ?_⟩
  · exact rg_no (agQ_iff.2 ⟨sb_z m, sb_z k⟩) rfl
  · exact rg_no (agQ_iff.2 ⟨sb_z m, sb_z k⟩) rfl
  · exact rg_no (agQ_iff.2 ⟨sb_z m, sb_z k⟩) rfl
  · exact rg_no (agQ_iff.2 ⟨sb_z m, sb_z k⟩) rfl
  · exact rg_no (agQ_iff.2 ⟨sb_z m, sb_z k⟩) rfl
  · obtain ⟨h1, _⟩ := agQ_iff.1 (rg_iff.1 h).1
    refine rg_no (agQ_iff.2 ⟨?_, sb_z k⟩) rfl
    show SubB (2 ^ ((i.toNat : Nat) : Int).toNat) m
    rw [Int.toNat_natCast]; exact h1
  · obtain ⟨h1, _⟩ := agQ_iff.1 (rg_iff.1 h).1
    exact rg_no (agQ_iff.2 ⟨h1, sb_z k⟩) rfl
  · obtain ⟨h1, hg⟩ := rg_iff.1 h
    obtain ⟨h2, _⟩ := agQ_iff.1 h1
    exact rg_iff.2 ⟨agQ_iff.2 ⟨h2, sb_z k⟩, hg⟩
  · obtain ⟨h1, hg⟩ := rg_iff.1 h
    obtain ⟨h2, _⟩ := agQ_iff.1 h1
    obtain ⟨g1, g2⟩ := hg rfl
    refine rg_no (agQ_iff.2 ⟨?_, sb_z k⟩) rfl
    show SubB (2 ^ ((j : Nat) : Int).toNat) m
    rw [Int.toNat_natCast]
    exact sb_bit g1 g2 h2 hj h4
def InM (m k : Nat) (l : List (List Nd)) : Prop := m < 2 ^ 4 ∧ k < 2 ^ 8 ∧ ∀ f, f ∈ l → SubB (agents f) m ∧ SubB (facts f) k
theorem in_or {m k : Nat} {l l' : List (List Nd)} {p : List Nd} (h : InM m k l) (hl : ∀ f, f ∈ l' → f ∈ l ∨ f = p) : InM (m ||| agents p) (k ||| facts p) l' := by
  obtain ⟨h1, h2, h3⟩ := h
  refine ⟨Nat.or_lt_two_pow h1 (agents_lt p), Nat.or_lt_two_pow h2 (facts_lt p), fun f hf => ?_⟩
  rcases hl f hf with q | rfl
  · exact ⟨sb_trans (h3 f q).1 (sb_l _ _), sb_trans (h3 f q).2 (sb_l _ _)⟩
  · exact ⟨sb_r _ _, sb_r _ _⟩
theorem in_sub {m k : Nat} {l l' : List (List Nd)} (h : InM m k l) (hl : ∀ f, f ∈ l' → f ∈ l) : InM m k l' := ⟨h.1, h.2.1, fun f hf => h.2.2 f (hl f hf)⟩
def fmsA (a : Act) : List (List Nd) := a.pre ++ a.post.flatMap fun l => l.map Asg.to
theorem ag_nd {m k : Nat} {f : List Nd} {x : Nd} (hx : x ∈ comp f) (h1 : SubB (agents f) m) (h2 : SubB (facts f) k) : agQ m k x.op x.i x.e x.g = true := by
  have q1 : SubB (agN x) m := sb_trans (orN_in hx) h1
  have q2 : SubB (factN x) k := sb_trans (orN_in hx) h2
  exact agQ_iff.2 ⟨q1, q2⟩
theorem all_ag {m k : Nat} {f : List Nd} (hc : check f = 0) (h1 : SubB (agents f) m) (h2 : SubB (facts f) k) : allT (rgQ (agQ m k)) (root f) = true := by
  rw [← root_comp hc]
  refine trn_all (fun x hx => ?_) _ _
  obtain ⟨j, hk⟩ := okl_mem (comp_okl f) hx
  exact rg_iff.2 ⟨ag_nd hx h1 h2, hk.group⟩
theorem ag_all {m k : Nat} {z : List Nd} (hz : Can z) (h : allT (rgQ (agQ m k)) (root z) = true) : SubB (agents z) m ∧ SubB (facts z) k := by
  have key : ∀ x, x ∈ comp z → SubB (agN x) m ∧ SubB (factN x) k := fun x hx => by
    rw [comp_root hz.check] at hx
    have := agQ_iff.1 (rg_iff.1 (finT_all (Q := rgQ (agQ m k)) _ _ h (by simp) x hx)).1
    exact this
  exact ⟨orN_sub (μ := agN) (sb_z m) fun x hx => (key x hx).1, orN_sub (μ := factN) (sb_z k) fun x hx => (key x hx).2⟩
theorem valL_ag {m k : Nat} {i e g : Int} (hi : rgQ (agQ m k) 3 i e g = true) : ∀ {l : List Asg}, (∀ x, x ∈ l → SubB (agents x.to) m ∧ SubB (facts x.to) k) → allT (rgQ (agQ m k)) (root (valL i l)) = true
  | [], _ => by
    show allT _ (root (buildL (nI 3 i) [])) = true
    by_cases q : buildL (nI 3 i) [] = []
    · rw [q]; rfl
    · rw [build_one] at q ⊢
      rw [(one_inv q).2.2]
      show (rgQ (agQ m k) 3 i 0 0 && true && true) = true
      have h2 := agQ_iff.1 (rg_iff.1 hi).1
      have hq : rgQ (agQ m k) 3 i 0 0 = true := rg_no (agQ_iff.2 ⟨sb_z m, h2.2⟩) rfl
      rw [hq]; rfl
  | x :: r, h => by
    rw [valL]
    cases (x.fact == i) with
    | true =>
      show allT _ (root (comp x.to)) = true
      by_cases q : check x.to = 0
      · rw [root_comp q]
        exact all_ag q (h x (by simp)).1 (h x (by simp)).2
      · rw [comp_none q]; rfl
    | false => exact valL_ag hi fun y hy => h y (List.mem_cons_of_mem _ hy)
theorem act_ag {a : Act} {A : Int} {F m k : Nat} (h : actI a A F = 0) (hI : InM m k (fmsA a)) : ActQ (rgQ (agQ m k)) a := by
  have hO := actI_ok h
  obtain ⟨h1, h2⟩ := evs_all hO.ev
  refine ⟨fun e => ?_, fun e i e' g hq => ?_, hO.agn⟩
  · rw [List.getD_eq_getElem?_getD]
    cases he : a.pre[e]? with
    | none => rfl
    | some f =>
      have hm := List.mem_of_getElem? he
      have := hI.2.2 f (List.mem_append_left _ hm)
      exact all_ag (statI_ok (h1 f hm)).1 this.1 this.2
  · unfold valI
    cases (aloneI a != 0) with
    | true => rfl
    | false =>
      simp only [cond_false]
      cases hb : badEv a e with
      | true => rfl
      | false =>
        simp only [cond_false]
        cases hf : badF i with
        | true => rfl
        | false =>
          simp only [cond_false]
          obtain ⟨j, rfl, hk⟩ := badEv_no hb
          rw [Int.toNat_natCast]
          refine valL_ag hq fun x hx => ?_
          refine hI.2.2 _ (List.mem_append_right _ (List.mem_flatMap.2 ⟨a.post.getD j [], ?_, List.mem_map.2 ⟨x, hx, rfl⟩⟩))
          rw [List.getD_eq_getElem?_getD] at hx ⊢
          cases hp : a.post[j]? with
          | none => rw [hp] at hx; cases hx
          | some l => exact List.mem_of_getElem? hp
theorem rd_agents {acts : List Act} {f : List Nd} {m k : Nat} (h : (rdI acts f).2 = 0) (hI : InM m k (f :: acts.flatMap fmsA)) : subM (agents (rdI acts f).1) m = true ∧ subM (facts (rdI acts f).1) k = true := by
  obtain ⟨h1, h2, h3⟩ := rd_fine h
  have hf := hI.2.2 f (by simp)
  have := ag_all (m := m) (k := k) h2 (by
    rw [h3, ← root_comp h1.cf]
    refine redT_all (agQ_clo m k) (fun a ha => ?_) _ (trn_all (fun x hx => ?_) _ _)
    · have hA := (chk_ok (h1.chk a ha)).2.1
      exact act_ag (F := 8) hA (in_sub hI fun g hg => List.mem_cons_of_mem _ (List.mem_flatMap.2 ⟨a, ha, hg⟩))
    · obtain ⟨j, hk⟩ := okl_mem (comp_okl f) hx
      show (x.op == 16 || x.op == 17 || rgQ (agQ m k) x.op x.i x.e x.g) = true
      rw [rg_iff.2 ⟨ag_nd hx hf.1 hf.2, hk.group⟩, Bool.or_true])
  exact ⟨sb_iff.2 this.1, sb_iff.2 this.2⟩
theorem take_one {α : Type} {l : List α} {j : Nat} {y : α} (h : l[j]? = some y) : l.take (j + 1) = l.take j ++ [y] := by
  rw [List.take_add_one, h]; rfl
theorem in_take {m k : Nat} {D l : List (List Nd)} {j : Nat} {p : List Nd} (h : InM m k (D ++ l.take j)) (hp : l[j]? = some p) : InM (m ||| agents p) (k ||| facts p) (D ++ l.take (j + 1)) := by
  refine in_or h fun g hg => ?_
  rw [take_one hp, ← List.append_assoc] at hg
  rcases List.mem_append.1 hg with q | q
  · exact .inl q
  · exact .inr (by simpa using q)
def cellsR (a : Act) : List DV := [.pv (.sl (a.pre.map fpv)), .pv (.sl (a.post.map postPV)), .pv (.sl (a.rel.map rowPV))]
def tosA (l : List Asg) : List (List Nd) := l.map Asg.to
theorem l30_agents (acts : List Act) (f : List Nd) (hS : fewL acts [f] = true → ∀ a, a ∈ acts → SmX a) : PureFn Try.prog 5 [actsPV acts, fpv f] (.bool true) := by
  have hA := rl_awake
  have hW := rl_few acts [f] (by simp)
  cases hfw : fewL acts [f] with
  | false =>
    rw [hfw] at hW
    refine PureFn.introC [3] mixed (fn := Try.f5) rfl rfl rfl fun M w0 => ?_
    try conv=>whnf
    refine ⟨{ _x : Unit // False }, fun _ => [], fun _ => 0, fun _ => [], ?_, fun ⟨_, h⟩ => h.elim⟩
    (try conv=>whnf);repeat' (first|(apply And.intro<;>try conv=>whnf)|(intro h;try conv=>whnf)|apply True.intro|(apply cellsI;rfl)|(apply WhenQ.mk;(try conv=>whnf);rotate_left;(try conv=>whnf);rotate_right)|with_reducible assumption|(apply not_of;with_reducible assumption)|(refine PureFn.dcq (f := 7) rfl ?_;try conv=>whnf)|(refine PureFn.dcq (f := 6) rfl ?_;try conv=>whnf)|(refine ⟨_, _, hW, ?_, ?_⟩;(focus first|(refine ⟨?_, ?_, trivial⟩<;>first|exact PLe.refl _|exact PLe.nil)|exact trivial);try conv=>whnf)|(refine ⟨_, _, hA, ?_, ?_⟩;(focus first|(refine ⟨trivial⟩<;>first|exact PLe.refl _|exact PLe.nil)|exact trivial);try conv=>whnf)|fail)
    · exact .refl _
    · exact absurd h (by decide)
  | true =>
    rw [hfw] at hW
    have hX := red_Reduce acts f (hS hfw)
    have z1 := fun m k => rd_agents (acts := acts) (f := f) (m := m) (k := k)
    generalize rdI acts f = z at hX z1
    obtain ⟨x, e⟩ := z
    simp only at z1
    have hal : acts.length ≤ 10 := (fewR_ok (few_len hfw).1).1
    have hsz := (fewR_ok (few_len hfw).1).2
    refine PureFn.introC [3, 4, 7] mixed (fn := Try.f5) rfl rfl rfl fun M w0 => ?_
    try conv=>whnf
    refine ⟨Unit, fun _ => [(0, .pv (actsPV acts)), (1, .pv (fpv f))], fun _ => 0, fun _ => [], ?_, ?_⟩
    · (try conv=>whnf);repeat' (first|(apply And.intro<;>try conv=>whnf)|(intro h;try conv=>whnf)|apply True.intro|(apply cellsI;rfl)|(apply WhenQ.mk;(try conv=>whnf);rotate_left;(try conv=>whnf);rotate_right)|with_reducible assumption|(apply not_of;with_reducible assumption)|(refine PureFn.dcq (f := 7) rfl ?_;try conv=>whnf)|(refine PureFn.dcq (f := 6) rfl ?_;try conv=>whnf)|(refine ⟨_, _, hW, ?_, ?_⟩;(focus first|(refine ⟨?_, ?_, trivial⟩<;>first|exact PLe.refl _|exact PLe.nil)|exact trivial);try conv=>whnf)|(refine ⟨_, _, hA, ?_, ?_⟩;(focus first|(refine ⟨trivial⟩<;>first|exact PLe.refl _|exact PLe.nil)|exact trivial);try conv=>whnf)|fail)
      · exact .refl _
      · exact ⟨(), (by refine Wk.of ?_ ?_ rfl rfl rfl<;>repeat' (first|exact trivial|exact WkD.same _|refine ⟨?_, ?_⟩|fail))⟩
    rintro ⟨⟩
    refine ⟨Unit, fun _ => [(0, .pv (actsPV acts)), (1, .pv (fpv f)), (5, .pv (fpv x)), (6, .pv (.int .i64 e))], fun _ => 0, fun _ => [], ?_, ?_⟩
    · (try conv=>whnf);repeat' (first|(refine PureFn.dcq (f := 11) rfl ?_;try conv=>whnf)|(refine ⟨_, _, hX, ?_, ?_⟩;(focus first|(refine ⟨?_, ?_, trivial⟩<;>first|exact PLe.refl _|exact PLe.nil)|exact trivial);try conv=>whnf)|fail)
      exact ⟨(), (by refine Wk.of ?_ ?_ rfl rfl rfl<;>repeat' (first|exact trivial|exact WkD.same _|refine ⟨?_, ?_⟩|fail))⟩
    rintro ⟨⟩
    (try conv=>whnf);repeat' (first|(apply And.intro<;>try conv=>whnf)|(intro h;try conv=>whnf)|fail)
    · exact .refl _
    have h0 : e = 0 := by simpa using h
    subst h0
    clear h
    refine ⟨Unit, fun _ => [(0, .pv (actsPV acts)), (5, .pv (fpv x)), (7, .pv (.int .i64 (agents f : Nat))), (8, .pv (.int .i64 (facts f : Nat)))], fun _ => 0, fun _ => [], ?_, ?_⟩
    · (try conv=>whnf);repeat' (first|(refine PureFn.dcq (f := 16) rfl ?_;try conv=>whnf)|(refine PureFn.dcq (f := 17) rfl ?_;try conv=>whnf)|(refine ⟨_, _, fm_Agents ?_, ?_, ?_⟩;rotate_left 1;(focus first|(refine ⟨?_, trivial⟩<;>first|exact PLe.refl _|exact PLe.nil)|exact trivial);try conv=>whnf)|(refine ⟨_, _, fm_Facts ?_, ?_, ?_⟩;rotate_left 1;(focus first|(refine ⟨?_, trivial⟩<;>first|exact PLe.refl _|exact PLe.nil)|exact trivial);try conv=>whnf)|fail)
      exact ⟨(), (by refine Wk.of ?_ ?_ rfl rfl rfl<;>repeat' (first|exact trivial|exact WkD.same _|refine ⟨?_, ?_⟩|fail))⟩
    rintro ⟨⟩
    have z1 := fun m k => z1 m k rfl
    try conv=>whnf
    refine ⟨{ q : Nat × Nat × Nat // q.1 ≤ acts.length ∧ InM q.2.1 q.2.2 (f :: (acts.take q.1).flatMap fmsA) }, fun q => [(5, .pv (fpv x)), (7, .pv (.int .i64 (q.1.2.1 : Nat))), (8, .pv (.int .i64 (q.1.2.2 : Nat))), (39, .pv (actsPV acts)), (40, .pv (i64 (acts.map Act.pv).length)), (41, .pv (i64 q.1.1))], fun _ => 0, fun _ => [], fun q => acts.length - q.1.1,
      ⟨⟨(0, agents f, facts f), Nat.zero_le _, agents_lt f, facts_lt f, fun g hg => by
        have : g = f := by simpa using hg
        subst this
        exact ⟨sb_refl _, sb_refl _⟩⟩, (by refine Wk.of ?_ ?_ rfl rfl rfl<;>repeat' (first|exact trivial|exact WkD.same _|refine ⟨?_, ?_⟩|fail))⟩, ?_⟩
    rintro ⟨⟨i, m, k⟩, hi, hI⟩
    simp only at hi hI
    (try conv=>whnf);repeat' (first|(apply And.intro<;>try conv=>whnf)|(intro h;try conv=>whnf)|(apply infoT;rfl)|fail)
    · have hi' : i < acts.length := by simpa using lt_dec h
      obtain ⟨a, ha⟩ : ∃ a, acts[i]? = some a := ⟨_, List.getElem?_eq_getElem hi'⟩
      refine ⟨_, _, rfl, idx_map ha, rfl, ?_⟩
      try conv=>whnf
      obtain ⟨hb1, hb2, _, _, hb3⟩ := hsz a (List.mem_of_getElem? ha)
      obtain ⟨D, hD⟩ : ∃ D, f :: (acts.take i).flatMap fmsA = D := ⟨_, rfl⟩
      rw [hD] at hI
      refine ⟨{ q : Nat × Nat × Nat // q.1 ≤ a.pre.length ∧ InM q.2.1 q.2.2 (D ++ a.pre.take q.1) }, fun q => [(5, .pv (fpv x)), (7, .pv (.int .i64 (q.1.2.1 : Nat))), (8, .pv (.int .i64 (q.1.2.2 : Nat))), (39, .pv (actsPV acts)), (40, .pv (i64 (acts.map Act.pv).length)), (41, .pv (i64 i)), (10, .ref 0 0), (46, .pv (.sl (a.pre.map fpv))), (47, .pv (i64 (a.pre.map fpv).length)), (48, .pv (i64 q.1.1))], fun _ => 1, fun _ => [(0, .var (cellsR a))], fun q => a.pre.length - q.1.1, ⟨⟨(0, m, k), Nat.zero_le _, by simpa using hI⟩, (by refine Wk.of ?_ ?_ rfl rfl rfl<;>repeat' (first|exact trivial|exact WkD.same _|exact WkO.same _ _ rfl|refine ⟨?_, ?_⟩|fail))⟩, ?_⟩
      clear h
      rintro ⟨⟨j, m, k⟩, hj, hI⟩
      simp only at hj hI
      (try conv=>whnf);repeat' (first|(apply And.intro<;>try conv=>whnf)|(intro h;try conv=>whnf)|(apply infoT;rfl)|fail)
      · have hj' : j < a.pre.length := by simpa using lt_dec h
        obtain ⟨p, hp⟩ : ∃ p, a.pre[j]? = some p := ⟨_, List.getElem?_eq_getElem hj'⟩
        have hN := in_take hI hp
        have e1 : or64 (m : Int) (agents p : Nat) = ((m ||| agents p : Nat) : Int) := or64_nat (Nat.lt_of_lt_of_le hI.1 (by decide)) (Nat.lt_of_lt_of_le (agents_lt p) (by decide))
        have e2 : or64 (k : Int) (facts p : Nat) = ((k ||| facts p : Nat) : Int) := or64_nat (Nat.lt_of_lt_of_le hI.2.1 (by decide)) (Nat.lt_of_lt_of_le (facts_lt p) (by decide))
        (try conv=>whnf);repeat' (first|(refine ⟨_, _, rfl, idx_map (by with_reducible assumption), rfl, ?_⟩;try conv=>whnf)|(refine PureFn.dcq (f := 16) rfl ?_;try conv=>whnf)|(refine PureFn.dcq (f := 17) rfl ?_;try conv=>whnf)|(refine ⟨_, _, fm_Agents ?_, ?_, ?_⟩;rotate_left 1;(focus first|(refine ⟨?_, trivial⟩<;>first|exact PLe.refl _|exact PLe.nil)|exact trivial);try conv=>whnf)|(refine ⟨_, _, fm_Facts ?_, ?_, ?_⟩;rotate_left 1;(focus first|(refine ⟨?_, trivial⟩<;>first|exact PLe.refl _|exact PLe.nil)|exact trivial);try conv=>whnf)|fail)
        refine ⟨⟨(j + 1, m ||| agents p, k ||| facts p), hj', hN⟩, by show a.pre.length - (j + 1) < a.pre.length - j; omega, ?_⟩
        (refine Wk.of ?_ ?_ rfl rfl rfl<;>repeat' (first|exact trivial|exact WkD.same _|exact WkO.same _ _ rfl|refine WkD.int ?_|refine ⟨?_, ?_⟩|(refine wrapA ?_ ?_ ?_;(focus simp;done);(focus (try dsimp only);omega);(focus (try dsimp only);omega))|fail))
        · exact e1
        · exact e2
      have hj' : j = a.pre.length := by have := ge_dec (m := (a.pre.map fpv).length) h (by simpa using hj); simpa using this
      subst hj'
      rw [List.take_length] at hI
      clear h
      try conv=>whnf
      refine ⟨{ q : Nat × Nat × Nat // q.1 ≤ a.post.length ∧ InM q.2.1 q.2.2 (D ++ a.pre ++ (a.post.take q.1).flatMap tosA) }, fun q => [(5, .pv (fpv x)), (7, .pv (.int .i64 (q.1.2.1 : Nat))), (8, .pv (.int .i64 (q.1.2.2 : Nat))), (39, .pv (actsPV acts)), (40, .pv (i64 (acts.map Act.pv).length)), (41, .pv (i64 i)), (62, .pv (.sl (a.post.map postPV))), (63, .pv (i64 (a.post.map postPV).length)), (64, .pv (i64 q.1.1))], fun _ => 0, fun _ => [], fun q => a.post.length - q.1.1, ⟨⟨(0, m, k), Nat.zero_le _, by simpa using hI⟩, (by refine Wk.of ?_ ?_ rfl rfl rfl<;>repeat' (first|exact trivial|exact WkD.same _|refine ⟨?_, ?_⟩|fail))⟩, ?_⟩
      rintro ⟨⟨j, m, k⟩, hj, hI⟩
      simp only at hj hI
      (try conv=>whnf);repeat' (first|(apply And.intro<;>try conv=>whnf)|(intro h;try conv=>whnf)|(apply infoT;rfl)|fail)
      · have hj' : j < a.post.length := by simpa using lt_dec h
        obtain ⟨l, hl⟩ : ∃ l, a.post[j]? = some l := ⟨_, List.getElem?_eq_getElem hj'⟩
        have hll := hb3 l (List.mem_of_getElem? hl)
        clear h
        (try conv=>whnf);repeat' (first|(refine ⟨_, _, rfl, idx_map (by with_reducible assumption), rfl, ?_⟩;try conv=>whnf)|fail)
        refine ⟨{ q : Nat × Nat × Nat // q.1 ≤ l.length ∧ InM q.2.1 q.2.2 (D ++ a.pre ++ (a.post.take j).flatMap tosA ++ (tosA l).take q.1) }, fun q => [(5, .pv (fpv x)), (7, .pv (.int .i64 (q.1.2.1 : Nat))), (8, .pv (.int .i64 (q.1.2.2 : Nat))), (39, .pv (actsPV acts)), (40, .pv (i64 (acts.map Act.pv).length)), (41, .pv (i64 i)), (62, .pv (.sl (a.post.map postPV))), (63, .pv (i64 (a.post.map postPV).length)), (64, .pv (i64 j)), (68, .pv (postPV l)), (69, .pv (i64 (l.map Asg.pv).length)), (70, .pv (i64 q.1.1))], fun _ => 0, fun _ => [], fun q => l.length - q.1.1, ⟨⟨(0, m, k), Nat.zero_le _, by simpa using hI⟩, (by refine Wk.of ?_ ?_ rfl rfl rfl<;>repeat' (first|exact trivial|exact WkD.same _|refine ⟨?_, ?_⟩|fail))⟩, ?_⟩
        rintro ⟨⟨n, m, k⟩, hn, hI⟩
        simp only at hn hI
        (try conv=>whnf);repeat' (first|(apply And.intro<;>try conv=>whnf)|(intro h;try conv=>whnf)|(apply infoT;rfl)|fail)
        · have hn' : n < l.length := by simpa using lt_dec h
          obtain ⟨y, hy⟩ : ∃ y, l[n]? = some y := ⟨_, List.getElem?_eq_getElem hn'⟩
          have hN := in_take (p := y.to) hI (by rw [tosA, List.getElem?_map, hy]; rfl)
          have e1 : or64 (m : Int) (agents y.to : Nat) = ((m ||| agents y.to : Nat) : Int) := or64_nat (Nat.lt_of_lt_of_le hI.1 (by decide)) (Nat.lt_of_lt_of_le (agents_lt y.to) (by decide))
          have e2 : or64 (k : Int) (facts y.to : Nat) = ((k ||| facts y.to : Nat) : Int) := or64_nat (Nat.lt_of_lt_of_le hI.2.1 (by decide)) (Nat.lt_of_lt_of_le (facts_lt y.to) (by decide))
          (try conv=>whnf);repeat' (first|(refine ⟨_, _, rfl, idx_map (by with_reducible assumption), rfl, ?_⟩;try conv=>whnf)|(refine PureFn.dcq (f := 16) rfl ?_;try conv=>whnf)|(refine PureFn.dcq (f := 17) rfl ?_;try conv=>whnf)|(refine ⟨_, _, fm_Agents ?_, ?_, ?_⟩;rotate_left 1;(focus first|(refine ⟨?_, trivial⟩<;>first|exact PLe.refl _|exact PLe.nil)|exact trivial);try conv=>whnf)|(refine ⟨_, _, fm_Facts ?_, ?_, ?_⟩;rotate_left 1;(focus first|(refine ⟨?_, trivial⟩<;>first|exact PLe.refl _|exact PLe.nil)|exact trivial);try conv=>whnf)|fail)
          refine ⟨⟨(n + 1, m ||| agents y.to, k ||| facts y.to), hn', hN⟩, by show l.length - (n + 1) < l.length - n; omega, ?_⟩
          (refine Wk.of ?_ ?_ rfl rfl rfl<;>repeat' (first|exact trivial|exact WkD.same _|refine WkD.int ?_|refine ⟨?_, ?_⟩|(refine wrapA ?_ ?_ ?_;(focus simp;done);(focus (try dsimp only);omega);(focus (try dsimp only);omega))|fail))
          · exact e1
          · exact e2
        · have hn' : n = l.length := by have := ge_dec (m := (l.map Asg.pv).length) h (by simpa using hn); simpa using this
          subst hn'
          rw [show (tosA l).take l.length = tosA l from by rw [tosA, ← List.length_map (f := Asg.to), List.take_length]] at hI
          clear h
          try conv=>whnf
          refine ⟨⟨(j + 1, m, k), hj', ?_⟩, by show a.post.length - (j + 1) < a.post.length - j; omega, ?_⟩
          · rw [take_one hl, List.flatMap_append, ← List.append_assoc]
            simpa using hI
          (refine Wk.of ?_ ?_ rfl rfl rfl<;>repeat' (first|exact trivial|exact WkD.same _|refine WkD.int ?_|refine ⟨?_, ?_⟩|(refine wrapA ?_ ?_ ?_;(focus simp;done);(focus (try dsimp only);omega);(focus (try dsimp only);omega))|fail))
      have hj' : j = a.post.length := by have := ge_dec (m := (a.post.map postPV).length) h (by simpa using hj); simpa using this
      subst hj'
      rw [List.take_length] at hI
      clear h
      try conv=>whnf
      refine ⟨⟨(i + 1, m, k), hi', ?_⟩, by show acts.length - (i + 1) < acts.length - i; omega, ?_⟩
      · rw [take_one ha, List.flatMap_append, ← List.cons_append, hD, List.flatMap_cons, List.flatMap_nil, List.append_nil]
        show InM m k (D ++ (a.pre ++ a.post.flatMap tosA))
        rw [← List.append_assoc]
        exact hI
      (refine Wk.of ?_ ?_ rfl rfl rfl<;>repeat' (first|exact trivial|exact WkD.same _|refine WkD.int ?_|refine ⟨?_, ?_⟩|(refine wrapA ?_ ?_ ?_;(focus simp;done);(focus (try dsimp only);omega);(focus (try dsimp only);omega))|fail))
    · have hi' : i = acts.length := by have := ge_dec (m := (acts.map Act.pv).length) h (by simpa using hi); simpa using this
      subst hi'
      rw [List.take_length] at hI
      clear h
      obtain ⟨s1, s2⟩ := z1 m k hI
      have f1 : (nand64' (agents x : Nat) (m : Nat) == 0) = true := by rw [nand_zero (Nat.lt_of_lt_of_le (agents_lt x) (by decide))]; exact s1
      have f2 : (nand64' (facts x : Nat) (k : Nat) == 0) = true := by rw [nand_zero (Nat.lt_of_lt_of_le (facts_lt x) (by decide))]; exact s2
      (try conv=>whnf);repeat' (first|(apply And.intro<;>try conv=>whnf)|(intro h;try conv=>whnf)|apply True.intro|(apply WhenQ.mk;(try conv=>whnf);rotate_left;(try conv=>whnf);rotate_right)|with_reducible assumption|(refine PureFn.dcq (f := 16) rfl ?_;try conv=>whnf)|(refine PureFn.dcq (f := 17) rfl ?_;try conv=>whnf)|(refine ⟨_, _, fm_Agents ?_, ?_, ?_⟩;rotate_left 1;(focus first|(refine ⟨?_, trivial⟩<;>first|exact PLe.refl _|exact PLe.nil)|exact trivial);try conv=>whnf)|(refine ⟨_, _, fm_Facts ?_, ?_, ?_⟩;rotate_left 1;(focus first|(refine ⟨?_, trivial⟩<;>first|exact PLe.refl _|exact PLe.nil)|exact trivial);try conv=>whnf)|fail)
      refine le_bool ?_
      show (bif nand64' (agents x : Nat) (m : Nat) == 0 then nand64' (facts x : Nat) (k : Nat) == 0 else false) = true
      rw [f1, f2]; rfl
end Go.Proofs.Ytibbphifegibkaa
set_option maxRecDepth 100000
set_option maxHeartbeats 4000000
namespace Go.Proofs.Ytibbphifegibkaa
open Go Go.Dv

theorem u_acts : Try.prog.underlying 28 = some (.slice 37) := by kernel_rfl
theorem arg_acts {n : Nat} {p : PV} (h : TyA Try.prog (n + 8) 28 p) : ∃ acts : List Act, PLe p (actsPV acts) ∧ ∀ a, a ∈ acts → Fit a := by
  exact el_of (n := n + 7) (g := Act.pv) (Q := Fit) u_acts (fun p hp => arg_act (n := n) hp) p h
theorem few_sm {acts : List Act} {l : List (List Nd)} (hf : ∀ a, a ∈ acts → Fit a) (h : fewL acts l = true) : ∀ a, a ∈ acts → SmX a := fun a ha => by
  obtain ⟨_, _, h3, _, h5⟩ := (fewR_ok (few_len h).1).2 a ha
  exact ⟨hf a ha, by omega, fun l hl => by have := h5 l hl; omega⟩
theorem l30a_args (ps : List PV) (hps : TyAll Try.prog 8 Try.f3.params.toList ps) : PureFn Try.prog 3 ps (.bool true) := by
  obtain ⟨p1, r1, rfl, h1, p2, r2, rfl, h2, rfl⟩ := hps
  obtain ⟨f, hf⟩ := arg_nodes (n := 5) h1
  obtain ⟨g, hg⟩ := arg_nodes (n := 5) h2
  exact (l30_announced f g).le ⟨hf, hg, trivial⟩
theorem l30s_args (ps : List PV) (hps : TyAll Try.prog 8 Try.f4.params.toList ps) : PureFn Try.prog 4 ps (.bool true) := by
  obtain ⟨p1, r1, rfl, h1, p2, r2, rfl, h2, rfl⟩ := hps
  obtain ⟨acts, ha, hF⟩ := arg_acts (n := 0) h1
  obtain ⟨f, hf⟩ := arg_nodes (n := 5) h2
  exact (l30_static acts f (few_sm hF)).le ⟨ha, hf, trivial⟩
theorem l30g_args (ps : List PV) (hps : TyAll Try.prog 8 Try.f5.params.toList ps) : PureFn Try.prog 5 ps (.bool true) := by
  obtain ⟨p1, r1, rfl, h1, p2, r2, rfl, h2, rfl⟩ := hps
  obtain ⟨acts, ha, hF⟩ := arg_acts (n := 0) h1
  obtain ⟨f, hf⟩ := arg_nodes (n := 5) h2
  exact (l30_agents acts f (few_sm hF)).le ⟨ha, hf, trivial⟩
end Go.Proofs.Ytibbphifegibkaa
