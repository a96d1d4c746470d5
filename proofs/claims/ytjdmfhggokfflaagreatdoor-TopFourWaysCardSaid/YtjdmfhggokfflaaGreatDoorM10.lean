/- Parts of the proof, one after the other: The dynamic language: requests of the program walked. The dynamic language: Holds of the program walked. The law TopFourWays: sizes, models compared, the example; what it asks (plain). The law TopFourWays walked. -/
import Derived.Test.YtjdmfhggokfflaaGreatDoorM9
set_option maxRecDepth 100000
set_option maxHeartbeats 8000000
namespace Go.Proofs.YtjdmfhggokfflaaGreatDoor
open Go Go.Dv

def HDq (m : Mo) (acts : List Act) : List (Nat × DObj) := [(0, .var (cellsM m)), (1, .var [.pv (actsPV acts)])]
theorem WkD.boo {L : DH} {H : List (Nat × DObj)} {a b : Bool} (h : a = b) : WkD L H (.pv (.bool a)) (.pv (.bool b)) := h ▸ .same _
theorem req1 {M : Nat → Prop} {w0 : World} (m : Mo) (acts : List Act) (x : Nd) (hx : x.op = 17 → 0 ≤ x.i) (base : Nat) (K : DV → DH → Prop) (hK : K (.pv (.bool (badA acts x))) ⟨2, 0, base, objsOf (HDq m acts)⟩) :
    DC Tryz.prog M w0 49 [.agg x.dvs, .ref 1 0] ⟨2, 0, base, objsOf (HDq m acts)⟩ K := by
  obtain ⟨op, fi, ei, gi, xx, yy⟩ := x
  simp only at hx
  have e1 : ((acts.map Act.pv).length : Int) = (acts.length : Int) := by simp
  refine DC.weaken (DC.intro mixed (fn := Tryz.f49) rfl rfl rfl ?_)
  cases h17 : (op == 17) with
  | false =>
    have hb : badA acts ⟨op, fi, ei, gi, xx, yy⟩ = false := by
      show (bif op == 17 then _ else false) = false
      rw [h17]; rfl
    rw [hb] at hK
    have hoff : (op == 17 && !false) = false := by rw [h17]; rfl
    (try conv=>whnf);repeat' (first|(apply And.intro<;>try conv=>whnf)|(intro h;first|with_reducible exact tf h (by assumption)|try conv=>whnf)|(apply whenOff;(focus with_reducible assumption);try conv=>whnf)|(refine lin_plan (by kernel_rfl) ?_;try conv=>whnf)|fail)
    refine ⟨_, 2, HDq m acts, ?_, hK⟩
    refine Wk.of ⟨WkD.boo ?_, trivial⟩ ⟨WkO.same _ _ rfl, trivial, WkO.same _ _ rfl, trivial, trivial⟩ rfl rfl rfl
    rw [h17]
    rfl
  | true =>
    have e17 : op = 17 := by simpa using h17
    have h0 := hx e17
    cases hge : decide (fi ≥ ((acts.map Act.pv).length : Int)) with
    | true =>
      have hb : badA acts ⟨op, fi, ei, gi, xx, yy⟩ = true := by
        show (bif op == 17 then (bif decide (fi ≥ (acts.length : Int)) then true else _) else false) = true
        rw [h17, ← e1, hge]; rfl
      rw [hb] at hK
      have hoff : (op == 17 && !decide (fi ≥ ((acts.map Act.pv).length : Int))) = false := by rw [h17, hge]; rfl
      (try conv=>whnf);repeat' (first|(apply And.intro<;>try conv=>whnf)|(intro h;first|with_reducible exact tf (by assumption) h|try conv=>whnf)|apply True.intro|(apply whenOff;(focus with_reducible assumption);try conv=>whnf)|(apply WhenQ.mk;(try conv=>whnf);rotate_left;(try conv=>whnf);rotate_right)|with_reducible assumption|(refine lin_plan (by kernel_rfl) ?_;try conv=>whnf)|fail)
      refine ⟨_, 2, HDq m acts, ?_, hK⟩
      refine Wk.of ⟨WkD.boo ?_, trivial⟩ ⟨WkO.same _ _ rfl, trivial, WkO.same _ _ rfl, trivial, trivial⟩ rfl rfl rfl
      rw [h17]
      show (bif decide (fi ≥ ((acts.map Act.pv).length : Int)) then true else _) = _
      rw [hge]; rfl
    | false =>
      have hlt := of_decide_eq_false hge
      rw [e1] at hlt
      obtain ⟨q, eq⟩ : ∃ q : Nat, fi = q := ⟨fi.toNat, by omega⟩
      subst eq
      obtain ⟨a, ha, had⟩ : ∃ a, acts[q]? = some a ∧ acts.getD q noAct = a := ⟨_, getD_mem (by omega), rfl⟩
      have hb : badA acts ⟨op, (q : Int), ei, gi, xx, yy⟩ = decide (ei ≥ ((a.pre.map fpv).length : Int)) := by
        show (bif op == 17 then (bif decide ((q : Int) ≥ (acts.length : Int)) then true else decide (ei ≥ ((acts.getD (q : Int).toNat noAct).pre.length : Int))) else false) = _
        rw [h17, ← e1, hge, Int.toNat_natCast, had, List.length_map]; rfl
      rw [hb] at hK
      (try conv=>whnf);repeat' (first|(apply And.intro<;>try conv=>whnf)|(intro h;try conv=>whnf)|apply True.intro|(apply infoT;rfl)|(apply WhenQ.mk;(try conv=>whnf);rotate_left;(try conv=>whnf);rotate_right)|with_reducible assumption|(apply and_of<;>first|with_reducible assumption|(apply not_of;with_reducible assumption))|(refine lin_plan (by kernel_rfl) ?_;try conv=>whnf)|(refine ⟨_, _, rfl, idx_map (by with_reducible assumption), rfl, ?_⟩;try conv=>whnf)|fail)
      refine ⟨_, 2, HDq m acts, ?_, hK⟩
      refine Wk.of ⟨WkD.boo ?_, trivial⟩ ⟨WkO.same _ _ rfl, trivial, WkO.same _ _ rfl, trivial, trivial⟩ rfl rfl rfl
      rw [h17]
      show (bif decide ((q : Int) ≥ ((acts.map Act.pv).length : Int)) then true else _) = _
      rw [hge]; rfl
theorem idx_N {M : Nat → Prop} {w0 : World} (m : Mo) (acts : List Act) (l : List Nd) (hl : l.length ≤ 1000) (hs : ∀ x, x ∈ l → x.op = 17 → 0 ≤ x.i) (base : Nat) (K : DV → DH → Prop) (hK : ∀ r : Int, decide (r ≥ 0) = l.any (badA acts) → K (.pv (.int .i64 r)) ⟨2, 0, base, objsOf (HDq m acts)⟩) :
    DC Tryz.prog M w0 67 [.pv (fpv l), .clo 49 [] [.ref 1 0]] ⟨2, 0, base, objsOf (HDq m acts)⟩ K := by
  refine DC.weaken (DC.intro mixed (fn := Tryz.f67) rfl rfl rfl ?_)
  try conv=>whnf
  refine ⟨{ i : Nat // i ≤ l.length ∧ (l.take i).any (badA acts) = false }, fun i => [(0, .pv (fpv l)), (1, .clo 49 [] [.ref 1 0]), (7, .pv (i64 (l.map Nd.pv).length)), (8, .pv (i64 i.1))], fun _ => 2, fun _ => HDq m acts, fun i => l.length - i.1, ⟨⟨0, Nat.zero_le _, rfl⟩, (by refine Wk.of ?_ ?_ rfl rfl rfl<;>repeat' (first|exact trivial|exact WkD.same _|exact WkO.same _ _ rfl|refine ⟨?_, ?_⟩|fail))⟩, ?_⟩
  rintro ⟨i, hi, ha⟩
  (try conv=>whnf);repeat' (first|(apply And.intro<;>try conv=>whnf)|(intro h;try conv=>whnf)|(apply infoT;rfl)|fail)
  · have hi' : i < l.length := by simpa using lt_dec h
    have hm : l[i]? = some l[i] := List.getElem?_eq_getElem hi'
    have hsi := hs _ (List.getElem_mem hi')
    refine ⟨_, _, rfl, idx_map hm, rfl, ?_⟩
    try conv=>whnf
    refine req1 m acts l[i] hsi _ _ ?_
    (try conv=>whnf);repeat' (first|(apply And.intro<;>try conv=>whnf)|(intro h;try conv=>whnf)|fail)
    · have e : l.any (badA acts) = true := any_at hi' h
      exact ⟨.pv (.int .i64 (i : Int)), 2, HDq m acts, (by refine Wk.of ?_ ?_ rfl rfl rfl<;>repeat' (first|exact trivial|exact WkD.same _|exact WkO.same _ _ rfl|refine ⟨?_, ?_⟩|fail)), hK i (by rw [e]; simp)⟩
    · exact ⟨⟨i + 1, hi', any_take hi' ha h⟩, by show l.length - (i + 1) < l.length - i; omega, (by refine Wk.of ?_ ?_ rfl rfl rfl<;>repeat' (first|exact trivial|exact WkD.same _|exact WkO.same _ _ rfl|refine WkD.int ?_|refine ⟨?_, ?_⟩|(refine wrapA ?_ ?_ ?_;(focus simp;done);(focus (try dsimp only);omega);(focus (try dsimp only);omega))|fail))⟩
  · have hi' : i = l.length := by have := ge_dec (m := (l.map Nd.pv).length) h (by simpa using hi); simpa using this
    subst hi'
    rw [List.take_length] at ha
    exact ⟨.pv (.int .i64 (-1)), 2, HDq m acts, (by refine Wk.of ?_ ?_ rfl rfl rfl<;>repeat' (first|exact trivial|exact WkD.same _|exact WkO.same _ _ rfl|refine ⟨?_, ?_⟩|fail)), hK (-1) (by rw [ha]; decide)⟩
theorem cont_N {M : Nat → Prop} {w0 : World} (m : Mo) (acts : List Act) (l : List Nd) (hl : l.length ≤ 1000) (hs : ∀ x, x ∈ l → x.op = 17 → 0 ≤ x.i) (base : Nat) (K : DV → DH → Prop) (hK : K (.pv (.bool (l.any (badA acts)))) ⟨2, 0, base, objsOf (HDq m acts)⟩) :
    DC Tryz.prog M w0 48 [.pv (fpv l), .clo 49 [] [.ref 1 0]] ⟨2, 0, base, objsOf (HDq m acts)⟩ K := by
  refine DC.intro mixed (fn := Tryz.f48) rfl rfl rfl ?_
  try conv=>whnf
  refine idx_N m acts l hl hs 2 _ fun r e => ?_
  rw [← e] at hK
  try conv=>whnf
  exact hK
theorem dy_Check (m : Mo) (acts : List Act) (hf : FitM m) (hS : ∀ a, a ∈ acts → SmA a) : PureFn Tryz.prog 46 [m.pv, actsPV acts] (.int .i64 (chkD m acts)) := by
  have e1 : ((m.val.map u64).length : Int) = (m.val.length : Int) := by simp
  have e2 : ((m.rel.map rowPV).length : Int) = (m.rel.length : Int) := by simp
  have e3 : ((acts.map Act.pv).length : Int) = (acts.length : Int) := by simp
  have hM := md_Check m hf
  refine PureFn.intro mixed (fn := Tryz.f46) rfl rfl rfl fun M w0 => ?_
  (try conv=>whnf);repeat' (first|(apply And.intro<;>try conv=>whnf)|(intro h;try conv=>whnf)|(refine PureFn.dcq (f := 58) rfl ?_;try conv=>whnf)|(refine ⟨_, _, hM, ?_, ?_⟩;(focus first|(refine ⟨?_, trivial⟩<;>first|exact PLe.refl _|exact PLe.nil)|exact trivial);try conv=>whnf)|fail)
  · refine le_int ?_
    rw [chkD, show (moI m != 0) = true from h]; rfl
  · rename_i h0
    refine le_int ?_
    rw [chkD, show (moI m != 0) = false from h0, ← e3, show decide (((acts.map Act.pv).length : Int) > 8) = true from h]; rfl
  rename_i h0
  have h8 := of_decide_eq_false h
  have hck : chkD m acts = actsI (m.rel.length : Int) (m.val.length : Int) acts := by
    rw [chkD, show (moI m != 0) = false from h0, ← e3, show decide (((acts.map Act.pv).length : Int) > 8) = false from h]; rfl
  rw [hck]
  clear hck h h0
  refine ⟨{ i : Nat // i ≤ acts.length ∧ actsI (m.rel.length : Int) (m.val.length : Int) (acts.drop i) = actsI (m.rel.length : Int) (m.val.length : Int) acts }, fun i => [(2, .ref 0 0), (17, .pv (actsPV acts)), (18, .pv (i64 (acts.map Act.pv).length)), (19, .pv (i64 i.1))], fun _ => 1, fun _ => HM m, fun i => acts.length - i.1, ⟨⟨0, Nat.zero_le _, rfl⟩, (by refine Wk.of ?_ ?_ rfl rfl rfl<;>repeat' (first|exact trivial|exact WkD.same _|exact WkO.same _ _ rfl|refine ⟨?_, ?_⟩|fail))⟩, ?_⟩
  rintro ⟨i, hi, hd⟩
  (try conv=>whnf);repeat' (first|(apply And.intro<;>try conv=>whnf)|(intro h;try conv=>whnf)|(apply infoT;rfl)|fail)
  · have hi' : i < acts.length := by simpa using lt_dec h
    obtain ⟨a, ha, had⟩ : ∃ a, acts[i]? = some a ∧ acts.drop i = a :: acts.drop (i + 1) := ⟨_, List.getElem?_eq_getElem hi', List.drop_eq_getElem_cons hi'⟩
    have hSa := hS a (List.mem_iff_getElem?.2 ⟨i, ha⟩)
    have hA := ac_Check a (m.rel.length : Int) (m.val.length : Int) hSa.fit hSa.rel hSa.post
    rw [← e1, ← e2] at hA
    rw [had, actsI] at hd
    refine ⟨_, _, rfl, idx_map ha, rfl, ?_⟩
    (try conv=>whnf);repeat' (first|(apply And.intro<;>try conv=>whnf)|(intro h;try conv=>whnf)|(refine PureFn.dcq (f := 62) rfl ?_;try conv=>whnf)|(refine ⟨_, _, hA, ?_, ?_⟩;(focus first|(refine ⟨?_, ?_, ?_, trivial⟩<;>first|exact PLe.refl _|exact PLe.nil)|exact trivial);try conv=>whnf)|fail)
    · refine le_int ?_
      rw [e1, e2] at h
      have h : (actI a (m.rel.length : Int) (m.val.length : Int) != 0) = true := h
      rw [h, cond_true] at hd
      rw [e1, e2]; exact hd
    · have h2 : (actI a (m.rel.length : Int) (m.val.length : Int) != 0) = false := by rw [← e1, ← e2]; exact h
      rw [h2, cond_false] at hd
      exact ⟨⟨i + 1, hi', hd⟩, by show acts.length - (i + 1) < acts.length - i; omega, (by refine Wk.of ?_ ?_ rfl rfl rfl<;>repeat' (first|exact trivial|exact WkD.same _|exact WkO.same _ _ rfl|refine WkD.int ?_|refine ⟨?_, ?_⟩|(refine wrapA ?_ ?_ ?_;(focus simp;done);(focus (try dsimp only);omega);(focus (try dsimp only);omega))|fail))⟩
  · have hi' : i = acts.length := by have := ge_dec (m := (acts.map Act.pv).length) h (by simpa using hi); simpa using this
    rw [hi', List.drop_length] at hd
    exact le_int hd
theorem dy_request (m : Mo) (acts : List Act) (f : List Nd) (hf : FitM m) (hS : ∀ a, a ∈ acts → SmA a) : PureFn Tryz.prog 25 [m.pv, actsPV acts, fpv f] (.int .i64 (reqD m acts f)) := by
  have e1 : ((m.val.map u64).length : Int) = (m.val.length : Int) := by simp
  have e2 : ((m.rel.map rowPV).length : Int) = (m.rel.length : Int) := by simp
  have hM := dy_Check m acts hf hS
  have hC := fm_Check f
  have hF := fm_Frags f
  have hT := fm_Fits f (m.rel.length : Int) (m.val.length : Int)
  rw [← e1, ← e2] at hT
  have hK := fm_Compact f
  refine PureFn.introC [4, 7] mixed (fn := Tryz.f25) rfl rfl rfl fun M w0 => ?_
  try conv=>whnf
  refine ⟨{ _x : Unit // chkD m acts = 0 }, fun _ => [(2, .pv (fpv f)), (3, .ref 0 0), (4, .ref 1 0)], fun _ => 2, fun _ => HDq m acts, ?_, ?_⟩
  · (try conv=>whnf);repeat' (first|(apply And.intro<;>try conv=>whnf)|(intro h;try conv=>whnf)|(refine PureFn.dcq (f := 46) rfl ?_;try conv=>whnf)|(refine ⟨_, _, hM, ?_, ?_⟩;(focus first|(refine ⟨?_, ?_, trivial⟩<;>first|exact PLe.refl _|exact PLe.nil)|exact trivial);try conv=>whnf)|fail)
    · refine le_int ?_
      rw [reqD, show (chkD m acts != 0) = true from h]; rfl
    · exact ⟨⟨(), by simpa using h⟩, (by refine Wk.of ?_ ?_ rfl rfl rfl<;>repeat' (first|exact trivial|exact WkD.same _|exact WkO.same _ _ rfl|refine ⟨?_, ?_⟩|fail))⟩
  rintro ⟨_, h0⟩
  refine ⟨{ _x : Unit // check f = 0 }, fun _ => [(2, .pv (fpv f)), (3, .ref 0 0), (4, .ref 1 0)], fun _ => 2, fun _ => HDq m acts, ?_, ?_⟩
  · (try conv=>whnf);repeat' (first|(apply And.intro<;>try conv=>whnf)|(intro h;try conv=>whnf)|(refine PureFn.dcq (f := 30) rfl ?_;try conv=>whnf)|(refine ⟨_, _, hC, ?_, ?_⟩;(focus first|(refine ⟨?_, trivial⟩<;>first|exact PLe.refl _|exact PLe.nil)|exact trivial);try conv=>whnf)|fail)
    · refine le_int ?_
      rw [reqD, h0, show (check f != 0) = true from h]; rfl
    · exact ⟨⟨(), by simpa using h⟩, (by refine Wk.of ?_ ?_ rfl rfl rfl<;>repeat' (first|exact trivial|exact WkD.same _|exact WkO.same _ _ rfl|refine ⟨?_, ?_⟩|fail))⟩
  rintro ⟨_, h1⟩
  have hcn := comp_can h1
  have hcl : (comp f).length ≤ 1000 := by have := hcn.len; omega
  have hci : ∀ x, x ∈ comp f → x.op = 17 → 0 ≤ x.i := fun x hx h17 => by
    obtain ⟨i, hi⟩ := List.mem_iff_getElem?.1 hx
    exact ((hcn.ok i x hi).act h17).1
  (try conv=>whnf);repeat' (first|(apply And.intro<;>try conv=>whnf)|(intro h;try conv=>whnf)|(refine PureFn.dcq (f := 7) rfl ?_;try conv=>whnf)|(refine PureFn.dcq (f := 47) rfl ?_;try conv=>whnf)|(refine PureFn.dcq (f := 26) rfl ?_;try conv=>whnf)|(refine ⟨_, _, hF, ?_, ?_⟩;(focus first|(refine ⟨?_, trivial⟩<;>first|exact PLe.refl _|exact PLe.nil)|exact trivial);try conv=>whnf)|(refine ⟨_, _, hT, ?_, ?_⟩;(focus first|(refine ⟨?_, ?_, ?_, trivial⟩<;>first|exact PLe.refl _|exact PLe.nil)|exact trivial);try conv=>whnf)|(refine ⟨_, _, hK, ?_, ?_⟩;(focus first|(refine ⟨?_, trivial⟩<;>first|exact PLe.refl _|exact PLe.nil)|exact trivial);try conv=>whnf)|fail)
  · have h2 : (nand64' (frags f : Nat) 207 != 0) = true := h
    refine le_int ?_
    rw [reqD, h0, h1, h2]; rfl
  · rename_i h2
    have h2 : (nand64' (frags f : Nat) 207 != 0) = false := h2
    have h3 : (!fits f (m.rel.length : Int) (m.val.length : Int)) = true := by rw [← e1, ← e2]; exact h
    refine le_int ?_
    rw [reqD, h0, h1, h2, h3]; rfl
  · rename_i h2
    have h2 : (nand64' (frags f : Nat) 207 != 0) = false := h2
    have h3 : (!fits f (m.rel.length : Int) (m.val.length : Int)) = false := by rw [← e1, ← e2]; exact h
    have hr : reqD m acts f = bif (comp f).any (badA acts) then 6 else 0 := by rw [reqD, h0, h1, h2, h3]; rfl
    rw [hr]
    clear h
    refine cont_N m acts (comp f) hcl hci _ _ ?_
    (try conv=>whnf);repeat' (first|(apply And.intro<;>try conv=>whnf)|(intro h;try conv=>whnf)|fail)
    · rw [show (comp f).any (badA acts) = true from h]; exact .refl _
    · rw [show (comp f).any (badA acts) = false from h]; exact .refl _
end Go.Proofs.YtjdmfhggokfflaaGreatDoor
set_option maxRecDepth 100000
set_option maxHeartbeats 8000000
namespace Go.Proofs.YtjdmfhggokfflaaGreatDoor
open Go Go.Dv

theorem frag207 : ∀ op : Nat, op < 22 → (frag (op : Int)).toNat &&& 207 = (frag (op : Int)).toNat → op ≤ 13 ∨ op = 16 ∨ op = 17 := by decide
theorem cxd_of {m : Mo} {acts : List Act} {f : List Nd} (h : reqD m acts f = 0) : CxD m.rel.length m.val.length acts (comp f) := by
  obtain ⟨h1, h2, h3⟩ := reqD_iff.1 h
  obtain ⟨n, hD, h8⟩ := chkD_ok h1
  have hA := hD.okm.ag
  have hc := comp_can h2
  have key : ∀ x, x ∈ comp f → (∃ k : Int, OkNd x k) ∧ fragN x &&& 207 = fragN x ∧ agN x < 2 ^ m.rel.length ∧ factN x < 2 ^ m.val.length ∧ badA acts x = false := fun x hx => by
    have := h3 x hx
    simp only [ndQ, Bool.and_eq_true, decide_eq_true_eq] at this
    obtain ⟨i, hi⟩ := List.mem_iff_getElem?.1 hx
    exact ⟨⟨_, hc.ok i x hi⟩, this.1.1.1, this.1.1.2, this.1.2, (Bool.not_eq_true' _).mp this.2⟩
  refine ⟨hc.ok, by have := hc.len; omega, fun x hx => ?_, fun x hx h3 => ?_, fun x hx h9 => ?_, fun x hx hg => ?_, fun x hx h17 => ?_⟩
  · obtain ⟨⟨k, ok⟩, q1, _⟩ := key x hx
    have ho := ok.op
    have := frag207 x.op.toNat (by omega)
    rw [show ((x.op.toNat : Nat) : Int) = x.op by omega] at this
    have := this q1
    omega
  · obtain ⟨⟨k, ok⟩, _, _, q3, _⟩ := key x hx
    have hf := ok.fact h3
    rw [factN, show (x.op == 3) = true by simpa using h3] at q3
    have := (Nat.pow_lt_pow_iff_right (by decide : 1 < 2)).1 (show 2 ^ x.i.toNat < 2 ^ m.val.length from q3)
    omega
  · obtain ⟨⟨k, ok⟩, _, q2, _⟩ := key x hx
    have hia : isAgent x.op = true := by rcases h9 with e | e <;> rw [e] <;> rfl
    have ha := ok.agent hia
    rw [agN, hia] at q2
    have := (Nat.pow_lt_pow_iff_right (by decide : 1 < 2)).1 (show 2 ^ x.i.toNat < 2 ^ m.rel.length from q2)
    omega
  · obtain ⟨⟨k, ok⟩, _, q2, _⟩ := key x hx
    have hia : isAgent x.op = false := by rcases hg with e | e | e <;> rw [e] <;> rfl
    have hig : isGroup x.op = true := by rcases hg with e | e | e <;> rw [e] <;> rfl
    have hgr := ok.group hig
    rw [agN, hia] at q2
    have q2 : x.g.toNat < 2 ^ m.rel.length := q2
    rw [shl_n hA]
    omega
  · obtain ⟨⟨k, ok⟩, _, _, _, q4⟩ := key x hx
    have ha := ok.act h17
    unfold badA at q4
    rw [show (x.op == 17) = true by simpa using h17, cond_true] at q4
    cases hb : decide (x.i ≥ (acts.length : Int)) with
    | true => rw [hb] at q4; cases q4
    | false =>
      rw [hb, cond_false] at q4
      have g1 := of_decide_eq_false hb
      have g2 := of_decide_eq_false q4
      exact ⟨ha.1, by omega, ha.2.2.1, by omega⟩
/-- The evaluation of a node, its objects at other keys. -/
theorem at_R3 {acts : List Act} {c : List Nd} {A F j k e z : Nat} (h : ConE 28 (.pv (.int .i64 (j : Nat))) acts c A F j) {m : Mo} {n : Nat} {err : Int} (hM : ModD acts m n A F) (hE : err = 0 ∨ err = 8)
    {M : Nat → Prop} {w0 : World} {L : DH} {K : DV → DH → Prop} (hne : nodR [z, e, k] = true) (hlt : ([z, e, k].all fun q => Nat.blt q L.next) = true) (h0 : L.lo = 0)
    (hag : agrR (objsOf (H0 m acts c [] err)) L.get [z, e, k] 3) (hks : DV.keyss (memR [z, e, k]) [.ref e 0, .pv (.int .i64 (j : Nat))] = true) (hre : DV.rens (sigR [z, e, k]) [.ref e 0, .pv (.int .i64 (j : Nat))] = [.ref 1 0, .pv (.int .i64 (j : Nat))])
    (hK : ∀ s es' err', PostE acts c m n j err s es' err' → K (.pv (u64 s)) (L.mergeR (rhoR [z, e, k]) (sigR [z, e, k]) (memR [z, e, k]) ⟨3, 0, 3, objsOf (H0 m acts c es' err')⟩)) : DC Tryz.prog M w0 28 [.ref e 0, .pv (.int .i64 (j : Nat))] L K := by
  refine DC.callR [z, e, k] (H0 m acts c [] err) hne hlt h0 hag rfl hks (by rw [hre]; rfl) fun M' => ?_
  rw [hre]
  exact h m n [] err hM (fun k s h => by cases h) hE M' w0 3 _ fun s es' err' hp => ⟨rfl, hK s es' err' hp⟩
theorem at_R3v {acts : List Act} {c : List Nd} {A F j : Nat} (k e z : Nat) {v : Int} (h : ConE 28 (.pv (.int .i64 (j : Nat))) acts c A F j) (hv : v = (j : Int)) {m : Mo} {n : Nat} {err : Int} (hM : ModD acts m n A F) (hE : err = 0 ∨ err = 8)
    {M : Nat → Prop} {w0 : World} {L : DH} {K : DV → DH → Prop} (hne : nodR [z, e, k] = true) (hlt : ([z, e, k].all fun q => Nat.blt q L.next) = true) (h0 : L.lo = 0)
    (hag : agrR (objsOf (H0 m acts c [] err)) L.get [z, e, k] 3) (hks : DV.keyss (memR [z, e, k]) [.ref e 0, .pv (.int .i64 (j : Nat))] = true) (hre : DV.rens (sigR [z, e, k]) [.ref e 0, .pv (.int .i64 (j : Nat))] = [.ref 1 0, .pv (.int .i64 (j : Nat))])
    (hK : ∀ s es' err', PostE acts c m n j err s es' err' → K (.pv (u64 s)) (L.mergeR (rhoR [z, e, k]) (sigR [z, e, k]) (memR [z, e, k]) ⟨3, 0, 3, objsOf (H0 m acts c es' err')⟩)) : DC Tryz.prog M w0 28 [.ref e 0, .pv (.int .i64 v)] L K := by
  subst hv
  exact at_R3 h hM hE hne hlt h0 hag hks hre hK
def evZ (z k : Nat) (m : Mo) (acts : List Act) (c : List Nd) : List DV := [.pv (.int .i64 m.n), .pv (.sl (m.val.map u64)), .pv (.sl (m.rel.map rowPV)), .pv (u64 (2 ^ m.n.toNat - 1)), .pv (actsPV acts), .pv (fpv c), .mp k, .ref z 0]
def dynPV (x : Nat × Int) : PV := .tup [u64 x.1, .int .i64 x.2]
def holPlan : Plan := .one 0 (.one 1 (.one 2 (.one 3 (.one 5 (.one 4 (.one 6 (.one 7 .done)))))))
theorem dy_Holds (m : Mo) (acts : List Act) (f : List Nd) (hf : FitM m) (hS : ∀ a, a ∈ acts → SmA a) : PureFn Tryz.prog 8 [m.pv, actsPV acts, fpv f] (dynPV (dynI m acts f)) := by
  have hQ := dy_request m acts f hf hS
  have hK := fm_Compact f
  refine PureFn.introC [5, 6] mixed (fn := Tryz.f8) rfl rfl rfl fun M w0 => ?_
  (try conv=>whnf);repeat' (first|(apply And.intro<;>try conv=>whnf)|(intro h;try conv=>whnf)|(refine PureFn.dcq (f := 25) rfl ?_;try conv=>whnf)|(refine ⟨_, _, hQ, ?_, ?_⟩;(focus first|(refine ⟨?_, ?_, ?_, trivial⟩<;>first|exact PLe.refl _|exact PLe.nil)|exact trivial);try conv=>whnf)|fail)
  · have h0 : (reqD m acts f != 0) = true := h
    rw [show dynI m acts f = (0, reqD m acts f) by rw [dynI, h0]; rfl]
    exact .refl _
  have h0 : (reqD m acts f != 0) = false := h
  have h00 : reqD m acts f = 0 := by simpa using h0
  have hdy : dynI m acts f = match dvT acts (root f) m with
      | none => (0, 8)
      | some s => (s, 0) := by
    rw [dynI, h0, cond_false]
    cases dvT acts (root f) m <;> rfl
  have hC := cxd_of h00
  obtain ⟨h1, h2, _⟩ := reqD_iff.1 h00
  obtain ⟨n, hD, h8⟩ := chkD_ok h1
  have hcc := comp_can h2
  have hpos := hcc.pos
  have hlen := hcc.len
  have hn1 := hD.okm.n1
  have hn64 := hD.okm.n64
  have hnn : m.n.toNat = n := by rw [hD.okm.nn, Int.toNat_natCast]
  have hroot : tree (comp f) ((comp f).length - 1) = root f := by rw [← root_comp h2]; rfl
  have hat := at_all hC hS (comp f).length ((comp f).length - 1) (by omega) (by omega)
  have hMD : ModD acts m n m.rel.length m.val.length := ⟨hD, rfl, rfl⟩
  refine ⟨Unit, fun _ => [(1, .pv (actsPV acts)), (2, .pv (fpv f)), (3, .ref 0 0), (9, .ref 1 0)], fun _ => 2, fun _ => [(0, .var (cellsM m)), (1, .var [.pv (.int .i64 0)])], ?_, ?_⟩
  · try conv=>whnf
    exact ⟨(), (by refine Wk.of ?_ ?_ rfl rfl rfl<;>repeat' (first|exact trivial|exact WkD.same _|exact WkO.same _ _ rfl|refine ⟨?_, ?_⟩|fail))⟩
  rintro ⟨⟩
  refine ⟨Unit, fun _ => [(9, .ref 1 0), (10, .ref 5 0)], fun _ => 6, fun _ => [(1, .var [.pv (.int .i64 0)]), (4, .mp []), (5, .var (evZ 1 4 m acts (comp f)))], ?_, ?_⟩
  · try conv=>whnf
    refine ⟨holPlan, [6], by kernel_rfl, ?_⟩
    (try conv=>whnf);repeat' (first|(refine ⟨_, (by (conv=>whnf);exact hK), rfl, ?_⟩;try conv=>whnf)|fail)
    refine DC.weaken (DC.intro mixed (fn := Tryz.f27) rfl rfl rfl ?_)
    try conv=>whnf
    refine ⟨inPlan, [], by kernel_rfl, ?_⟩
    (try conv=>whnf);repeat' (first|(apply And.intro<;>try conv=>whnf)|fail)
    · show (0 : Int) ≤ IntKind.wrap .i64 (64 - m.n)
      rw [in_wrap hD.okm.nn hn1 hn64]; omega
    refine ⟨.ref 5 0, 6, [(1, .var [.pv (.int .i64 0)]), (4, .mp []), (5, .var (evZ 1 4 m acts (comp f)))], ?_, ?_⟩
    · refine Wk.of ⟨WkD.same _, trivial⟩ ⟨WkO.same _ _ rfl, trivial, WkO.same _ _ rfl, trivial, WkO.vars rfl ⟨WkD.same _, WkD.same _, WkD.same _, WkD.int ?_, WkD.same _, WkD.same _, WkD.same _, WkD.same _, trivial⟩, trivial, trivial⟩ rfl rfl rfl
      show shrU 18446744073709551615 (IntKind.wrap .i64 (64 - m.n)) = _
      rw [in_wrap hD.okm.nn hn1 hn64, hnn]; exact shr_all hn1 hn64
    try conv=>whnf
    exact ⟨(), (by refine Wk.of ?_ ?_ rfl rfl rfl<;>repeat' (first|exact trivial|exact WkD.same _|exact WkO.same _ _ rfl|refine ⟨?_, ?_⟩|fail))⟩
  rintro ⟨⟩
  try conv=>whnf
  have hw : IntKind.wrap .i64 ((((comp f).map Nd.pv).length : Int) - 1) = (((comp f).length - 1 : Nat) : Int) := by
    rw [List.length_map, Go.Dv.wrap_small (by omega) (by omega)]; omega
  refine at_R3v 4 5 1 hat hw hMD (.inl rfl) rfl rfl rfl ⟨⟨rfl, rfl⟩, ⟨rfl, rfl⟩, ⟨rfl, rfl⟩, trivial⟩ rfl rfl fun s es1 err1 p => ?_
  (try conv=>whnf);repeat' (first|(apply And.intro<;>try conv=>whnf)|(intro h;try conv=>whnf)|(refine lin_plan (by kernel_rfl) ?_;try conv=>whnf)|fail)
  · have he : err1 ≠ 0 := by simpa using h
    have hn : dvT acts (root f) m = none := by
      rcases p.no he with h | h
      · exact absurd rfl h
      · rw [hroot] at h; exact h
    have h8 : err1 = 8 := by rcases p.er with h | h; exact absurd h he; exact h
    rw [hdy, hn, h8]; exact .refl _
  · have he : err1 = 0 := by simpa using h
    obtain ⟨_, hs⟩ := p.ok he
    rw [hroot] at hs
    rw [hdy, hs]; exact .refl _
end Go.Proofs.YtjdmfhggokfflaaGreatDoor
set_option maxRecDepth 100000
set_option maxHeartbeats 8000000
namespace Go.Proofs.YtjdmfhggokfflaaGreatDoor
open Go Go.Dv

theorem ms1 (x y : List Nat) (hx : x.length ≤ 1000) : PureFn Tryz.prog 43 [rowPV x, rowPV y] (.bool (eqL (fun (x y : Nat) => !((x : Int) != (y : Int))) x y)) := by
  have hE := sl_EqU x y hx
  refine PureFn.intro mixed (fn := Tryz.f43) rfl rfl rfl fun M w0 => ?_
  (try conv=>whnf);repeat' (first|(refine PureFn.dcq (f := 41) rfl ?_;try conv=>whnf)|(refine ⟨_, _, hE, ?_, ?_⟩;(focus first|(refine ⟨?_, ?_, trivial⟩<;>first|exact PLe.refl _|exact PLe.nil)|exact trivial);try conv=>whnf)|fail)
  exact .refl _
theorem md_Same (m : Mo) (h1 : m.val.length ≤ 1000) (h2 : m.rel.length ≤ 1000) (h3 : ∀ r, r ∈ m.rel → r.length ≤ 1000) : PureFn Tryz.prog 16 [m.pv, m.pv] (.bool true) := by
  have hE := sl_EqU m.val m.val h1
  have hv : eqL (fun (x y : Nat) => !((x : Int) != (y : Int))) m.val m.val = true := eqL_self fun y _ => by simp
  have hr : eqL (eqL (fun (x y : Nat) => !((x : Int) != (y : Int)))) m.rel m.rel = true := eqL_self fun r _ => eqL_self fun y _ => by simp
  rw [hv] at hE
  have hQ : ∀ M w0, DC Tryz.prog M w0 42 [.pv (.sl (m.rel.map rowPV)), .pv (.sl (m.rel.map rowPV)), .clo 43 [] []] noHeap fun d L' => frz d L' fun q _ => PLe q (.bool true) := fun M w0 => by
    have := eqf_R 43 _ rfl m.rel m.rel h2 (fun x hx y _ => ms1 x y (h3 x hx)) M w0
    rw [hr] at this
    exact this
  refine PureFn.intro mixed (fn := Tryz.f16) rfl rfl rfl fun M w0 => ?_
  (try conv=>whnf);repeat' (first|(apply And.intro<;>try conv=>whnf)|(intro h;try conv=>whnf)|apply True.intro|(apply WhenQ.mk;(try conv=>whnf);rotate_left;(try conv=>whnf);rotate_right)|with_reducible assumption|(refine PureFn.dcq (f := 41) rfl ?_;try conv=>whnf)|(refine ⟨_, _, hE, ?_, ?_⟩;(focus first|(refine ⟨?_, ?_, trivial⟩<;>first|exact PLe.refl _|exact PLe.nil)|exact trivial);try conv=>whnf)|fail)
  · refine DC.alone (p := .bool true) rfl hQ ?_
    (try conv=>whnf);repeat' (first|(apply And.intro<;>try conv=>whnf)|fail)
  · (try conv=>whnf);repeat' (first|(apply And.intro<;>try conv=>whnf)|(intro h;try conv=>whnf)|with_reducible assumption|fail)
    exact le_bool (by simp)
def longT (l : List (List Nd)) : Bool := l.any fun f => decide ((f.length : Int) > 24)
def fewT (m : Mo) (l : List (List Nd)) : Bool := bif longT l then false else fewM m 8
theorem rt_few (m : Mo) (l : List (List Nd)) (hl : l.length ≤ 1000) : PureFn Tryz.prog 5 [m.pv, .sl (l.map fpv)] (.bool (fewT m l)) := by
  have hF := rm_Few m 8
  refine PureFn.intro mixed (fn := Tryz.f5) rfl rfl rfl fun M w0 => ?_
  try conv=>whnf
  refine ⟨{ i : Nat // i ≤ l.length ∧ longT (l.take i) = false }, fun i => [(2, .ref 0 0), (7, .pv (.sl (l.map fpv))), (8, .pv (i64 (l.map fpv).length)), (9, .pv (i64 i.1))], fun _ => 1, fun _ => [(0, .var (cellsM m))], fun i => l.length - i.1, ⟨⟨0, Nat.zero_le _, rfl⟩, (by refine Wk.of ?_ ?_ rfl rfl rfl<;>repeat' (first|exact trivial|exact WkD.same _|exact WkO.same _ _ rfl|refine ⟨?_, ?_⟩|fail))⟩, ?_⟩
  rintro ⟨i, hi, ha⟩
  (try conv=>whnf);repeat' (first|(apply And.intro<;>try conv=>whnf)|(intro h;try conv=>whnf)|(apply infoT;rfl)|fail)
  · have hi' : i < l.length := by simpa using lt_dec h
    have hm : l[i]? = some l[i] := List.getElem?_eq_getElem hi'
    have ef : ((l[i].map Nd.pv).length : Int) = (l[i].length : Int) := by simp
    (try conv=>whnf);repeat' (first|(apply And.intro<;>try conv=>whnf)|(intro h;try conv=>whnf)|(refine ⟨_, _, rfl, idx_map (by with_reducible assumption), rfl, ?_⟩;try conv=>whnf)|fail)
    · rw [ef] at h
      have : longT l = true := any_at hi' h
      rw [fewT, this]; exact .refl _
    · rw [ef] at h
      exact ⟨⟨i + 1, hi', any_take hi' ha h⟩, by show l.length - (i + 1) < l.length - i; omega, (by refine Wk.of ?_ ?_ rfl rfl rfl<;>repeat' (first|exact trivial|exact WkD.same _|exact WkO.same _ _ rfl|refine WkD.int ?_|refine ⟨?_, ?_⟩|(refine wrapA ?_ ?_ ?_;(focus simp;done);(focus (try dsimp only);omega);(focus (try dsimp only);omega))|fail))⟩
  · have hi' : i = l.length := by have := ge_dec (m := (l.map fpv).length) h (by simpa using hi); simpa using this
    subst hi'
    rw [List.take_length] at ha
    rw [fewT, ha]
    (try conv=>whnf);repeat' (first|(refine PureFn.dcq (f := 21) rfl ?_;try conv=>whnf)|(refine ⟨_, _, hF, ?_, ?_⟩;(focus first|(refine ⟨?_, ?_, trivial⟩<;>first|exact PLe.refl _|exact PLe.nil)|exact trivial);try conv=>whnf)|fail)
    exact .refl _
theorem fewT_len {m : Mo} {l : List (List Nd)} (h : fewT m l = true) : ∀ f, f ∈ l → f.length ≤ 24 := by
  unfold fewT at h
  cases h1 : longT l with
  | true => rw [h1] at h; cases h
  | false =>
    intro f hf
    have := List.any_eq_false.1 h1 f hf
    have := of_decide_eq_false (show decide ((f.length : Int) > 24) = false by simpa using this)
    omega
theorem rt_bSees : PureFn Tryz.prog 4 [] (.bool true) := by
  obtain ⟨P, qP⟩ : ∃ z : List Nd, z = buildL (nI 3 0) [] := ⟨_, rfl⟩
  have hP := fm_Fact 0
  rw [← qP] at hP
  obtain ⟨K, qK⟩ : ∃ z : List Nd, z = buildL (nI 9 0) [P] := ⟨_, rfl⟩
  have hK := fm_Know 0 P
  rw [← qK] at hK
  obtain ⟨A, qA⟩ : ∃ z : List Nd, z = buildL (n0 16) [P, K] := ⟨_, rfl⟩
  have hA := fm_Announce P K
  rw [← qA] at hA
  obtain ⟨I, qI⟩ : ∃ z : List Nd, z = buildL (n0 7) [P, P] := ⟨_, rfl⟩
  have hI := fm_Imp P P
  rw [← qI] at hI
  obtain ⟨K2, qK2⟩ : ∃ z : List Nd, z = buildL (nI 9 0) [I] := ⟨_, rfl⟩
  have hK2 := fm_Know 0 I
  rw [← qK2] at hK2
  obtain ⟨J, qJ⟩ : ∃ z : List Nd, z = buildL (n0 7) [P, K2] := ⟨_, rfl⟩
  have hJ := fm_Imp P K2
  rw [← qJ] at hJ
  obtain ⟨R, qR⟩ : ∃ z : List Nd, z = (rnnI P K).1 := ⟨_, rfl⟩
  have hR := red_Announced P K
  rw [pair_of qR (e := 0) (by rw [qK, qP]; kernel_rfl)] at hR
  have hS := (fm_Same R J).to (q := .bool true) (by rw [qR, qJ, qK2, qI, qK, qP]; kernel_rfl)
  obtain ⟨m, qm⟩ : ∃ m : Mo, m = ⟨2, [1], [[3, 3]]⟩ := ⟨_, rfl⟩
  have hf : FitM m := by
    rw [qm]
    refine ⟨fun s hs => ?_, fun r hr s hs => ?_⟩
    · rw [List.mem_singleton.1 hs]; decide
    · rw [List.mem_singleton.1 hr] at hs
      have : s = 3 := by simpa using hs
      rw [this]; decide
  have d1 := dy_Holds m [] A hf (fun a ha => by cases ha)
  have v1 : dynI m [] A = (3, 0) := by rw [qm, qA, qK, qP]; kernel_rfl
  rw [v1] at d1
  have d1 : PureFn Tryz.prog 8 [m.pv, .nil, fpv A] (dynPV (3, 0)) := d1.le ⟨.refl _, .nil, .refl _, trivial⟩
  have c1 := ck_Holds m K hf
  have v2 : holdsI m K = (0, 0) := by rw [qm, qK, qP]; kernel_rfl
  rw [v2] at c1
  subst qm
  refine PureFn.introC [2, 3, 4, 5, 6] mixed (fn := Tryz.f4) rfl rfl rfl fun M w0 => ?_
  try conv=>whnf
  refine ⟨Unit, fun _ => [(1, .ref 0 0)], fun _ => 1, fun _ => [(0, .var (cellsM ⟨2, [1], [[3, 3]]⟩))], ?_, ?_⟩
  · (try conv=>whnf);repeat' (first|(apply And.intro<;>try conv=>whnf)|(apply cellsI;rfl)|fail)
    exact ⟨(), (by refine Wk.of ?_ ?_ rfl rfl rfl<;>repeat' (first|exact trivial|exact WkD.same _|exact WkO.same _ _ rfl|refine ⟨?_, ?_⟩|fail))⟩
  rintro ⟨⟩
  refine ⟨Unit, fun _ => [(1, .ref 0 0), (2, .pv (fpv P))], fun _ => 1, fun _ => [(0, .var (cellsM ⟨2, [1], [[3, 3]]⟩))], ?_, ?_⟩
  · (try conv=>whnf);repeat' (first|(refine PureFn.dcq (f := 17) rfl ?_;try conv=>whnf)|(refine ⟨_, _, hP, ?_, ?_⟩;(focus first|(refine ⟨?_, trivial⟩<;>first|exact PLe.refl _|exact PLe.nil)|exact trivial);try conv=>whnf)|fail)
    exact ⟨(), (by refine Wk.of ?_ ?_ rfl rfl rfl<;>repeat' (first|exact trivial|exact WkD.same _|exact WkO.same _ _ rfl|refine ⟨?_, ?_⟩|fail))⟩
  rintro ⟨⟩
  refine ⟨Unit, fun _ => [(1, .ref 0 0), (2, .pv (fpv P)), (3, .pv (u64 3)), (4, .pv (.int .i64 0))], fun _ => 1, fun _ => [(0, .var (cellsM ⟨2, [1], [[3, 3]]⟩))], ?_, ?_⟩
  · (try conv=>whnf);repeat' (first|(refine lin_plan (by kernel_rfl) ?_;try conv=>whnf)|(refine ⟨_, (by (conv=>whnf);exact hK), rfl, ?_⟩;try conv=>whnf)|(refine ⟨_, (by (conv=>whnf);exact hA), rfl, ?_⟩;try conv=>whnf)|(refine ⟨_, (by (conv=>whnf);exact d1), rfl, ?_⟩;try conv=>whnf)|fail)
    exact ⟨(), (by refine Wk.of ?_ ?_ rfl rfl rfl<;>repeat' (first|exact trivial|exact WkD.same _|exact WkO.same _ _ rfl|refine ⟨?_, ?_⟩|fail))⟩
  rintro ⟨⟩
  refine ⟨Unit, fun _ => [(2, .pv (fpv P)), (3, .pv (u64 3)), (4, .pv (.int .i64 0)), (5, .pv (u64 0)), (6, .pv (.int .i64 0))], fun _ => 1, fun _ => [], ?_, ?_⟩
  · (try conv=>whnf);repeat' (first|(refine lin_plan (by kernel_rfl) ?_;try conv=>whnf)|(refine ⟨_, (by (conv=>whnf);exact hK), rfl, ?_⟩;try conv=>whnf)|(refine ⟨_, (by (conv=>whnf);exact c1), rfl, ?_⟩;try conv=>whnf)|fail)
    exact ⟨(), (by refine Wk.of ?_ ?_ rfl rfl rfl<;>repeat' (first|exact trivial|exact WkD.same _|refine ⟨?_, ?_⟩|fail))⟩
  rintro ⟨⟩
  refine ⟨Unit, fun _ => [(2, .pv (fpv P)), (3, .pv (u64 3)), (4, .pv (.int .i64 0)), (5, .pv (u64 0)), (6, .pv (.int .i64 0)), (7, .pv (fpv R)), (8, .pv (.int .i64 0))], fun _ => 1, fun _ => [], ?_, ?_⟩
  · (try conv=>whnf);repeat' (first|(refine PureFn.dcq (f := 18) rfl ?_;try conv=>whnf)|(refine PureFn.dcq (f := 10) rfl ?_;try conv=>whnf)|(refine ⟨_, _, hK, ?_, ?_⟩;(focus first|(refine ⟨?_, ?_, trivial⟩<;>first|exact PLe.refl _|exact PLe.nil)|exact trivial);try conv=>whnf)|(refine ⟨_, _, hR, ?_, ?_⟩;(focus first|(refine ⟨?_, ?_, trivial⟩<;>first|exact PLe.refl _|exact PLe.nil)|exact trivial);try conv=>whnf)|fail)
    exact ⟨(), (by refine Wk.of ?_ ?_ rfl rfl rfl<;>repeat' (first|exact trivial|exact WkD.same _|refine ⟨?_, ?_⟩|fail))⟩
  rintro ⟨⟩
  (try conv=>whnf);repeat' (first|(apply And.intro<;>try conv=>whnf)|(intro h;try conv=>whnf)|apply True.intro|(apply WhenQ.mk;(try conv=>whnf);rotate_left;(try conv=>whnf);rotate_right)|with_reducible assumption|(refine PureFn.dcq (f := 20) rfl ?_;try conv=>whnf)|(refine PureFn.dcq (f := 18) rfl ?_;try conv=>whnf)|(refine PureFn.dcq (f := 19) rfl ?_;try conv=>whnf)|(refine ⟨_, _, hI, ?_, ?_⟩;(focus first|(refine ⟨?_, ?_, trivial⟩<;>first|exact PLe.refl _|exact PLe.nil)|exact trivial);try conv=>whnf)|(refine ⟨_, _, hK2, ?_, ?_⟩;(focus first|(refine ⟨?_, ?_, trivial⟩<;>first|exact PLe.refl _|exact PLe.nil)|exact trivial);try conv=>whnf)|(refine ⟨_, _, hJ, ?_, ?_⟩;(focus first|(refine ⟨?_, ?_, trivial⟩<;>first|exact PLe.refl _|exact PLe.nil)|exact trivial);try conv=>whnf)|(refine ⟨_, _, hS, ?_, ?_⟩;(focus first|(refine ⟨?_, ?_, trivial⟩<;>first|exact PLe.refl _|exact PLe.nil)|exact trivial);try conv=>whnf)|fail)
  exact le_bool (by simp)
/-- What the four ways find. -/
structure FourW (m : Mo) (f g : List Nd) (n s x : Nat) : Prop where
  okm : OkM m n
  hol : holdsI m f = (s, 0)
  stat : statI m.rel.length m.val.length f = 0
  lt : s < 2 ^ n
  xlt : x < 2 ^ n
  x0 : s = 0 → x = 2 ^ n - 1
  x1 : s ≠ 0 → annI m f = (arrI m (memL s), memL s, 0) ∧ pubI m.rel.length f = (pubA m.rel.length f, 0) ∧ updI m (pubA m.rel.length f) = (arrI m (memL s), (memL s).map (fun w => (w, 0)), 0) ∧ OkM (arrI m (memL s)) (memL s).length ∧
    ∃ t, holdsI (arrI m (memL s)) g = (t, 0) ∧ t < 2 ^ (memL s).length ∧ x = sprG t (memL s) 0 (notN n s)
theorem four_base {m : Mo} {f g : List Nd} (lf : f.length ≤ 24) (lg : g.length ≤ 24) (h15 : nand64' (frags f : Nat) 15 = 0) (g15 : nand64' (frags g : Nat) 15 = 0) (h1 : (dynI m [] (buildL (n0 16) [f, g])).2 = 0) :
    ∃ n s x, FourW m f g n s x ∧ dynI m [] (buildL (n0 16) [f, g]) = (x, 0) := by
  obtain ⟨n, s, x, B, e⟩ := dann_base (m := m) (acts := []) (f := f) (h := g) (by omega) (by omega) h15 h1
  have hM := B.okd.okm
  have hag := hM.ag
  have hfa := hM.fa
  obtain ⟨r1, _⟩ := holds_split (m := m) (f := f) (by rw [B.hol])
  have hs := (reqI_ok r1).2
  refine ⟨n, s, x, ⟨hM, B.hol, hs, B.lt, B.xlt, B.x0, fun h0 => ?_⟩, e⟩
  obtain ⟨k1, k2, t, k3, k4, k5⟩ := B.x1 h0
  have hpub : pubI m.rel.length f = (pubA m.rel.length f, 0) := by
    have h1 : badAg (m.rel.length : Int) = false := by
      unfold badAg
      rw [decide_eq_false (by omega), decide_eq_false (by omega)]; rfl
    rw [pubI, h1, stat_mono hfa hs]; rfl
  have hu := pub_upd hM hs (by rw [B.hol]; exact h0)
  rw [B.hol] at hu
  refine ⟨k1, hpub, hu, k2.okm, t, ?_, k4, k5⟩
  rw [← k3]
  exact (static_eq (ok_chkD k2 (by simp)) g15).symm
theorem pubA_smT {A : Nat} {f : List Nd} (hA : A ≤ 4) : SmA (pubA A f) := by
  refine ⟨fun r hr s hs => ?_, by simp [pubA, onesL]; omega, by simp [pubA]⟩
  rw [List.eq_of_mem_replicate (show r ∈ onesL A from hr)] at hs
  rw [List.mem_singleton.1 hs]; decide
end Go.Proofs.YtjdmfhggokfflaaGreatDoor
set_option maxRecDepth 100000
set_option maxHeartbeats 8000000
namespace Go.Proofs.YtjdmfhggokfflaaGreatDoor
open Go Go.Dv

theorem four_pure (m : Mo) (f g : List Nd) (hf : FitM m) : PureFn Tryz.prog 3 [m.pv, fpv f, fpv g] (.bool true) := by
  have hW := rt_few m [f, g] (by simp)
  have hAw := rt_bSees
  cases hfw : fewT m [f, g] with
  | false =>
    rw [hfw] at hW
    refine PureFn.introC [3] mixed (fn := Tryz.f3) rfl rfl rfl fun M w0 => ?_
    try conv=>whnf
    refine ⟨{ _x : Unit // False }, fun _ => [], fun _ => 0, fun _ => [], ?_, fun ⟨_, h⟩ => h.elim⟩
    have f1 : (!(bif !true then true else !false)) = false := rfl
    have f2 : (!(bif (bif !true then true else !false) then true else false)) = false := rfl
    have f3 : (!(bif (bif (bif !true then true else !false) then true else false) then true else false)) = false := rfl
    have f4 : (bif (bif (bif (bif !true then true else !false) then true else false) then true else false) then true else false) = true := rfl
    (try conv=>whnf);repeat' (first|(apply And.intro<;>try conv=>whnf)|(intro h;first|with_reducible exact tf (by assumption) h|try conv=>whnf)|apply True.intro|(apply cellsI;rfl)|(apply whenOff;(focus with_reducible assumption);try conv=>whnf)|(apply WhenQ.mk;(try conv=>whnf);rotate_left;(try conv=>whnf);rotate_right)|with_reducible assumption|(apply not_of;with_reducible assumption)|(refine PureFn.dcq (f := 5) rfl ?_;try conv=>whnf)|(refine PureFn.dcq (f := 4) rfl ?_;try conv=>whnf)|(refine ⟨_, _, hW, ?_, ?_⟩;(focus first|(refine ⟨?_, ?_, trivial⟩<;>first|exact PLe.refl _|exact PLe.nil)|exact trivial);try conv=>whnf)|(refine ⟨_, _, hAw, ?_, ?_⟩;(focus first|(refine ⟨trivial⟩<;>first|exact PLe.refl _|exact PLe.nil)|exact trivial);try conv=>whnf)|fail)
    exact .refl _
  | true =>
    rw [hfw] at hW
    have hlf := fewT_len hfw f (by simp)
    have hlg := fewT_len hfw g (by simp)
    have hG1 := fm_Frags f
    have hG2 := fm_Frags g
    have hC := rm_Check m hf
    have a1 := fm_Announce f g
    have d1 := dy_Holds m [] (buildL (n0 16) [f, g]) hf (fun a ha => by cases ha)
    have hba := fun a b c => four_base (m := m) (f := f) (g := g) hlf hlg a b c
    have r1 := red_Announced f g
    have hse := ann_dyn (m := m) (f := f) (g := g) (by omega) (by omega)
    have c1 := ck_Holds m f hf
    have hU := an_Update m f hf
    have e1 : ((m.rel.map rowPV).length : Int) = (m.rel.length : Int) := by simp
    generalize dynI m [] (buildL (n0 16) [f, g]) = X at hba d1 hse
    generalize rnnI f g = Y at r1 hse
    obtain ⟨xa, xe⟩ := X
    obtain ⟨ya, ye⟩ := Y
    simp only at hse
    have d1 : PureFn Tryz.prog 8 [m.pv, .nil, fpv (buildL (n0 16) [f, g])] (dynPV (xa, xe)) := d1.le ⟨.refl _, .nil, .refl _, trivial⟩
    have c2 := ck_Holds m ya hf
    refine PureFn.introC [3, 4, 6, 7, 11, 12, 18, 19, 20, 23] mixed (fn := Tryz.f3) rfl rfl rfl fun M w0 => ?_
    try conv=>whnf
    refine ⟨{ _x : Unit // nand64' (frags f : Nat) 15 = 0 ∧ nand64' (frags g : Nat) 15 = 0 }, fun _ => [(1, .pv (fpv f)), (2, .pv (fpv g)), (3, .ref 0 0)], fun _ => 1, fun _ => [(0, .var (cellsM m))], ?_, ?_⟩
    · (try conv=>whnf);repeat' (first|(apply And.intro<;>try conv=>whnf)|(intro h;try conv=>whnf)|apply True.intro|(apply cellsI;rfl)|(apply WhenQ.mk;(try conv=>whnf);rotate_left;(try conv=>whnf);rotate_right)|with_reducible assumption|(apply not_of;with_reducible assumption)|(refine PureFn.dcq (f := 5) rfl ?_;try conv=>whnf)|(refine PureFn.dcq (f := 4) rfl ?_;try conv=>whnf)|(refine PureFn.dcq (f := 6) rfl ?_;try conv=>whnf)|(refine PureFn.dcq (f := 7) rfl ?_;try conv=>whnf)|(refine ⟨_, _, hW, ?_, ?_⟩;(focus first|(refine ⟨?_, ?_, trivial⟩<;>first|exact PLe.refl _|exact PLe.nil)|exact trivial);try conv=>whnf)|(refine ⟨_, _, hAw, ?_, ?_⟩;(focus first|(refine ⟨trivial⟩<;>first|exact PLe.refl _|exact PLe.nil)|exact trivial);try conv=>whnf)|(refine ⟨_, _, hC, ?_, ?_⟩;(focus first|(refine ⟨?_, trivial⟩<;>first|exact PLe.refl _|exact PLe.nil)|exact trivial);try conv=>whnf)|(refine ⟨_, _, hG1, ?_, ?_⟩;(focus first|(refine ⟨?_, trivial⟩<;>first|exact PLe.refl _|exact PLe.nil)|exact trivial);try conv=>whnf)|(refine ⟨_, _, hG2, ?_, ?_⟩;(focus first|(refine ⟨?_, trivial⟩<;>first|exact PLe.refl _|exact PLe.nil)|exact trivial);try conv=>whnf)|fail)
      · exact .refl _
      · refine ⟨⟨(), ?_⟩, (by refine Wk.of ?_ ?_ rfl rfl rfl<;>repeat' (first|exact trivial|exact WkD.same _|exact WkO.same _ _ rfl|refine ⟨?_, ?_⟩|fail))⟩
        obtain ⟨b1, b2⟩ := or_ff' (show (bif _ then true else _) = false from h)
        obtain ⟨b3, b4⟩ := or_ff' b1
        exact ⟨by simpa using (show (nand64' (frags f : Nat) 15 != 0) = false from b4), by simpa using (show (nand64' (frags g : Nat) 15 != 0) = false from b2)⟩
    rintro ⟨_, h15, g15⟩
    refine ⟨Unit, fun _ => [(1, .pv (fpv f)), (2, .pv (fpv g)), (3, .ref 0 0), (7, .pv (u64 xa)), (8, .pv (.int .i64 xe))], fun _ => 1, fun _ => [(0, .var (cellsM m))], ?_, ?_⟩
    · (try conv=>whnf);repeat' (first|(refine lin_plan (by kernel_rfl) ?_;try conv=>whnf)|(refine ⟨_, (by (conv=>whnf);exact a1), rfl, ?_⟩;try conv=>whnf)|(refine ⟨_, (by (conv=>whnf);exact d1), rfl, ?_⟩;try conv=>whnf)|fail)
      exact ⟨(), (by refine Wk.of ?_ ?_ rfl rfl rfl<;>repeat' (first|exact trivial|exact WkD.same _|exact WkO.same _ _ rfl|refine ⟨?_, ?_⟩|fail))⟩
    rintro ⟨⟩
    refine ⟨{ _x : Unit // xe = 0 }, fun _ => [(1, .pv (fpv f)), (2, .pv (fpv g)), (3, .ref 0 0), (7, .pv (u64 xa))], fun _ => 1, fun _ => [(0, .var (cellsM m))], ?_, ?_⟩
    · (try conv=>whnf);repeat' (first|(apply And.intro<;>try conv=>whnf)|(intro h;try conv=>whnf)|fail)
      · exact .refl _
      · exact ⟨⟨(), by simpa using h⟩, (by refine Wk.of ?_ ?_ rfl rfl rfl<;>repeat' (first|exact trivial|exact WkD.same _|exact WkO.same _ _ rfl|refine ⟨?_, ?_⟩|fail))⟩
    rintro ⟨_, h4⟩
    obtain ⟨n, s, x, B, q1⟩ := hba h15 g15 h4
    obtain ⟨rfl, _⟩ := Prod.mk.inj q1
    clear q1 hba
    refine ⟨Unit, fun _ => [(1, .pv (fpv f)), (2, .pv (fpv g)), (3, .ref 0 0), (7, .pv (u64 xa)), (9, .pv (fpv ya)), (10, .pv (.int .i64 ye))], fun _ => 1, fun _ => [(0, .var (cellsM m))], ?_, ?_⟩
    · (try conv=>whnf);repeat' (first|(refine PureFn.dcq (f := 10) rfl ?_;try conv=>whnf)|(refine ⟨_, _, r1, ?_, ?_⟩;(focus first|(refine ⟨?_, ?_, trivial⟩<;>first|exact PLe.refl _|exact PLe.nil)|exact trivial);try conv=>whnf)|fail)
      exact ⟨(), (by refine Wk.of ?_ ?_ rfl rfl rfl<;>repeat' (first|exact trivial|exact WkD.same _|exact WkO.same _ _ rfl|refine ⟨?_, ?_⟩|fail))⟩
    rintro ⟨⟩
    refine ⟨Unit, fun _ => [(1, .pv (fpv f)), (2, .pv (fpv g)), (3, .ref 0 0), (7, .pv (u64 xa))], fun _ => 1, fun _ => [(0, .var (cellsM m))], ?_, ?_⟩
    · by_cases y0 : ye = 0
      · rw [hse y0 h4] at c2
        (try conv=>whnf);repeat' (first|(apply And.intro<;>try conv=>whnf)|(intro h;try conv=>whnf)|apply True.intro|(apply WhenQ.mk;(try conv=>whnf);rotate_left;(try conv=>whnf);rotate_right)|with_reducible assumption|(apply not_of;with_reducible assumption)|(refine PureFn.dcq (f := 11) rfl ?_;try conv=>whnf)|(refine ⟨_, _, c2, ?_, ?_⟩;(focus first|(refine ⟨?_, ?_, trivial⟩<;>first|exact PLe.refl _|exact PLe.nil)|exact trivial);try conv=>whnf)|fail)
        · exfalso
          have h' : (bif ((0 : Int) != 0) then true else ((xa : Int) != (xa : Int))) = true := h
          simp at h'
        · exact ⟨(), (by refine Wk.of ?_ ?_ rfl rfl rfl<;>repeat' (first|exact trivial|exact WkD.same _|exact WkO.same _ _ rfl|refine ⟨?_, ?_⟩|fail))⟩
        · exact ⟨(), (by refine Wk.of ?_ ?_ rfl rfl rfl<;>repeat' (first|exact trivial|exact WkD.same _|exact WkO.same _ _ rfl|refine ⟨?_, ?_⟩|fail))⟩
      · have f1 : (ye == 0) = false := by simpa using y0
        (try conv=>whnf);repeat' (first|(apply And.intro<;>try conv=>whnf)|(intro h;first|with_reducible exact tf h (by assumption)|try conv=>whnf)|fail)
        exact ⟨(), (by refine Wk.of ?_ ?_ rfl rfl rfl<;>repeat' (first|exact trivial|exact WkD.same _|exact WkO.same _ _ rfl|refine ⟨?_, ?_⟩|fail))⟩
    rintro ⟨⟩
    have hM := B.okm
    have hn64 := hM.n64
    have h64 := pow64_le hn64
    rw [B.hol] at c1
    have hAll := rm_All n hn64
    rw [show i64 n = .int .i64 m.n by rw [hM.nn]; rfl] at hAll
    refine ⟨Unit, fun _ => [(1, .pv (fpv f)), (2, .pv (fpv g)), (3, .ref 0 0), (7, .pv (u64 xa)), (13, .pv (u64 s)), (14, .pv (.int .i64 0))], fun _ => 1, fun _ => [(0, .var (cellsM m))], ?_, ?_⟩
    · (try conv=>whnf);repeat' (first|(refine PureFn.dcq (f := 11) rfl ?_;try conv=>whnf)|(refine ⟨_, _, c1, ?_, ?_⟩;(focus first|(refine ⟨?_, ?_, trivial⟩<;>first|exact PLe.refl _|exact PLe.nil)|exact trivial);try conv=>whnf)|fail)
      exact ⟨(), (by refine Wk.of ?_ ?_ rfl rfl rfl<;>repeat' (first|exact trivial|exact WkD.same _|exact WkO.same _ _ rfl|refine ⟨?_, ?_⟩|fail))⟩
    rintro ⟨⟩
    have f0 : ((0 : Int) != 0) = false := rfl
    by_cases hs0 : s = 0
    · have f1 : ((s : Int) == 0) = true := by rw [hs0]; rfl
      have hx0 := B.x0 hs0
      (try conv=>whnf);repeat' (first|(apply And.intro<;>try conv=>whnf)|(intro h;first|with_reducible exact tf h (by assumption)|with_reducible exact tf (by assumption) h|try conv=>whnf)|(refine PureFn.dcq (f := 12) rfl ?_;try conv=>whnf)|(refine ⟨_, _, hAll, ?_, ?_⟩;(focus first|(refine ⟨?_, trivial⟩<;>first|exact PLe.refl _|exact PLe.nil)|exact trivial);try conv=>whnf)|fail)
      have h9 : ((xa : Int) == andNotU ((2 ^ n - 1 : Nat) : Int) (s : Int)) = true := by rw [andNotU_all hn64, hs0, all_not0, hx0]; simp
      refine le_bool ?_
      exact h9
    · have f1 : ((s : Int) == 0) = false := by simpa using hs0
      obtain ⟨hann, hpub, hupd, hM1, t, hdt, ht, hx⟩ := B.x1 hs0
      rw [hann] at hU
      have hPs := pubA_smT (A := m.rel.length) (f := f) hM.ag
      have hPb : PureFn Tryz.prog 14 [.int .i64 ((m.rel.map rowPV).length : Int), fpv f] (pairA (pubA m.rel.length f, 0)) := by
        have := ac_Public m.rel.length f
        rw [e1, ← hpub]; exact this
      have hUp := pr_Update m (pubA m.rel.length f) hf hPs.fit hPs.rel hPs.post
      rw [hupd] at hUp
      have c3 := ck_Holds (arrI m (memL s)) g hM1.fit
      rw [hdt] at c3
      have hws : ∀ w, w ∈ memL s → w < n := fun w hw => bit_lt B.lt (memL_mem.1 hw).2
      have hSm := md_Same (arrI m (memL s)) (by have := hM1.fa; omega) (by have := hM1.ag; omega) (fun r hr => by have := hM1.rows r hr; have := hM1.n64; omega)
      generalize pubA m.rel.length f = a at hPb hUp
      generalize arrI m (memL s) = m1 at hU c3 hUp hSm hM1
      generalize memL s = ws at hU c3 hUp hM1 ht hx hws
      have hl64 := hM1.n64
      have ht64 : t < 2 ^ 64 := Nat.lt_of_lt_of_le ht (pow64_le hl64)
      have hlk : ∀ i w, ws[i]? = some w → (ws.map fun w => (w, 0))[i]? = some (w, 0) := fun i w h => by rw [List.getElem?_map, h]; rfl
      have hll : (ws.map fun w => (w, 0)).length = ws.length := List.length_map _
      generalize (ws.map fun w => (w, 0)) = l at hUp hlk hll
      (try conv=>whnf);repeat' (first|(apply And.intro<;>try conv=>whnf)|(intro h;first|with_reducible exact tf h (by assumption)|try conv=>whnf)|(refine PureFn.dcq (f := 12) rfl ?_;try conv=>whnf)|(refine ⟨_, _, hAll, ?_, ?_⟩;(focus first|(refine ⟨?_, trivial⟩<;>first|exact PLe.refl _|exact PLe.nil)|exact trivial);try conv=>whnf)|fail)
      refine ⟨Unit, fun _ => [(1, .pv (fpv f)), (2, .pv (fpv g)), (3, .ref 0 0), (7, .pv (u64 xa)), (15, .pv (u64 (notN n s))), (16, .ref 1 0), (17, .pv (intsPV ws)), (18, .pv (.int .i64 0))], fun _ => 2, fun _ => [(0, .var (cellsM m)), (1, .var (cellsM m1))], ?_, ?_⟩
      · (try conv=>whnf);repeat' (first|(refine PureFn.dcq (f := 13) rfl ?_;try conv=>whnf)|(refine ⟨_, _, hU, ?_, ?_⟩;(focus first|(refine ⟨?_, ?_, trivial⟩<;>first|exact PLe.refl _|exact PLe.nil)|exact trivial);try conv=>whnf)|fail)
        refine ⟨(), ?_⟩
        (refine Wk.of ?_ ?_ rfl rfl rfl<;>repeat' (first|exact trivial|exact WkD.same _|exact WkO.same _ _ rfl|refine WkD.int ?_|refine ⟨?_, ?_⟩|fail))
        exact andNotU_all hn64
      rintro ⟨⟩
      refine ⟨Unit, fun _ => [(2, .pv (fpv g)), (3, .ref 0 0), (7, .pv (u64 xa)), (15, .pv (u64 (notN n s))), (16, .ref 1 0), (17, .pv (intsPV ws)), (18, .pv (.int .i64 0)), (19, .ref 2 0), (20, .pv (.int .i64 0))], fun _ => 3, fun _ => [(0, .var (cellsM m)), (1, .var (cellsM m1)), (2, .var (cellsA a))], ?_, ?_⟩
      · (try conv=>whnf);repeat' (first|(refine PureFn.dcq (f := 14) rfl ?_;try conv=>whnf)|(refine ⟨_, _, hPb, ?_, ?_⟩;(focus first|(refine ⟨?_, ?_, trivial⟩<;>first|exact PLe.refl _|exact PLe.nil)|exact trivial);try conv=>whnf)|fail)
        exact ⟨(), (by refine Wk.of ?_ ?_ rfl rfl rfl<;>repeat' (first|exact trivial|exact WkD.same _|exact WkO.same _ _ rfl|refine ⟨?_, ?_⟩|fail))⟩
      rintro ⟨⟩
      refine ⟨Unit, fun _ => [(2, .pv (fpv g)), (7, .pv (u64 xa)), (15, .pv (u64 (notN n s))), (16, .ref 1 0), (17, .pv (intsPV ws)), (18, .pv (.int .i64 0)), (20, .pv (.int .i64 0)), (21, .ref 3 0), (22, .pv (.sl (l.map pairPV))), (23, .pv (.int .i64 0))], fun _ => 4, fun _ => [(1, .var (cellsM m1)), (3, .var (cellsM m1))], ?_, ?_⟩
      · (try conv=>whnf);repeat' (first|(refine PureFn.dcq (f := 15) rfl ?_;try conv=>whnf)|(refine ⟨_, _, hUp, ?_, ?_⟩;(focus first|(refine ⟨?_, ?_, trivial⟩<;>first|exact PLe.refl _|exact PLe.nil)|exact trivial);try conv=>whnf)|fail)
        exact ⟨(), (by refine Wk.of ?_ ?_ rfl rfl rfl<;>repeat' (first|exact trivial|exact WkD.same _|exact WkO.same _ _ rfl|refine ⟨?_, ?_⟩|fail))⟩
      rintro ⟨⟩
      have h8 : (((l.map pairPV).length : Int) != ((ws.map i64).length : Int)) = false := by rw [List.length_map, List.length_map, hll]; simp
      (try conv=>whnf);repeat' (first|(apply And.intro<;>try conv=>whnf)|(intro h;try conv=>whnf)|apply True.intro|(apply WhenQ.mk;(try conv=>whnf);rotate_left;(try conv=>whnf);rotate_right)|with_reducible assumption|(apply not_of;with_reducible assumption)|(refine PureFn.dcq (f := 16) rfl ?_;try conv=>whnf)|(refine ⟨_, _, hSm, ?_, ?_⟩;(focus first|(refine ⟨?_, ?_, trivial⟩<;>first|exact PLe.refl _|exact PLe.nil)|exact trivial);try conv=>whnf)|fail)
      · exfalso
        have h' : (bif (bif (bif (bif ((0 : Int) != 0) then true else ((0 : Int) != 0)) then true else ((0 : Int) != 0)) then true else !true) then true else (((l.map pairPV).length : Int) != ((ws.map i64).length : Int))) = true := h
        rw [h8] at h'
        exact absurd h' (by decide)
      clear h
      refine ⟨Unit, fun _ => [(7, .pv (u64 xa)), (15, .pv (u64 (notN n s))), (17, .pv (intsPV ws)), (22, .pv (.sl (l.map pairPV))), (24, .pv (u64 t)), (25, .pv (.int .i64 0))], fun _ => 4, fun _ => [], ?_, ?_⟩
      · (try conv=>whnf);repeat' (first|(refine PureFn.dcq (f := 11) rfl ?_;try conv=>whnf)|(refine ⟨_, _, c3, ?_, ?_⟩;(focus first|(refine ⟨?_, ?_, trivial⟩<;>first|exact PLe.refl _|exact PLe.nil)|exact trivial);try conv=>whnf)|fail)
        exact ⟨(), (by refine Wk.of ?_ ?_ rfl rfl rfl<;>repeat' (first|exact trivial|exact WkD.same _|refine ⟨?_, ?_⟩|fail))⟩
      rintro ⟨⟩
      try conv=>whnf
      refine ⟨{ q : Nat × Nat // q.1 ≤ ws.length ∧ q.2 < 2 ^ n ∧ sprG t (ws.drop q.1) q.1 q.2 = sprG t ws 0 (notN n s) }, fun q => [(7, .pv (u64 xa)), (15, .pv (u64 q.1.2)), (17, .pv (intsPV ws)), (22, .pv (.sl (l.map pairPV))), (24, .pv (u64 t)), (25, .pv (.int .i64 0)), (156, .pv (i64 (ws.map i64).length)), (157, .pv (i64 q.1.1))], fun _ => 4, fun _ => [], fun q => ws.length - q.1.1, ⟨⟨(0, notN n s), Nat.zero_le _, notN_lt n s, rfl⟩, (by refine Wk.of ?_ ?_ rfl rfl rfl<;>repeat' (first|exact trivial|exact WkD.same _|refine ⟨?_, ?_⟩|fail))⟩, ?_⟩
      rintro ⟨⟨i, acc⟩, hi, ha, hd⟩
      simp only at hi ha hd
      have ha64 : acc < 2 ^ 64 := by omega
      (try conv=>whnf);repeat' (first|(apply And.intro<;>try conv=>whnf)|(intro h;try conv=>whnf)|apply True.intro|(apply WhenQ.mk;(try conv=>whnf);rotate_left;(try conv=>whnf);rotate_right)|with_reducible assumption|fail)
      · have hi' : i < ws.length := by simpa using lt_dec h
        obtain ⟨w, hx', hxw⟩ : ∃ y, ws[i]? = some y ∧ ws.getD i 0 = y := ⟨_, getD_mem hi', rfl⟩
        have hwn := hws w (List.mem_iff_getElem?.2 ⟨_, hx'⟩)
        have hpi := hlk i w hx'
        have hst := spr_step (u := t) (i := i) (w := w) ha64 ht64 (by omega) (by omega)
        clear h
        refine ⟨Plan.lin 0 24, [], by kernel_rfl, ?_⟩
        (try conv=>whnf);repeat' (first|(apply And.intro<;>try conv=>whnf)|(intro h;try conv=>whnf)|apply True.intro|(apply infoT;rfl)|(apply WhenQ.mk;(try conv=>whnf);rotate_left;(try conv=>whnf);rotate_right)|with_reducible assumption|(apply not_of;with_reducible assumption)|(refine lin_plan (by kernel_rfl) ?_;try conv=>whnf)|(refine ⟨_, _, rfl, idx_map (by with_reducible assumption), rfl, ?_⟩;try conv=>whnf)|fail)
        · exfalso
          have h' : (bif (bif decide ((w : Int) < 0) then true else decide ((w : Int) > 63)) then true else ((w : Int) != (w : Int))) = true := h
          rw [decide_eq_false (by omega), decide_eq_false (by omega)] at h'
          simp at h'
        · exact Int.natCast_nonneg _
        · exact Int.natCast_nonneg _
        · refine ⟨⟨(i + 1, acc ||| (bif t.testBit i then 2 ^ w else 0)), hi', Nat.or_lt_two_pow ha ?_, ?_⟩, by show ws.length - (i + 1) < ws.length - i; omega, ?_⟩
          · cases t.testBit i with
            | true => exact Nat.pow_lt_pow_right (by decide) hwn
            | false => exact Nat.two_pow_pos n
          · rw [← hd]; exact (sprG_drop hx').symm
          · (refine Wk.of ?_ ?_ rfl rfl rfl<;>repeat' (first|exact trivial|exact WkD.same _|refine WkD.int ?_|refine ⟨?_, ?_⟩|(refine wrapA ?_ ?_ ?_;(focus simp;done);(focus (try dsimp only);omega);(focus (try dsimp only);omega))|fail))
            exact hst
      · have hi' : i = ws.length := by have := ge_dec (m := (ws.map i64).length) h (by simpa using hi); simpa using this
        rw [hi', List.drop_length] at hd
        have hd : acc = sprG t ws 0 (notN n s) := hd
        have h9 : (bif ((0 : Int) == 0) then ((xa : Int) == (acc : Int)) else false) = true := by rw [hx, ← hd]; simp
        try conv=>whnf
        exact le_bool h9
theorem four_args (ps : List PV) (hps : TyAll Tryz.prog 8 Tryz.f3.params.toList ps) : PureFn Tryz.prog 3 ps (.bool true) := by
  obtain ⟨p1, r1, rfl, h1, p2, r2, rfl, h2, p3, r3, rfl, h3, rfl⟩ := hps
  obtain ⟨m, hm, hf⟩ := arg_mod (n := 4) h1
  obtain ⟨f, hf2⟩ := arg_nodes (n := 5) h2
  obtain ⟨g, hg2⟩ := arg_nodes (n := 5) h3
  exact (four_pure m f g hf).le ⟨hm, hf2, hg2, trivial⟩
end Go.Proofs.YtjdmfhggokfflaaGreatDoor
