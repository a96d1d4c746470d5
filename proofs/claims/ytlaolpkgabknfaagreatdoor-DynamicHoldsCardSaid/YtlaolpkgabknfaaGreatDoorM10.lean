/- Parts of the proof, one after the other: The dynamic language: the evaluation of the program walked: all nodes. The dynamic language: requests of the program walked. The dynamic language: Check of the reference walked. The dynamic language: Named and errors of the reference walked. The dynamic language: spread and needed of the reference walked. The dynamic language: formulas whose operands are formulas; what the law DynamicMerges asks (plain). Products with an action model of two events, of which the second one changes nothing (plain). The dynamic language: steps of the program walked. The dynamic language: Holds of the program walked. The dynamic language: Run of the program walked. The dynamic language: the reference's announced walked; its way to a set of an event (plain). The checker's reference: nodes walked. The checker's reference walked: Check, Sets, Holds. The checker's reference walked: Holds. -/
import Derived.Test.YtlaolpkgabknfaaGreatDoorM9
set_option maxRecDepth 100000
set_option maxHeartbeats 16000000
namespace Go.Proofs.YtlaolpkgabknfaaGreatDoor
open Go Go.Dv

theorem ann_L {acts : List Act} {c : List Nd} {A F Y : Nat} (hat : ConE 36 (.pv (.int .i64 (Y : Nat))) acts c A F Y) {m : Mo} {n : Nat} {es : List (Nat × Nat)} {err : Int} (hM : ModD acts m n A F) (hE : err = 0 ∨ err = 8) {s : Nat} (hs : s < 2 ^ n)
    {M : Nat → Prop} {w0 : World} {L : DH} {K : DV → DH → Prop} (h0 : L.lo = 0) (hn : Nat.ble 3 L.next = true) (g0 : L.get 0 = some (.var [.pv (.int .i64 err)])) (g1 : L.get 1 = some (.var (evC m acts c))) (g2 : L.get 2 = some (.mp (setM es)))
    (hK : ∀ t err', PostV (annV acts c Y m n s) n err t err' → K (.pv (u64 t)) (L.merge ⟨3, 0, 3, objsOf (H0 m acts c es err')⟩ 3)) : DC Tryz.prog M w0 102 [.ref 1 0, .pv (u64 s), .pv (.int .i64 (Y : Nat))] L K := by
  refine DC.call 3 (H0 m acts c es err) ⟨g2.symm, g1.symm, g0.symm, trivial⟩ rfl hn (by rw [h0]; rfl) rfl fun M' => ?_
  rw [h0]
  exact ann_dc hat hM hE hs fun t err' hp => ⟨rfl, hK t err' hp⟩
theorem evt_L {acts : List Act} {c : List Nd} {A F X e : Nat} {a : Act} (hS : ∀ a, a ∈ acts → SmA a) (ha : a ∈ acts) (he : e < a.pre.length) (hat : ConE 36 (.pv (.int .i64 (X : Nat))) acts c A F X) {m : Mo} {n : Nat} {es : List (Nat × Nat)} {err : Int} (hM : ModD acts m n A F) (hE : err = 0 ∨ err = 8)
    {M : Nat → Prop} {w0 : World} {L : DH} {K : DV → DH → Prop} (h0 : L.lo = 0) (hn : Nat.ble 3 L.next = true) (g0 : L.get 0 = some (.var [.pv (.int .i64 err)])) (g1 : L.get 1 = some (.var (evC m acts c))) (g2 : L.get 2 = some (.mp (setM es)))
    (hK : ∀ t err', PostV (evtV acts c X m n a e) n err t err' → K (.pv (u64 t)) (L.merge ⟨3, 0, 3, objsOf (H0 m acts c es err')⟩ 3)) : DC Tryz.prog M w0 103 [.ref 1 0, .agg (actDV a), .pv (.int .i64 (e : Nat)), .pv (.int .i64 (X : Nat))] L K := by
  refine DC.call 3 (H0 m acts c es err) ⟨g2.symm, g1.symm, g0.symm, trivial⟩ rfl hn (by rw [h0]; rfl) rfl fun M' => ?_
  rw [h0]
  exact evt_dc hS ha he hat hM hE fun t err' hp => ⟨rfl, hK t err' hp⟩
theorem annV_dvT {acts : List Act} {c : List Nd} {m : Mo} {n X Y s : Nat} {i e g : Int} (hnn : m.n.toNat = n) (h : dvT acts (tree c X) m = some s) : dvT acts (.nd 16 i e g (tree c X) (tree c Y)) m = annV acts c Y m n s := by
  by_cases h0 : s = 0
  · subst h0; rw [dv_ann0 h, annV, hnn]; rfl
  · rw [dv_ann1 h h0, annV, hnn, show (s == 0) = false by simpa using h0, cond_false]
    all_goals (cases dvT acts (tree c Y) (arrI m (memL s)) <;> rfl)
theorem evtV_dvT {acts : List Act} {c : List Nd} {m : Mo} {n X e : Nat} {i g : Int} {b : Tr} (hnn : m.n.toNat = n) : dvT acts (.nd 17 i (e : Int) g (tree c X) b) m = evtV acts c X m n (acts.getD i.toNat noAct) e := by
  rw [dvT, show ((17 : Int) == 16) = false from rfl, show ((17 : Int) == 17) = true from rfl, cond_false, cond_true, evtV, hnn, Int.toNat_natCast]
  cases ((holdsI m ((acts.getD i.toNat noAct).pre.getD e [])).1 == 0) with
  | true => rfl
  | false =>
    rw [cond_false, cond_false]
    cases ((updI m (acts.getD i.toNat noAct)).2.2 != 0) with
    | true => rfl
    | false =>
      rw [cond_false, cond_false]
      all_goals (cases dvT acts (tree c X) (updI m (acts.getD i.toNat noAct)).1 <;> rfl)
theorem val_16 {acts : List Act} {c : List Nd} {A F i : Nat} {fi ei gi xx yy : Int} (hC : CxD A F acts c) (hx : c[i]? = some ⟨16, fi, ei, gi, xx, yy⟩) (hat : ∀ j, j < i → ConE 36 (.pv (.int .i64 (j : Nat))) acts c A F j) :
    ConE 59 (.agg (Nd.dvs ⟨16, fi, ei, gi, xx, yy⟩)) acts c A F i := by
  intro m n es err hM hI hE M w0 base K hK
  have hO := hM.okd.okm
  have hnn : m.n.toNat = n := by rw [hO.nn, Int.toNat_natCast]
  have hn64 := hO.n64
  have h64 := pow64_le hn64
  have hall : 2 ^ n - 1 < 2 ^ n := by have := Nat.two_pow_pos n; omega
  have hnd := hC.okl i _ hx
  have hmem : (⟨16, fi, ei, gi, xx, yy⟩ : Nd) ∈ c := List.mem_iff_getElem?.2 ⟨i, hx⟩
  have hkx := hnd.x rfl
  simp only at hkx
  obtain ⟨X, ex⟩ : ∃ q : Nat, xx = q := ⟨xx.toNat, by omega⟩
  subst ex
  have hlx : X < i := by omega
  have hky := hnd.y rfl
  simp only at hky
  obtain ⟨Y, ey⟩ : ∃ q : Nat, yy = q := ⟨yy.toNat, by omega⟩
  subst ey
  have hly : Y < i := by omega
  have ht : tree c i = .nd 16 fi ei gi (tree c X) (tree c Y) := by rw [tree_nd hC.okl hx]; rfl
  have hX := fun {M w0 L K} => @con_L _ _ _ _ _ _ _ (hat X hlx) rfl m n es err hM hI hE M w0 L K
  have f1 : ((16 : Int) == 1) = false := rfl
  have f2 : ((16 : Int) == 2) = false := rfl
  have f3 : ((16 : Int) == 3) = false := rfl
  have f4 : ((16 : Int) == 4) = false := rfl
  have f5 : ((16 : Int) == 5) = false := rfl
  have f6 : ((16 : Int) == 6) = false := rfl
  have f7 : ((16 : Int) == 7) = false := rfl
  have f8 : ((16 : Int) == 8) = false := rfl
  have f9 : ((16 : Int) == 9) = false := rfl
  have f10 : ((16 : Int) == 10) = false := rfl
  have f11 : ((16 : Int) == 11) = false := rfl
  have f12 : ((16 : Int) == 12) = false := rfl
  have f13 : ((16 : Int) == 13) = false := rfl
  have f16 : ((16 : Int) == 16) = true := rfl
  refine DC.weaken (DC.intro mixed (fn := Tryz.f59) rfl rfl rfl ?_)
  (try conv=>whnf);repeat' (first|(apply And.intro<;>try conv=>whnf)|(intro h;first|with_reducible exact tf h (by assumption)|with_reducible exact tf (by assumption) h|try conv=>whnf)|fail)
  refine ⟨.one 0 (.one 1 (.one 2 (.one 3 (.two 4 (.one 5 (.one 6 (.one 7 (.one 8 .done)))) 5 (.two 4 (.one 6 (.one 7 (.one 8 .done))) 6 (.one 4 (.one 7 (.one 8 .done)))))))), [4, 7], by kernel_rfl, ?_⟩
  (try conv=>whnf);repeat' (first|(apply And.intro<;>try conv=>whnf)|(refine hX rfl rfl rfl rfl rfl ?_;intro s1 es1 er1 p1;have q1 := lt64 hO p1;try conv=>whnf)|(refine ann_L (es := es1) (hat Y hly) hM p1.er p1.lt rfl rfl rfl rfl rfl ?_;intro t err2 pv;try conv=>whnf)|fail)
  all_goals
    refine ⟨.pv (u64 t), 3, H0 m acts c es1 err2, ?_, hK _ _ _ ⟨pv.lt, fun k s h => ?_, pv.er, fun h => ?_, fun h => ?_⟩⟩
    · (refine Wk.of ?_ ?_ rfl rfl rfl<;>repeat' (first|exact trivial|exact WkD.same _|exact WkO.same _ _ rfl|refine ⟨?_, ?_⟩|fail))
    · obtain ⟨h1, h2⟩ := p1.inv k s h
      exact ⟨h1, fun h3 => h2 (pv.ok h3).1⟩
    · obtain ⟨h1, h2⟩ := pv.ok h
      obtain ⟨h3, h4⟩ := p1.ok h1
      exact ⟨h3, by rw [ht, annV_dvT hnn h4, h2]⟩
    · by_cases h1 : er1 = 0
      · obtain ⟨h3, h4⟩ := p1.ok h1
        rcases pv.no h with h2 | h2
        · exact absurd h1 h2
        · exact .inr (by rw [ht, annV_dvT hnn h4, h2])
      · rcases p1.no h1 with h2 | h2
        · exact .inl h2
        · exact .inr (by rw [ht]; exact dv_annN h2)
theorem val_17 {acts : List Act} {c : List Nd} {A F i : Nat} {fi ei gi xx yy : Int} (hC : CxD A F acts c) (hS : ∀ a, a ∈ acts → SmA a) (hx : c[i]? = some ⟨17, fi, ei, gi, xx, yy⟩) (hat : ∀ j, j < i → ConE 36 (.pv (.int .i64 (j : Nat))) acts c A F j) :
    ConE 59 (.agg (Nd.dvs ⟨17, fi, ei, gi, xx, yy⟩)) acts c A F i := by
  intro m n es err hM hI hE M w0 base K hK
  have hO := hM.okd.okm
  have hnn : m.n.toNat = n := by rw [hO.nn, Int.toNat_natCast]
  have hn64 := hO.n64
  have h64 := pow64_le hn64
  have hall : 2 ^ n - 1 < 2 ^ n := by have := Nat.two_pow_pos n; omega
  have hnd := hC.okl i _ hx
  have hmem : (⟨17, fi, ei, gi, xx, yy⟩ : Nd) ∈ c := List.mem_iff_getElem?.2 ⟨i, hx⟩
  have hkx := hnd.x rfl
  simp only at hkx
  obtain ⟨X, ex⟩ : ∃ q : Nat, xx = q := ⟨xx.toNat, by omega⟩
  subst ex
  have hlx : X < i := by omega
  have hev := hC.ev _ hmem rfl
  simp only at hev
  obtain ⟨I, eI⟩ : ∃ q : Nat, fi = q := ⟨fi.toNat, by omega⟩
  subst eI
  obtain ⟨E, eE⟩ : ∃ q : Nat, ei = q := ⟨ei.toNat, by omega⟩
  subst eE
  have hIl : I < acts.length := by omega
  obtain ⟨a, hai, had⟩ : ∃ a, acts[I]? = some a ∧ acts.getD I noAct = a := ⟨_, getD_mem hIl, rfl⟩
  have ham : a ∈ acts := List.mem_iff_getElem?.2 ⟨I, hai⟩
  have heN : E < a.pre.length := by
    have := hev.2.2.2
    rw [Int.toNat_natCast, had] at this
    omega
  have f1 : ((17 : Int) == 1) = false := rfl
  have f2 : ((17 : Int) == 2) = false := rfl
  have f3 : ((17 : Int) == 3) = false := rfl
  have f4 : ((17 : Int) == 4) = false := rfl
  have f5 : ((17 : Int) == 5) = false := rfl
  have f6 : ((17 : Int) == 6) = false := rfl
  have f7 : ((17 : Int) == 7) = false := rfl
  have f8 : ((17 : Int) == 8) = false := rfl
  have f9 : ((17 : Int) == 9) = false := rfl
  have f10 : ((17 : Int) == 10) = false := rfl
  have f11 : ((17 : Int) == 11) = false := rfl
  have f12 : ((17 : Int) == 12) = false := rfl
  have f13 : ((17 : Int) == 13) = false := rfl
  have f16 : ((17 : Int) == 16) = false := rfl
  refine DC.weaken (DC.intro mixed (fn := Tryz.f59) rfl rfl rfl ?_)
  (try conv=>whnf);repeat' (first|(apply And.intro<;>try conv=>whnf)|(intro h;first|with_reducible exact tf h (by assumption)|try conv=>whnf)|fail)
  refine ⟨.one 0 (.one 1 (.one 2 (.one 3 (.one 4 (.one 5 (.one 6 (.one 7 (.one 8 (.one 9 (.one 10 (.one 11 (.one 12 (.one 13 (.one 14 .done)))))))))))))), [13], by kernel_rfl, ?_⟩
  (try conv=>whnf);repeat' (first|(apply And.intro<;>try conv=>whnf)|(apply infoT;rfl)|(refine ⟨_, _, rfl, idx_map (by with_reducible assumption), rfl, ?_⟩;try conv=>whnf)|(refine evt_L (es := es) hS ham heN (hat X hlx) hM hE rfl rfl rfl rfl rfl ?_;intro t err2 pv;try conv=>whnf)|fail)
  have ht : tree c i = .nd 17 (I : Int) (E : Int) gi (tree c X) .none := by rw [tree_nd hC.okl hx]; rfl
  have hd : dvT acts (tree c i) m = evtV acts c X m n a E := by rw [ht, evtV_dvT hnn, Int.toNat_natCast, had]
  refine ⟨.pv (u64 t), 3, H0 m acts c es err2, ?_, hK _ _ _ ⟨pv.lt, fun k s h => ?_, pv.er, fun h => ?_, fun h => ?_⟩⟩
  · (refine Wk.of ?_ ?_ rfl rfl rfl<;>repeat' (first|exact trivial|exact WkD.same _|exact WkO.same _ _ rfl|refine ⟨?_, ?_⟩|fail))
  · obtain ⟨h1, h2⟩ := hI k s h
    exact ⟨h1, fun h3 => h2 (pv.ok h3).1⟩
  · obtain ⟨h1, h2⟩ := pv.ok h
    exact ⟨h1, hd.trans h2⟩
  · rcases pv.no h with h2 | h2
    · exact .inl h2
    · exact .inr (hd.trans h2)
theorem value_dc {acts : List Act} {c : List Nd} {A F i : Nat} {x : Nd} (hC : CxD A F acts c) (hS : ∀ a, a ∈ acts → SmA a) (hx : c[i]? = some x) (hat : ∀ j, j < i → ConE 36 (.pv (.int .i64 (j : Nat))) acts c A F j) :
    ConE 59 (.agg x.dvs) acts c A F i := by
  have hop := hC.op x (List.mem_iff_getElem?.2 ⟨i, hx⟩)
  have h1 := (hC.okl i x hx).op.1
  obtain ⟨op, fi, ei, gi, xx, yy⟩ := x
  simp only at hop h1
  have : op = 1 ∨ op = 2 ∨ op = 3 ∨ op = 4 ∨ op = 5 ∨ op = 6 ∨ op = 7 ∨ op = 8 ∨ op = 9 ∨ op = 10 ∨ op = 11 ∨ op = 12 ∨ op = 13 ∨ op = 16 ∨ op = 17 := by omega
  rcases this with rfl | rfl | rfl | rfl | rfl | rfl | rfl | rfl | rfl | rfl | rfl | rfl | rfl | rfl | rfl
  · exact val_1 hC hx hat
  · exact val_2 hC hx hat
  · exact val_3 hC hx hat
  · exact val_4 hC hx hat
  · exact val_5 hC hx hat
  · exact val_6 hC hx hat
  · exact val_7 hC hx hat
  · exact val_8 hC hx hat
  · exact val_9 hC hx hat
  · exact val_10 hC hx hat
  · exact val_11 hC hx hat
  · exact val_12 hC hx hat
  · exact val_13 hC hx hat
  · exact val_16 hC hx hat
  · exact val_17 hC hS hx hat
theorem at_all {acts : List Act} {c : List Nd} {A F : Nat} (hC : CxD A F acts c) (hS : ∀ a, a ∈ acts → SmA a) : ∀ (k i : Nat), i < k → i < c.length → ConE 36 (.pv (.int .i64 (i : Nat))) acts c A F i
  | 0, i, h, _ => by omega
  | k + 1, i, h, hi => at_dc hC hi fun x hx => value_dc hC hS hx fun j hj => at_all hC hS k j (by omega) (by omega)
end Go.Proofs.YtlaolpkgabknfaaGreatDoor
set_option maxRecDepth 100000
set_option maxHeartbeats 8000000
namespace Go.Proofs.YtlaolpkgabknfaaGreatDoor
open Go Go.Dv

def HDq (m : Mo) (acts : List Act) : List (Nat × DObj) := [(0, .var (cellsM m)), (1, .var [.pv (actsPV acts)])]
theorem WkD.boo {L : DH} {H : List (Nat × DObj)} {a b : Bool} (h : a = b) : WkD L H (.pv (.bool a)) (.pv (.bool b)) := h ▸ .same _
theorem req1 {M : Nat → Prop} {w0 : World} (m : Mo) (acts : List Act) (x : Nd) (hx : x.op = 17 → 0 ≤ x.i) (base : Nat) (K : DV → DH → Prop) (hK : K (.pv (.bool (badA acts x))) ⟨2, 0, base, objsOf (HDq m acts)⟩) :
    DC Tryz.prog M w0 57 [.agg x.dvs, .ref 1 0] ⟨2, 0, base, objsOf (HDq m acts)⟩ K := by
  obtain ⟨op, fi, ei, gi, xx, yy⟩ := x
  simp only at hx
  have e1 : ((acts.map Act.pv).length : Int) = (acts.length : Int) := by simp
  refine DC.weaken (DC.intro mixed (fn := Tryz.f57) rfl rfl rfl ?_)
  cases h17 : (op == 17) with
  | false =>
    have hb : badA acts ⟨op, fi, ei, gi, xx, yy⟩ = false := by
      show (bif op == 17 then _ else false) = false
      rw [h17]; rfl
    rw [hb] at hK
    have hoff : (op == 17 && !false) = false := by rw [h17]; rfl
    (try conv=>whnf);repeat' (first|(apply And.intro<;>try conv=>whnf)|(intro h;first|with_reducible exact tf h (by assumption)|try conv=>whnf)|(apply whenOff;(focus with_reducible assumption);try conv=>whnf)|(refine lin_plan (by kernel_rfl) ?_;try conv=>whnf)|fail)
    refine ⟨_, 2, HDq m acts, ?_, hK⟩
    refine Wk.of ⟨WkD.boo ?_, trivial⟩ ⟨WkO.same _ _ rfl, trivial, WkO.same _ _ rfl, trivial, trivial⟩ rfl rfl rfl
    rw [h17]
    rfl
  | true =>
    have e17 : op = 17 := by simpa using h17
    have h0 := hx e17
    cases hge : decide (fi ≥ ((acts.map Act.pv).length : Int)) with
    | true =>
      have hb : badA acts ⟨op, fi, ei, gi, xx, yy⟩ = true := by
        show (bif op == 17 then (bif decide (fi ≥ (acts.length : Int)) then true else _) else false) = true
        rw [h17, ← e1, hge]; rfl
      rw [hb] at hK
      have hoff : (op == 17 && !decide (fi ≥ ((acts.map Act.pv).length : Int))) = false := by rw [h17, hge]; rfl
      (try conv=>whnf);repeat' (first|(apply And.intro<;>try conv=>whnf)|(intro h;first|with_reducible exact tf (by assumption) h|try conv=>whnf)|apply True.intro|(apply whenOff;(focus with_reducible assumption);try conv=>whnf)|(apply WhenQ.mk;(try conv=>whnf);rotate_left;(try conv=>whnf);rotate_right)|with_reducible assumption|(refine lin_plan (by kernel_rfl) ?_;try conv=>whnf)|fail)
      refine ⟨_, 2, HDq m acts, ?_, hK⟩
      refine Wk.of ⟨WkD.boo ?_, trivial⟩ ⟨WkO.same _ _ rfl, trivial, WkO.same _ _ rfl, trivial, trivial⟩ rfl rfl rfl
      rw [h17]
      show (bif decide (fi ≥ ((acts.map Act.pv).length : Int)) then true else _) = _
      rw [hge]; rfl
    | false =>
      have hlt := of_decide_eq_false hge
      rw [e1] at hlt
      obtain ⟨q, eq⟩ : ∃ q : Nat, fi = q := ⟨fi.toNat, by omega⟩
      subst eq
      obtain ⟨a, ha, had⟩ : ∃ a, acts[q]? = some a ∧ acts.getD q noAct = a := ⟨_, getD_mem (by omega), rfl⟩
      have hb : badA acts ⟨op, (q : Int), ei, gi, xx, yy⟩ = decide (ei ≥ ((a.pre.map fpv).length : Int)) := by
        show (bif op == 17 then (bif decide ((q : Int) ≥ (acts.length : Int)) then true else decide (ei ≥ ((acts.getD (q : Int).toNat noAct).pre.length : Int))) else false) = _
        rw [h17, ← e1, hge, Int.toNat_natCast, had, List.length_map]; rfl
      rw [hb] at hK
      (try conv=>whnf);repeat' (first|(apply And.intro<;>try conv=>whnf)|(intro h;try conv=>whnf)|apply True.intro|(apply infoT;rfl)|(apply WhenQ.mk;(try conv=>whnf);rotate_left;(try conv=>whnf);rotate_right)|with_reducible assumption|(apply and_of<;>first|with_reducible assumption|(apply not_of;with_reducible assumption))|(refine lin_plan (by kernel_rfl) ?_;try conv=>whnf)|(refine ⟨_, _, rfl, idx_map (by with_reducible assumption), rfl, ?_⟩;try conv=>whnf)|fail)
      refine ⟨_, 2, HDq m acts, ?_, hK⟩
      refine Wk.of ⟨WkD.boo ?_, trivial⟩ ⟨WkO.same _ _ rfl, trivial, WkO.same _ _ rfl, trivial, trivial⟩ rfl rfl rfl
      rw [h17]
      show (bif decide ((q : Int) ≥ ((acts.map Act.pv).length : Int)) then true else _) = _
      rw [hge]; rfl
theorem idx_N {M : Nat → Prop} {w0 : World} (m : Mo) (acts : List Act) (l : List Nd) (hl : l.length ≤ 1000) (hs : ∀ x, x ∈ l → x.op = 17 → 0 ≤ x.i) (base : Nat) (K : DV → DH → Prop) (hK : ∀ r : Int, decide (r ≥ 0) = l.any (badA acts) → K (.pv (.int .i64 r)) ⟨2, 0, base, objsOf (HDq m acts)⟩) :
    DC Tryz.prog M w0 95 [.pv (fpv l), .clo 57 [] [.ref 1 0]] ⟨2, 0, base, objsOf (HDq m acts)⟩ K := by
  refine DC.weaken (DC.intro mixed (fn := Tryz.f95) rfl rfl rfl ?_)
  try conv=>whnf
  refine ⟨{ i : Nat // i ≤ l.length ∧ (l.take i).any (badA acts) = false }, fun i => [(0, .pv (fpv l)), (1, .clo 57 [] [.ref 1 0]), (7, .pv (i64 (l.map Nd.pv).length)), (8, .pv (i64 i.1))], fun _ => 2, fun _ => HDq m acts, fun i => l.length - i.1, ⟨⟨0, Nat.zero_le _, rfl⟩, (by refine Wk.of ?_ ?_ rfl rfl rfl<;>repeat' (first|exact trivial|exact WkD.same _|exact WkO.same _ _ rfl|refine ⟨?_, ?_⟩|fail))⟩, ?_⟩
  rintro ⟨i, hi, ha⟩
  (try conv=>whnf);repeat' (first|(apply And.intro<;>try conv=>whnf)|(intro h;try conv=>whnf)|(apply infoT;rfl)|fail)
  · have hi' : i < l.length := by simpa using lt_dec h
    have hm : l[i]? = some l[i] := List.getElem?_eq_getElem hi'
    have hsi := hs _ (List.getElem_mem hi')
    refine ⟨_, _, rfl, idx_map hm, rfl, ?_⟩
    try conv=>whnf
    refine req1 m acts l[i] hsi _ _ ?_
    (try conv=>whnf);repeat' (first|(apply And.intro<;>try conv=>whnf)|(intro h;try conv=>whnf)|fail)
    · have e : l.any (badA acts) = true := any_at hi' h
      exact ⟨.pv (.int .i64 (i : Int)), 2, HDq m acts, (by refine Wk.of ?_ ?_ rfl rfl rfl<;>repeat' (first|exact trivial|exact WkD.same _|exact WkO.same _ _ rfl|refine ⟨?_, ?_⟩|fail)), hK i (by rw [e]; simp)⟩
    · exact ⟨⟨i + 1, hi', any_take hi' ha h⟩, by show l.length - (i + 1) < l.length - i; omega, (by refine Wk.of ?_ ?_ rfl rfl rfl<;>repeat' (first|exact trivial|exact WkD.same _|exact WkO.same _ _ rfl|refine WkD.int ?_|refine ⟨?_, ?_⟩|(refine wrapA ?_ ?_ ?_;(focus simp;done);(focus (try dsimp only);omega);(focus (try dsimp only);omega))|fail))⟩
  · have hi' : i = l.length := by have := ge_dec (m := (l.map Nd.pv).length) h (by simpa using hi); simpa using this
    subst hi'
    rw [List.take_length] at ha
    exact ⟨.pv (.int .i64 (-1)), 2, HDq m acts, (by refine Wk.of ?_ ?_ rfl rfl rfl<;>repeat' (first|exact trivial|exact WkD.same _|exact WkO.same _ _ rfl|refine ⟨?_, ?_⟩|fail)), hK (-1) (by rw [ha]; decide)⟩
theorem cont_N {M : Nat → Prop} {w0 : World} (m : Mo) (acts : List Act) (l : List Nd) (hl : l.length ≤ 1000) (hs : ∀ x, x ∈ l → x.op = 17 → 0 ≤ x.i) (base : Nat) (K : DV → DH → Prop) (hK : K (.pv (.bool (l.any (badA acts)))) ⟨2, 0, base, objsOf (HDq m acts)⟩) :
    DC Tryz.prog M w0 56 [.pv (fpv l), .clo 57 [] [.ref 1 0]] ⟨2, 0, base, objsOf (HDq m acts)⟩ K := by
  refine DC.intro mixed (fn := Tryz.f56) rfl rfl rfl ?_
  try conv=>whnf
  refine idx_N m acts l hl hs 2 _ fun r e => ?_
  rw [← e] at hK
  try conv=>whnf
  exact hK
theorem dy_Check (m : Mo) (acts : List Act) (hf : FitM m) (hS : ∀ a, a ∈ acts → SmA a) : PureFn Tryz.prog 12 [m.pv, actsPV acts] (.int .i64 (chkD m acts)) := by
  have e1 : ((m.val.map u64).length : Int) = (m.val.length : Int) := by simp
  have e2 : ((m.rel.map rowPV).length : Int) = (m.rel.length : Int) := by simp
  have e3 : ((acts.map Act.pv).length : Int) = (acts.length : Int) := by simp
  have hM := md_Check m hf
  refine PureFn.intro mixed (fn := Tryz.f12) rfl rfl rfl fun M w0 => ?_
  (try conv=>whnf);repeat' (first|(apply And.intro<;>try conv=>whnf)|(intro h;try conv=>whnf)|(refine PureFn.dcq (f := 40) rfl ?_;try conv=>whnf)|(refine ⟨_, _, hM, ?_, ?_⟩;(focus first|(refine ⟨?_, trivial⟩<;>first|exact PLe.refl _|exact PLe.nil)|exact trivial);try conv=>whnf)|fail)
  · refine le_int ?_
    rw [chkD, show (moI m != 0) = true from h]; rfl
  · rename_i h0
    refine le_int ?_
    rw [chkD, show (moI m != 0) = false from h0, ← e3, show decide (((acts.map Act.pv).length : Int) > 8) = true from h]; rfl
  rename_i h0
  have h8 := of_decide_eq_false h
  have hck : chkD m acts = actsI (m.rel.length : Int) (m.val.length : Int) acts := by
    rw [chkD, show (moI m != 0) = false from h0, ← e3, show decide (((acts.map Act.pv).length : Int) > 8) = false from h]; rfl
  rw [hck]
  clear hck h h0
  refine ⟨{ i : Nat // i ≤ acts.length ∧ actsI (m.rel.length : Int) (m.val.length : Int) (acts.drop i) = actsI (m.rel.length : Int) (m.val.length : Int) acts }, fun i => [(2, .ref 0 0), (17, .pv (actsPV acts)), (18, .pv (i64 (acts.map Act.pv).length)), (19, .pv (i64 i.1))], fun _ => 1, fun _ => HM m, fun i => acts.length - i.1, ⟨⟨0, Nat.zero_le _, rfl⟩, (by refine Wk.of ?_ ?_ rfl rfl rfl<;>repeat' (first|exact trivial|exact WkD.same _|exact WkO.same _ _ rfl|refine ⟨?_, ?_⟩|fail))⟩, ?_⟩
  rintro ⟨i, hi, hd⟩
  (try conv=>whnf);repeat' (first|(apply And.intro<;>try conv=>whnf)|(intro h;try conv=>whnf)|(apply infoT;rfl)|fail)
  · have hi' : i < acts.length := by simpa using lt_dec h
    obtain ⟨a, ha, had⟩ : ∃ a, acts[i]? = some a ∧ acts.drop i = a :: acts.drop (i + 1) := ⟨_, List.getElem?_eq_getElem hi', List.drop_eq_getElem_cons hi'⟩
    have hSa := hS a (List.mem_iff_getElem?.2 ⟨i, ha⟩)
    have hA := ac_Check a (m.rel.length : Int) (m.val.length : Int) hSa.fit hSa.rel hSa.post
    rw [← e1, ← e2] at hA
    rw [had, actsI] at hd
    refine ⟨_, _, rfl, idx_map ha, rfl, ?_⟩
    (try conv=>whnf);repeat' (first|(apply And.intro<;>try conv=>whnf)|(intro h;try conv=>whnf)|(refine PureFn.dcq (f := 41) rfl ?_;try conv=>whnf)|(refine ⟨_, _, hA, ?_, ?_⟩;(focus first|(refine ⟨?_, ?_, ?_, trivial⟩<;>first|exact PLe.refl _|exact PLe.nil)|exact trivial);try conv=>whnf)|fail)
    · refine le_int ?_
      rw [e1, e2] at h
      have h : (actI a (m.rel.length : Int) (m.val.length : Int) != 0) = true := h
      rw [h, cond_true] at hd
      rw [e1, e2]; exact hd
    · have h2 : (actI a (m.rel.length : Int) (m.val.length : Int) != 0) = false := by rw [← e1, ← e2]; exact h
      rw [h2, cond_false] at hd
      exact ⟨⟨i + 1, hi', hd⟩, by show acts.length - (i + 1) < acts.length - i; omega, (by refine Wk.of ?_ ?_ rfl rfl rfl<;>repeat' (first|exact trivial|exact WkD.same _|exact WkO.same _ _ rfl|refine WkD.int ?_|refine ⟨?_, ?_⟩|(refine wrapA ?_ ?_ ?_;(focus simp;done);(focus (try dsimp only);omega);(focus (try dsimp only);omega))|fail))⟩
  · have hi' : i = acts.length := by have := ge_dec (m := (acts.map Act.pv).length) h (by simpa using hi); simpa using this
    rw [hi', List.drop_length] at hd
    exact le_int hd
theorem dy_request (m : Mo) (acts : List Act) (f : List Nd) (hf : FitM m) (hS : ∀ a, a ∈ acts → SmA a) : PureFn Tryz.prog 33 [m.pv, actsPV acts, fpv f] (.int .i64 (reqD m acts f)) := by
  have e1 : ((m.val.map u64).length : Int) = (m.val.length : Int) := by simp
  have e2 : ((m.rel.map rowPV).length : Int) = (m.rel.length : Int) := by simp
  have hM := dy_Check m acts hf hS
  have hC := fm_Check f
  have hF := fm_Frags f
  have hT := fm_Fits f (m.rel.length : Int) (m.val.length : Int)
  rw [← e1, ← e2] at hT
  have hK := fm_Compact f
  refine PureFn.introC [4, 7] mixed (fn := Tryz.f33) rfl rfl rfl fun M w0 => ?_
  try conv=>whnf
  refine ⟨{ _x : Unit // chkD m acts = 0 }, fun _ => [(2, .pv (fpv f)), (3, .ref 0 0), (4, .ref 1 0)], fun _ => 2, fun _ => HDq m acts, ?_, ?_⟩
  · (try conv=>whnf);repeat' (first|(apply And.intro<;>try conv=>whnf)|(intro h;try conv=>whnf)|(refine PureFn.dcq (f := 12) rfl ?_;try conv=>whnf)|(refine ⟨_, _, hM, ?_, ?_⟩;(focus first|(refine ⟨?_, ?_, trivial⟩<;>first|exact PLe.refl _|exact PLe.nil)|exact trivial);try conv=>whnf)|fail)
    · refine le_int ?_
      rw [reqD, show (chkD m acts != 0) = true from h]; rfl
    · exact ⟨⟨(), by simpa using h⟩, (by refine Wk.of ?_ ?_ rfl rfl rfl<;>repeat' (first|exact trivial|exact WkD.same _|exact WkO.same _ _ rfl|refine ⟨?_, ?_⟩|fail))⟩
  rintro ⟨_, h0⟩
  refine ⟨{ _x : Unit // check f = 0 }, fun _ => [(2, .pv (fpv f)), (3, .ref 0 0), (4, .ref 1 0)], fun _ => 2, fun _ => HDq m acts, ?_, ?_⟩
  · (try conv=>whnf);repeat' (first|(apply And.intro<;>try conv=>whnf)|(intro h;try conv=>whnf)|(refine PureFn.dcq (f := 54) rfl ?_;try conv=>whnf)|(refine ⟨_, _, hC, ?_, ?_⟩;(focus first|(refine ⟨?_, trivial⟩<;>first|exact PLe.refl _|exact PLe.nil)|exact trivial);try conv=>whnf)|fail)
    · refine le_int ?_
      rw [reqD, h0, show (check f != 0) = true from h]; rfl
    · exact ⟨⟨(), by simpa using h⟩, (by refine Wk.of ?_ ?_ rfl rfl rfl<;>repeat' (first|exact trivial|exact WkD.same _|exact WkO.same _ _ rfl|refine ⟨?_, ?_⟩|fail))⟩
  rintro ⟨_, h1⟩
  have hcn := comp_can h1
  have hcl : (comp f).length ≤ 1000 := by have := hcn.len; omega
  have hci : ∀ x, x ∈ comp f → x.op = 17 → 0 ≤ x.i := fun x hx h17 => by
    obtain ⟨i, hi⟩ := List.mem_iff_getElem?.1 hx
    exact ((hcn.ok i x hi).act h17).1
  (try conv=>whnf);repeat' (first|(apply And.intro<;>try conv=>whnf)|(intro h;try conv=>whnf)|(refine PureFn.dcq (f := 17) rfl ?_;try conv=>whnf)|(refine PureFn.dcq (f := 55) rfl ?_;try conv=>whnf)|(refine PureFn.dcq (f := 34) rfl ?_;try conv=>whnf)|(refine ⟨_, _, hF, ?_, ?_⟩;(focus first|(refine ⟨?_, trivial⟩<;>first|exact PLe.refl _|exact PLe.nil)|exact trivial);try conv=>whnf)|(refine ⟨_, _, hT, ?_, ?_⟩;(focus first|(refine ⟨?_, ?_, ?_, trivial⟩<;>first|exact PLe.refl _|exact PLe.nil)|exact trivial);try conv=>whnf)|(refine ⟨_, _, hK, ?_, ?_⟩;(focus first|(refine ⟨?_, trivial⟩<;>first|exact PLe.refl _|exact PLe.nil)|exact trivial);try conv=>whnf)|fail)
  · have h2 : (nand64' (frags f : Nat) 207 != 0) = true := h
    refine le_int ?_
    rw [reqD, h0, h1, h2]; rfl
  · rename_i h2
    have h2 : (nand64' (frags f : Nat) 207 != 0) = false := h2
    have h3 : (!fits f (m.rel.length : Int) (m.val.length : Int)) = true := by rw [← e1, ← e2]; exact h
    refine le_int ?_
    rw [reqD, h0, h1, h2, h3]; rfl
  · rename_i h2
    have h2 : (nand64' (frags f : Nat) 207 != 0) = false := h2
    have h3 : (!fits f (m.rel.length : Int) (m.val.length : Int)) = false := by rw [← e1, ← e2]; exact h
    have hr : reqD m acts f = bif (comp f).any (badA acts) then 6 else 0 := by rw [reqD, h0, h1, h2, h3]; rfl
    rw [hr]
    clear h
    refine cont_N m acts (comp f) hcl hci _ _ ?_
    (try conv=>whnf);repeat' (first|(apply And.intro<;>try conv=>whnf)|(intro h;try conv=>whnf)|fail)
    · rw [show (comp f).any (badA acts) = true from h]; exact .refl _
    · rw [show (comp f).any (badA acts) = false from h]; exact .refl _
end Go.Proofs.YtlaolpkgabknfaaGreatDoor
set_option maxRecDepth 100000
set_option maxHeartbeats 4000000
namespace Go.Proofs.YtlaolpkgabknfaaGreatDoor
open Go Go.Dv

theorem rd_Check (m : Mo) (acts : List Act) (hf : FitM m) (hS : ∀ a, a ∈ acts → SmA a) : PureFn Tryz.prog 13 [m.pv, actsPV acts] (.int .i64 (chkD m acts)) := by
  have e1 : ((m.val.map u64).length : Int) = (m.val.length : Int) := by simp
  have e2 : ((m.rel.map rowPV).length : Int) = (m.rel.length : Int) := by simp
  have e3 : ((acts.map Act.pv).length : Int) = (acts.length : Int) := by simp
  have hM := rm_Check m hf
  refine PureFn.intro mixed (fn := Tryz.f13) rfl rfl rfl fun M w0 => ?_
  (try conv=>whnf);repeat' (first|(apply And.intro<;>try conv=>whnf)|(intro h;try conv=>whnf)|(refine PureFn.dcq (f := 42) rfl ?_;try conv=>whnf)|(refine ⟨_, _, hM, ?_, ?_⟩;(focus first|(refine ⟨?_, trivial⟩<;>first|exact PLe.refl _|exact PLe.nil)|exact trivial);try conv=>whnf)|fail)
  · refine le_int ?_
    rw [chkD, show (moI m != 0) = true from h]; rfl
  · rename_i h0
    refine le_int ?_
    rw [chkD, show (moI m != 0) = false from h0, ← e3, show decide (((acts.map Act.pv).length : Int) > 8) = true from h]; rfl
  rename_i h0
  have h8 := of_decide_eq_false h
  have hck : chkD m acts = actsI (m.rel.length : Int) (m.val.length : Int) acts := by
    rw [chkD, show (moI m != 0) = false from h0, ← e3, show decide (((acts.map Act.pv).length : Int) > 8) = false from h]; rfl
  rw [hck]
  clear hck h h0
  refine ⟨{ i : Nat // i ≤ acts.length ∧ actsI (m.rel.length : Int) (m.val.length : Int) (acts.drop i) = actsI (m.rel.length : Int) (m.val.length : Int) acts }, fun i => [(1, .pv (actsPV acts)), (2, .ref 0 0), (6, .pv (i64 i.1))], fun _ => 1, fun _ => [(0, .var (cellsM m))], fun i => acts.length - i.1, ⟨⟨0, Nat.zero_le _, rfl⟩, (by refine Wk.of ?_ ?_ rfl rfl rfl<;>repeat' (first|exact trivial|exact WkD.same _|exact WkO.same _ _ rfl|refine ⟨?_, ?_⟩|fail))⟩, ?_⟩
  rintro ⟨i, hi, hd⟩
  (try conv=>whnf);repeat' (first|(apply And.intro<;>try conv=>whnf)|(intro h;try conv=>whnf)|(apply infoT;rfl)|(refine lin_plan (by kernel_rfl) ?_;try conv=>whnf)|fail)
  · have hi' : i < acts.length := by simpa using lt_dec h
    obtain ⟨a, ha, had⟩ : ∃ a, acts[i]? = some a ∧ acts.drop i = a :: acts.drop (i + 1) := ⟨_, List.getElem?_eq_getElem hi', List.drop_eq_getElem_cons hi'⟩
    have hSa := hS a (List.mem_iff_getElem?.2 ⟨i, ha⟩)
    have hA := ra_Check a (m.rel.length : Int) (m.val.length : Int) hSa.fit hSa.rel hSa.post
    rw [← e1, ← e2] at hA
    rw [had, actsI] at hd
    refine ⟨_, _, rfl, idx_map ha, rfl, ?_⟩
    (try conv=>whnf);repeat' (first|(apply And.intro<;>try conv=>whnf)|(intro h;try conv=>whnf)|(refine ⟨_, (by (conv=>whnf);exact hA), rfl, ?_⟩;try conv=>whnf)|fail)
    · refine le_int ?_
      rw [e1, e2] at h
      have h : (actI a (m.rel.length : Int) (m.val.length : Int) != 0) = true := h
      rw [h, cond_true] at hd
      rw [e1, e2]; exact hd
    · have h2 : (actI a (m.rel.length : Int) (m.val.length : Int) != 0) = false := by rw [← e1, ← e2]; exact h
      rw [h2, cond_false] at hd
      exact ⟨⟨i + 1, hi', hd⟩, by show acts.length - (i + 1) < acts.length - i; omega, (by refine Wk.of ?_ ?_ rfl rfl rfl<;>repeat' (first|exact trivial|exact WkD.same _|exact WkO.same _ _ rfl|refine WkD.int ?_|refine ⟨?_, ?_⟩|(refine wrapA ?_ ?_ ?_;(focus simp;done);(focus (try dsimp only);omega);(focus (try dsimp only);omega))|fail))⟩
  · have hi' : i = acts.length := by have := ge_dec (m := (acts.map Act.pv).length) h (by simpa using hi); simpa using this
    rw [hi', List.drop_length] at hd
    exact le_int hd
end Go.Proofs.YtlaolpkgabknfaaGreatDoor
set_option maxRecDepth 100000
set_option maxHeartbeats 4000000
namespace Go.Proofs.YtlaolpkgabknfaaGreatDoor
open Go Go.Dv

theorem rd_Named (acts : List Act) (f : List Nd) (hs : ∀ x, x ∈ comp f → x.op = 17 → 0 ≤ x.i) : PureFn Tryz.prog 63 [actsPV acts, fpv f] (.bool (!(comp f).any (badA acts))) := by
  have hC := ref_Compact f
  have hlen := comp_len f
  have e1 : ((acts.map Act.pv).length : Int) = (acts.length : Int) := by simp
  refine PureFn.intro mixed (fn := Tryz.f63) rfl rfl rfl fun M w0 => ?_
  (try conv=>whnf);repeat' (first|(refine PureFn.dcq (f := 38) rfl ?_;try conv=>whnf)|(refine ⟨_, _, hC, ?_, ?_⟩;(focus first|(refine ⟨?_, trivial⟩<;>first|exact PLe.refl _|exact PLe.nil)|exact trivial);try conv=>whnf)|fail)
  refine ⟨{ i : Nat // i ≤ (comp f).length ∧ ((comp f).drop i).any (badA acts) = (comp f).any (badA acts) }, fun i => [(0, .pv (actsPV acts)), (5, .pv (fpv (comp f))), (6, .pv (i64 i.1))], fun _ => 0, fun _ => [], fun i => (comp f).length - i.1, ⟨⟨0, Nat.zero_le _, rfl⟩, (by refine Wk.of ?_ ?_ rfl rfl rfl<;>repeat' (first|exact trivial|exact WkD.same _|refine ⟨?_, ?_⟩|fail))⟩, ?_⟩
  rintro ⟨i, hi, hd⟩
  (try conv=>whnf);repeat' (first|(apply And.intro<;>try conv=>whnf)|(intro h;try conv=>whnf)|(apply infoT;rfl)|(refine lin_plan (by kernel_rfl) ?_;try conv=>whnf)|fail)
  · have hi' : i < (comp f).length := by simpa using lt_dec h
    obtain ⟨x, hx, hxd⟩ : ∃ x, (comp f)[i]? = some x ∧ (comp f).drop i = x :: (comp f).drop (i + 1) := ⟨_, List.getElem?_eq_getElem hi', List.drop_eq_getElem_cons hi'⟩
    rw [hxd, List.any_cons] at hd
    have h0 := hs x (List.mem_iff_getElem?.2 ⟨i, hx⟩)
    obtain ⟨op, fi, ei, gi, xx, yy⟩ := x
    simp only at h0
    have hix := idx_map (g := Nd.pv) hx
    cases h17 : (op == 17) with
    | false =>
      have hb : badA acts ⟨op, fi, ei, gi, xx, yy⟩ = false := by
        show (bif op == 17 then _ else false) = false
        rw [h17]; rfl
      rw [hb, Bool.false_or] at hd
      have hoff : (op == 17 && !false) = false := by rw [h17]; rfl
      have hcd : (bif op == 17 then false else false) = false := by rw [h17]; rfl
      refine ⟨_, _, rfl, hix, rfl, ?_⟩
      (try conv=>whnf);repeat' (first|(apply And.intro<;>try conv=>whnf)|(intro h;first|with_reducible exact tf h (by assumption)|try conv=>whnf)|(apply whenOff;(focus with_reducible assumption);try conv=>whnf)|fail)
      exact ⟨⟨i + 1, hi', hd⟩, by show (comp f).length - (i + 1) < (comp f).length - i; omega, (by refine Wk.of ?_ ?_ rfl rfl rfl<;>repeat' (first|exact trivial|exact WkD.same _|refine WkD.int ?_|refine ⟨?_, ?_⟩|(refine wrapA ?_ ?_ ?_;(focus simp;done);(focus (try dsimp only);omega);(focus (try dsimp only);omega))|fail))⟩
    | true =>
      have e17 : op = 17 := by simpa using h17
      have h0 := h0 e17
      cases hge : decide (fi ≥ ((acts.map Act.pv).length : Int)) with
      | true =>
        have hb : badA acts ⟨op, fi, ei, gi, xx, yy⟩ = true := by
          show (bif op == 17 then (bif decide (fi ≥ (acts.length : Int)) then true else _) else false) = true
          rw [h17, ← e1, hge]; rfl
        rw [hb, Bool.true_or] at hd
        have hoff : (op == 17 && !decide (fi ≥ ((acts.map Act.pv).length : Int))) = false := by rw [h17, hge]; rfl
        refine ⟨_, _, rfl, hix, rfl, ?_⟩
        (try conv=>whnf);repeat' (first|(apply And.intro<;>try conv=>whnf)|(intro h;first|with_reducible exact tf (by assumption) h|try conv=>whnf)|apply True.intro|(apply infoT;rfl)|(apply whenOff;(focus with_reducible assumption);try conv=>whnf)|(apply WhenQ.mk;(try conv=>whnf);rotate_left;(try conv=>whnf);rotate_right)|with_reducible assumption|(refine ⟨_, _, rfl, idx_map (by with_reducible assumption), rfl, ?_⟩;try conv=>whnf)|fail)
        · rw [← hd]; exact .refl _
        · exfalso
          have h9 : (bif op == 17 then (bif decide (fi ≥ ((acts.map Act.pv).length : Int)) then true else _) else false) = false := h
          rw [h17, hge] at h9
          cases h9
      | false =>
        have hlt := of_decide_eq_false hge
        rw [e1] at hlt
        obtain ⟨q, eq⟩ : ∃ q : Nat, fi = q := ⟨fi.toNat, by omega⟩
        subst eq
        obtain ⟨a, ha, had⟩ : ∃ a, acts[q]? = some a ∧ acts.getD q noAct = a := ⟨_, getD_mem (by omega), rfl⟩
        have hb : badA acts ⟨op, (q : Int), ei, gi, xx, yy⟩ = decide (ei ≥ ((a.pre.map fpv).length : Int)) := by
          show (bif op == 17 then (bif decide ((q : Int) ≥ (acts.length : Int)) then true else decide (ei ≥ ((acts.getD (q : Int).toNat noAct).pre.length : Int))) else false) = _
          rw [h17, ← e1, hge, Int.toNat_natCast, had, List.length_map]; rfl
        rw [hb] at hd
        refine ⟨_, _, rfl, hix, rfl, ?_⟩
        (try conv=>whnf);repeat' (first|(apply And.intro<;>try conv=>whnf)|(intro h;try conv=>whnf)|apply True.intro|(apply infoT;rfl)|(apply WhenQ.mk;(try conv=>whnf);rotate_left;(try conv=>whnf);rotate_right)|with_reducible assumption|(apply and_of<;>first|with_reducible assumption|(apply not_of;with_reducible assumption))|(refine ⟨_, _, rfl, idx_map (by with_reducible assumption), rfl, ?_⟩;try conv=>whnf)|fail)
        · have h9 : (bif op == 17 then (bif decide ((q : Int) ≥ ((acts.map Act.pv).length : Int)) then true else decide (ei ≥ ((a.pre.map fpv).length : Int))) else false) = true := h
          rw [h17, hge] at h9
          rw [show decide (ei ≥ ((a.pre.map fpv).length : Int)) = true from h9, Bool.true_or] at hd
          rw [← hd]; exact .refl _
        · have h9 : (bif op == 17 then (bif decide ((q : Int) ≥ ((acts.map Act.pv).length : Int)) then true else decide (ei ≥ ((a.pre.map fpv).length : Int))) else false) = false := h
          rw [h17, hge] at h9
          rw [show decide (ei ≥ ((a.pre.map fpv).length : Int)) = false from h9, Bool.false_or] at hd
          exact ⟨⟨i + 1, hi', hd⟩, by show (comp f).length - (i + 1) < (comp f).length - i; omega, (by refine Wk.of ?_ ?_ rfl rfl rfl<;>repeat' (first|exact trivial|exact WkD.same _|refine WkD.int ?_|refine ⟨?_, ?_⟩|(refine wrapA ?_ ?_ ?_;(focus simp;done);(focus (try dsimp only);omega);(focus (try dsimp only);omega))|fail))⟩
  · have hi' : i = (comp f).length := by have := ge_dec (m := ((comp f).map Nd.pv).length) h (by simpa using hi); simpa using this
    rw [hi', List.drop_length] at hd
    exact le_bool (by rw [← hd]; rfl)
theorem rd_errors (m : Mo) (acts : List Act) (f : List Nd) (hf : FitM m) (hS : ∀ a, a ∈ acts → SmA a) : PureFn Tryz.prog 37 [m.pv, actsPV acts, fpv f] (.int .i64 (reqD m acts f)) := by
  have e1 : ((m.val.map u64).length : Int) = (m.val.length : Int) := by simp
  have e2 : ((m.rel.map rowPV).length : Int) = (m.rel.length : Int) := by simp
  have hM := rd_Check m acts hf hS
  have hC := ref_Check f
  have hF := ref_Frags f
  have hT := ref_Fits f (m.rel.length : Int) (m.val.length : Int)
  rw [← e1, ← e2] at hT
  refine PureFn.introC [4, 7] mixed (fn := Tryz.f37) rfl rfl rfl fun M w0 => ?_
  (try conv=>whnf);repeat' (first|(refine PureFn.dcq (f := 13) rfl ?_;try conv=>whnf)|(refine ⟨_, _, hM, ?_, ?_⟩;(focus first|(refine ⟨?_, ?_, trivial⟩<;>first|exact PLe.refl _|exact PLe.nil)|exact trivial);try conv=>whnf)|fail)
  refine ⟨{ _x : Unit // chkD m acts = 0 }, fun _ => [(1, .pv (actsPV acts)), (2, .pv (fpv f)), (3, .ref 0 0)], fun _ => 1, fun _ => [(0, .var (cellsM m))], ?_, ?_⟩
  · (try conv=>whnf);repeat' (first|(apply And.intro<;>try conv=>whnf)|(intro h;try conv=>whnf)|fail)
    · refine le_int ?_
      rw [reqD, show (chkD m acts != 0) = true from h]; rfl
    · exact ⟨⟨(), by simpa using h⟩, (by refine Wk.of ?_ ?_ rfl rfl rfl<;>repeat' (first|exact trivial|exact WkD.same _|exact WkO.same _ _ rfl|refine ⟨?_, ?_⟩|fail))⟩
  rintro ⟨_, h0⟩
  (try conv=>whnf);repeat' (first|(refine PureFn.dcq (f := 60) rfl ?_;try conv=>whnf)|(refine ⟨_, _, hC, ?_, ?_⟩;(focus first|(refine ⟨?_, trivial⟩<;>first|exact PLe.refl _|exact PLe.nil)|exact trivial);try conv=>whnf)|fail)
  refine ⟨{ _x : Unit // check f = 0 }, fun _ => [(1, .pv (actsPV acts)), (2, .pv (fpv f)), (3, .ref 0 0)], fun _ => 1, fun _ => [(0, .var (cellsM m))], ?_, ?_⟩
  · (try conv=>whnf);repeat' (first|(apply And.intro<;>try conv=>whnf)|(intro h;try conv=>whnf)|fail)
    · refine le_int ?_
      rw [reqD, h0, show (check f != 0) = true from h]; rfl
    · exact ⟨⟨(), by simpa using h⟩, (by refine Wk.of ?_ ?_ rfl rfl rfl<;>repeat' (first|exact trivial|exact WkD.same _|exact WkO.same _ _ rfl|refine ⟨?_, ?_⟩|fail))⟩
  rintro ⟨_, h1⟩
  have hcn := comp_can h1
  have hci : ∀ x, x ∈ comp f → x.op = 17 → 0 ≤ x.i := fun x hx h17 => by
    obtain ⟨i, hi⟩ := List.mem_iff_getElem?.1 hx
    exact ((hcn.ok i x hi).act h17).1
  have hK := rd_Named acts f hci
  (try conv=>whnf);repeat' (first|(apply And.intro<;>try conv=>whnf)|(intro h;try conv=>whnf)|(refine PureFn.dcq (f := 61) rfl ?_;try conv=>whnf)|(refine PureFn.dcq (f := 62) rfl ?_;try conv=>whnf)|(refine PureFn.dcq (f := 63) rfl ?_;try conv=>whnf)|(refine ⟨_, _, hF, ?_, ?_⟩;(focus first|(refine ⟨?_, trivial⟩<;>first|exact PLe.refl _|exact PLe.nil)|exact trivial);try conv=>whnf)|(refine ⟨_, _, hT, ?_, ?_⟩;(focus first|(refine ⟨?_, ?_, ?_, trivial⟩<;>first|exact PLe.refl _|exact PLe.nil)|exact trivial);try conv=>whnf)|(refine ⟨_, _, hK, ?_, ?_⟩;(focus first|(refine ⟨?_, ?_, trivial⟩<;>first|exact PLe.refl _|exact PLe.nil)|exact trivial);try conv=>whnf)|fail)
  · have h2 : (nand64' (frags f : Nat) 207 != 0) = true := h
    refine le_int ?_
    rw [reqD, h0, h1, h2]; rfl
  · rename_i h2
    have h2 : (nand64' (frags f : Nat) 207 != 0) = false := h2
    have h3 : (!fits f (m.rel.length : Int) (m.val.length : Int)) = true := by rw [← e1, ← e2]; exact h
    refine le_int ?_
    rw [reqD, h0, h1, h2, h3]; rfl
  · rename_i h2 h3
    have h2 : (nand64' (frags f : Nat) 207 != 0) = false := h2
    have h3 : (!fits f (m.rel.length : Int) (m.val.length : Int)) = false := by rw [← e1, ← e2]; exact h3
    have h4 : (comp f).any (badA acts) = true := by simpa using h
    refine le_int ?_
    rw [reqD, h0, h1, h2, h3, h4]; rfl
  · rename_i h2 h3
    have h2 : (nand64' (frags f : Nat) 207 != 0) = false := h2
    have h3 : (!fits f (m.rel.length : Int) (m.val.length : Int)) = false := by rw [← e1, ← e2]; exact h3
    have h4 : (comp f).any (badA acts) = false := by simpa using h
    refine le_int ?_
    rw [reqD, h0, h1, h2, h3, h4]; rfl
end Go.Proofs.YtlaolpkgabknfaaGreatDoor
set_option maxRecDepth 100000
set_option maxHeartbeats 4000000
namespace Go.Proofs.YtlaolpkgabknfaaGreatDoor
open Go Go.Dv

theorem rd_spread (s : Nat) (l : List Nat) (hl : l.length ≤ 64) (hw : ∀ w, w ∈ l → w < 64) : PureFn Tryz.prog 110 [u64 s, intsPV l] (u64 (sprG s l 0 0)) := by
  refine PureFn.intro mixed (fn := Tryz.f110) rfl rfl rfl fun M w0 => ?_
  try conv=>whnf
  refine ⟨{ q : Nat × Nat // q.1 ≤ l.length ∧ q.2 < 2 ^ 64 ∧ sprG s (l.drop q.1) q.1 q.2 = sprG s l 0 0 }, fun q => [(0, .pv (u64 s)), (1, .pv (intsPV l)), (5, .pv (u64 q.1.2)), (6, .pv (i64 q.1.1))], fun _ => 0, fun _ => [], fun q => l.length - q.1.1, ⟨⟨(0, 0), Nat.zero_le _, by decide, rfl⟩, (by refine Wk.of ?_ ?_ rfl rfl rfl<;>repeat' (first|exact trivial|exact WkD.same _|refine ⟨?_, ?_⟩|fail))⟩, ?_⟩
  rintro ⟨⟨i, acc⟩, hi, ha, hd⟩
  simp only at hi ha hd
  (try conv=>whnf);repeat' (first|(apply And.intro<;>try conv=>whnf)|(intro h;try conv=>whnf)|fail)
  · have hi' : i < l.length := by simpa using lt_dec h
    obtain ⟨w, hx, hxw⟩ : ∃ y, l[i]? = some y ∧ l.getD i 0 = y := ⟨_, getD_mem hi', rfl⟩
    have hwn := hw w (List.mem_iff_getElem?.2 ⟨_, hx⟩)
    have hH := rm_Has s i (by omega)
    have hix := idx_map (g := i64) hx
    rw [sprG_drop hx] at hd
    clear h
    (try conv=>whnf);repeat' (first|(apply And.intro<;>try conv=>whnf)|(intro h;try conv=>whnf)|(apply infoT;rfl)|(refine ⟨_, _, rfl, idx_map (by with_reducible assumption), rfl, ?_⟩;try conv=>whnf)|(refine PureFn.dcq (f := 85) rfl ?_;try conv=>whnf)|(refine ⟨_, _, hH, ?_, ?_⟩;(focus first|(refine ⟨?_, ?_, trivial⟩<;>first|exact PLe.refl _|exact PLe.nil)|exact trivial);try conv=>whnf)|fail)
    · exact Int.natCast_nonneg _
    · have h : s.testBit i = true := h
      rw [h, cond_true] at hd
      have hor : orU (acc : Nat) (shlU 1 (w : Nat)) = ((acc ||| 2 ^ w : Nat) : Int) := by
        rw [show shlU 1 (w : Nat) = ((2 ^ w : Nat) : Int) from shlU_one hwn, orU_nat ha (Nat.pow_lt_pow_right (by decide) hwn)]
      refine ⟨⟨(i + 1, acc ||| 2 ^ w), hi', Nat.or_lt_two_pow ha (Nat.pow_lt_pow_right (by decide) hwn), hd⟩, by show l.length - (i + 1) < l.length - i; omega, ?_⟩
      (refine Wk.of ?_ ?_ rfl rfl rfl<;>repeat' (first|exact trivial|exact WkD.same _|refine WkD.int ?_|refine ⟨?_, ?_⟩|(refine wrapA ?_ ?_ ?_;(focus simp;done);(focus (try dsimp only);omega);(focus (try dsimp only);omega))|fail))
      exact hor
    · have h : s.testBit i = false := h
      rw [h, cond_false, Nat.or_zero] at hd
      exact ⟨⟨(i + 1, acc), hi', ha, hd⟩, by show l.length - (i + 1) < l.length - i; omega, (by refine Wk.of ?_ ?_ rfl rfl rfl<;>repeat' (first|exact trivial|exact WkD.same _|refine WkD.int ?_|refine ⟨?_, ?_⟩|(refine wrapA ?_ ?_ ?_;(focus simp;done);(focus (try dsimp only);omega);(focus (try dsimp only);omega))|fail))⟩
  · have hi' : i = l.length := by have := ge_dec (m := (l.map i64).length) h (by simpa using hi); simpa using this
    rw [hi', List.drop_length] at hd
    have hd : acc = sprG s l 0 0 := hd
    subst hd
    exact .refl _
theorem rd_needed (c : List Nd) (root : Nat) (hr : root < c.length) (hlen : c.length ≤ 1000) (hc : Okl c) : PureFn Tryz.prog 65 [fpv c, i64 root] (.sl ((needL c root).map PV.bool)) := by
  refine PureFn.introC [11] mixed (fn := Tryz.f65) rfl rfl rfl fun M w0 => ?_
  try conv=>whnf
  refine ⟨{ i : Nat // i ≤ root + 1 }, fun i => [(0, .pv (fpv c)), (1, .pv (i64 root)), (5, .buf 0 (((List.range i.1).map fun j => j == root).map PV.bool).length), (6, .pv (i64 i.1))], fun _ => 1, fun i => [(0, .arr 1 (((List.range i.1).map fun j => j == root).map PV.bool))], fun i => root + 1 - i.1, ⟨⟨0, Nat.zero_le _⟩, (by refine Wk.of ?_ ?_ rfl rfl rfl<;>repeat' (first|exact trivial|exact WkD.same _|exact WkD.new' rfl rfl rfl|exact WkO.new _ _ rfl|exact rfl|refine ⟨?_, ?_⟩|fail))⟩, ?_⟩
  rintro ⟨i, hi⟩
  (try conv=>whnf);repeat' (first|(apply And.intro<;>try conv=>whnf)|(intro h;try conv=>whnf)|(apply cellsI;rfl)|(apply szI;rfl)|fail)
  · show (((List.range i).map fun j => j == root).map PV.bool).length + 1 ≤ 4294967296
    simp; omega
  · have hi' : i ≤ root := by have := of_decide_eq_true (show decide ((i : Int) ≤ (root : Int)) = true from h); omega
    have hb : ((i : Int) == (root : Int)) = (i == root) := by
      rw [Bool.eq_iff_iff]; simp only [beq_iff_eq]; omega
    have e : ((List.range (i + 1)).map fun j => j == root).map PV.bool = ((List.range i).map fun j => j == root).map PV.bool ++ [PV.bool ((i : Int) == (root : Int))] := by
      rw [List.range_succ, List.map_append, List.map_append, hb]; rfl
    refine ⟨⟨i + 1, by omega⟩, by show root + 1 - (i + 1) < root + 1 - i; omega, Wk.of ?_ ⟨.same _ _ (congrArg (fun z => some (DObj.arr 1 z)) e.symm), trivial, trivial⟩ rfl rfl rfl⟩
    (repeat' (first | (exact trivial) | (exact WkD.same _) | (exact WkD.eq (congrArg (fun z => DV.buf 0 (List.length z)) e.symm)) | (exact WkD.int (wrapA (by simp) (by (try dsimp only); omega) (by (try dsimp only); omega))) | (refine ⟨?_, ?_⟩) | fail))
  have hi' : i = root + 1 := by have := of_decide_eq_false (show decide ((i : Int) ≤ (root : Int)) = false from h); omega
  subst hi'
  clear h
  refine ⟨{ q : Int × List Bool // -1 ≤ q.1 ∧ q.1 ≤ root ∧ q.2.length = root + 1 ∧ needG c (q.1 + 1).toNat q.2 = needL c root }, fun q => [(0, .pv (fpv c)), (5, .buf 0 (q.1.2.map PV.bool).length), (7, .pv (.int .i64 q.1.1))], fun _ => 1, fun q => [(0, .arr 1 (q.1.2.map PV.bool))], fun q => (q.1.1 + 1).toNat, ⟨⟨((root : Int), needI root), by omega, Int.le_refl _, by simp [needI], by rw [show ((root : Int) + 1).toNat = root + 1 by omega]; rfl⟩, (by refine Wk.of ?_ ?_ rfl rfl rfl<;>repeat' (first|exact trivial|exact WkD.same _|exact WkO.same _ _ rfl|refine ⟨?_, ?_⟩|fail))⟩, ?_⟩
  rintro ⟨⟨z, l⟩, hz1, hz2, hl, hd⟩
  simp only at hz1 hz2 hl hd
  (try conv=>whnf);repeat' (first|(apply And.intro<;>try conv=>whnf)|(intro h;try conv=>whnf)|(apply bleI;rfl)|fail)
  · have hz := of_decide_eq_true (show decide (z ≥ 0) = true from h)
    obtain ⟨k, rfl⟩ : ∃ k : Nat, z = k := ⟨z.toNat, by omega⟩
    clear h
    rw [show ((k : Int) + 1).toNat = k + 1 by omega, needG] at hd
    obtain ⟨x, hx, hxd⟩ : ∃ y, c[k]? = some y ∧ c.getD k ⟨0, 0, 0, 0, 0, 0⟩ = y := ⟨_, getD_mem (by omega), rfl⟩
    rw [hxd, nstep] at hd
    have hok := hc k x hx
    have hix := idx_map (g := Nd.pv) hx
    have hkl : k < (l.map PV.bool).length := by rw [List.length_map]; omega
    have hget : (l.map PV.bool)[k]? = some (PV.bool (l.getD k false)) := by rw [List.getElem?_map, getD_mem (d := false) (by omega)]; rfl
    obtain ⟨b, hb⟩ : ∃ b, l.getD k false = b := ⟨_, rfl⟩
    rw [hb] at hget hd
    obtain ⟨op, fi, ei, gi, xx, yy⟩ := x
    have hxk : kidX ⟨op, fi, ei, gi, xx, yy⟩ = true → 0 ≤ xx ∧ xx < k := fun h => hok.x (by
      unfold kidX at h
      cases hu : usesX op with
      | true => rfl
      | false => rw [show usesX (Nd.op ⟨op, fi, ei, gi, xx, yy⟩) = false from hu] at h; cases h)
    have hyk : kidY ⟨op, fi, ei, gi, xx, yy⟩ = true → 0 ≤ yy ∧ yy < k := fun h => hok.y (by
      unfold kidY at h
      cases hu : usesY op with
      | true => rfl
      | false => rw [show usesY (Nd.op ⟨op, fi, ei, gi, xx, yy⟩) = false from hu] at h; cases h)
    refine ⟨{ l1 : List Bool // l1 = bif b then setX ⟨op, fi, ei, gi, xx, yy⟩ l else l }, fun l1 => [(0, .pv (fpv c)), (5, .buf 0 (l1.1.map PV.bool).length), (7, .pv (i64 k))], fun _ => 1, fun l1 => [(0, .arr 1 (l1.1.map PV.bool))], ?_, ?_⟩
    · rcases Bool.eq_false_or_eq_true b with hbt | hbf
      · (try conv=>whnf);repeat' (first|(apply And.intro<;>try conv=>whnf)|fail)
        refine ⟨k, rfl, hkl, ?_⟩
        (try conv=>whnf);repeat' (first|(apply And.intro<;>try conv=>whnf)|(intro h;try conv=>whnf)|apply True.intro|(apply infoT;rfl)|(apply WhenQ.mk;(try conv=>whnf);rotate_left;(try conv=>whnf);rotate_right)|with_reducible assumption|(refine ⟨_, _, rfl, idx_map (by with_reducible assumption), rfl, ?_⟩;try conv=>whnf)|(apply ex2;(focus with_reducible assumption);try conv=>whnf)|(refine PureFn.dcq (f := 68) rfl ?_;try conv=>whnf)|(refine ⟨_, _, ref_UsesX ?_, ?_, ?_⟩;rotate_left 1;(focus first|(refine ⟨?_, trivial⟩<;>first|exact PLe.refl _|exact PLe.nil)|exact trivial);try conv=>whnf)|fail)
        · have hk1 : kidX ⟨op, fi, ei, gi, xx, yy⟩ = true := by
            have h9 : (bif (bif b then usesX op else false) then (op != 17) else false) = true := h
            rw [hbt, cond_true] at h9
            exact h9
          have hx2 := hxk hk1
          obtain ⟨X, hX⟩ : ∃ X : Nat, xx = X := ⟨xx.toNat, by omega⟩
          refine ⟨X, hX, ?_, ?_⟩
          · show X < (l.map PV.bool).length
            omega
          have hgX : (l.map PV.bool)[X]? = some (PV.bool (l.getD X false)) := by rw [List.getElem?_map, getD_mem (d := false) (by omega)]; rfl
          (try conv=>whnf);repeat' (first|(apply And.intro<;>try conv=>whnf)|exact Nat.le_refl 1|(apply ex2;(focus with_reducible assumption);try conv=>whnf)|fail)
          refine ⟨⟨l.set X true, by rw [hbt, cond_true, setX, hk1, cond_true]; simp [hX]⟩, ?_⟩
          (refine Wk.of ?_ ?_ rfl rfl rfl<;>repeat' (first|exact trivial|exact WkD.same _|refine ⟨?_, ?_⟩|fail))
          · exact WkD.eq (congrArg (DV.buf 0) (by simp))
          · exact WkO.same _ _ (congrArg (fun z => some (DObj.arr 1 z)) (by rw [List.map_set]; rfl))
        · have hk1 : kidX ⟨op, fi, ei, gi, xx, yy⟩ = false := by
            have h9 : (bif (bif b then usesX op else false) then (op != 17) else false) = false := h
            rw [hbt, cond_true] at h9
            exact h9
          refine ⟨⟨l, by rw [hbt, cond_true, setX, hk1]; rfl⟩, (by refine Wk.of ?_ ?_ rfl rfl rfl<;>repeat' (first|exact trivial|exact WkD.same _|exact WkO.same _ _ rfl|refine ⟨?_, ?_⟩|fail))⟩
      · have g1 : (bif b then false else false) = false := by rw [hbf]; rfl
        have g2 : (bif (bif b then false else false) then false else false) = false := by rw [hbf]; rfl
        (try conv=>whnf);repeat' (first|(apply And.intro<;>try conv=>whnf)|fail)
        refine ⟨k, rfl, hkl, ?_⟩
        (try conv=>whnf);repeat' (first|(apply And.intro<;>try conv=>whnf)|(intro h;first|with_reducible exact tf h (by assumption)|try conv=>whnf)|(apply whenOff;(focus with_reducible assumption);try conv=>whnf)|(apply ex2;(focus with_reducible assumption);try conv=>whnf)|fail)
        refine ⟨⟨l, by rw [hbf]; rfl⟩, (by refine Wk.of ?_ ?_ rfl rfl rfl<;>repeat' (first|exact trivial|exact WkD.same _|exact WkO.same _ _ rfl|refine ⟨?_, ?_⟩|fail))⟩
    rintro ⟨l1, e1⟩
    have hl1 : l1.length = root + 1 := by rw [e1]; cases b <;> simp [hl, (set_len _ _).1]
    have hkl1 : k < (l1.map PV.bool).length := by rw [List.length_map]; omega
    have hb1 : l1.getD k false = b := by
      rw [e1]
      cases b with
      | false => exact hb
      | true =>
        show (setX _ l).getD k false = true
        unfold setX
        cases hkx : kidX ⟨op, fi, ei, gi, xx, yy⟩ with
        | false => exact hb
        | true =>
          have := hxk hkx
          rw [cond_true, getD_set, if_neg (by simp only; omega)]; exact hb
    have hget1 : (l1.map PV.bool)[k]? = some (PV.bool b) := by rw [List.getElem?_map, getD_mem (d := false) (by omega), hb1]; rfl
    rcases Bool.eq_false_or_eq_true b with hbt | hbf
    · rw [hbt, cond_true] at hd
      rw [hbt, cond_true] at e1
      rw [← e1] at hd
      (try conv=>whnf);repeat' (first|(apply And.intro<;>try conv=>whnf)|fail)
      refine ⟨k, rfl, hkl1, ?_⟩
      (try conv=>whnf);repeat' (first|(apply And.intro<;>try conv=>whnf)|(intro h;try conv=>whnf)|apply True.intro|(apply infoT;rfl)|(apply WhenQ.mk;(try conv=>whnf);rotate_left;(try conv=>whnf);rotate_right)|with_reducible assumption|(refine ⟨_, _, rfl, idx_map (by with_reducible assumption), rfl, ?_⟩;try conv=>whnf)|(apply ex2;(focus with_reducible assumption);try conv=>whnf)|(refine PureFn.dcq (f := 69) rfl ?_;try conv=>whnf)|(refine ⟨_, _, ref_UsesY ?_, ?_, ?_⟩;rotate_left 1;(focus first|(refine ⟨?_, trivial⟩<;>first|exact PLe.refl _|exact PLe.nil)|exact trivial);try conv=>whnf)|fail)
      · have hk1 : kidY ⟨op, fi, ei, gi, xx, yy⟩ = true := by
          have h9 : (bif (bif b then usesY op else false) then (op != 16) else false) = true := h
          rw [hbt, cond_true] at h9
          exact h9
        have hy2 := hyk hk1
        obtain ⟨Y, hY⟩ : ∃ Y : Nat, yy = Y := ⟨yy.toNat, by omega⟩
        refine ⟨Y, hY, ?_, ?_⟩
        · show Y < (l1.map PV.bool).length
          omega
        have hgY : (l1.map PV.bool)[Y]? = some (PV.bool (l1.getD Y false)) := by rw [List.getElem?_map, getD_mem (d := false) (by omega)]; rfl
        rw [setY, hk1, cond_true] at hd
        have hd : needG c k (l1.set Y true) = needL c root := by rw [← hd]; simp [hY]
        (try conv=>whnf);repeat' (first|(apply And.intro<;>try conv=>whnf)|exact Nat.le_refl 1|(apply ex2;(focus with_reducible assumption);try conv=>whnf)|fail)
        refine ⟨⟨((k : Int) - 1, l1.set Y true), by omega, by omega, by rw [List.length_set]; exact hl1, by rw [show (((k : Int) - 1) + 1).toNat = k by omega]; exact hd⟩, by show ((k : Int) - 1 + 1).toNat < ((k : Int) + 1).toNat; omega, ?_⟩
        (refine Wk.of ?_ ?_ rfl rfl rfl<;>repeat' (first|exact trivial|exact WkD.same _|refine WkD.int ?_|refine ⟨?_, ?_⟩|(refine wrapA ?_ ?_ ?_;(focus simp;done);(focus (try dsimp only);omega);(focus (try dsimp only);omega))|fail))
        · exact WkD.eq (congrArg (DV.buf 0) (by simp))
        · exact WkO.same _ _ (congrArg (fun z => some (DObj.arr 1 z)) (by rw [List.map_set]; rfl))
      · have hk1 : kidY ⟨op, fi, ei, gi, xx, yy⟩ = false := by
          have h9 : (bif (bif b then usesY op else false) then (op != 16) else false) = false := h
          rw [hbt, cond_true] at h9
          exact h9
        rw [setY, hk1, cond_false] at hd
        exact ⟨⟨((k : Int) - 1, l1), by omega, by omega, hl1, by rw [show (((k : Int) - 1) + 1).toNat = k by omega]; exact hd⟩, by show ((k : Int) - 1 + 1).toNat < ((k : Int) + 1).toNat; omega, (by refine Wk.of ?_ ?_ rfl rfl rfl<;>repeat' (first|exact trivial|exact WkD.same _|exact WkO.same _ _ rfl|refine WkD.int ?_|refine ⟨?_, ?_⟩|(refine wrapA ?_ ?_ ?_;(focus simp;done);(focus (try dsimp only);omega);(focus (try dsimp only);omega))|fail))⟩
    · have g1 : (bif b then false else false) = false := by rw [hbf]; rfl
      have g2 : (bif (bif b then false else false) then false else false) = false := by rw [hbf]; rfl
      (try conv=>whnf);repeat' (first|(apply And.intro<;>try conv=>whnf)|fail)
      refine ⟨k, rfl, hkl1, ?_⟩
      (try conv=>whnf);repeat' (first|(apply And.intro<;>try conv=>whnf)|(intro h;first|with_reducible exact tf h (by assumption)|try conv=>whnf)|(apply whenOff;(focus with_reducible assumption);try conv=>whnf)|(apply ex2;(focus with_reducible assumption);try conv=>whnf)|fail)
      rw [hbf, cond_false] at e1 hd
      subst e1
      exact ⟨⟨((k : Int) - 1, l1), by omega, by omega, hl1, by rw [show (((k : Int) - 1) + 1).toNat = k by omega]; exact hd⟩, by show ((k : Int) - 1 + 1).toNat < ((k : Int) + 1).toNat; omega, (by refine Wk.of ?_ ?_ rfl rfl rfl<;>repeat' (first|exact trivial|exact WkD.same _|exact WkO.same _ _ rfl|refine WkD.int ?_|refine ⟨?_, ?_⟩|(refine wrapA ?_ ?_ ?_;(focus simp;done);(focus (try dsimp only);omega);(focus (try dsimp only);omega))|fail))⟩
  have hz : z = -1 := by have := of_decide_eq_false (show decide (z ≥ 0) = false from h); omega
  subst hz
  have hd : l = needL c root := hd
  subst hd
  exact .refl _
end Go.Proofs.YtlaolpkgabknfaaGreatDoor
set_option maxRecDepth 100000
set_option maxHeartbeats 4000000
namespace Go.Proofs.YtlaolpkgabknfaaGreatDoor
open Go Go.Dv

theorem req_check {m : Mo} {acts : List Act} {f : List Nd} (h : reqD m acts f = 0) : check f = 0 := (reqD_iff.1 h).2.1
/-- How many nodes are announcements or events. -/
def dynN (x : Nd) : Bool := bif x.op == 16 then true else x.op == 17
def shC (f : List Nd) : Nat := (f.filter dynN).length
end Go.Proofs.YtlaolpkgabknfaaGreatDoor
set_option maxRecDepth 100000
set_option maxHeartbeats 4000000
namespace Go.Proofs.YtlaolpkgabknfaaGreatDoor
open Go Go.Dv

theorem pairsE_ne {p : Nat → Nat} {w : Nat} : ∀ e, (pairsE p w e).Pairwise (· ≠ ·)
  | 0 => .nil
  | e + 1 => by
    rw [pairsE]
    cases (p e).testBit w with
    | false => exact pairsE_ne e
    | true =>
      rw [cond_true, List.pairwise_append]
      refine ⟨pairsE_ne e, List.pairwise_singleton _ _, fun a ha b hb => ?_⟩
      rw [List.mem_singleton.1 hb]
      have := (pairsE_mem.1 ha).2.1
      intro q
      rw [q] at this
      exact Nat.lt_irrefl _ this
theorem pairsW_ne {p : Nat → Nat} {k : Nat} : ∀ n, (pairsW p k n).Pairwise (· ≠ ·)
  | 0 => .nil
  | n + 1 => by
    rw [pairsW, List.pairwise_append]
    refine ⟨pairsW_ne n, pairsE_ne k, fun a ha b hb => ?_⟩
    have h1 := (pairsW_mem.1 ha).1
    have h2 := (pairsE_mem.1 hb).1
    intro q
    rw [q] at h1
    omega
section
variable {m : Mo} {n : Nat} {a : Act}
end
end Go.Proofs.YtlaolpkgabknfaaGreatDoor
set_option maxRecDepth 100000
set_option maxHeartbeats 8000000
namespace Go.Proofs.YtlaolpkgabknfaaGreatDoor
open Go Go.Dv

def badSt (acts : List Act) (xa xe : Int) : Bool := bif (bif (bif decide (xa < 0) then true else decide (xa ≥ (acts.length : Int))) then true else decide (xe < 0)) then true else decide (xe ≥ ((acts.getD xa.toNat noAct).pre.length : Int))
def stepI (acts : List Act) (m : Mo) (w xa xe : Int) : Mo × Int × Int :=
  bif badSt acts xa xe then (noMo, 0, 6) else
  bif !(atCI m w ((acts.getD xa.toNat noAct).pre.getD xe.toNat [])).1 then (noMo, 0, 11) else
  bif (updI m (acts.getD xa.toNat noAct)).2.2 != 0 then (noMo, 0, (updI m (acts.getD xa.toNat noAct)).2.2) else
  ((updI m (acts.getD xa.toNat noAct)).1, ixP (updI m (acts.getD xa.toNat noAct)).2.1 w xe, 0)
theorem dy_step (m : Mo) (acts : List Act) (w xa xe : Int) (hf : FitM m) (hS : ∀ a, a ∈ acts → SmA a) : PureFn Tryz.prog 45 [m.pv, actsPV acts, .int .i64 w, .agg [.int .i64 xa, .int .i64 xe]] (atPV (stepI acts m w xa xe)) := by
  have e1 : ((acts.map Act.pv).length : Int) = (acts.length : Int) := by simp
  refine PureFn.introC [3, 7] mixed (fn := Tryz.f45) rfl rfl rfl fun M w0 => ?_
  try conv=>whnf
  refine ⟨{ _x : Unit // badSt acts xa xe = false }, fun _ => [(1, .pv (actsPV acts)), (2, .pv (.int .i64 w)), (4, .ref 0 0), (7, .ref 1 0), (8, .ref 2 0)], fun _ => 3, fun _ => [(0, .var (cellsM m)), (1, .var [.pv (.int .i64 xa), .pv (.int .i64 xe)]), (2, .var [.pv (.int .i64 0), .pv .nil, .pv .nil])], ?_, ?_⟩
  · have hno : badSt acts xa xe = true → PLe (.tup [.agg [.int .i64 0, .nil, .nil], .int .i64 0, .int .i64 6]) (atPV (stepI acts m w xa xe)) := fun hb => by
      rw [stepI, hb]
      exact PLe.tups ⟨le_noMo, .refl _, .refl _, trivial⟩
    cases h1 : decide (xa < 0) with
    | true =>
      have hb : badSt acts xa xe = true := by rw [badSt, h1]; rfl
      have f1 : (!decide (xa < 0)) = false := by rw [h1]; rfl
      have f2 : (!(bif decide (xa < 0) then true else false)) = false := by rw [h1]; rfl
      have f3 : (!(bif (bif decide (xa < 0) then true else false) then true else false)) = false := by rw [h1]; rfl
      have f4 : (bif (bif (bif decide (xa < 0) then true else false) then true else false) then true else false) = true := by rw [h1]; rfl
      (try conv=>whnf);repeat' (first|(apply And.intro<;>try conv=>whnf)|(intro h;first|with_reducible exact tf (by assumption) h|try conv=>whnf)|(apply whenOff;(focus with_reducible assumption);try conv=>whnf)|(apply not_of;with_reducible assumption)|(refine lin_plan (by kernel_rfl) ?_;try conv=>whnf)|fail)
      exact hno hb
    | false =>
      cases h2 : decide (xa ≥ ((acts.map Act.pv).length : Int)) with
      | true =>
        have hb : badSt acts xa xe = true := by rw [badSt, h1, ← e1, h2]; rfl
        have f2 : (!(bif decide (xa < 0) then true else decide (xa ≥ ((acts.map Act.pv).length : Int)))) = false := by rw [h1, h2]; rfl
        have f3 : (!(bif (bif decide (xa < 0) then true else decide (xa ≥ ((acts.map Act.pv).length : Int))) then true else false)) = false := by rw [h1, h2]; rfl
        have f4 : (bif (bif (bif decide (xa < 0) then true else decide (xa ≥ ((acts.map Act.pv).length : Int))) then true else false) then true else false) = true := by rw [h1, h2]; rfl
        (try conv=>whnf);repeat' (first|(apply And.intro<;>try conv=>whnf)|(intro h;first|with_reducible exact tf (by assumption) h|try conv=>whnf)|apply True.intro|(apply whenOff;(focus with_reducible assumption);try conv=>whnf)|(apply WhenQ.mk;(try conv=>whnf);rotate_left;(try conv=>whnf);rotate_right)|with_reducible assumption|(apply not_of;with_reducible assumption)|(refine lin_plan (by kernel_rfl) ?_;try conv=>whnf)|fail)
        exact hno hb
      | false =>
        have g1 := of_decide_eq_false h1
        have g2 := of_decide_eq_false h2
        rw [e1] at g2
        obtain ⟨q, eq⟩ : ∃ q : Nat, xa = q := ⟨xa.toNat, by omega⟩
        subst eq
        obtain ⟨a, ha, had⟩ : ∃ a, acts[q]? = some a ∧ acts.getD q noAct = a := ⟨_, getD_mem (by omega), rfl⟩
        cases h3 : decide (xe < 0) with
        | true =>
          have hb : badSt acts (q : Int) xe = true := by rw [badSt, h1, ← e1, h2, h3]; rfl
          have f3 : (!(bif (bif decide ((q : Int) < 0) then true else decide ((q : Int) ≥ ((acts.map Act.pv).length : Int))) then true else decide (xe < 0))) = false := by rw [h1, h2, h3]; rfl
          have f4 : (bif (bif (bif decide ((q : Int) < 0) then true else decide ((q : Int) ≥ ((acts.map Act.pv).length : Int))) then true else decide (xe < 0)) then true else false) = true := by rw [h1, h2, h3]; rfl
          (try conv=>whnf);repeat' (first|(apply And.intro<;>try conv=>whnf)|(intro h;first|with_reducible exact tf (by assumption) h|try conv=>whnf)|apply True.intro|(apply whenOff;(focus with_reducible assumption);try conv=>whnf)|(apply WhenQ.mk;(try conv=>whnf);rotate_left;(try conv=>whnf);rotate_right)|with_reducible assumption|(apply not_of;with_reducible assumption)|(refine lin_plan (by kernel_rfl) ?_;try conv=>whnf)|fail)
          exact hno hb
        | false =>
          have hbe : badSt acts (q : Int) xe = decide (xe ≥ ((a.pre.map fpv).length : Int)) := by rw [badSt, h1, ← e1, h2, h3, Int.toNat_natCast, had, List.length_map]; rfl
          have hk : ∀ b, (bif (bif (bif decide ((q : Int) < 0) then true else decide ((q : Int) ≥ ((acts.map Act.pv).length : Int))) then true else decide (xe < 0)) then true else decide (xe ≥ ((a.pre.map fpv).length : Int))) = b → badSt acts (q : Int) xe = b := fun b h => by
            rw [h1, h2, h3] at h; rw [hbe]; exact h
          (try conv=>whnf);repeat' (first|(apply And.intro<;>try conv=>whnf)|(intro h;try conv=>whnf)|apply True.intro|(apply infoT;rfl)|(apply WhenQ.mk;(try conv=>whnf);rotate_left;(try conv=>whnf);rotate_right)|with_reducible assumption|(apply not_of;with_reducible assumption)|(refine lin_plan (by kernel_rfl) ?_;try conv=>whnf)|(refine ⟨_, _, rfl, idx_map (by with_reducible assumption), rfl, ?_⟩;try conv=>whnf)|fail)
          · exact hno (hk true h)
          · have hb := hk false h
            exact ⟨⟨(), hb⟩, (by refine Wk.of ?_ ?_ rfl rfl rfl<;>repeat' (first|exact trivial|exact WkD.same _|exact WkO.same _ _ rfl|refine ⟨?_, ?_⟩|fail))⟩
  rintro ⟨_, hb⟩
  have hrng : 0 ≤ xa ∧ xa < (acts.length : Int) ∧ 0 ≤ xe ∧ xe < ((acts.getD xa.toNat noAct).pre.length : Int) := by
    unfold badSt at hb
    cases h1 : decide (xa < 0) with
    | true => rw [h1] at hb; cases hb
    | false =>
      cases h2 : decide (xa ≥ (acts.length : Int)) with
      | true => rw [h1, h2] at hb; cases hb
      | false =>
        cases h3 : decide (xe < 0) with
        | true => rw [h1, h2, h3] at hb; cases hb
        | false =>
          rw [h1, h2, h3] at hb
          have g1 := of_decide_eq_false h1
          have g2 := of_decide_eq_false h2
          have g3 := of_decide_eq_false h3
          have g4 := of_decide_eq_false (show decide (xe ≥ _) = false from hb)
          exact ⟨by omega, by omega, by omega, by omega⟩
  obtain ⟨q, eq⟩ : ∃ q : Nat, xa = q := ⟨xa.toNat, by omega⟩
  obtain ⟨d, ed⟩ : ∃ d : Nat, xe = d := ⟨xe.toNat, by omega⟩
  subst eq
  subst ed
  rw [Int.toNat_natCast] at hrng
  obtain ⟨a, ha, had⟩ : ∃ a, acts[q]? = some a ∧ acts.getD q noAct = a := ⟨_, getD_mem (by omega), rfl⟩
  rw [had] at hrng
  obtain ⟨pre, hx, hpd⟩ : ∃ pre, a.pre[d]? = some pre ∧ a.pre.getD d [] = pre := ⟨_, getD_mem (by omega), rfl⟩
  have hSa := hS a (List.mem_iff_getElem?.2 ⟨q, ha⟩)
  have hA := ck_At m w pre hf
  have hU := pr_Update m a hf hSa.fit hSa.rel hSa.post
  have hul := updI_len m a
  have hst : stepI acts m w (q : Int) (d : Int) = bif !(atCI m w pre).1 then (noMo, 0, 11) else bif (updI m a).2.2 != 0 then (noMo, 0, (updI m a).2.2) else ((updI m a).1, ixP (updI m a).2.1 w (d : Int), 0) := by
    rw [stepI, hb, Int.toNat_natCast, Int.toNat_natCast, had, hpd]; rfl
  rw [hst]
  generalize atCI m w pre = X at hA ⊢
  obtain ⟨ok, oe⟩ := X
  generalize updI m a = Y at hU hul ⊢
  obtain ⟨m1, ps, er⟩ := Y
  have hI := sl_IndexP ps w (d : Int) (by have : ps.length ≤ 64 := hul; omega)
  (try conv=>whnf);repeat' (first|(apply And.intro<;>try conv=>whnf)|(apply infoT;rfl)|(refine ⟨_, _, rfl, idx_map (by with_reducible assumption), rfl, ?_⟩;try conv=>whnf)|fail)
  refine ⟨{ _x : Unit // ok = true }, fun _ => [(2, .pv (.int .i64 w)), (4, .ref 0 0), (7, .ref 1 0), (8, .ref 2 0), (11, .ref 3 0)], fun _ => 4, fun _ => [(0, .var (cellsM m)), (1, .var [.pv (.int .i64 (q : Int)), .pv (.int .i64 (d : Int))]), (2, .var [.pv (.int .i64 0), .pv .nil, .pv .nil]), (3, .var (actDV a))], ?_, ?_⟩
  · (try conv=>whnf);repeat' (first|(apply And.intro<;>try conv=>whnf)|(intro h;try conv=>whnf)|(apply infoT;rfl)|(refine lin_plan (by kernel_rfl) ?_;try conv=>whnf)|(refine ⟨_, _, rfl, idx_map (by with_reducible assumption), rfl, ?_⟩;try conv=>whnf)|(refine ⟨_, (by (conv=>whnf);exact hA), rfl, ?_⟩;try conv=>whnf)|fail)
    · have hn : ok = false := by simpa using h
      subst hn
      exact PLe.tups ⟨le_noMo, .refl _, .refl _, trivial⟩
    · have hn : ok = true := by simpa using h
      exact ⟨⟨(), hn⟩, (by refine Wk.of ?_ ?_ rfl rfl rfl<;>repeat' (first|exact trivial|exact WkD.same _|exact WkO.same _ _ rfl|refine ⟨?_, ?_⟩|fail))⟩
  rintro ⟨_, hok⟩
  subst hok
  (try conv=>whnf);repeat' (first|(apply And.intro<;>try conv=>whnf)|(intro h;try conv=>whnf)|(refine lin_plan (by kernel_rfl) ?_;try conv=>whnf)|(refine PureFn.dcq (f := 82) rfl ?_;try conv=>whnf)|(refine ⟨_, _, hU, ?_, ?_⟩;(focus first|(refine ⟨?_, ?_, trivial⟩<;>first|exact PLe.refl _|exact PLe.nil)|exact trivial);try conv=>whnf)|(refine ⟨_, (by (conv=>whnf);exact hI), rfl, ?_⟩;try conv=>whnf)|fail)
  · rw [show (((m1, ps, er) : Mo × List (Nat × Nat) × Int).2.2 != 0) = true from h]
    exact PLe.tups ⟨le_noMo, .refl _, .refl _, trivial⟩
  rw [show (((m1, ps, er) : Mo × List (Nat × Nat) × Int).2.2 != 0) = false from h]
  exact PLe.tups ⟨.refl _, .refl _, .refl _, trivial⟩
end Go.Proofs.YtlaolpkgabknfaaGreatDoor
set_option maxRecDepth 100000
set_option maxHeartbeats 8000000
namespace Go.Proofs.YtlaolpkgabknfaaGreatDoor
open Go Go.Dv

theorem frag207 : ∀ op : Nat, op < 22 → (frag (op : Int)).toNat &&& 207 = (frag (op : Int)).toNat → op ≤ 13 ∨ op = 16 ∨ op = 17 := by decide
theorem cxd_of {m : Mo} {acts : List Act} {f : List Nd} (h : reqD m acts f = 0) : CxD m.rel.length m.val.length acts (comp f) := by
  obtain ⟨h1, h2, h3⟩ := reqD_iff.1 h
  obtain ⟨n, hD, h8⟩ := chkD_ok h1
  have hA := hD.okm.ag
  have hc := comp_can h2
  have key : ∀ x, x ∈ comp f → (∃ k : Int, OkNd x k) ∧ fragN x &&& 207 = fragN x ∧ agN x < 2 ^ m.rel.length ∧ factN x < 2 ^ m.val.length ∧ badA acts x = false := fun x hx => by
    have := h3 x hx
    simp only [ndQ, Bool.and_eq_true, decide_eq_true_eq] at this
    obtain ⟨i, hi⟩ := List.mem_iff_getElem?.1 hx
    exact ⟨⟨_, hc.ok i x hi⟩, this.1.1.1, this.1.1.2, this.1.2, (Bool.not_eq_true' _).mp this.2⟩
  refine ⟨hc.ok, by have := hc.len; omega, fun x hx => ?_, fun x hx h3 => ?_, fun x hx h9 => ?_, fun x hx hg => ?_, fun x hx h17 => ?_⟩
  · obtain ⟨⟨k, ok⟩, q1, _⟩ := key x hx
    have ho := ok.op
    have := frag207 x.op.toNat (by omega)
    rw [show ((x.op.toNat : Nat) : Int) = x.op by omega] at this
    have := this q1
    omega
  · obtain ⟨⟨k, ok⟩, _, _, q3, _⟩ := key x hx
    have hf := ok.fact h3
    rw [factN, show (x.op == 3) = true by simpa using h3] at q3
    have := (Nat.pow_lt_pow_iff_right (by decide : 1 < 2)).1 (show 2 ^ x.i.toNat < 2 ^ m.val.length from q3)
    omega
  · obtain ⟨⟨k, ok⟩, _, q2, _⟩ := key x hx
    have hia : isAgent x.op = true := by rcases h9 with e | e <;> rw [e] <;> rfl
    have ha := ok.agent hia
    rw [agN, hia] at q2
    have := (Nat.pow_lt_pow_iff_right (by decide : 1 < 2)).1 (show 2 ^ x.i.toNat < 2 ^ m.rel.length from q2)
    omega
  · obtain ⟨⟨k, ok⟩, _, q2, _⟩ := key x hx
    have hia : isAgent x.op = false := by rcases hg with e | e | e <;> rw [e] <;> rfl
    have hig : isGroup x.op = true := by rcases hg with e | e | e <;> rw [e] <;> rfl
    have hgr := ok.group hig
    rw [agN, hia] at q2
    have q2 : x.g.toNat < 2 ^ m.rel.length := q2
    rw [shl_n hA]
    omega
  · obtain ⟨⟨k, ok⟩, _, _, _, q4⟩ := key x hx
    have ha := ok.act h17
    unfold badA at q4
    rw [show (x.op == 17) = true by simpa using h17, cond_true] at q4
    cases hb : decide (x.i ≥ (acts.length : Int)) with
    | true => rw [hb] at q4; cases q4
    | false =>
      rw [hb, cond_false] at q4
      have g1 := of_decide_eq_false hb
      have g2 := of_decide_eq_false q4
      exact ⟨ha.1, by omega, ha.2.2.1, by omega⟩
/-- The evaluation of a node, its objects at other keys. -/
theorem at_R3 {acts : List Act} {c : List Nd} {A F j k e z : Nat} (h : ConE 36 (.pv (.int .i64 (j : Nat))) acts c A F j) {m : Mo} {n : Nat} {err : Int} (hM : ModD acts m n A F) (hE : err = 0 ∨ err = 8)
    {M : Nat → Prop} {w0 : World} {L : DH} {K : DV → DH → Prop} (hne : nodR [z, e, k] = true) (hlt : ([z, e, k].all fun q => Nat.blt q L.next) = true) (h0 : L.lo = 0)
    (hag : agrR (objsOf (H0 m acts c [] err)) L.get [z, e, k] 3) (hks : DV.keyss (memR [z, e, k]) [.ref e 0, .pv (.int .i64 (j : Nat))] = true) (hre : DV.rens (sigR [z, e, k]) [.ref e 0, .pv (.int .i64 (j : Nat))] = [.ref 1 0, .pv (.int .i64 (j : Nat))])
    (hK : ∀ s es' err', PostE acts c m n j err s es' err' → K (.pv (u64 s)) (L.mergeR (rhoR [z, e, k]) (sigR [z, e, k]) (memR [z, e, k]) ⟨3, 0, 3, objsOf (H0 m acts c es' err')⟩)) : DC Tryz.prog M w0 36 [.ref e 0, .pv (.int .i64 (j : Nat))] L K := by
  refine DC.callR [z, e, k] (H0 m acts c [] err) hne hlt h0 hag rfl hks (by rw [hre]; rfl) fun M' => ?_
  rw [hre]
  exact h m n [] err hM (fun k s h => by cases h) hE M' w0 3 _ fun s es' err' hp => ⟨rfl, hK s es' err' hp⟩
theorem at_R3v {acts : List Act} {c : List Nd} {A F j : Nat} (k e z : Nat) {v : Int} (h : ConE 36 (.pv (.int .i64 (j : Nat))) acts c A F j) (hv : v = (j : Int)) {m : Mo} {n : Nat} {err : Int} (hM : ModD acts m n A F) (hE : err = 0 ∨ err = 8)
    {M : Nat → Prop} {w0 : World} {L : DH} {K : DV → DH → Prop} (hne : nodR [z, e, k] = true) (hlt : ([z, e, k].all fun q => Nat.blt q L.next) = true) (h0 : L.lo = 0)
    (hag : agrR (objsOf (H0 m acts c [] err)) L.get [z, e, k] 3) (hks : DV.keyss (memR [z, e, k]) [.ref e 0, .pv (.int .i64 (j : Nat))] = true) (hre : DV.rens (sigR [z, e, k]) [.ref e 0, .pv (.int .i64 (j : Nat))] = [.ref 1 0, .pv (.int .i64 (j : Nat))])
    (hK : ∀ s es' err', PostE acts c m n j err s es' err' → K (.pv (u64 s)) (L.mergeR (rhoR [z, e, k]) (sigR [z, e, k]) (memR [z, e, k]) ⟨3, 0, 3, objsOf (H0 m acts c es' err')⟩)) : DC Tryz.prog M w0 36 [.ref e 0, .pv (.int .i64 v)] L K := by
  subst hv
  exact at_R3 h hM hE hne hlt h0 hag hks hre hK
def evZ (z k : Nat) (m : Mo) (acts : List Act) (c : List Nd) : List DV := [.pv (.int .i64 m.n), .pv (.sl (m.val.map u64)), .pv (.sl (m.rel.map rowPV)), .pv (u64 (2 ^ m.n.toNat - 1)), .pv (actsPV acts), .pv (fpv c), .mp k, .ref z 0]
def dynPV (x : Nat × Int) : PV := .tup [u64 x.1, .int .i64 x.2]
def holPlan : Plan := .one 0 (.one 1 (.one 2 (.one 3 (.one 5 (.one 4 (.one 6 (.one 7 .done)))))))
theorem dy_Holds (m : Mo) (acts : List Act) (f : List Nd) (hf : FitM m) (hS : ∀ a, a ∈ acts → SmA a) : PureFn Tryz.prog 10 [m.pv, actsPV acts, fpv f] (dynPV (dynI m acts f)) := by
  have hQ := dy_request m acts f hf hS
  have hK := fm_Compact f
  refine PureFn.introC [5, 6] mixed (fn := Tryz.f10) rfl rfl rfl fun M w0 => ?_
  (try conv=>whnf);repeat' (first|(apply And.intro<;>try conv=>whnf)|(intro h;try conv=>whnf)|(refine PureFn.dcq (f := 33) rfl ?_;try conv=>whnf)|(refine ⟨_, _, hQ, ?_, ?_⟩;(focus first|(refine ⟨?_, ?_, ?_, trivial⟩<;>first|exact PLe.refl _|exact PLe.nil)|exact trivial);try conv=>whnf)|fail)
  · have h0 : (reqD m acts f != 0) = true := h
    rw [show dynI m acts f = (0, reqD m acts f) by rw [dynI, h0]; rfl]
    exact .refl _
  have h0 : (reqD m acts f != 0) = false := h
  have h00 : reqD m acts f = 0 := by simpa using h0
  have hdy : dynI m acts f = match dvT acts (root f) m with
      | none => (0, 8)
      | some s => (s, 0) := by
    rw [dynI, h0, cond_false]
    cases dvT acts (root f) m <;> rfl
  have hC := cxd_of h00
  obtain ⟨h1, h2, _⟩ := reqD_iff.1 h00
  obtain ⟨n, hD, h8⟩ := chkD_ok h1
  have hcc := comp_can h2
  have hpos := hcc.pos
  have hlen := hcc.len
  have hn1 := hD.okm.n1
  have hn64 := hD.okm.n64
  have hnn : m.n.toNat = n := by rw [hD.okm.nn, Int.toNat_natCast]
  have hroot : tree (comp f) ((comp f).length - 1) = root f := by rw [← root_comp h2]; rfl
  have hat := at_all hC hS (comp f).length ((comp f).length - 1) (by omega) (by omega)
  have hMD : ModD acts m n m.rel.length m.val.length := ⟨hD, rfl, rfl⟩
  refine ⟨Unit, fun _ => [(1, .pv (actsPV acts)), (2, .pv (fpv f)), (3, .ref 0 0), (9, .ref 1 0)], fun _ => 2, fun _ => [(0, .var (cellsM m)), (1, .var [.pv (.int .i64 0)])], ?_, ?_⟩
  · try conv=>whnf
    exact ⟨(), (by refine Wk.of ?_ ?_ rfl rfl rfl<;>repeat' (first|exact trivial|exact WkD.same _|exact WkO.same _ _ rfl|refine ⟨?_, ?_⟩|fail))⟩
  rintro ⟨⟩
  refine ⟨Unit, fun _ => [(9, .ref 1 0), (10, .ref 5 0)], fun _ => 6, fun _ => [(1, .var [.pv (.int .i64 0)]), (4, .mp []), (5, .var (evZ 1 4 m acts (comp f)))], ?_, ?_⟩
  · try conv=>whnf
    refine ⟨holPlan, [6], by kernel_rfl, ?_⟩
    (try conv=>whnf);repeat' (first|(refine ⟨_, (by (conv=>whnf);exact hK), rfl, ?_⟩;try conv=>whnf)|fail)
    refine DC.weaken (DC.intro mixed (fn := Tryz.f35) rfl rfl rfl ?_)
    try conv=>whnf
    refine ⟨inPlan, [], by kernel_rfl, ?_⟩
    (try conv=>whnf);repeat' (first|(apply And.intro<;>try conv=>whnf)|fail)
    · show (0 : Int) ≤ IntKind.wrap .i64 (64 - m.n)
      rw [in_wrap hD.okm.nn hn1 hn64]; omega
    refine ⟨.ref 5 0, 6, [(1, .var [.pv (.int .i64 0)]), (4, .mp []), (5, .var (evZ 1 4 m acts (comp f)))], ?_, ?_⟩
    · refine Wk.of ⟨WkD.same _, trivial⟩ ⟨WkO.same _ _ rfl, trivial, WkO.same _ _ rfl, trivial, WkO.vars rfl ⟨WkD.same _, WkD.same _, WkD.same _, WkD.int ?_, WkD.same _, WkD.same _, WkD.same _, WkD.same _, trivial⟩, trivial, trivial⟩ rfl rfl rfl
      show shrU 18446744073709551615 (IntKind.wrap .i64 (64 - m.n)) = _
      rw [in_wrap hD.okm.nn hn1 hn64, hnn]; exact shr_all hn1 hn64
    try conv=>whnf
    exact ⟨(), (by refine Wk.of ?_ ?_ rfl rfl rfl<;>repeat' (first|exact trivial|exact WkD.same _|exact WkO.same _ _ rfl|refine ⟨?_, ?_⟩|fail))⟩
  rintro ⟨⟩
  try conv=>whnf
  have hw : IntKind.wrap .i64 ((((comp f).map Nd.pv).length : Int) - 1) = (((comp f).length - 1 : Nat) : Int) := by
    rw [List.length_map, Go.Dv.wrap_small (by omega) (by omega)]; omega
  refine at_R3v 4 5 1 hat hw hMD (.inl rfl) rfl rfl rfl ⟨⟨rfl, rfl⟩, ⟨rfl, rfl⟩, ⟨rfl, rfl⟩, trivial⟩ rfl rfl fun s es1 err1 p => ?_
  (try conv=>whnf);repeat' (first|(apply And.intro<;>try conv=>whnf)|(intro h;try conv=>whnf)|(refine lin_plan (by kernel_rfl) ?_;try conv=>whnf)|fail)
  · have he : err1 ≠ 0 := by simpa using h
    have hn : dvT acts (root f) m = none := by
      rcases p.no he with h | h
      · exact absurd rfl h
      · rw [hroot] at h; exact h
    have h8 : err1 = 8 := by rcases p.er with h | h; exact absurd h he; exact h
    rw [hdy, hn, h8]; exact .refl _
  · have he : err1 = 0 := by simpa using h
    obtain ⟨_, hs⟩ := p.ok he
    rw [hroot] at hs
    rw [hdy, hs]; exact .refl _
end Go.Proofs.YtlaolpkgabknfaaGreatDoor
set_option maxRecDepth 100000
set_option maxHeartbeats 8000000
namespace Go.Proofs.YtlaolpkgabknfaaGreatDoor
open Go Go.Dv

theorem memL_all {n : Nat} (hn : n ≤ 64) : memL (2 ^ n - 1) = List.range n := by
  rw [memL_range (pow_less n) hn]
  exact List.filter_eq_self.2 fun i hi => all_bit (List.mem_range.1 hi)
/-- All worlds of a model are the model. -/
theorem arr_all {m : Mo} {n : Nat} (hM : OkM m n) : arrI m (memL (2 ^ n - 1)) = m := by
  have hp : ∀ s, s < 2 ^ n → pullN s (List.range n) = s := fun s hs => by
    rw [pullN, List.length_range]
    have e : maskOf (fun i => s.testBit ((List.range n).getD i 0)) n = maskOf s.testBit n := maskOf_congr fun i hi => by
      show s.testBit ((List.range n).getD i 0) = s.testBit i
      rw [List.getD_eq_getElem?_getD, List.getElem?_range hi]; rfl
    rw [e]; exact maskOf_self hs
  rw [memL_all hM.n64]
  obtain ⟨mn, val, rel⟩ := m
  have e0 : mn = (n : Int) := hM.nn
  rw [arrI, List.length_range]
  show Mo.mk _ (val.map _) (rel.map _) = _
  rw [e0]
  congr 1
  · refine (List.map_congr_left fun s hs => hp s (hM.vbits s hs)).trans ?_
    exact List.map_id' _
  · refine (List.map_congr_left (g := id) fun r hr => ?_).trans (List.map_id _)
    have hl : r.length = n := hM.rows r hr
    apply List.ext_getElem (by simp [hl])
    intro i h1 h2
    have hi : i < n := by simpa using h1
    rw [List.getElem_map, List.getElem_range]
    show pullN (r.getD i 0) (List.range n) = r[i]
    rw [List.getD_eq_getElem?_getD, List.getElem?_eq_getElem (show i < r.length from h2)]
    exact hp _ (hM.bits r hr _ (List.getElem_mem h2))
def runL (acts : List Act) : Mo → Int → List (Int × Int) → Int → Mo × Int × Int × Int
  | m, w, [], i => (m, w, i, 0)
  | m, w, x :: r, i => bif (stepI acts m w x.1 x.2).2.2 != 0 then (noMo, 0, i, (stepI acts m w x.1 x.2).2.2) else runL acts (stepI acts m w x.1 x.2).1 (stepI acts m w x.1 x.2).2.1 r (i + 1)
def runI (m : Mo) (acts : List Act) (w : Int) (steps : List (Int × Int)) : Mo × Int × Int × Int :=
  bif chkD m acts != 0 then (noMo, 0, 0, chkD m acts) else bif badW m w then (noMo, 0, 0, 2) else runL acts m w steps 0
def stepPV (x : Int × Int) : PV := .agg [.int .i64 x.1, .int .i64 x.2]
def runPV (x : Mo × Int × Int × Int) : PV := .tup [x.1.pv, .int .i64 x.2.1, .int .i64 x.2.2.1, .int .i64 x.2.2.2]
theorem le_run (a b c : Int) : PLe (.tup [.agg [.int .i64 0, .nil, .nil], .int .i64 a, .int .i64 b, .int .i64 c]) (runPV (noMo, a, b, c)) := PLe.tups ⟨le_noMo, .refl _, .refl _, .refl _, trivial⟩
theorem step_ok {acts : List Act} {m : Mo} {w xa xe : Int} (h : (stepI acts m w xa xe).2.2 = 0) : badSt acts xa xe = false ∧ (updI m (acts.getD xa.toNat noAct)).2.2 = 0 ∧ stepI acts m w xa xe = ((updI m (acts.getD xa.toNat noAct)).1, ixP (updI m (acts.getD xa.toNat noAct)).2.1 w xe, 0) ∧
    (atCI m w ((acts.getD xa.toNat noAct).pre.getD xe.toNat [])).1 = true := by
  unfold stepI at h ⊢
  cases h1 : badSt acts xa xe with
  | true => rw [h1] at h; cases h
  | false =>
    rw [h1, cond_false] at h
    cases h2 : (atCI m w ((acts.getD xa.toNat noAct).pre.getD xe.toNat [])).1 with
    | false => rw [h2] at h; cases h
    | true =>
      rw [h2] at h
      simp only [Bool.not_true, cond_false] at h
      cases h3 : ((updI m (acts.getD xa.toNat noAct)).2.2 != 0) with
      | true => rw [h3] at h; simp only [cond_true] at h; rw [h] at h3; cases h3
      | false => exact ⟨rfl, by simpa using h3, rfl, rfl⟩
theorem step_okD {acts : List Act} {m : Mo} {n : Nat} {w xa xe : Int} (hD : OkD acts m n) (h : (stepI acts m w xa xe).2.2 = 0) : ∃ k, OkD acts (stepI acts m w xa xe).1 k := by
  obtain ⟨_, h2, h3, _⟩ := step_ok h
  rw [h3]
  exact ⟨_, (hD.upd h2).1⟩
theorem dy_Run (m : Mo) (acts : List Act) (w : Int) (steps : List (Int × Int)) (hf : FitM m) (hS : ∀ a, a ∈ acts → SmA a) (hl : steps.length ≤ 1000) : PureFn Tryz.prog 14 [m.pv, actsPV acts, .int .i64 w, .sl (steps.map stepPV)] (runPV (runI m acts w steps)) := by
  have hQ := dy_Check m acts hf hS
  refine PureFn.introC [4, 6, 7] mixed (fn := Tryz.f14) rfl rfl rfl fun M w0 => ?_
  try conv=>whnf
  refine ⟨{ _x : Unit // chkD m acts = 0 }, fun _ => [(1, .pv (actsPV acts)), (2, .pv (.int .i64 w)), (3, .pv (.sl (steps.map stepPV))), (4, .ref 0 0), (8, .ref 1 0)], fun _ => 2, fun _ => [(0, .var (cellsM m)), (1, .var [.pv (.int .i64 0), .pv .nil, .pv .nil])], ?_, ?_⟩
  · (try conv=>whnf);repeat' (first|(apply And.intro<;>try conv=>whnf)|(intro h;try conv=>whnf)|(refine PureFn.dcq (f := 12) rfl ?_;try conv=>whnf)|(refine ⟨_, _, hQ, ?_, ?_⟩;(focus first|(refine ⟨?_, ?_, trivial⟩<;>first|exact PLe.refl _|exact PLe.nil)|exact trivial);try conv=>whnf)|fail)
    · rw [runI, show (chkD m acts != 0) = true from h]; exact le_run _ _ _
    · exact ⟨⟨(), by simpa using h⟩, (by refine Wk.of ?_ ?_ rfl rfl rfl<;>repeat' (first|exact trivial|exact WkD.same _|exact WkO.same _ _ rfl|refine ⟨?_, ?_⟩|fail))⟩
  rintro ⟨_, h0⟩
  obtain ⟨n, hD, _⟩ := chkD_ok h0
  have hn1 := hD.okm.n1
  have hn64 := hD.okm.n64
  have hR := md_Restrict m n (2 ^ n - 1) hD.okm (pow_less n) (by have := Nat.pow_le_pow_right (show 1 ≤ 2 by decide) hn1; omega)
  rw [arr_all hD.okm] at hR
  have hsh : shrU 18446744073709551615 (IntKind.wrap .i64 (64 - m.n)) = ((2 ^ n - 1 : Nat) : Int) := by rw [in_wrap hD.okm.nn hn1 hn64]; exact shr_all hn1 hn64
  rw [show u64 (2 ^ n - 1) = .int .u64 (shrU 18446744073709551615 (IntKind.wrap .i64 (64 - m.n))) by rw [hsh]; rfl] at hR
  refine ⟨{ _x : Unit // badW m w = false }, fun _ => [(1, .pv (actsPV acts)), (2, .pv (.int .i64 w)), (3, .pv (.sl (steps.map stepPV))), (4, .ref 0 0), (8, .ref 1 0)], fun _ => 2, fun _ => [(0, .var (cellsM m)), (1, .var [.pv (.int .i64 0), .pv .nil, .pv .nil])], ?_, ?_⟩
  · (try conv=>whnf);repeat' (first|(apply And.intro<;>try conv=>whnf)|(intro h;try conv=>whnf)|apply True.intro|(apply WhenQ.mk;(try conv=>whnf);rotate_left;(try conv=>whnf);rotate_right)|with_reducible assumption|(apply not_of;with_reducible assumption)|fail)
    · rw [runI, h0, show badW m w = true from h]; exact le_run _ _ _
    · exact ⟨⟨(), h⟩, (by refine Wk.of ?_ ?_ rfl rfl rfl<;>repeat' (first|exact trivial|exact WkD.same _|exact WkO.same _ _ rfl|refine ⟨?_, ?_⟩|fail))⟩
  rintro ⟨_, h1⟩
  have hrun : runI m acts w steps = runL acts m w steps 0 := by rw [runI, h0, h1]; rfl
  rw [hrun]
  refine ⟨Unit, fun _ => [(1, .pv (actsPV acts)), (2, .pv (.int .i64 w)), (3, .pv (.sl (steps.map stepPV))), (4, .ref 0 0), (8, .ref 1 0)], fun _ => 2, fun _ => [(0, .var (cellsM m)), (1, .var [.pv (.int .i64 0), .pv .nil, .pv .nil])], ?_, ?_⟩
  · try conv=>whnf
    refine ⟨.one 0 (.one 1 (.one 2 (.one 3 (.one 4 (.one 5 (.one 6 (.one 7 (.one 8 (.one 9 (.one 10 .done)))))))))), [10], by kernel_rfl, ?_⟩
    (try conv=>whnf);repeat' (first|(apply And.intro<;>try conv=>whnf)|(refine ⟨_, (by (conv=>whnf);exact hR), rfl, ?_⟩;try conv=>whnf)|fail)
    · show (0 : Int) ≤ IntKind.wrap .i64 (64 - m.n)
      rw [in_wrap hD.okm.nn hn1 hn64]; omega
    · exact ⟨(), (by refine Wk.of ?_ ?_ rfl rfl rfl<;>repeat' (first|exact trivial|exact WkD.same _|exact WkO.same _ _ rfl|refine ⟨?_, ?_⟩|fail))⟩
  rintro ⟨⟩
  try conv=>whnf
  refine ⟨{ q : Nat × Mo × Int // q.1 ≤ steps.length ∧ (∃ k, OkD acts q.2.1 k) ∧ runL acts q.2.1 q.2.2 (steps.drop q.1) q.1 = runL acts m w steps 0 }, fun q => [(1, .pv (actsPV acts)), (2, .pv (.int .i64 q.1.2.2)), (3, .pv (.sl (steps.map stepPV))), (4, .ref 0 0), (8, .ref 1 0), (44, .pv (.sl (steps.map stepPV))), (45, .pv (i64 (steps.map stepPV).length)), (46, .pv (i64 q.1.1))], fun _ => 2, fun q => [(0, .var (cellsM q.1.2.1)), (1, .var [.pv (.int .i64 0), .pv .nil, .pv .nil])], fun q => steps.length - q.1.1, ⟨⟨(0, m, w), Nat.zero_le _, ⟨n, hD⟩, rfl⟩, (by refine Wk.of ?_ ?_ rfl rfl rfl<;>repeat' (first|exact trivial|exact WkD.same _|exact WkO.same _ _ rfl|refine ⟨?_, ?_⟩|fail))⟩, ?_⟩
  rintro ⟨⟨i, m1, w1⟩, hi, ⟨k, hk⟩, hd⟩
  simp only at hi hk hd
  (try conv=>whnf);repeat' (first|(apply And.intro<;>try conv=>whnf)|(intro h;try conv=>whnf)|(apply infoT;rfl)|fail)
  · have hi' : i < steps.length := by simpa using lt_dec h
    obtain ⟨⟨xa, xe⟩, hx, hxd⟩ : ∃ x, steps[i]? = some x ∧ steps.drop i = x :: steps.drop (i + 1) := ⟨_, List.getElem?_eq_getElem hi', List.drop_eq_getElem_cons hi'⟩
    have hst := dy_step m1 acts w1 xa xe hk.okm.fit hS
    rw [hxd, runL] at hd
    simp only at hd
    have hso := step_okD (w := w1) (xa := xa) (xe := xe) hk
    generalize stepI acts m1 w1 xa xe = S at hst hd hso
    obtain ⟨m2, w2, er⟩ := S
    refine ⟨_, _, rfl, idx_map hx, rfl, ?_⟩
    (try conv=>whnf);repeat' (first|(apply And.intro<;>try conv=>whnf)|(intro h;try conv=>whnf)|(refine PureFn.dcq (f := 45) rfl ?_;try conv=>whnf)|(refine ⟨_, _, hst, ?_, ?_⟩;(focus first|(refine ⟨?_, ?_, ?_, ?_, trivial⟩<;>first|exact PLe.refl _|exact PLe.nil)|exact trivial);try conv=>whnf)|fail)
    · have h : (er != 0) = true := h
      simp only [h, cond_true] at hd
      have g := le_run 0 (i : Int) er
      rw [hd] at g
      exact g
    · have h : (er != 0) = false := h
      simp only [h, cond_false] at hd
      refine ⟨⟨(i + 1, m2, w2), hi', hso (by simpa using h), by rw [← hd]; rfl⟩, by show steps.length - (i + 1) < steps.length - i; omega, (by refine Wk.of ?_ ?_ rfl rfl rfl<;>repeat' (first|exact trivial|exact WkD.same _|exact WkO.same _ _ rfl|refine WkD.int ?_|refine ⟨?_, ?_⟩|(refine wrapA ?_ ?_ ?_;(focus simp;done);(focus (try dsimp only);omega);(focus (try dsimp only);omega))|fail))⟩
  · have hi' : i = steps.length := by have := ge_dec (m := (steps.map stepPV).length) h (by simpa using hi); simpa using this
    rw [hi', List.drop_length, runL] at hd
    have g : PLe (.tup [m1.pv, .int .i64 w1, .int .i64 ((steps.map stepPV).length : Int), .int .i64 0]) (runPV (m1, w1, ((steps.map stepPV).length : Int), 0)) := .refl _
    rw [show ((m1, w1, ((steps.map stepPV).length : Int), (0 : Int)) : Mo × Int × Int × Int) = runL acts m w steps 0 by rw [List.length_map]; exact hd] at g
    exact g
end Go.Proofs.YtlaolpkgabknfaaGreatDoor
set_option maxRecDepth 100000
set_option maxHeartbeats 4000000
namespace Go.Proofs.YtlaolpkgabknfaaGreatDoor
open Go Go.Dv

def evP (o : Option Nat) : PV := .tup [u64 (o.getD 0), .bool o.isSome]
/-- A set with the worlds of the pairs of an event whose places are in a set. -/
def evS (e : Int) (t : Nat) : List (Nat × Nat) → Nat → Nat → Nat
  | [], _, acc => acc
  | q :: r, i, acc => evS e t r (i + 1) (bif (bif (q.2 : Int) == e then t.testBit i else false) then acc ||| 2 ^ q.1 else acc)
theorem evS_drop {e : Int} {t : Nat} {l : List (Nat × Nat)} {i acc : Nat} {q : Nat × Nat} (h : l[i]? = some q) : evS e t (l.drop i) i acc = evS e t (l.drop (i + 1)) (i + 1) (bif (bif (q.2 : Int) == e then t.testBit i else false) then acc ||| 2 ^ q.1 else acc) := by
  obtain ⟨h1, h2⟩ := List.getElem?_eq_some_iff.1 h
  rw [List.drop_eq_getElem_cons h1, h2]; rfl
theorem evS_bit {e t : Nat} : ∀ {l : List (Nat × Nat)} {i acc v : Nat}, (evS e t l i acc).testBit v = true ↔ acc.testBit v = true ∨ ∃ k : Nat, l[k]? = some (v, e) ∧ t.testBit (i + k) = true
  | [], i, acc, v => by simp [evS]
  | q :: r, i, acc, v => by
    rw [evS, evS_bit]
    have hq : ∀ b : Bool, (bif b then acc ||| 2 ^ q.1 else acc).testBit v = true ↔ acc.testBit v = true ∨ (b = true ∧ q.1 = v) := fun b => by
      cases b with
      | false => simp
      | true => rw [cond_true, Nat.testBit_or, Bool.or_eq_true, Nat.testBit_two_pow]; simp
    rw [hq]
    constructor
    · rintro ((h | ⟨h1, h2⟩) | ⟨k, h1, h2⟩)
      · exact .inl h
      · cases he : ((q.2 : Int) == (e : Int)) with
        | false => rw [he] at h1; cases h1
        | true =>
          rw [he, cond_true] at h1
          refine .inr ⟨0, ?_, h1⟩
          obtain ⟨x, y⟩ := q
          have e1 : x = v := h2
          have e2 : (y : Int) = e := by simpa using he
          show some (x, y) = some (v, e)
          rw [e1, show y = e by omega]
      · exact .inr ⟨k + 1, by simpa using h1, by rw [← h2]; congr 1; omega⟩
    · rintro (h | ⟨k, h1, h2⟩)
      · exact .inl (.inl h)
      · cases k with
        | zero =>
          have hq : q = (v, e) := by simpa using h1
          refine .inl (.inr ⟨?_, by rw [hq]⟩)
          rw [hq, show t.testBit i = true from h2]; simp
        | succ k => exact .inr ⟨k, by simpa using h1, by rw [← h2]; congr 1; omega⟩
theorem evS_lt {e : Int} {t n : Nat} : ∀ {l : List (Nat × Nat)} {i acc : Nat}, (∀ q, q ∈ l → q.1 < n) → acc < 2 ^ n → evS e t l i acc < 2 ^ n
  | [], _, _, _, h => h
  | q :: r, i, acc, hl, h => by
    rw [evS]
    refine evS_lt (fun y hy => hl y (List.mem_cons_of_mem _ hy)) ?_
    cases (bif (q.2 : Int) == e then t.testBit i else false) with
    | true => exact Nat.or_lt_two_pow h (Nat.pow_lt_pow_right (by decide) (hl q (by simp)))
    | false => exact h
theorem ev_eq {m : Mo} {a : Act} {n e t : Nat} (hn : m.n.toNat = n) (he : e < a.pre.length) (h : (updI m a).2.2 = 0) (_hP : possP m a e < 2 ^ n) : evS (e : Nat) t (updI m a).2.1 0 (notN n (possP m a e)) = evG (e : Nat) t (updI m a).2.1 0 (2 ^ n - 1) := by
  obtain ⟨_, k2, _⟩ := updI_ok h
  have hne : (updI m a).2.1.Pairwise (· ≠ ·) := by rw [k2]; exact pairsW_ne _
  have hmem : ∀ v, (v, e) ∈ (updI m a).2.1 ↔ v < n ∧ e < a.pre.length ∧ (possP m a e).testBit v = true := fun v => by
    rw [k2, ← hn]; exact pairsW_mem
  generalize (updI m a).2.1 = ps at hne hmem
  apply Nat.eq_of_testBit_eq
  intro v
  rw [Bool.eq_iff_iff, evS_bit, evG_bit, notN_bit, Nat.testBit_two_pow_sub_one]
  simp only [Nat.zero_add, Bool.and_eq_true, decide_eq_true_eq, Bool.not_eq_true']
  constructor
  · rintro (⟨h1, h2⟩ | ⟨k, h1, h2⟩)
    · refine ⟨h1, fun k hk => ?_⟩
      have := ((hmem v).1 (List.mem_iff_getElem?.2 ⟨k, hk⟩)).2.2
      rw [h2] at this; cases this
    · refine ⟨((hmem v).1 (List.mem_iff_getElem?.2 ⟨k, h1⟩)).1, fun j hj => ?_⟩
      have hjk : j = k := by
        obtain ⟨hjl, g1⟩ := List.getElem?_eq_some_iff.1 hj
        obtain ⟨hkl, g2⟩ := List.getElem?_eq_some_iff.1 h1
        rw [List.pairwise_iff_getElem] at hne
        rcases Nat.lt_trichotomy j k with hh | hh | hh
        · exact absurd (g1.trans g2.symm) (hne j k hjl hkl hh)
        · exact hh
        · exact absurd (g2.trans g1.symm) (hne k j hkl hjl hh)
      rw [hjk]; exact h2
  · rintro ⟨h1, h2⟩
    cases hp : (possP m a e).testBit v with
    | false => exact .inl ⟨h1, rfl⟩
    | true =>
      obtain ⟨k, hk⟩ := List.mem_iff_getElem?.1 ((hmem v).2 ⟨h1, he, hp⟩)
      exact .inr ⟨k, hk, h2 k hk⟩
def annR (acts : List Act) (c : List Nd) (Y : Nat) (m : Mo) (n s : Nat) : Nat × Bool := bif s == 0 then (2 ^ n - 1, true) else (sprG ((dvT acts (tree c Y) (arrI m (memL s))).getD 0) (memL s) 0 (notN n s), (dvT acts (tree c Y) (arrI m (memL s))).isSome)
theorem rd_announced {acts : List Act} {c : List Nd} {A F Y : Nat} (hev : ∀ m' n', ModD acts m' n' A F → PureFn Tryz.prog 39 [m'.pv, actsPV acts, fpv c, i64 Y] (evP (dvT acts (tree c Y) m'))) {m : Mo} {n s : Nat} (hM : ModD acts m n A F) (hs : s < 2 ^ n) (op fi ei gi xx : Int) :
    PureFn Tryz.prog 66 [m.pv, actsPV acts, fpv c, Nd.pv ⟨op, fi, ei, gi, xx, (Y : Nat)⟩, u64 s] (.tup [u64 (annR acts c Y m n s).1, .bool (annR acts c Y m n s).2]) := by
  have hO := hM.okd.okm
  have hn64 := hO.n64
  have h64 := pow64_le hn64
  have hA := rm_All n hn64
  rw [show i64 n = .int .i64 m.n by rw [hO.nn]; rfl] at hA
  by_cases h0 : s = 0
  · have f2 : ((s : Int) == 0) = true := by simpa using h0
    have e1 : annR acts c Y m n s = (2 ^ n - 1, true) := by rw [annR, h0]; rfl
    rw [e1]
    refine PureFn.intro mixed (fn := Tryz.f66) rfl rfl rfl fun M w0 => ?_
    (try conv=>whnf);repeat' (first|(apply And.intro<;>try conv=>whnf)|(intro h;first|with_reducible exact tf (by assumption) h|try conv=>whnf)|(refine PureFn.dcq (f := 20) rfl ?_;try conv=>whnf)|(refine ⟨_, _, hA, ?_, ?_⟩;(focus first|(refine ⟨?_, trivial⟩<;>first|exact PLe.refl _|exact PLe.nil)|exact trivial);try conv=>whnf)|fail)
    exact .refl _
  · have f2 : ((s : Int) == 0) = false := by simpa using h0
    have hR := rm_Restrict m n s hO hs h0
    have hM1 := hM.okd.arr hs h0
    have hE := hev (arrI m (memL s)) (memL s).length ⟨hM1, by rw [← hM.ra, arrI, List.length_map], by rw [← hM.rf, arrI, List.length_map]⟩
    have e1 : annR acts c Y m n s = (sprG ((dvT acts (tree c Y) (arrI m (memL s))).getD 0) (memL s) 0 (notN n s), (dvT acts (tree c Y) (arrI m (memL s))).isSome) := by rw [annR, show (s == 0) = false by simpa using h0]; rfl
    have hSp := rd_spread ((dvT acts (tree c Y) (arrI m (memL s))).getD 0) (memL s) (memL_len s) (fun w hw => (memL_mem.1 hw).1)
    have hsl : sprG ((dvT acts (tree c Y) (arrI m (memL s))).getD 0) (memL s) 0 0 < 2 ^ n := sprG_lt (fun w hw => bit_lt hs (memL_mem.1 hw).2) (Nat.two_pow_pos n)
    rw [e1, sprG_acc]
    generalize dvT acts (tree c Y) (arrI m (memL s)) = o at hE hSp hsl
    generalize arrI m (memL s) = m1 at hE hR
    generalize sprG (o.getD 0) (memL s) 0 0 = z at hSp hsl
    generalize memL s = ws at hSp hR
    have hor : orU (andNotU ((2 ^ n - 1 : Nat) : Int) (s : Nat)) (z : Nat) = ((notN n s ||| z : Nat) : Int) := by
      rw [andNotU_all hn64, orU_nat (Nat.lt_of_lt_of_le (notN_lt n s) h64) (by omega)]
    refine PureFn.intro mixed (fn := Tryz.f66) rfl rfl rfl fun M w0 => ?_
    (try conv=>whnf);repeat' (first|(apply And.intro<;>try conv=>whnf)|(intro h;first|with_reducible exact tf h (by assumption)|try conv=>whnf)|(refine PureFn.dcq (f := 20) rfl ?_;try conv=>whnf)|(refine PureFn.dcq (f := 109) rfl ?_;try conv=>whnf)|(refine PureFn.dcq (f := 39) rfl ?_;try conv=>whnf)|(refine PureFn.dcq (f := 110) rfl ?_;try conv=>whnf)|(refine ⟨_, _, hA, ?_, ?_⟩;(focus first|(refine ⟨?_, trivial⟩<;>first|exact PLe.refl _|exact PLe.nil)|exact trivial);try conv=>whnf)|(refine ⟨_, _, hR, ?_, ?_⟩;(focus first|(refine ⟨?_, ?_, trivial⟩<;>first|exact PLe.refl _|exact PLe.nil)|exact trivial);try conv=>whnf)|(refine ⟨_, _, hE, ?_, ?_⟩;(focus first|(refine ⟨?_, ?_, ?_, ?_, trivial⟩<;>first|exact PLe.refl _|exact PLe.nil)|exact trivial);try conv=>whnf)|(refine ⟨_, _, hSp, ?_, ?_⟩;(focus first|(refine ⟨?_, ?_, trivial⟩<;>first|exact PLe.refl _|exact PLe.nil)|exact trivial);try conv=>whnf)|fail)
    exact PLe.tups ⟨le_int hor, .refl _, trivial⟩
end Go.Proofs.YtlaolpkgabknfaaGreatDoor
set_option maxRecDepth 100000
set_option maxHeartbeats 4000000
namespace Go.Proofs.YtlaolpkgabknfaaGreatDoor
open Go Go.Dv

theorem le_u64 {v : Int} {q : Nat} (h : v = (q : Int)) : PLe (.int .u64 v) (u64 q) := by subst h; exact .refl _
def booN (n : Nat) (op : Int) (x y : Nat) : Nat :=
  bif op == 1 then 2 ^ n - 1 else bif op == 4 then notN n x else bif op == 5 then x &&& y else bif op == 6 then x ||| y else bif op == 7 then notN n x ||| y else bif op == 8 then notN n (x ^^^ y) else 0
theorem rc_Boolean (n : Nat) (op : Int) (a b : Nat) (hn : n ≤ 64) (ha : a < 2 ^ n) (hb : b < 2 ^ n) : PureFn Tryz.prog 111 [.int .i64 op, u64 a, u64 b, u64 (2 ^ n - 1)] (u64 (booN n op a b)) := by
  refine PureFn.intro mixed (fn := Tryz.f111) rfl rfl rfl fun M w0 => ?_
  have h64 := pow64_le hn
  have ha64 : a < 2 ^ 64 := by omega
  have hb64 : b < 2 ^ 64 := by omega
  unfold booN
  cases f1 : (op == 1) with
  | true =>
    (try conv=>whnf);repeat' (first|(apply And.intro<;>try conv=>whnf)|(intro h;first|with_reducible exact tf (by assumption) h|try conv=>whnf)|fail)
    exact .refl _
  | false =>
  cases f4 : (op == 4) with
  | true =>
    (try conv=>whnf);repeat' (first|(apply And.intro<;>try conv=>whnf)|(intro h;first|with_reducible exact tf h (by assumption)|with_reducible exact tf (by assumption) h|try conv=>whnf)|fail)
    exact le_u64 (andNotU_all hn)
  | false =>
  cases f5 : (op == 5) with
  | true =>
    (try conv=>whnf);repeat' (first|(apply And.intro<;>try conv=>whnf)|(intro h;first|with_reducible exact tf h (by assumption)|with_reducible exact tf (by assumption) h|try conv=>whnf)|fail)
    exact le_u64 (andU_nat ha64 hb64)
  | false =>
  cases f6 : (op == 6) with
  | true =>
    (try conv=>whnf);repeat' (first|(apply And.intro<;>try conv=>whnf)|(intro h;first|with_reducible exact tf h (by assumption)|with_reducible exact tf (by assumption) h|try conv=>whnf)|fail)
    exact le_u64 (orU_nat ha64 hb64)
  | false =>
  cases f7 : (op == 7) with
  | true =>
    (try conv=>whnf);repeat' (first|(apply And.intro<;>try conv=>whnf)|(intro h;first|with_reducible exact tf h (by assumption)|with_reducible exact tf (by assumption) h|try conv=>whnf)|fail)
    refine le_u64 ?_
    show orU (andNotU ((2 ^ n - 1 : Nat) : Int) (a : Nat)) (b : Nat) = _
    rw [andNotU_all hn]
    exact orU_nat (Nat.lt_of_lt_of_le (notN_lt n a) h64) hb64
  | false =>
  cases f8 : (op == 8) with
  | true =>
    (try conv=>whnf);repeat' (first|(apply And.intro<;>try conv=>whnf)|(intro h;first|with_reducible exact tf h (by assumption)|with_reducible exact tf (by assumption) h|try conv=>whnf)|fail)
    refine le_u64 ?_
    show andNotU ((2 ^ n - 1 : Nat) : Int) (xorU (a : Nat) (b : Nat)) = _
    rw [xorU_nat ha64 hb64]
    exact andNotU_all hn
  | false =>
    (try conv=>whnf);repeat' (first|(apply And.intro<;>try conv=>whnf)|(intro h;first|with_reducible exact tf h (by assumption)|try conv=>whnf)|fail)
    exact .refl _
def cellsNd (op i e g x y : Int) : List DV := [.pv (.int .i64 op), .pv (.int .i64 i), .pv (.int .i64 e), .pv (.int .i64 g), .pv (.int .i64 x), .pv (.int .i64 y)]
theorem rc_One (m : Mo) (n : Nat) (hM : OkM m n) (x : Nd) (k : Int) (hk : OkNd x k) (hq : fitQ m x.op x.i x.e x.g = true) (a b : Nat) (ha : a < 2 ^ n) (hb : b < 2 ^ n) : PureFn Tryz.prog 70 [m.pv, x.pv, u64 a, u64 b] (u64 (vlN m n x.op x.i x.g a b)) := by
  obtain ⟨op, i, e, g, xx, yy⟩ := x
  refine PureFn.introC [2] mixed (fn := Tryz.f70) rfl rfl rfl fun M w0 => ?_
  have hn1 := hM.n1
  have hn := hM.n64
  have h64 := pow64_le hn
  have hag := hM.ag
  have ha64 : a < 2 ^ 64 := by omega
  have hb64 : b < 2 ^ 64 := by omega
  have hmn := hM.nn
  have hAll := rm_All n hn
  rw [show i64 n = .int .i64 m.n by rw [hmn]; rfl] at hAll
  have hBo := rc_Boolean n op a b hn ha hb
  try conv=>whnf
  refine ⟨Unit, fun _ => [(2, .pv (u64 a)), (3, .pv (u64 b)), (4, .ref 0 0), (5, .ref 1 0), (9, .pv (u64 (2 ^ n - 1)))], fun _ => 2, fun _ => [(0, .var (cellsM m)), (1, .var (cellsNd op i e g xx yy))], ?_, ?_⟩
  · (try conv=>whnf);repeat' (first|(refine PureFn.dcq (f := 20) rfl ?_;try conv=>whnf)|(refine ⟨_, _, hAll, ?_, ?_⟩;(focus first|(refine ⟨?_, trivial⟩<;>first|exact PLe.refl _|exact PLe.nil)|exact trivial);try conv=>whnf)|fail)
    exact ⟨(), (by refine Wk.of ?_ ?_ rfl rfl rfl<;>repeat' (first|exact trivial|exact WkD.same _|exact WkO.same _ _ rfl|refine ⟨?_, ?_⟩|fail))⟩
  rintro ⟨⟩
  have hop : op = 1 ∨ op = 2 ∨ op = 3 ∨ op = 4 ∨ op = 5 ∨ op = 6 ∨ op = 7 ∨ op = 8 ∨ op = 9 ∨ op = 10 ∨ op = 11 ∨ op = 12 ∨ op = 13 := by have := hk.op.1; have := fitQ_13 hq; simp only at *; omega
  rcases hop with rfl | rfl | rfl | rfl | rfl | rfl | rfl | rfl | rfl | rfl | rfl | rfl | rfl
  · skip
    have f1 : ((1 : Int) == 1) = true := rfl
    have f2 : ((1 : Int) == 2) = false := rfl
    have f3 : ((1 : Int) == 3) = false := rfl
    have f4 : ((1 : Int) == 4) = false := rfl
    have f5 : ((1 : Int) == 5) = false := rfl
    have f6 : ((1 : Int) == 6) = false := rfl
    have f7 : ((1 : Int) == 7) = false := rfl
    have f8 : ((1 : Int) == 8) = false := rfl
    have f9 : ((1 : Int) == 9) = false := rfl
    have f10 : ((1 : Int) == 10) = false := rfl
    have f11 : ((1 : Int) == 11) = false := rfl
    have f12 : ((1 : Int) == 12) = false := rfl
    have f13 : ((1 : Int) == 13) = false := rfl
    have fle : decide ((1 : Int) ≤ 8) = true := rfl
    (try conv=>whnf);repeat' (first|(apply And.intro<;>try conv=>whnf)|(intro h;first|with_reducible exact tf h (by assumption)|with_reducible exact tf (by assumption) h|try conv=>whnf)|(refine PureFn.dcq (f := 111) rfl ?_;try conv=>whnf)|(refine ⟨_, _, hBo, ?_, ?_⟩;(focus first|(refine ⟨?_, ?_, ?_, ?_, trivial⟩<;>first|exact PLe.refl _|exact PLe.nil)|exact trivial);try conv=>whnf)|fail)
    exact .refl _
  · skip
    have f1 : ((2 : Int) == 1) = false := rfl
    have f2 : ((2 : Int) == 2) = true := rfl
    have f3 : ((2 : Int) == 3) = false := rfl
    have f4 : ((2 : Int) == 4) = false := rfl
    have f5 : ((2 : Int) == 5) = false := rfl
    have f6 : ((2 : Int) == 6) = false := rfl
    have f7 : ((2 : Int) == 7) = false := rfl
    have f8 : ((2 : Int) == 8) = false := rfl
    have f9 : ((2 : Int) == 9) = false := rfl
    have f10 : ((2 : Int) == 10) = false := rfl
    have f11 : ((2 : Int) == 11) = false := rfl
    have f12 : ((2 : Int) == 12) = false := rfl
    have f13 : ((2 : Int) == 13) = false := rfl
    have fle : decide ((2 : Int) ≤ 8) = true := rfl
    (try conv=>whnf);repeat' (first|(apply And.intro<;>try conv=>whnf)|(intro h;first|with_reducible exact tf h (by assumption)|with_reducible exact tf (by assumption) h|try conv=>whnf)|(refine PureFn.dcq (f := 111) rfl ?_;try conv=>whnf)|(refine ⟨_, _, hBo, ?_, ?_⟩;(focus first|(refine ⟨?_, ?_, ?_, ?_, trivial⟩<;>first|exact PLe.refl _|exact PLe.nil)|exact trivial);try conv=>whnf)|fail)
    exact .refl _
  · skip
    have f1 : ((3 : Int) == 1) = false := rfl
    have f2 : ((3 : Int) == 2) = false := rfl
    have f3 : ((3 : Int) == 3) = true := rfl
    have f4 : ((3 : Int) == 4) = false := rfl
    have f5 : ((3 : Int) == 5) = false := rfl
    have f6 : ((3 : Int) == 6) = false := rfl
    have f7 : ((3 : Int) == 7) = false := rfl
    have f8 : ((3 : Int) == 8) = false := rfl
    have f9 : ((3 : Int) == 9) = false := rfl
    have f10 : ((3 : Int) == 10) = false := rfl
    have f11 : ((3 : Int) == 11) = false := rfl
    have f12 : ((3 : Int) == 12) = false := rfl
    have f13 : ((3 : Int) == 13) = false := rfl
    have fle : decide ((3 : Int) ≤ 8) = true := rfl
    have hi := (hk.fact rfl).1
    simp only at hi
    obtain ⟨j, rfl⟩ : ∃ j : Nat, i = j := ⟨i.toNat, by omega⟩
    have h9 : decide ((j : Int) ≥ (m.val.length : Int)) = false := by
      have h : (!decide ((j : Int) ≥ (m.val.length : Int))) = true := hq
      simpa using h
    have h8 := of_decide_eq_false h9
    have hm : m.val[j]? = some (m.val.getD j 0) := getD_mem (by omega)
    (try conv=>whnf);repeat' (first|(apply And.intro<;>try conv=>whnf)|(intro h;first|with_reducible exact tf (by assumption) h|try conv=>whnf)|(apply infoT;rfl)|(refine ⟨_, _, rfl, idx_map (by with_reducible assumption), rfl, ?_⟩;try conv=>whnf)|fail)
    exact .refl _
  · skip
    have f1 : ((4 : Int) == 1) = false := rfl
    have f2 : ((4 : Int) == 2) = false := rfl
    have f3 : ((4 : Int) == 3) = false := rfl
    have f4 : ((4 : Int) == 4) = true := rfl
    have f5 : ((4 : Int) == 5) = false := rfl
    have f6 : ((4 : Int) == 6) = false := rfl
    have f7 : ((4 : Int) == 7) = false := rfl
    have f8 : ((4 : Int) == 8) = false := rfl
    have f9 : ((4 : Int) == 9) = false := rfl
    have f10 : ((4 : Int) == 10) = false := rfl
    have f11 : ((4 : Int) == 11) = false := rfl
    have f12 : ((4 : Int) == 12) = false := rfl
    have f13 : ((4 : Int) == 13) = false := rfl
    have fle : decide ((4 : Int) ≤ 8) = true := rfl
    (try conv=>whnf);repeat' (first|(apply And.intro<;>try conv=>whnf)|(intro h;first|with_reducible exact tf h (by assumption)|with_reducible exact tf (by assumption) h|try conv=>whnf)|(refine PureFn.dcq (f := 111) rfl ?_;try conv=>whnf)|(refine ⟨_, _, hBo, ?_, ?_⟩;(focus first|(refine ⟨?_, ?_, ?_, ?_, trivial⟩<;>first|exact PLe.refl _|exact PLe.nil)|exact trivial);try conv=>whnf)|fail)
    exact .refl _
  · skip
    have f1 : ((5 : Int) == 1) = false := rfl
    have f2 : ((5 : Int) == 2) = false := rfl
    have f3 : ((5 : Int) == 3) = false := rfl
    have f4 : ((5 : Int) == 4) = false := rfl
    have f5 : ((5 : Int) == 5) = true := rfl
    have f6 : ((5 : Int) == 6) = false := rfl
    have f7 : ((5 : Int) == 7) = false := rfl
    have f8 : ((5 : Int) == 8) = false := rfl
    have f9 : ((5 : Int) == 9) = false := rfl
    have f10 : ((5 : Int) == 10) = false := rfl
    have f11 : ((5 : Int) == 11) = false := rfl
    have f12 : ((5 : Int) == 12) = false := rfl
    have f13 : ((5 : Int) == 13) = false := rfl
    have fle : decide ((5 : Int) ≤ 8) = true := rfl
    (try conv=>whnf);repeat' (first|(apply And.intro<;>try conv=>whnf)|(intro h;first|with_reducible exact tf h (by assumption)|with_reducible exact tf (by assumption) h|try conv=>whnf)|(refine PureFn.dcq (f := 111) rfl ?_;try conv=>whnf)|(refine ⟨_, _, hBo, ?_, ?_⟩;(focus first|(refine ⟨?_, ?_, ?_, ?_, trivial⟩<;>first|exact PLe.refl _|exact PLe.nil)|exact trivial);try conv=>whnf)|fail)
    exact .refl _
  · skip
    have f1 : ((6 : Int) == 1) = false := rfl
    have f2 : ((6 : Int) == 2) = false := rfl
    have f3 : ((6 : Int) == 3) = false := rfl
    have f4 : ((6 : Int) == 4) = false := rfl
    have f5 : ((6 : Int) == 5) = false := rfl
    have f6 : ((6 : Int) == 6) = true := rfl
    have f7 : ((6 : Int) == 7) = false := rfl
    have f8 : ((6 : Int) == 8) = false := rfl
    have f9 : ((6 : Int) == 9) = false := rfl
    have f10 : ((6 : Int) == 10) = false := rfl
    have f11 : ((6 : Int) == 11) = false := rfl
    have f12 : ((6 : Int) == 12) = false := rfl
    have f13 : ((6 : Int) == 13) = false := rfl
    have fle : decide ((6 : Int) ≤ 8) = true := rfl
    (try conv=>whnf);repeat' (first|(apply And.intro<;>try conv=>whnf)|(intro h;first|with_reducible exact tf h (by assumption)|with_reducible exact tf (by assumption) h|try conv=>whnf)|(refine PureFn.dcq (f := 111) rfl ?_;try conv=>whnf)|(refine ⟨_, _, hBo, ?_, ?_⟩;(focus first|(refine ⟨?_, ?_, ?_, ?_, trivial⟩<;>first|exact PLe.refl _|exact PLe.nil)|exact trivial);try conv=>whnf)|fail)
    exact .refl _
  · skip
    have f1 : ((7 : Int) == 1) = false := rfl
    have f2 : ((7 : Int) == 2) = false := rfl
    have f3 : ((7 : Int) == 3) = false := rfl
    have f4 : ((7 : Int) == 4) = false := rfl
    have f5 : ((7 : Int) == 5) = false := rfl
    have f6 : ((7 : Int) == 6) = false := rfl
    have f7 : ((7 : Int) == 7) = true := rfl
    have f8 : ((7 : Int) == 8) = false := rfl
    have f9 : ((7 : Int) == 9) = false := rfl
    have f10 : ((7 : Int) == 10) = false := rfl
    have f11 : ((7 : Int) == 11) = false := rfl
    have f12 : ((7 : Int) == 12) = false := rfl
    have f13 : ((7 : Int) == 13) = false := rfl
    have fle : decide ((7 : Int) ≤ 8) = true := rfl
    (try conv=>whnf);repeat' (first|(apply And.intro<;>try conv=>whnf)|(intro h;first|with_reducible exact tf h (by assumption)|with_reducible exact tf (by assumption) h|try conv=>whnf)|(refine PureFn.dcq (f := 111) rfl ?_;try conv=>whnf)|(refine ⟨_, _, hBo, ?_, ?_⟩;(focus first|(refine ⟨?_, ?_, ?_, ?_, trivial⟩<;>first|exact PLe.refl _|exact PLe.nil)|exact trivial);try conv=>whnf)|fail)
    exact .refl _
  · skip
    have f1 : ((8 : Int) == 1) = false := rfl
    have f2 : ((8 : Int) == 2) = false := rfl
    have f3 : ((8 : Int) == 3) = false := rfl
    have f4 : ((8 : Int) == 4) = false := rfl
    have f5 : ((8 : Int) == 5) = false := rfl
    have f6 : ((8 : Int) == 6) = false := rfl
    have f7 : ((8 : Int) == 7) = false := rfl
    have f8 : ((8 : Int) == 8) = true := rfl
    have f9 : ((8 : Int) == 9) = false := rfl
    have f10 : ((8 : Int) == 10) = false := rfl
    have f11 : ((8 : Int) == 11) = false := rfl
    have f12 : ((8 : Int) == 12) = false := rfl
    have f13 : ((8 : Int) == 13) = false := rfl
    have fle : decide ((8 : Int) ≤ 8) = true := rfl
    (try conv=>whnf);repeat' (first|(apply And.intro<;>try conv=>whnf)|(intro h;first|with_reducible exact tf h (by assumption)|with_reducible exact tf (by assumption) h|try conv=>whnf)|(refine PureFn.dcq (f := 111) rfl ?_;try conv=>whnf)|(refine ⟨_, _, hBo, ?_, ?_⟩;(focus first|(refine ⟨?_, ?_, ?_, ?_, trivial⟩<;>first|exact PLe.refl _|exact PLe.nil)|exact trivial);try conv=>whnf)|fail)
    exact .refl _
  · skip
    have f1 : ((9 : Int) == 1) = false := rfl
    have f2 : ((9 : Int) == 2) = false := rfl
    have f3 : ((9 : Int) == 3) = false := rfl
    have f4 : ((9 : Int) == 4) = false := rfl
    have f5 : ((9 : Int) == 5) = false := rfl
    have f6 : ((9 : Int) == 6) = false := rfl
    have f7 : ((9 : Int) == 7) = false := rfl
    have f8 : ((9 : Int) == 8) = false := rfl
    have f9 : ((9 : Int) == 9) = true := rfl
    have f10 : ((9 : Int) == 10) = false := rfl
    have f11 : ((9 : Int) == 11) = false := rfl
    have f12 : ((9 : Int) == 12) = false := rfl
    have f13 : ((9 : Int) == 13) = false := rfl
    have fle : decide ((9 : Int) ≤ 8) = false := rfl
    have hi := (hk.agent rfl).1
    simp only at hi
    obtain ⟨j, rfl⟩ : ∃ j : Nat, i = j := ⟨i.toNat, by omega⟩
    have h9 : decide ((j : Int) ≥ (m.rel.length : Int)) = false := by
      have h : (!decide ((j : Int) ≥ (m.rel.length : Int))) = true := hq
      simpa using h
    have h8 := of_decide_eq_false h9
    have hm : m.rel[j]? = some (m.rel.getD j []) := getD_mem (by omega)
    have hrm := List.mem_iff_getElem?.2 ⟨j, hm⟩
    have hB := rc_Box n (m.rel.getD j []) a hn (hM.rows _ hrm) (hM.fit.2 _ hrm)
    rw [show i64 n = .int .i64 m.n by rw [hmn]; rfl] at hB
    (try conv=>whnf);repeat' (first|(apply And.intro<;>try conv=>whnf)|(intro h;first|with_reducible exact tf h (by assumption)|with_reducible exact tf (by assumption) h|try conv=>whnf)|(apply infoT;rfl)|(refine lin_plan (by kernel_rfl) ?_;try conv=>whnf)|(refine ⟨_, _, rfl, idx_map (by with_reducible assumption), rfl, ?_⟩;try conv=>whnf)|(refine ⟨_, (by (conv=>whnf);exact hB), rfl, ?_⟩;try conv=>whnf)|fail)
    exact .refl _
  · skip
    have f1 : ((10 : Int) == 1) = false := rfl
    have f2 : ((10 : Int) == 2) = false := rfl
    have f3 : ((10 : Int) == 3) = false := rfl
    have f4 : ((10 : Int) == 4) = false := rfl
    have f5 : ((10 : Int) == 5) = false := rfl
    have f6 : ((10 : Int) == 6) = false := rfl
    have f7 : ((10 : Int) == 7) = false := rfl
    have f8 : ((10 : Int) == 8) = false := rfl
    have f9 : ((10 : Int) == 9) = false := rfl
    have f10 : ((10 : Int) == 10) = true := rfl
    have f11 : ((10 : Int) == 11) = false := rfl
    have f12 : ((10 : Int) == 12) = false := rfl
    have f13 : ((10 : Int) == 13) = false := rfl
    have fle : decide ((10 : Int) ≤ 8) = false := rfl
    have hi := (hk.agent rfl).1
    simp only at hi
    obtain ⟨j, rfl⟩ : ∃ j : Nat, i = j := ⟨i.toNat, by omega⟩
    have h9 : decide ((j : Int) ≥ (m.rel.length : Int)) = false := by
      have h : (!decide ((j : Int) ≥ (m.rel.length : Int))) = true := hq
      simpa using h
    have h8 := of_decide_eq_false h9
    have hm : m.rel[j]? = some (m.rel.getD j []) := getD_mem (by omega)
    have hrm := List.mem_iff_getElem?.2 ⟨j, hm⟩
    have hB := rc_Box n (m.rel.getD j []) (notN n a) hn (hM.rows _ hrm) (hM.fit.2 _ hrm)
    rw [show i64 n = .int .i64 m.n by rw [hmn]; rfl, show u64 (notN n a) = .int .u64 (andNotU ((2 ^ n - 1 : Nat) : Int) (a : Nat)) by rw [andNotU_all hn]; rfl] at hB
    (try conv=>whnf);repeat' (first|(apply And.intro<;>try conv=>whnf)|(intro h;first|with_reducible exact tf h (by assumption)|with_reducible exact tf (by assumption) h|try conv=>whnf)|(apply infoT;rfl)|(refine lin_plan (by kernel_rfl) ?_;try conv=>whnf)|(refine ⟨_, _, rfl, idx_map (by with_reducible assumption), rfl, ?_⟩;try conv=>whnf)|(refine ⟨_, (by (conv=>whnf);exact hB), rfl, ?_⟩;try conv=>whnf)|fail)
    exact le_u64 (andNotU_all hn)
  · skip
    have f1 : ((11 : Int) == 1) = false := rfl
    have f2 : ((11 : Int) == 2) = false := rfl
    have f3 : ((11 : Int) == 3) = false := rfl
    have f4 : ((11 : Int) == 4) = false := rfl
    have f5 : ((11 : Int) == 5) = false := rfl
    have f6 : ((11 : Int) == 6) = false := rfl
    have f7 : ((11 : Int) == 7) = false := rfl
    have f8 : ((11 : Int) == 8) = false := rfl
    have f9 : ((11 : Int) == 9) = false := rfl
    have f10 : ((11 : Int) == 10) = false := rfl
    have f11 : ((11 : Int) == 11) = true := rfl
    have f12 : ((11 : Int) == 12) = false := rfl
    have f13 : ((11 : Int) == 13) = false := rfl
    have fle : decide ((11 : Int) ≤ 8) = false := rfl
    have hg1 := (hk.group rfl).1
    simp only at hg1
    have h9 : decide (g ≥ shl64 1 (m.rel.length : Int)) = false := by
      have h : (!decide (g ≥ shl64 1 (m.rel.length : Int))) = true := hq
      simpa using h
    have h8 := of_decide_eq_false h9
    have hG := rm_Group m n hM g
    obtain ⟨hgl, hgb⟩ := grp_facts (op := orF) (first := 0) hM (fun _ _ hx hy => Nat.or_lt_two_pow hx hy) (Nat.two_pow_pos n) hg1 (by omega)
    have hv : vlN m n 11 i g a b = boxN n (grpM orF m g 0) a := rfl
    rw [hv]
    clear hv
    generalize grpM orF m g 0 = G at hG hgl hgb ⊢
    have hB := rc_Box n G a hn hgl (fun s hs => Nat.lt_of_lt_of_le (hgb s hs) h64)
    rw [show i64 n = .int .i64 m.n by rw [hmn]; rfl] at hB
    (try conv=>whnf);repeat' (first|(apply And.intro<;>try conv=>whnf)|(intro h;first|with_reducible exact tf h (by assumption)|with_reducible exact tf (by assumption) h|try conv=>whnf)|(refine lin_plan (by kernel_rfl) ?_;try conv=>whnf)|(refine ⟨_, (by (conv=>whnf);exact hG), rfl, ?_⟩;try conv=>whnf)|(refine ⟨_, (by (conv=>whnf);exact hB), rfl, ?_⟩;try conv=>whnf)|fail)
    exact .refl _
  · skip
    have f1 : ((12 : Int) == 1) = false := rfl
    have f2 : ((12 : Int) == 2) = false := rfl
    have f3 : ((12 : Int) == 3) = false := rfl
    have f4 : ((12 : Int) == 4) = false := rfl
    have f5 : ((12 : Int) == 5) = false := rfl
    have f6 : ((12 : Int) == 6) = false := rfl
    have f7 : ((12 : Int) == 7) = false := rfl
    have f8 : ((12 : Int) == 8) = false := rfl
    have f9 : ((12 : Int) == 9) = false := rfl
    have f10 : ((12 : Int) == 10) = false := rfl
    have f11 : ((12 : Int) == 11) = false := rfl
    have f12 : ((12 : Int) == 12) = true := rfl
    have f13 : ((12 : Int) == 13) = false := rfl
    have fle : decide ((12 : Int) ≤ 8) = false := rfl
    have hg1 := (hk.group rfl).1
    simp only at hg1
    have h9 : decide (g ≥ shl64 1 (m.rel.length : Int)) = false := by
      have h : (!decide (g ≥ shl64 1 (m.rel.length : Int))) = true := hq
      simpa using h
    have h8 := of_decide_eq_false h9
    have hG := rm_Meet m n hM g
    obtain ⟨hgl, hgb⟩ := grp_facts (op := andF) (first := (2 ^ n - 1)) hM (fun _ _ hx _ => Nat.lt_of_le_of_lt Nat.and_le_left hx) (by have := Nat.two_pow_pos n; omega) hg1 (by omega)
    have hv : vlN m n 12 i g a b = boxN n (grpM andF m g (2 ^ n - 1)) a := rfl
    rw [hv]
    clear hv
    generalize grpM andF m g (2 ^ n - 1) = G at hG hgl hgb ⊢
    have hB := rc_Box n G a hn hgl (fun s hs => Nat.lt_of_lt_of_le (hgb s hs) h64)
    rw [show i64 n = .int .i64 m.n by rw [hmn]; rfl] at hB
    (try conv=>whnf);repeat' (first|(apply And.intro<;>try conv=>whnf)|(intro h;first|with_reducible exact tf h (by assumption)|with_reducible exact tf (by assumption) h|try conv=>whnf)|(refine lin_plan (by kernel_rfl) ?_;try conv=>whnf)|(refine ⟨_, (by (conv=>whnf);exact hG), rfl, ?_⟩;try conv=>whnf)|(refine ⟨_, (by (conv=>whnf);exact hB), rfl, ?_⟩;try conv=>whnf)|fail)
    exact .refl _
  · skip
    have f1 : ((13 : Int) == 1) = false := rfl
    have f2 : ((13 : Int) == 2) = false := rfl
    have f3 : ((13 : Int) == 3) = false := rfl
    have f4 : ((13 : Int) == 4) = false := rfl
    have f5 : ((13 : Int) == 5) = false := rfl
    have f6 : ((13 : Int) == 6) = false := rfl
    have f7 : ((13 : Int) == 7) = false := rfl
    have f8 : ((13 : Int) == 8) = false := rfl
    have f9 : ((13 : Int) == 9) = false := rfl
    have f10 : ((13 : Int) == 10) = false := rfl
    have f11 : ((13 : Int) == 11) = false := rfl
    have f12 : ((13 : Int) == 12) = false := rfl
    have f13 : ((13 : Int) == 13) = true := rfl
    have fle : decide ((13 : Int) ≤ 8) = false := rfl
    have hg1 := (hk.group rfl).1
    simp only at hg1
    have h9 : decide (g ≥ shl64 1 (m.rel.length : Int)) = false := by
      have h : (!decide (g ≥ shl64 1 (m.rel.length : Int))) = true := hq
      simpa using h
    have h8 := of_decide_eq_false h9
    have hG := rm_Group m n hM g
    obtain ⟨hgl, hgb⟩ := grp_facts (op := orF) (first := 0) hM (fun _ _ hx hy => Nat.or_lt_two_pow hx hy) (Nat.two_pow_pos n) hg1 (by omega)
    have hv : vlN m n 13 i g a b = comN n (grpM orF m g 0) a b := rfl
    rw [hv]
    clear hv
    generalize grpM orF m g 0 = G at hG hgl hgb ⊢
    have hB := rc_common n G a b hn hgl hgb ha64
    rw [show i64 n = .int .i64 m.n by rw [hmn]; rfl] at hB
    (try conv=>whnf);repeat' (first|(apply And.intro<;>try conv=>whnf)|(intro h;first|with_reducible exact tf h (by assumption)|try conv=>whnf)|(refine lin_plan (by kernel_rfl) ?_;try conv=>whnf)|(refine ⟨_, (by (conv=>whnf);exact hG), rfl, ?_⟩;try conv=>whnf)|(refine ⟨_, (by (conv=>whnf);exact hB), rfl, ?_⟩;try conv=>whnf)|fail)
    exact .refl _
end Go.Proofs.YtlaolpkgabknfaaGreatDoor
set_option maxRecDepth 100000
set_option maxHeartbeats 4000000
namespace Go.Proofs.YtlaolpkgabknfaaGreatDoor
open Go Go.Dv

theorem rc_Check (m : Mo) (f : List Nd) (hf : FitM m) : PureFn Tryz.prog 130 [m.pv, fpv f, .int .i64 15] (.int .i64 (reqI m f)) := by
  refine PureFn.introC [2, 5] mixed (fn := Tryz.f130) rfl rfl rfl fun M w0 => ?_
  have hC := rm_Check m hf
  have h1 := ref_Check f
  have h2 := ref_Frags f
  have h3 := ref_Fits f ((m.rel.map rowPV).length : Nat) ((m.val.map u64).length : Nat)
  rw [reqI, statI, show (m.rel.length : Int) = ((m.rel.map rowPV).length : Nat) by simp, show (m.val.length : Int) = ((m.val.map u64).length : Nat) by simp]
  generalize moI m = c at hC
  generalize check f = d at h1
  generalize fits f ((m.rel.map rowPV).length : Nat) ((m.val.map u64).length : Nat) = b at h3
  try conv=>whnf
  refine ⟨Unit, fun _ => [(1, .pv (fpv f)), (2, .pv (.int .i64 15)), (3, .ref 0 0), (7, .pv (.int .i64 c))], fun _ => 1, fun _ => HM m, ?_, ?_⟩
  · (try conv=>whnf);repeat' (first|(refine PureFn.dcq (f := 42) rfl ?_;try conv=>whnf)|(refine ⟨_, _, hC, ?_, ?_⟩;(focus first|(refine ⟨?_, trivial⟩<;>first|exact PLe.refl _|exact PLe.nil)|exact trivial);try conv=>whnf)|fail)
    exact ⟨(), (by refine Wk.of ?_ ?_ rfl rfl rfl<;>repeat' (first|exact trivial|exact WkD.same _|exact WkO.same _ _ rfl|refine ⟨?_, ?_⟩|fail))⟩
  rintro ⟨⟩
  (try conv=>whnf);repeat' (first|(apply And.intro<;>try conv=>whnf)|(intro h;try conv=>whnf)|fail)
  · rw [show (c != 0) = true from h]; exact .refl _
  refine ⟨Unit, fun _ => [(1, .pv (fpv f)), (2, .pv (.int .i64 15)), (3, .ref 0 0), (7, .pv (.int .i64 d))], fun _ => 1, fun _ => HM m, ?_, ?_⟩
  · (try conv=>whnf);repeat' (first|(refine PureFn.dcq (f := 60) rfl ?_;try conv=>whnf)|(refine ⟨_, _, h1, ?_, ?_⟩;(focus first|(refine ⟨?_, trivial⟩<;>first|exact PLe.refl _|exact PLe.nil)|exact trivial);try conv=>whnf)|fail)
    exact ⟨(), (by refine Wk.of ?_ ?_ rfl rfl rfl<;>repeat' (first|exact trivial|exact WkD.same _|exact WkO.same _ _ rfl|refine ⟨?_, ?_⟩|fail))⟩
  rintro ⟨⟩
  rw [show (c != 0) = false from h]
  (try conv=>whnf);repeat' (first|(apply And.intro<;>try conv=>whnf)|(intro h;try conv=>whnf)|(refine PureFn.dcq (f := 61) rfl ?_;try conv=>whnf)|(refine PureFn.dcq (f := 62) rfl ?_;try conv=>whnf)|(refine ⟨_, _, h2, ?_, ?_⟩;(focus first|(refine ⟨?_, trivial⟩<;>first|exact PLe.refl _|exact PLe.nil)|exact trivial);try conv=>whnf)|(refine ⟨_, _, h3, ?_, ?_⟩;(focus first|(refine ⟨?_, ?_, ?_, trivial⟩<;>first|exact PLe.refl _|exact PLe.nil)|exact trivial);try conv=>whnf)|fail)
  · rw [show (d != 0) = true from h]; exact .refl _
  · rename_i hd
    rw [show (d != 0) = false from hd, show (nand64' (frags f : Nat) 15 != 0) = true from h]; exact .refl _
  · rename_i hd hn
    rw [show (d != 0) = false from hd, show (nand64' (frags f : Nat) 15 != 0) = false from hn, h]; exact .refl _
  · rename_i hd hn
    rw [show (d != 0) = false from hd, show (nand64' (frags f : Nat) 15 != 0) = false from hn, h]; exact .refl _
theorem rc_fits (m : Mo) (f : List Nd) (i : Nat) (hs : statI (m.rel.length : Int) (m.val.length : Int) (sub f i) = 0) : PureFn Tryz.prog 153 [m.pv, fpv f, i64 i] (.bool true) := by
  refine PureFn.introC [2] mixed (fn := Tryz.f153) rfl rfl rfl fun M w0 => ?_
  have h1 := ref_Sub f i
  have h2 := ref_Frags (sub f i)
  have h3 := ref_Fits (sub f i) ((m.rel.map rowPV).length : Nat) ((m.val.map u64).length : Nat)
  obtain ⟨_, hs1, hs2⟩ := statI_ok hs
  rw [show (m.rel.length : Int) = ((m.rel.map rowPV).length : Nat) by simp, show (m.val.length : Int) = ((m.val.map u64).length : Nat) by simp] at hs2
  rw [hs2] at h3
  generalize sub f i = g at h1 h2 h3 hs1
  try conv=>whnf
  refine ⟨Unit, fun _ => [(3, .ref 0 0), (7, .pv (fpv g))], fun _ => 1, fun _ => HM m, ?_, ?_⟩
  · (try conv=>whnf);repeat' (first|(refine PureFn.dcq (f := 64) rfl ?_;try conv=>whnf)|(refine ⟨_, _, h1, ?_, ?_⟩;(focus first|(refine ⟨?_, ?_, trivial⟩<;>first|exact PLe.refl _|exact PLe.nil)|exact trivial);try conv=>whnf)|fail)
    exact ⟨(), (by refine Wk.of ?_ ?_ rfl rfl rfl<;>repeat' (first|exact trivial|exact WkD.same _|exact WkO.same _ _ rfl|refine ⟨?_, ?_⟩|fail))⟩
  rintro ⟨⟩
  (try conv=>whnf);repeat' (first|(apply And.intro<;>try conv=>whnf)|(intro h;try conv=>whnf)|apply True.intro|(apply WhenQ.mk;(try conv=>whnf);rotate_left;(try conv=>whnf);rotate_right)|with_reducible assumption|(refine PureFn.dcq (f := 61) rfl ?_;try conv=>whnf)|(refine PureFn.dcq (f := 62) rfl ?_;try conv=>whnf)|(refine ⟨_, _, h2, ?_, ?_⟩;(focus first|(refine ⟨?_, trivial⟩<;>first|exact PLe.refl _|exact PLe.nil)|exact trivial);try conv=>whnf)|(refine ⟨_, _, h3, ?_, ?_⟩;(focus first|(refine ⟨?_, ?_, ?_, trivial⟩<;>first|exact PLe.refl _|exact PLe.nil)|exact trivial);try conv=>whnf)|fail)
  refine le_bool ?_
  show (bif nand64' (frags g : Nat) 15 == 0 then true else false) = true
  rw [show nand64' (frags g : Nat) 15 = 0 by simpa using hs1]; rfl
theorem rc_Sets_bad (m : Mo) (f : List Nd) (hf : FitM m) (h0 : (reqI m f != 0) = true) : PureFn Tryz.prog 129 [m.pv, fpv f] (.tup [.nil, .int .i64 (reqI m f)]) := by
  refine PureFn.introC [2] mixed (fn := Tryz.f129) rfl rfl rfl fun M w0 => ?_
  have hC := rc_Check m f hf
  generalize reqI m f = c at h0 hC
  try conv=>whnf
  refine ⟨Unit, fun _ => [(6, .pv (.int .i64 c))], fun _ => 1, fun _ => HM m, ?_, ?_⟩
  · (try conv=>whnf);repeat' (first|(refine PureFn.dcq (f := 130) rfl ?_;try conv=>whnf)|(refine ⟨_, _, hC, ?_, ?_⟩;(focus first|(refine ⟨?_, ?_, ?_, trivial⟩<;>first|exact PLe.refl _|exact PLe.nil)|exact trivial);try conv=>whnf)|fail)
    exact ⟨(), (by refine Wk.of ?_ ?_ rfl rfl rfl<;>repeat' (first|exact trivial|exact WkD.same _|exact WkO.same _ _ rfl|refine ⟨?_, ?_⟩|fail))⟩
  rintro ⟨⟩
  (try conv=>whnf);repeat' (first|(apply And.intro<;>try conv=>whnf)|(intro h;first|with_reducible exact tf (by assumption) h|try conv=>whnf)|fail)
  all_goals exact .refl _
theorem setsR_lt {m : Mo} {n : Nat} (hM : OkM m n) (f : List Nd) : ∀ v, v ∈ setsR m n f → v < 2 ^ n := by
  have key : ∀ (l : List Nd) (acc : List Nat), (∀ v, v ∈ acc → v < 2 ^ n) → ∀ v, v ∈ l.foldl (fun acc x => acc ++ [nodeR m n acc x]) acc → v < 2 ^ n := by
    intro l
    induction l with
    | nil => intro acc h; exact h
    | cons x r ih =>
      intro acc h
      refine ih _ fun v hv => ?_
      rcases List.mem_append.1 hv with hv | hv
      · exact h v hv
      · rw [List.mem_singleton.1 hv]
        have hg : ∀ j, acc.getD j 0 < 2 ^ n := fun j => by
          rw [List.getD_eq_getElem?_getD]
          cases hq : acc[j]? with
          | none => exact Nat.two_pow_pos n
          | some w => exact h w (List.mem_iff_getElem?.2 ⟨j, hq⟩)
        exact vlN_lt hM.vbits (bif_lt (hg _) (Nat.two_pow_pos n)) (bif_lt (hg _) (Nat.two_pow_pos n))
  exact key f [] (by simp)
theorem rc_Sets (m : Mo) (n : Nat) (hM : OkM m n) (f : List Nd) (h0 : reqI m f = 0) (hok : Okl f) (hfl : f.length ≤ 200) (hsub : ∀ i, i < f.length → statI (m.rel.length : Int) (m.val.length : Int) (sub f i) = 0) (hq : ∀ x, x ∈ f → fitQ m x.op x.i x.e x.g = true) :
    PureFn Tryz.prog 129 [m.pv, fpv f] (.tup [.sl ((setsR m n f).map u64), .int .i64 0]) := by
  refine PureFn.introC [2, 11, 13, 15] mixed (fn := Tryz.f129) rfl rfl rfl fun M w0 => ?_
  have hC := rc_Check m f hM.fit
  rw [h0] at hC
  have hfl2 : ((f.map Nd.pv).length : Int) = (f.length : Int) := by simp
  try conv=>whnf
  refine ⟨Unit, fun _ => [(1, .pv (fpv f)), (2, .ref 0 0), (6, .pv (.int .i64 0))], fun _ => 1, fun _ => HM m, ?_, ?_⟩
  · (try conv=>whnf);repeat' (first|(refine PureFn.dcq (f := 130) rfl ?_;try conv=>whnf)|(refine ⟨_, _, hC, ?_, ?_⟩;(focus first|(refine ⟨?_, ?_, ?_, trivial⟩<;>first|exact PLe.refl _|exact PLe.nil)|exact trivial);try conv=>whnf)|fail)
    exact ⟨(), (by refine Wk.of ?_ ?_ rfl rfl rfl<;>repeat' (first|exact trivial|exact WkD.same _|exact WkO.same _ _ rfl|refine ⟨?_, ?_⟩|fail))⟩
  rintro ⟨⟩
  (try conv=>whnf);repeat' (first|(apply And.intro<;>try conv=>whnf)|(intro h;try conv=>whnf)|fail)
  · exact absurd (show (!((0 : Int) == 0)) = true from h) (by decide)
  refine ⟨{ i : Nat // i ≤ f.length }, fun i => [(1, .pv (fpv f)), (2, .ref 0 0), (7, .buf 1 ((setsR m n (f.take i.1)).map u64).length), (8, .pv (i64 i.1))], fun _ => 2, fun i => [(0, .var (cellsM m)), (1, .arr 1 ((setsR m n (f.take i.1)).map u64))], fun i => f.length - i.1, ⟨⟨0, Nat.zero_le _⟩, (by refine Wk.of ?_ ?_ rfl rfl rfl<;>repeat' (first|exact trivial|exact WkD.same _|exact WkO.same _ _ rfl|exact WkD.new' rfl rfl rfl|exact WkO.new _ _ rfl|exact rfl|refine ⟨?_, ?_⟩|fail))⟩, ?_⟩
  intro i
  have hi := i.2
  have hAl := setsR_len (m := m) (n := n) (f := f) i.1 hi
  have hlt := setsR_lt hM (f.take i.1)
  have hAb : ∀ j, (setsR m n (f.take i.1)).getD j 0 < 2 ^ n := fun j => getD_lt (Nat.two_pow_pos n) hlt
  have hAm : ((setsR m n (f.take i.1)).map u64).length = i.1 := by rw [List.length_map, hAl]
  (try conv=>whnf);repeat' (first|(apply And.intro<;>try conv=>whnf)|(intro h;try conv=>whnf)|(apply bleI;rfl)|fail)
  · have hi' : i.1 < f.length := by simpa using lt_dec h
    have hfi := rc_fits m f i.1 (hsub i.1 hi')
    have hx : f[i.1]? = some f[i.1] := List.getElem?_eq_getElem hi'
    have hk := hok i.1 _ hx
    have hqx := hq _ (List.getElem_mem hi')
    have hA3 := setsR_take (m := m) (n := n) hi'
    have hUX := ref_UsesX f[i.1].op
    have hUY := ref_UsesY f[i.1].op
    (try conv=>whnf);repeat' (first|(apply And.intro<;>try conv=>whnf)|(intro h;first|with_reducible exact nt0 h|try conv=>whnf)|(refine PureFn.dcq (f := 153) rfl ?_;try conv=>whnf)|(refine ⟨_, _, hfi, ?_, ?_⟩;(focus first|(refine ⟨?_, ?_, ?_, trivial⟩<;>first|exact PLe.refl _|exact PLe.nil)|exact trivial);try conv=>whnf)|fail)
    refine ⟨Unit, fun _ => [(1, .pv (fpv f)), (2, .ref 0 0), (7, .buf 1 ((setsR m n (f.take i.1)).map u64).length), (8, .pv (i64 i.1)), (9, .pv (u64 (0))), (10, .pv (u64 (0)))], fun _ => 2, fun _ => [(0, .var (cellsM m)), (1, .arr 1 ((setsR m n (f.take i.1)).map u64))], ?_, ?_⟩
    · try conv=>whnf
      exact ⟨(), (by refine Wk.of ?_ ?_ rfl rfl rfl<;>repeat' (first|exact trivial|exact WkD.same _|exact WkO.same _ _ rfl|refine ⟨?_, ?_⟩|fail))⟩
    rintro ⟨⟩
    refine ⟨Unit, fun _ => [(1, .pv (fpv f)), (2, .ref 0 0), (7, .buf 1 ((setsR m n (f.take i.1)).map u64).length), (8, .pv (i64 i.1)), (9, .pv (u64 ((bif usesX f[i.1].op then (setsR m n (f.take i.1)).getD f[i.1].x.toNat 0 else 0)))), (10, .pv (u64 (0)))], fun _ => 2, fun _ => [(0, .var (cellsM m)), (1, .arr 1 ((setsR m n (f.take i.1)).map u64))], ?_, ?_⟩
    · (try conv=>whnf);repeat' (first|(apply And.intro<;>try conv=>whnf)|(intro h;try conv=>whnf)|(apply infoT;rfl)|(refine ⟨_, _, rfl, idx_map (by with_reducible assumption), rfl, ?_⟩;try conv=>whnf)|(refine PureFn.dcq (f := 68) rfl ?_;try conv=>whnf)|(refine ⟨_, _, hUX, ?_, ?_⟩;(focus first|(refine ⟨?_, trivial⟩<;>first|exact PLe.refl _|exact PLe.nil)|exact trivial);try conv=>whnf)|fail)
      · have hkx := hk.x h
        have hj : f[i.1].x.toNat < (setsR m n (f.take i.1)).length := by omega
        refine ⟨f[i.1].x.toNat, by omega, by rw [List.length_map]; exact hj, ?_⟩
        (try conv=>whnf);repeat' (first|(apply And.intro<;>try conv=>whnf)|fail)
        refine ⟨_, idx_map (g := u64) (getD_mem hj (d := 0)), ?_⟩
        try conv=>whnf
        rw [show usesX f[i.1].op = true from h]
        exact ⟨(), (by refine Wk.of ?_ ?_ rfl rfl rfl<;>repeat' (first|exact trivial|exact WkD.same _|exact WkO.same _ _ rfl|refine ⟨?_, ?_⟩|fail))⟩
      · rw [show usesX f[i.1].op = false from h]
        exact ⟨(), (by refine Wk.of ?_ ?_ rfl rfl rfl<;>repeat' (first|exact trivial|exact WkD.same _|exact WkO.same _ _ rfl|refine ⟨?_, ?_⟩|fail))⟩
    rintro ⟨⟩
    refine ⟨Unit, fun _ => [(1, .pv (fpv f)), (2, .ref 0 0), (7, .buf 1 ((setsR m n (f.take i.1)).map u64).length), (8, .pv (i64 i.1)), (9, .pv (u64 ((bif usesX f[i.1].op then (setsR m n (f.take i.1)).getD f[i.1].x.toNat 0 else 0)))), (10, .pv (u64 ((bif usesY f[i.1].op then (setsR m n (f.take i.1)).getD f[i.1].y.toNat 0 else 0))))], fun _ => 2, fun _ => [(0, .var (cellsM m)), (1, .arr 1 ((setsR m n (f.take i.1)).map u64))], ?_, ?_⟩
    · (try conv=>whnf);repeat' (first|(apply And.intro<;>try conv=>whnf)|(intro h;try conv=>whnf)|(apply infoT;rfl)|(refine ⟨_, _, rfl, idx_map (by with_reducible assumption), rfl, ?_⟩;try conv=>whnf)|(refine PureFn.dcq (f := 69) rfl ?_;try conv=>whnf)|(refine ⟨_, _, hUY, ?_, ?_⟩;(focus first|(refine ⟨?_, trivial⟩<;>first|exact PLe.refl _|exact PLe.nil)|exact trivial);try conv=>whnf)|fail)
      · have hkx := hk.y h
        have hj : f[i.1].y.toNat < (setsR m n (f.take i.1)).length := by omega
        refine ⟨f[i.1].y.toNat, by omega, by rw [List.length_map]; exact hj, ?_⟩
        (try conv=>whnf);repeat' (first|(apply And.intro<;>try conv=>whnf)|fail)
        refine ⟨_, idx_map (g := u64) (getD_mem hj (d := 0)), ?_⟩
        try conv=>whnf
        rw [show usesY f[i.1].op = true from h]
        exact ⟨(), (by refine Wk.of ?_ ?_ rfl rfl rfl<;>repeat' (first|exact trivial|exact WkD.same _|exact WkO.same _ _ rfl|refine ⟨?_, ?_⟩|fail))⟩
      · rw [show usesY f[i.1].op = false from h]
        exact ⟨(), (by refine Wk.of ?_ ?_ rfl rfl rfl<;>repeat' (first|exact trivial|exact WkD.same _|exact WkO.same _ _ rfl|refine ⟨?_, ?_⟩|fail))⟩
    rintro ⟨⟩
    have hV := rc_One m n hM f[i.1] _ hk hqx (bif usesX f[i.1].op then (setsR m n (f.take i.1)).getD f[i.1].x.toNat 0 else 0) (bif usesY f[i.1].op then (setsR m n (f.take i.1)).getD f[i.1].y.toNat 0 else 0) (bif_lt (hAb _) (Nat.two_pow_pos n)) (bif_lt (hAb _) (Nat.two_pow_pos n))
    have hes : (setsR m n (f.take i.1)).map u64 ++ [u64 (vlN m n f[i.1].op f[i.1].i f[i.1].g (bif usesX f[i.1].op then (setsR m n (f.take i.1)).getD f[i.1].x.toNat 0 else 0) (bif usesY f[i.1].op then (setsR m n (f.take i.1)).getD f[i.1].y.toNat 0 else 0))] = (setsR m n (f.take (i.1 + 1))).map u64 := by rw [hA3, List.map_append]; rfl
    try conv=>whnf
    refine ⟨Plan.lin 0 12, [], by kernel_rfl, ?_⟩
    (try conv=>whnf);repeat' (first|(apply And.intro<;>try conv=>whnf)|(apply infoT;rfl)|(apply cellsI;rfl)|(apply szI;rfl)|(refine ⟨_, _, rfl, idx_map (by with_reducible assumption), rfl, ?_⟩;try conv=>whnf)|(refine ⟨_, (by (conv=>whnf);exact hV), rfl, ?_⟩;try conv=>whnf)|fail)
    · exact app_big (n := 200) (by omega) (by decide)
    · refine ⟨⟨i.1 + 1, hi'⟩, by show f.length - (i.1 + 1) < f.length - i.1; omega, ?_⟩
      (refine Wk.of ?_ ?_ rfl rfl rfl<;>repeat' (first|exact trivial|exact WkD.same _|exact WkO.same _ _ rfl|exact WkD.eq (congrArg (fun z : List PV => DV.buf _ z.length) hes)|exact WkO.same _ _ (congrArg (fun z => some (DObj.arr _ z)) hes)|refine WkD.int ?_|refine ⟨?_, ?_⟩|(refine wrapA ?_ ?_ ?_;(focus simp;done);(focus (try dsimp only);omega);(focus (try dsimp only);omega))|fail))
  · have hi' : i.1 = f.length := by have := ge_dec (m := (f.map Nd.pv).length) h (by simpa using hi); simpa using this
    rw [hi', List.take_length]
    exact .refl _
end Go.Proofs.YtlaolpkgabknfaaGreatDoor
set_option maxRecDepth 100000
set_option maxHeartbeats 4000000
namespace Go.Proofs.YtlaolpkgabknfaaGreatDoor
open Go Go.Dv

theorem stat_comp {A F : Nat} {f : List Nd} (h : statI A F (comp f) = 0) : statI A F f = 0 := by
  obtain ⟨h1, h2⟩ := statM_iff.1 h
  have hc : check f = 0 := by
    by_cases q : check f = 0
    · exact q
    · rw [comp_none q] at h1
      exact absurd h1 (by decide)
  rw [comp_comp hc] at h2
  exact statM_iff.2 ⟨hc, h2⟩
theorem stat_comp' {A F : Nat} {f : List Nd} (h : statI A F f = 0) : statI A F (comp f) = 0 := by
  obtain ⟨h1, h2⟩ := statM_iff.1 h
  exact statM_iff.2 ⟨comp_check h1, by rw [comp_comp h1]; exact h2⟩
theorem sub_ofcomp {f : List Nd} (h : check f = 0) {i : Nat} (hi : i < (comp f).length) : sub (comp f) i = canon (comp f) i := by
  rw [sub, comp_check h, decide_eq_false (by omega), decide_eq_false (by omega)]
  rfl
theorem rc_Holds (m : Mo) (f : List Nd) (hf : FitM m) : PureFn Tryz.prog 84 [m.pv, fpv f] (.tup [u64 (holdsI m f).1, .int .i64 (holdsI m f).2]) := by
  have hK := ref_Compact f
  by_cases h0 : reqI m f = 0
  · obtain ⟨⟨n, hM⟩, hst⟩ := reqI_ok h0
    have hag := hM.ag
    have hch := (statM_iff.1 hst).1
    have hall := (statM_iff.1 hst).2
    have hr : reqI m (comp f) = 0 := by rw [reqI, ok_moI hM]; exact stat_comp' hst
    have hS := rc_Sets m n hM (comp f) hr (comp_okl f) (comp_len f) (fun i hi => by rw [sub_ofcomp hch hi]; exact sub_stat (comp_okl f) hall (comp_len f) hi) (fun x hx => by
      obtain ⟨k, hk⟩ := okl_mem (comp_okl f) hx
      exact fitQ_of hag hk (hall x hx))
    have hL := last_R (n := n) hag hst
    have hp := comp_pos hch
    have hsl : (setsR m n (comp f)).length = (comp f).length := by
      have := setsR_len (m := m) (n := n) (f := comp f) (comp f).length (Nat.le_refl _)
      rwa [List.take_length] at this
    have hcl := comp_len f
    have hres : holdsI m f = (vlT m n (root f), 0) := by rw [holdsI, h0, hM.nn, Int.toNat_natCast]; rfl
    rw [hres]
    rw [← hsl] at hL hp hcl
    generalize setsR m n (comp f) = S at hS hL hp hcl
    generalize comp f = g at hK hS
    generalize vlT m n (root f) = v at hL
    have e1 : ((S.map u64).length : Int) = (S.length : Int) := by simp
    have hw : IntKind.wrap .i64 (((S.map u64).length : Int) - 1) = ((S.length - 1 : Nat) : Int) := by rw [e1, Go.Dv.wrap_small (by omega) (by omega)]; omega
    have hz : (((S.map u64).length : Int) == 0) = false := by
      have h9 : ¬ ((S.length : Int) = 0) := by omega
      rw [e1]; simpa using h9
    refine PureFn.introC [2] mixed (fn := Tryz.f84) rfl rfl rfl fun M w0 => ?_
    try conv=>whnf
    refine ⟨Unit, fun _ => [(1, .pv (fpv f)), (2, .ref 0 0), (6, .pv (.sl (S.map u64))), (7, .pv (.int .i64 0))], fun _ => 1, fun _ => HM m, ?_, ?_⟩
    · (try conv=>whnf);repeat' (first|(refine lin_plan (by kernel_rfl) ?_;try conv=>whnf)|(refine ⟨_, (by (conv=>whnf);exact hK), rfl, ?_⟩;try conv=>whnf)|(refine ⟨_, (by (conv=>whnf);exact hS), rfl, ?_⟩;try conv=>whnf)|fail)
      exact ⟨(), (by refine Wk.of ?_ ?_ rfl rfl rfl<;>repeat' (first|exact trivial|exact WkD.same _|exact WkO.same _ _ rfl|refine ⟨?_, ?_⟩|fail))⟩
    rintro ⟨⟩
    (try conv=>whnf);repeat' (first|(apply And.intro<;>try conv=>whnf)|(intro h;try conv=>whnf)|apply True.intro|(apply infoT;rfl)|(apply WhenQ.mk;(try conv=>whnf);rotate_left;(try conv=>whnf);rotate_right)|with_reducible assumption|(apply not_of;with_reducible assumption)|fail)
    · exfalso
      rw [hz] at h
      exact absurd (show false = true from h) (by decide)
    · refine ⟨S.length - 1, _, hw, idx_map (g := u64) hL, rfl, ?_⟩
      try conv=>whnf
      exact .refl _
  · have hb : (reqI m f != 0) = true := by simpa using h0
    have hr : (reqI m (comp f) != 0) = true := by
      rw [bne_iff_ne]
      intro h
      apply h0
      obtain ⟨⟨n, hM⟩, hst⟩ := reqI_ok h
      rw [reqI, ok_moI hM]
      exact stat_comp hst
    have hS := rc_Sets_bad m (comp f) hf hr
    have hC := rc_Check m f hf
    have hres : holdsI m f = (0, reqI m f) := by rw [holdsI, hb]; rfl
    rw [hres]
    generalize reqI m (comp f) = c at hS hr
    generalize comp f = g at hK hS
    generalize reqI m f = d at hC hb
    refine PureFn.introC [2] mixed (fn := Tryz.f84) rfl rfl rfl fun M w0 => ?_
    try conv=>whnf
    refine ⟨Unit, fun _ => [(1, .pv (fpv f)), (2, .ref 0 0), (6, .pv .nil), (7, .pv (.int .i64 c))], fun _ => 1, fun _ => HM m, ?_, ?_⟩
    · (try conv=>whnf);repeat' (first|(refine lin_plan (by kernel_rfl) ?_;try conv=>whnf)|(refine ⟨_, (by (conv=>whnf);exact hK), rfl, ?_⟩;try conv=>whnf)|(refine ⟨_, (by (conv=>whnf);exact hS), rfl, ?_⟩;try conv=>whnf)|fail)
      exact ⟨(), (by refine Wk.of ?_ ?_ rfl rfl rfl<;>repeat' (first|exact trivial|exact WkD.same _|exact WkO.same _ _ rfl|refine ⟨?_, ?_⟩|fail))⟩
    rintro ⟨⟩
    (try conv=>whnf);repeat' (first|(apply And.intro<;>try conv=>whnf)|(intro h;first|with_reducible exact tf (by assumption) h|try conv=>whnf)|apply True.intro|(apply WhenQ.mk;(try conv=>whnf);rotate_left;(try conv=>whnf);rotate_right)|with_reducible assumption|(refine PureFn.dcq (f := 130) rfl ?_;try conv=>whnf)|(refine ⟨_, _, hC, ?_, ?_⟩;(focus first|(refine ⟨?_, ?_, ?_, trivial⟩<;>first|exact PLe.refl _|exact PLe.nil)|exact trivial);try conv=>whnf)|fail)
    · exact .refl _
    · exfalso
      rw [hr] at h
      exact absurd (show true = false from h) (by decide)
end Go.Proofs.YtlaolpkgabknfaaGreatDoor
