/- Parts of the proof, one after the other: The dynamic language: announcing twice; the axioms (plain). The dynamic language: the evaluation of the program walked: all nodes. The dynamic language: requests of the program walked. The dynamic language: Holds of the program walked. The law TopHats: Seen, Play of one formula, the example, walked. The law TopHats walked. -/
import Derived.Test.YtjdmfhggokfflaaDoorM8
set_option maxRecDepth 100000
set_option maxHeartbeats 4000000
namespace Go.Proofs.YtjdmfhggokfflaaDoor
open Go Go.Dv

section
variable {acts : List Act} {m : Mo} {n : Nat} {a b g : Tr}
theorem dv_ann0 {i e k : Int} (h : dvT acts a m = some 0) : dvT acts (.nd 16 i e k a b) m = some (2 ^ m.n.toNat - 1) := by rw [dvT, h]; rfl
theorem dv_ann1 {i e k : Int} {s : Nat} (h : dvT acts a m = some s) (h0 : s ≠ 0) : dvT acts (.nd 16 i e k a b) m = match dvT acts b (arrI m (memL s)) with
    | none => none
    | some t => some (sprG t (memL s) 0 (notN m.n.toNat s)) := by
  have hb : (s == 0) = false := by simpa using h0
  rw [dvT, h]
  show (bif s == 0 then _ else _) = _
  rw [hb, cond_false]
  all_goals (cases dvT acts b (arrI m (memL s)) <;> rfl)
theorem dv_annN {i e k : Int} (h : dvT acts a m = none) : dvT acts (.nd 16 i e k a b) m = none := by rw [dvT, h]; rfl
end
end Go.Proofs.YtjdmfhggokfflaaDoor
set_option maxRecDepth 100000
set_option maxHeartbeats 16000000
namespace Go.Proofs.YtjdmfhggokfflaaDoor
open Go Go.Dv

theorem ann_L {acts : List Act} {c : List Nd} {A F Y : Nat} (hat : ConE 38 (.pv (.int .i64 (Y : Nat))) acts c A F Y) {m : Mo} {n : Nat} {es : List (Nat × Nat)} {err : Int} (hM : ModD acts m n A F) (hE : err = 0 ∨ err = 8) {s : Nat} (hs : s < 2 ^ n)
    {M : Nat → Prop} {w0 : World} {L : DH} {K : DV → DH → Prop} (h0 : L.lo = 0) (hn : Nat.ble 3 L.next = true) (g0 : L.get 0 = some (.var [.pv (.int .i64 err)])) (g1 : L.get 1 = some (.var (evC m acts c))) (g2 : L.get 2 = some (.mp (setM es)))
    (hK : ∀ t err', PostV (annV acts c Y m n s) n err t err' → K (.pv (u64 t)) (L.merge ⟨3, 0, 3, objsOf (H0 m acts c es err')⟩ 3)) : DC Tryd.prog M w0 78 [.ref 1 0, .pv (u64 s), .pv (.int .i64 (Y : Nat))] L K := by
  refine DC.call 3 (H0 m acts c es err) ⟨g2.symm, g1.symm, g0.symm, trivial⟩ rfl hn (by rw [h0]; rfl) rfl fun M' => ?_
  rw [h0]
  exact ann_dc hat hM hE hs fun t err' hp => ⟨rfl, hK t err' hp⟩
theorem evt_L {acts : List Act} {c : List Nd} {A F X e : Nat} {a : Act} (hS : ∀ a, a ∈ acts → SmA a) (ha : a ∈ acts) (he : e < a.pre.length) (hat : ConE 38 (.pv (.int .i64 (X : Nat))) acts c A F X) {m : Mo} {n : Nat} {es : List (Nat × Nat)} {err : Int} (hM : ModD acts m n A F) (hE : err = 0 ∨ err = 8)
    {M : Nat → Prop} {w0 : World} {L : DH} {K : DV → DH → Prop} (h0 : L.lo = 0) (hn : Nat.ble 3 L.next = true) (g0 : L.get 0 = some (.var [.pv (.int .i64 err)])) (g1 : L.get 1 = some (.var (evC m acts c))) (g2 : L.get 2 = some (.mp (setM es)))
    (hK : ∀ t err', PostV (evtV acts c X m n a e) n err t err' → K (.pv (u64 t)) (L.merge ⟨3, 0, 3, objsOf (H0 m acts c es err')⟩ 3)) : DC Tryd.prog M w0 79 [.ref 1 0, .agg (actDV a), .pv (.int .i64 (e : Nat)), .pv (.int .i64 (X : Nat))] L K := by
  refine DC.call 3 (H0 m acts c es err) ⟨g2.symm, g1.symm, g0.symm, trivial⟩ rfl hn (by rw [h0]; rfl) rfl fun M' => ?_
  rw [h0]
  exact evt_dc hS ha he hat hM hE fun t err' hp => ⟨rfl, hK t err' hp⟩
theorem annV_dvT {acts : List Act} {c : List Nd} {m : Mo} {n X Y s : Nat} {i e g : Int} (hnn : m.n.toNat = n) (h : dvT acts (tree c X) m = some s) : dvT acts (.nd 16 i e g (tree c X) (tree c Y)) m = annV acts c Y m n s := by
  by_cases h0 : s = 0
  · subst h0; rw [dv_ann0 h, annV, hnn]; rfl
  · rw [dv_ann1 h h0, annV, hnn, show (s == 0) = false by simpa using h0, cond_false]
    all_goals (cases dvT acts (tree c Y) (arrI m (memL s)) <;> rfl)
theorem evtV_dvT {acts : List Act} {c : List Nd} {m : Mo} {n X e : Nat} {i g : Int} {b : Tr} (hnn : m.n.toNat = n) : dvT acts (.nd 17 i (e : Int) g (tree c X) b) m = evtV acts c X m n (acts.getD i.toNat noAct) e := by
  rw [dvT, show ((17 : Int) == 16) = false from rfl, show ((17 : Int) == 17) = true from rfl, cond_false, cond_true, evtV, hnn, Int.toNat_natCast]
  all_goals
    cases ((holdsI m ((acts.getD i.toNat noAct).pre.getD e [])).1 == 0) with
    | true => rfl
    | false =>
      rw [cond_false, cond_false]
      cases ((updI m (acts.getD i.toNat noAct)).2.2 != 0) with
      | true => rfl
      | false =>
        rw [cond_false, cond_false]
        all_goals (cases dvT acts (tree c X) (updI m (acts.getD i.toNat noAct)).1 <;> rfl)
theorem val_16 {acts : List Act} {c : List Nd} {A F i : Nat} {fi ei gi xx yy : Int} (hC : CxD A F acts c) (hx : c[i]? = some ⟨16, fi, ei, gi, xx, yy⟩) (hat : ∀ j, j < i → ConE 38 (.pv (.int .i64 (j : Nat))) acts c A F j) :
    ConE 57 (.agg (Nd.dvs ⟨16, fi, ei, gi, xx, yy⟩)) acts c A F i := by
  intro m n es err hM hI hE M w0 base K hK
  have hO := hM.okd.okm
  have hnn : m.n.toNat = n := by rw [hO.nn, Int.toNat_natCast]
  have hn64 := hO.n64
  have h64 := pow64_le hn64
  have hall : 2 ^ n - 1 < 2 ^ n := by have := Nat.two_pow_pos n; omega
  have hnd := hC.okl i _ hx
  have hmem : (⟨16, fi, ei, gi, xx, yy⟩ : Nd) ∈ c := List.mem_iff_getElem?.2 ⟨i, hx⟩
  have hkx := hnd.x rfl
  simp only at hkx
  obtain ⟨X, ex⟩ : ∃ q : Nat, xx = q := ⟨xx.toNat, by omega⟩
  subst ex
  have hlx : X < i := by omega
  have hky := hnd.y rfl
  simp only at hky
  obtain ⟨Y, ey⟩ : ∃ q : Nat, yy = q := ⟨yy.toNat, by omega⟩
  subst ey
  have hly : Y < i := by omega
  have ht : tree c i = .nd 16 fi ei gi (tree c X) (tree c Y) := by rw [tree_nd hC.okl hx]; rfl
  have hX := fun {M w0 L K} => @con_L _ _ _ _ _ _ _ (hat X hlx) rfl m n es err hM hI hE M w0 L K
  have f1 : ((16 : Int) == 1) = false := rfl
  have f2 : ((16 : Int) == 2) = false := rfl
  have f3 : ((16 : Int) == 3) = false := rfl
  have f4 : ((16 : Int) == 4) = false := rfl
  have f5 : ((16 : Int) == 5) = false := rfl
  have f6 : ((16 : Int) == 6) = false := rfl
  have f7 : ((16 : Int) == 7) = false := rfl
  have f8 : ((16 : Int) == 8) = false := rfl
  have f9 : ((16 : Int) == 9) = false := rfl
  have f10 : ((16 : Int) == 10) = false := rfl
  have f11 : ((16 : Int) == 11) = false := rfl
  have f12 : ((16 : Int) == 12) = false := rfl
  have f13 : ((16 : Int) == 13) = false := rfl
  have f16 : ((16 : Int) == 16) = true := rfl
  refine DC.weaken (DC.intro mixed (fn := Tryd.f57) rfl rfl rfl ?_)
  (try conv=>whnf);repeat' (first|(apply And.intro<;>try conv=>whnf)|(intro h;first|with_reducible exact tf h (by assumption)|with_reducible exact tf (by assumption) h|try conv=>whnf)|fail)
  refine ⟨.one 0 (.one 1 (.one 2 (.one 3 (.two 4 (.one 5 (.one 6 (.one 7 (.one 8 .done)))) 5 (.two 4 (.one 6 (.one 7 (.one 8 .done))) 6 (.one 4 (.one 7 (.one 8 .done)))))))), [4, 7], by kernel_rfl, ?_⟩
  (try conv=>whnf);repeat' (first|(apply And.intro<;>try conv=>whnf)|(refine hX rfl rfl rfl rfl rfl ?_;intro s1 es1 er1 p1;have q1 := lt64 hO p1;try conv=>whnf)|(refine ann_L (es := es1) (hat Y hly) hM p1.er p1.lt rfl rfl rfl rfl rfl ?_;intro t err2 pv;try conv=>whnf)|fail)
  all_goals
    refine ⟨.pv (u64 t), 3, H0 m acts c es1 err2, ?_, hK _ _ _ ⟨pv.lt, fun k s h => ?_, pv.er, fun h => ?_, fun h => ?_⟩⟩
    · (refine Wk.of ?_ ?_ rfl rfl rfl<;>repeat' (first|exact trivial|exact WkD.same _|exact WkO.same _ _ rfl|refine ⟨?_, ?_⟩|fail))
    · obtain ⟨h1, h2⟩ := p1.inv k s h
      exact ⟨h1, fun h3 => h2 (pv.ok h3).1⟩
    · obtain ⟨h1, h2⟩ := pv.ok h
      obtain ⟨h3, h4⟩ := p1.ok h1
      exact ⟨h3, by rw [ht, annV_dvT hnn h4, h2]⟩
    · by_cases h1 : er1 = 0
      · obtain ⟨h3, h4⟩ := p1.ok h1
        rcases pv.no h with h2 | h2
        · exact absurd h1 h2
        · exact .inr (by rw [ht, annV_dvT hnn h4, h2])
      · rcases p1.no h1 with h2 | h2
        · exact .inl h2
        · exact .inr (by rw [ht]; exact dv_annN h2)
theorem val_17 {acts : List Act} {c : List Nd} {A F i : Nat} {fi ei gi xx yy : Int} (hC : CxD A F acts c) (hS : ∀ a, a ∈ acts → SmA a) (hx : c[i]? = some ⟨17, fi, ei, gi, xx, yy⟩) (hat : ∀ j, j < i → ConE 38 (.pv (.int .i64 (j : Nat))) acts c A F j) :
    ConE 57 (.agg (Nd.dvs ⟨17, fi, ei, gi, xx, yy⟩)) acts c A F i := by
  intro m n es err hM hI hE M w0 base K hK
  have hO := hM.okd.okm
  have hnn : m.n.toNat = n := by rw [hO.nn, Int.toNat_natCast]
  have hn64 := hO.n64
  have h64 := pow64_le hn64
  have hall : 2 ^ n - 1 < 2 ^ n := by have := Nat.two_pow_pos n; omega
  have hnd := hC.okl i _ hx
  have hmem : (⟨17, fi, ei, gi, xx, yy⟩ : Nd) ∈ c := List.mem_iff_getElem?.2 ⟨i, hx⟩
  have hkx := hnd.x rfl
  simp only at hkx
  obtain ⟨X, ex⟩ : ∃ q : Nat, xx = q := ⟨xx.toNat, by omega⟩
  subst ex
  have hlx : X < i := by omega
  have hev := hC.ev _ hmem rfl
  simp only at hev
  obtain ⟨I, eI⟩ : ∃ q : Nat, fi = q := ⟨fi.toNat, by omega⟩
  subst eI
  obtain ⟨E, eE⟩ : ∃ q : Nat, ei = q := ⟨ei.toNat, by omega⟩
  subst eE
  have hIl : I < acts.length := by omega
  obtain ⟨a, hai, had⟩ : ∃ a, acts[I]? = some a ∧ acts.getD I noAct = a := ⟨_, getD_mem hIl, rfl⟩
  have ham : a ∈ acts := List.mem_iff_getElem?.2 ⟨I, hai⟩
  have heN : E < a.pre.length := by
    have := hev.2.2.2
    rw [Int.toNat_natCast, had] at this
    omega
  have f1 : ((17 : Int) == 1) = false := rfl
  have f2 : ((17 : Int) == 2) = false := rfl
  have f3 : ((17 : Int) == 3) = false := rfl
  have f4 : ((17 : Int) == 4) = false := rfl
  have f5 : ((17 : Int) == 5) = false := rfl
  have f6 : ((17 : Int) == 6) = false := rfl
  have f7 : ((17 : Int) == 7) = false := rfl
  have f8 : ((17 : Int) == 8) = false := rfl
  have f9 : ((17 : Int) == 9) = false := rfl
  have f10 : ((17 : Int) == 10) = false := rfl
  have f11 : ((17 : Int) == 11) = false := rfl
  have f12 : ((17 : Int) == 12) = false := rfl
  have f13 : ((17 : Int) == 13) = false := rfl
  have f16 : ((17 : Int) == 16) = false := rfl
  refine DC.weaken (DC.intro mixed (fn := Tryd.f57) rfl rfl rfl ?_)
  (try conv=>whnf);repeat' (first|(apply And.intro<;>try conv=>whnf)|(intro h;first|with_reducible exact tf h (by assumption)|try conv=>whnf)|fail)
  refine ⟨.one 0 (.one 1 (.one 2 (.one 3 (.one 4 (.one 5 (.one 6 (.one 7 (.one 8 (.one 9 (.one 10 (.one 11 (.one 12 (.one 13 (.one 14 .done)))))))))))))), [13], by kernel_rfl, ?_⟩
  (try conv=>whnf);repeat' (first|(apply And.intro<;>try conv=>whnf)|(apply infoT;rfl)|(refine ⟨_, _, rfl, idx_map (by with_reducible assumption), rfl, ?_⟩;try conv=>whnf)|(refine evt_L (es := es) hS ham heN (hat X hlx) hM hE rfl rfl rfl rfl rfl ?_;intro t err2 pv;try conv=>whnf)|fail)
  have ht : tree c i = .nd 17 (I : Int) (E : Int) gi (tree c X) .none := by rw [tree_nd hC.okl hx]; rfl
  have hd : dvT acts (tree c i) m = evtV acts c X m n a E := by rw [ht, evtV_dvT hnn, Int.toNat_natCast, had]
  refine ⟨.pv (u64 t), 3, H0 m acts c es err2, ?_, hK _ _ _ ⟨pv.lt, fun k s h => ?_, pv.er, fun h => ?_, fun h => ?_⟩⟩
  · (refine Wk.of ?_ ?_ rfl rfl rfl<;>repeat' (first|exact trivial|exact WkD.same _|exact WkO.same _ _ rfl|refine ⟨?_, ?_⟩|fail))
  · obtain ⟨h1, h2⟩ := hI k s h
    exact ⟨h1, fun h3 => h2 (pv.ok h3).1⟩
  · obtain ⟨h1, h2⟩ := pv.ok h
    exact ⟨h1, hd.trans h2⟩
  · rcases pv.no h with h2 | h2
    · exact .inl h2
    · exact .inr (hd.trans h2)
theorem value_dc {acts : List Act} {c : List Nd} {A F i : Nat} {x : Nd} (hC : CxD A F acts c) (hS : ∀ a, a ∈ acts → SmA a) (hx : c[i]? = some x) (hat : ∀ j, j < i → ConE 38 (.pv (.int .i64 (j : Nat))) acts c A F j) :
    ConE 57 (.agg x.dvs) acts c A F i := by
  have hop := hC.op x (List.mem_iff_getElem?.2 ⟨i, hx⟩)
  have h1 := (hC.okl i x hx).op.1
  obtain ⟨op, fi, ei, gi, xx, yy⟩ := x
  simp only at hop h1
  have : op = 1 ∨ op = 2 ∨ op = 3 ∨ op = 4 ∨ op = 5 ∨ op = 6 ∨ op = 7 ∨ op = 8 ∨ op = 9 ∨ op = 10 ∨ op = 11 ∨ op = 12 ∨ op = 13 ∨ op = 16 ∨ op = 17 := by omega
  rcases this with rfl | rfl | rfl | rfl | rfl | rfl | rfl | rfl | rfl | rfl | rfl | rfl | rfl | rfl | rfl
  · exact val_1 hC hx hat
  · exact val_2 hC hx hat
  · exact val_3 hC hx hat
  · exact val_4 hC hx hat
  · exact val_5 hC hx hat
  · exact val_6 hC hx hat
  · exact val_7 hC hx hat
  · exact val_8 hC hx hat
  · exact val_9 hC hx hat
  · exact val_10 hC hx hat
  · exact val_11 hC hx hat
  · exact val_12 hC hx hat
  · exact val_13 hC hx hat
  · exact val_16 hC hx hat
  · exact val_17 hC hS hx hat
theorem at_all {acts : List Act} {c : List Nd} {A F : Nat} (hC : CxD A F acts c) (hS : ∀ a, a ∈ acts → SmA a) : ∀ (k i : Nat), i < k → i < c.length → ConE 38 (.pv (.int .i64 (i : Nat))) acts c A F i
  | 0, i, h, _ => by omega
  | k + 1, i, h, hi => at_dc hC hi fun x hx => value_dc hC hS hx fun j hj => at_all hC hS k j (by omega) (by omega)
end Go.Proofs.YtjdmfhggokfflaaDoor
set_option maxRecDepth 100000
set_option maxHeartbeats 8000000
namespace Go.Proofs.YtjdmfhggokfflaaDoor
open Go Go.Dv

def HDq (m : Mo) (acts : List Act) : List (Nat × DObj) := [(0, .var (cellsM m)), (1, .var [.pv (actsPV acts)])]
theorem WkD.boo {L : DH} {H : List (Nat × DObj)} {a b : Bool} (h : a = b) : WkD L H (.pv (.bool a)) (.pv (.bool b)) := h ▸ .same _
theorem req1 {M : Nat → Prop} {w0 : World} (m : Mo) (acts : List Act) (x : Nd) (hx : x.op = 17 → 0 ≤ x.i) (base : Nat) (K : DV → DH → Prop) (hK : K (.pv (.bool (badA acts x))) ⟨2, 0, base, objsOf (HDq m acts)⟩) :
    DC Tryd.prog M w0 56 [.agg x.dvs, .ref 1 0] ⟨2, 0, base, objsOf (HDq m acts)⟩ K := by
  obtain ⟨op, fi, ei, gi, xx, yy⟩ := x
  simp only at hx
  have e1 : ((acts.map Act.pv).length : Int) = (acts.length : Int) := by simp
  refine DC.weaken (DC.intro mixed (fn := Tryd.f56) rfl rfl rfl ?_)
  cases h17 : (op == 17) with
  | false =>
    have hb : badA acts ⟨op, fi, ei, gi, xx, yy⟩ = false := by
      show (bif op == 17 then _ else false) = false
      rw [h17]; rfl
    rw [hb] at hK
    have hoff : (op == 17 && !false) = false := by rw [h17]; rfl
    (try conv=>whnf);repeat' (first|(apply And.intro<;>try conv=>whnf)|(intro h;first|with_reducible exact tf h (by assumption)|try conv=>whnf)|(apply whenOff;(focus with_reducible assumption);try conv=>whnf)|(refine lin_plan (by kernel_rfl) ?_;try conv=>whnf)|fail)
    refine ⟨_, 2, HDq m acts, ?_, hK⟩
    refine Wk.of ⟨WkD.boo ?_, trivial⟩ ⟨WkO.same _ _ rfl, trivial, WkO.same _ _ rfl, trivial, trivial⟩ rfl rfl rfl
    rw [h17]
    rfl
  | true =>
    have e17 : op = 17 := by simpa using h17
    have h0 := hx e17
    cases hge : decide (fi ≥ ((acts.map Act.pv).length : Int)) with
    | true =>
      have hb : badA acts ⟨op, fi, ei, gi, xx, yy⟩ = true := by
        show (bif op == 17 then (bif decide (fi ≥ (acts.length : Int)) then true else _) else false) = true
        rw [h17, ← e1, hge]; rfl
      rw [hb] at hK
      have hoff : (op == 17 && !decide (fi ≥ ((acts.map Act.pv).length : Int))) = false := by rw [h17, hge]; rfl
      (try conv=>whnf);repeat' (first|(apply And.intro<;>try conv=>whnf)|(intro h;first|with_reducible exact tf (by assumption) h|try conv=>whnf)|apply True.intro|(apply whenOff;(focus with_reducible assumption);try conv=>whnf)|(apply WhenQ.mk;(try conv=>whnf);rotate_left;(try conv=>whnf);rotate_right)|with_reducible assumption|(refine lin_plan (by kernel_rfl) ?_;try conv=>whnf)|fail)
      refine ⟨_, 2, HDq m acts, ?_, hK⟩
      refine Wk.of ⟨WkD.boo ?_, trivial⟩ ⟨WkO.same _ _ rfl, trivial, WkO.same _ _ rfl, trivial, trivial⟩ rfl rfl rfl
      rw [h17]
      show (bif decide (fi ≥ ((acts.map Act.pv).length : Int)) then true else _) = _
      rw [hge]; rfl
    | false =>
      have hlt := of_decide_eq_false hge
      rw [e1] at hlt
      obtain ⟨q, eq⟩ : ∃ q : Nat, fi = q := ⟨fi.toNat, by omega⟩
      subst eq
      obtain ⟨a, ha, had⟩ : ∃ a, acts[q]? = some a ∧ acts.getD q noAct = a := ⟨_, getD_mem (by omega), rfl⟩
      have hb : badA acts ⟨op, (q : Int), ei, gi, xx, yy⟩ = decide (ei ≥ ((a.pre.map fpv).length : Int)) := by
        show (bif op == 17 then (bif decide ((q : Int) ≥ (acts.length : Int)) then true else decide (ei ≥ ((acts.getD (q : Int).toNat noAct).pre.length : Int))) else false) = _
        rw [h17, ← e1, hge, Int.toNat_natCast, had, List.length_map]; rfl
      rw [hb] at hK
      (try conv=>whnf);repeat' (first|(apply And.intro<;>try conv=>whnf)|(intro h;try conv=>whnf)|apply True.intro|(apply infoT;rfl)|(apply WhenQ.mk;(try conv=>whnf);rotate_left;(try conv=>whnf);rotate_right)|with_reducible assumption|(apply and_of<;>first|with_reducible assumption|(apply not_of;with_reducible assumption))|(refine lin_plan (by kernel_rfl) ?_;try conv=>whnf)|(refine ⟨_, _, rfl, idx_map (by with_reducible assumption), rfl, ?_⟩;try conv=>whnf)|fail)
      refine ⟨_, 2, HDq m acts, ?_, hK⟩
      refine Wk.of ⟨WkD.boo ?_, trivial⟩ ⟨WkO.same _ _ rfl, trivial, WkO.same _ _ rfl, trivial, trivial⟩ rfl rfl rfl
      rw [h17]
      show (bif decide ((q : Int) ≥ ((acts.map Act.pv).length : Int)) then true else _) = _
      rw [hge]; rfl
theorem idx_N {M : Nat → Prop} {w0 : World} (m : Mo) (acts : List Act) (l : List Nd) (hl : l.length ≤ 1000) (hs : ∀ x, x ∈ l → x.op = 17 → 0 ≤ x.i) (base : Nat) (K : DV → DH → Prop) (hK : ∀ r : Int, decide (r ≥ 0) = l.any (badA acts) → K (.pv (.int .i64 r)) ⟨2, 0, base, objsOf (HDq m acts)⟩) :
    DC Tryd.prog M w0 75 [.pv (fpv l), .clo 56 [] [.ref 1 0]] ⟨2, 0, base, objsOf (HDq m acts)⟩ K := by
  refine DC.weaken (DC.intro mixed (fn := Tryd.f75) rfl rfl rfl ?_)
  try conv=>whnf
  refine ⟨{ i : Nat // i ≤ l.length ∧ (l.take i).any (badA acts) = false }, fun i => [(0, .pv (fpv l)), (1, .clo 56 [] [.ref 1 0]), (7, .pv (i64 (l.map Nd.pv).length)), (8, .pv (i64 i.1))], fun _ => 2, fun _ => HDq m acts, fun i => l.length - i.1, ⟨⟨0, Nat.zero_le _, rfl⟩, (by refine Wk.of ?_ ?_ rfl rfl rfl<;>repeat' (first|exact trivial|exact WkD.same _|exact WkO.same _ _ rfl|refine ⟨?_, ?_⟩|fail))⟩, ?_⟩
  rintro ⟨i, hi, ha⟩
  (try conv=>whnf);repeat' (first|(apply And.intro<;>try conv=>whnf)|(intro h;try conv=>whnf)|(apply infoT;rfl)|fail)
  · have hi' : i < l.length := by simpa using lt_dec h
    have hm : l[i]? = some l[i] := List.getElem?_eq_getElem hi'
    have hsi := hs _ (List.getElem_mem hi')
    refine ⟨_, _, rfl, idx_map hm, rfl, ?_⟩
    try conv=>whnf
    refine req1 m acts l[i] hsi _ _ ?_
    (try conv=>whnf);repeat' (first|(apply And.intro<;>try conv=>whnf)|(intro h;try conv=>whnf)|fail)
    · have e : l.any (badA acts) = true := any_at hi' h
      exact ⟨.pv (.int .i64 (i : Int)), 2, HDq m acts, (by refine Wk.of ?_ ?_ rfl rfl rfl<;>repeat' (first|exact trivial|exact WkD.same _|exact WkO.same _ _ rfl|refine ⟨?_, ?_⟩|fail)), hK i (by rw [e]; simp)⟩
    · exact ⟨⟨i + 1, hi', any_take hi' ha h⟩, by show l.length - (i + 1) < l.length - i; omega, (by refine Wk.of ?_ ?_ rfl rfl rfl<;>repeat' (first|exact trivial|exact WkD.same _|exact WkO.same _ _ rfl|refine WkD.int ?_|refine ⟨?_, ?_⟩|(refine wrapA ?_ ?_ ?_;(focus simp;done);(focus (try dsimp only);omega);(focus (try dsimp only);omega))|fail))⟩
  · have hi' : i = l.length := by have := ge_dec (m := (l.map Nd.pv).length) h (by simpa using hi); simpa using this
    subst hi'
    rw [List.take_length] at ha
    exact ⟨.pv (.int .i64 (-1)), 2, HDq m acts, (by refine Wk.of ?_ ?_ rfl rfl rfl<;>repeat' (first|exact trivial|exact WkD.same _|exact WkO.same _ _ rfl|refine ⟨?_, ?_⟩|fail)), hK (-1) (by rw [ha]; decide)⟩
theorem cont_N {M : Nat → Prop} {w0 : World} (m : Mo) (acts : List Act) (l : List Nd) (hl : l.length ≤ 1000) (hs : ∀ x, x ∈ l → x.op = 17 → 0 ≤ x.i) (base : Nat) (K : DV → DH → Prop) (hK : K (.pv (.bool (l.any (badA acts)))) ⟨2, 0, base, objsOf (HDq m acts)⟩) :
    DC Tryd.prog M w0 55 [.pv (fpv l), .clo 56 [] [.ref 1 0]] ⟨2, 0, base, objsOf (HDq m acts)⟩ K := by
  refine DC.intro mixed (fn := Tryd.f55) rfl rfl rfl ?_
  try conv=>whnf
  refine idx_N m acts l hl hs 2 _ fun r e => ?_
  rw [← e] at hK
  try conv=>whnf
  exact hK
theorem dy_Check (m : Mo) (acts : List Act) (hf : FitM m) (hS : ∀ a, a ∈ acts → SmA a) : PureFn Tryd.prog 54 [m.pv, actsPV acts] (.int .i64 (chkD m acts)) := by
  have e1 : ((m.val.map u64).length : Int) = (m.val.length : Int) := by simp
  have e2 : ((m.rel.map rowPV).length : Int) = (m.rel.length : Int) := by simp
  have e3 : ((acts.map Act.pv).length : Int) = (acts.length : Int) := by simp
  have hM := md_Check m hf
  refine PureFn.intro mixed (fn := Tryd.f54) rfl rfl rfl fun M w0 => ?_
  (try conv=>whnf);repeat' (first|(apply And.intro<;>try conv=>whnf)|(intro h;try conv=>whnf)|(refine PureFn.dcq (f := 32) rfl ?_;try conv=>whnf)|(refine ⟨_, _, hM, ?_, ?_⟩;(focus first|(refine ⟨?_, trivial⟩<;>first|exact PLe.refl _|exact PLe.nil)|exact trivial);try conv=>whnf)|fail)
  · refine le_int ?_
    rw [chkD, show (moI m != 0) = true from h]; rfl
  · rename_i h0
    refine le_int ?_
    rw [chkD, show (moI m != 0) = false from h0, ← e3, show decide (((acts.map Act.pv).length : Int) > 8) = true from h]; rfl
  rename_i h0
  have h8 := of_decide_eq_false h
  have hck : chkD m acts = actsI (m.rel.length : Int) (m.val.length : Int) acts := by
    rw [chkD, show (moI m != 0) = false from h0, ← e3, show decide (((acts.map Act.pv).length : Int) > 8) = false from h]; rfl
  rw [hck]
  clear hck h h0
  refine ⟨{ i : Nat // i ≤ acts.length ∧ actsI (m.rel.length : Int) (m.val.length : Int) (acts.drop i) = actsI (m.rel.length : Int) (m.val.length : Int) acts }, fun i => [(2, .ref 0 0), (17, .pv (actsPV acts)), (18, .pv (i64 (acts.map Act.pv).length)), (19, .pv (i64 i.1))], fun _ => 1, fun _ => HM m, fun i => acts.length - i.1, ⟨⟨0, Nat.zero_le _, rfl⟩, (by refine Wk.of ?_ ?_ rfl rfl rfl<;>repeat' (first|exact trivial|exact WkD.same _|exact WkO.same _ _ rfl|refine ⟨?_, ?_⟩|fail))⟩, ?_⟩
  rintro ⟨i, hi, hd⟩
  (try conv=>whnf);repeat' (first|(apply And.intro<;>try conv=>whnf)|(intro h;try conv=>whnf)|(apply infoT;rfl)|fail)
  · have hi' : i < acts.length := by simpa using lt_dec h
    obtain ⟨a, ha, had⟩ : ∃ a, acts[i]? = some a ∧ acts.drop i = a :: acts.drop (i + 1) := ⟨_, List.getElem?_eq_getElem hi', List.drop_eq_getElem_cons hi'⟩
    have hSa := hS a (List.mem_iff_getElem?.2 ⟨i, ha⟩)
    have hA := ac_Check a (m.rel.length : Int) (m.val.length : Int) hSa.fit hSa.rel hSa.post
    rw [← e1, ← e2] at hA
    rw [had, actsI] at hd
    refine ⟨_, _, rfl, idx_map ha, rfl, ?_⟩
    (try conv=>whnf);repeat' (first|(apply And.intro<;>try conv=>whnf)|(intro h;try conv=>whnf)|(refine PureFn.dcq (f := 74) rfl ?_;try conv=>whnf)|(refine ⟨_, _, hA, ?_, ?_⟩;(focus first|(refine ⟨?_, ?_, ?_, trivial⟩<;>first|exact PLe.refl _|exact PLe.nil)|exact trivial);try conv=>whnf)|fail)
    · refine le_int ?_
      rw [e1, e2] at h
      have h : (actI a (m.rel.length : Int) (m.val.length : Int) != 0) = true := h
      rw [h, cond_true] at hd
      rw [e1, e2]; exact hd
    · have h2 : (actI a (m.rel.length : Int) (m.val.length : Int) != 0) = false := by rw [← e1, ← e2]; exact h
      rw [h2, cond_false] at hd
      exact ⟨⟨i + 1, hi', hd⟩, by show acts.length - (i + 1) < acts.length - i; omega, (by refine Wk.of ?_ ?_ rfl rfl rfl<;>repeat' (first|exact trivial|exact WkD.same _|exact WkO.same _ _ rfl|refine WkD.int ?_|refine ⟨?_, ?_⟩|(refine wrapA ?_ ?_ ?_;(focus simp;done);(focus (try dsimp only);omega);(focus (try dsimp only);omega))|fail))⟩
  · have hi' : i = acts.length := by have := ge_dec (m := (acts.map Act.pv).length) h (by simpa using hi); simpa using this
    rw [hi', List.drop_length] at hd
    exact le_int hd
theorem dy_request (m : Mo) (acts : List Act) (f : List Nd) (hf : FitM m) (hS : ∀ a, a ∈ acts → SmA a) : PureFn Tryd.prog 36 [m.pv, actsPV acts, fpv f] (.int .i64 (reqD m acts f)) := by
  have e1 : ((m.val.map u64).length : Int) = (m.val.length : Int) := by simp
  have e2 : ((m.rel.map rowPV).length : Int) = (m.rel.length : Int) := by simp
  have hM := dy_Check m acts hf hS
  have hC := fm_Check f
  have hF := fm_Frags f
  have hT := fm_Fits f (m.rel.length : Int) (m.val.length : Int)
  rw [← e1, ← e2] at hT
  have hK := fm_Compact f
  refine PureFn.introC [4, 7] mixed (fn := Tryd.f36) rfl rfl rfl fun M w0 => ?_
  try conv=>whnf
  refine ⟨{ _x : Unit // chkD m acts = 0 }, fun _ => [(2, .pv (fpv f)), (3, .ref 0 0), (4, .ref 1 0)], fun _ => 2, fun _ => HDq m acts, ?_, ?_⟩
  · (try conv=>whnf);repeat' (first|(apply And.intro<;>try conv=>whnf)|(intro h;try conv=>whnf)|(refine PureFn.dcq (f := 54) rfl ?_;try conv=>whnf)|(refine ⟨_, _, hM, ?_, ?_⟩;(focus first|(refine ⟨?_, ?_, trivial⟩<;>first|exact PLe.refl _|exact PLe.nil)|exact trivial);try conv=>whnf)|fail)
    · refine le_int ?_
      rw [reqD, show (chkD m acts != 0) = true from h]; rfl
    · exact ⟨⟨(), by simpa using h⟩, (by refine Wk.of ?_ ?_ rfl rfl rfl<;>repeat' (first|exact trivial|exact WkD.same _|exact WkO.same _ _ rfl|refine ⟨?_, ?_⟩|fail))⟩
  rintro ⟨_, h0⟩
  refine ⟨{ _x : Unit // check f = 0 }, fun _ => [(2, .pv (fpv f)), (3, .ref 0 0), (4, .ref 1 0)], fun _ => 2, fun _ => HDq m acts, ?_, ?_⟩
  · (try conv=>whnf);repeat' (first|(apply And.intro<;>try conv=>whnf)|(intro h;try conv=>whnf)|(refine PureFn.dcq (f := 25) rfl ?_;try conv=>whnf)|(refine ⟨_, _, hC, ?_, ?_⟩;(focus first|(refine ⟨?_, trivial⟩<;>first|exact PLe.refl _|exact PLe.nil)|exact trivial);try conv=>whnf)|fail)
    · refine le_int ?_
      rw [reqD, h0, show (check f != 0) = true from h]; rfl
    · exact ⟨⟨(), by simpa using h⟩, (by refine Wk.of ?_ ?_ rfl rfl rfl<;>repeat' (first|exact trivial|exact WkD.same _|exact WkO.same _ _ rfl|refine ⟨?_, ?_⟩|fail))⟩
  rintro ⟨_, h1⟩
  have hcn := comp_can h1
  have hcl : (comp f).length ≤ 1000 := by have := hcn.len; omega
  have hci : ∀ x, x ∈ comp f → x.op = 17 → 0 ≤ x.i := fun x hx h17 => by
    obtain ⟨i, hi⟩ := List.mem_iff_getElem?.1 hx
    exact ((hcn.ok i x hi).act h17).1
  (try conv=>whnf);repeat' (first|(apply And.intro<;>try conv=>whnf)|(intro h;try conv=>whnf)|(refine PureFn.dcq (f := 43) rfl ?_;try conv=>whnf)|(refine PureFn.dcq (f := 44) rfl ?_;try conv=>whnf)|(refine PureFn.dcq (f := 26) rfl ?_;try conv=>whnf)|(refine ⟨_, _, hF, ?_, ?_⟩;(focus first|(refine ⟨?_, trivial⟩<;>first|exact PLe.refl _|exact PLe.nil)|exact trivial);try conv=>whnf)|(refine ⟨_, _, hT, ?_, ?_⟩;(focus first|(refine ⟨?_, ?_, ?_, trivial⟩<;>first|exact PLe.refl _|exact PLe.nil)|exact trivial);try conv=>whnf)|(refine ⟨_, _, hK, ?_, ?_⟩;(focus first|(refine ⟨?_, trivial⟩<;>first|exact PLe.refl _|exact PLe.nil)|exact trivial);try conv=>whnf)|fail)
  · have h2 : (nand64' (frags f : Nat) 207 != 0) = true := h
    refine le_int ?_
    rw [reqD, h0, h1, h2]; rfl
  · rename_i h2
    have h2 : (nand64' (frags f : Nat) 207 != 0) = false := h2
    have h3 : (!fits f (m.rel.length : Int) (m.val.length : Int)) = true := by rw [← e1, ← e2]; exact h
    refine le_int ?_
    rw [reqD, h0, h1, h2, h3]; rfl
  · rename_i h2
    have h2 : (nand64' (frags f : Nat) 207 != 0) = false := h2
    have h3 : (!fits f (m.rel.length : Int) (m.val.length : Int)) = false := by rw [← e1, ← e2]; exact h
    have hr : reqD m acts f = bif (comp f).any (badA acts) then 6 else 0 := by rw [reqD, h0, h1, h2, h3]; rfl
    rw [hr]
    clear h
    refine cont_N m acts (comp f) hcl hci _ _ ?_
    (try conv=>whnf);repeat' (first|(apply And.intro<;>try conv=>whnf)|(intro h;try conv=>whnf)|fail)
    · rw [show (comp f).any (badA acts) = true from h]; exact .refl _
    · rw [show (comp f).any (badA acts) = false from h]; exact .refl _
end Go.Proofs.YtjdmfhggokfflaaDoor
set_option maxRecDepth 100000
set_option maxHeartbeats 8000000
namespace Go.Proofs.YtjdmfhggokfflaaDoor
open Go Go.Dv

theorem frag207 : ∀ op : Nat, op < 22 → (frag (op : Int)).toNat &&& 207 = (frag (op : Int)).toNat → op ≤ 13 ∨ op = 16 ∨ op = 17 := by decide
theorem cxd_of {m : Mo} {acts : List Act} {f : List Nd} (h : reqD m acts f = 0) : CxD m.rel.length m.val.length acts (comp f) := by
  obtain ⟨h1, h2, h3⟩ := reqD_iff.1 h
  obtain ⟨n, hD, h8⟩ := chkD_ok h1
  have hA := hD.okm.ag
  have hc := comp_can h2
  have key : ∀ x, x ∈ comp f → (∃ k : Int, OkNd x k) ∧ fragN x &&& 207 = fragN x ∧ agN x < 2 ^ m.rel.length ∧ factN x < 2 ^ m.val.length ∧ badA acts x = false := fun x hx => by
    have := h3 x hx
    simp only [ndQ, Bool.and_eq_true, decide_eq_true_eq] at this
    obtain ⟨i, hi⟩ := List.mem_iff_getElem?.1 hx
    exact ⟨⟨_, hc.ok i x hi⟩, this.1.1.1, this.1.1.2, this.1.2, (Bool.not_eq_true' _).mp this.2⟩
  refine ⟨hc.ok, by have := hc.len; omega, fun x hx => ?_, fun x hx h3 => ?_, fun x hx h9 => ?_, fun x hx hg => ?_, fun x hx h17 => ?_⟩
  · obtain ⟨⟨k, ok⟩, q1, _⟩ := key x hx
    have ho := ok.op
    have := frag207 x.op.toNat (by omega)
    rw [show ((x.op.toNat : Nat) : Int) = x.op by omega] at this
    have := this q1
    omega
  · obtain ⟨⟨k, ok⟩, _, _, q3, _⟩ := key x hx
    have hf := ok.fact h3
    rw [factN, show (x.op == 3) = true by simpa using h3] at q3
    have := (Nat.pow_lt_pow_iff_right (by decide : 1 < 2)).1 (show 2 ^ x.i.toNat < 2 ^ m.val.length from q3)
    omega
  · obtain ⟨⟨k, ok⟩, _, q2, _⟩ := key x hx
    have hia : isAgent x.op = true := by rcases h9 with e | e <;> rw [e] <;> rfl
    have ha := ok.agent hia
    rw [agN, hia] at q2
    have := (Nat.pow_lt_pow_iff_right (by decide : 1 < 2)).1 (show 2 ^ x.i.toNat < 2 ^ m.rel.length from q2)
    omega
  · obtain ⟨⟨k, ok⟩, _, q2, _⟩ := key x hx
    have hia : isAgent x.op = false := by rcases hg with e | e | e <;> rw [e] <;> rfl
    have hig : isGroup x.op = true := by rcases hg with e | e | e <;> rw [e] <;> rfl
    have hgr := ok.group hig
    rw [agN, hia] at q2
    have q2 : x.g.toNat < 2 ^ m.rel.length := q2
    rw [shl_n hA]
    omega
  · obtain ⟨⟨k, ok⟩, _, _, _, q4⟩ := key x hx
    have ha := ok.act h17
    unfold badA at q4
    rw [show (x.op == 17) = true by simpa using h17, cond_true] at q4
    cases hb : decide (x.i ≥ (acts.length : Int)) with
    | true => rw [hb] at q4; cases q4
    | false =>
      rw [hb, cond_false] at q4
      have g1 := of_decide_eq_false hb
      have g2 := of_decide_eq_false q4
      exact ⟨ha.1, by omega, ha.2.2.1, by omega⟩
/-- The evaluation of a node, its objects at other keys. -/
theorem at_R3 {acts : List Act} {c : List Nd} {A F j k e z : Nat} (h : ConE 38 (.pv (.int .i64 (j : Nat))) acts c A F j) {m : Mo} {n : Nat} {err : Int} (hM : ModD acts m n A F) (hE : err = 0 ∨ err = 8)
    {M : Nat → Prop} {w0 : World} {L : DH} {K : DV → DH → Prop} (hne : nodR [z, e, k] = true) (hlt : ([z, e, k].all fun q => Nat.blt q L.next) = true) (h0 : L.lo = 0)
    (hag : agrR (objsOf (H0 m acts c [] err)) L.get [z, e, k] 3) (hks : DV.keyss (memR [z, e, k]) [.ref e 0, .pv (.int .i64 (j : Nat))] = true) (hre : DV.rens (sigR [z, e, k]) [.ref e 0, .pv (.int .i64 (j : Nat))] = [.ref 1 0, .pv (.int .i64 (j : Nat))])
    (hK : ∀ s es' err', PostE acts c m n j err s es' err' → K (.pv (u64 s)) (L.mergeR (rhoR [z, e, k]) (sigR [z, e, k]) (memR [z, e, k]) ⟨3, 0, 3, objsOf (H0 m acts c es' err')⟩)) : DC Tryd.prog M w0 38 [.ref e 0, .pv (.int .i64 (j : Nat))] L K := by
  refine DC.callR [z, e, k] (H0 m acts c [] err) hne hlt h0 hag rfl hks (by rw [hre]; rfl) fun M' => ?_
  rw [hre]
  exact h m n [] err hM (fun k s h => by cases h) hE M' w0 3 _ fun s es' err' hp => ⟨rfl, hK s es' err' hp⟩
theorem at_R3v {acts : List Act} {c : List Nd} {A F j : Nat} (k e z : Nat) {v : Int} (h : ConE 38 (.pv (.int .i64 (j : Nat))) acts c A F j) (hv : v = (j : Int)) {m : Mo} {n : Nat} {err : Int} (hM : ModD acts m n A F) (hE : err = 0 ∨ err = 8)
    {M : Nat → Prop} {w0 : World} {L : DH} {K : DV → DH → Prop} (hne : nodR [z, e, k] = true) (hlt : ([z, e, k].all fun q => Nat.blt q L.next) = true) (h0 : L.lo = 0)
    (hag : agrR (objsOf (H0 m acts c [] err)) L.get [z, e, k] 3) (hks : DV.keyss (memR [z, e, k]) [.ref e 0, .pv (.int .i64 (j : Nat))] = true) (hre : DV.rens (sigR [z, e, k]) [.ref e 0, .pv (.int .i64 (j : Nat))] = [.ref 1 0, .pv (.int .i64 (j : Nat))])
    (hK : ∀ s es' err', PostE acts c m n j err s es' err' → K (.pv (u64 s)) (L.mergeR (rhoR [z, e, k]) (sigR [z, e, k]) (memR [z, e, k]) ⟨3, 0, 3, objsOf (H0 m acts c es' err')⟩)) : DC Tryd.prog M w0 38 [.ref e 0, .pv (.int .i64 v)] L K := by
  subst hv
  exact at_R3 h hM hE hne hlt h0 hag hks hre hK
def evZ (z k : Nat) (m : Mo) (acts : List Act) (c : List Nd) : List DV := [.pv (.int .i64 m.n), .pv (.sl (m.val.map u64)), .pv (.sl (m.rel.map rowPV)), .pv (u64 (2 ^ m.n.toNat - 1)), .pv (actsPV acts), .pv (fpv c), .mp k, .ref z 0]
def dynPV (x : Nat × Int) : PV := .tup [u64 x.1, .int .i64 x.2]
def holPlan : Plan := .one 0 (.one 1 (.one 2 (.one 3 (.one 5 (.one 4 (.one 6 (.one 7 .done)))))))
theorem dy_Holds (m : Mo) (acts : List Act) (f : List Nd) (hf : FitM m) (hS : ∀ a, a ∈ acts → SmA a) : PureFn Tryd.prog 22 [m.pv, actsPV acts, fpv f] (dynPV (dynI m acts f)) := by
  have hQ := dy_request m acts f hf hS
  have hK := fm_Compact f
  refine PureFn.introC [5, 6] mixed (fn := Tryd.f22) rfl rfl rfl fun M w0 => ?_
  (try conv=>whnf);repeat' (first|(apply And.intro<;>try conv=>whnf)|(intro h;try conv=>whnf)|(refine PureFn.dcq (f := 36) rfl ?_;try conv=>whnf)|(refine ⟨_, _, hQ, ?_, ?_⟩;(focus first|(refine ⟨?_, ?_, ?_, trivial⟩<;>first|exact PLe.refl _|exact PLe.nil)|exact trivial);try conv=>whnf)|fail)
  · have h0 : (reqD m acts f != 0) = true := h
    rw [show dynI m acts f = (0, reqD m acts f) by rw [dynI, h0]; rfl]
    exact .refl _
  have h0 : (reqD m acts f != 0) = false := h
  have h00 : reqD m acts f = 0 := by simpa using h0
  have hdy : dynI m acts f = match dvT acts (root f) m with
      | none => (0, 8)
      | some s => (s, 0) := by
    rw [dynI, h0, cond_false]
    cases dvT acts (root f) m <;> rfl
  have hC := cxd_of h00
  obtain ⟨h1, h2, _⟩ := reqD_iff.1 h00
  obtain ⟨n, hD, h8⟩ := chkD_ok h1
  have hcc := comp_can h2
  have hpos := hcc.pos
  have hlen := hcc.len
  have hn1 := hD.okm.n1
  have hn64 := hD.okm.n64
  have hnn : m.n.toNat = n := by rw [hD.okm.nn, Int.toNat_natCast]
  have hroot : tree (comp f) ((comp f).length - 1) = root f := by rw [← root_comp h2]; rfl
  have hat := at_all hC hS (comp f).length ((comp f).length - 1) (by omega) (by omega)
  have hMD : ModD acts m n m.rel.length m.val.length := ⟨hD, rfl, rfl⟩
  refine ⟨Unit, fun _ => [(1, .pv (actsPV acts)), (2, .pv (fpv f)), (3, .ref 0 0), (9, .ref 1 0)], fun _ => 2, fun _ => [(0, .var (cellsM m)), (1, .var [.pv (.int .i64 0)])], ?_, ?_⟩
  · try conv=>whnf
    exact ⟨(), (by refine Wk.of ?_ ?_ rfl rfl rfl<;>repeat' (first|exact trivial|exact WkD.same _|exact WkO.same _ _ rfl|refine ⟨?_, ?_⟩|fail))⟩
  rintro ⟨⟩
  refine ⟨Unit, fun _ => [(9, .ref 1 0), (10, .ref 5 0)], fun _ => 6, fun _ => [(1, .var [.pv (.int .i64 0)]), (4, .mp []), (5, .var (evZ 1 4 m acts (comp f)))], ?_, ?_⟩
  · try conv=>whnf
    refine ⟨holPlan, [6], by kernel_rfl, ?_⟩
    (try conv=>whnf);repeat' (first|(refine ⟨_, (by (conv=>whnf);exact hK), rfl, ?_⟩;try conv=>whnf)|fail)
    refine DC.weaken (DC.intro mixed (fn := Tryd.f37) rfl rfl rfl ?_)
    try conv=>whnf
    refine ⟨inPlan, [], by kernel_rfl, ?_⟩
    (try conv=>whnf);repeat' (first|(apply And.intro<;>try conv=>whnf)|fail)
    · show (0 : Int) ≤ IntKind.wrap .i64 (64 - m.n)
      rw [in_wrap hD.okm.nn hn1 hn64]; omega
    refine ⟨.ref 5 0, 6, [(1, .var [.pv (.int .i64 0)]), (4, .mp []), (5, .var (evZ 1 4 m acts (comp f)))], ?_, ?_⟩
    · refine Wk.of ⟨WkD.same _, trivial⟩ ⟨WkO.same _ _ rfl, trivial, WkO.same _ _ rfl, trivial, WkO.vars rfl ⟨WkD.same _, WkD.same _, WkD.same _, WkD.int ?_, WkD.same _, WkD.same _, WkD.same _, WkD.same _, trivial⟩, trivial, trivial⟩ rfl rfl rfl
      show shrU 18446744073709551615 (IntKind.wrap .i64 (64 - m.n)) = _
      rw [in_wrap hD.okm.nn hn1 hn64, hnn]; exact shr_all hn1 hn64
    try conv=>whnf
    exact ⟨(), (by refine Wk.of ?_ ?_ rfl rfl rfl<;>repeat' (first|exact trivial|exact WkD.same _|exact WkO.same _ _ rfl|refine ⟨?_, ?_⟩|fail))⟩
  rintro ⟨⟩
  try conv=>whnf
  have hw : IntKind.wrap .i64 ((((comp f).map Nd.pv).length : Int) - 1) = (((comp f).length - 1 : Nat) : Int) := by
    rw [List.length_map, Go.Dv.wrap_small (by omega) (by omega)]; omega
  refine at_R3v 4 5 1 hat hw hMD (.inl rfl) rfl rfl rfl ⟨⟨rfl, rfl⟩, ⟨rfl, rfl⟩, ⟨rfl, rfl⟩, trivial⟩ rfl rfl fun s es1 err1 p => ?_
  (try conv=>whnf);repeat' (first|(apply And.intro<;>try conv=>whnf)|(intro h;try conv=>whnf)|(refine lin_plan (by kernel_rfl) ?_;try conv=>whnf)|fail)
  · have he : err1 ≠ 0 := by simpa using h
    have hn : dvT acts (root f) m = none := by
      rcases p.no he with h | h
      · exact absurd rfl h
      · rw [hroot] at h; exact h
    have h8 : err1 = 8 := by rcases p.er with h | h; exact absurd h he; exact h
    rw [hdy, hn, h8]; exact .refl _
  · have he : err1 = 0 := by simpa using h
    obtain ⟨_, hs⟩ := p.ok he
    rw [hroot] at hs
    rw [hdy, hs]; exact .refl _
end Go.Proofs.YtjdmfhggokfflaaDoor
set_option maxRecDepth 100000
set_option maxHeartbeats 8000000
namespace Go.Proofs.YtjdmfhggokfflaaDoor
open Go Go.Dv

theorem num_zero (n : Nat) : List.replicate n (PV.int .i64 0) = mixL i64 (fun _ => i64 0) n 0 := by
  rw [mixL_zero]
  apply List.ext_getElem
  · simp
  · intro i h1 h2
    simp [i64]
theorem pz_Seen {c : Nat} {l : List Nat} (h : HatOk c l) : PureFn Tryd.prog 4 [i64 c, intsPV l] (.tup [(hatM c l).pv, .int .i64 0]) := by
  have hp2 := hat_pow h
  have hlen := h.len
  have hlt := h.lt
  have hc4 := h.c4
  have hc1 := h.c1
  have e1 : ((l.map i64).length : Int) = (c : Int) := by simp [hlen]
  obtain ⟨n, qn⟩ : ∃ n, n = 2 ^ c := ⟨_, rfl⟩
  have hsh : shl64 1 (c : Int) = (n : Int) := by rw [shl_n hc4, qn]
  rw [← qn] at hp2
  obtain ⟨hn2, hn16⟩ := hp2
  refine PureFn.introC [3, 5, 7, 13] mixed (fn := Tryd.f4) rfl rfl rfl fun M w0 => ?_
  try conv=>whnf
  refine ⟨Unit, fun _ => [(2, .ref 0 0), (3, .ref 1 0), (4, .ref 2 0), (5, .pv (.int .i64 0))], fun _ => 3, fun _ => HX c l, ?_, ?_⟩
  · (try conv=>whnf);repeat' (first|(apply And.intro<;>try conv=>whnf)|(intro h;try conv=>whnf)|apply True.intro|(apply WhenQ.mk;(try conv=>whnf);rotate_left;(try conv=>whnf);rotate_right)|with_reducible assumption|(apply not_of;with_reducible assumption)|fail)
    · exfalso
      have h' : (bif decide ((c : Int) < 1) then true else decide ((c : Int) > 4)) = true := by assumption
      rw [decide_eq_false (by omega), decide_eq_false (by omega)] at h'
      cases h'
    · exact ⟨(), (by refine Wk.of ?_ ?_ rfl rfl rfl<;>repeat' (first|exact trivial|exact WkD.same _|exact WkO.same _ _ rfl|refine ⟨?_, ?_⟩|fail))⟩
  rintro ⟨⟩
  refine ⟨Unit, fun _ => [(2, .ref 0 0), (3, .ref 1 0), (4, .ref 2 0), (5, .pv (.int .i64 0))], fun _ => 3, fun _ => HX c l, ?_, ?_⟩
  · (try conv=>whnf);repeat' (first|(apply And.intro<;>try conv=>whnf)|(intro h;try conv=>whnf)|fail)
    · exfalso
      have h' : (((l.map i64).length : Int) != (c : Int)) = true := by assumption
      rw [e1] at h'
      simp at h'
    · exact ⟨(), (by refine Wk.of ?_ ?_ rfl rfl rfl<;>repeat' (first|exact trivial|exact WkD.same _|exact WkO.same _ _ rfl|refine ⟨?_, ?_⟩|fail))⟩
  rintro ⟨⟩
  refine ⟨Unit, fun _ => [(2, .ref 0 0), (3, .ref 1 0), (4, .ref 2 0), (5, .pv (.int .i64 0))], fun _ => 3, fun _ => HX c l, ?_, ?_⟩
  · try conv=>whnf
    refine hx_cont c l hc4 (by omega) hlt _ _ ?_
    (try conv=>whnf);repeat' (first|(apply And.intro<;>try conv=>whnf)|(intro h;first|with_reducible exact ft0 h|try conv=>whnf)|fail)
    exact ⟨(), (by refine Wk.of ?_ ?_ rfl rfl rfl<;>repeat' (first|exact trivial|exact WkD.same _|exact WkO.same _ _ rfl|refine ⟨?_, ?_⟩|fail))⟩
  rintro ⟨⟩
  have ez : List.replicate (Int.toNat (shl64 1 (c : Int))) (PV.int .i64 0) = mixL i64 (fun _ => i64 0) n 0 := by rw [hsh, Int.toNat_natCast]; exact num_zero n
  have elen : (List.replicate (Int.toNat (shl64 1 (c : Int))) (PV.int .i64 0)).length = n := by rw [ez]; exact mixL_len _ _ _ _
  (try conv=>whnf);repeat' (first|(apply And.intro<;>try conv=>whnf)|(apply Or.inl;try conv=>whnf)|fail)
  · exact Int.natCast_nonneg _
  · rfl
  · exact (show 0 ≤ shl64 1 (c : Int) from by rw [hsh]; exact Int.natCast_nonneg _)
  · exact (show shl64 1 (c : Int) ≤ ((big : Nat) : Int) from by rw [hsh]; exact le_big (by omega))
  refine ⟨Unit, fun _ => [(2, .ref 0 0), (3, .ref 1 0), (4, .ref 2 0), (6, .pv (.sl (mixL i64 (fun _ => i64 0) n n)))], fun _ => 4, fun _ => HX c l, ?_, ?_⟩
  · try conv=>whnf
    refine ⟨{ v : Nat // v ≤ n }, fun v => [(2, .ref 0 0), (3, .ref 1 0), (4, .ref 2 0), (6, .buf 3 (mixL i64 (fun _ => i64 0) n v.1).length), (28, .pv (i64 n)), (29, .pv (i64 v.1))], fun _ => 4, fun v => HX c l ++ [(3, .arr 1 (mixL i64 (fun _ => i64 0) n v.1))], fun v => n - v.1, ⟨⟨0, Nat.zero_le _⟩, ?_⟩, ?_⟩
    · (refine Wk.of ?_ ?_ rfl rfl rfl<;>repeat' (first|exact trivial|exact WkD.same _|exact WkO.same _ _ rfl|exact WkD.eq (congrArg (fun z : List PV => DV.buf _ z.length) ez)|exact WkO.same _ _ (congrArg (fun z => some (DObj.arr _ z)) ez)|refine WkD.int ?_|refine ⟨?_, ?_⟩|fail))
      all_goals exact congrArg (fun z : Nat => (z : Int)) elen
    rintro ⟨v, hv⟩
    (try conv=>whnf);repeat' (first|(apply And.intro<;>try conv=>whnf)|(intro h;try conv=>whnf)|fail)
    · have hv' : v < n := lt_dec h
      have hget : (mixL i64 (fun _ => i64 0) n v)[v]? = some (i64 0) := mixL_get (f := i64) (g := fun _ => i64 0) hv'
      have hlt2 : v < (mixL i64 (fun _ => i64 0) n v).length := by rw [mixL_len]; exact hv'
      have er := mixL_set (f := i64) (g := fun _ => i64 0) hv'
      refine ⟨v, rfl, hlt2, ?_⟩
      (try conv=>whnf);repeat' (first|(apply And.intro<;>try conv=>whnf)|exact Nat.le_refl 1|(apply ex2;(focus with_reducible assumption);try conv=>whnf)|fail)
      refine ⟨⟨v + 1, hv'⟩, by show n - (v + 1) < n - v; omega, ?_⟩
      (refine Wk.of ?_ ?_ rfl rfl rfl<;>repeat' (first|exact trivial|exact WkD.same _|exact WkO.same _ _ rfl|exact WkO.same _ _ (congrArg (fun z => some (DObj.arr _ z)) er)|refine WkD.int ?_|refine ⟨?_, ?_⟩|(refine wrapA ?_ ?_ ?_;(focus simp;done);(focus (try dsimp only);omega);(focus (try dsimp only);omega))|fail))
      exact buf_len ((mixL_len _ _ _ _).trans (mixL_len _ _ _ _).symm)
    · have hv' : v = n := ge_dec h hv
      subst hv'
      exact ⟨(), (by refine Wk.of ?_ ?_ rfl rfl rfl<;>repeat' (first|exact trivial|exact WkD.same _|exact WkO.same _ _ rfl|exact WkD.fz _ _ _ rfl (Or.inl ⟨_, rfl⟩) rfl|refine ⟨?_, ?_⟩|fail))⟩
  rintro ⟨⟩
  rw [mixL_full]
  try conv=>whnf
  subst qn
  refine pz_build h _ _ ?_
  try conv=>whnf
  exact .refl _
theorem hx_Index (l : List Nat) (y : Nat) (hl : l.length ≤ 1000) : ∃ r : Int, PureFn Tryd.prog 35 [.sl (l.map i64), i64 y] (.int .i64 r) := by
  refine ⟨(l.findIdx? (· == y)).elim (-1) (fun i => (i : Int)), ?_⟩
  refine PureFn.intro mixed (fn := Tryd.f35) rfl rfl rfl fun M w0 => ?_
  try conv=>whnf
  refine ⟨{ i : Nat // i ≤ l.length ∧ (l.take i).any (· == y) = false }, fun i => [(0, .pv (.sl (l.map i64))), (1, .pv (i64 y)), (7, .pv (i64 (l.map i64).length)), (8, .pv (i64 i.1))], fun _ => 0, fun _ => [], fun i => l.length - i.1, ⟨⟨0, Nat.zero_le _, rfl⟩, (by refine Wk.of ?_ ?_ rfl rfl rfl<;>repeat' (first|exact trivial|exact WkD.same _|refine ⟨?_, ?_⟩|fail))⟩, ?_⟩
  rintro ⟨i, hi, hn⟩
  (try conv=>whnf);repeat' (first|(apply And.intro<;>try conv=>whnf)|(intro h;try conv=>whnf)|(apply infoT;rfl)|fail)
  · have hi' : i < l.length := by simpa using lt_dec h
    have hm : l[i]? = some l[i] := List.getElem?_eq_getElem hi'
    refine ⟨_, _, rfl, idx_map hm, rfl, ?_⟩
    (try conv=>whnf);repeat' (first|(apply And.intro<;>try conv=>whnf)|(intro h;try conv=>whnf)|fail)
    · have he : (l[i] == y) = true := by have : (y : Int) = (l[i] : Nat) := by simpa using h
                                         exact beq_iff_eq.2 (by omega)
      rw [find_at hm he hn]
      exact .refl _
    · have he : (l[i] == y) = false := beq_false_of_ne fun e => by
        have : ¬ (y : Int) = (l[i] : Nat) := by simpa using h
        omega
      exact ⟨⟨i + 1, hi', any_take hi' hn he⟩, by show l.length - (i + 1) < l.length - i; omega, (by refine Wk.of ?_ ?_ rfl rfl rfl<;>repeat' (first|exact trivial|exact WkD.same _|refine WkD.int ?_|refine ⟨?_, ?_⟩|(refine wrapA ?_ ?_ ?_;(focus simp;done);(focus (try dsimp only);omega);(focus (try dsimp only);omega))|fail))⟩
  · have hi' : i = l.length := by have := ge_dec (m := (l.map i64).length) h (by simpa using hi); simpa using this
    subst hi'
    rw [List.take_length] at hn
    rw [find_none hn]
    exact .refl _
def turnPV (n : Int) : PV := .agg [.bool true, .int .i64 n]
theorem pz_Play (m p : Mo) (w : Nat) (f : List Nd) (l : List Nat) (hf : FitM m) (h0 : moI m = 0) (hw : (w : Int) < m.n) (hA : atCI m w f = (true, 0)) (hU : annI m f = (p, l, 0)) (hl : l.length ≤ 1000) :
    PureFn Tryd.prog 21 [m.pv, i64 w, .sl [fpv f]] (.tup [.sl [turnPV p.n], .int .i64 0]) := by
  have hC := md_Check m hf
  rw [h0] at hC
  have hT := ck_At m w f hf
  rw [hA] at hT
  have hN := an_Update m f hf
  rw [hU] at hN
  obtain ⟨r, hI⟩ := hx_Index l w hl
  refine PureFn.introC [2, 8] mixed (fn := Tryd.f21) rfl rfl rfl fun M w0 => ?_
  try conv=>whnf
  refine ⟨Unit, fun _ => [(1, .pv (i64 w)), (2, .pv (.sl [fpv f])), (3, .ref 0 0), (8, .pv (.int .i64 0))], fun _ => 1, fun _ => [(0, .var (cellsM m))], ?_, ?_⟩
  · (try conv=>whnf);repeat' (first|(refine PureFn.dcq (f := 32) rfl ?_;try conv=>whnf)|(refine ⟨_, _, hC, ?_, ?_⟩;(focus first|(refine ⟨?_, trivial⟩<;>first|exact PLe.refl _|exact PLe.nil)|exact trivial);try conv=>whnf)|fail)
    exact ⟨(), (by refine Wk.of ?_ ?_ rfl rfl rfl<;>repeat' (first|exact trivial|exact WkD.same _|exact WkO.same _ _ rfl|refine ⟨?_, ?_⟩|fail))⟩
  rintro ⟨⟩
  (try conv=>whnf);repeat' (first|(apply And.intro<;>try conv=>whnf)|(intro h;try conv=>whnf)|apply True.intro|(apply WhenQ.mk;(try conv=>whnf);rotate_left;(try conv=>whnf);rotate_right)|with_reducible assumption|(apply not_of;with_reducible assumption)|fail)
  · exact absurd (show ((0 : Int) != 0) = true from h) (by decide)
  · exfalso
    have h' : (bif decide ((w : Int) < 0) then true else decide ((w : Int) ≥ m.n)) = true := h
    rw [decide_eq_false (by omega), decide_eq_false (by omega)] at h'
    cases h'
  refine ⟨Unit, fun _ => [(1, .pv (i64 w)), (2, .pv (.sl [fpv f])), (3, .ref 0 0)], fun _ => 1, fun _ => [(0, .var (cellsM m))], ?_, ?_⟩
  · (try conv=>whnf);repeat' (first|(apply And.intro<;>try conv=>whnf)|(intro h;try conv=>whnf)|fail)
    · exact absurd (show decide (([fpv f].length : Int) > 100) = true from h) (by simp)
    · exact ⟨(), (by refine Wk.of ?_ ?_ rfl rfl rfl<;>repeat' (first|exact trivial|exact WkD.same _|exact WkO.same _ _ rfl|refine ⟨?_, ?_⟩|fail))⟩
  rintro ⟨⟩
  try conv=>whnf
  refine ⟨Bool, fun b => bif b then [(9, .buf 2 [turnPV p.n].length), (32, .pv (.sl [fpv f])), (33, .pv (.int .i64 1)), (34, .pv (.int .i64 1))] else [(1, .pv (i64 w)), (3, .ref 0 0), (9, .pv .nil), (32, .pv (.sl [fpv f])), (33, .pv (.int .i64 1)), (34, .pv (.int .i64 0))], fun b => bif b then 3 else 1, fun b => bif b then [(2, .arr 2 [turnPV p.n])] else [(0, .var (cellsM m))], fun b => bif b then 0 else 1, ⟨false, (by refine Wk.of ?_ ?_ rfl rfl rfl<;>repeat' (first|exact trivial|exact WkD.same _|exact WkO.same _ _ rfl|refine ⟨?_, ?_⟩|fail))⟩, ?_⟩
  rintro (_ | _)
  · (try conv=>whnf);repeat' (first|(apply And.intro<;>try conv=>whnf)|(intro h;first|with_reducible exact nt0 h|with_reducible exact tf h (by assumption)|try conv=>whnf)|(apply infoT;rfl)|(refine PureFn.dcq (f := 33) rfl ?_;try conv=>whnf)|(refine PureFn.dcq (f := 34) rfl ?_;try conv=>whnf)|(refine ⟨0, _, rfl, rfl, rfl, ?_⟩;try conv=>whnf)|(refine ⟨_, _, hT, ?_, ?_⟩;(focus first|(refine ⟨?_, ?_, ?_, trivial⟩<;>first|exact PLe.refl _|exact PLe.nil)|exact trivial);try conv=>whnf)|(refine ⟨_, _, hN, ?_, ?_⟩;(focus first|(refine ⟨?_, ?_, trivial⟩<;>first|exact PLe.refl _|exact PLe.nil)|exact trivial);try conv=>whnf)|fail)
    · refine ⟨Plan.lin 0 6, [4], by kernel_rfl, ?_⟩
      (try conv=>whnf);repeat' (first|(apply And.intro<;>try conv=>whnf)|(apply cellsI;rfl)|(apply szI;rfl)|(refine ⟨_, (by (conv=>whnf);exact hI), rfl, ?_⟩;try conv=>whnf)|fail)
      · exact (show (1 : Nat) ≤ 4294967296 from by decide)
      · exact ⟨true, Nat.zero_lt_one, (by refine Wk.of ?_ ?_ rfl rfl rfl<;>repeat' (first|exact trivial|exact WkD.same _|exact WkO.same _ _ rfl|refine ⟨?_, ?_⟩|fail))⟩
    · exact absurd (show decide ((0 : Int) < 1) = false from h) (by decide)
  · (try conv=>whnf);repeat' (first|(apply And.intro<;>try conv=>whnf)|(intro h;try conv=>whnf)|(apply infoT;rfl)|(apply bleI;rfl)|fail)
    · exact absurd (show decide ((1 : Int) < 1) = true from h) (by decide)
    · exact .refl _
theorem hat_eg : HatOk 2 [2, 1] := ⟨by decide, by decide, rfl, by decide⟩
theorem rt_dAwake : PureFn Tryd.prog 11 [] (.bool true) := by
  obtain ⟨P, qP⟩ : ∃ z : List Nd, z = buildL (nI 3 0) [] := ⟨_, rfl⟩
  have hP := fm_Fact 0
  rw [← qP] at hP
  obtain ⟨K, qK⟩ : ∃ z : List Nd, z = buildL (nI 9 0) [P] := ⟨_, rfl⟩
  have hK := fm_Know 0 P
  rw [← qK] at hK
  obtain ⟨A, qA⟩ : ∃ z : List Nd, z = buildL (n0 16) [P, K] := ⟨_, rfl⟩
  have hA := fm_Announce P K
  rw [← qA] at hA
  have hS := pz_Seen hat_eg
  have hM := hat_okm hat_eg
  obtain ⟨m, qm⟩ : ∃ m : Mo, m = hatM 2 [2, 1] := ⟨_, rfl⟩
  rw [← qm] at hS hM
  have hf := hM.fit
  obtain ⟨p, qp⟩ : ∃ p : Mo, p = (annI m P).1 := ⟨_, rfl⟩
  obtain ⟨l, ql⟩ : ∃ l : List Nat, l = (annI m P).2.1 := ⟨_, rfl⟩
  have a0 : (annI m P).2.2 = 0 := by rw [qm, qP]; kernel_rfl
  have a1 : annI m P = (p, l, 0) := by rw [qp, ql, ← a0]
  have a2 : p.n = 2 := by rw [qp, qm, qP]; kernel_rfl
  have a3 : l.length = 2 := by rw [ql, qm, qP]; kernel_rfl
  have a4 : atCI m ((1 : Nat) : Int) P = (true, 0) := by rw [qm, qP]; kernel_rfl
  have hY := pz_Play m p 1 P l hf (ok_moI hM) (by rw [hM.nn]; decide) a4 a1 (by omega)
  have d1 := dy_Holds m [] A hf (fun a ha => by cases ha)
  have v1 : dynI m [] A = (15, 0) := by rw [qm, qA, qK, qP]; kernel_rfl
  rw [v1] at d1
  have d1 : PureFn Tryd.prog 22 [m.pv, .nil, fpv A] (dynPV (15, 0)) := d1.le ⟨.refl _, .nil, .refl _, trivial⟩
  rw [a2] at hY
  clear qm qP qK qA
  refine PureFn.introC [2, 3, 4, 5] mixed (fn := Tryd.f11) rfl rfl rfl fun M w0 => ?_
  try conv=>whnf
  refine ⟨Unit, fun _ => [(1, .ref 0 0), (2, .pv (.int .i64 0))], fun _ => 1, fun _ => [(0, .var (cellsM m))], ?_, ?_⟩
  · (try conv=>whnf);repeat' (first|(apply And.intro<;>try conv=>whnf)|(apply cellsI;rfl)|(refine PureFn.dcq (f := 4) rfl ?_;try conv=>whnf)|(refine ⟨_, _, hS, ?_, ?_⟩;(focus first|(refine ⟨?_, ?_, trivial⟩<;>first|exact PLe.refl _|exact PLe.nil)|exact trivial);try conv=>whnf)|fail)
    exact ⟨(), (by refine Wk.of ?_ ?_ rfl rfl rfl<;>repeat' (first|exact trivial|exact WkD.same _|exact WkO.same _ _ rfl|refine ⟨?_, ?_⟩|fail))⟩
  rintro ⟨⟩
  refine ⟨Unit, fun _ => [(1, .ref 0 0), (2, .pv (.int .i64 0)), (3, .pv (fpv P))], fun _ => 1, fun _ => [(0, .var (cellsM m))], ?_, ?_⟩
  · (try conv=>whnf);repeat' (first|(refine PureFn.dcq (f := 6) rfl ?_;try conv=>whnf)|(refine ⟨_, _, hP, ?_, ?_⟩;(focus first|(refine ⟨?_, trivial⟩<;>first|exact PLe.refl _|exact PLe.nil)|exact trivial);try conv=>whnf)|fail)
    exact ⟨(), (by refine Wk.of ?_ ?_ rfl rfl rfl<;>repeat' (first|exact trivial|exact WkD.same _|exact WkO.same _ _ rfl|refine ⟨?_, ?_⟩|fail))⟩
  rintro ⟨⟩
  refine ⟨Unit, fun _ => [(1, .ref 0 0), (2, .pv (.int .i64 0)), (3, .pv (fpv P)), (4, .pv (.sl [turnPV 2])), (5, .pv (.int .i64 0))], fun _ => 1, fun _ => [(0, .var (cellsM m))], ?_, ?_⟩
  · (try conv=>whnf);repeat' (first|(apply And.intro<;>try conv=>whnf)|(apply cellsI;rfl)|(refine PureFn.dcq (f := 21) rfl ?_;try conv=>whnf)|(refine ⟨_, _, hY, ?_, ?_⟩;(focus first|(refine ⟨?_, ?_, ?_, trivial⟩<;>first|exact PLe.refl _|exact PLe.nil)|exact trivial);try conv=>whnf)|fail)
    exact ⟨(), (by refine Wk.of ?_ ?_ rfl rfl rfl<;>repeat' (first|exact trivial|exact WkD.same _|exact WkO.same _ _ rfl|refine ⟨?_, ?_⟩|fail))⟩
  rintro ⟨⟩
  refine ⟨Unit, fun _ => [(2, .pv (.int .i64 0)), (4, .pv (.sl [turnPV 2])), (5, .pv (.int .i64 0)), (6, .pv (u64 15)), (7, .pv (.int .i64 0))], fun _ => 1, fun _ => [], ?_, ?_⟩
  · (try conv=>whnf);repeat' (first|(refine lin_plan (by kernel_rfl) ?_;try conv=>whnf)|(refine ⟨_, (by (conv=>whnf);exact hK), rfl, ?_⟩;try conv=>whnf)|(refine ⟨_, (by (conv=>whnf);exact hA), rfl, ?_⟩;try conv=>whnf)|(refine ⟨_, (by (conv=>whnf);exact d1), rfl, ?_⟩;try conv=>whnf)|fail)
    exact ⟨(), (by refine Wk.of ?_ ?_ rfl rfl rfl<;>repeat' (first|exact trivial|exact WkD.same _|refine ⟨?_, ?_⟩|fail))⟩
  rintro ⟨⟩
  (try conv=>whnf);repeat' (first|(apply And.intro<;>try conv=>whnf)|(intro h;try conv=>whnf)|apply True.intro|(apply infoT;rfl)|(apply WhenQ.mk;(try conv=>whnf);rotate_left;(try conv=>whnf);rotate_right)|with_reducible assumption|(refine ⟨0, _, rfl, rfl, rfl, ?_⟩;try conv=>whnf)|fail)
  exact le_bool (by decide)
end Go.Proofs.YtjdmfhggokfflaaDoor
set_option maxRecDepth 100000
set_option maxHeartbeats 8000000
namespace Go.Proofs.YtjdmfhggokfflaaDoor
open Go Go.Dv

/-- What an agent sees, of the facts that there are. -/
def seeL (c : Nat) (s : List Nat) (k : Nat) : List Nat := (s.take k).map fun x => x &&& (2 ^ c - 1)
theorem see_ok {c : Nat} {s : List Nat} (h1 : 1 ≤ c) (h4 : c ≤ 4) (hs : s.length = 4) : HatOk c (seeL c s c) := by
  refine ⟨h1, h4, by simp [seeL]; omega, fun x hx => ?_⟩
  obtain ⟨y, _, rfl⟩ := List.mem_map.1 hx
  have := Nat.two_pow_pos c
  exact Nat.lt_of_le_of_lt Nat.and_le_right (by omega)
theorem see_succ {c k x : Nat} {s : List Nat} (h : s[k]? = some x) (hx : x < 256) (h4 : c ≤ 4) : (seeL c s k).map i64 ++ [.int .i64 (and64 (IntKind.wrap .i64 (x : Int)) ((2 ^ c - 1 : Nat) : Int))] = (seeL c s (k + 1)).map i64 := by
  have hp : 2 ^ c ≤ 16 := Nat.pow_le_pow_right (n := 2) (j := 4) (by decide) h4
  rw [Go.Dv.wrap_small (by omega) (by omega), and64_nat (by omega) (by omega), seeL, seeL, List.take_add_one, h, List.map_append, List.map_append]; rfl
theorem seen_bit {x i : Nat} (h : x < 16) (hi : i < 4) : (and64 (shr64 (x : Int) (IntKind.wrap .u64 (i : Int))) 1 == 1) = x.testBit i := by
  rw [wrapU_nat (by omega)]
  exact bit64_one (by omega) (by omega)
theorem le_len {n : Nat} (h : n ≤ 4) : n + 1 ≤ big := by
  show n + 1 ≤ 4294967296; omega
structure HatStep (m : Mo) (all a i : Nat) (T : List Nd) (b : Bool) (F W K : List Nd) (x : Nat) : Prop where
  fac : PureFn Tryd.prog 6 [i64 i] (fpv F)
  why : PureFn Tryd.prog 5 [i64 a, fpv F] (.tup [fpv W, .int .i64 0])
  val : PureFn Tryd.prog 7 [m.pv, fpv W] (.tup [.bool b, .int .i64 0])
  hol : PureFn Tryd.prog 8 [m.pv, fpv W] (.tup [u64 x, .int .i64 0])
  com : PureFn Tryd.prog 9 [i64 all, fpv T, fpv W] (fpv K)
  cal : PureFn Tryd.prog 7 [m.pv, fpv K] (.tup [.bool b, .int .i64 0])
  bit : ((x : Int) != 0) = b
theorem valid_hat {m : Mo} {n : Nat} {f : List Nd} {b : Bool} (hn : m.n = (n : Int)) (h1 : 1 ≤ n) (h : holdsI m f = (bif b then 2 ^ n - 1 else 0, 0)) : validI m f = (b, 0) := by
  rw [validI, h, hn, Int.toNat_natCast]
  have := Nat.pow_le_pow_right (n := 2) (by decide) h1
  cases b with
  | true => simp
  | false =>
    have : ¬ (0 = 2 ^ n - 1) := by omega
    simp [this]
theorem hat_step {c : Nat} {l : List Nat} (h : HatOk c l) {a i : Nat} (ha : a < c) (hi : i < c) : ∃ F W K x, HatStep (hatM c l) (2 ^ c - 1) a i (buildL (n0 1) []) ((l.getD a 0).testBit i) F W K x := by
  have hM := hat_okm h
  have hc := h.c4
  have h1 := hat_holds h ha hi
  have h2 := hat_common h ha hi
  have hp := hat_pow h
  have v1 := valid_hat hM.nn hM.n1 h1
  have v2 := valid_hat hM.nn hM.n1 h2
  have hV := ck_Valid (hatM c l) (whyG a i) hM.fit
  have hV2 := ck_Valid (hatM c l) (comK (2 ^ c - 1) (whyG a i)) hM.fit
  have hH := ck_Holds (hatM c l) (whyG a i) hM.fit
  rw [v1] at hV
  rw [v2] at hV2
  rw [h1] at hH
  refine ⟨facF i, whyG a i, comK (2 ^ c - 1) (whyG a i), _, fm_Fact i, pz_Whether a (facF i) (by omega) (whyG_len a (by omega) i (by omega)).2, hV, hH, fm_Common _ _ _, hV2, ?_⟩
  have : 2 ≤ 2 ^ 2 ^ c := Nat.pow_le_pow_right (n := 2) (i := 1) (by decide) (by omega)
  cases (l.getD a 0).testBit i with
  | true =>
    have : ¬ (((2 ^ 2 ^ c - 1 : Nat) : Int) = 0) := by omega
    simpa using this
  | false => rfl
theorem hats_pure (u s0 s1 s2 s3 : Nat) (hu : u < 256) (hs0 : s0 < 256) (hs1 : s1 < 256) (hs2 : s2 < 256) (hs3 : s3 < 256) : PureFn Tryd.prog 3 [.int .u8 (u : Int), .agg [.int .u8 (s0 : Int), .int .u8 (s1 : Int), .int .u8 (s2 : Int), .int .u8 (s3 : Int)]] (.bool true) := by
  have hD := rt_dAwake
  have hT := fm_True
  obtain ⟨c, qc⟩ : ∃ c, c = 1 + u % 4 := ⟨_, rfl⟩
  have hc1 : 1 ≤ c := by omega
  have hc4 : c ≤ 4 := by omega
  obtain ⟨s, qs⟩ : ∃ s : List Nat, s = [s0, s1, s2, s3] := ⟨_, rfl⟩
  have hsl : s.length = 4 := by rw [qs]; rfl
  have g0 : s[0]? = some s0 := by rw [qs]; rfl
  have g1 : s[1]? = some s1 := by rw [qs]; rfl
  have g2 : s[2]? = some s2 := by rw [qs]; rfl
  have g3 : s[3]? = some s3 := by rw [qs]; rfl
  clear qs
  have hO := see_ok hc1 hc4 hsl
  have hS := pz_Seen hO
  have hstep := fun a i (ha : a < c) (hi : i < c) => hat_step hO (a := a) (i := i) ha hi
  have hget := fun k (hk : k ≤ c) => show ((seeL c s k).map i64).length ≤ 4 by simp [seeL]; omega
  have hln : (seeL c s c).length = c := hO.len
  have hlt := hO.lt
  have hp2 := (hat_pow hO).2
  generalize hatM c (seeL c s c) = m at hS hstep
  generalize buildL (n0 1) [] = T at hT hstep
  have ec : IntKind.wrap .i64 (1 + (IntKind.wrap .i64 (u : Int)).tmod 4) = (c : Int) := by
    rw [Go.Dv.wrap_small (n := (u : Int)) (by omega) (by omega), Int.tmod_eq_emod_of_nonneg (by omega), Go.Dv.wrap_small (by omega) (by omega)]
    omega
  have ea : IntKind.wrap .i64 (shl64 1 (IntKind.wrap .u64 (c : Int)) - 1) = ((2 ^ c - 1 : Nat) : Int) := by
    have := Nat.two_pow_pos c
    rw [wrapU_nat (by omega), shl_n hc4, Go.Dv.wrap_small (by omega) (by omega)]
    omega
  obtain ⟨all, qa⟩ : ∃ k, k = 2 ^ c - 1 := ⟨_, rfl⟩
  have hsu := fun k x (h : s[k]? = some x) (hx : x < 256) => see_succ (c := c) h hx hc4
  rw [← qa] at ea hstep
  simp only [← qa] at hsu
  refine PureFn.introC [2, 3, 8, 9, 11, 18, 19, 20, 21, 22] mixed (fn := Tryd.f3) rfl rfl rfl fun M w0 => ?_
  try conv=>whnf
  refine ⟨Unit, fun _ => [(3, .ref 0 0), (5, .pv (i64 c))], fun _ => 1, fun _ => [(0, .var [.pv (.int .u8 (s0 : Int)), .pv (.int .u8 (s1 : Int)), .pv (.int .u8 (s2 : Int)), .pv (.int .u8 (s3 : Int))])], ?_, ?_⟩
  · (try conv=>whnf);repeat' (first|(apply And.intro<;>try conv=>whnf)|(intro h;first|exact litz h rfl|try conv=>whnf)|fail)
    refine ⟨(), ?_⟩
    (refine Wk.of ?_ ?_ rfl rfl rfl<;>repeat' (first|exact trivial|exact WkD.same _|exact WkO.same _ _ rfl|refine WkD.int ?_|refine ⟨?_, ?_⟩|fail))
    exact ec
  rintro ⟨⟩
  refine ⟨Unit, fun _ => [(3, .ref 0 0), (5, .pv (i64 c)), (6, .pv (i64 all))], fun _ => 1, fun _ => [(0, .var [.pv (.int .u8 (s0 : Int)), .pv (.int .u8 (s1 : Int)), .pv (.int .u8 (s2 : Int)), .pv (.int .u8 (s3 : Int))])], ?_, ?_⟩
  · (try conv=>whnf);repeat' (first|(apply And.intro<;>try conv=>whnf)|fail)
    · exact wrapU_pos _
    · refine ⟨(), ?_⟩
      (refine Wk.of ?_ ?_ rfl rfl rfl<;>repeat' (first|exact trivial|exact WkD.same _|exact WkO.same _ _ rfl|refine WkD.int ?_|refine ⟨?_, ?_⟩|fail))
      exact ea
  rintro ⟨⟩
  try conv=>whnf
  refine ⟨Unit, fun _ => [(5, .pv (i64 c)), (6, .pv (i64 all)), (7, .pv (.sl ((seeL c s c).map i64)))], fun _ => 2, fun _ => [], ?_, ?_⟩
  · try conv=>whnf
    refine ⟨{ k : Nat // k ≤ c }, fun k => [(3, .ref 0 0), (5, .pv (i64 c)), (6, .pv (i64 all)), (7, .buf 1 ((seeL c s k.1).map i64).length), (8, .pv (i64 k.1))], fun _ => 2, fun k => [(0, .var [.pv (.int .u8 (s0 : Int)), .pv (.int .u8 (s1 : Int)), .pv (.int .u8 (s2 : Int)), .pv (.int .u8 (s3 : Int))]), (1, .arr 1 ((seeL c s k.1).map i64))], fun k => c - k.1, ⟨⟨0, Nat.zero_le _⟩, (by refine Wk.of ?_ ?_ rfl rfl rfl<;>repeat' (first|exact trivial|exact WkD.same _|exact WkO.same _ _ rfl|exact WkD.new' rfl rfl rfl|exact WkO.new _ _ rfl|exact rfl|refine ⟨?_, ?_⟩|fail))⟩, ?_⟩
    rintro ⟨k, hk⟩
    have hgk := hget k hk
    by_cases hkc : k < c
    · have : k = 0 ∨ k = 1 ∨ k = 2 ∨ k = 3 := by omega
      rcases this with rfl | rfl | rfl | rfl
      · have er := hsu 0 s0 g0 hs0
        (try conv=>whnf);repeat' (first|(apply And.intro<;>try conv=>whnf)|(intro h;try conv=>whnf)|(apply cellsI;rfl)|(apply szI;rfl)|fail)
        · exact le_len hgk
        · refine ⟨⟨1, hkc⟩, by show c - 1 < c - 0; omega, ?_⟩
          (refine Wk.of ?_ ?_ rfl rfl rfl<;>repeat' (first|exact trivial|exact WkD.same _|exact WkO.same _ _ rfl|exact WkD.eq (congrArg (fun z : List PV => DV.buf _ z.length) er)|exact WkO.same _ _ (congrArg (fun z => some (DObj.arr _ z)) er)|refine ⟨?_, ?_⟩|fail))
        · exact absurd hkc (by have h' : decide (((0 : Nat) : Int) < (c : Int)) = false := h
                               have := of_decide_eq_false h'; omega)
      · have er := hsu 1 s1 g1 hs1
        (try conv=>whnf);repeat' (first|(apply And.intro<;>try conv=>whnf)|(intro h;try conv=>whnf)|(apply cellsI;rfl)|(apply szI;rfl)|fail)
        · exact le_len hgk
        · refine ⟨⟨2, hkc⟩, by show c - 2 < c - 1; omega, ?_⟩
          (refine Wk.of ?_ ?_ rfl rfl rfl<;>repeat' (first|exact trivial|exact WkD.same _|exact WkO.same _ _ rfl|exact WkD.eq (congrArg (fun z : List PV => DV.buf _ z.length) er)|exact WkO.same _ _ (congrArg (fun z => some (DObj.arr _ z)) er)|refine ⟨?_, ?_⟩|fail))
        · exact absurd hkc (by have h' : decide (((1 : Nat) : Int) < (c : Int)) = false := h
                               have := of_decide_eq_false h'; omega)
      · have er := hsu 2 s2 g2 hs2
        (try conv=>whnf);repeat' (first|(apply And.intro<;>try conv=>whnf)|(intro h;try conv=>whnf)|(apply cellsI;rfl)|(apply szI;rfl)|fail)
        · exact le_len hgk
        · refine ⟨⟨3, hkc⟩, by show c - 3 < c - 2; omega, ?_⟩
          (refine Wk.of ?_ ?_ rfl rfl rfl<;>repeat' (first|exact trivial|exact WkD.same _|exact WkO.same _ _ rfl|exact WkD.eq (congrArg (fun z : List PV => DV.buf _ z.length) er)|exact WkO.same _ _ (congrArg (fun z => some (DObj.arr _ z)) er)|refine ⟨?_, ?_⟩|fail))
        · exact absurd hkc (by have h' : decide (((2 : Nat) : Int) < (c : Int)) = false := h
                               have := of_decide_eq_false h'; omega)
      · have er := hsu 3 s3 g3 hs3
        (try conv=>whnf);repeat' (first|(apply And.intro<;>try conv=>whnf)|(intro h;try conv=>whnf)|(apply cellsI;rfl)|(apply szI;rfl)|fail)
        · exact le_len hgk
        · refine ⟨⟨4, hkc⟩, by show c - 4 < c - 3; omega, ?_⟩
          (refine Wk.of ?_ ?_ rfl rfl rfl<;>repeat' (first|exact trivial|exact WkD.same _|exact WkO.same _ _ rfl|exact WkD.eq (congrArg (fun z : List PV => DV.buf _ z.length) er)|exact WkO.same _ _ (congrArg (fun z => some (DObj.arr _ z)) er)|refine ⟨?_, ?_⟩|fail))
        · exact absurd hkc (by have h' : decide (((3 : Nat) : Int) < (c : Int)) = false := h
                               have := of_decide_eq_false h'; omega)
    · have hk' : k = c := by omega
      subst hk'
      (try conv=>whnf);repeat' (first|(apply And.intro<;>try conv=>whnf)|(intro h;try conv=>whnf)|fail)
      · exact absurd (lt_dec h) (Nat.lt_irrefl _)
      · exact ⟨(), (by refine Wk.of ?_ ?_ rfl rfl rfl<;>repeat' (first|exact trivial|exact WkD.same _|exact WkD.fz _ _ _ rfl (Or.inl ⟨_, rfl⟩) rfl|refine ⟨?_, ?_⟩|fail))⟩
  rintro ⟨⟩
  refine ⟨Unit, fun _ => [(5, .pv (i64 c)), (6, .pv (i64 all)), (7, .pv (.sl ((seeL c s c).map i64))), (9, .ref 2 0), (10, .pv (.int .i64 0))], fun _ => 3, fun _ => [(2, .var (cellsM m))], ?_, ?_⟩
  · (try conv=>whnf);repeat' (first|(refine PureFn.dcq (f := 4) rfl ?_;try conv=>whnf)|(refine ⟨_, _, hS, ?_, ?_⟩;(focus first|(refine ⟨?_, ?_, trivial⟩<;>first|exact PLe.refl _|exact PLe.nil)|exact trivial);try conv=>whnf)|fail)
    exact ⟨(), (by refine Wk.of ?_ ?_ rfl rfl rfl<;>repeat' (first|exact trivial|exact WkD.same _|exact WkO.same _ _ rfl|refine ⟨?_, ?_⟩|fail))⟩
  rintro ⟨⟩
  refine ⟨Unit, fun _ => [(5, .pv (i64 c)), (6, .pv (i64 all)), (7, .pv (.sl ((seeL c s c).map i64))), (9, .ref 2 0)], fun _ => 3, fun _ => [(2, .var (cellsM m))], ?_, ?_⟩
  · (try conv=>whnf);repeat' (first|(apply And.intro<;>try conv=>whnf)|(intro h;try conv=>whnf)|fail)
    · exact absurd (show ((0 : Int) != 0) = true from h) (by decide)
    · exact ⟨(), (by refine Wk.of ?_ ?_ rfl rfl rfl<;>repeat' (first|exact trivial|exact WkD.same _|exact WkO.same _ _ rfl|refine ⟨?_, ?_⟩|fail))⟩
  rintro ⟨⟩
  try conv=>whnf
  refine ⟨{ a : Nat // a ≤ c }, fun a => [(5, .pv (i64 c)), (6, .pv (i64 all)), (7, .pv (.sl ((seeL c s c).map i64))), (9, .ref 2 0), (11, .pv (i64 a.1))], fun _ => 3, fun _ => [(2, .var (cellsM m))], fun a => c - a.1, ⟨⟨0, Nat.zero_le _⟩, (by refine Wk.of ?_ ?_ rfl rfl rfl<;>repeat' (first|exact trivial|exact WkD.same _|exact WkO.same _ _ rfl|refine ⟨?_, ?_⟩|fail))⟩, ?_⟩
  rintro ⟨a, ha⟩
  (try conv=>whnf);repeat' (first|(apply And.intro<;>try conv=>whnf)|(intro h;try conv=>whnf)|(refine PureFn.dcq (f := 11) rfl ?_;try conv=>whnf)|(refine ⟨_, _, hD, ?_, ?_⟩;(focus first|(refine ⟨trivial⟩<;>first|exact PLe.refl _|exact PLe.nil)|exact trivial);try conv=>whnf)|fail)
  · have ha' : a < c := lt_dec h
    have hla : (seeL c s c)[a]? = some ((seeL c s c).getD a 0) := getD_mem (by omega)
    have hx16 := hlt _ (List.mem_iff_getElem?.2 ⟨a, hla⟩)
    refine ⟨{ i : Nat // i ≤ c }, fun i => [(5, .pv (i64 c)), (6, .pv (i64 all)), (7, .pv (.sl ((seeL c s c).map i64))), (9, .ref 2 0), (11, .pv (i64 a)), (12, .pv (i64 i.1))], fun _ => 3, fun _ => [(2, .var (cellsM m))], fun i => c - i.1, ⟨⟨0, Nat.zero_le _⟩, (by refine Wk.of ?_ ?_ rfl rfl rfl<;>repeat' (first|exact trivial|exact WkD.same _|exact WkO.same _ _ rfl|refine ⟨?_, ?_⟩|fail))⟩, ?_⟩
    rintro ⟨i, hi⟩
    (try conv=>whnf);repeat' (first|(apply And.intro<;>try conv=>whnf)|(intro h;try conv=>whnf)|fail)
    · have hi' : i < c := lt_dec h
      obtain ⟨F, W, K, x, S⟩ := hstep a i ha' hi'
      have e9 := seen_bit (x := (seeL c s c).getD a 0) (i := i) (by omega) (by omega)
      generalize (seeL c s c).getD a 0 = y at S e9 hla hx16
      generalize y.testBit i = b at S e9
      obtain ⟨k1, k2, k3, k4, k5, k6, k7⟩ := S
      refine ⟨Unit, fun _ => [(5, .pv (i64 c)), (6, .pv (i64 all)), (7, .pv (.sl ((seeL c s c).map i64))), (9, .ref 2 0), (11, .pv (i64 a)), (12, .pv (i64 i)), (13, .pv (fpv W)), (14, .pv (.int .i64 0))], fun _ => 3, fun _ => [(2, .var (cellsM m))], ?_, ?_⟩
      · (try conv=>whnf);repeat' (first|(refine PureFn.dcq (f := 6) rfl ?_;try conv=>whnf)|(refine PureFn.dcq (f := 5) rfl ?_;try conv=>whnf)|(refine ⟨_, _, k1, ?_, ?_⟩;(focus first|(refine ⟨?_, trivial⟩<;>first|exact PLe.refl _|exact PLe.nil)|exact trivial);try conv=>whnf)|(refine ⟨_, _, k2, ?_, ?_⟩;(focus first|(refine ⟨?_, ?_, trivial⟩<;>first|exact PLe.refl _|exact PLe.nil)|exact trivial);try conv=>whnf)|fail)
        exact ⟨(), (by refine Wk.of ?_ ?_ rfl rfl rfl<;>repeat' (first|exact trivial|exact WkD.same _|exact WkO.same _ _ rfl|refine ⟨?_, ?_⟩|fail))⟩
      rintro ⟨⟩
      refine ⟨Unit, fun _ => [(5, .pv (i64 c)), (6, .pv (i64 all)), (7, .pv (.sl ((seeL c s c).map i64))), (9, .ref 2 0), (11, .pv (i64 a)), (12, .pv (i64 i)), (13, .pv (fpv W)), (14, .pv (.int .i64 0)), (15, .pv (.bool b)), (16, .pv (.int .i64 0))], fun _ => 3, fun _ => [(2, .var (cellsM m))], ?_, ?_⟩
      · (try conv=>whnf);repeat' (first|(refine PureFn.dcq (f := 7) rfl ?_;try conv=>whnf)|(refine ⟨_, _, k3, ?_, ?_⟩;(focus first|(refine ⟨?_, ?_, trivial⟩<;>first|exact PLe.refl _|exact PLe.nil)|exact trivial);try conv=>whnf)|fail)
        exact ⟨(), (by refine Wk.of ?_ ?_ rfl rfl rfl<;>repeat' (first|exact trivial|exact WkD.same _|exact WkO.same _ _ rfl|refine ⟨?_, ?_⟩|fail))⟩
      rintro ⟨⟩
      refine ⟨Unit, fun _ => [(5, .pv (i64 c)), (6, .pv (i64 all)), (7, .pv (.sl ((seeL c s c).map i64))), (9, .ref 2 0), (11, .pv (i64 a)), (12, .pv (i64 i)), (13, .pv (fpv W)), (14, .pv (.int .i64 0)), (15, .pv (.bool b)), (16, .pv (.int .i64 0)), (17, .pv (u64 x)), (18, .pv (.int .i64 0))], fun _ => 3, fun _ => [(2, .var (cellsM m))], ?_, ?_⟩
      · (try conv=>whnf);repeat' (first|(refine PureFn.dcq (f := 8) rfl ?_;try conv=>whnf)|(refine ⟨_, _, k4, ?_, ?_⟩;(focus first|(refine ⟨?_, ?_, trivial⟩<;>first|exact PLe.refl _|exact PLe.nil)|exact trivial);try conv=>whnf)|fail)
        exact ⟨(), (by refine Wk.of ?_ ?_ rfl rfl rfl<;>repeat' (first|exact trivial|exact WkD.same _|exact WkO.same _ _ rfl|refine ⟨?_, ?_⟩|fail))⟩
      rintro ⟨⟩
      refine ⟨Unit, fun _ => [(5, .pv (i64 c)), (6, .pv (i64 all)), (7, .pv (.sl ((seeL c s c).map i64))), (9, .ref 2 0), (11, .pv (i64 a)), (12, .pv (i64 i)), (14, .pv (.int .i64 0)), (15, .pv (.bool b)), (16, .pv (.int .i64 0)), (17, .pv (u64 x)), (18, .pv (.int .i64 0)), (19, .pv (.bool b)), (20, .pv (.int .i64 0))], fun _ => 3, fun _ => [(2, .var (cellsM m))], ?_, ?_⟩
      · (try conv=>whnf);repeat' (first|(refine lin_plan (by kernel_rfl) ?_;try conv=>whnf)|(refine ⟨_, (by (conv=>whnf);exact hT), rfl, ?_⟩;try conv=>whnf)|(refine ⟨_, (by (conv=>whnf);exact k5), rfl, ?_⟩;try conv=>whnf)|(refine ⟨_, (by (conv=>whnf);exact k6), rfl, ?_⟩;try conv=>whnf)|fail)
        exact ⟨(), (by refine Wk.of ?_ ?_ rfl rfl rfl<;>repeat' (first|exact trivial|exact WkD.same _|exact WkO.same _ _ rfl|refine ⟨?_, ?_⟩|fail))⟩
      rintro ⟨⟩
      refine ⟨Unit, fun _ => [(5, .pv (i64 c)), (6, .pv (i64 all)), (7, .pv (.sl ((seeL c s c).map i64))), (9, .ref 2 0), (11, .pv (i64 a)), (12, .pv (i64 i)), (14, .pv (.int .i64 0)), (15, .pv (.bool b)), (16, .pv (.int .i64 0)), (17, .pv (u64 x)), (18, .pv (.int .i64 0)), (19, .pv (.bool b)), (20, .pv (.int .i64 0)), (21, .pv (.bool b))], fun _ => 3, fun _ => [(2, .var (cellsM m))], ?_, ?_⟩
      · (try conv=>whnf);repeat' (first|(apply And.intro<;>try conv=>whnf)|(apply infoT;rfl)|(refine ⟨_, _, rfl, idx_map (by with_reducible assumption), rfl, ?_⟩;try conv=>whnf)|fail)
        · exact wrapU_pos _
        · refine ⟨(), ?_⟩
          (refine Wk.of ?_ ?_ rfl rfl rfl<;>repeat' (first|exact trivial|exact WkD.same _|exact WkO.same _ _ rfl|refine ⟨?_, ?_⟩|fail))
          exact WkD.eq (congrArg (fun z => DV.pv (PV.bool z)) e9)
      rintro ⟨⟩
      clear h
      (try conv=>whnf);repeat' (first|(apply And.intro<;>try conv=>whnf)|(intro h;try conv=>whnf)|apply True.intro|(apply WhenQ.mk;(try conv=>whnf);rotate_left;(try conv=>whnf);rotate_right)|with_reducible assumption|(apply not_of;with_reducible assumption)|fail)
      · exfalso
        have h' : (bif (bif (bif (IntKind.wrap .i64 (IntKind.wrap .i64 (IntKind.wrap .i64 (0 + 0) + 0) + 0) != 0) then true else !(b == b)) then true else !(((x : Int) != 0) == b)) then true else !(b == b)) = true := h
        rw [k7] at h'
        cases b <;> exact absurd h' (by decide)
      · exact ⟨⟨i + 1, hi'⟩, by show c - (i + 1) < c - i; omega, (by refine Wk.of ?_ ?_ rfl rfl rfl<;>repeat' (first|exact trivial|exact WkD.same _|exact WkO.same _ _ rfl|refine WkD.int ?_|refine ⟨?_, ?_⟩|(refine wrapA ?_ ?_ ?_;(focus simp;done);(focus (try dsimp only);omega);(focus (try dsimp only);omega))|fail))⟩
    · have hi' : i = c := ge_dec h hi
      subst hi'
      exact ⟨⟨a + 1, ha'⟩, by show i - (a + 1) < i - a; omega, (by refine Wk.of ?_ ?_ rfl rfl rfl<;>repeat' (first|exact trivial|exact WkD.same _|exact WkO.same _ _ rfl|refine WkD.int ?_|refine ⟨?_, ?_⟩|(refine wrapA ?_ ?_ ?_;(focus simp;done);(focus (try dsimp only);omega);(focus (try dsimp only);omega))|fail))⟩
  · exact .refl _
theorem u_arrB4 : Tryd.prog.underlying 22 = some (.array 4 5) := by kernel_rfl
theorem arg_arrB4 {n : Nat} {p : PV} (h : TyA Tryd.prog (n + 2) 22 p) : ∃ u v w x : Nat, p = .agg [.int .u8 (u : Int), .int .u8 (v : Int), .int .u8 (w : Int), .int .u8 (x : Int)] ∧ u < 256 ∧ v < 256 ∧ w < 256 ∧ x < 256 := by
  obtain ⟨cs, h1, rfl⟩ := h
  simp only [TyC, u_arrB4] at h1
  obtain ⟨a, b, rfl, ha, c, d, rfl, hc, e, g, rfl, he, i, j, rfl, hi, rfl⟩ := h1
  obtain ⟨u, rfl, hu⟩ := u8_of (n := n) ha
  obtain ⟨v, rfl, hv⟩ := u8_of (n := n) hc
  obtain ⟨w, rfl, hw⟩ := u8_of (n := n) he
  obtain ⟨x, rfl, hx⟩ := u8_of (n := n) hi
  exact ⟨u, v, w, x, by simp only [mkE, kindT, u_arrB4]; rfl, hu, hv, hw, hx⟩
theorem hats_args (ps : List PV) (hps : TyAll Tryd.prog 8 Tryd.f3.params.toList ps) : PureFn Tryd.prog 3 ps (.bool true) := by
  obtain ⟨p1, r1, rfl, h1, p2, r2, rfl, h2, rfl⟩ := hps
  obtain ⟨u, rfl, hu⟩ := arg_u8 (n := 7) h1
  obtain ⟨s0, s1, s2, s3, rfl, g0, g1, g2, g3⟩ := arg_arrB4 (n := 6) h2
  exact hats_pure u s0 s1 s2 s3 hu g0 g1 g2 g3
end Go.Proofs.YtjdmfhggokfflaaDoor
