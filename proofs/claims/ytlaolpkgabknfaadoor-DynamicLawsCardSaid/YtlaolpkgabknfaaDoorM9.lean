/- Parts of the proof, one after the other: The dynamic language: the evaluation of the program walked: events. The dynamic language: formulas that are put together; models taken twice (plain). The dynamic language: announcing twice; the axioms (plain). The dynamic language: the axioms; public events; events as steps (plain). The dynamic language: the evaluation of the program walked: all nodes. The dynamic language: requests of the program walked. The dynamic language: steps of the program walked. The dynamic language: Holds of the program walked. The dynamic language: Run of the program walked. The dynamic language: how small the law's inputs are (walked). The dynamic language: the examples' model walked. -/
import Derived.Test.YtlaolpkgabknfaaDoorM8
set_option maxRecDepth 100000
set_option maxHeartbeats 16000000
namespace Go.Proofs.YtlaolpkgabknfaaDoor
open Go Go.Dv

/-- What an event in a model comes to. -/
def evtV (acts : List Act) (c : List Nd) (X : Nat) (m : Mo) (n : Nat) (a : Act) (e : Nat) : Option Nat :=
  bif (holdsI m (a.pre.getD e [])).1 == 0 then some (2 ^ n - 1) else bif (updI m a).2.2 != 0 then none else match dvT acts (tree c X) (updI m a).1 with
  | none => none
  | some t => some (evG e t (updI m a).2.1 0 (2 ^ n - 1))
/-- An action model whose parts are not too long. -/
structure SmA (a : Act) : Prop where
  fit : Fit a
  rel : a.rel.length ≤ 1000
  post : ∀ l, l ∈ a.post → l.length ≤ 1000
def actDV (a : Act) : List DV := [.pv (.sl (a.pre.map fpv)), .pv (.sl (a.post.map postPV)), .pv (.sl (a.rel.map rowPV))]
theorem clr_step {acc w : Nat} (ha : acc < 2 ^ 64) (hw : w < 64) : andNotU (acc : Nat) (shlU 1 (w : Nat)) = ((clrN acc w : Nat) : Int) := by
  rw [show shlU 1 (w : Nat) = ((2 ^ w : Nat) : Int) from shlU_one hw, andNotU_eq ha]; rfl
theorem evb (c b : Bool) : (bif c then ((if b = true then (1 : Int) else 0) == 0) else false) = (bif c then !b else false) := by cases c <;> cases b <;> rfl
theorem upd_err {m : Mo} {n : Nat} {acts : List Act} {a : Act} (h : OkD acts m n) (ha : a ∈ acts) {e : Nat} (he : e < a.pre.length) (h0 : (holdsI m (a.pre.getD e [])).1 ≠ 0) : (updI m a).2.2 = 0 ∨ (updI m a).2.2 = 8 := by
  have hmo : moaI m a = 0 := by rw [moaI, ok_moI h.okm]; exact h.act a ha
  obtain ⟨h1, h2⟩ := pre_holds hmo he
  have hlt : (holdsI m (a.pre.getD e [])).1 < 2 ^ 64 := by
    rw [h1]
    exact Nat.lt_of_lt_of_le h2 (by rw [h.okm.nn, Int.toNat_natCast]; exact pow64_le h.okm.n64)
  obtain ⟨w, hw⟩ : ∃ w, (memL (holdsI m (a.pre.getD e [])).1)[0]? = some w := ⟨_, getD_mem (memL_pos h0 hlt) (d := 0)⟩
  have hb := (memL_mem.1 (List.mem_iff_getElem?.2 ⟨0, hw⟩)).2
  rw [h1] at hb
  have hm : (w, e) ∈ pairsL m a := pairsW_mem.2 ⟨bit_lt h2 hb, he, hb⟩
  have hl : ((pairsL m a).length : Int) ≠ 0 := by
    have := List.length_pos_of_mem hm
    omega
  have hw2 : worldsI m a = (pairsL m a, 0) := by
    rw [worldsI, hmo]
    show (bif ((pairsL m a).length : Int) == 0 then _ else _) = _
    rw [show (((pairsL m a).length : Int) == 0) = false by simpa using hl]; rfl
  rw [updI, hw2]
  show (bif decide (((pairsL m a).length : Int) > 64) then _ else _ : Mo × List (Nat × Nat) × Int).2.2 = 0 ∨ _
  cases decide (((pairsL m a).length : Int) > 64) with
  | true => exact .inr rfl
  | false => exact .inl rfl
theorem evt_dc {acts : List Act} {c : List Nd} {A F X e : Nat} {a : Act} (hS : ∀ a, a ∈ acts → SmA a) (ha : a ∈ acts) (he : e < a.pre.length) (hat : ConE 37 (.pv (.int .i64 (X : Nat))) acts c A F X) {m : Mo} {n : Nat} {es : List (Nat × Nat)} {err : Int} (hM : ModD acts m n A F) (hE : err = 0 ∨ err = 8)
    {M : Nat → Prop} {w0 : World} {base : Nat} {K : DV → DH → Prop} (hK : ∀ t err', PostV (evtV acts c X m n a e) n err t err' → K (.pv (u64 t)) ⟨3, 0, base, objsOf (H0 m acts c es err')⟩) :
    DC Tryd.prog M w0 75 [.ref 1 0, .agg (actDV a), .pv (.int .i64 (e : Nat)), .pv (.int .i64 (X : Nat))] ⟨3, 0, base, objsOf (H0 m acts c es err)⟩ K := by
  have hO := hM.okd.okm
  have hnn : m.n.toNat = n := by rw [hO.nn, Int.toNat_natCast]
  have hn64 := hO.n64
  have h64 := pow64_le hn64
  have hall : 2 ^ n - 1 < 2 ^ n := by have := Nat.two_pow_pos n; omega
  obtain ⟨pre, hx⟩ : ∃ pre, a.pre[e]? = some pre := ⟨_, getD_mem he (d := [])⟩
  have hpd : a.pre.getD e [] = pre := by rw [List.getD_eq_getElem?_getD, hx]; rfl
  have hH := ck_Holds m pre hO.fit
  have hU := pr_Update m a hO.fit (hS a ha).fit (hS a ha).rel (hS a ha).post
  obtain ⟨sp, ep, hsp⟩ : ∃ sp ep, holdsI m pre = (sp, ep) := ⟨_, _, rfl⟩
  obtain ⟨m1, ps, er, hup⟩ : ∃ m1 ps er, updI m a = (m1, ps, er) := ⟨_, _, _, rfl⟩
  have hav0 : sp = 0 → evtV acts c X m n a e = some (2 ^ n - 1) := fun h => by rw [evtV, hpd, hsp, h]; rfl
  have hav1 : sp ≠ 0 → er ≠ 0 → evtV acts c X m n a e = none := fun h h2 => by
    rw [evtV, hpd, hsp, show (((sp, ep) : Nat × Int).1 == 0) = false by simpa using h, cond_false, hup, show (((m1, ps, er) : Mo × List (Nat × Nat) × Int).2.2 != 0) = true by simpa using h2, cond_true]
  have hav2 : sp ≠ 0 → er = 0 → evtV acts c X m n a e = match dvT acts (tree c X) m1 with
      | none => none
      | some t => some (evG e t ps 0 (2 ^ n - 1)) := fun h h2 => by
    rw [evtV, hpd, hsp, show (((sp, ep) : Nat × Int).1 == 0) = false by simpa using h, cond_false, hup, h2]; rfl
  have her : sp ≠ 0 → er = 0 ∨ er = 8 := fun h => by
    have := upd_err hM.okd ha he (by rw [hpd, hsp]; exact h)
    rw [hup] at this; exact this
  have hMD : er = 0 → ModD acts m1 ps.length A F ∧ ∀ q, q ∈ ps → q.1 < n := fun h => by
    have h1 := hM.okd.upd (a := a) (by rw [hup]; exact h)
    obtain ⟨k1, k2, k3, k4, k5⟩ := updI_ok (m := m) (a := a) (by rw [hup]; exact h)
    rw [hup] at h1 k2 k3
    refine ⟨⟨h1.1, ?_, ?_⟩, h1.2⟩
    · rw [← hM.ra, show m1 = _ from k3, prodM, List.length_map, List.length_range]
    · rw [← hM.rf, show m1 = _ from k3, prodM, List.length_map, List.length_range]
  rw [hsp] at hH
  rw [hup] at hU
  have hsI : ((sp : Int) == 0) = decide (sp = 0) := by
    by_cases h : sp = 0
    · subst h; rfl
    · rw [decide_eq_false h]; simpa using h
  refine DC.weaken (DC.introC [2, 8] mixed (fn := Tryd.f75) rfl rfl rfl ?_)
  try conv=>whnf
  refine ⟨Unit, fun _ => [(0, .ref 1 0), (2, .pv (.int .i64 (e : Nat))), (3, .pv (.int .i64 (X : Nat))), (5, .ref 3 0), (9, .pv (u64 sp))], fun _ => 4, fun _ => H0 m acts c es err ++ [(3, .var (actDV a))], ?_, ?_⟩
  · (try conv=>whnf);repeat' (first|(apply And.intro<;>try conv=>whnf)|(apply infoT;rfl)|(refine lin_plan (by kernel_rfl) ?_;try conv=>whnf)|(refine ⟨_, _, rfl, idx_map (by with_reducible assumption), rfl, ?_⟩;try conv=>whnf)|(refine ⟨_, (by (conv=>whnf);exact hH), rfl, ?_⟩;try conv=>whnf)|fail)
    exact ⟨(), (by refine Wk.of ?_ ?_ rfl rfl rfl<;>repeat' (first|exact trivial|exact WkD.same _|exact WkO.same _ _ rfl|refine ⟨?_, ?_⟩|fail))⟩
  rintro ⟨⟩
  (try conv=>whnf);repeat' (first|(apply And.intro<;>try conv=>whnf)|(intro h;try conv=>whnf)|(refine lin_plan (by kernel_rfl) ?_;try conv=>whnf)|(refine ⟨_, (by (conv=>whnf);exact hU), rfl, ?_⟩;try conv=>whnf)|fail)
  · rw [hsI] at h
    have hs0 := of_decide_eq_true h
    refine ⟨.pv (u64 (2 ^ n - 1)), 3, H0 m acts c es err, ?_, hK _ _ ⟨hall, hE, fun h => ⟨h, hav0 hs0⟩, fun h => .inl h⟩⟩
    (refine Wk.of ?_ ?_ rfl rfl rfl<;>repeat' (first|exact trivial|exact WkO.same _ _ rfl|refine WkD.int ?_|refine ⟨?_, ?_⟩|fail))
    exact congrArg (fun k => ((2 ^ k - 1 : Nat) : Int)) hnn
  rw [hsI] at h
  have hs0 := of_decide_eq_false h
  clear h
  refine ⟨{ _x : Unit // sp ≠ 0 ∧ er = 0 }, fun _ => [(0, .ref 1 0), (2, .pv (.int .i64 (e : Nat))), (3, .pv (.int .i64 (X : Nat))), (11, .ref 4 0), (12, .pv (.sl (ps.map pairPV)))], fun _ => 5, fun _ => H0 m acts c es err ++ [(4, .var (cellsM m1))], ?_, ?_⟩
  · (try conv=>whnf);repeat' (first|(apply And.intro<;>try conv=>whnf)|(intro h;try conv=>whnf)|fail)
    · have he0 : er ≠ 0 := by simpa using h
      have he8 : er = 8 := by rcases her hs0 with h | h; exact absurd h he0; exact h
      subst he8
      refine ⟨.pv (u64 0), 3, H0 m acts c es 8, (by refine Wk.of ?_ ?_ rfl rfl rfl<;>repeat' (first|exact trivial|exact WkD.same _|exact WkO.same _ _ rfl|refine ⟨?_, ?_⟩|fail)), hK 0 8 ⟨Nat.two_pow_pos n, .inr rfl, fun h => absurd h (by decide), fun _ => .inr (hav1 hs0 (by decide))⟩⟩
    · have he0 : er = 0 := by simpa using h
      exact ⟨⟨(), hs0, he0⟩, (by refine Wk.of ?_ ?_ rfl rfl rfl<;>repeat' (first|exact trivial|exact WkD.same _|exact WkO.same _ _ rfl|refine ⟨?_, ?_⟩|fail))⟩
  rintro ⟨_, hs0, he0⟩
  obtain ⟨hMD, hws⟩ := hMD he0
  have hav2 := hav2 hs0 he0
  have hl1 := hMD.okd.okm.n1
  have hl64 := hMD.okd.okm.n64
  have hn1 : m1.n.toNat = ps.length := by rw [hMD.okd.okm.nn, Int.toNat_natCast]
  try conv=>whnf
  refine DC.weaken (DC.intro mixed (fn := Tryd.f36) rfl rfl rfl ?_)
  try conv=>whnf
  refine ⟨inPlan, [], by kernel_rfl, ?_⟩
  (try conv=>whnf);repeat' (first|(apply And.intro<;>try conv=>whnf)|fail)
  · show (0 : Int) ≤ IntKind.wrap .i64 (64 - m1.n)
    rw [in_wrap hMD.okd.okm.nn hl1 hl64]; omega
  refine ⟨.ref 7 0, 8, H0 m acts c es err ++ [(6, .mp []), (7, .var (evK 6 m1 acts c))], ?_, ?_⟩
  · refine Wk.of ⟨WkD.same _, trivial⟩ ⟨WkO.same _ _ rfl, trivial, WkO.same _ _ rfl, trivial, WkO.same _ _ rfl, trivial, WkO.same _ _ rfl, trivial, WkO.vars rfl ⟨WkD.same _, WkD.same _, WkD.same _, WkD.int ?_, WkD.same _, WkD.same _, WkD.same _, WkD.same _, trivial⟩, trivial, trivial⟩ rfl rfl rfl
    show shrU 18446744073709551615 (IntKind.wrap .i64 (64 - m1.n)) = _
    rw [in_wrap hMD.okd.okm.nn hl1 hl64, hn1]; exact shr_all hl1 hl64
  try conv=>whnf
  refine at_R (e := 7) (k := 6) hat hMD hE rfl rfl rfl ⟨⟨rfl, rfl⟩, ⟨rfl, rfl⟩, ⟨rfl, rfl⟩, trivial⟩ rfl rfl fun u es1 err1 p => ?_
  try conv=>whnf
  have hu : u < 2 ^ ps.length := p.lt
  have hu64 : u < 2 ^ 64 := Nat.lt_of_lt_of_le hu (pow64_le hl64)
  have hfin : PostV (evtV acts c X m n a e) n err (evG e u ps 0 (2 ^ n - 1)) err1 := by
    refine ⟨evG_lt hall, p.er, fun h => ?_, fun h => ?_⟩
    · obtain ⟨h1, h2⟩ := p.ok h
      exact ⟨h1, by rw [hav2, h2]⟩
    · rcases p.no h with h1 | h1
      · exact .inl h1
      · exact .inr (by rw [hav2, h1])
  refine ⟨{ q : Nat × Nat // q.1 ≤ ps.length ∧ q.2 < 2 ^ n ∧ evG e u (ps.drop q.1) q.1 q.2 = evG e u ps 0 (2 ^ n - 1) }, fun q => [(2, .pv (.int .i64 (e : Nat))), (14, .pv (u64 u)), (15, .pv (u64 q.1.2)), (64, .pv (.sl (ps.map pairPV))), (65, .pv (i64 (ps.map pairPV).length)), (66, .pv (i64 q.1.1))], fun _ => 3, fun _ => H0 m acts c es err1, fun q => ps.length - q.1.1, ⟨⟨(0, 2 ^ n - 1), Nat.zero_le _, hall, rfl⟩, ?_⟩, ?_⟩
  · refine Wk.of ⟨WkD.same _, WkD.same _, WkD.int ?_, WkD.same _, WkD.same _, WkD.same _, trivial⟩ ⟨WkO.same _ _ rfl, trivial, WkO.same _ _ rfl, trivial, WkO.same _ _ rfl, trivial, trivial⟩ rfl rfl rfl
    exact congrArg (fun k => ((2 ^ k - 1 : Nat) : Int)) hnn
  rintro ⟨⟨i, acc⟩, hi, hacc, hd⟩
  simp only at hi hacc hd
  have ha64 : acc < 2 ^ 64 := by omega
  (try conv=>whnf);repeat' (first|(apply And.intro<;>try conv=>whnf)|(intro h;try conv=>whnf)|(apply infoT;rfl)|fail)
  · have hi' : i < ps.length := by simpa using lt_dec h
    obtain ⟨q, hx, hxw⟩ : ∃ y, ps[i]? = some y ∧ ps.getD i (0, 0) = y := ⟨_, getD_mem hi', rfl⟩
    have hwn := hws q (List.mem_iff_getElem?.2 ⟨_, hx⟩)
    obtain ⟨w, d⟩ := q
    have hst := clr_step (acc := acc) (w := w) ha64 (by have : w < n := hwn; omega)
    have hba := bit_and u i hu64 (by omega)
    refine ⟨_, _, rfl, idx_map hx, rfl, ?_⟩
    (try conv=>whnf);repeat' (first|(apply And.intro<;>try conv=>whnf)|(intro h;try conv=>whnf)|apply True.intro|(apply WhenQ.mk;(try conv=>whnf);rotate_left;(try conv=>whnf);rotate_right)|with_reducible assumption|fail)
    · exact Int.natCast_nonneg _
    · exact Int.natCast_nonneg _
    · have h2 : (bif ((d : Int) == (e : Int)) then (andU (shrU (u : Nat) (i : Nat)) 1 == 0) else false) = true := h
      rw [hba, evb] at h2
      refine ⟨⟨(i + 1, clrN acc w), hi', clrN_lt hacc, ?_⟩, by show ps.length - (i + 1) < ps.length - i; omega, ?_⟩
      · rw [← hd, evG_drop hx]
        show _ = evG e u (ps.drop (i + 1)) (i + 1) (bif (bif ((d : Int) == (e : Int)) then !u.testBit i else false) then clrN acc w else acc)
        rw [h2]; rfl
      · (refine Wk.of ?_ ?_ rfl rfl rfl<;>repeat' (first|exact trivial|exact WkD.same _|exact WkO.same _ _ rfl|refine WkD.int ?_|refine ⟨?_, ?_⟩|(refine wrapA ?_ ?_ ?_;(focus simp;done);(focus (try dsimp only);omega);(focus (try dsimp only);omega))|fail))
        exact hst
    · have h2 : (bif ((d : Int) == (e : Int)) then (andU (shrU (u : Nat) (i : Nat)) 1 == 0) else false) = false := h
      rw [hba, evb] at h2
      refine ⟨⟨(i + 1, acc), hi', hacc, ?_⟩, by show ps.length - (i + 1) < ps.length - i; omega, (by refine Wk.of ?_ ?_ rfl rfl rfl<;>repeat' (first|exact trivial|exact WkD.same _|exact WkO.same _ _ rfl|refine WkD.int ?_|refine ⟨?_, ?_⟩|(refine wrapA ?_ ?_ ?_;(focus simp;done);(focus (try dsimp only);omega);(focus (try dsimp only);omega))|fail))⟩
      rw [← hd, evG_drop hx]
      show _ = evG e u (ps.drop (i + 1)) (i + 1) (bif (bif ((d : Int) == (e : Int)) then !u.testBit i else false) then clrN acc w else acc)
      rw [h2]; rfl
  · have hi' : i = ps.length := by have := ge_dec (m := (ps.map pairPV).length) h (by simpa using hi); simpa using this
    rw [hi', List.drop_length] at hd
    have hd : acc = evG e u ps 0 (2 ^ n - 1) := hd
    rw [← hd] at hfin
    exact ⟨.pv (u64 acc), 3, H0 m acts c es err1, (by refine Wk.of ?_ ?_ rfl rfl rfl<;>repeat' (first|exact trivial|exact WkD.same _|exact WkO.same _ _ rfl|refine ⟨?_, ?_⟩|fail)), hK _ _ hfin⟩
end Go.Proofs.YtlaolpkgabknfaaDoor
set_option maxRecDepth 100000
set_option maxHeartbeats 4000000
namespace Go.Proofs.YtlaolpkgabknfaaDoor
open Go Go.Dv

theorem bin_any {op : Int} {f g : List Nd} (hop : op = 5 ∨ op = 6 ∨ op = 7 ∨ op = 8 ∨ op = 16) (hf : check f = 0) (hg : check g = 0) (hs : f.length + g.length + 1 ≤ 200) :
    Can (buildL (n0 op) [f, g]) ∧ root (buildL (n0 op) [f, g]) = .nd op 0 0 0 (root f) (root g) ∧ (buildL (n0 op) [f, g]).length ≤ f.length + g.length + 1 := by
  have cf := comp_can hf
  have cg := comp_can hg
  have lf := comp_le hf
  have lg := comp_le hg
  have pf := cf.pos
  have pg := cg.pos
  rw [buildL_comp2 hf hg]
  have hok : OkNd (binN (n0 op) (comp f) (comp g)) (comp f ++ (comp g).map (shN (comp f).length)).length := by
    rcases hop with rfl | rfl | rfl | rfl | rfl <;> constructor <;> simp [n0, binN, usesX, usesY, isAgent, isGroup] <;> omega
  obtain ⟨g1, g2, g3⟩ := bin_canX (x := n0 op) cf cg (by rcases hop with rfl | rfl | rfl | rfl | rfl <;> rfl) (by rcases hop with rfl | rfl | rfl | rfl | rfl <;> rfl) hok (by omega)
  rw [root_comp hf, root_comp hg] at g2
  exact ⟨g1, g2, by omega⟩
theorem un_any {x : Nd} {f : List Nd} (hx : usesX x.op = true) (hy : usesY x.op = false) (hxy : x.y = 0) (hf : check f = 0) (hok : ∀ k : Int, 1 ≤ k → OkNd { x with x := k - 1 } k) (hs : f.length + 1 ≤ 200) :
    Can (buildL x [f]) ∧ root (buildL x [f]) = .nd x.op x.i x.e x.g (root f) .none ∧ (buildL x [f]).length ≤ f.length + 1 := by
  have cf := comp_can hf
  have lf := comp_le hf
  have pf := cf.pos
  rw [buildL_comp hf]
  obtain ⟨g1, g2, g3⟩ := un_canX (x := x) cf hx hy hxy (hok _ (by omega)) (by omega)
  rw [root_comp hf] at g2
  exact ⟨g1, g2, by omega⟩
/-! ascending lists -/
theorem asc_eq : ∀ {a b : List Nat}, a.Pairwise (· < ·) → b.Pairwise (· < ·) → (∀ x, x ∈ a ↔ x ∈ b) → a = b
  | [], [], _, _, _ => rfl
  | [], y :: s, _, _, h => by have := (h y).2 (by simp); cases this
  | x :: r, [], _, _, h => by have := (h x).1 (by simp); cases this
  | x :: r, y :: s, ha, hb, h => by
    rw [List.pairwise_cons] at ha hb
    have hxy : x = y := by
      have h1 := (h x).1 (by simp)
      have h2 := (h y).2 (by simp)
      rcases List.mem_cons.1 h1 with e | e
      · exact e
      · rcases List.mem_cons.1 h2 with e2 | e2
        · exact e2.symm
        · have := ha.1 y e2
          have := hb.1 x e
          omega
    subst hxy
    congr 1
    refine asc_eq ha.2 hb.2 fun z => ?_
    constructor
    · intro hz
      have := (h z).1 (List.mem_cons_of_mem _ hz)
      rcases List.mem_cons.1 this with e | e
      · have := ha.1 z hz; omega
      · exact e
    · intro hz
      have := (h z).2 (List.mem_cons_of_mem _ hz)
      rcases List.mem_cons.1 this with e | e
      · have := hb.1 z hz; omega
      · exact e
theorem memL_asc (s : Nat) : (memL s).Pairwise (· < ·) := by
  rw [memL]
  exact List.Pairwise.filter _ List.pairwise_lt_range
theorem asc_map {g : Nat → Nat} : ∀ {l : List Nat}, l.Pairwise (· < ·) → (∀ x y, x ∈ l → y ∈ l → x < y → g x < g y) → (l.map g).Pairwise (· < ·)
  | [], _, _ => .nil
  | x :: r, h, hg => by
    rw [List.pairwise_cons] at h
    rw [List.map_cons, List.pairwise_cons]
    refine ⟨fun z hz => ?_, asc_map h.2 fun a b ha hb hab => hg a b (List.mem_cons_of_mem _ ha) (List.mem_cons_of_mem _ hb) hab⟩
    obtain ⟨y, hy, rfl⟩ := List.mem_map.1 hz
    exact hg x y (by simp) (List.mem_cons_of_mem _ hy) (h.1 y hy)
theorem asc_get {l : List Nat} (h : l.Pairwise (· < ·)) {i j : Nat} (hij : i < j) (hj : j < l.length) : l.getD i 0 < l.getD j 0 := by
  rw [List.pairwise_iff_getElem] at h
  rw [List.getD_eq_getElem?_getD, List.getD_eq_getElem?_getD, List.getElem?_eq_getElem (by omega), List.getElem?_eq_getElem hj]
  exact h i j (by omega) hj hij
/-- The members of a part of a set, told by their places. -/
theorem memL_part {s u : Nat} (hu : u < 2 ^ (memL s).length) : (memL u).map (fun k => (memL s).getD k 0) = memL (sprG u (memL s) 0 0) := by
  have hl : ∀ k, k ∈ memL u → k < (memL s).length := fun k hk => bit_lt hu (memL_mem.1 hk).2
  refine asc_eq (asc_map (memL_asc u) fun x y hx hy hxy => asc_get (memL_asc s) hxy (hl y hy)) (memL_asc _) fun v => ?_
  rw [List.mem_map, memL_mem, sprG_bit]
  constructor
  · rintro ⟨k, hk, rfl⟩
    have hkl := hl k hk
    have hm := getD_mem hkl (d := 0)
    refine ⟨(memL_mem.1 (List.mem_iff_getElem?.2 ⟨k, hm⟩)).1, .inr ⟨k, hm, by rw [Nat.zero_add]; exact (memL_mem.1 hk).2⟩⟩
  · rintro ⟨_, h | ⟨k, hk, hb⟩⟩
    · rw [Nat.zero_testBit] at h; cases h
    · rw [Nat.zero_add] at hb
      have hkl := (List.getElem?_eq_some_iff.1 hk).1
      have h64 := memL_len s
      exact ⟨k, memL_mem.2 ⟨by omega, hb⟩, by rw [List.getD_eq_getElem?_getD, hk]; rfl⟩
theorem pull_pull {s u : Nat} {ws : List Nat} (hu : u < 2 ^ ws.length) (_h64 : ws.length ≤ 64) : pullN (pullN s ws) (memL u) = pullN s ((memL u).map fun k => ws.getD k 0) := by
  rw [pullN, pullN, pullN, List.length_map]
  refine maskOf_congr fun k hk => ?_
  have hm := getD_mem hk (d := 0)
  have hkl : (memL u).getD k 0 < ws.length := bit_lt hu (memL_mem.1 (List.mem_iff_getElem?.2 ⟨k, hm⟩)).2
  rw [maskOf_bit, decide_eq_true hkl, Bool.true_and, List.getD_eq_getElem?_getD (l := (memL u).map _), List.getElem?_map, hm]
  rfl
/-- Taking a part of a part is taking a part. -/
theorem arr_arr {m : Mo} {s u : Nat} (hu : u < 2 ^ (memL s).length) : arrI (arrI m (memL s)) (memL u) = arrI m (memL (sprG u (memL s) 0 0)) := by
  have hp := memL_part hu
  have h64 := memL_len s
  rw [arrI, ← hp]
  have e0 : arrI m ((memL u).map fun k => (memL s).getD k 0) = ⟨((memL u).length : Int), m.val.map fun x => pullN x ((memL u).map fun k => (memL s).getD k 0), m.rel.map fun r => ((memL u).map fun k => (memL s).getD k 0).map fun w => pullN (r.getD w 0) ((memL u).map fun k => (memL s).getD k 0)⟩ := by
    rw [arrI, List.length_map]
  rw [e0]
  congr 1
  · show (m.val.map fun x => pullN x (memL s)).map (fun x => pullN x (memL u)) = _
    rw [List.map_map]
    apply List.map_congr_left
    intro x _
    exact pull_pull hu h64
  · show (m.rel.map fun r => (memL s).map fun w => pullN (r.getD w 0) (memL s)).map (fun r => (memL u).map fun w => pullN (r.getD w 0) (memL u)) = _
    rw [List.map_map]
    apply List.map_congr_left
    intro r _
    rw [List.map_map]
    apply List.map_congr_left
    intro k hk
    have hkl : k < (memL s).length := bit_lt hu (memL_mem.1 hk).2
    show pullN (((memL s).map fun w => pullN (r.getD w 0) (memL s)).getD k 0) (memL u) = pullN (r.getD ((memL s).getD k 0) 0) _
    have : ((memL s).map fun w => pullN (r.getD w 0) (memL s)).getD k 0 = pullN (r.getD ((memL s).getD k 0) 0) (memL s) := by
      rw [List.getD_eq_getElem?_getD, List.getElem?_map, getD_mem hkl (d := 0)]; rfl
    rw [this]
    exact pull_pull hu h64
end Go.Proofs.YtlaolpkgabknfaaDoor
set_option maxRecDepth 100000
set_option maxHeartbeats 4000000
namespace Go.Proofs.YtlaolpkgabknfaaDoor
open Go Go.Dv

section
variable {acts : List Act} {m : Mo} {n : Nat} {a b g : Tr}
theorem dv_ann0 {i e k : Int} (h : dvT acts a m = some 0) : dvT acts (.nd 16 i e k a b) m = some (2 ^ m.n.toNat - 1) := by rw [dvT, h]; rfl
theorem dv_ann1 {i e k : Int} {s : Nat} (h : dvT acts a m = some s) (h0 : s ≠ 0) : dvT acts (.nd 16 i e k a b) m = match dvT acts b (arrI m (memL s)) with
    | none => none
    | some t => some (sprG t (memL s) 0 (notN m.n.toNat s)) := by
  have hb : (s == 0) = false := by simpa using h0
  rw [dvT, h]
  show (bif s == 0 then _ else _) = _
  rw [hb, cond_false]
  cases dvT acts b (arrI m (memL s)) <;> rfl
theorem dv_annN {i e k : Int} (h : dvT acts a m = none) : dvT acts (.nd 16 i e k a b) m = none := by rw [dvT, h]; rfl
theorem dv_st {op i e k : Int} (h16 : (op == 16) = false) (h17 : (op == 17) = false) : dvT acts (.nd op i e k a b) m = match dvT acts a m, dvT acts b m with
    | some x, some y => some (vlN m m.n.toNat op i k x y)
    | _, _ => none := by
  rw [dvT, h16, h17, cond_false, cond_false]
  cases dvT acts a m <;> cases dvT acts b m <;> rfl
theorem spr_in {s t w : Nat} (_hs : s < 2 ^ 64) (h : (sprG t (memL s) 0 0).testBit w = true) : s.testBit w = true := by
  rw [sprG_bit] at h
  rcases h with h | ⟨k, h, _⟩
  · rw [Nat.zero_testBit] at h; cases h
  · exact (memL_mem.1 (List.mem_iff_getElem?.2 ⟨k, h⟩)).2
theorem spr_zero {s t : Nat} (ht : t < 2 ^ (memL s).length) : sprG t (memL s) 0 0 = 0 ↔ t = 0 := by
  constructor
  · intro h
    apply Nat.eq_of_testBit_eq
    intro k
    rw [Nat.zero_testBit]
    cases hb : t.testBit k with
    | false => rfl
    | true =>
      have hk := bit_lt ht hb
      have : (sprG t (memL s) 0 0).testBit ((memL s).getD k 0) = true := sprG_bit.2 (.inr ⟨k, getD_mem hk, by rw [Nat.zero_add]; exact hb⟩)
      rw [h, Nat.zero_testBit] at this; cases this
  · rintro rfl
    apply Nat.eq_of_testBit_eq
    intro k
    rw [Nat.zero_testBit]
    cases hb : (sprG 0 (memL s) 0 0).testBit k with
    | false => rfl
    | true =>
      rw [sprG_bit] at hb
      rcases hb with h | ⟨j, _, h⟩ <;> (rw [Nat.zero_testBit] at h; cases h)
theorem notN_bit {n s w : Nat} : (notN n s).testBit w = (decide (w < n) && !s.testBit w) := by rw [notN, maskOf_bit]
/-- Announcing one formula and then another is announcing that the first one holds, and that the second one does after it. -/
theorem ann_ann (hM : OkM m n) {x y : Nat} (h1 : dvT acts (.nd 16 0 0 0 a (.nd 16 0 0 0 b g)) m = some x) (h2 : dvT acts (.nd 16 0 0 0 (.nd 5 0 0 0 a (.nd 16 0 0 0 a b)) g) m = some y) : x = y := by
  have hnn : m.n.toNat = n := by rw [hM.nn, Int.toNat_natCast]
  cases ha : dvT acts a m with
  | none => rw [dv_annN ha] at h1; cases h1
  | some s =>
    have hsn := dvT_lt a hM ha
    have hs64 : s < 2 ^ 64 := Nat.lt_of_lt_of_le hsn (pow64_le hM.n64)
    by_cases h0 : s = 0
    · subst h0
      rw [dv_ann0 ha] at h1
      have hand : dvT acts (.nd 5 0 0 0 a (.nd 16 0 0 0 a b)) m = some 0 := by
        rw [dv_st rfl rfl, ha, dv_ann0 ha]
        show some (0 &&& _) = some 0
        rw [Nat.zero_and]
      rw [dv_ann0 hand] at h2
      exact Option.some.inj (h1.symm.trans h2)
    · have hM1 : OkM (arrI m (memL s)) (memL s).length := arr_ok hM (memL_pos h0 hs64) (memL_len s)
      have hn1 : (arrI m (memL s)).n.toNat = (memL s).length := by rw [hM1.nn, Int.toNat_natCast]
      rw [dv_ann1 ha h0] at h1
      cases hb : dvT acts b (arrI m (memL s)) with
      | none => rw [dv_annN hb] at h1; cases h1
      | some s2 =>
        have hs2 := dvT_lt b hM1 hb
        have hann : dvT acts (.nd 16 0 0 0 a b) m = some (sprG s2 (memL s) 0 (notN n s)) := by rw [dv_ann1 ha h0, hb, hnn]
        have hu : dvT acts (.nd 5 0 0 0 a (.nd 16 0 0 0 a b)) m = some (sprG s2 (memL s) 0 0) := by
          rw [dv_st rfl rfl, ha, hann]
          show some (s &&& _) = _
          congr 1
          apply Nat.eq_of_testBit_eq
          intro w
          rw [Nat.testBit_and, sprG_acc, Nat.testBit_or, notN_bit]
          cases hw : s.testBit w with
          | false =>
            cases hq : (sprG s2 (memL s) 0 0).testBit w with
            | false => rfl
            | true => rw [spr_in hs64 hq] at hw; cases hw
          | true => simp
        by_cases h20 : s2 = 0
        · subst h20
          rw [dv_ann0 hb] at h1
          have hz := (spr_zero (s := s) (t := 0) (Nat.two_pow_pos _)).2 rfl
          rw [hz] at hu
          rw [dv_ann0 hu, hnn] at h2
          have e1 := Option.some.inj h1
          have e2 := Option.some.inj h2
          rw [← e1, ← e2, hnn, hn1]
          apply Nat.eq_of_testBit_eq
          intro w
          rw [Nat.testBit_two_pow_sub_one, Bool.eq_iff_iff, sprG_bit, notN_bit, decide_eq_true_eq]
          constructor
          · rintro (h | ⟨k, hk, _⟩)
            · rw [Bool.and_eq_true, decide_eq_true_eq] at h; exact h.1
            · exact bit_lt hsn (memL_mem.1 (List.mem_iff_getElem?.2 ⟨k, hk⟩)).2
          · intro hw
            cases hb2 : s.testBit w with
            | false => left; simp [hw]
            | true =>
              right
              obtain ⟨k, hk⟩ := List.mem_iff_getElem?.1 (memL_mem.2 ⟨by have := hM.n64; omega, hb2⟩)
              refine ⟨k, hk, ?_⟩
              rw [Nat.zero_add, Nat.testBit_two_pow_sub_one]
              exact decide_eq_true (List.getElem?_eq_some_iff.1 hk).1
        · have hu0 : sprG s2 (memL s) 0 0 ≠ 0 := fun e => h20 ((spr_zero hs2).1 e)
          rw [dv_ann1 hb h20] at h1
          rw [dv_ann1 hu hu0, ← arr_arr hs2] at h2
          cases hg : dvT acts g (arrI (arrI m (memL s)) (memL s2)) with
          | none => rw [hg] at h1; cases h1
          | some t =>
            rw [hg] at h1 h2
            have e1 := Option.some.inj h1
            have e2 := Option.some.inj h2
            rw [← e1, ← e2, hnn, hn1, ← memL_part hs2]
            apply Nat.eq_of_testBit_eq
            intro w
            rw [Bool.eq_iff_iff, sprG_bit, sprG_bit, notN_bit, notN_bit]
            have hpart : ∀ k v : Nat, ((memL s2).map fun k => (memL s).getD k 0)[k]? = some v ↔ ∃ j, (memL s2)[k]? = some j ∧ (memL s).getD j 0 = v := fun k v => by
              rw [List.getElem?_map, Option.map_eq_some_iff]
            constructor
            · rintro (h | ⟨k, hk, hb3⟩)
              · left
                rw [Bool.and_eq_true, decide_eq_true_eq] at h ⊢
                refine ⟨h.1, ?_⟩
                cases hq : (sprG s2 (memL s) 0 0).testBit w with
                | false => rfl
                | true => have := spr_in hs64 hq; rw [this] at h; exact absurd h.2 (by decide)
              · rw [Nat.zero_add, sprG_bit, notN_bit] at hb3
                have hkl := (List.getElem?_eq_some_iff.1 hk).1
                have hwn : w < n := bit_lt hsn (memL_mem.1 (List.mem_iff_getElem?.2 ⟨k, hk⟩)).2
                rcases hb3 with h | ⟨j, hj, hb4⟩
                · left
                  rw [Bool.and_eq_true, decide_eq_true_eq] at h ⊢
                  refine ⟨hwn, ?_⟩
                  cases hq : (sprG s2 (memL s) 0 0).testBit w with
                  | false => rfl
                  | true =>
                    rw [sprG_bit] at hq
                    rcases hq with hq | ⟨k2, hk2, hb5⟩
                    · rw [Nat.zero_testBit] at hq; cases hq
                    · have : k = k2 := by
                        have hl2 := (List.getElem?_eq_some_iff.1 hk2).1
                        have g1 : (memL s).getD k 0 = w := by rw [List.getD_eq_getElem?_getD, hk]; rfl
                        have g2 : (memL s).getD k2 0 = w := by rw [List.getD_eq_getElem?_getD, hk2]; rfl
                        rcases Nat.lt_trichotomy k k2 with q | q | q
                        · have := asc_get (memL_asc s) q hl2; omega
                        · exact q
                        · have := asc_get (memL_asc s) q hkl; omega
                      rw [this] at h
                      rw [Nat.zero_add] at hb5
                      rw [hb5] at h; exact absurd h.2 (by decide)
                · right
                  rw [Nat.zero_add] at hb4
                  exact ⟨j, (hpart j w).2 ⟨k, hj, by rw [List.getD_eq_getElem?_getD, hk]; rfl⟩, by rw [Nat.zero_add]; exact hb4⟩
            · rintro (h | ⟨j, hj, hb3⟩)
              · rw [Bool.and_eq_true, decide_eq_true_eq] at h
                cases hq : s.testBit w with
                | false => left; simp [h.1]
                | true =>
                  right
                  obtain ⟨k, hk⟩ := List.mem_iff_getElem?.1 (memL_mem.2 ⟨by have := hM.n64; omega, hq⟩)
                  have hkl := (List.getElem?_eq_some_iff.1 hk).1
                  refine ⟨k, hk, ?_⟩
                  rw [Nat.zero_add, sprG_bit, notN_bit]
                  left
                  rw [Bool.and_eq_true, decide_eq_true_eq]
                  refine ⟨hkl, ?_⟩
                  cases hb5 : s2.testBit k with
                  | false => rfl
                  | true =>
                    have : (sprG s2 (memL s) 0 0).testBit w = true := sprG_bit.2 (.inr ⟨k, hk, by rw [Nat.zero_add]; exact hb5⟩)
                    rw [this] at h; exact absurd h.2 (by decide)
              · obtain ⟨k, hk, hkw⟩ := (hpart j w).1 hj
                have hks2 := (memL_mem.1 (List.mem_iff_getElem?.2 ⟨j, hk⟩)).2
                have hkl := bit_lt hs2 hks2
                right
                refine ⟨k, by rw [getD_mem hkl (d := 0), hkw], ?_⟩
                rw [Nat.zero_add] at hb3
                rw [Nat.zero_add, sprG_bit]
                exact .inr ⟨j, hk, by rw [Nat.zero_add]; exact hb3⟩
end
end Go.Proofs.YtlaolpkgabknfaaDoor
set_option maxRecDepth 100000
set_option maxHeartbeats 4000000
namespace Go.Proofs.YtlaolpkgabknfaaDoor
open Go Go.Dv

section
variable {acts : List Act} {m : Mo} {n : Nat} {a b : Tr}
/-- Where an announcement holds, world by world. -/
theorem ann_bit {i e k : Int} {s x : Nat} (hM : OkM m n) (h1 : dvT acts a m = some s) (h2 : dvT acts (.nd 16 i e k a b) m = some x) (h0 : s ≠ 0) :
    ∃ t, dvT acts b (arrI m (memL s)) = some t ∧ t < 2 ^ (memL s).length ∧ ∀ w, x.testBit w = true ↔ w < n ∧ (s.testBit w = true → ∃ j, (memL s)[j]? = some w ∧ t.testBit j = true) := by
  have hnn : m.n.toNat = n := by rw [hM.nn, Int.toNat_natCast]
  have hsn := dvT_lt a hM h1
  have hs64 : s < 2 ^ 64 := Nat.lt_of_lt_of_le hsn (pow64_le hM.n64)
  have hM1 : OkM (arrI m (memL s)) (memL s).length := arr_ok hM (memL_pos h0 hs64) (memL_len s)
  rw [dv_ann1 h1 h0] at h2
  cases hb : dvT acts b (arrI m (memL s)) with
  | none => rw [hb] at h2; cases h2
  | some t =>
    rw [hb, hnn] at h2
    have h2 := Option.some.inj h2
    refine ⟨t, rfl, dvT_lt b hM1 hb, fun w => ?_⟩
    rw [← h2, sprG_bit, notN_bit, Bool.and_eq_true, decide_eq_true_eq]
    constructor
    · rintro (⟨q1, q2⟩ | ⟨j, q1, q2⟩)
      · exact ⟨q1, fun q => by rw [q] at q2; cases q2⟩
      · rw [Nat.zero_add] at q2
        exact ⟨bit_lt hsn (memL_mem.1 (List.mem_iff_getElem?.2 ⟨j, q1⟩)).2, fun _ => ⟨j, q1, q2⟩⟩
    · rintro ⟨q1, q2⟩
      cases hw : s.testBit w with
      | false => exact .inl ⟨q1, rfl⟩
      | true =>
        obtain ⟨j, q3, q4⟩ := q2 hw
        exact .inr ⟨j, q3, by rw [Nat.zero_add]; exact q4⟩
theorem ann_some {i e k : Int} {x : Nat} (h2 : dvT acts (.nd 16 i e k a b) m = some x) : ∃ s, dvT acts a m = some s := by
  cases h : dvT acts a m with
  | none => rw [dv_annN h] at h2; cases h2
  | some s => exact ⟨s, rfl⟩
theorem memL_inj {s j k w : Nat} (h1 : (memL s)[j]? = some w) (h2 : (memL s)[k]? = some w) : j = k := by
  have l1 := (List.getElem?_eq_some_iff.1 h1).1
  have l2 := (List.getElem?_eq_some_iff.1 h2).1
  have e1 : (memL s).getD j 0 = w := by rw [List.getD_eq_getElem?_getD, h1]; rfl
  have e2 : (memL s).getD k 0 = w := by rw [List.getD_eq_getElem?_getD, h2]; rfl
  rcases Nat.lt_trichotomy j k with q | q | q
  · have := asc_get (memL_asc s) q l2; omega
  · exact q
  · have := asc_get (memL_asc s) q l1; omega
theorem memL_at {s w : Nat} (hs : s < 2 ^ 64) (hw : s.testBit w = true) : ∃ j : Nat, (memL s)[j]? = some w := List.mem_iff_getElem?.1 (memL_mem.2 ⟨bit_lt hs hw, hw⟩)
/-- The negation of an announcement. -/
theorem ann_not {s x z : Nat} (hM : OkM m n) (h1 : dvT acts a m = some s) (h2 : dvT acts (.nd 16 0 0 0 a b) m = some x) (h3 : dvT acts (.nd 16 0 0 0 a (.nd 4 0 0 0 b .none)) m = some z) : z = notN n s ||| notN n x := by
  have hnn : m.n.toNat = n := by rw [hM.nn, Int.toNat_natCast]
  have hsn := dvT_lt a hM h1
  have hs64 : s < 2 ^ 64 := Nat.lt_of_lt_of_le hsn (pow64_le hM.n64)
  by_cases h0 : s = 0
  · subst h0
    rw [dv_ann0 h1] at h3
    rw [← Option.some.inj h3, hnn]
    apply Nat.eq_of_testBit_eq
    intro w
    rw [Nat.testBit_or, notN_bit, notN_bit, Nat.testBit_two_pow_sub_one, Nat.zero_testBit]
    cases decide (w < n) <;> simp
  · have hM1 : OkM (arrI m (memL s)) (memL s).length := arr_ok hM (memL_pos h0 hs64) (memL_len s)
    have hn1 : (arrI m (memL s)).n.toNat = (memL s).length := by rw [hM1.nn, Int.toNat_natCast]
    obtain ⟨t, k1, k2, k3⟩ := ann_bit hM h1 h2 h0
    obtain ⟨t', j1, j2, j3⟩ := ann_bit hM h1 h3 h0
    have et : t' = notN (memL s).length t := by
      rw [dv_st rfl rfl, k1, hn1] at j1
      exact (Option.some.inj j1).symm
    apply Nat.eq_of_testBit_eq
    intro w
    rw [Bool.eq_iff_iff, j3, Nat.testBit_or, Bool.or_eq_true, notN_bit, notN_bit, Bool.and_eq_true, Bool.and_eq_true, decide_eq_true_eq]
    have k3w := k3 w
    constructor
    · rintro ⟨q1, q2⟩
      cases hw : s.testBit w with
      | false => exact .inl ⟨q1, rfl⟩
      | true =>
        right
        refine ⟨q1, ?_⟩
        cases hx : x.testBit w with
        | false => rfl
        | true =>
          obtain ⟨j, r1, r2⟩ := q2 hw
          obtain ⟨j', r3, r4⟩ := (k3w.1 hx).2 hw
          have := memL_inj r1 r3
          subst this
          rw [et, notN_bit, r4] at r2
          simp at r2
    · rintro (⟨q1, q2⟩ | ⟨q1, q2⟩)
      · exact ⟨q1, fun q => by rw [q] at q2; cases q2⟩
      · refine ⟨q1, fun hw => ?_⟩
        obtain ⟨j, hj⟩ := memL_at hs64 hw
        refine ⟨j, hj, ?_⟩
        rw [et, notN_bit, decide_eq_true (List.getElem?_eq_some_iff.1 hj).1, Bool.true_and]
        cases ht : t.testBit j with
        | false => rfl
        | true => rw [k3w.2 ⟨q1, fun _ => ⟨j, hj, ht⟩⟩] at q2; cases q2
/-- Facts after an announcement. -/
theorem ann_fact {s p : Nat} (hM : OkM m n) (h1 : dvT acts a m = some s) (hp : p < m.val.length) : dvT acts (.nd 16 0 0 0 a (.nd 3 (p : Int) 0 0 .none .none)) m = some (notN n s ||| m.val.getD p 0) := by
  have hnn : m.n.toNat = n := by rw [hM.nn, Int.toNat_natCast]
  have hsn := dvT_lt a hM h1
  have hs64 : s < 2 ^ 64 := Nat.lt_of_lt_of_le hsn (pow64_le hM.n64)
  have hv : m.val.getD p 0 < 2 ^ n := hM.vbits _ (List.mem_iff_getElem?.2 ⟨p, getD_mem hp⟩)
  by_cases h0 : s = 0
  · subst h0
    rw [dv_ann0 h1, hnn]
    congr 1
    apply Nat.eq_of_testBit_eq
    intro w
    rw [Nat.testBit_or, notN_bit, Nat.testBit_two_pow_sub_one, Nat.zero_testBit]
    cases hb : (m.val.getD p 0).testBit w with
    | false => simp
    | true => rw [decide_eq_true (bit_lt hv hb)]; rfl
  · have hM1 : OkM (arrI m (memL s)) (memL s).length := arr_ok hM (memL_pos h0 hs64) (memL_len s)
    have ef : dvT acts (.nd 3 (p : Int) 0 0 .none .none) (arrI m (memL s)) = some (pullN (m.val.getD p 0) (memL s)) := by
      rw [dv_st rfl rfl]
      show some ((arrI m (memL s)).val.getD (p : Int).toNat 0) = _
      rw [Int.toNat_natCast, arrI, List.getD_eq_getElem?_getD, List.getElem?_map, getD_mem hp (d := 0)]; rfl
    have e1 : dvT acts (.nd 16 0 0 0 a (.nd 3 (p : Int) 0 0 .none .none)) m = some (sprG (pullN (m.val.getD p 0) (memL s)) (memL s) 0 (notN n s)) := by rw [dv_ann1 h1 h0, ef, hnn]
    obtain ⟨t, k1, k2, k3⟩ := ann_bit hM h1 e1 h0
    rw [ef] at k1
    have k1 := Option.some.inj k1
    rw [e1]
    congr 1
    apply Nat.eq_of_testBit_eq
    intro w
    rw [Bool.eq_iff_iff, k3, Nat.testBit_or, Bool.or_eq_true, notN_bit, Bool.and_eq_true, decide_eq_true_eq]
    have hbit : ∀ j, (memL s)[j]? = some w → t.testBit j = (m.val.getD p 0).testBit w := fun j hj => by
      rw [← k1, pullN, maskOf_bit, decide_eq_true (List.getElem?_eq_some_iff.1 hj).1, Bool.true_and, show (memL s).getD j 0 = w by rw [List.getD_eq_getElem?_getD, hj]; rfl]
    constructor
    · rintro ⟨q1, q2⟩
      cases hw : s.testBit w with
      | false => exact .inl ⟨q1, rfl⟩
      | true =>
        obtain ⟨j, r1, r2⟩ := q2 hw
        rw [hbit j r1] at r2
        exact .inr r2
    · rintro (⟨q1, q2⟩ | q)
      · exact ⟨q1, fun q => by rw [q] at q2; cases q2⟩
      · refine ⟨bit_lt hv q, fun hw => ?_⟩
        obtain ⟨j, hj⟩ := memL_at hs64 hw
        exact ⟨j, hj, by rw [hbit j hj]; exact q⟩
/-- Knowledge after an announcement. -/
theorem ann_know {s x q : Nat} (hM : OkM m n) (h1 : dvT acts a m = some s) (h2 : dvT acts (.nd 16 0 0 0 a b) m = some x) (hq : q < m.rel.length) :
    dvT acts (.nd 16 0 0 0 a (.nd 9 (q : Int) 0 0 b .none)) m = some (notN n s ||| boxN n (m.rel.getD q []) x) := by
  have hnn : m.n.toNat = n := by rw [hM.nn, Int.toNat_natCast]
  have hsn := dvT_lt a hM h1
  have hs64 : s < 2 ^ 64 := Nat.lt_of_lt_of_le hsn (pow64_le hM.n64)
  by_cases h0 : s = 0
  · subst h0
    rw [dv_ann0 h1, hnn]
    congr 1
    apply Nat.eq_of_testBit_eq
    intro w
    rw [Nat.testBit_or, notN_bit, Nat.testBit_two_pow_sub_one, Nat.zero_testBit]
    cases hb : (boxN n (m.rel.getD q []) x).testBit w with
    | false => simp
    | true => rw [decide_eq_true (bit_lt (boxN_lt _ _ _) hb)]; rfl
  · have hM1 : OkM (arrI m (memL s)) (memL s).length := arr_ok hM (memL_pos h0 hs64) (memL_len s)
    have hn1 : (arrI m (memL s)).n.toNat = (memL s).length := by rw [hM1.nn, Int.toNat_natCast]
    obtain ⟨t, k1, k2, k3⟩ := ann_bit hM h1 h2 h0
    have ef : dvT acts (.nd 9 (q : Int) 0 0 b .none) (arrI m (memL s)) = some (boxN (memL s).length ((memL s).map fun w => pullN ((m.rel.getD q []).getD w 0) (memL s)) t) := by
      rw [dv_st rfl rfl, k1, hn1]
      show some (boxN _ ((arrI m (memL s)).rel.getD (q : Int).toNat []) t) = _
      rw [Int.toNat_natCast, arrI, List.getD_eq_getElem?_getD, List.getElem?_map, getD_mem hq (d := [])]; rfl
    obtain ⟨u, hu⟩ : ∃ u, u = boxN (memL s).length ((memL s).map fun w => pullN ((m.rel.getD q []).getD w 0) (memL s)) t := ⟨_, rfl⟩
    rw [← hu] at ef
    have e1 : dvT acts (.nd 16 0 0 0 a (.nd 9 (q : Int) 0 0 b .none)) m = some (sprG u (memL s) 0 (notN n s)) := by rw [dv_ann1 h1 h0, ef, hnn]
    obtain ⟨t', j1, j2, j3⟩ := ann_bit hM h1 e1 h0
    rw [ef] at j1
    have j1 := Option.some.inj j1
    rw [e1]
    congr 1
    have hrow : ∀ w v, ((m.rel.getD q []).getD w 0).testBit v = true → v < n := fun w v h => bit_lt (hM.get q w) h
    have hbit : ∀ j w, (memL s)[j]? = some w → (t'.testBit j = true ↔ Sub ((m.rel.getD q []).getD w 0) x) := fun j w hj => by
      have hjl := (List.getElem?_eq_some_iff.1 hj).1
      have erow : ((memL s).map fun w => pullN ((m.rel.getD q []).getD w 0) (memL s)).getD j 0 = pullN ((m.rel.getD q []).getD w 0) (memL s) := by
        rw [List.getD_eq_getElem?_getD, List.getElem?_map, hj]; rfl
      rw [← j1, hu, boxN_bit, erow]
      constructor
      · rintro ⟨_, g⟩ v hv
        refine (k3 v).2 ⟨hrow w v hv, fun hsv => ?_⟩
        obtain ⟨i, hi⟩ := memL_at hs64 hsv
        refine ⟨i, hi, g i ?_⟩
        rw [pullN, maskOf_bit, decide_eq_true (List.getElem?_eq_some_iff.1 hi).1, Bool.true_and, show (memL s).getD i 0 = v by rw [List.getD_eq_getElem?_getD, hi]; rfl]
        exact hv
      · intro g
        refine ⟨hjl, fun i hi => ?_⟩
        rw [pullN, maskOf_bit, Bool.and_eq_true, decide_eq_true_eq] at hi
        have hi2 := getD_mem hi.1 (d := 0)
        obtain ⟨i', r1, r2⟩ := ((k3 _).1 (g _ hi.2)).2 (memL_mem.1 (List.mem_iff_getElem?.2 ⟨i, hi2⟩)).2
        rw [memL_inj hi2 r1]; exact r2
    apply Nat.eq_of_testBit_eq
    intro w
    rw [Bool.eq_iff_iff, j3, Nat.testBit_or, Bool.or_eq_true, notN_bit, Bool.and_eq_true, decide_eq_true_eq, boxN_bit]
    constructor
    · rintro ⟨q1, q2⟩
      cases hw : s.testBit w with
      | false => exact .inl ⟨q1, rfl⟩
      | true =>
        obtain ⟨j, r1, r2⟩ := q2 hw
        exact .inr ⟨q1, (hbit j w r1).1 r2⟩
    · rintro (⟨q1, q2⟩ | ⟨q1, q2⟩)
      · exact ⟨q1, fun q => by rw [q] at q2; cases q2⟩
      · refine ⟨q1, fun hw => ?_⟩
        obtain ⟨j, hj⟩ := memL_at hs64 hw
        exact ⟨j, hj, (hbit j w hj).2 q2⟩
end
end Go.Proofs.YtlaolpkgabknfaaDoor
set_option maxRecDepth 100000
set_option maxHeartbeats 16000000
namespace Go.Proofs.YtlaolpkgabknfaaDoor
open Go Go.Dv

theorem ann_L {acts : List Act} {c : List Nd} {A F Y : Nat} (hat : ConE 37 (.pv (.int .i64 (Y : Nat))) acts c A F Y) {m : Mo} {n : Nat} {es : List (Nat × Nat)} {err : Int} (hM : ModD acts m n A F) (hE : err = 0 ∨ err = 8) {s : Nat} (hs : s < 2 ^ n)
    {M : Nat → Prop} {w0 : World} {L : DH} {K : DV → DH → Prop} (h0 : L.lo = 0) (hn : Nat.ble 3 L.next = true) (g0 : L.get 0 = some (.var [.pv (.int .i64 err)])) (g1 : L.get 1 = some (.var (evC m acts c))) (g2 : L.get 2 = some (.mp (setM es)))
    (hK : ∀ t err', PostV (annV acts c Y m n s) n err t err' → K (.pv (u64 t)) (L.merge ⟨3, 0, 3, objsOf (H0 m acts c es err')⟩ 3)) : DC Tryd.prog M w0 74 [.ref 1 0, .pv (u64 s), .pv (.int .i64 (Y : Nat))] L K := by
  refine DC.call 3 (H0 m acts c es err) ⟨g2.symm, g1.symm, g0.symm, trivial⟩ rfl hn (by rw [h0]; rfl) rfl fun M' => ?_
  rw [h0]
  exact ann_dc hat hM hE hs fun t err' hp => ⟨rfl, hK t err' hp⟩
theorem evt_L {acts : List Act} {c : List Nd} {A F X e : Nat} {a : Act} (hS : ∀ a, a ∈ acts → SmA a) (ha : a ∈ acts) (he : e < a.pre.length) (hat : ConE 37 (.pv (.int .i64 (X : Nat))) acts c A F X) {m : Mo} {n : Nat} {es : List (Nat × Nat)} {err : Int} (hM : ModD acts m n A F) (hE : err = 0 ∨ err = 8)
    {M : Nat → Prop} {w0 : World} {L : DH} {K : DV → DH → Prop} (h0 : L.lo = 0) (hn : Nat.ble 3 L.next = true) (g0 : L.get 0 = some (.var [.pv (.int .i64 err)])) (g1 : L.get 1 = some (.var (evC m acts c))) (g2 : L.get 2 = some (.mp (setM es)))
    (hK : ∀ t err', PostV (evtV acts c X m n a e) n err t err' → K (.pv (u64 t)) (L.merge ⟨3, 0, 3, objsOf (H0 m acts c es err')⟩ 3)) : DC Tryd.prog M w0 75 [.ref 1 0, .agg (actDV a), .pv (.int .i64 (e : Nat)), .pv (.int .i64 (X : Nat))] L K := by
  refine DC.call 3 (H0 m acts c es err) ⟨g2.symm, g1.symm, g0.symm, trivial⟩ rfl hn (by rw [h0]; rfl) rfl fun M' => ?_
  rw [h0]
  exact evt_dc hS ha he hat hM hE fun t err' hp => ⟨rfl, hK t err' hp⟩
theorem annV_dvT {acts : List Act} {c : List Nd} {m : Mo} {n X Y s : Nat} {i e g : Int} (hnn : m.n.toNat = n) (h : dvT acts (tree c X) m = some s) : dvT acts (.nd 16 i e g (tree c X) (tree c Y)) m = annV acts c Y m n s := by
  by_cases h0 : s = 0
  · subst h0; rw [dv_ann0 h, annV, hnn]; rfl
  · rw [dv_ann1 h h0, annV, hnn, show (s == 0) = false by simpa using h0, cond_false]
    cases dvT acts (tree c Y) (arrI m (memL s)) <;> rfl
theorem evtV_dvT {acts : List Act} {c : List Nd} {m : Mo} {n X e : Nat} {i g : Int} {b : Tr} (hnn : m.n.toNat = n) : dvT acts (.nd 17 i (e : Int) g (tree c X) b) m = evtV acts c X m n (acts.getD i.toNat noAct) e := by
  rw [dvT, show ((17 : Int) == 16) = false from rfl, show ((17 : Int) == 17) = true from rfl, cond_false, cond_true, evtV, hnn, Int.toNat_natCast]
  cases ((holdsI m ((acts.getD i.toNat noAct).pre.getD e [])).1 == 0) with
  | true => rfl
  | false =>
    rw [cond_false, cond_false]
    cases ((updI m (acts.getD i.toNat noAct)).2.2 != 0) with
    | true => rfl
    | false =>
      rw [cond_false, cond_false]
      cases dvT acts (tree c X) (updI m (acts.getD i.toNat noAct)).1 <;> rfl
theorem val_16 {acts : List Act} {c : List Nd} {A F i : Nat} {fi ei gi xx yy : Int} (hC : CxD A F acts c) (hx : c[i]? = some ⟨16, fi, ei, gi, xx, yy⟩) (hat : ∀ j, j < i → ConE 37 (.pv (.int .i64 (j : Nat))) acts c A F j) :
    ConE 50 (.agg (Nd.dvs ⟨16, fi, ei, gi, xx, yy⟩)) acts c A F i := by
  intro m n es err hM hI hE M w0 base K hK
  have hO := hM.okd.okm
  have hnn : m.n.toNat = n := by rw [hO.nn, Int.toNat_natCast]
  have hn64 := hO.n64
  have h64 := pow64_le hn64
  have hall : 2 ^ n - 1 < 2 ^ n := by have := Nat.two_pow_pos n; omega
  have hnd := hC.okl i _ hx
  have hmem : (⟨16, fi, ei, gi, xx, yy⟩ : Nd) ∈ c := List.mem_iff_getElem?.2 ⟨i, hx⟩
  have hkx := hnd.x rfl
  simp only at hkx
  obtain ⟨X, ex⟩ : ∃ q : Nat, xx = q := ⟨xx.toNat, by omega⟩
  subst ex
  have hlx : X < i := by omega
  have hky := hnd.y rfl
  simp only at hky
  obtain ⟨Y, ey⟩ : ∃ q : Nat, yy = q := ⟨yy.toNat, by omega⟩
  subst ey
  have hly : Y < i := by omega
  have ht : tree c i = .nd 16 fi ei gi (tree c X) (tree c Y) := by rw [tree_nd hC.okl hx]; rfl
  have hX := fun {M w0 L K} => @con_L _ _ _ _ _ _ _ (hat X hlx) rfl m n es err hM hI hE M w0 L K
  have f1 : ((16 : Int) == 1) = false := rfl
  have f2 : ((16 : Int) == 2) = false := rfl
  have f3 : ((16 : Int) == 3) = false := rfl
  have f4 : ((16 : Int) == 4) = false := rfl
  have f5 : ((16 : Int) == 5) = false := rfl
  have f6 : ((16 : Int) == 6) = false := rfl
  have f7 : ((16 : Int) == 7) = false := rfl
  have f8 : ((16 : Int) == 8) = false := rfl
  have f9 : ((16 : Int) == 9) = false := rfl
  have f10 : ((16 : Int) == 10) = false := rfl
  have f11 : ((16 : Int) == 11) = false := rfl
  have f12 : ((16 : Int) == 12) = false := rfl
  have f13 : ((16 : Int) == 13) = false := rfl
  have f16 : ((16 : Int) == 16) = true := rfl
  refine DC.weaken (DC.intro mixed (fn := Tryd.f50) rfl rfl rfl ?_)
  (try conv=>whnf);repeat' (first|(apply And.intro<;>try conv=>whnf)|(intro h;first|with_reducible exact tf h (by assumption)|with_reducible exact tf (by assumption) h|try conv=>whnf)|fail)
  refine ⟨.one 0 (.one 1 (.one 2 (.one 3 (.two 4 (.one 5 (.one 6 (.one 7 (.one 8 .done)))) 5 (.two 4 (.one 6 (.one 7 (.one 8 .done))) 6 (.one 4 (.one 7 (.one 8 .done)))))))), [4, 7], by kernel_rfl, ?_⟩
  (try conv=>whnf);repeat' (first|(apply And.intro<;>try conv=>whnf)|(refine hX rfl rfl rfl rfl rfl ?_;intro s1 es1 er1 p1;have q1 := lt64 hO p1;try conv=>whnf)|(refine ann_L (es := es1) (hat Y hly) hM p1.er p1.lt rfl rfl rfl rfl rfl ?_;intro t err2 pv;try conv=>whnf)|fail)
  all_goals
    refine ⟨.pv (u64 t), 3, H0 m acts c es1 err2, ?_, hK _ _ _ ⟨pv.lt, fun k s h => ?_, pv.er, fun h => ?_, fun h => ?_⟩⟩
    · (refine Wk.of ?_ ?_ rfl rfl rfl<;>repeat' (first|exact trivial|exact WkD.same _|exact WkO.same _ _ rfl|refine ⟨?_, ?_⟩|fail))
    · obtain ⟨h1, h2⟩ := p1.inv k s h
      exact ⟨h1, fun h3 => h2 (pv.ok h3).1⟩
    · obtain ⟨h1, h2⟩ := pv.ok h
      obtain ⟨h3, h4⟩ := p1.ok h1
      exact ⟨h3, by rw [ht, annV_dvT hnn h4, h2]⟩
    · by_cases h1 : er1 = 0
      · obtain ⟨h3, h4⟩ := p1.ok h1
        rcases pv.no h with h2 | h2
        · exact absurd h1 h2
        · exact .inr (by rw [ht, annV_dvT hnn h4, h2])
      · rcases p1.no h1 with h2 | h2
        · exact .inl h2
        · exact .inr (by rw [ht]; exact dv_annN h2)
theorem val_17 {acts : List Act} {c : List Nd} {A F i : Nat} {fi ei gi xx yy : Int} (hC : CxD A F acts c) (hS : ∀ a, a ∈ acts → SmA a) (hx : c[i]? = some ⟨17, fi, ei, gi, xx, yy⟩) (hat : ∀ j, j < i → ConE 37 (.pv (.int .i64 (j : Nat))) acts c A F j) :
    ConE 50 (.agg (Nd.dvs ⟨17, fi, ei, gi, xx, yy⟩)) acts c A F i := by
  intro m n es err hM hI hE M w0 base K hK
  have hO := hM.okd.okm
  have hnn : m.n.toNat = n := by rw [hO.nn, Int.toNat_natCast]
  have hn64 := hO.n64
  have h64 := pow64_le hn64
  have hall : 2 ^ n - 1 < 2 ^ n := by have := Nat.two_pow_pos n; omega
  have hnd := hC.okl i _ hx
  have hmem : (⟨17, fi, ei, gi, xx, yy⟩ : Nd) ∈ c := List.mem_iff_getElem?.2 ⟨i, hx⟩
  have hkx := hnd.x rfl
  simp only at hkx
  obtain ⟨X, ex⟩ : ∃ q : Nat, xx = q := ⟨xx.toNat, by omega⟩
  subst ex
  have hlx : X < i := by omega
  have hev := hC.ev _ hmem rfl
  simp only at hev
  obtain ⟨I, eI⟩ : ∃ q : Nat, fi = q := ⟨fi.toNat, by omega⟩
  subst eI
  obtain ⟨E, eE⟩ : ∃ q : Nat, ei = q := ⟨ei.toNat, by omega⟩
  subst eE
  have hIl : I < acts.length := by omega
  obtain ⟨a, hai, had⟩ : ∃ a, acts[I]? = some a ∧ acts.getD I noAct = a := ⟨_, getD_mem hIl, rfl⟩
  have ham : a ∈ acts := List.mem_iff_getElem?.2 ⟨I, hai⟩
  have heN : E < a.pre.length := by
    have := hev.2.2.2
    rw [Int.toNat_natCast, had] at this
    omega
  have f1 : ((17 : Int) == 1) = false := rfl
  have f2 : ((17 : Int) == 2) = false := rfl
  have f3 : ((17 : Int) == 3) = false := rfl
  have f4 : ((17 : Int) == 4) = false := rfl
  have f5 : ((17 : Int) == 5) = false := rfl
  have f6 : ((17 : Int) == 6) = false := rfl
  have f7 : ((17 : Int) == 7) = false := rfl
  have f8 : ((17 : Int) == 8) = false := rfl
  have f9 : ((17 : Int) == 9) = false := rfl
  have f10 : ((17 : Int) == 10) = false := rfl
  have f11 : ((17 : Int) == 11) = false := rfl
  have f12 : ((17 : Int) == 12) = false := rfl
  have f13 : ((17 : Int) == 13) = false := rfl
  have f16 : ((17 : Int) == 16) = false := rfl
  refine DC.weaken (DC.intro mixed (fn := Tryd.f50) rfl rfl rfl ?_)
  (try conv=>whnf);repeat' (first|(apply And.intro<;>try conv=>whnf)|(intro h;first|with_reducible exact tf h (by assumption)|try conv=>whnf)|fail)
  refine ⟨.one 0 (.one 1 (.one 2 (.one 3 (.one 4 (.one 5 (.one 6 (.one 7 (.one 8 (.one 9 (.one 10 (.one 11 (.one 12 (.one 13 (.one 14 .done)))))))))))))), [13], by kernel_rfl, ?_⟩
  (try conv=>whnf);repeat' (first|(apply And.intro<;>try conv=>whnf)|(apply infoT;rfl)|(refine ⟨_, _, rfl, idx_map (by with_reducible assumption), rfl, ?_⟩;try conv=>whnf)|(refine evt_L (es := es) hS ham heN (hat X hlx) hM hE rfl rfl rfl rfl rfl ?_;intro t err2 pv;try conv=>whnf)|fail)
  have ht : tree c i = .nd 17 (I : Int) (E : Int) gi (tree c X) .none := by rw [tree_nd hC.okl hx]; rfl
  have hd : dvT acts (tree c i) m = evtV acts c X m n a E := by rw [ht, evtV_dvT hnn, Int.toNat_natCast, had]
  refine ⟨.pv (u64 t), 3, H0 m acts c es err2, ?_, hK _ _ _ ⟨pv.lt, fun k s h => ?_, pv.er, fun h => ?_, fun h => ?_⟩⟩
  · (refine Wk.of ?_ ?_ rfl rfl rfl<;>repeat' (first|exact trivial|exact WkD.same _|exact WkO.same _ _ rfl|refine ⟨?_, ?_⟩|fail))
  · obtain ⟨h1, h2⟩ := hI k s h
    exact ⟨h1, fun h3 => h2 (pv.ok h3).1⟩
  · obtain ⟨h1, h2⟩ := pv.ok h
    exact ⟨h1, hd.trans h2⟩
  · rcases pv.no h with h2 | h2
    · exact .inl h2
    · exact .inr (hd.trans h2)
theorem value_dc {acts : List Act} {c : List Nd} {A F i : Nat} {x : Nd} (hC : CxD A F acts c) (hS : ∀ a, a ∈ acts → SmA a) (hx : c[i]? = some x) (hat : ∀ j, j < i → ConE 37 (.pv (.int .i64 (j : Nat))) acts c A F j) :
    ConE 50 (.agg x.dvs) acts c A F i := by
  have hop := hC.op x (List.mem_iff_getElem?.2 ⟨i, hx⟩)
  have h1 := (hC.okl i x hx).op.1
  obtain ⟨op, fi, ei, gi, xx, yy⟩ := x
  simp only at hop h1
  have : op = 1 ∨ op = 2 ∨ op = 3 ∨ op = 4 ∨ op = 5 ∨ op = 6 ∨ op = 7 ∨ op = 8 ∨ op = 9 ∨ op = 10 ∨ op = 11 ∨ op = 12 ∨ op = 13 ∨ op = 16 ∨ op = 17 := by omega
  rcases this with rfl | rfl | rfl | rfl | rfl | rfl | rfl | rfl | rfl | rfl | rfl | rfl | rfl | rfl | rfl
  · exact val_1 hC hx hat
  · exact val_2 hC hx hat
  · exact val_3 hC hx hat
  · exact val_4 hC hx hat
  · exact val_5 hC hx hat
  · exact val_6 hC hx hat
  · exact val_7 hC hx hat
  · exact val_8 hC hx hat
  · exact val_9 hC hx hat
  · exact val_10 hC hx hat
  · exact val_11 hC hx hat
  · exact val_12 hC hx hat
  · exact val_13 hC hx hat
  · exact val_16 hC hx hat
  · exact val_17 hC hS hx hat
theorem at_all {acts : List Act} {c : List Nd} {A F : Nat} (hC : CxD A F acts c) (hS : ∀ a, a ∈ acts → SmA a) : ∀ (k i : Nat), i < k → i < c.length → ConE 37 (.pv (.int .i64 (i : Nat))) acts c A F i
  | 0, i, h, _ => by omega
  | k + 1, i, h, hi => at_dc hC hi fun x hx => value_dc hC hS hx fun j hj => at_all hC hS k j (by omega) (by omega)
end Go.Proofs.YtlaolpkgabknfaaDoor
set_option maxRecDepth 100000
set_option maxHeartbeats 8000000
namespace Go.Proofs.YtlaolpkgabknfaaDoor
open Go Go.Dv

def HDq (m : Mo) (acts : List Act) : List (Nat × DObj) := [(0, .var (cellsM m)), (1, .var [.pv (actsPV acts)])]
theorem WkD.boo {L : DH} {H : List (Nat × DObj)} {a b : Bool} (h : a = b) : WkD L H (.pv (.bool a)) (.pv (.bool b)) := h ▸ .same _
theorem req1 {M : Nat → Prop} {w0 : World} (m : Mo) (acts : List Act) (x : Nd) (hx : x.op = 17 → 0 ≤ x.i) (base : Nat) (K : DV → DH → Prop) (hK : K (.pv (.bool (badA acts x))) ⟨2, 0, base, objsOf (HDq m acts)⟩) :
    DC Tryd.prog M w0 48 [.agg x.dvs, .ref 1 0] ⟨2, 0, base, objsOf (HDq m acts)⟩ K := by
  obtain ⟨op, fi, ei, gi, xx, yy⟩ := x
  simp only at hx
  have e1 : ((acts.map Act.pv).length : Int) = (acts.length : Int) := by simp
  refine DC.weaken (DC.intro mixed (fn := Tryd.f48) rfl rfl rfl ?_)
  cases h17 : (op == 17) with
  | false =>
    have hb : badA acts ⟨op, fi, ei, gi, xx, yy⟩ = false := by
      show (bif op == 17 then _ else false) = false
      rw [h17]; rfl
    rw [hb] at hK
    have hoff : (op == 17 && !false) = false := by rw [h17]; rfl
    (try conv=>whnf);repeat' (first|(apply And.intro<;>try conv=>whnf)|(intro h;first|with_reducible exact tf h (by assumption)|try conv=>whnf)|(apply whenOff;(focus with_reducible assumption);try conv=>whnf)|(refine lin_plan (by kernel_rfl) ?_;try conv=>whnf)|fail)
    refine ⟨_, 2, HDq m acts, ?_, hK⟩
    refine Wk.of ⟨WkD.boo ?_, trivial⟩ ⟨WkO.same _ _ rfl, trivial, WkO.same _ _ rfl, trivial, trivial⟩ rfl rfl rfl
    rw [h17]
    rfl
  | true =>
    have e17 : op = 17 := by simpa using h17
    have h0 := hx e17
    cases hge : decide (fi ≥ ((acts.map Act.pv).length : Int)) with
    | true =>
      have hb : badA acts ⟨op, fi, ei, gi, xx, yy⟩ = true := by
        show (bif op == 17 then (bif decide (fi ≥ (acts.length : Int)) then true else _) else false) = true
        rw [h17, ← e1, hge]; rfl
      rw [hb] at hK
      have hoff : (op == 17 && !decide (fi ≥ ((acts.map Act.pv).length : Int))) = false := by rw [h17, hge]; rfl
      (try conv=>whnf);repeat' (first|(apply And.intro<;>try conv=>whnf)|(intro h;first|with_reducible exact tf (by assumption) h|try conv=>whnf)|apply True.intro|(apply whenOff;(focus with_reducible assumption);try conv=>whnf)|(apply WhenQ.mk;(try conv=>whnf);rotate_left;(try conv=>whnf);rotate_right)|with_reducible assumption|(refine lin_plan (by kernel_rfl) ?_;try conv=>whnf)|fail)
      refine ⟨_, 2, HDq m acts, ?_, hK⟩
      refine Wk.of ⟨WkD.boo ?_, trivial⟩ ⟨WkO.same _ _ rfl, trivial, WkO.same _ _ rfl, trivial, trivial⟩ rfl rfl rfl
      rw [h17]
      show (bif decide (fi ≥ ((acts.map Act.pv).length : Int)) then true else _) = _
      rw [hge]; rfl
    | false =>
      have hlt := of_decide_eq_false hge
      rw [e1] at hlt
      obtain ⟨q, eq⟩ : ∃ q : Nat, fi = q := ⟨fi.toNat, by omega⟩
      subst eq
      obtain ⟨a, ha, had⟩ : ∃ a, acts[q]? = some a ∧ acts.getD q noAct = a := ⟨_, getD_mem (by omega), rfl⟩
      have hb : badA acts ⟨op, (q : Int), ei, gi, xx, yy⟩ = decide (ei ≥ ((a.pre.map fpv).length : Int)) := by
        show (bif op == 17 then (bif decide ((q : Int) ≥ (acts.length : Int)) then true else decide (ei ≥ ((acts.getD (q : Int).toNat noAct).pre.length : Int))) else false) = _
        rw [h17, ← e1, hge, Int.toNat_natCast, had, List.length_map]; rfl
      rw [hb] at hK
      (try conv=>whnf);repeat' (first|(apply And.intro<;>try conv=>whnf)|(intro h;try conv=>whnf)|apply True.intro|(apply infoT;rfl)|(apply WhenQ.mk;(try conv=>whnf);rotate_left;(try conv=>whnf);rotate_right)|with_reducible assumption|(apply and_of<;>first|with_reducible assumption|(apply not_of;with_reducible assumption))|(refine lin_plan (by kernel_rfl) ?_;try conv=>whnf)|(refine ⟨_, _, rfl, idx_map (by with_reducible assumption), rfl, ?_⟩;try conv=>whnf)|fail)
      refine ⟨_, 2, HDq m acts, ?_, hK⟩
      refine Wk.of ⟨WkD.boo ?_, trivial⟩ ⟨WkO.same _ _ rfl, trivial, WkO.same _ _ rfl, trivial, trivial⟩ rfl rfl rfl
      rw [h17]
      show (bif decide ((q : Int) ≥ ((acts.map Act.pv).length : Int)) then true else _) = _
      rw [hge]; rfl
theorem idx_N {M : Nat → Prop} {w0 : World} (m : Mo) (acts : List Act) (l : List Nd) (hl : l.length ≤ 1000) (hs : ∀ x, x ∈ l → x.op = 17 → 0 ≤ x.i) (base : Nat) (K : DV → DH → Prop) (hK : ∀ r : Int, decide (r ≥ 0) = l.any (badA acts) → K (.pv (.int .i64 r)) ⟨2, 0, base, objsOf (HDq m acts)⟩) :
    DC Tryd.prog M w0 67 [.pv (fpv l), .clo 48 [] [.ref 1 0]] ⟨2, 0, base, objsOf (HDq m acts)⟩ K := by
  refine DC.weaken (DC.intro mixed (fn := Tryd.f67) rfl rfl rfl ?_)
  try conv=>whnf
  refine ⟨{ i : Nat // i ≤ l.length ∧ (l.take i).any (badA acts) = false }, fun i => [(0, .pv (fpv l)), (1, .clo 48 [] [.ref 1 0]), (7, .pv (i64 (l.map Nd.pv).length)), (8, .pv (i64 i.1))], fun _ => 2, fun _ => HDq m acts, fun i => l.length - i.1, ⟨⟨0, Nat.zero_le _, rfl⟩, (by refine Wk.of ?_ ?_ rfl rfl rfl<;>repeat' (first|exact trivial|exact WkD.same _|exact WkO.same _ _ rfl|refine ⟨?_, ?_⟩|fail))⟩, ?_⟩
  rintro ⟨i, hi, ha⟩
  (try conv=>whnf);repeat' (first|(apply And.intro<;>try conv=>whnf)|(intro h;try conv=>whnf)|(apply infoT;rfl)|fail)
  · have hi' : i < l.length := by simpa using lt_dec h
    have hm : l[i]? = some l[i] := List.getElem?_eq_getElem hi'
    have hsi := hs _ (List.getElem_mem hi')
    refine ⟨_, _, rfl, idx_map hm, rfl, ?_⟩
    try conv=>whnf
    refine req1 m acts l[i] hsi _ _ ?_
    (try conv=>whnf);repeat' (first|(apply And.intro<;>try conv=>whnf)|(intro h;try conv=>whnf)|fail)
    · have e : l.any (badA acts) = true := any_at hi' h
      exact ⟨.pv (.int .i64 (i : Int)), 2, HDq m acts, (by refine Wk.of ?_ ?_ rfl rfl rfl<;>repeat' (first|exact trivial|exact WkD.same _|exact WkO.same _ _ rfl|refine ⟨?_, ?_⟩|fail)), hK i (by rw [e]; simp)⟩
    · exact ⟨⟨i + 1, hi', any_take hi' ha h⟩, by show l.length - (i + 1) < l.length - i; omega, (by refine Wk.of ?_ ?_ rfl rfl rfl<;>repeat' (first|exact trivial|exact WkD.same _|exact WkO.same _ _ rfl|refine WkD.int ?_|refine ⟨?_, ?_⟩|(refine wrapA ?_ ?_ ?_;(focus simp;done);(focus (try dsimp only);omega);(focus (try dsimp only);omega))|fail))⟩
  · have hi' : i = l.length := by have := ge_dec (m := (l.map Nd.pv).length) h (by simpa using hi); simpa using this
    subst hi'
    rw [List.take_length] at ha
    exact ⟨.pv (.int .i64 (-1)), 2, HDq m acts, (by refine Wk.of ?_ ?_ rfl rfl rfl<;>repeat' (first|exact trivial|exact WkD.same _|exact WkO.same _ _ rfl|refine ⟨?_, ?_⟩|fail)), hK (-1) (by rw [ha]; decide)⟩
theorem cont_N {M : Nat → Prop} {w0 : World} (m : Mo) (acts : List Act) (l : List Nd) (hl : l.length ≤ 1000) (hs : ∀ x, x ∈ l → x.op = 17 → 0 ≤ x.i) (base : Nat) (K : DV → DH → Prop) (hK : K (.pv (.bool (l.any (badA acts)))) ⟨2, 0, base, objsOf (HDq m acts)⟩) :
    DC Tryd.prog M w0 47 [.pv (fpv l), .clo 48 [] [.ref 1 0]] ⟨2, 0, base, objsOf (HDq m acts)⟩ K := by
  refine DC.intro mixed (fn := Tryd.f47) rfl rfl rfl ?_
  try conv=>whnf
  refine idx_N m acts l hl hs 2 _ fun r e => ?_
  rw [← e] at hK
  try conv=>whnf
  exact hK
theorem dy_Check (m : Mo) (acts : List Act) (hf : FitM m) (hS : ∀ a, a ∈ acts → SmA a) : PureFn Tryd.prog 28 [m.pv, actsPV acts] (.int .i64 (chkD m acts)) := by
  have e1 : ((m.val.map u64).length : Int) = (m.val.length : Int) := by simp
  have e2 : ((m.rel.map rowPV).length : Int) = (m.rel.length : Int) := by simp
  have e3 : ((acts.map Act.pv).length : Int) = (acts.length : Int) := by simp
  have hM := md_Check m hf
  refine PureFn.intro mixed (fn := Tryd.f28) rfl rfl rfl fun M w0 => ?_
  (try conv=>whnf);repeat' (first|(apply And.intro<;>try conv=>whnf)|(intro h;try conv=>whnf)|(refine PureFn.dcq (f := 42) rfl ?_;try conv=>whnf)|(refine ⟨_, _, hM, ?_, ?_⟩;(focus first|(refine ⟨?_, trivial⟩<;>first|exact PLe.refl _|exact PLe.nil)|exact trivial);try conv=>whnf)|fail)
  · refine le_int ?_
    rw [chkD, show (moI m != 0) = true from h]; rfl
  · rename_i h0
    refine le_int ?_
    rw [chkD, show (moI m != 0) = false from h0, ← e3, show decide (((acts.map Act.pv).length : Int) > 8) = true from h]; rfl
  rename_i h0
  have h8 := of_decide_eq_false h
  have hck : chkD m acts = actsI (m.rel.length : Int) (m.val.length : Int) acts := by
    rw [chkD, show (moI m != 0) = false from h0, ← e3, show decide (((acts.map Act.pv).length : Int) > 8) = false from h]; rfl
  rw [hck]
  clear hck h h0
  refine ⟨{ i : Nat // i ≤ acts.length ∧ actsI (m.rel.length : Int) (m.val.length : Int) (acts.drop i) = actsI (m.rel.length : Int) (m.val.length : Int) acts }, fun i => [(2, .ref 0 0), (17, .pv (actsPV acts)), (18, .pv (i64 (acts.map Act.pv).length)), (19, .pv (i64 i.1))], fun _ => 1, fun _ => HM m, fun i => acts.length - i.1, ⟨⟨0, Nat.zero_le _, rfl⟩, (by refine Wk.of ?_ ?_ rfl rfl rfl<;>repeat' (first|exact trivial|exact WkD.same _|exact WkO.same _ _ rfl|refine ⟨?_, ?_⟩|fail))⟩, ?_⟩
  rintro ⟨i, hi, hd⟩
  (try conv=>whnf);repeat' (first|(apply And.intro<;>try conv=>whnf)|(intro h;try conv=>whnf)|(apply infoT;rfl)|fail)
  · have hi' : i < acts.length := by simpa using lt_dec h
    obtain ⟨a, ha, had⟩ : ∃ a, acts[i]? = some a ∧ acts.drop i = a :: acts.drop (i + 1) := ⟨_, List.getElem?_eq_getElem hi', List.drop_eq_getElem_cons hi'⟩
    have hSa := hS a (List.mem_iff_getElem?.2 ⟨i, ha⟩)
    have hA := ac_Check a (m.rel.length : Int) (m.val.length : Int) hSa.fit hSa.rel hSa.post
    rw [← e1, ← e2] at hA
    rw [had, actsI] at hd
    refine ⟨_, _, rfl, idx_map ha, rfl, ?_⟩
    (try conv=>whnf);repeat' (first|(apply And.intro<;>try conv=>whnf)|(intro h;try conv=>whnf)|(refine PureFn.dcq (f := 43) rfl ?_;try conv=>whnf)|(refine ⟨_, _, hA, ?_, ?_⟩;(focus first|(refine ⟨?_, ?_, ?_, trivial⟩<;>first|exact PLe.refl _|exact PLe.nil)|exact trivial);try conv=>whnf)|fail)
    · refine le_int ?_
      rw [e1, e2] at h
      have h : (actI a (m.rel.length : Int) (m.val.length : Int) != 0) = true := h
      rw [h, cond_true] at hd
      rw [e1, e2]; exact hd
    · have h2 : (actI a (m.rel.length : Int) (m.val.length : Int) != 0) = false := by rw [← e1, ← e2]; exact h
      rw [h2, cond_false] at hd
      exact ⟨⟨i + 1, hi', hd⟩, by show acts.length - (i + 1) < acts.length - i; omega, (by refine Wk.of ?_ ?_ rfl rfl rfl<;>repeat' (first|exact trivial|exact WkD.same _|exact WkO.same _ _ rfl|refine WkD.int ?_|refine ⟨?_, ?_⟩|(refine wrapA ?_ ?_ ?_;(focus simp;done);(focus (try dsimp only);omega);(focus (try dsimp only);omega))|fail))⟩
  · have hi' : i = acts.length := by have := ge_dec (m := (acts.map Act.pv).length) h (by simpa using hi); simpa using this
    rw [hi', List.drop_length] at hd
    exact le_int hd
theorem dy_request (m : Mo) (acts : List Act) (f : List Nd) (hf : FitM m) (hS : ∀ a, a ∈ acts → SmA a) : PureFn Tryd.prog 34 [m.pv, actsPV acts, fpv f] (.int .i64 (reqD m acts f)) := by
  have e1 : ((m.val.map u64).length : Int) = (m.val.length : Int) := by simp
  have e2 : ((m.rel.map rowPV).length : Int) = (m.rel.length : Int) := by simp
  have hM := dy_Check m acts hf hS
  have hC := fm_Check f
  have hF := fm_Frags f
  have hT := fm_Fits f (m.rel.length : Int) (m.val.length : Int)
  rw [← e1, ← e2] at hT
  have hK := fm_Compact f
  refine PureFn.introC [4, 7] mixed (fn := Tryd.f34) rfl rfl rfl fun M w0 => ?_
  try conv=>whnf
  refine ⟨{ _x : Unit // chkD m acts = 0 }, fun _ => [(2, .pv (fpv f)), (3, .ref 0 0), (4, .ref 1 0)], fun _ => 2, fun _ => HDq m acts, ?_, ?_⟩
  · (try conv=>whnf);repeat' (first|(apply And.intro<;>try conv=>whnf)|(intro h;try conv=>whnf)|(refine PureFn.dcq (f := 28) rfl ?_;try conv=>whnf)|(refine ⟨_, _, hM, ?_, ?_⟩;(focus first|(refine ⟨?_, ?_, trivial⟩<;>first|exact PLe.refl _|exact PLe.nil)|exact trivial);try conv=>whnf)|fail)
    · refine le_int ?_
      rw [reqD, show (chkD m acts != 0) = true from h]; rfl
    · exact ⟨⟨(), by simpa using h⟩, (by refine Wk.of ?_ ?_ rfl rfl rfl<;>repeat' (first|exact trivial|exact WkD.same _|exact WkO.same _ _ rfl|refine ⟨?_, ?_⟩|fail))⟩
  rintro ⟨_, h0⟩
  refine ⟨{ _x : Unit // check f = 0 }, fun _ => [(2, .pv (fpv f)), (3, .ref 0 0), (4, .ref 1 0)], fun _ => 2, fun _ => HDq m acts, ?_, ?_⟩
  · (try conv=>whnf);repeat' (first|(apply And.intro<;>try conv=>whnf)|(intro h;try conv=>whnf)|(refine PureFn.dcq (f := 45) rfl ?_;try conv=>whnf)|(refine ⟨_, _, hC, ?_, ?_⟩;(focus first|(refine ⟨?_, trivial⟩<;>first|exact PLe.refl _|exact PLe.nil)|exact trivial);try conv=>whnf)|fail)
    · refine le_int ?_
      rw [reqD, h0, show (check f != 0) = true from h]; rfl
    · exact ⟨⟨(), by simpa using h⟩, (by refine Wk.of ?_ ?_ rfl rfl rfl<;>repeat' (first|exact trivial|exact WkD.same _|exact WkO.same _ _ rfl|refine ⟨?_, ?_⟩|fail))⟩
  rintro ⟨_, h1⟩
  have hcn := comp_can h1
  have hcl : (comp f).length ≤ 1000 := by have := hcn.len; omega
  have hci : ∀ x, x ∈ comp f → x.op = 17 → 0 ≤ x.i := fun x hx h17 => by
    obtain ⟨i, hi⟩ := List.mem_iff_getElem?.1 hx
    exact ((hcn.ok i x hi).act h17).1
  (try conv=>whnf);repeat' (first|(apply And.intro<;>try conv=>whnf)|(intro h;try conv=>whnf)|(refine PureFn.dcq (f := 10) rfl ?_;try conv=>whnf)|(refine PureFn.dcq (f := 46) rfl ?_;try conv=>whnf)|(refine PureFn.dcq (f := 35) rfl ?_;try conv=>whnf)|(refine ⟨_, _, hF, ?_, ?_⟩;(focus first|(refine ⟨?_, trivial⟩<;>first|exact PLe.refl _|exact PLe.nil)|exact trivial);try conv=>whnf)|(refine ⟨_, _, hT, ?_, ?_⟩;(focus first|(refine ⟨?_, ?_, ?_, trivial⟩<;>first|exact PLe.refl _|exact PLe.nil)|exact trivial);try conv=>whnf)|(refine ⟨_, _, hK, ?_, ?_⟩;(focus first|(refine ⟨?_, trivial⟩<;>first|exact PLe.refl _|exact PLe.nil)|exact trivial);try conv=>whnf)|fail)
  · have h2 : (nand64' (frags f : Nat) 207 != 0) = true := h
    refine le_int ?_
    rw [reqD, h0, h1, h2]; rfl
  · rename_i h2
    have h2 : (nand64' (frags f : Nat) 207 != 0) = false := h2
    have h3 : (!fits f (m.rel.length : Int) (m.val.length : Int)) = true := by rw [← e1, ← e2]; exact h
    refine le_int ?_
    rw [reqD, h0, h1, h2, h3]; rfl
  · rename_i h2
    have h2 : (nand64' (frags f : Nat) 207 != 0) = false := h2
    have h3 : (!fits f (m.rel.length : Int) (m.val.length : Int)) = false := by rw [← e1, ← e2]; exact h
    have hr : reqD m acts f = bif (comp f).any (badA acts) then 6 else 0 := by rw [reqD, h0, h1, h2, h3]; rfl
    rw [hr]
    clear h
    refine cont_N m acts (comp f) hcl hci _ _ ?_
    (try conv=>whnf);repeat' (first|(apply And.intro<;>try conv=>whnf)|(intro h;try conv=>whnf)|fail)
    · rw [show (comp f).any (badA acts) = true from h]; exact .refl _
    · rw [show (comp f).any (badA acts) = false from h]; exact .refl _
end Go.Proofs.YtlaolpkgabknfaaDoor
set_option maxRecDepth 100000
set_option maxHeartbeats 8000000
namespace Go.Proofs.YtlaolpkgabknfaaDoor
open Go Go.Dv

def badSt (acts : List Act) (xa xe : Int) : Bool := bif (bif (bif decide (xa < 0) then true else decide (xa ≥ (acts.length : Int))) then true else decide (xe < 0)) then true else decide (xe ≥ ((acts.getD xa.toNat noAct).pre.length : Int))
def stepI (acts : List Act) (m : Mo) (w xa xe : Int) : Mo × Int × Int :=
  bif badSt acts xa xe then (noMo, 0, 6) else
  bif !(atCI m w ((acts.getD xa.toNat noAct).pre.getD xe.toNat [])).1 then (noMo, 0, 11) else
  bif (updI m (acts.getD xa.toNat noAct)).2.2 != 0 then (noMo, 0, (updI m (acts.getD xa.toNat noAct)).2.2) else
  ((updI m (acts.getD xa.toNat noAct)).1, ixP (updI m (acts.getD xa.toNat noAct)).2.1 w xe, 0)
theorem dy_step (m : Mo) (acts : List Act) (w xa xe : Int) (hf : FitM m) (hS : ∀ a, a ∈ acts → SmA a) : PureFn Tryd.prog 41 [m.pv, actsPV acts, .int .i64 w, .agg [.int .i64 xa, .int .i64 xe]] (atPV (stepI acts m w xa xe)) := by
  have e1 : ((acts.map Act.pv).length : Int) = (acts.length : Int) := by simp
  refine PureFn.introC [3, 7] mixed (fn := Tryd.f41) rfl rfl rfl fun M w0 => ?_
  try conv=>whnf
  refine ⟨{ _x : Unit // badSt acts xa xe = false }, fun _ => [(1, .pv (actsPV acts)), (2, .pv (.int .i64 w)), (4, .ref 0 0), (7, .ref 1 0), (8, .ref 2 0)], fun _ => 3, fun _ => [(0, .var (cellsM m)), (1, .var [.pv (.int .i64 xa), .pv (.int .i64 xe)]), (2, .var [.pv (.int .i64 0), .pv .nil, .pv .nil])], ?_, ?_⟩
  · have hno : badSt acts xa xe = true → PLe (.tup [.agg [.int .i64 0, .nil, .nil], .int .i64 0, .int .i64 6]) (atPV (stepI acts m w xa xe)) := fun hb => by
      rw [stepI, hb]
      exact PLe.tups ⟨le_noMo, .refl _, .refl _, trivial⟩
    cases h1 : decide (xa < 0) with
    | true =>
      have hb : badSt acts xa xe = true := by rw [badSt, h1]; rfl
      have f1 : (!decide (xa < 0)) = false := by rw [h1]; rfl
      have f2 : (!(bif decide (xa < 0) then true else false)) = false := by rw [h1]; rfl
      have f3 : (!(bif (bif decide (xa < 0) then true else false) then true else false)) = false := by rw [h1]; rfl
      have f4 : (bif (bif (bif decide (xa < 0) then true else false) then true else false) then true else false) = true := by rw [h1]; rfl
      (try conv=>whnf);repeat' (first|(apply And.intro<;>try conv=>whnf)|(intro h;first|with_reducible exact tf (by assumption) h|try conv=>whnf)|(apply whenOff;(focus with_reducible assumption);try conv=>whnf)|(apply not_of;with_reducible assumption)|(refine lin_plan (by kernel_rfl) ?_;try conv=>whnf)|fail)
      exact hno hb
    | false =>
      cases h2 : decide (xa ≥ ((acts.map Act.pv).length : Int)) with
      | true =>
        have hb : badSt acts xa xe = true := by rw [badSt, h1, ← e1, h2]; rfl
        have f2 : (!(bif decide (xa < 0) then true else decide (xa ≥ ((acts.map Act.pv).length : Int)))) = false := by rw [h1, h2]; rfl
        have f3 : (!(bif (bif decide (xa < 0) then true else decide (xa ≥ ((acts.map Act.pv).length : Int))) then true else false)) = false := by rw [h1, h2]; rfl
        have f4 : (bif (bif (bif decide (xa < 0) then true else decide (xa ≥ ((acts.map Act.pv).length : Int))) then true else false) then true else false) = true := by rw [h1, h2]; rfl
        (try conv=>whnf);repeat' (first|(apply And.intro<;>try conv=>whnf)|(intro h;first|with_reducible exact tf (by assumption) h|try conv=>whnf)|apply True.intro|(apply whenOff;(focus with_reducible assumption);try conv=>whnf)|(apply WhenQ.mk;(try conv=>whnf);rotate_left;(try conv=>whnf);rotate_right)|with_reducible assumption|(apply not_of;with_reducible assumption)|(refine lin_plan (by kernel_rfl) ?_;try conv=>whnf)|fail)
        exact hno hb
      | false =>
        have g1 := of_decide_eq_false h1
        have g2 := of_decide_eq_false h2
        rw [e1] at g2
        obtain ⟨q, eq⟩ : ∃ q : Nat, xa = q := ⟨xa.toNat, by omega⟩
        subst eq
        obtain ⟨a, ha, had⟩ : ∃ a, acts[q]? = some a ∧ acts.getD q noAct = a := ⟨_, getD_mem (by omega), rfl⟩
        cases h3 : decide (xe < 0) with
        | true =>
          have hb : badSt acts (q : Int) xe = true := by rw [badSt, h1, ← e1, h2, h3]; rfl
          have f3 : (!(bif (bif decide ((q : Int) < 0) then true else decide ((q : Int) ≥ ((acts.map Act.pv).length : Int))) then true else decide (xe < 0))) = false := by rw [h1, h2, h3]; rfl
          have f4 : (bif (bif (bif decide ((q : Int) < 0) then true else decide ((q : Int) ≥ ((acts.map Act.pv).length : Int))) then true else decide (xe < 0)) then true else false) = true := by rw [h1, h2, h3]; rfl
          (try conv=>whnf);repeat' (first|(apply And.intro<;>try conv=>whnf)|(intro h;first|with_reducible exact tf (by assumption) h|try conv=>whnf)|apply True.intro|(apply whenOff;(focus with_reducible assumption);try conv=>whnf)|(apply WhenQ.mk;(try conv=>whnf);rotate_left;(try conv=>whnf);rotate_right)|with_reducible assumption|(apply not_of;with_reducible assumption)|(refine lin_plan (by kernel_rfl) ?_;try conv=>whnf)|fail)
          exact hno hb
        | false =>
          have hbe : badSt acts (q : Int) xe = decide (xe ≥ ((a.pre.map fpv).length : Int)) := by rw [badSt, h1, ← e1, h2, h3, Int.toNat_natCast, had, List.length_map]; rfl
          have hk : ∀ b, (bif (bif (bif decide ((q : Int) < 0) then true else decide ((q : Int) ≥ ((acts.map Act.pv).length : Int))) then true else decide (xe < 0)) then true else decide (xe ≥ ((a.pre.map fpv).length : Int))) = b → badSt acts (q : Int) xe = b := fun b h => by
            rw [h1, h2, h3] at h; rw [hbe]; exact h
          (try conv=>whnf);repeat' (first|(apply And.intro<;>try conv=>whnf)|(intro h;try conv=>whnf)|apply True.intro|(apply infoT;rfl)|(apply WhenQ.mk;(try conv=>whnf);rotate_left;(try conv=>whnf);rotate_right)|with_reducible assumption|(apply not_of;with_reducible assumption)|(refine lin_plan (by kernel_rfl) ?_;try conv=>whnf)|(refine ⟨_, _, rfl, idx_map (by with_reducible assumption), rfl, ?_⟩;try conv=>whnf)|fail)
          · exact hno (hk true h)
          · have hb := hk false h
            exact ⟨⟨(), hb⟩, (by refine Wk.of ?_ ?_ rfl rfl rfl<;>repeat' (first|exact trivial|exact WkD.same _|exact WkO.same _ _ rfl|refine ⟨?_, ?_⟩|fail))⟩
  rintro ⟨_, hb⟩
  have hrng : 0 ≤ xa ∧ xa < (acts.length : Int) ∧ 0 ≤ xe ∧ xe < ((acts.getD xa.toNat noAct).pre.length : Int) := by
    unfold badSt at hb
    cases h1 : decide (xa < 0) with
    | true => rw [h1] at hb; cases hb
    | false =>
      cases h2 : decide (xa ≥ (acts.length : Int)) with
      | true => rw [h1, h2] at hb; cases hb
      | false =>
        cases h3 : decide (xe < 0) with
        | true => rw [h1, h2, h3] at hb; cases hb
        | false =>
          rw [h1, h2, h3] at hb
          have g1 := of_decide_eq_false h1
          have g2 := of_decide_eq_false h2
          have g3 := of_decide_eq_false h3
          have g4 := of_decide_eq_false (show decide (xe ≥ _) = false from hb)
          exact ⟨by omega, by omega, by omega, by omega⟩
  obtain ⟨q, eq⟩ : ∃ q : Nat, xa = q := ⟨xa.toNat, by omega⟩
  obtain ⟨d, ed⟩ : ∃ d : Nat, xe = d := ⟨xe.toNat, by omega⟩
  subst eq
  subst ed
  rw [Int.toNat_natCast] at hrng
  obtain ⟨a, ha, had⟩ : ∃ a, acts[q]? = some a ∧ acts.getD q noAct = a := ⟨_, getD_mem (by omega), rfl⟩
  rw [had] at hrng
  obtain ⟨pre, hx, hpd⟩ : ∃ pre, a.pre[d]? = some pre ∧ a.pre.getD d [] = pre := ⟨_, getD_mem (by omega), rfl⟩
  have hSa := hS a (List.mem_iff_getElem?.2 ⟨q, ha⟩)
  have hA := ck_At m w pre hf
  have hU := pr_Update m a hf hSa.fit hSa.rel hSa.post
  have hul := updI_len m a
  have hst : stepI acts m w (q : Int) (d : Int) = bif !(atCI m w pre).1 then (noMo, 0, 11) else bif (updI m a).2.2 != 0 then (noMo, 0, (updI m a).2.2) else ((updI m a).1, ixP (updI m a).2.1 w (d : Int), 0) := by
    rw [stepI, hb, Int.toNat_natCast, Int.toNat_natCast, had, hpd]; rfl
  rw [hst]
  generalize atCI m w pre = X at hA ⊢
  obtain ⟨ok, oe⟩ := X
  generalize updI m a = Y at hU hul ⊢
  obtain ⟨m1, ps, er⟩ := Y
  have hI := sl_IndexP ps w (d : Int) (by have : ps.length ≤ 64 := hul; omega)
  (try conv=>whnf);repeat' (first|(apply And.intro<;>try conv=>whnf)|(apply infoT;rfl)|(refine ⟨_, _, rfl, idx_map (by with_reducible assumption), rfl, ?_⟩;try conv=>whnf)|fail)
  refine ⟨{ _x : Unit // ok = true }, fun _ => [(2, .pv (.int .i64 w)), (4, .ref 0 0), (7, .ref 1 0), (8, .ref 2 0), (11, .ref 3 0)], fun _ => 4, fun _ => [(0, .var (cellsM m)), (1, .var [.pv (.int .i64 (q : Int)), .pv (.int .i64 (d : Int))]), (2, .var [.pv (.int .i64 0), .pv .nil, .pv .nil]), (3, .var (actDV a))], ?_, ?_⟩
  · (try conv=>whnf);repeat' (first|(apply And.intro<;>try conv=>whnf)|(intro h;try conv=>whnf)|(apply infoT;rfl)|(refine lin_plan (by kernel_rfl) ?_;try conv=>whnf)|(refine ⟨_, _, rfl, idx_map (by with_reducible assumption), rfl, ?_⟩;try conv=>whnf)|(refine ⟨_, (by (conv=>whnf);exact hA), rfl, ?_⟩;try conv=>whnf)|fail)
    · have hn : ok = false := by simpa using h
      subst hn
      exact PLe.tups ⟨le_noMo, .refl _, .refl _, trivial⟩
    · have hn : ok = true := by simpa using h
      exact ⟨⟨(), hn⟩, (by refine Wk.of ?_ ?_ rfl rfl rfl<;>repeat' (first|exact trivial|exact WkD.same _|exact WkO.same _ _ rfl|refine ⟨?_, ?_⟩|fail))⟩
  rintro ⟨_, hok⟩
  subst hok
  (try conv=>whnf);repeat' (first|(apply And.intro<;>try conv=>whnf)|(intro h;try conv=>whnf)|(refine lin_plan (by kernel_rfl) ?_;try conv=>whnf)|(refine PureFn.dcq (f := 57) rfl ?_;try conv=>whnf)|(refine ⟨_, _, hU, ?_, ?_⟩;(focus first|(refine ⟨?_, ?_, trivial⟩<;>first|exact PLe.refl _|exact PLe.nil)|exact trivial);try conv=>whnf)|(refine ⟨_, (by (conv=>whnf);exact hI), rfl, ?_⟩;try conv=>whnf)|fail)
  · rw [show (((m1, ps, er) : Mo × List (Nat × Nat) × Int).2.2 != 0) = true from h]
    exact PLe.tups ⟨le_noMo, .refl _, .refl _, trivial⟩
  rw [show (((m1, ps, er) : Mo × List (Nat × Nat) × Int).2.2 != 0) = false from h]
  exact PLe.tups ⟨.refl _, .refl _, .refl _, trivial⟩
end Go.Proofs.YtlaolpkgabknfaaDoor
set_option maxRecDepth 100000
set_option maxHeartbeats 8000000
namespace Go.Proofs.YtlaolpkgabknfaaDoor
open Go Go.Dv

theorem frag207 : ∀ op : Nat, op < 22 → (frag (op : Int)).toNat &&& 207 = (frag (op : Int)).toNat → op ≤ 13 ∨ op = 16 ∨ op = 17 := by decide
theorem cxd_of {m : Mo} {acts : List Act} {f : List Nd} (h : reqD m acts f = 0) : CxD m.rel.length m.val.length acts (comp f) := by
  obtain ⟨h1, h2, h3⟩ := reqD_iff.1 h
  obtain ⟨n, hD, h8⟩ := chkD_ok h1
  have hA := hD.okm.ag
  have hc := comp_can h2
  have key : ∀ x, x ∈ comp f → (∃ k : Int, OkNd x k) ∧ fragN x &&& 207 = fragN x ∧ agN x < 2 ^ m.rel.length ∧ factN x < 2 ^ m.val.length ∧ badA acts x = false := fun x hx => by
    have := h3 x hx
    simp only [ndQ, Bool.and_eq_true, decide_eq_true_eq] at this
    obtain ⟨i, hi⟩ := List.mem_iff_getElem?.1 hx
    exact ⟨⟨_, hc.ok i x hi⟩, this.1.1.1, this.1.1.2, this.1.2, (Bool.not_eq_true' _).mp this.2⟩
  refine ⟨hc.ok, by have := hc.len; omega, fun x hx => ?_, fun x hx h3 => ?_, fun x hx h9 => ?_, fun x hx hg => ?_, fun x hx h17 => ?_⟩
  · obtain ⟨⟨k, ok⟩, q1, _⟩ := key x hx
    have ho := ok.op
    have := frag207 x.op.toNat (by omega)
    rw [show ((x.op.toNat : Nat) : Int) = x.op by omega] at this
    have := this q1
    omega
  · obtain ⟨⟨k, ok⟩, _, _, q3, _⟩ := key x hx
    have hf := ok.fact h3
    rw [factN, show (x.op == 3) = true by simpa using h3] at q3
    have := (Nat.pow_lt_pow_iff_right (by decide : 1 < 2)).1 (show 2 ^ x.i.toNat < 2 ^ m.val.length from q3)
    omega
  · obtain ⟨⟨k, ok⟩, _, q2, _⟩ := key x hx
    have hia : isAgent x.op = true := by rcases h9 with e | e <;> rw [e] <;> rfl
    have ha := ok.agent hia
    rw [agN, hia] at q2
    have := (Nat.pow_lt_pow_iff_right (by decide : 1 < 2)).1 (show 2 ^ x.i.toNat < 2 ^ m.rel.length from q2)
    omega
  · obtain ⟨⟨k, ok⟩, _, q2, _⟩ := key x hx
    have hia : isAgent x.op = false := by rcases hg with e | e | e <;> rw [e] <;> rfl
    have hig : isGroup x.op = true := by rcases hg with e | e | e <;> rw [e] <;> rfl
    have hgr := ok.group hig
    rw [agN, hia] at q2
    have q2 : x.g.toNat < 2 ^ m.rel.length := q2
    rw [shl_n hA]
    omega
  · obtain ⟨⟨k, ok⟩, _, _, _, q4⟩ := key x hx
    have ha := ok.act h17
    unfold badA at q4
    rw [show (x.op == 17) = true by simpa using h17, cond_true] at q4
    cases hb : decide (x.i ≥ (acts.length : Int)) with
    | true => rw [hb] at q4; cases q4
    | false =>
      rw [hb, cond_false] at q4
      have g1 := of_decide_eq_false hb
      have g2 := of_decide_eq_false q4
      exact ⟨ha.1, by omega, ha.2.2.1, by omega⟩
/-- The evaluation of a node, its objects at other keys. -/
theorem at_R3 {acts : List Act} {c : List Nd} {A F j k e z : Nat} (h : ConE 37 (.pv (.int .i64 (j : Nat))) acts c A F j) {m : Mo} {n : Nat} {err : Int} (hM : ModD acts m n A F) (hE : err = 0 ∨ err = 8)
    {M : Nat → Prop} {w0 : World} {L : DH} {K : DV → DH → Prop} (hne : nodR [z, e, k] = true) (hlt : ([z, e, k].all fun q => Nat.blt q L.next) = true) (h0 : L.lo = 0)
    (hag : agrR (objsOf (H0 m acts c [] err)) L.get [z, e, k] 3) (hks : DV.keyss (memR [z, e, k]) [.ref e 0, .pv (.int .i64 (j : Nat))] = true) (hre : DV.rens (sigR [z, e, k]) [.ref e 0, .pv (.int .i64 (j : Nat))] = [.ref 1 0, .pv (.int .i64 (j : Nat))])
    (hK : ∀ s es' err', PostE acts c m n j err s es' err' → K (.pv (u64 s)) (L.mergeR (rhoR [z, e, k]) (sigR [z, e, k]) (memR [z, e, k]) ⟨3, 0, 3, objsOf (H0 m acts c es' err')⟩)) : DC Tryd.prog M w0 37 [.ref e 0, .pv (.int .i64 (j : Nat))] L K := by
  refine DC.callR [z, e, k] (H0 m acts c [] err) hne hlt h0 hag rfl hks (by rw [hre]; rfl) fun M' => ?_
  rw [hre]
  exact h m n [] err hM (fun k s h => by cases h) hE M' w0 3 _ fun s es' err' hp => ⟨rfl, hK s es' err' hp⟩
theorem at_R3v {acts : List Act} {c : List Nd} {A F j : Nat} (k e z : Nat) {v : Int} (h : ConE 37 (.pv (.int .i64 (j : Nat))) acts c A F j) (hv : v = (j : Int)) {m : Mo} {n : Nat} {err : Int} (hM : ModD acts m n A F) (hE : err = 0 ∨ err = 8)
    {M : Nat → Prop} {w0 : World} {L : DH} {K : DV → DH → Prop} (hne : nodR [z, e, k] = true) (hlt : ([z, e, k].all fun q => Nat.blt q L.next) = true) (h0 : L.lo = 0)
    (hag : agrR (objsOf (H0 m acts c [] err)) L.get [z, e, k] 3) (hks : DV.keyss (memR [z, e, k]) [.ref e 0, .pv (.int .i64 (j : Nat))] = true) (hre : DV.rens (sigR [z, e, k]) [.ref e 0, .pv (.int .i64 (j : Nat))] = [.ref 1 0, .pv (.int .i64 (j : Nat))])
    (hK : ∀ s es' err', PostE acts c m n j err s es' err' → K (.pv (u64 s)) (L.mergeR (rhoR [z, e, k]) (sigR [z, e, k]) (memR [z, e, k]) ⟨3, 0, 3, objsOf (H0 m acts c es' err')⟩)) : DC Tryd.prog M w0 37 [.ref e 0, .pv (.int .i64 v)] L K := by
  subst hv
  exact at_R3 h hM hE hne hlt h0 hag hks hre hK
def evZ (z k : Nat) (m : Mo) (acts : List Act) (c : List Nd) : List DV := [.pv (.int .i64 m.n), .pv (.sl (m.val.map u64)), .pv (.sl (m.rel.map rowPV)), .pv (u64 (2 ^ m.n.toNat - 1)), .pv (actsPV acts), .pv (fpv c), .mp k, .ref z 0]
def dynPV (x : Nat × Int) : PV := .tup [u64 x.1, .int .i64 x.2]
def holPlan : Plan := .one 0 (.one 1 (.one 2 (.one 3 (.one 5 (.one 4 (.one 6 (.one 7 .done)))))))
theorem dy_Holds (m : Mo) (acts : List Act) (f : List Nd) (hf : FitM m) (hS : ∀ a, a ∈ acts → SmA a) : PureFn Tryd.prog 12 [m.pv, actsPV acts, fpv f] (dynPV (dynI m acts f)) := by
  have hQ := dy_request m acts f hf hS
  have hK := fm_Compact f
  refine PureFn.introC [5, 6] mixed (fn := Tryd.f12) rfl rfl rfl fun M w0 => ?_
  (try conv=>whnf);repeat' (first|(apply And.intro<;>try conv=>whnf)|(intro h;try conv=>whnf)|(refine PureFn.dcq (f := 34) rfl ?_;try conv=>whnf)|(refine ⟨_, _, hQ, ?_, ?_⟩;(focus first|(refine ⟨?_, ?_, ?_, trivial⟩<;>first|exact PLe.refl _|exact PLe.nil)|exact trivial);try conv=>whnf)|fail)
  · have h0 : (reqD m acts f != 0) = true := h
    rw [show dynI m acts f = (0, reqD m acts f) by rw [dynI, h0]; rfl]
    exact .refl _
  have h0 : (reqD m acts f != 0) = false := h
  have h00 : reqD m acts f = 0 := by simpa using h0
  have hdy : dynI m acts f = match dvT acts (root f) m with
      | none => (0, 8)
      | some s => (s, 0) := by
    rw [dynI, h0, cond_false]
    cases dvT acts (root f) m <;> rfl
  have hC := cxd_of h00
  obtain ⟨h1, h2, _⟩ := reqD_iff.1 h00
  obtain ⟨n, hD, h8⟩ := chkD_ok h1
  have hcc := comp_can h2
  have hpos := hcc.pos
  have hlen := hcc.len
  have hn1 := hD.okm.n1
  have hn64 := hD.okm.n64
  have hnn : m.n.toNat = n := by rw [hD.okm.nn, Int.toNat_natCast]
  have hroot : tree (comp f) ((comp f).length - 1) = root f := by rw [← root_comp h2]; rfl
  have hat := at_all hC hS (comp f).length ((comp f).length - 1) (by omega) (by omega)
  have hMD : ModD acts m n m.rel.length m.val.length := ⟨hD, rfl, rfl⟩
  refine ⟨Unit, fun _ => [(1, .pv (actsPV acts)), (2, .pv (fpv f)), (3, .ref 0 0), (9, .ref 1 0)], fun _ => 2, fun _ => [(0, .var (cellsM m)), (1, .var [.pv (.int .i64 0)])], ?_, ?_⟩
  · try conv=>whnf
    exact ⟨(), (by refine Wk.of ?_ ?_ rfl rfl rfl<;>repeat' (first|exact trivial|exact WkD.same _|exact WkO.same _ _ rfl|refine ⟨?_, ?_⟩|fail))⟩
  rintro ⟨⟩
  refine ⟨Unit, fun _ => [(9, .ref 1 0), (10, .ref 5 0)], fun _ => 6, fun _ => [(1, .var [.pv (.int .i64 0)]), (4, .mp []), (5, .var (evZ 1 4 m acts (comp f)))], ?_, ?_⟩
  · try conv=>whnf
    refine ⟨holPlan, [6], by kernel_rfl, ?_⟩
    (try conv=>whnf);repeat' (first|(refine ⟨_, (by (conv=>whnf);exact hK), rfl, ?_⟩;try conv=>whnf)|fail)
    refine DC.weaken (DC.intro mixed (fn := Tryd.f36) rfl rfl rfl ?_)
    try conv=>whnf
    refine ⟨inPlan, [], by kernel_rfl, ?_⟩
    (try conv=>whnf);repeat' (first|(apply And.intro<;>try conv=>whnf)|fail)
    · show (0 : Int) ≤ IntKind.wrap .i64 (64 - m.n)
      rw [in_wrap hD.okm.nn hn1 hn64]; omega
    refine ⟨.ref 5 0, 6, [(1, .var [.pv (.int .i64 0)]), (4, .mp []), (5, .var (evZ 1 4 m acts (comp f)))], ?_, ?_⟩
    · refine Wk.of ⟨WkD.same _, trivial⟩ ⟨WkO.same _ _ rfl, trivial, WkO.same _ _ rfl, trivial, WkO.vars rfl ⟨WkD.same _, WkD.same _, WkD.same _, WkD.int ?_, WkD.same _, WkD.same _, WkD.same _, WkD.same _, trivial⟩, trivial, trivial⟩ rfl rfl rfl
      show shrU 18446744073709551615 (IntKind.wrap .i64 (64 - m.n)) = _
      rw [in_wrap hD.okm.nn hn1 hn64, hnn]; exact shr_all hn1 hn64
    try conv=>whnf
    exact ⟨(), (by refine Wk.of ?_ ?_ rfl rfl rfl<;>repeat' (first|exact trivial|exact WkD.same _|exact WkO.same _ _ rfl|refine ⟨?_, ?_⟩|fail))⟩
  rintro ⟨⟩
  try conv=>whnf
  have hw : IntKind.wrap .i64 ((((comp f).map Nd.pv).length : Int) - 1) = (((comp f).length - 1 : Nat) : Int) := by
    rw [List.length_map, Go.Dv.wrap_small (by omega) (by omega)]; omega
  refine at_R3v 4 5 1 hat hw hMD (.inl rfl) rfl rfl rfl ⟨⟨rfl, rfl⟩, ⟨rfl, rfl⟩, ⟨rfl, rfl⟩, trivial⟩ rfl rfl fun s es1 err1 p => ?_
  (try conv=>whnf);repeat' (first|(apply And.intro<;>try conv=>whnf)|(intro h;try conv=>whnf)|(refine lin_plan (by kernel_rfl) ?_;try conv=>whnf)|fail)
  · have he : err1 ≠ 0 := by simpa using h
    have hn : dvT acts (root f) m = none := by
      rcases p.no he with h | h
      · exact absurd rfl h
      · rw [hroot] at h; exact h
    have h8 : err1 = 8 := by rcases p.er with h | h; exact absurd h he; exact h
    rw [hdy, hn, h8]; exact .refl _
  · have he : err1 = 0 := by simpa using h
    obtain ⟨_, hs⟩ := p.ok he
    rw [hroot] at hs
    rw [hdy, hs]; exact .refl _
end Go.Proofs.YtlaolpkgabknfaaDoor
set_option maxRecDepth 100000
set_option maxHeartbeats 8000000
namespace Go.Proofs.YtlaolpkgabknfaaDoor
open Go Go.Dv

theorem memL_all {n : Nat} (hn : n ≤ 64) : memL (2 ^ n - 1) = List.range n := by
  rw [memL_range (pow_less n) hn]
  exact List.filter_eq_self.2 fun i hi => all_bit (List.mem_range.1 hi)
/-- All worlds of a model are the model. -/
theorem arr_all {m : Mo} {n : Nat} (hM : OkM m n) : arrI m (memL (2 ^ n - 1)) = m := by
  have hp : ∀ s, s < 2 ^ n → pullN s (List.range n) = s := fun s hs => by
    rw [pullN, List.length_range]
    have e : maskOf (fun i => s.testBit ((List.range n).getD i 0)) n = maskOf s.testBit n := maskOf_congr fun i hi => by
      show s.testBit ((List.range n).getD i 0) = s.testBit i
      rw [List.getD_eq_getElem?_getD, List.getElem?_range hi]; rfl
    rw [e]; exact maskOf_self hs
  rw [memL_all hM.n64]
  obtain ⟨mn, val, rel⟩ := m
  have e0 : mn = (n : Int) := hM.nn
  rw [arrI, List.length_range]
  show Mo.mk _ (val.map _) (rel.map _) = _
  rw [e0]
  congr 1
  · refine (List.map_congr_left fun s hs => hp s (hM.vbits s hs)).trans ?_
    exact List.map_id' _
  · refine (List.map_congr_left (g := id) fun r hr => ?_).trans (List.map_id _)
    have hl : r.length = n := hM.rows r hr
    apply List.ext_getElem (by simp [hl])
    intro i h1 h2
    have hi : i < n := by simpa using h1
    rw [List.getElem_map, List.getElem_range]
    show pullN (r.getD i 0) (List.range n) = r[i]
    rw [List.getD_eq_getElem?_getD, List.getElem?_eq_getElem (show i < r.length from h2)]
    exact hp _ (hM.bits r hr _ (List.getElem_mem h2))
def runL (acts : List Act) : Mo → Int → List (Int × Int) → Int → Mo × Int × Int × Int
  | m, w, [], i => (m, w, i, 0)
  | m, w, x :: r, i => bif (stepI acts m w x.1 x.2).2.2 != 0 then (noMo, 0, i, (stepI acts m w x.1 x.2).2.2) else runL acts (stepI acts m w x.1 x.2).1 (stepI acts m w x.1 x.2).2.1 r (i + 1)
def runI (m : Mo) (acts : List Act) (w : Int) (steps : List (Int × Int)) : Mo × Int × Int × Int :=
  bif chkD m acts != 0 then (noMo, 0, 0, chkD m acts) else bif badW m w then (noMo, 0, 0, 2) else runL acts m w steps 0
def stepPV (x : Int × Int) : PV := .agg [.int .i64 x.1, .int .i64 x.2]
def runPV (x : Mo × Int × Int × Int) : PV := .tup [x.1.pv, .int .i64 x.2.1, .int .i64 x.2.2.1, .int .i64 x.2.2.2]
theorem le_run (a b c : Int) : PLe (.tup [.agg [.int .i64 0, .nil, .nil], .int .i64 a, .int .i64 b, .int .i64 c]) (runPV (noMo, a, b, c)) := PLe.tups ⟨le_noMo, .refl _, .refl _, .refl _, trivial⟩
theorem step_ok {acts : List Act} {m : Mo} {w xa xe : Int} (h : (stepI acts m w xa xe).2.2 = 0) : badSt acts xa xe = false ∧ (updI m (acts.getD xa.toNat noAct)).2.2 = 0 ∧ stepI acts m w xa xe = ((updI m (acts.getD xa.toNat noAct)).1, ixP (updI m (acts.getD xa.toNat noAct)).2.1 w xe, 0) ∧
    (atCI m w ((acts.getD xa.toNat noAct).pre.getD xe.toNat [])).1 = true := by
  unfold stepI at h ⊢
  cases h1 : badSt acts xa xe with
  | true => rw [h1] at h; cases h
  | false =>
    rw [h1, cond_false] at h
    cases h2 : (atCI m w ((acts.getD xa.toNat noAct).pre.getD xe.toNat [])).1 with
    | false => rw [h2] at h; cases h
    | true =>
      rw [h2] at h
      simp only [Bool.not_true, cond_false] at h
      cases h3 : ((updI m (acts.getD xa.toNat noAct)).2.2 != 0) with
      | true => rw [h3] at h; simp only [cond_true] at h; rw [h] at h3; cases h3
      | false => exact ⟨rfl, by simpa using h3, rfl, rfl⟩
theorem step_okD {acts : List Act} {m : Mo} {n : Nat} {w xa xe : Int} (hD : OkD acts m n) (h : (stepI acts m w xa xe).2.2 = 0) : ∃ k, OkD acts (stepI acts m w xa xe).1 k := by
  obtain ⟨_, h2, h3, _⟩ := step_ok h
  rw [h3]
  exact ⟨_, (hD.upd h2).1⟩
theorem dy_Run (m : Mo) (acts : List Act) (w : Int) (steps : List (Int × Int)) (hf : FitM m) (hS : ∀ a, a ∈ acts → SmA a) (hl : steps.length ≤ 1000) : PureFn Tryd.prog 16 [m.pv, actsPV acts, .int .i64 w, .sl (steps.map stepPV)] (runPV (runI m acts w steps)) := by
  have hQ := dy_Check m acts hf hS
  refine PureFn.introC [4, 6, 7] mixed (fn := Tryd.f16) rfl rfl rfl fun M w0 => ?_
  try conv=>whnf
  refine ⟨{ _x : Unit // chkD m acts = 0 }, fun _ => [(1, .pv (actsPV acts)), (2, .pv (.int .i64 w)), (3, .pv (.sl (steps.map stepPV))), (4, .ref 0 0), (8, .ref 1 0)], fun _ => 2, fun _ => [(0, .var (cellsM m)), (1, .var [.pv (.int .i64 0), .pv .nil, .pv .nil])], ?_, ?_⟩
  · (try conv=>whnf);repeat' (first|(apply And.intro<;>try conv=>whnf)|(intro h;try conv=>whnf)|(refine PureFn.dcq (f := 28) rfl ?_;try conv=>whnf)|(refine ⟨_, _, hQ, ?_, ?_⟩;(focus first|(refine ⟨?_, ?_, trivial⟩<;>first|exact PLe.refl _|exact PLe.nil)|exact trivial);try conv=>whnf)|fail)
    · rw [runI, show (chkD m acts != 0) = true from h]; exact le_run _ _ _
    · exact ⟨⟨(), by simpa using h⟩, (by refine Wk.of ?_ ?_ rfl rfl rfl<;>repeat' (first|exact trivial|exact WkD.same _|exact WkO.same _ _ rfl|refine ⟨?_, ?_⟩|fail))⟩
  rintro ⟨_, h0⟩
  obtain ⟨n, hD, _⟩ := chkD_ok h0
  have hn1 := hD.okm.n1
  have hn64 := hD.okm.n64
  have hR := md_Restrict m n (2 ^ n - 1) hD.okm (pow_less n) (by have := Nat.pow_le_pow_right (show 1 ≤ 2 by decide) hn1; omega)
  rw [arr_all hD.okm] at hR
  have hsh : shrU 18446744073709551615 (IntKind.wrap .i64 (64 - m.n)) = ((2 ^ n - 1 : Nat) : Int) := by rw [in_wrap hD.okm.nn hn1 hn64]; exact shr_all hn1 hn64
  rw [show u64 (2 ^ n - 1) = .int .u64 (shrU 18446744073709551615 (IntKind.wrap .i64 (64 - m.n))) by rw [hsh]; rfl] at hR
  refine ⟨{ _x : Unit // badW m w = false }, fun _ => [(1, .pv (actsPV acts)), (2, .pv (.int .i64 w)), (3, .pv (.sl (steps.map stepPV))), (4, .ref 0 0), (8, .ref 1 0)], fun _ => 2, fun _ => [(0, .var (cellsM m)), (1, .var [.pv (.int .i64 0), .pv .nil, .pv .nil])], ?_, ?_⟩
  · (try conv=>whnf);repeat' (first|(apply And.intro<;>try conv=>whnf)|(intro h;try conv=>whnf)|apply True.intro|(apply WhenQ.mk;(try conv=>whnf);rotate_left;(try conv=>whnf);rotate_right)|with_reducible assumption|(apply not_of;with_reducible assumption)|fail)
    · rw [runI, h0, show badW m w = true from h]; exact le_run _ _ _
    · exact ⟨⟨(), h⟩, (by refine Wk.of ?_ ?_ rfl rfl rfl<;>repeat' (first|exact trivial|exact WkD.same _|exact WkO.same _ _ rfl|refine ⟨?_, ?_⟩|fail))⟩
  rintro ⟨_, h1⟩
  have hrun : runI m acts w steps = runL acts m w steps 0 := by rw [runI, h0, h1]; rfl
  rw [hrun]
  refine ⟨Unit, fun _ => [(1, .pv (actsPV acts)), (2, .pv (.int .i64 w)), (3, .pv (.sl (steps.map stepPV))), (4, .ref 0 0), (8, .ref 1 0)], fun _ => 2, fun _ => [(0, .var (cellsM m)), (1, .var [.pv (.int .i64 0), .pv .nil, .pv .nil])], ?_, ?_⟩
  · try conv=>whnf
    refine ⟨.one 0 (.one 1 (.one 2 (.one 3 (.one 4 (.one 5 (.one 6 (.one 7 (.one 8 (.one 9 (.one 10 .done)))))))))), [10], by kernel_rfl, ?_⟩
    (try conv=>whnf);repeat' (first|(apply And.intro<;>try conv=>whnf)|(refine ⟨_, (by (conv=>whnf);exact hR), rfl, ?_⟩;try conv=>whnf)|fail)
    · show (0 : Int) ≤ IntKind.wrap .i64 (64 - m.n)
      rw [in_wrap hD.okm.nn hn1 hn64]; omega
    · exact ⟨(), (by refine Wk.of ?_ ?_ rfl rfl rfl<;>repeat' (first|exact trivial|exact WkD.same _|exact WkO.same _ _ rfl|refine ⟨?_, ?_⟩|fail))⟩
  rintro ⟨⟩
  try conv=>whnf
  refine ⟨{ q : Nat × Mo × Int // q.1 ≤ steps.length ∧ (∃ k, OkD acts q.2.1 k) ∧ runL acts q.2.1 q.2.2 (steps.drop q.1) q.1 = runL acts m w steps 0 }, fun q => [(1, .pv (actsPV acts)), (2, .pv (.int .i64 q.1.2.2)), (3, .pv (.sl (steps.map stepPV))), (4, .ref 0 0), (8, .ref 1 0), (44, .pv (.sl (steps.map stepPV))), (45, .pv (i64 (steps.map stepPV).length)), (46, .pv (i64 q.1.1))], fun _ => 2, fun q => [(0, .var (cellsM q.1.2.1)), (1, .var [.pv (.int .i64 0), .pv .nil, .pv .nil])], fun q => steps.length - q.1.1, ⟨⟨(0, m, w), Nat.zero_le _, ⟨n, hD⟩, rfl⟩, (by refine Wk.of ?_ ?_ rfl rfl rfl<;>repeat' (first|exact trivial|exact WkD.same _|exact WkO.same _ _ rfl|refine ⟨?_, ?_⟩|fail))⟩, ?_⟩
  rintro ⟨⟨i, m1, w1⟩, hi, ⟨k, hk⟩, hd⟩
  simp only at hi hk hd
  (try conv=>whnf);repeat' (first|(apply And.intro<;>try conv=>whnf)|(intro h;try conv=>whnf)|(apply infoT;rfl)|fail)
  · have hi' : i < steps.length := by simpa using lt_dec h
    obtain ⟨⟨xa, xe⟩, hx, hxd⟩ : ∃ x, steps[i]? = some x ∧ steps.drop i = x :: steps.drop (i + 1) := ⟨_, List.getElem?_eq_getElem hi', List.drop_eq_getElem_cons hi'⟩
    have hst := dy_step m1 acts w1 xa xe hk.okm.fit hS
    rw [hxd, runL] at hd
    simp only at hd
    have hso := step_okD (w := w1) (xa := xa) (xe := xe) hk
    generalize stepI acts m1 w1 xa xe = S at hst hd hso
    obtain ⟨m2, w2, er⟩ := S
    refine ⟨_, _, rfl, idx_map hx, rfl, ?_⟩
    (try conv=>whnf);repeat' (first|(apply And.intro<;>try conv=>whnf)|(intro h;try conv=>whnf)|(refine PureFn.dcq (f := 41) rfl ?_;try conv=>whnf)|(refine ⟨_, _, hst, ?_, ?_⟩;(focus first|(refine ⟨?_, ?_, ?_, ?_, trivial⟩<;>first|exact PLe.refl _|exact PLe.nil)|exact trivial);try conv=>whnf)|fail)
    · have h : (er != 0) = true := h
      simp only [h, cond_true] at hd
      have g := le_run 0 (i : Int) er
      rw [hd] at g
      exact g
    · have h : (er != 0) = false := h
      simp only [h, cond_false] at hd
      refine ⟨⟨(i + 1, m2, w2), hi', hso (by simpa using h), by rw [← hd]; rfl⟩, by show steps.length - (i + 1) < steps.length - i; omega, (by refine Wk.of ?_ ?_ rfl rfl rfl<;>repeat' (first|exact trivial|exact WkD.same _|exact WkO.same _ _ rfl|refine WkD.int ?_|refine ⟨?_, ?_⟩|(refine wrapA ?_ ?_ ?_;(focus simp;done);(focus (try dsimp only);omega);(focus (try dsimp only);omega))|fail))⟩
  · have hi' : i = steps.length := by have := ge_dec (m := (steps.map stepPV).length) h (by simpa using hi); simpa using this
    rw [hi', List.drop_length, runL] at hd
    have g : PLe (.tup [m1.pv, .int .i64 w1, .int .i64 ((steps.map stepPV).length : Int), .int .i64 0]) (runPV (m1, w1, ((steps.map stepPV).length : Int), 0)) := .refl _
    rw [show ((m1, w1, ((steps.map stepPV).length : Int), (0 : Int)) : Mo × Int × Int × Int) = runL acts m w steps 0 by rw [List.length_map]; exact hd] at g
    exact g
end Go.Proofs.YtlaolpkgabknfaaDoor
set_option maxRecDepth 100000
set_option maxHeartbeats 8000000
namespace Go.Proofs.YtlaolpkgabknfaaDoor
open Go Go.Dv

def lenR (a : Act) : Bool := bif bif decide ((a.pre.length : Int) > 10) then true else decide ((a.post.length : Int) > 10) then true else decide ((a.rel.length : Int) > 6)
def rowsR (l : List (List Nat)) : Bool := l.any fun r => decide ((r.length : Int) > 12)
def badR (a : Act) : Bool := bif lenR a then true else bif preB 40 a.pre then true else bif postB 40 a.post then true else rowsR a.rel
def fewR (acts : List Act) : Bool := bif decide ((acts.length : Int) > 10) then false else !acts.any badR
theorem fewR_ok {acts : List Act} (h : fewR acts = true) : acts.length ≤ 10 ∧ ∀ a, a ∈ acts → a.pre.length ≤ 10 ∧ a.post.length ≤ 10 ∧ a.rel.length ≤ 6 ∧ (∀ f, f ∈ a.pre → f.length ≤ 40) ∧ ∀ l, l ∈ a.post → l.length ≤ 12 := by
  unfold fewR at h
  cases h1 : decide ((acts.length : Int) > 10) with
  | true => rw [h1] at h; cases h
  | false =>
    rw [h1, cond_false] at h
    have := of_decide_eq_false h1
    refine ⟨by omega, fun a ha => ?_⟩
    have hb : badR a = false := by
      have := List.any_eq_false.1 (show acts.any badR = false by simpa using h) a ha
      simpa using this
    unfold badR at hb
    cases h2 : lenR a with
    | true => rw [h2] at hb; cases hb
    | false =>
      rw [h2, cond_false] at hb
      cases h3 : preB 40 a.pre with
      | true => rw [h3] at hb; cases hb
      | false =>
        rw [h3, cond_false] at hb
        cases h4 : postB 40 a.post with
        | true => rw [h4] at hb; cases hb
        | false =>
          unfold lenR at h2
          cases q1 : decide ((a.pre.length : Int) > 10) with
          | true => rw [q1] at h2; cases h2
          | false =>
            cases q2 : decide ((a.post.length : Int) > 10) with
            | true => rw [q1, q2] at h2; cases h2
            | false =>
              rw [q1, q2] at h2
              have g1 := of_decide_eq_false q1
              have g2 := of_decide_eq_false q2
              have g3 := of_decide_eq_false (show decide ((a.rel.length : Int) > 6) = false from h2)
              refine ⟨by omega, by omega, by omega, fun f hf => ?_, fun l hl => ?_⟩
              · have := List.any_eq_false.1 h3 f hf
                have := of_decide_eq_false (show decide ((f.length : Int) > 40) = false by simpa using this)
                omega
              · have := List.any_eq_false.1 h4 l hl
                cases q : decide ((l.length : Int) > 12) with
                | true => rw [q] at this; exact absurd rfl this
                | false => have := of_decide_eq_false q; omega
theorem rd_Few (acts : List Act) : PureFn Tryd.prog 30 [actsPV acts] (.bool (fewR acts)) := by
  have e0 : ((acts.map Act.pv).length : Int) = (acts.length : Int) := by simp
  refine PureFn.introC [8, 13, 23] mixed (fn := Tryd.f30) rfl rfl rfl fun M w0 => ?_
  (try conv=>whnf);repeat' (first|(apply And.intro<;>try conv=>whnf)|(intro h;try conv=>whnf)|fail)
  · rw [fewR, ← e0, show decide (((acts.map Act.pv).length : Int) > 10) = true from h]; exact .refl _
  rw [show fewR acts = !acts.any badR by rw [fewR, ← e0, show decide (((acts.map Act.pv).length : Int) > 10) = false from h]; rfl]
  have hal : acts.length ≤ 10 := by have := of_decide_eq_false h; simp at this; omega
  clear h
  refine ⟨{ i : Nat // i ≤ acts.length ∧ (acts.take i).any badR = false }, fun i => [(0, .pv (actsPV acts)), (3, .pv (i64 i.1))], fun _ => 0, fun _ => [], fun i => acts.length - i.1, ⟨⟨0, Nat.zero_le _, rfl⟩, (by refine Wk.of ?_ ?_ rfl rfl rfl<;>repeat' (first|exact trivial|exact WkD.same _|refine ⟨?_, ?_⟩|fail))⟩, ?_⟩
  rintro ⟨i, hi, hb⟩
  (try conv=>whnf);repeat' (first|(apply And.intro<;>try conv=>whnf)|(intro h;try conv=>whnf)|fail)
  · have hi' : i < acts.length := by simpa using lt_dec h
    have hat := any_at (p := badR) hi'
    have htk := any_take (p := badR) hi' hb
    obtain ⟨a, hn, hr⟩ : ∃ a, acts[i]? = some a ∧ acts[i] = a := ⟨_, List.getElem?_eq_getElem hi', rfl⟩
    rw [hr] at hat htk
    have e1 : ((a.pre.map fpv).length : Int) = (a.pre.length : Int) := by simp
    have e2 : ((a.post.map postPV).length : Int) = (a.post.length : Int) := by simp
    have e3 : ((a.rel.map rowPV).length : Int) = (a.rel.length : Int) := by simp
    clear h
    refine ⟨{ _x : Unit // lenR a = false }, fun _ => [(0, .pv (actsPV acts)), (3, .pv (i64 i))], fun _ => 0, fun _ => [], ?_, ?_⟩
    · (try conv=>whnf);repeat' (first|(apply And.intro<;>try conv=>whnf)|(intro h;try conv=>whnf)|apply True.intro|(apply infoT;rfl)|(apply WhenQ.mk;(try conv=>whnf);rotate_left;(try conv=>whnf);rotate_right)|with_reducible assumption|(apply not_of;with_reducible assumption)|(refine ⟨_, _, rfl, idx_map (by with_reducible assumption), rfl, ?_⟩;try conv=>whnf)|fail)
      · have h9 : lenR a = true := by rw [lenR, ← e1, ← e2, ← e3]; exact h
        rw [hat (by rw [badR, h9]; rfl)]; exact .refl _
      · exact ⟨⟨(), by rw [lenR, ← e1, ← e2, ← e3]; exact h⟩, (by refine Wk.of ?_ ?_ rfl rfl rfl<;>repeat' (first|exact trivial|exact WkD.same _|refine ⟨?_, ?_⟩|fail))⟩
    rintro ⟨_, h1⟩
    have hb1 : a.pre.length ≤ 10 ∧ a.post.length ≤ 10 ∧ a.rel.length ≤ 6 := by
      unfold lenR at h1
      cases q1 : decide ((a.pre.length : Int) > 10) with
      | true => rw [q1] at h1; cases h1
      | false =>
        cases q2 : decide ((a.post.length : Int) > 10) with
        | true => rw [q1, q2] at h1; cases h1
        | false =>
          rw [q1, q2] at h1
          have g1 := of_decide_eq_false q1
          have g2 := of_decide_eq_false q2
          have g3 := of_decide_eq_false (show decide ((a.rel.length : Int) > 6) = false from h1)
          exact ⟨by omega, by omega, by omega⟩
    refine ⟨{ _x : Unit // preB 40 a.pre = false }, fun _ => [(0, .pv (actsPV acts)), (3, .pv (i64 i))], fun _ => 0, fun _ => [], ?_, ?_⟩
    · try conv=>whnf
      refine ⟨{ k : Nat // k ≤ a.pre.length ∧ preB 40 (a.pre.take k) = false }, fun k => [(0, .pv (actsPV acts)), (3, .pv (i64 i)), (4, .pv (i64 k.1))], fun _ => 0, fun _ => [], fun k => a.pre.length - k.1, ⟨⟨0, Nat.zero_le _, rfl⟩, (by refine Wk.of ?_ ?_ rfl rfl rfl<;>repeat' (first|exact trivial|exact WkD.same _|refine ⟨?_, ?_⟩|fail))⟩, ?_⟩
      rintro ⟨k, hk, hc⟩
      (try conv=>whnf);repeat' (first|(apply And.intro<;>try conv=>whnf)|(intro h;try conv=>whnf)|(apply infoT;rfl)|(refine ⟨_, _, rfl, idx_map (by with_reducible assumption), rfl, ?_⟩;try conv=>whnf)|fail)
      · have hk' : k < a.pre.length := by simpa using lt_dec h
        have hkn : a.pre[k]? = some a.pre[k] := List.getElem?_eq_getElem hk'
        have e4 : ((a.pre[k].map Nd.pv).length : Int) = (a.pre[k].length : Int) := by simp
        (try conv=>whnf);repeat' (first|(apply And.intro<;>try conv=>whnf)|(intro h;try conv=>whnf)|(refine ⟨_, _, rfl, idx_map (by with_reducible assumption), rfl, ?_⟩;try conv=>whnf)|fail)
        · have h9 : preB 40 a.pre = true := any_at (p := fun f : List Nd => decide ((f.length : Int) > 40)) hk' (by rw [← e4]; exact h)
          rw [hat (by rw [badR, h1, h9]; rfl)]; exact .refl _
        · exact ⟨⟨k + 1, hk', any_take (p := fun f : List Nd => decide ((f.length : Int) > 40)) hk' hc (by rw [← e4]; exact h)⟩, by show a.pre.length - (k + 1) < a.pre.length - k; omega, (by refine Wk.of ?_ ?_ rfl rfl rfl<;>repeat' (first|exact trivial|exact WkD.same _|refine WkD.int ?_|refine ⟨?_, ?_⟩|(refine wrapA ?_ ?_ ?_;(focus simp;done);(focus (try dsimp only);omega);(focus (try dsimp only);omega))|fail))⟩
      · have hk' : k = a.pre.length := by have := ge_dec (m := (a.pre.map fpv).length) h (by simpa using hk); simpa using this
        subst hk'
        rw [List.take_length] at hc
        exact ⟨⟨(), hc⟩, (by refine Wk.of ?_ ?_ rfl rfl rfl<;>repeat' (first|exact trivial|exact WkD.same _|refine ⟨?_, ?_⟩|fail))⟩
    rintro ⟨_, h2⟩
    refine ⟨{ _x : Unit // postB 40 a.post = false }, fun _ => [(0, .pv (actsPV acts)), (3, .pv (i64 i))], fun _ => 0, fun _ => [], ?_, ?_⟩
    · try conv=>whnf
      refine ⟨{ k : Nat // k ≤ a.post.length ∧ postB 40 (a.post.take k) = false }, fun k => [(0, .pv (actsPV acts)), (3, .pv (i64 i)), (5, .pv (i64 k.1))], fun _ => 0, fun _ => [], fun k => a.post.length - k.1, ⟨⟨0, Nat.zero_le _, rfl⟩, (by refine Wk.of ?_ ?_ rfl rfl rfl<;>repeat' (first|exact trivial|exact WkD.same _|refine ⟨?_, ?_⟩|fail))⟩, ?_⟩
      rintro ⟨k, hk, hc⟩
      (try conv=>whnf);repeat' (first|(apply And.intro<;>try conv=>whnf)|(intro h;try conv=>whnf)|(apply infoT;rfl)|(refine ⟨_, _, rfl, idx_map (by with_reducible assumption), rfl, ?_⟩;try conv=>whnf)|fail)
      · have hk' : k < a.post.length := by simpa using lt_dec h
        have hat2 := any_at (p := fun l : List Asg => bif decide ((l.length : Int) > 12) then true else asgB 40 l) hk'
        have htk2 := any_take (p := fun l : List Asg => bif decide ((l.length : Int) > 12) then true else asgB 40 l) hk' hc
        obtain ⟨l, hkn, hkr⟩ : ∃ l, a.post[k]? = some l ∧ a.post[k] = l := ⟨_, List.getElem?_eq_getElem hk', rfl⟩
        rw [hkr] at hat2 htk2
        have e4 : ((l.map Asg.pv).length : Int) = (l.length : Int) := by simp
        (try conv=>whnf);repeat' (first|(apply And.intro<;>try conv=>whnf)|(intro h;try conv=>whnf)|(refine ⟨_, _, rfl, idx_map (by with_reducible assumption), rfl, ?_⟩;try conv=>whnf)|fail)
        · have h9 : decide ((l.length : Int) > 12) = true := by rw [← e4]; exact h
          rw [hat (by rw [badR, h1, h2, show postB 40 a.post = true from hat2 (by rw [h9]; rfl)]; rfl)]; exact .refl _
        have h9 : decide ((l.length : Int) > 12) = false := by rw [← e4]; exact h
        have hll : l.length ≤ 12 := by have := of_decide_eq_false h9; omega
        refine ⟨{ j : Nat // j ≤ l.length ∧ asgB 40 (l.take j) = false }, fun j => [(0, .pv (actsPV acts)), (3, .pv (i64 i)), (5, .pv (i64 k)), (6, .pv (i64 j.1))], fun _ => 0, fun _ => [], fun j => l.length - j.1, ⟨⟨0, Nat.zero_le _, rfl⟩, (by refine Wk.of ?_ ?_ rfl rfl rfl<;>repeat' (first|exact trivial|exact WkD.same _|refine ⟨?_, ?_⟩|fail))⟩, ?_⟩
        rintro ⟨j, hj, hd⟩
        (try conv=>whnf);repeat' (first|(apply And.intro<;>try conv=>whnf)|(intro h;try conv=>whnf)|(apply infoT;rfl)|(refine ⟨_, _, rfl, idx_map (by with_reducible assumption), rfl, ?_⟩;try conv=>whnf)|fail)
        · have hj' : j < l.length := by simpa using lt_dec h
          have hm : l[j]? = some l[j] := List.getElem?_eq_getElem hj'
          have e5 : ((l[j].to.map Nd.pv).length : Int) = (l[j].to.length : Int) := by simp
          (try conv=>whnf);repeat' (first|(apply And.intro<;>try conv=>whnf)|(intro h;try conv=>whnf)|(refine ⟨_, _, rfl, idx_map (by with_reducible assumption), rfl, ?_⟩;try conv=>whnf)|fail)
          · have h7 : asgB 40 l = true := any_at (p := fun p : Asg => decide ((p.to.length : Int) > 40)) hj' (by rw [← e5]; exact h)
            rw [hat (by rw [badR, h1, h2, show postB 40 a.post = true from hat2 (by rw [h9, h7]; rfl)]; rfl)]; exact .refl _
          · exact ⟨⟨j + 1, hj', any_take (p := fun p : Asg => decide ((p.to.length : Int) > 40)) hj' hd (by rw [← e5]; exact h)⟩, by show l.length - (j + 1) < l.length - j; omega, (by refine Wk.of ?_ ?_ rfl rfl rfl<;>repeat' (first|exact trivial|exact WkD.same _|refine WkD.int ?_|refine ⟨?_, ?_⟩|(refine wrapA ?_ ?_ ?_;(focus simp;done);(focus (try dsimp only);omega);(focus (try dsimp only);omega))|fail))⟩
        · have hj' : j = l.length := by have := ge_dec (m := (l.map Asg.pv).length) h (by simpa using hj); simpa using this
          subst hj'
          rw [List.take_length] at hd
          exact ⟨⟨k + 1, hk', htk2 (by rw [h9, hd]; rfl)⟩, by show a.post.length - (k + 1) < a.post.length - k; omega, (by refine Wk.of ?_ ?_ rfl rfl rfl<;>repeat' (first|exact trivial|exact WkD.same _|refine WkD.int ?_|refine ⟨?_, ?_⟩|(refine wrapA ?_ ?_ ?_;(focus simp;done);(focus (try dsimp only);omega);(focus (try dsimp only);omega))|fail))⟩
      · have hk' : k = a.post.length := by have := ge_dec (m := (a.post.map postPV).length) h (by simpa using hk); simpa using this
        subst hk'
        rw [List.take_length] at hc
        exact ⟨⟨(), hc⟩, (by refine Wk.of ?_ ?_ rfl rfl rfl<;>repeat' (first|exact trivial|exact WkD.same _|refine ⟨?_, ?_⟩|fail))⟩
    rintro ⟨_, h3⟩
    try conv=>whnf
    refine ⟨{ k : Nat // k ≤ a.rel.length ∧ rowsR (a.rel.take k) = false }, fun k => [(0, .pv (actsPV acts)), (3, .pv (i64 i)), (7, .pv (i64 k.1))], fun _ => 0, fun _ => [], fun k => a.rel.length - k.1, ⟨⟨0, Nat.zero_le _, rfl⟩, (by refine Wk.of ?_ ?_ rfl rfl rfl<;>repeat' (first|exact trivial|exact WkD.same _|refine ⟨?_, ?_⟩|fail))⟩, ?_⟩
    rintro ⟨k, hk, hc⟩
    (try conv=>whnf);repeat' (first|(apply And.intro<;>try conv=>whnf)|(intro h;try conv=>whnf)|(apply infoT;rfl)|(refine ⟨_, _, rfl, idx_map (by with_reducible assumption), rfl, ?_⟩;try conv=>whnf)|fail)
    · have hk' : k < a.rel.length := by simpa using lt_dec h
      have hkn : a.rel[k]? = some a.rel[k] := List.getElem?_eq_getElem hk'
      have e4 : ((a.rel[k].map u64).length : Int) = (a.rel[k].length : Int) := by simp
      (try conv=>whnf);repeat' (first|(apply And.intro<;>try conv=>whnf)|(intro h;try conv=>whnf)|(refine ⟨_, _, rfl, idx_map (by with_reducible assumption), rfl, ?_⟩;try conv=>whnf)|fail)
      · have h9 : rowsR a.rel = true := any_at (p := fun r : List Nat => decide ((r.length : Int) > 12)) hk' (by rw [← e4]; exact h)
        rw [hat (by rw [badR, h1, h2, h3, h9]; rfl)]; exact .refl _
      · exact ⟨⟨k + 1, hk', any_take (p := fun r : List Nat => decide ((r.length : Int) > 12)) hk' hc (by rw [← e4]; exact h)⟩, by show a.rel.length - (k + 1) < a.rel.length - k; omega, (by refine Wk.of ?_ ?_ rfl rfl rfl<;>repeat' (first|exact trivial|exact WkD.same _|refine WkD.int ?_|refine ⟨?_, ?_⟩|(refine wrapA ?_ ?_ ?_;(focus simp;done);(focus (try dsimp only);omega);(focus (try dsimp only);omega))|fail))⟩
    · have hk' : k = a.rel.length := by have := ge_dec (m := (a.rel.map rowPV).length) h (by simpa using hk); simpa using this
      subst hk'
      rw [List.take_length] at hc
      exact ⟨⟨i + 1, hi', htk (by rw [badR, h1, h2, h3, hc]; rfl)⟩, by show acts.length - (i + 1) < acts.length - i; omega, (by refine Wk.of ?_ ?_ rfl rfl rfl<;>repeat' (first|exact trivial|exact WkD.same _|refine WkD.int ?_|refine ⟨?_, ?_⟩|(refine wrapA ?_ ?_ ?_;(focus simp;done);(focus (try dsimp only);omega);(focus (try dsimp only);omega))|fail))⟩
  · have hi' : i = acts.length := by have := ge_dec (m := (acts.map Act.pv).length) h (by simpa using hi); simpa using this
    subst hi'
    rw [List.take_length] at hb
    rw [hb]; exact .refl _
end Go.Proofs.YtlaolpkgabknfaaDoor
set_option maxRecDepth 100000
set_option maxHeartbeats 8000000
namespace Go.Proofs.YtlaolpkgabknfaaDoor
open Go Go.Dv

def hatM : Mo := ⟨4, [10, 12], [[3, 3, 12, 12], [5, 10, 5, 10]]⟩
def hatH : Nat → List (Nat × DObj)
  | 0 => [(0, .var [.pv (i64 0), .pv .nil, .pv .nil]), (1, .var [.buf 3 0, .buf 4 0]), (2, .var [.pv (i64 4), .pv (.sl [u64 10, u64 12]), .vbuf 1 2]), (3, .arr 1 []), (4, .arr 1 [])]
  | 1 => [(0, .var [.pv (i64 0), .pv .nil, .pv .nil]), (1, .var [.buf 3 1, .buf 4 1]), (2, .var [.pv (i64 4), .pv (.sl [u64 10, u64 12]), .vbuf 1 2]), (3, .arr 1 [u64 3]), (4, .arr 1 [u64 5])]
  | 2 => [(0, .var [.pv (i64 0), .pv .nil, .pv .nil]), (1, .var [.buf 3 2, .buf 4 2]), (2, .var [.pv (i64 4), .pv (.sl [u64 10, u64 12]), .vbuf 1 2]), (3, .arr 1 [u64 3, u64 3]), (4, .arr 1 [u64 5, u64 10])]
  | 3 => [(0, .var [.pv (i64 0), .pv .nil, .pv .nil]), (1, .var [.buf 3 3, .buf 4 3]), (2, .var [.pv (i64 4), .pv (.sl [u64 10, u64 12]), .vbuf 1 2]), (3, .arr 1 [u64 3, u64 3, u64 12]), (4, .arr 1 [u64 5, u64 10, u64 5])]
  | _ => [(0, .var [.pv (i64 0), .pv .nil, .pv .nil]), (1, .var [.buf 3 4, .buf 4 4]), (2, .var [.pv (i64 4), .pv (.sl [u64 10, u64 12]), .vbuf 1 2]), (3, .arr 1 [u64 3, u64 3, u64 12, u64 12]), (4, .arr 1 [u64 5, u64 10, u64 5, u64 10])]
theorem lw_hats : PureFn Tryd.prog 27 [] hatM.pv := by
  refine PureFn.introC [6, 7] mixed (fn := Tryd.f27) rfl rfl rfl fun M w0 => ?_
  (try conv=>whnf);repeat' (first|(apply And.intro<;>try conv=>whnf)|(apply cellsI;rfl)|(apply Or.inr;refine ⟨rfl, (by decide), rfl, ?_⟩;try conv=>whnf)|fail)
  · rfl
  · show (0 : Int) ≤ 2; decide
  · show (2 : Int) ≤ ((4294967296 : Nat) : Int); decide
  refine ⟨{ i : Nat // i ≤ 4 }, fun i => [(0, .ref 0 0), (1, .ref 2 0), (6, .pv (i64 i.1))], fun _ => 5, fun i => hatH i.1, fun i => 4 - i.1, ⟨⟨0, Nat.zero_le _⟩, (by refine Wk.of ?_ ?_ rfl rfl rfl<;>repeat' (first|exact trivial|exact WkD.same _|exact WkO.same _ _ rfl|exact WkD.new' rfl rfl rfl|exact WkO.new _ _ rfl|refine WkO.vars rfl ?_|exact rfl|refine ⟨?_, ?_⟩|fail))⟩, ?_⟩
  rintro ⟨i, hi⟩
  rcases i with _ | _ | _ | _ | _ | i
  · (try conv=>whnf);repeat' (first|(apply And.intro<;>try conv=>whnf)|(intro h;try conv=>whnf)|(apply bleI;rfl)|fail)
    · refine ⟨Unit, fun _ => [(0, .ref 0 0), (1, .ref 2 0), (6, .pv (i64 0))], fun _ => 5, fun _ => hatH 1, ?_, ?_⟩
      · try conv=>whnf
        refine ⟨Unit, fun _ => [(0, .ref 0 0), (1, .ref 2 0), (2, .pv (i64 0)), (6, .pv (i64 0))], fun _ => 5, fun _ => [(0, .var [.pv (i64 0), .pv .nil, .pv .nil]), (1, .var [.buf 3 1, .buf 4 0]), (2, .var [.pv (i64 4), .pv (.sl [u64 10, u64 12]), .vbuf 1 2]), (3, .arr 1 [u64 3]), (4, .arr 1 [])], ?_, ?_⟩
        · try conv=>whnf
          refine ⟨.one 2 (.one 3 (.one 4 (.one 5 (.one 6 (.one 7 (.one 8 (.one 9 (.one 10 (.one 11 (.one 12 (.two 0 (.two 1 (.one 13 (.one 14 (.one 15 .done))) 13 (.one 1 (.one 14 (.one 15 .done)))) 13 (.one 0 (.one 1 (.one 14 (.one 15 .done))))))))))))))), [13, 15], by kernel_rfl, ?_⟩
          (try conv=>whnf);repeat' (first|(apply And.intro<;>try conv=>whnf)|(apply infoT;rfl)|(apply cellsI;rfl)|(apply szI;rfl)|(refine ⟨0, rfl, Nat.le_of_ble_eq_true rfl, ?_⟩;try conv=>whnf)|fail)
          all_goals first | exact rfl | (show (0 : Int) ≤ _; exact of_decide_eq_true (by kernel_rfl)) | exact Nat.le_of_ble_eq_true rfl | (refine ⟨(), ?_⟩; (refine Wk.of ?_ ?_ rfl rfl rfl<;>repeat' (first|exact trivial|exact WkD.same _|exact WkO.same _ _ rfl|refine ⟨?_, ?_⟩|fail)); try exact WkO.same _ _ (by kernel_rfl))
        rintro ⟨⟩
        try conv=>whnf
        refine ⟨.one 2 (.one 3 (.one 4 (.one 5 (.one 6 (.one 7 (.one 8 (.one 9 (.one 10 (.one 11 (.one 12 (.two 0 (.two 1 (.one 13 (.one 14 (.one 15 .done))) 13 (.one 1 (.one 14 (.one 15 .done)))) 13 (.one 0 (.one 1 (.one 14 (.one 15 .done))))))))))))))), [13, 15], by kernel_rfl, ?_⟩
        (try conv=>whnf);repeat' (first|(apply And.intro<;>try conv=>whnf)|(apply infoT;rfl)|(apply cellsI;rfl)|(apply szI;rfl)|(refine ⟨1, rfl, Nat.le_of_ble_eq_true rfl, ?_⟩;try conv=>whnf)|fail)
        all_goals first | exact rfl | (show (0 : Int) ≤ _; exact of_decide_eq_true (by kernel_rfl)) | exact Nat.le_of_ble_eq_true rfl | (refine ⟨(), ?_⟩; (refine Wk.of ?_ ?_ rfl rfl rfl<;>repeat' (first|exact trivial|exact WkD.same _|exact WkO.same _ _ rfl|refine ⟨?_, ?_⟩|fail)); try exact WkO.same _ _ (by kernel_rfl))
      rintro ⟨⟩
      try conv=>whnf
      exact ⟨⟨1, by decide⟩, (by show (_ : Nat) < _; exact Nat.le_of_ble_eq_true rfl), (by refine Wk.of ?_ ?_ rfl rfl rfl<;>repeat' (first|exact trivial|exact WkD.same _|exact WkO.same _ _ rfl|refine ⟨?_, ?_⟩|fail))⟩
    all_goals exact Bool.noConfusion (show true = false from h)
  · (try conv=>whnf);repeat' (first|(apply And.intro<;>try conv=>whnf)|(intro h;try conv=>whnf)|(apply bleI;rfl)|fail)
    · refine ⟨Unit, fun _ => [(0, .ref 0 0), (1, .ref 2 0), (6, .pv (i64 1))], fun _ => 5, fun _ => hatH 2, ?_, ?_⟩
      · try conv=>whnf
        refine ⟨Unit, fun _ => [(0, .ref 0 0), (1, .ref 2 0), (2, .pv (i64 1)), (6, .pv (i64 1))], fun _ => 5, fun _ => [(0, .var [.pv (i64 0), .pv .nil, .pv .nil]), (1, .var [.buf 3 2, .buf 4 1]), (2, .var [.pv (i64 4), .pv (.sl [u64 10, u64 12]), .vbuf 1 2]), (3, .arr 1 [u64 3, u64 3]), (4, .arr 1 [u64 5])], ?_, ?_⟩
        · try conv=>whnf
          refine ⟨.one 2 (.one 3 (.one 4 (.one 5 (.one 6 (.one 7 (.one 8 (.one 9 (.one 10 (.one 11 (.one 12 (.two 0 (.two 1 (.one 13 (.one 14 (.one 15 .done))) 13 (.one 1 (.one 14 (.one 15 .done)))) 13 (.one 0 (.one 1 (.one 14 (.one 15 .done))))))))))))))), [13, 15], by kernel_rfl, ?_⟩
          (try conv=>whnf);repeat' (first|(apply And.intro<;>try conv=>whnf)|(apply infoT;rfl)|(apply cellsI;rfl)|(apply szI;rfl)|(refine ⟨0, rfl, Nat.le_of_ble_eq_true rfl, ?_⟩;try conv=>whnf)|fail)
          all_goals first | exact rfl | (show (0 : Int) ≤ _; exact of_decide_eq_true (by kernel_rfl)) | exact Nat.le_of_ble_eq_true rfl | (refine ⟨(), ?_⟩; (refine Wk.of ?_ ?_ rfl rfl rfl<;>repeat' (first|exact trivial|exact WkD.same _|exact WkO.same _ _ rfl|refine ⟨?_, ?_⟩|fail)); try exact WkO.same _ _ (by kernel_rfl))
        rintro ⟨⟩
        try conv=>whnf
        refine ⟨.one 2 (.one 3 (.one 4 (.one 5 (.one 6 (.one 7 (.one 8 (.one 9 (.one 10 (.one 11 (.one 12 (.two 0 (.two 1 (.one 13 (.one 14 (.one 15 .done))) 13 (.one 1 (.one 14 (.one 15 .done)))) 13 (.one 0 (.one 1 (.one 14 (.one 15 .done))))))))))))))), [13, 15], by kernel_rfl, ?_⟩
        (try conv=>whnf);repeat' (first|(apply And.intro<;>try conv=>whnf)|(apply infoT;rfl)|(apply cellsI;rfl)|(apply szI;rfl)|(refine ⟨1, rfl, Nat.le_of_ble_eq_true rfl, ?_⟩;try conv=>whnf)|fail)
        all_goals first | exact rfl | (show (0 : Int) ≤ _; exact of_decide_eq_true (by kernel_rfl)) | exact Nat.le_of_ble_eq_true rfl | (refine ⟨(), ?_⟩; (refine Wk.of ?_ ?_ rfl rfl rfl<;>repeat' (first|exact trivial|exact WkD.same _|exact WkO.same _ _ rfl|refine ⟨?_, ?_⟩|fail)); try exact WkO.same _ _ (by kernel_rfl))
      rintro ⟨⟩
      try conv=>whnf
      exact ⟨⟨2, by decide⟩, (by show (_ : Nat) < _; exact Nat.le_of_ble_eq_true rfl), (by refine Wk.of ?_ ?_ rfl rfl rfl<;>repeat' (first|exact trivial|exact WkD.same _|exact WkO.same _ _ rfl|refine ⟨?_, ?_⟩|fail))⟩
    all_goals exact Bool.noConfusion (show true = false from h)
  · (try conv=>whnf);repeat' (first|(apply And.intro<;>try conv=>whnf)|(intro h;try conv=>whnf)|(apply bleI;rfl)|fail)
    · refine ⟨Unit, fun _ => [(0, .ref 0 0), (1, .ref 2 0), (6, .pv (i64 2))], fun _ => 5, fun _ => hatH 3, ?_, ?_⟩
      · try conv=>whnf
        refine ⟨Unit, fun _ => [(0, .ref 0 0), (1, .ref 2 0), (2, .pv (i64 2)), (6, .pv (i64 2))], fun _ => 5, fun _ => [(0, .var [.pv (i64 0), .pv .nil, .pv .nil]), (1, .var [.buf 3 3, .buf 4 2]), (2, .var [.pv (i64 4), .pv (.sl [u64 10, u64 12]), .vbuf 1 2]), (3, .arr 1 [u64 3, u64 3, u64 12]), (4, .arr 1 [u64 5, u64 10])], ?_, ?_⟩
        · try conv=>whnf
          refine ⟨.one 2 (.one 3 (.one 4 (.one 5 (.one 6 (.one 7 (.one 8 (.one 9 (.one 10 (.one 11 (.one 12 (.two 0 (.two 1 (.one 13 (.one 14 (.one 15 .done))) 13 (.one 1 (.one 14 (.one 15 .done)))) 13 (.one 0 (.one 1 (.one 14 (.one 15 .done))))))))))))))), [13, 15], by kernel_rfl, ?_⟩
          (try conv=>whnf);repeat' (first|(apply And.intro<;>try conv=>whnf)|(apply infoT;rfl)|(apply cellsI;rfl)|(apply szI;rfl)|(refine ⟨0, rfl, Nat.le_of_ble_eq_true rfl, ?_⟩;try conv=>whnf)|fail)
          all_goals first | exact rfl | (show (0 : Int) ≤ _; exact of_decide_eq_true (by kernel_rfl)) | exact Nat.le_of_ble_eq_true rfl | (refine ⟨(), ?_⟩; (refine Wk.of ?_ ?_ rfl rfl rfl<;>repeat' (first|exact trivial|exact WkD.same _|exact WkO.same _ _ rfl|refine ⟨?_, ?_⟩|fail)); try exact WkO.same _ _ (by kernel_rfl))
        rintro ⟨⟩
        try conv=>whnf
        refine ⟨.one 2 (.one 3 (.one 4 (.one 5 (.one 6 (.one 7 (.one 8 (.one 9 (.one 10 (.one 11 (.one 12 (.two 0 (.two 1 (.one 13 (.one 14 (.one 15 .done))) 13 (.one 1 (.one 14 (.one 15 .done)))) 13 (.one 0 (.one 1 (.one 14 (.one 15 .done))))))))))))))), [13, 15], by kernel_rfl, ?_⟩
        (try conv=>whnf);repeat' (first|(apply And.intro<;>try conv=>whnf)|(apply infoT;rfl)|(apply cellsI;rfl)|(apply szI;rfl)|(refine ⟨1, rfl, Nat.le_of_ble_eq_true rfl, ?_⟩;try conv=>whnf)|fail)
        all_goals first | exact rfl | (show (0 : Int) ≤ _; exact of_decide_eq_true (by kernel_rfl)) | exact Nat.le_of_ble_eq_true rfl | (refine ⟨(), ?_⟩; (refine Wk.of ?_ ?_ rfl rfl rfl<;>repeat' (first|exact trivial|exact WkD.same _|exact WkO.same _ _ rfl|refine ⟨?_, ?_⟩|fail)); try exact WkO.same _ _ (by kernel_rfl))
      rintro ⟨⟩
      try conv=>whnf
      exact ⟨⟨3, by decide⟩, (by show (_ : Nat) < _; exact Nat.le_of_ble_eq_true rfl), (by refine Wk.of ?_ ?_ rfl rfl rfl<;>repeat' (first|exact trivial|exact WkD.same _|exact WkO.same _ _ rfl|refine ⟨?_, ?_⟩|fail))⟩
    all_goals exact Bool.noConfusion (show true = false from h)
  · (try conv=>whnf);repeat' (first|(apply And.intro<;>try conv=>whnf)|(intro h;try conv=>whnf)|(apply bleI;rfl)|fail)
    · refine ⟨Unit, fun _ => [(0, .ref 0 0), (1, .ref 2 0), (6, .pv (i64 3))], fun _ => 5, fun _ => hatH 4, ?_, ?_⟩
      · try conv=>whnf
        refine ⟨Unit, fun _ => [(0, .ref 0 0), (1, .ref 2 0), (2, .pv (i64 3)), (6, .pv (i64 3))], fun _ => 5, fun _ => [(0, .var [.pv (i64 0), .pv .nil, .pv .nil]), (1, .var [.buf 3 4, .buf 4 3]), (2, .var [.pv (i64 4), .pv (.sl [u64 10, u64 12]), .vbuf 1 2]), (3, .arr 1 [u64 3, u64 3, u64 12, u64 12]), (4, .arr 1 [u64 5, u64 10, u64 5])], ?_, ?_⟩
        · try conv=>whnf
          refine ⟨.one 2 (.one 3 (.one 4 (.one 5 (.one 6 (.one 7 (.one 8 (.one 9 (.one 10 (.one 11 (.one 12 (.two 0 (.two 1 (.one 13 (.one 14 (.one 15 .done))) 13 (.one 1 (.one 14 (.one 15 .done)))) 13 (.one 0 (.one 1 (.one 14 (.one 15 .done))))))))))))))), [13, 15], by kernel_rfl, ?_⟩
          (try conv=>whnf);repeat' (first|(apply And.intro<;>try conv=>whnf)|(apply infoT;rfl)|(apply cellsI;rfl)|(apply szI;rfl)|(refine ⟨0, rfl, Nat.le_of_ble_eq_true rfl, ?_⟩;try conv=>whnf)|fail)
          all_goals first | exact rfl | (show (0 : Int) ≤ _; exact of_decide_eq_true (by kernel_rfl)) | exact Nat.le_of_ble_eq_true rfl | (refine ⟨(), ?_⟩; (refine Wk.of ?_ ?_ rfl rfl rfl<;>repeat' (first|exact trivial|exact WkD.same _|exact WkO.same _ _ rfl|refine ⟨?_, ?_⟩|fail)); try exact WkO.same _ _ (by kernel_rfl))
        rintro ⟨⟩
        try conv=>whnf
        refine ⟨.one 2 (.one 3 (.one 4 (.one 5 (.one 6 (.one 7 (.one 8 (.one 9 (.one 10 (.one 11 (.one 12 (.two 0 (.two 1 (.one 13 (.one 14 (.one 15 .done))) 13 (.one 1 (.one 14 (.one 15 .done)))) 13 (.one 0 (.one 1 (.one 14 (.one 15 .done))))))))))))))), [13, 15], by kernel_rfl, ?_⟩
        (try conv=>whnf);repeat' (first|(apply And.intro<;>try conv=>whnf)|(apply infoT;rfl)|(apply cellsI;rfl)|(apply szI;rfl)|(refine ⟨1, rfl, Nat.le_of_ble_eq_true rfl, ?_⟩;try conv=>whnf)|fail)
        all_goals first | exact rfl | (show (0 : Int) ≤ _; exact of_decide_eq_true (by kernel_rfl)) | exact Nat.le_of_ble_eq_true rfl | (refine ⟨(), ?_⟩; (refine Wk.of ?_ ?_ rfl rfl rfl<;>repeat' (first|exact trivial|exact WkD.same _|exact WkO.same _ _ rfl|refine ⟨?_, ?_⟩|fail)); try exact WkO.same _ _ (by kernel_rfl))
      rintro ⟨⟩
      try conv=>whnf
      exact ⟨⟨4, by decide⟩, (by show (_ : Nat) < _; exact Nat.le_of_ble_eq_true rfl), (by refine Wk.of ?_ ?_ rfl rfl rfl<;>repeat' (first|exact trivial|exact WkD.same _|exact WkO.same _ _ rfl|refine ⟨?_, ?_⟩|fail))⟩
    all_goals exact Bool.noConfusion (show true = false from h)
  · (try conv=>whnf);repeat' (first|(apply And.intro<;>try conv=>whnf)|(intro h;try conv=>whnf)|(apply bleI;rfl)|fail)
    · exact Bool.noConfusion (show false = true from h)
    all_goals first | exact rfl | exact .refl _
  · omega
end Go.Proofs.YtlaolpkgabknfaaDoor
