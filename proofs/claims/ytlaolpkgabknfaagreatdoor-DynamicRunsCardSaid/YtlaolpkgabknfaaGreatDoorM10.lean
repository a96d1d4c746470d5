/- Parts of the proof, one after the other: The dynamic language: Holds of the program walked. The dynamic language: Run of the program walked. The checker's reference: nodes walked. The checker's reference walked: Check, Sets, Holds. The checker's reference walked: Holds. The reference of products walked: Worlds. The reference of products walked: value. The reference of products walked: Update. The dynamic language: how small the law's inputs are (walked). The dynamic language: the examples' model walked. -/
import Derived.Test.YtlaolpkgabknfaaGreatDoorM9
set_option maxRecDepth 100000
set_option maxHeartbeats 8000000
namespace Go.Proofs.YtlaolpkgabknfaaGreatDoor
open Go Go.Dv

theorem frag207 : ∀ op : Nat, op < 22 → (frag (op : Int)).toNat &&& 207 = (frag (op : Int)).toNat → op ≤ 13 ∨ op = 16 ∨ op = 17 := by decide
theorem cxd_of {m : Mo} {acts : List Act} {f : List Nd} (h : reqD m acts f = 0) : CxD m.rel.length m.val.length acts (comp f) := by
  obtain ⟨h1, h2, h3⟩ := reqD_iff.1 h
  obtain ⟨n, hD, h8⟩ := chkD_ok h1
  have hA := hD.okm.ag
  have hc := comp_can h2
  have key : ∀ x, x ∈ comp f → (∃ k : Int, OkNd x k) ∧ fragN x &&& 207 = fragN x ∧ agN x < 2 ^ m.rel.length ∧ factN x < 2 ^ m.val.length ∧ badA acts x = false := fun x hx => by
    have := h3 x hx
    simp only [ndQ, Bool.and_eq_true, decide_eq_true_eq] at this
    obtain ⟨i, hi⟩ := List.mem_iff_getElem?.1 hx
    exact ⟨⟨_, hc.ok i x hi⟩, this.1.1.1, this.1.1.2, this.1.2, (Bool.not_eq_true' _).mp this.2⟩
  refine ⟨hc.ok, by have := hc.len; omega, fun x hx => ?_, fun x hx h3 => ?_, fun x hx h9 => ?_, fun x hx hg => ?_, fun x hx h17 => ?_⟩
  · obtain ⟨⟨k, ok⟩, q1, _⟩ := key x hx
    have ho := ok.op
    have := frag207 x.op.toNat (by omega)
    rw [show ((x.op.toNat : Nat) : Int) = x.op by omega] at this
    have := this q1
    omega
  · obtain ⟨⟨k, ok⟩, _, _, q3, _⟩ := key x hx
    have hf := ok.fact h3
    rw [factN, show (x.op == 3) = true by simpa using h3] at q3
    have := (Nat.pow_lt_pow_iff_right (by decide : 1 < 2)).1 (show 2 ^ x.i.toNat < 2 ^ m.val.length from q3)
    omega
  · obtain ⟨⟨k, ok⟩, _, q2, _⟩ := key x hx
    have hia : isAgent x.op = true := by rcases h9 with e | e <;> rw [e] <;> rfl
    have ha := ok.agent hia
    rw [agN, hia] at q2
    have := (Nat.pow_lt_pow_iff_right (by decide : 1 < 2)).1 (show 2 ^ x.i.toNat < 2 ^ m.rel.length from q2)
    omega
  · obtain ⟨⟨k, ok⟩, _, q2, _⟩ := key x hx
    have hia : isAgent x.op = false := by rcases hg with e | e | e <;> rw [e] <;> rfl
    have hig : isGroup x.op = true := by rcases hg with e | e | e <;> rw [e] <;> rfl
    have hgr := ok.group hig
    rw [agN, hia] at q2
    have q2 : x.g.toNat < 2 ^ m.rel.length := q2
    rw [shl_n hA]
    omega
  · obtain ⟨⟨k, ok⟩, _, _, _, q4⟩ := key x hx
    have ha := ok.act h17
    unfold badA at q4
    rw [show (x.op == 17) = true by simpa using h17, cond_true] at q4
    cases hb : decide (x.i ≥ (acts.length : Int)) with
    | true => rw [hb] at q4; cases q4
    | false =>
      rw [hb, cond_false] at q4
      have g1 := of_decide_eq_false hb
      have g2 := of_decide_eq_false q4
      exact ⟨ha.1, by omega, ha.2.2.1, by omega⟩
/-- The evaluation of a node, its objects at other keys. -/
theorem at_R3 {acts : List Act} {c : List Nd} {A F j k e z : Nat} (h : ConE 36 (.pv (.int .i64 (j : Nat))) acts c A F j) {m : Mo} {n : Nat} {err : Int} (hM : ModD acts m n A F) (hE : err = 0 ∨ err = 8)
    {M : Nat → Prop} {w0 : World} {L : DH} {K : DV → DH → Prop} (hne : nodR [z, e, k] = true) (hlt : ([z, e, k].all fun q => Nat.blt q L.next) = true) (h0 : L.lo = 0)
    (hag : agrR (objsOf (H0 m acts c [] err)) L.get [z, e, k] 3) (hks : DV.keyss (memR [z, e, k]) [.ref e 0, .pv (.int .i64 (j : Nat))] = true) (hre : DV.rens (sigR [z, e, k]) [.ref e 0, .pv (.int .i64 (j : Nat))] = [.ref 1 0, .pv (.int .i64 (j : Nat))])
    (hK : ∀ s es' err', PostE acts c m n j err s es' err' → K (.pv (u64 s)) (L.mergeR (rhoR [z, e, k]) (sigR [z, e, k]) (memR [z, e, k]) ⟨3, 0, 3, objsOf (H0 m acts c es' err')⟩)) : DC Tryz.prog M w0 36 [.ref e 0, .pv (.int .i64 (j : Nat))] L K := by
  refine DC.callR [z, e, k] (H0 m acts c [] err) hne hlt h0 hag rfl hks (by rw [hre]; rfl) fun M' => ?_
  rw [hre]
  exact h m n [] err hM (fun k s h => by cases h) hE M' w0 3 _ fun s es' err' hp => ⟨rfl, hK s es' err' hp⟩
theorem at_R3v {acts : List Act} {c : List Nd} {A F j : Nat} (k e z : Nat) {v : Int} (h : ConE 36 (.pv (.int .i64 (j : Nat))) acts c A F j) (hv : v = (j : Int)) {m : Mo} {n : Nat} {err : Int} (hM : ModD acts m n A F) (hE : err = 0 ∨ err = 8)
    {M : Nat → Prop} {w0 : World} {L : DH} {K : DV → DH → Prop} (hne : nodR [z, e, k] = true) (hlt : ([z, e, k].all fun q => Nat.blt q L.next) = true) (h0 : L.lo = 0)
    (hag : agrR (objsOf (H0 m acts c [] err)) L.get [z, e, k] 3) (hks : DV.keyss (memR [z, e, k]) [.ref e 0, .pv (.int .i64 (j : Nat))] = true) (hre : DV.rens (sigR [z, e, k]) [.ref e 0, .pv (.int .i64 (j : Nat))] = [.ref 1 0, .pv (.int .i64 (j : Nat))])
    (hK : ∀ s es' err', PostE acts c m n j err s es' err' → K (.pv (u64 s)) (L.mergeR (rhoR [z, e, k]) (sigR [z, e, k]) (memR [z, e, k]) ⟨3, 0, 3, objsOf (H0 m acts c es' err')⟩)) : DC Tryz.prog M w0 36 [.ref e 0, .pv (.int .i64 v)] L K := by
  subst hv
  exact at_R3 h hM hE hne hlt h0 hag hks hre hK
def evZ (z k : Nat) (m : Mo) (acts : List Act) (c : List Nd) : List DV := [.pv (.int .i64 m.n), .pv (.sl (m.val.map u64)), .pv (.sl (m.rel.map rowPV)), .pv (u64 (2 ^ m.n.toNat - 1)), .pv (actsPV acts), .pv (fpv c), .mp k, .ref z 0]
def dynPV (x : Nat × Int) : PV := .tup [u64 x.1, .int .i64 x.2]
def holPlan : Plan := .one 0 (.one 1 (.one 2 (.one 3 (.one 5 (.one 4 (.one 6 (.one 7 .done)))))))
theorem dy_Holds (m : Mo) (acts : List Act) (f : List Nd) (hf : FitM m) (hS : ∀ a, a ∈ acts → SmA a) : PureFn Tryz.prog 10 [m.pv, actsPV acts, fpv f] (dynPV (dynI m acts f)) := by
  have hQ := dy_request m acts f hf hS
  have hK := fm_Compact f
  refine PureFn.introC [5, 6] mixed (fn := Tryz.f10) rfl rfl rfl fun M w0 => ?_
  (try conv=>whnf);repeat' (first|(apply And.intro<;>try conv=>whnf)|(intro h;try conv=>whnf)|(refine PureFn.dcq (f := 33) rfl ?_;try conv=>whnf)|(refine ⟨_, _, hQ, ?_, ?_⟩;(focus first|(refine ⟨?_, ?_, ?_, trivial⟩<;>first|exact PLe.refl _|exact PLe.nil)|exact trivial);try conv=>whnf)|fail)
  · have h0 : (reqD m acts f != 0) = true := h
    rw [show dynI m acts f = (0, reqD m acts f) by rw [dynI, h0]; rfl]
    exact .refl _
  have h0 : (reqD m acts f != 0) = false := h
  have h00 : reqD m acts f = 0 := by simpa using h0
  have hdy : dynI m acts f = match dvT acts (root f) m with
      | none => (0, 8)
      | some s => (s, 0) := by
    rw [dynI, h0, cond_false]
    cases dvT acts (root f) m <;> rfl
  have hC := cxd_of h00
  obtain ⟨h1, h2, _⟩ := reqD_iff.1 h00
  obtain ⟨n, hD, h8⟩ := chkD_ok h1
  have hcc := comp_can h2
  have hpos := hcc.pos
  have hlen := hcc.len
  have hn1 := hD.okm.n1
  have hn64 := hD.okm.n64
  have hnn : m.n.toNat = n := by rw [hD.okm.nn, Int.toNat_natCast]
  have hroot : tree (comp f) ((comp f).length - 1) = root f := by rw [← root_comp h2]; rfl
  have hat := at_all hC hS (comp f).length ((comp f).length - 1) (by omega) (by omega)
  have hMD : ModD acts m n m.rel.length m.val.length := ⟨hD, rfl, rfl⟩
  refine ⟨Unit, fun _ => [(1, .pv (actsPV acts)), (2, .pv (fpv f)), (3, .ref 0 0), (9, .ref 1 0)], fun _ => 2, fun _ => [(0, .var (cellsM m)), (1, .var [.pv (.int .i64 0)])], ?_, ?_⟩
  · try conv=>whnf
    exact ⟨(), (by refine Wk.of ?_ ?_ rfl rfl rfl<;>repeat' (first|exact trivial|exact WkD.same _|exact WkO.same _ _ rfl|refine ⟨?_, ?_⟩|fail))⟩
  rintro ⟨⟩
  refine ⟨Unit, fun _ => [(9, .ref 1 0), (10, .ref 5 0)], fun _ => 6, fun _ => [(1, .var [.pv (.int .i64 0)]), (4, .mp []), (5, .var (evZ 1 4 m acts (comp f)))], ?_, ?_⟩
  · try conv=>whnf
    refine ⟨holPlan, [6], by kernel_rfl, ?_⟩
    (try conv=>whnf);repeat' (first|(refine ⟨_, (by (conv=>whnf);exact hK), rfl, ?_⟩;try conv=>whnf)|fail)
    refine DC.weaken (DC.intro mixed (fn := Tryz.f35) rfl rfl rfl ?_)
    try conv=>whnf
    refine ⟨inPlan, [], by kernel_rfl, ?_⟩
    (try conv=>whnf);repeat' (first|(apply And.intro<;>try conv=>whnf)|fail)
    · show (0 : Int) ≤ IntKind.wrap .i64 (64 - m.n)
      rw [in_wrap hD.okm.nn hn1 hn64]; omega
    refine ⟨.ref 5 0, 6, [(1, .var [.pv (.int .i64 0)]), (4, .mp []), (5, .var (evZ 1 4 m acts (comp f)))], ?_, ?_⟩
    · refine Wk.of ⟨WkD.same _, trivial⟩ ⟨WkO.same _ _ rfl, trivial, WkO.same _ _ rfl, trivial, WkO.vars rfl ⟨WkD.same _, WkD.same _, WkD.same _, WkD.int ?_, WkD.same _, WkD.same _, WkD.same _, WkD.same _, trivial⟩, trivial, trivial⟩ rfl rfl rfl
      show shrU 18446744073709551615 (IntKind.wrap .i64 (64 - m.n)) = _
      rw [in_wrap hD.okm.nn hn1 hn64, hnn]; exact shr_all hn1 hn64
    try conv=>whnf
    exact ⟨(), (by refine Wk.of ?_ ?_ rfl rfl rfl<;>repeat' (first|exact trivial|exact WkD.same _|exact WkO.same _ _ rfl|refine ⟨?_, ?_⟩|fail))⟩
  rintro ⟨⟩
  try conv=>whnf
  have hw : IntKind.wrap .i64 ((((comp f).map Nd.pv).length : Int) - 1) = (((comp f).length - 1 : Nat) : Int) := by
    rw [List.length_map, Go.Dv.wrap_small (by omega) (by omega)]; omega
  refine at_R3v 4 5 1 hat hw hMD (.inl rfl) rfl rfl rfl ⟨⟨rfl, rfl⟩, ⟨rfl, rfl⟩, ⟨rfl, rfl⟩, trivial⟩ rfl rfl fun s es1 err1 p => ?_
  (try conv=>whnf);repeat' (first|(apply And.intro<;>try conv=>whnf)|(intro h;try conv=>whnf)|(refine lin_plan (by kernel_rfl) ?_;try conv=>whnf)|fail)
  · have he : err1 ≠ 0 := by simpa using h
    have hn : dvT acts (root f) m = none := by
      rcases p.no he with h | h
      · exact absurd rfl h
      · rw [hroot] at h; exact h
    have h8 : err1 = 8 := by rcases p.er with h | h; exact absurd h he; exact h
    rw [hdy, hn, h8]; exact .refl _
  · have he : err1 = 0 := by simpa using h
    obtain ⟨_, hs⟩ := p.ok he
    rw [hroot] at hs
    rw [hdy, hs]; exact .refl _
end Go.Proofs.YtlaolpkgabknfaaGreatDoor
set_option maxRecDepth 100000
set_option maxHeartbeats 8000000
namespace Go.Proofs.YtlaolpkgabknfaaGreatDoor
open Go Go.Dv

theorem memL_all {n : Nat} (hn : n ≤ 64) : memL (2 ^ n - 1) = List.range n := by
  rw [memL_range (pow_less n) hn]
  exact List.filter_eq_self.2 fun i hi => all_bit (List.mem_range.1 hi)
/-- All worlds of a model are the model. -/
theorem arr_all {m : Mo} {n : Nat} (hM : OkM m n) : arrI m (memL (2 ^ n - 1)) = m := by
  have hp : ∀ s, s < 2 ^ n → pullN s (List.range n) = s := fun s hs => by
    rw [pullN, List.length_range]
    have e : maskOf (fun i => s.testBit ((List.range n).getD i 0)) n = maskOf s.testBit n := maskOf_congr fun i hi => by
      show s.testBit ((List.range n).getD i 0) = s.testBit i
      rw [List.getD_eq_getElem?_getD, List.getElem?_range hi]; rfl
    rw [e]; exact maskOf_self hs
  rw [memL_all hM.n64]
  obtain ⟨mn, val, rel⟩ := m
  have e0 : mn = (n : Int) := hM.nn
  rw [arrI, List.length_range]
  show Mo.mk _ (val.map _) (rel.map _) = _
  rw [e0]
  congr 1
  · refine (List.map_congr_left fun s hs => hp s (hM.vbits s hs)).trans ?_
    exact List.map_id' _
  · refine (List.map_congr_left (g := id) fun r hr => ?_).trans (List.map_id _)
    have hl : r.length = n := hM.rows r hr
    apply List.ext_getElem (by simp [hl])
    intro i h1 h2
    have hi : i < n := by simpa using h1
    rw [List.getElem_map, List.getElem_range]
    show pullN (r.getD i 0) (List.range n) = r[i]
    rw [List.getD_eq_getElem?_getD, List.getElem?_eq_getElem (show i < r.length from h2)]
    exact hp _ (hM.bits r hr _ (List.getElem_mem h2))
def runL (acts : List Act) : Mo → Int → List (Int × Int) → Int → Mo × Int × Int × Int
  | m, w, [], i => (m, w, i, 0)
  | m, w, x :: r, i => bif (stepI acts m w x.1 x.2).2.2 != 0 then (noMo, 0, i, (stepI acts m w x.1 x.2).2.2) else runL acts (stepI acts m w x.1 x.2).1 (stepI acts m w x.1 x.2).2.1 r (i + 1)
def runI (m : Mo) (acts : List Act) (w : Int) (steps : List (Int × Int)) : Mo × Int × Int × Int :=
  bif chkD m acts != 0 then (noMo, 0, 0, chkD m acts) else bif badW m w then (noMo, 0, 0, 2) else runL acts m w steps 0
def stepPV (x : Int × Int) : PV := .agg [.int .i64 x.1, .int .i64 x.2]
def runPV (x : Mo × Int × Int × Int) : PV := .tup [x.1.pv, .int .i64 x.2.1, .int .i64 x.2.2.1, .int .i64 x.2.2.2]
theorem le_run (a b c : Int) : PLe (.tup [.agg [.int .i64 0, .nil, .nil], .int .i64 a, .int .i64 b, .int .i64 c]) (runPV (noMo, a, b, c)) := PLe.tups ⟨le_noMo, .refl _, .refl _, .refl _, trivial⟩
theorem step_ok {acts : List Act} {m : Mo} {w xa xe : Int} (h : (stepI acts m w xa xe).2.2 = 0) : badSt acts xa xe = false ∧ (updI m (acts.getD xa.toNat noAct)).2.2 = 0 ∧ stepI acts m w xa xe = ((updI m (acts.getD xa.toNat noAct)).1, ixP (updI m (acts.getD xa.toNat noAct)).2.1 w xe, 0) ∧
    (atCI m w ((acts.getD xa.toNat noAct).pre.getD xe.toNat [])).1 = true := by
  unfold stepI at h ⊢
  cases h1 : badSt acts xa xe with
  | true => rw [h1] at h; cases h
  | false =>
    rw [h1, cond_false] at h
    cases h2 : (atCI m w ((acts.getD xa.toNat noAct).pre.getD xe.toNat [])).1 with
    | false => rw [h2] at h; cases h
    | true =>
      rw [h2] at h
      simp only [Bool.not_true, cond_false] at h
      cases h3 : ((updI m (acts.getD xa.toNat noAct)).2.2 != 0) with
      | true => rw [h3] at h; simp only [cond_true] at h; rw [h] at h3; cases h3
      | false => exact ⟨rfl, by simpa using h3, rfl, rfl⟩
theorem step_okD {acts : List Act} {m : Mo} {n : Nat} {w xa xe : Int} (hD : OkD acts m n) (h : (stepI acts m w xa xe).2.2 = 0) : ∃ k, OkD acts (stepI acts m w xa xe).1 k := by
  obtain ⟨_, h2, h3, _⟩ := step_ok h
  rw [h3]
  exact ⟨_, (hD.upd h2).1⟩
theorem dy_Run (m : Mo) (acts : List Act) (w : Int) (steps : List (Int × Int)) (hf : FitM m) (hS : ∀ a, a ∈ acts → SmA a) (hl : steps.length ≤ 1000) : PureFn Tryz.prog 14 [m.pv, actsPV acts, .int .i64 w, .sl (steps.map stepPV)] (runPV (runI m acts w steps)) := by
  have hQ := dy_Check m acts hf hS
  refine PureFn.introC [4, 6, 7] mixed (fn := Tryz.f14) rfl rfl rfl fun M w0 => ?_
  try conv=>whnf
  refine ⟨{ _x : Unit // chkD m acts = 0 }, fun _ => [(1, .pv (actsPV acts)), (2, .pv (.int .i64 w)), (3, .pv (.sl (steps.map stepPV))), (4, .ref 0 0), (8, .ref 1 0)], fun _ => 2, fun _ => [(0, .var (cellsM m)), (1, .var [.pv (.int .i64 0), .pv .nil, .pv .nil])], ?_, ?_⟩
  · (try conv=>whnf);repeat' (first|(apply And.intro<;>try conv=>whnf)|(intro h;try conv=>whnf)|(refine PureFn.dcq (f := 12) rfl ?_;try conv=>whnf)|(refine ⟨_, _, hQ, ?_, ?_⟩;(focus first|(refine ⟨?_, ?_, trivial⟩<;>first|exact PLe.refl _|exact PLe.nil)|exact trivial);try conv=>whnf)|fail)
    · rw [runI, show (chkD m acts != 0) = true from h]; exact le_run _ _ _
    · exact ⟨⟨(), by simpa using h⟩, (by refine Wk.of ?_ ?_ rfl rfl rfl<;>repeat' (first|exact trivial|exact WkD.same _|exact WkO.same _ _ rfl|refine ⟨?_, ?_⟩|fail))⟩
  rintro ⟨_, h0⟩
  obtain ⟨n, hD, _⟩ := chkD_ok h0
  have hn1 := hD.okm.n1
  have hn64 := hD.okm.n64
  have hR := md_Restrict m n (2 ^ n - 1) hD.okm (pow_less n) (by have := Nat.pow_le_pow_right (show 1 ≤ 2 by decide) hn1; omega)
  rw [arr_all hD.okm] at hR
  have hsh : shrU 18446744073709551615 (IntKind.wrap .i64 (64 - m.n)) = ((2 ^ n - 1 : Nat) : Int) := by rw [in_wrap hD.okm.nn hn1 hn64]; exact shr_all hn1 hn64
  rw [show u64 (2 ^ n - 1) = .int .u64 (shrU 18446744073709551615 (IntKind.wrap .i64 (64 - m.n))) by rw [hsh]; rfl] at hR
  refine ⟨{ _x : Unit // badW m w = false }, fun _ => [(1, .pv (actsPV acts)), (2, .pv (.int .i64 w)), (3, .pv (.sl (steps.map stepPV))), (4, .ref 0 0), (8, .ref 1 0)], fun _ => 2, fun _ => [(0, .var (cellsM m)), (1, .var [.pv (.int .i64 0), .pv .nil, .pv .nil])], ?_, ?_⟩
  · (try conv=>whnf);repeat' (first|(apply And.intro<;>try conv=>whnf)|(intro h;try conv=>whnf)|apply True.intro|(apply WhenQ.mk;(try conv=>whnf);rotate_left;(try conv=>whnf);rotate_right)|with_reducible assumption|(apply not_of;with_reducible assumption)|fail)
    · rw [runI, h0, show badW m w = true from h]; exact le_run _ _ _
    · exact ⟨⟨(), h⟩, (by refine Wk.of ?_ ?_ rfl rfl rfl<;>repeat' (first|exact trivial|exact WkD.same _|exact WkO.same _ _ rfl|refine ⟨?_, ?_⟩|fail))⟩
  rintro ⟨_, h1⟩
  have hrun : runI m acts w steps = runL acts m w steps 0 := by rw [runI, h0, h1]; rfl
  rw [hrun]
  refine ⟨Unit, fun _ => [(1, .pv (actsPV acts)), (2, .pv (.int .i64 w)), (3, .pv (.sl (steps.map stepPV))), (4, .ref 0 0), (8, .ref 1 0)], fun _ => 2, fun _ => [(0, .var (cellsM m)), (1, .var [.pv (.int .i64 0), .pv .nil, .pv .nil])], ?_, ?_⟩
  · try conv=>whnf
    refine ⟨.one 0 (.one 1 (.one 2 (.one 3 (.one 4 (.one 5 (.one 6 (.one 7 (.one 8 (.one 9 (.one 10 .done)))))))))), [10], by kernel_rfl, ?_⟩
    (try conv=>whnf);repeat' (first|(apply And.intro<;>try conv=>whnf)|(refine ⟨_, (by (conv=>whnf);exact hR), rfl, ?_⟩;try conv=>whnf)|fail)
    · show (0 : Int) ≤ IntKind.wrap .i64 (64 - m.n)
      rw [in_wrap hD.okm.nn hn1 hn64]; omega
    · exact ⟨(), (by refine Wk.of ?_ ?_ rfl rfl rfl<;>repeat' (first|exact trivial|exact WkD.same _|exact WkO.same _ _ rfl|refine ⟨?_, ?_⟩|fail))⟩
  rintro ⟨⟩
  try conv=>whnf
  refine ⟨{ q : Nat × Mo × Int // q.1 ≤ steps.length ∧ (∃ k, OkD acts q.2.1 k) ∧ runL acts q.2.1 q.2.2 (steps.drop q.1) q.1 = runL acts m w steps 0 }, fun q => [(1, .pv (actsPV acts)), (2, .pv (.int .i64 q.1.2.2)), (3, .pv (.sl (steps.map stepPV))), (4, .ref 0 0), (8, .ref 1 0), (44, .pv (.sl (steps.map stepPV))), (45, .pv (i64 (steps.map stepPV).length)), (46, .pv (i64 q.1.1))], fun _ => 2, fun q => [(0, .var (cellsM q.1.2.1)), (1, .var [.pv (.int .i64 0), .pv .nil, .pv .nil])], fun q => steps.length - q.1.1, ⟨⟨(0, m, w), Nat.zero_le _, ⟨n, hD⟩, rfl⟩, (by refine Wk.of ?_ ?_ rfl rfl rfl<;>repeat' (first|exact trivial|exact WkD.same _|exact WkO.same _ _ rfl|refine ⟨?_, ?_⟩|fail))⟩, ?_⟩
  rintro ⟨⟨i, m1, w1⟩, hi, ⟨k, hk⟩, hd⟩
  simp only at hi hk hd
  (try conv=>whnf);repeat' (first|(apply And.intro<;>try conv=>whnf)|(intro h;try conv=>whnf)|(apply infoT;rfl)|fail)
  · have hi' : i < steps.length := by simpa using lt_dec h
    obtain ⟨⟨xa, xe⟩, hx, hxd⟩ : ∃ x, steps[i]? = some x ∧ steps.drop i = x :: steps.drop (i + 1) := ⟨_, List.getElem?_eq_getElem hi', List.drop_eq_getElem_cons hi'⟩
    have hst := dy_step m1 acts w1 xa xe hk.okm.fit hS
    rw [hxd, runL] at hd
    simp only at hd
    have hso := step_okD (w := w1) (xa := xa) (xe := xe) hk
    generalize stepI acts m1 w1 xa xe = S at hst hd hso
    obtain ⟨m2, w2, er⟩ := S
    refine ⟨_, _, rfl, idx_map hx, rfl, ?_⟩
    (try conv=>whnf);repeat' (first|(apply And.intro<;>try conv=>whnf)|(intro h;try conv=>whnf)|(refine PureFn.dcq (f := 45) rfl ?_;try conv=>whnf)|(refine ⟨_, _, hst, ?_, ?_⟩;(focus first|(refine ⟨?_, ?_, ?_, ?_, trivial⟩<;>first|exact PLe.refl _|exact PLe.nil)|exact trivial);try conv=>whnf)|fail)
    · have h : (er != 0) = true := h
      simp only [h, cond_true] at hd
      have g := le_run 0 (i : Int) er
      rw [hd] at g
      exact g
    · have h : (er != 0) = false := h
      simp only [h, cond_false] at hd
      refine ⟨⟨(i + 1, m2, w2), hi', hso (by simpa using h), by rw [← hd]; rfl⟩, by show steps.length - (i + 1) < steps.length - i; omega, (by refine Wk.of ?_ ?_ rfl rfl rfl<;>repeat' (first|exact trivial|exact WkD.same _|exact WkO.same _ _ rfl|refine WkD.int ?_|refine ⟨?_, ?_⟩|(refine wrapA ?_ ?_ ?_;(focus simp;done);(focus (try dsimp only);omega);(focus (try dsimp only);omega))|fail))⟩
  · have hi' : i = steps.length := by have := ge_dec (m := (steps.map stepPV).length) h (by simpa using hi); simpa using this
    rw [hi', List.drop_length, runL] at hd
    have g : PLe (.tup [m1.pv, .int .i64 w1, .int .i64 ((steps.map stepPV).length : Int), .int .i64 0]) (runPV (m1, w1, ((steps.map stepPV).length : Int), 0)) := .refl _
    rw [show ((m1, w1, ((steps.map stepPV).length : Int), (0 : Int)) : Mo × Int × Int × Int) = runL acts m w steps 0 by rw [List.length_map]; exact hd] at g
    exact g
end Go.Proofs.YtlaolpkgabknfaaGreatDoor
set_option maxRecDepth 100000
set_option maxHeartbeats 4000000
namespace Go.Proofs.YtlaolpkgabknfaaGreatDoor
open Go Go.Dv

theorem le_u64 {v : Int} {q : Nat} (h : v = (q : Int)) : PLe (.int .u64 v) (u64 q) := by subst h; exact .refl _
def booN (n : Nat) (op : Int) (x y : Nat) : Nat :=
  bif op == 1 then 2 ^ n - 1 else bif op == 4 then notN n x else bif op == 5 then x &&& y else bif op == 6 then x ||| y else bif op == 7 then notN n x ||| y else bif op == 8 then notN n (x ^^^ y) else 0
theorem rc_Boolean (n : Nat) (op : Int) (a b : Nat) (hn : n ≤ 64) (ha : a < 2 ^ n) (hb : b < 2 ^ n) : PureFn Tryz.prog 111 [.int .i64 op, u64 a, u64 b, u64 (2 ^ n - 1)] (u64 (booN n op a b)) := by
  refine PureFn.intro mixed (fn := Tryz.f111) rfl rfl rfl fun M w0 => ?_
  have h64 := pow64_le hn
  have ha64 : a < 2 ^ 64 := by omega
  have hb64 : b < 2 ^ 64 := by omega
  unfold booN
  cases f1 : (op == 1) with
  | true =>
    (try conv=>whnf);repeat' (first|(apply And.intro<;>try conv=>whnf)|(intro h;first|with_reducible exact tf (by assumption) h|try conv=>whnf)|fail)
    exact .refl _
  | false =>
  cases f4 : (op == 4) with
  | true =>
    (try conv=>whnf);repeat' (first|(apply And.intro<;>try conv=>whnf)|(intro h;first|with_reducible exact tf h (by assumption)|with_reducible exact tf (by assumption) h|try conv=>whnf)|fail)
    exact le_u64 (andNotU_all hn)
  | false =>
  cases f5 : (op == 5) with
  | true =>
    (try conv=>whnf);repeat' (first|(apply And.intro<;>try conv=>whnf)|(intro h;first|with_reducible exact tf h (by assumption)|with_reducible exact tf (by assumption) h|try conv=>whnf)|fail)
    exact le_u64 (andU_nat ha64 hb64)
  | false =>
  cases f6 : (op == 6) with
  | true =>
    (try conv=>whnf);repeat' (first|(apply And.intro<;>try conv=>whnf)|(intro h;first|with_reducible exact tf h (by assumption)|with_reducible exact tf (by assumption) h|try conv=>whnf)|fail)
    exact le_u64 (orU_nat ha64 hb64)
  | false =>
  cases f7 : (op == 7) with
  | true =>
    (try conv=>whnf);repeat' (first|(apply And.intro<;>try conv=>whnf)|(intro h;first|with_reducible exact tf h (by assumption)|with_reducible exact tf (by assumption) h|try conv=>whnf)|fail)
    refine le_u64 ?_
    show orU (andNotU ((2 ^ n - 1 : Nat) : Int) (a : Nat)) (b : Nat) = _
    rw [andNotU_all hn]
    exact orU_nat (Nat.lt_of_lt_of_le (notN_lt n a) h64) hb64
  | false =>
  cases f8 : (op == 8) with
  | true =>
    (try conv=>whnf);repeat' (first|(apply And.intro<;>try conv=>whnf)|(intro h;first|with_reducible exact tf h (by assumption)|with_reducible exact tf (by assumption) h|try conv=>whnf)|fail)
    refine le_u64 ?_
    show andNotU ((2 ^ n - 1 : Nat) : Int) (xorU (a : Nat) (b : Nat)) = _
    rw [xorU_nat ha64 hb64]
    exact andNotU_all hn
  | false =>
    (try conv=>whnf);repeat' (first|(apply And.intro<;>try conv=>whnf)|(intro h;first|with_reducible exact tf h (by assumption)|try conv=>whnf)|fail)
    exact .refl _
def cellsNd (op i e g x y : Int) : List DV := [.pv (.int .i64 op), .pv (.int .i64 i), .pv (.int .i64 e), .pv (.int .i64 g), .pv (.int .i64 x), .pv (.int .i64 y)]
theorem rc_One (m : Mo) (n : Nat) (hM : OkM m n) (x : Nd) (k : Int) (hk : OkNd x k) (hq : fitQ m x.op x.i x.e x.g = true) (a b : Nat) (ha : a < 2 ^ n) (hb : b < 2 ^ n) : PureFn Tryz.prog 70 [m.pv, x.pv, u64 a, u64 b] (u64 (vlN m n x.op x.i x.g a b)) := by
  obtain ⟨op, i, e, g, xx, yy⟩ := x
  refine PureFn.introC [2] mixed (fn := Tryz.f70) rfl rfl rfl fun M w0 => ?_
  have hn1 := hM.n1
  have hn := hM.n64
  have h64 := pow64_le hn
  have hag := hM.ag
  have ha64 : a < 2 ^ 64 := by omega
  have hb64 : b < 2 ^ 64 := by omega
  have hmn := hM.nn
  have hAll := rm_All n hn
  rw [show i64 n = .int .i64 m.n by rw [hmn]; rfl] at hAll
  have hBo := rc_Boolean n op a b hn ha hb
  try conv=>whnf
  refine ⟨Unit, fun _ => [(2, .pv (u64 a)), (3, .pv (u64 b)), (4, .ref 0 0), (5, .ref 1 0), (9, .pv (u64 (2 ^ n - 1)))], fun _ => 2, fun _ => [(0, .var (cellsM m)), (1, .var (cellsNd op i e g xx yy))], ?_, ?_⟩
  · (try conv=>whnf);repeat' (first|(refine PureFn.dcq (f := 20) rfl ?_;try conv=>whnf)|(refine ⟨_, _, hAll, ?_, ?_⟩;(focus first|(refine ⟨?_, trivial⟩<;>first|exact PLe.refl _|exact PLe.nil)|exact trivial);try conv=>whnf)|fail)
    exact ⟨(), (by refine Wk.of ?_ ?_ rfl rfl rfl<;>repeat' (first|exact trivial|exact WkD.same _|exact WkO.same _ _ rfl|refine ⟨?_, ?_⟩|fail))⟩
  rintro ⟨⟩
  have hop : op = 1 ∨ op = 2 ∨ op = 3 ∨ op = 4 ∨ op = 5 ∨ op = 6 ∨ op = 7 ∨ op = 8 ∨ op = 9 ∨ op = 10 ∨ op = 11 ∨ op = 12 ∨ op = 13 := by have := hk.op.1; have := fitQ_13 hq; simp only at *; omega
  rcases hop with rfl | rfl | rfl | rfl | rfl | rfl | rfl | rfl | rfl | rfl | rfl | rfl | rfl
  · skip
    have f1 : ((1 : Int) == 1) = true := rfl
    have f2 : ((1 : Int) == 2) = false := rfl
    have f3 : ((1 : Int) == 3) = false := rfl
    have f4 : ((1 : Int) == 4) = false := rfl
    have f5 : ((1 : Int) == 5) = false := rfl
    have f6 : ((1 : Int) == 6) = false := rfl
    have f7 : ((1 : Int) == 7) = false := rfl
    have f8 : ((1 : Int) == 8) = false := rfl
    have f9 : ((1 : Int) == 9) = false := rfl
    have f10 : ((1 : Int) == 10) = false := rfl
    have f11 : ((1 : Int) == 11) = false := rfl
    have f12 : ((1 : Int) == 12) = false := rfl
    have f13 : ((1 : Int) == 13) = false := rfl
    have fle : decide ((1 : Int) ≤ 8) = true := rfl
    (try conv=>whnf);repeat' (first|(apply And.intro<;>try conv=>whnf)|(intro h;first|with_reducible exact tf h (by assumption)|with_reducible exact tf (by assumption) h|try conv=>whnf)|(refine PureFn.dcq (f := 111) rfl ?_;try conv=>whnf)|(refine ⟨_, _, hBo, ?_, ?_⟩;(focus first|(refine ⟨?_, ?_, ?_, ?_, trivial⟩<;>first|exact PLe.refl _|exact PLe.nil)|exact trivial);try conv=>whnf)|fail)
    exact .refl _
  · skip
    have f1 : ((2 : Int) == 1) = false := rfl
    have f2 : ((2 : Int) == 2) = true := rfl
    have f3 : ((2 : Int) == 3) = false := rfl
    have f4 : ((2 : Int) == 4) = false := rfl
    have f5 : ((2 : Int) == 5) = false := rfl
    have f6 : ((2 : Int) == 6) = false := rfl
    have f7 : ((2 : Int) == 7) = false := rfl
    have f8 : ((2 : Int) == 8) = false := rfl
    have f9 : ((2 : Int) == 9) = false := rfl
    have f10 : ((2 : Int) == 10) = false := rfl
    have f11 : ((2 : Int) == 11) = false := rfl
    have f12 : ((2 : Int) == 12) = false := rfl
    have f13 : ((2 : Int) == 13) = false := rfl
    have fle : decide ((2 : Int) ≤ 8) = true := rfl
    (try conv=>whnf);repeat' (first|(apply And.intro<;>try conv=>whnf)|(intro h;first|with_reducible exact tf h (by assumption)|with_reducible exact tf (by assumption) h|try conv=>whnf)|(refine PureFn.dcq (f := 111) rfl ?_;try conv=>whnf)|(refine ⟨_, _, hBo, ?_, ?_⟩;(focus first|(refine ⟨?_, ?_, ?_, ?_, trivial⟩<;>first|exact PLe.refl _|exact PLe.nil)|exact trivial);try conv=>whnf)|fail)
    exact .refl _
  · skip
    have f1 : ((3 : Int) == 1) = false := rfl
    have f2 : ((3 : Int) == 2) = false := rfl
    have f3 : ((3 : Int) == 3) = true := rfl
    have f4 : ((3 : Int) == 4) = false := rfl
    have f5 : ((3 : Int) == 5) = false := rfl
    have f6 : ((3 : Int) == 6) = false := rfl
    have f7 : ((3 : Int) == 7) = false := rfl
    have f8 : ((3 : Int) == 8) = false := rfl
    have f9 : ((3 : Int) == 9) = false := rfl
    have f10 : ((3 : Int) == 10) = false := rfl
    have f11 : ((3 : Int) == 11) = false := rfl
    have f12 : ((3 : Int) == 12) = false := rfl
    have f13 : ((3 : Int) == 13) = false := rfl
    have fle : decide ((3 : Int) ≤ 8) = true := rfl
    have hi := (hk.fact rfl).1
    simp only at hi
    obtain ⟨j, rfl⟩ : ∃ j : Nat, i = j := ⟨i.toNat, by omega⟩
    have h9 : decide ((j : Int) ≥ (m.val.length : Int)) = false := by
      have h : (!decide ((j : Int) ≥ (m.val.length : Int))) = true := hq
      simpa using h
    have h8 := of_decide_eq_false h9
    have hm : m.val[j]? = some (m.val.getD j 0) := getD_mem (by omega)
    (try conv=>whnf);repeat' (first|(apply And.intro<;>try conv=>whnf)|(intro h;first|with_reducible exact tf (by assumption) h|try conv=>whnf)|(apply infoT;rfl)|(refine ⟨_, _, rfl, idx_map (by with_reducible assumption), rfl, ?_⟩;try conv=>whnf)|fail)
    exact .refl _
  · skip
    have f1 : ((4 : Int) == 1) = false := rfl
    have f2 : ((4 : Int) == 2) = false := rfl
    have f3 : ((4 : Int) == 3) = false := rfl
    have f4 : ((4 : Int) == 4) = true := rfl
    have f5 : ((4 : Int) == 5) = false := rfl
    have f6 : ((4 : Int) == 6) = false := rfl
    have f7 : ((4 : Int) == 7) = false := rfl
    have f8 : ((4 : Int) == 8) = false := rfl
    have f9 : ((4 : Int) == 9) = false := rfl
    have f10 : ((4 : Int) == 10) = false := rfl
    have f11 : ((4 : Int) == 11) = false := rfl
    have f12 : ((4 : Int) == 12) = false := rfl
    have f13 : ((4 : Int) == 13) = false := rfl
    have fle : decide ((4 : Int) ≤ 8) = true := rfl
    (try conv=>whnf);repeat' (first|(apply And.intro<;>try conv=>whnf)|(intro h;first|with_reducible exact tf h (by assumption)|with_reducible exact tf (by assumption) h|try conv=>whnf)|(refine PureFn.dcq (f := 111) rfl ?_;try conv=>whnf)|(refine ⟨_, _, hBo, ?_, ?_⟩;(focus first|(refine ⟨?_, ?_, ?_, ?_, trivial⟩<;>first|exact PLe.refl _|exact PLe.nil)|exact trivial);try conv=>whnf)|fail)
    exact .refl _
  · skip
    have f1 : ((5 : Int) == 1) = false := rfl
    have f2 : ((5 : Int) == 2) = false := rfl
    have f3 : ((5 : Int) == 3) = false := rfl
    have f4 : ((5 : Int) == 4) = false := rfl
    have f5 : ((5 : Int) == 5) = true := rfl
    have f6 : ((5 : Int) == 6) = false := rfl
    have f7 : ((5 : Int) == 7) = false := rfl
    have f8 : ((5 : Int) == 8) = false := rfl
    have f9 : ((5 : Int) == 9) = false := rfl
    have f10 : ((5 : Int) == 10) = false := rfl
    have f11 : ((5 : Int) == 11) = false := rfl
    have f12 : ((5 : Int) == 12) = false := rfl
    have f13 : ((5 : Int) == 13) = false := rfl
    have fle : decide ((5 : Int) ≤ 8) = true := rfl
    (try conv=>whnf);repeat' (first|(apply And.intro<;>try conv=>whnf)|(intro h;first|with_reducible exact tf h (by assumption)|with_reducible exact tf (by assumption) h|try conv=>whnf)|(refine PureFn.dcq (f := 111) rfl ?_;try conv=>whnf)|(refine ⟨_, _, hBo, ?_, ?_⟩;(focus first|(refine ⟨?_, ?_, ?_, ?_, trivial⟩<;>first|exact PLe.refl _|exact PLe.nil)|exact trivial);try conv=>whnf)|fail)
    exact .refl _
  · skip
    have f1 : ((6 : Int) == 1) = false := rfl
    have f2 : ((6 : Int) == 2) = false := rfl
    have f3 : ((6 : Int) == 3) = false := rfl
    have f4 : ((6 : Int) == 4) = false := rfl
    have f5 : ((6 : Int) == 5) = false := rfl
    have f6 : ((6 : Int) == 6) = true := rfl
    have f7 : ((6 : Int) == 7) = false := rfl
    have f8 : ((6 : Int) == 8) = false := rfl
    have f9 : ((6 : Int) == 9) = false := rfl
    have f10 : ((6 : Int) == 10) = false := rfl
    have f11 : ((6 : Int) == 11) = false := rfl
    have f12 : ((6 : Int) == 12) = false := rfl
    have f13 : ((6 : Int) == 13) = false := rfl
    have fle : decide ((6 : Int) ≤ 8) = true := rfl
    (try conv=>whnf);repeat' (first|(apply And.intro<;>try conv=>whnf)|(intro h;first|with_reducible exact tf h (by assumption)|with_reducible exact tf (by assumption) h|try conv=>whnf)|(refine PureFn.dcq (f := 111) rfl ?_;try conv=>whnf)|(refine ⟨_, _, hBo, ?_, ?_⟩;(focus first|(refine ⟨?_, ?_, ?_, ?_, trivial⟩<;>first|exact PLe.refl _|exact PLe.nil)|exact trivial);try conv=>whnf)|fail)
    exact .refl _
  · skip
    have f1 : ((7 : Int) == 1) = false := rfl
    have f2 : ((7 : Int) == 2) = false := rfl
    have f3 : ((7 : Int) == 3) = false := rfl
    have f4 : ((7 : Int) == 4) = false := rfl
    have f5 : ((7 : Int) == 5) = false := rfl
    have f6 : ((7 : Int) == 6) = false := rfl
    have f7 : ((7 : Int) == 7) = true := rfl
    have f8 : ((7 : Int) == 8) = false := rfl
    have f9 : ((7 : Int) == 9) = false := rfl
    have f10 : ((7 : Int) == 10) = false := rfl
    have f11 : ((7 : Int) == 11) = false := rfl
    have f12 : ((7 : Int) == 12) = false := rfl
    have f13 : ((7 : Int) == 13) = false := rfl
    have fle : decide ((7 : Int) ≤ 8) = true := rfl
    (try conv=>whnf);repeat' (first|(apply And.intro<;>try conv=>whnf)|(intro h;first|with_reducible exact tf h (by assumption)|with_reducible exact tf (by assumption) h|try conv=>whnf)|(refine PureFn.dcq (f := 111) rfl ?_;try conv=>whnf)|(refine ⟨_, _, hBo, ?_, ?_⟩;(focus first|(refine ⟨?_, ?_, ?_, ?_, trivial⟩<;>first|exact PLe.refl _|exact PLe.nil)|exact trivial);try conv=>whnf)|fail)
    exact .refl _
  · skip
    have f1 : ((8 : Int) == 1) = false := rfl
    have f2 : ((8 : Int) == 2) = false := rfl
    have f3 : ((8 : Int) == 3) = false := rfl
    have f4 : ((8 : Int) == 4) = false := rfl
    have f5 : ((8 : Int) == 5) = false := rfl
    have f6 : ((8 : Int) == 6) = false := rfl
    have f7 : ((8 : Int) == 7) = false := rfl
    have f8 : ((8 : Int) == 8) = true := rfl
    have f9 : ((8 : Int) == 9) = false := rfl
    have f10 : ((8 : Int) == 10) = false := rfl
    have f11 : ((8 : Int) == 11) = false := rfl
    have f12 : ((8 : Int) == 12) = false := rfl
    have f13 : ((8 : Int) == 13) = false := rfl
    have fle : decide ((8 : Int) ≤ 8) = true := rfl
    (try conv=>whnf);repeat' (first|(apply And.intro<;>try conv=>whnf)|(intro h;first|with_reducible exact tf h (by assumption)|with_reducible exact tf (by assumption) h|try conv=>whnf)|(refine PureFn.dcq (f := 111) rfl ?_;try conv=>whnf)|(refine ⟨_, _, hBo, ?_, ?_⟩;(focus first|(refine ⟨?_, ?_, ?_, ?_, trivial⟩<;>first|exact PLe.refl _|exact PLe.nil)|exact trivial);try conv=>whnf)|fail)
    exact .refl _
  · skip
    have f1 : ((9 : Int) == 1) = false := rfl
    have f2 : ((9 : Int) == 2) = false := rfl
    have f3 : ((9 : Int) == 3) = false := rfl
    have f4 : ((9 : Int) == 4) = false := rfl
    have f5 : ((9 : Int) == 5) = false := rfl
    have f6 : ((9 : Int) == 6) = false := rfl
    have f7 : ((9 : Int) == 7) = false := rfl
    have f8 : ((9 : Int) == 8) = false := rfl
    have f9 : ((9 : Int) == 9) = true := rfl
    have f10 : ((9 : Int) == 10) = false := rfl
    have f11 : ((9 : Int) == 11) = false := rfl
    have f12 : ((9 : Int) == 12) = false := rfl
    have f13 : ((9 : Int) == 13) = false := rfl
    have fle : decide ((9 : Int) ≤ 8) = false := rfl
    have hi := (hk.agent rfl).1
    simp only at hi
    obtain ⟨j, rfl⟩ : ∃ j : Nat, i = j := ⟨i.toNat, by omega⟩
    have h9 : decide ((j : Int) ≥ (m.rel.length : Int)) = false := by
      have h : (!decide ((j : Int) ≥ (m.rel.length : Int))) = true := hq
      simpa using h
    have h8 := of_decide_eq_false h9
    have hm : m.rel[j]? = some (m.rel.getD j []) := getD_mem (by omega)
    have hrm := List.mem_iff_getElem?.2 ⟨j, hm⟩
    have hB := rc_Box n (m.rel.getD j []) a hn (hM.rows _ hrm) (hM.fit.2 _ hrm)
    rw [show i64 n = .int .i64 m.n by rw [hmn]; rfl] at hB
    (try conv=>whnf);repeat' (first|(apply And.intro<;>try conv=>whnf)|(intro h;first|with_reducible exact tf h (by assumption)|with_reducible exact tf (by assumption) h|try conv=>whnf)|(apply infoT;rfl)|(refine lin_plan (by kernel_rfl) ?_;try conv=>whnf)|(refine ⟨_, _, rfl, idx_map (by with_reducible assumption), rfl, ?_⟩;try conv=>whnf)|(refine ⟨_, (by (conv=>whnf);exact hB), rfl, ?_⟩;try conv=>whnf)|fail)
    exact .refl _
  · skip
    have f1 : ((10 : Int) == 1) = false := rfl
    have f2 : ((10 : Int) == 2) = false := rfl
    have f3 : ((10 : Int) == 3) = false := rfl
    have f4 : ((10 : Int) == 4) = false := rfl
    have f5 : ((10 : Int) == 5) = false := rfl
    have f6 : ((10 : Int) == 6) = false := rfl
    have f7 : ((10 : Int) == 7) = false := rfl
    have f8 : ((10 : Int) == 8) = false := rfl
    have f9 : ((10 : Int) == 9) = false := rfl
    have f10 : ((10 : Int) == 10) = true := rfl
    have f11 : ((10 : Int) == 11) = false := rfl
    have f12 : ((10 : Int) == 12) = false := rfl
    have f13 : ((10 : Int) == 13) = false := rfl
    have fle : decide ((10 : Int) ≤ 8) = false := rfl
    have hi := (hk.agent rfl).1
    simp only at hi
    obtain ⟨j, rfl⟩ : ∃ j : Nat, i = j := ⟨i.toNat, by omega⟩
    have h9 : decide ((j : Int) ≥ (m.rel.length : Int)) = false := by
      have h : (!decide ((j : Int) ≥ (m.rel.length : Int))) = true := hq
      simpa using h
    have h8 := of_decide_eq_false h9
    have hm : m.rel[j]? = some (m.rel.getD j []) := getD_mem (by omega)
    have hrm := List.mem_iff_getElem?.2 ⟨j, hm⟩
    have hB := rc_Box n (m.rel.getD j []) (notN n a) hn (hM.rows _ hrm) (hM.fit.2 _ hrm)
    rw [show i64 n = .int .i64 m.n by rw [hmn]; rfl, show u64 (notN n a) = .int .u64 (andNotU ((2 ^ n - 1 : Nat) : Int) (a : Nat)) by rw [andNotU_all hn]; rfl] at hB
    (try conv=>whnf);repeat' (first|(apply And.intro<;>try conv=>whnf)|(intro h;first|with_reducible exact tf h (by assumption)|with_reducible exact tf (by assumption) h|try conv=>whnf)|(apply infoT;rfl)|(refine lin_plan (by kernel_rfl) ?_;try conv=>whnf)|(refine ⟨_, _, rfl, idx_map (by with_reducible assumption), rfl, ?_⟩;try conv=>whnf)|(refine ⟨_, (by (conv=>whnf);exact hB), rfl, ?_⟩;try conv=>whnf)|fail)
    exact le_u64 (andNotU_all hn)
  · skip
    have f1 : ((11 : Int) == 1) = false := rfl
    have f2 : ((11 : Int) == 2) = false := rfl
    have f3 : ((11 : Int) == 3) = false := rfl
    have f4 : ((11 : Int) == 4) = false := rfl
    have f5 : ((11 : Int) == 5) = false := rfl
    have f6 : ((11 : Int) == 6) = false := rfl
    have f7 : ((11 : Int) == 7) = false := rfl
    have f8 : ((11 : Int) == 8) = false := rfl
    have f9 : ((11 : Int) == 9) = false := rfl
    have f10 : ((11 : Int) == 10) = false := rfl
    have f11 : ((11 : Int) == 11) = true := rfl
    have f12 : ((11 : Int) == 12) = false := rfl
    have f13 : ((11 : Int) == 13) = false := rfl
    have fle : decide ((11 : Int) ≤ 8) = false := rfl
    have hg1 := (hk.group rfl).1
    simp only at hg1
    have h9 : decide (g ≥ shl64 1 (m.rel.length : Int)) = false := by
      have h : (!decide (g ≥ shl64 1 (m.rel.length : Int))) = true := hq
      simpa using h
    have h8 := of_decide_eq_false h9
    have hG := rm_Group m n hM g
    obtain ⟨hgl, hgb⟩ := grp_facts (op := orF) (first := 0) hM (fun _ _ hx hy => Nat.or_lt_two_pow hx hy) (Nat.two_pow_pos n) hg1 (by omega)
    have hv : vlN m n 11 i g a b = boxN n (grpM orF m g 0) a := rfl
    rw [hv]
    clear hv
    generalize grpM orF m g 0 = G at hG hgl hgb ⊢
    have hB := rc_Box n G a hn hgl (fun s hs => Nat.lt_of_lt_of_le (hgb s hs) h64)
    rw [show i64 n = .int .i64 m.n by rw [hmn]; rfl] at hB
    (try conv=>whnf);repeat' (first|(apply And.intro<;>try conv=>whnf)|(intro h;first|with_reducible exact tf h (by assumption)|with_reducible exact tf (by assumption) h|try conv=>whnf)|(refine lin_plan (by kernel_rfl) ?_;try conv=>whnf)|(refine ⟨_, (by (conv=>whnf);exact hG), rfl, ?_⟩;try conv=>whnf)|(refine ⟨_, (by (conv=>whnf);exact hB), rfl, ?_⟩;try conv=>whnf)|fail)
    exact .refl _
  · skip
    have f1 : ((12 : Int) == 1) = false := rfl
    have f2 : ((12 : Int) == 2) = false := rfl
    have f3 : ((12 : Int) == 3) = false := rfl
    have f4 : ((12 : Int) == 4) = false := rfl
    have f5 : ((12 : Int) == 5) = false := rfl
    have f6 : ((12 : Int) == 6) = false := rfl
    have f7 : ((12 : Int) == 7) = false := rfl
    have f8 : ((12 : Int) == 8) = false := rfl
    have f9 : ((12 : Int) == 9) = false := rfl
    have f10 : ((12 : Int) == 10) = false := rfl
    have f11 : ((12 : Int) == 11) = false := rfl
    have f12 : ((12 : Int) == 12) = true := rfl
    have f13 : ((12 : Int) == 13) = false := rfl
    have fle : decide ((12 : Int) ≤ 8) = false := rfl
    have hg1 := (hk.group rfl).1
    simp only at hg1
    have h9 : decide (g ≥ shl64 1 (m.rel.length : Int)) = false := by
      have h : (!decide (g ≥ shl64 1 (m.rel.length : Int))) = true := hq
      simpa using h
    have h8 := of_decide_eq_false h9
    have hG := rm_Meet m n hM g
    obtain ⟨hgl, hgb⟩ := grp_facts (op := andF) (first := (2 ^ n - 1)) hM (fun _ _ hx _ => Nat.lt_of_le_of_lt Nat.and_le_left hx) (by have := Nat.two_pow_pos n; omega) hg1 (by omega)
    have hv : vlN m n 12 i g a b = boxN n (grpM andF m g (2 ^ n - 1)) a := rfl
    rw [hv]
    clear hv
    generalize grpM andF m g (2 ^ n - 1) = G at hG hgl hgb ⊢
    have hB := rc_Box n G a hn hgl (fun s hs => Nat.lt_of_lt_of_le (hgb s hs) h64)
    rw [show i64 n = .int .i64 m.n by rw [hmn]; rfl] at hB
    (try conv=>whnf);repeat' (first|(apply And.intro<;>try conv=>whnf)|(intro h;first|with_reducible exact tf h (by assumption)|with_reducible exact tf (by assumption) h|try conv=>whnf)|(refine lin_plan (by kernel_rfl) ?_;try conv=>whnf)|(refine ⟨_, (by (conv=>whnf);exact hG), rfl, ?_⟩;try conv=>whnf)|(refine ⟨_, (by (conv=>whnf);exact hB), rfl, ?_⟩;try conv=>whnf)|fail)
    exact .refl _
  · skip
    have f1 : ((13 : Int) == 1) = false := rfl
    have f2 : ((13 : Int) == 2) = false := rfl
    have f3 : ((13 : Int) == 3) = false := rfl
    have f4 : ((13 : Int) == 4) = false := rfl
    have f5 : ((13 : Int) == 5) = false := rfl
    have f6 : ((13 : Int) == 6) = false := rfl
    have f7 : ((13 : Int) == 7) = false := rfl
    have f8 : ((13 : Int) == 8) = false := rfl
    have f9 : ((13 : Int) == 9) = false := rfl
    have f10 : ((13 : Int) == 10) = false := rfl
    have f11 : ((13 : Int) == 11) = false := rfl
    have f12 : ((13 : Int) == 12) = false := rfl
    have f13 : ((13 : Int) == 13) = true := rfl
    have fle : decide ((13 : Int) ≤ 8) = false := rfl
    have hg1 := (hk.group rfl).1
    simp only at hg1
    have h9 : decide (g ≥ shl64 1 (m.rel.length : Int)) = false := by
      have h : (!decide (g ≥ shl64 1 (m.rel.length : Int))) = true := hq
      simpa using h
    have h8 := of_decide_eq_false h9
    have hG := rm_Group m n hM g
    obtain ⟨hgl, hgb⟩ := grp_facts (op := orF) (first := 0) hM (fun _ _ hx hy => Nat.or_lt_two_pow hx hy) (Nat.two_pow_pos n) hg1 (by omega)
    have hv : vlN m n 13 i g a b = comN n (grpM orF m g 0) a b := rfl
    rw [hv]
    clear hv
    generalize grpM orF m g 0 = G at hG hgl hgb ⊢
    have hB := rc_common n G a b hn hgl hgb ha64
    rw [show i64 n = .int .i64 m.n by rw [hmn]; rfl] at hB
    (try conv=>whnf);repeat' (first|(apply And.intro<;>try conv=>whnf)|(intro h;first|with_reducible exact tf h (by assumption)|try conv=>whnf)|(refine lin_plan (by kernel_rfl) ?_;try conv=>whnf)|(refine ⟨_, (by (conv=>whnf);exact hG), rfl, ?_⟩;try conv=>whnf)|(refine ⟨_, (by (conv=>whnf);exact hB), rfl, ?_⟩;try conv=>whnf)|fail)
    exact .refl _
end Go.Proofs.YtlaolpkgabknfaaGreatDoor
set_option maxRecDepth 100000
set_option maxHeartbeats 4000000
namespace Go.Proofs.YtlaolpkgabknfaaGreatDoor
open Go Go.Dv

theorem rc_Check (m : Mo) (f : List Nd) (hf : FitM m) : PureFn Tryz.prog 130 [m.pv, fpv f, .int .i64 15] (.int .i64 (reqI m f)) := by
  refine PureFn.introC [2, 5] mixed (fn := Tryz.f130) rfl rfl rfl fun M w0 => ?_
  have hC := rm_Check m hf
  have h1 := ref_Check f
  have h2 := ref_Frags f
  have h3 := ref_Fits f ((m.rel.map rowPV).length : Nat) ((m.val.map u64).length : Nat)
  rw [reqI, statI, show (m.rel.length : Int) = ((m.rel.map rowPV).length : Nat) by simp, show (m.val.length : Int) = ((m.val.map u64).length : Nat) by simp]
  generalize moI m = c at hC
  generalize check f = d at h1
  generalize fits f ((m.rel.map rowPV).length : Nat) ((m.val.map u64).length : Nat) = b at h3
  try conv=>whnf
  refine ⟨Unit, fun _ => [(1, .pv (fpv f)), (2, .pv (.int .i64 15)), (3, .ref 0 0), (7, .pv (.int .i64 c))], fun _ => 1, fun _ => HM m, ?_, ?_⟩
  · (try conv=>whnf);repeat' (first|(refine PureFn.dcq (f := 42) rfl ?_;try conv=>whnf)|(refine ⟨_, _, hC, ?_, ?_⟩;(focus first|(refine ⟨?_, trivial⟩<;>first|exact PLe.refl _|exact PLe.nil)|exact trivial);try conv=>whnf)|fail)
    exact ⟨(), (by refine Wk.of ?_ ?_ rfl rfl rfl<;>repeat' (first|exact trivial|exact WkD.same _|exact WkO.same _ _ rfl|refine ⟨?_, ?_⟩|fail))⟩
  rintro ⟨⟩
  (try conv=>whnf);repeat' (first|(apply And.intro<;>try conv=>whnf)|(intro h;try conv=>whnf)|fail)
  · rw [show (c != 0) = true from h]; exact .refl _
  refine ⟨Unit, fun _ => [(1, .pv (fpv f)), (2, .pv (.int .i64 15)), (3, .ref 0 0), (7, .pv (.int .i64 d))], fun _ => 1, fun _ => HM m, ?_, ?_⟩
  · (try conv=>whnf);repeat' (first|(refine PureFn.dcq (f := 60) rfl ?_;try conv=>whnf)|(refine ⟨_, _, h1, ?_, ?_⟩;(focus first|(refine ⟨?_, trivial⟩<;>first|exact PLe.refl _|exact PLe.nil)|exact trivial);try conv=>whnf)|fail)
    exact ⟨(), (by refine Wk.of ?_ ?_ rfl rfl rfl<;>repeat' (first|exact trivial|exact WkD.same _|exact WkO.same _ _ rfl|refine ⟨?_, ?_⟩|fail))⟩
  rintro ⟨⟩
  rw [show (c != 0) = false from h]
  (try conv=>whnf);repeat' (first|(apply And.intro<;>try conv=>whnf)|(intro h;try conv=>whnf)|(refine PureFn.dcq (f := 61) rfl ?_;try conv=>whnf)|(refine PureFn.dcq (f := 62) rfl ?_;try conv=>whnf)|(refine ⟨_, _, h2, ?_, ?_⟩;(focus first|(refine ⟨?_, trivial⟩<;>first|exact PLe.refl _|exact PLe.nil)|exact trivial);try conv=>whnf)|(refine ⟨_, _, h3, ?_, ?_⟩;(focus first|(refine ⟨?_, ?_, ?_, trivial⟩<;>first|exact PLe.refl _|exact PLe.nil)|exact trivial);try conv=>whnf)|fail)
  · rw [show (d != 0) = true from h]; exact .refl _
  · rename_i hd
    rw [show (d != 0) = false from hd, show (nand64' (frags f : Nat) 15 != 0) = true from h]; exact .refl _
  · rename_i hd hn
    rw [show (d != 0) = false from hd, show (nand64' (frags f : Nat) 15 != 0) = false from hn, h]; exact .refl _
  · rename_i hd hn
    rw [show (d != 0) = false from hd, show (nand64' (frags f : Nat) 15 != 0) = false from hn, h]; exact .refl _
theorem rc_fits (m : Mo) (f : List Nd) (i : Nat) (hs : statI (m.rel.length : Int) (m.val.length : Int) (sub f i) = 0) : PureFn Tryz.prog 153 [m.pv, fpv f, i64 i] (.bool true) := by
  refine PureFn.introC [2] mixed (fn := Tryz.f153) rfl rfl rfl fun M w0 => ?_
  have h1 := ref_Sub f i
  have h2 := ref_Frags (sub f i)
  have h3 := ref_Fits (sub f i) ((m.rel.map rowPV).length : Nat) ((m.val.map u64).length : Nat)
  obtain ⟨_, hs1, hs2⟩ := statI_ok hs
  rw [show (m.rel.length : Int) = ((m.rel.map rowPV).length : Nat) by simp, show (m.val.length : Int) = ((m.val.map u64).length : Nat) by simp] at hs2
  rw [hs2] at h3
  generalize sub f i = g at h1 h2 h3 hs1
  try conv=>whnf
  refine ⟨Unit, fun _ => [(3, .ref 0 0), (7, .pv (fpv g))], fun _ => 1, fun _ => HM m, ?_, ?_⟩
  · (try conv=>whnf);repeat' (first|(refine PureFn.dcq (f := 64) rfl ?_;try conv=>whnf)|(refine ⟨_, _, h1, ?_, ?_⟩;(focus first|(refine ⟨?_, ?_, trivial⟩<;>first|exact PLe.refl _|exact PLe.nil)|exact trivial);try conv=>whnf)|fail)
    exact ⟨(), (by refine Wk.of ?_ ?_ rfl rfl rfl<;>repeat' (first|exact trivial|exact WkD.same _|exact WkO.same _ _ rfl|refine ⟨?_, ?_⟩|fail))⟩
  rintro ⟨⟩
  (try conv=>whnf);repeat' (first|(apply And.intro<;>try conv=>whnf)|(intro h;try conv=>whnf)|apply True.intro|(apply WhenQ.mk;(try conv=>whnf);rotate_left;(try conv=>whnf);rotate_right)|with_reducible assumption|(refine PureFn.dcq (f := 61) rfl ?_;try conv=>whnf)|(refine PureFn.dcq (f := 62) rfl ?_;try conv=>whnf)|(refine ⟨_, _, h2, ?_, ?_⟩;(focus first|(refine ⟨?_, trivial⟩<;>first|exact PLe.refl _|exact PLe.nil)|exact trivial);try conv=>whnf)|(refine ⟨_, _, h3, ?_, ?_⟩;(focus first|(refine ⟨?_, ?_, ?_, trivial⟩<;>first|exact PLe.refl _|exact PLe.nil)|exact trivial);try conv=>whnf)|fail)
  refine le_bool ?_
  show (bif nand64' (frags g : Nat) 15 == 0 then true else false) = true
  rw [show nand64' (frags g : Nat) 15 = 0 by simpa using hs1]; rfl
theorem rc_Sets_bad (m : Mo) (f : List Nd) (hf : FitM m) (h0 : (reqI m f != 0) = true) : PureFn Tryz.prog 129 [m.pv, fpv f] (.tup [.nil, .int .i64 (reqI m f)]) := by
  refine PureFn.introC [2] mixed (fn := Tryz.f129) rfl rfl rfl fun M w0 => ?_
  have hC := rc_Check m f hf
  generalize reqI m f = c at h0 hC
  try conv=>whnf
  refine ⟨Unit, fun _ => [(6, .pv (.int .i64 c))], fun _ => 1, fun _ => HM m, ?_, ?_⟩
  · (try conv=>whnf);repeat' (first|(refine PureFn.dcq (f := 130) rfl ?_;try conv=>whnf)|(refine ⟨_, _, hC, ?_, ?_⟩;(focus first|(refine ⟨?_, ?_, ?_, trivial⟩<;>first|exact PLe.refl _|exact PLe.nil)|exact trivial);try conv=>whnf)|fail)
    exact ⟨(), (by refine Wk.of ?_ ?_ rfl rfl rfl<;>repeat' (first|exact trivial|exact WkD.same _|exact WkO.same _ _ rfl|refine ⟨?_, ?_⟩|fail))⟩
  rintro ⟨⟩
  (try conv=>whnf);repeat' (first|(apply And.intro<;>try conv=>whnf)|(intro h;first|with_reducible exact tf (by assumption) h|try conv=>whnf)|fail)
  all_goals exact .refl _
theorem setsR_lt {m : Mo} {n : Nat} (hM : OkM m n) (f : List Nd) : ∀ v, v ∈ setsR m n f → v < 2 ^ n := by
  have key : ∀ (l : List Nd) (acc : List Nat), (∀ v, v ∈ acc → v < 2 ^ n) → ∀ v, v ∈ l.foldl (fun acc x => acc ++ [nodeR m n acc x]) acc → v < 2 ^ n := by
    intro l
    induction l with
    | nil => intro acc h; exact h
    | cons x r ih =>
      intro acc h
      refine ih _ fun v hv => ?_
      rcases List.mem_append.1 hv with hv | hv
      · exact h v hv
      · rw [List.mem_singleton.1 hv]
        have hg : ∀ j, acc.getD j 0 < 2 ^ n := fun j => by
          rw [List.getD_eq_getElem?_getD]
          cases hq : acc[j]? with
          | none => exact Nat.two_pow_pos n
          | some w => exact h w (List.mem_iff_getElem?.2 ⟨j, hq⟩)
        exact vlN_lt hM.vbits (bif_lt (hg _) (Nat.two_pow_pos n)) (bif_lt (hg _) (Nat.two_pow_pos n))
  exact key f [] (by simp)
theorem rc_Sets (m : Mo) (n : Nat) (hM : OkM m n) (f : List Nd) (h0 : reqI m f = 0) (hok : Okl f) (hfl : f.length ≤ 200) (hsub : ∀ i, i < f.length → statI (m.rel.length : Int) (m.val.length : Int) (sub f i) = 0) (hq : ∀ x, x ∈ f → fitQ m x.op x.i x.e x.g = true) :
    PureFn Tryz.prog 129 [m.pv, fpv f] (.tup [.sl ((setsR m n f).map u64), .int .i64 0]) := by
  refine PureFn.introC [2, 11, 13, 15] mixed (fn := Tryz.f129) rfl rfl rfl fun M w0 => ?_
  have hC := rc_Check m f hM.fit
  rw [h0] at hC
  have hfl2 : ((f.map Nd.pv).length : Int) = (f.length : Int) := by simp
  try conv=>whnf
  refine ⟨Unit, fun _ => [(1, .pv (fpv f)), (2, .ref 0 0), (6, .pv (.int .i64 0))], fun _ => 1, fun _ => HM m, ?_, ?_⟩
  · (try conv=>whnf);repeat' (first|(refine PureFn.dcq (f := 130) rfl ?_;try conv=>whnf)|(refine ⟨_, _, hC, ?_, ?_⟩;(focus first|(refine ⟨?_, ?_, ?_, trivial⟩<;>first|exact PLe.refl _|exact PLe.nil)|exact trivial);try conv=>whnf)|fail)
    exact ⟨(), (by refine Wk.of ?_ ?_ rfl rfl rfl<;>repeat' (first|exact trivial|exact WkD.same _|exact WkO.same _ _ rfl|refine ⟨?_, ?_⟩|fail))⟩
  rintro ⟨⟩
  (try conv=>whnf);repeat' (first|(apply And.intro<;>try conv=>whnf)|(intro h;try conv=>whnf)|fail)
  · exact absurd (show (!((0 : Int) == 0)) = true from h) (by decide)
  refine ⟨{ i : Nat // i ≤ f.length }, fun i => [(1, .pv (fpv f)), (2, .ref 0 0), (7, .buf 1 ((setsR m n (f.take i.1)).map u64).length), (8, .pv (i64 i.1))], fun _ => 2, fun i => [(0, .var (cellsM m)), (1, .arr 1 ((setsR m n (f.take i.1)).map u64))], fun i => f.length - i.1, ⟨⟨0, Nat.zero_le _⟩, (by refine Wk.of ?_ ?_ rfl rfl rfl<;>repeat' (first|exact trivial|exact WkD.same _|exact WkO.same _ _ rfl|exact WkD.new' rfl rfl rfl|exact WkO.new _ _ rfl|exact rfl|refine ⟨?_, ?_⟩|fail))⟩, ?_⟩
  intro i
  have hi := i.2
  have hAl := setsR_len (m := m) (n := n) (f := f) i.1 hi
  have hlt := setsR_lt hM (f.take i.1)
  have hAb : ∀ j, (setsR m n (f.take i.1)).getD j 0 < 2 ^ n := fun j => getD_lt (Nat.two_pow_pos n) hlt
  have hAm : ((setsR m n (f.take i.1)).map u64).length = i.1 := by rw [List.length_map, hAl]
  (try conv=>whnf);repeat' (first|(apply And.intro<;>try conv=>whnf)|(intro h;try conv=>whnf)|(apply bleI;rfl)|fail)
  · have hi' : i.1 < f.length := by simpa using lt_dec h
    have hfi := rc_fits m f i.1 (hsub i.1 hi')
    have hx : f[i.1]? = some f[i.1] := List.getElem?_eq_getElem hi'
    have hk := hok i.1 _ hx
    have hqx := hq _ (List.getElem_mem hi')
    have hA3 := setsR_take (m := m) (n := n) hi'
    have hUX := ref_UsesX f[i.1].op
    have hUY := ref_UsesY f[i.1].op
    (try conv=>whnf);repeat' (first|(apply And.intro<;>try conv=>whnf)|(intro h;first|with_reducible exact nt0 h|try conv=>whnf)|(refine PureFn.dcq (f := 153) rfl ?_;try conv=>whnf)|(refine ⟨_, _, hfi, ?_, ?_⟩;(focus first|(refine ⟨?_, ?_, ?_, trivial⟩<;>first|exact PLe.refl _|exact PLe.nil)|exact trivial);try conv=>whnf)|fail)
    refine ⟨Unit, fun _ => [(1, .pv (fpv f)), (2, .ref 0 0), (7, .buf 1 ((setsR m n (f.take i.1)).map u64).length), (8, .pv (i64 i.1)), (9, .pv (u64 (0))), (10, .pv (u64 (0)))], fun _ => 2, fun _ => [(0, .var (cellsM m)), (1, .arr 1 ((setsR m n (f.take i.1)).map u64))], ?_, ?_⟩
    · try conv=>whnf
      exact ⟨(), (by refine Wk.of ?_ ?_ rfl rfl rfl<;>repeat' (first|exact trivial|exact WkD.same _|exact WkO.same _ _ rfl|refine ⟨?_, ?_⟩|fail))⟩
    rintro ⟨⟩
    refine ⟨Unit, fun _ => [(1, .pv (fpv f)), (2, .ref 0 0), (7, .buf 1 ((setsR m n (f.take i.1)).map u64).length), (8, .pv (i64 i.1)), (9, .pv (u64 ((bif usesX f[i.1].op then (setsR m n (f.take i.1)).getD f[i.1].x.toNat 0 else 0)))), (10, .pv (u64 (0)))], fun _ => 2, fun _ => [(0, .var (cellsM m)), (1, .arr 1 ((setsR m n (f.take i.1)).map u64))], ?_, ?_⟩
    · (try conv=>whnf);repeat' (first|(apply And.intro<;>try conv=>whnf)|(intro h;try conv=>whnf)|(apply infoT;rfl)|(refine ⟨_, _, rfl, idx_map (by with_reducible assumption), rfl, ?_⟩;try conv=>whnf)|(refine PureFn.dcq (f := 68) rfl ?_;try conv=>whnf)|(refine ⟨_, _, hUX, ?_, ?_⟩;(focus first|(refine ⟨?_, trivial⟩<;>first|exact PLe.refl _|exact PLe.nil)|exact trivial);try conv=>whnf)|fail)
      · have hkx := hk.x h
        have hj : f[i.1].x.toNat < (setsR m n (f.take i.1)).length := by omega
        refine ⟨f[i.1].x.toNat, by omega, by rw [List.length_map]; exact hj, ?_⟩
        (try conv=>whnf);repeat' (first|(apply And.intro<;>try conv=>whnf)|fail)
        refine ⟨_, idx_map (g := u64) (getD_mem hj (d := 0)), ?_⟩
        try conv=>whnf
        rw [show usesX f[i.1].op = true from h]
        exact ⟨(), (by refine Wk.of ?_ ?_ rfl rfl rfl<;>repeat' (first|exact trivial|exact WkD.same _|exact WkO.same _ _ rfl|refine ⟨?_, ?_⟩|fail))⟩
      · rw [show usesX f[i.1].op = false from h]
        exact ⟨(), (by refine Wk.of ?_ ?_ rfl rfl rfl<;>repeat' (first|exact trivial|exact WkD.same _|exact WkO.same _ _ rfl|refine ⟨?_, ?_⟩|fail))⟩
    rintro ⟨⟩
    refine ⟨Unit, fun _ => [(1, .pv (fpv f)), (2, .ref 0 0), (7, .buf 1 ((setsR m n (f.take i.1)).map u64).length), (8, .pv (i64 i.1)), (9, .pv (u64 ((bif usesX f[i.1].op then (setsR m n (f.take i.1)).getD f[i.1].x.toNat 0 else 0)))), (10, .pv (u64 ((bif usesY f[i.1].op then (setsR m n (f.take i.1)).getD f[i.1].y.toNat 0 else 0))))], fun _ => 2, fun _ => [(0, .var (cellsM m)), (1, .arr 1 ((setsR m n (f.take i.1)).map u64))], ?_, ?_⟩
    · (try conv=>whnf);repeat' (first|(apply And.intro<;>try conv=>whnf)|(intro h;try conv=>whnf)|(apply infoT;rfl)|(refine ⟨_, _, rfl, idx_map (by with_reducible assumption), rfl, ?_⟩;try conv=>whnf)|(refine PureFn.dcq (f := 69) rfl ?_;try conv=>whnf)|(refine ⟨_, _, hUY, ?_, ?_⟩;(focus first|(refine ⟨?_, trivial⟩<;>first|exact PLe.refl _|exact PLe.nil)|exact trivial);try conv=>whnf)|fail)
      · have hkx := hk.y h
        have hj : f[i.1].y.toNat < (setsR m n (f.take i.1)).length := by omega
        refine ⟨f[i.1].y.toNat, by omega, by rw [List.length_map]; exact hj, ?_⟩
        (try conv=>whnf);repeat' (first|(apply And.intro<;>try conv=>whnf)|fail)
        refine ⟨_, idx_map (g := u64) (getD_mem hj (d := 0)), ?_⟩
        try conv=>whnf
        rw [show usesY f[i.1].op = true from h]
        exact ⟨(), (by refine Wk.of ?_ ?_ rfl rfl rfl<;>repeat' (first|exact trivial|exact WkD.same _|exact WkO.same _ _ rfl|refine ⟨?_, ?_⟩|fail))⟩
      · rw [show usesY f[i.1].op = false from h]
        exact ⟨(), (by refine Wk.of ?_ ?_ rfl rfl rfl<;>repeat' (first|exact trivial|exact WkD.same _|exact WkO.same _ _ rfl|refine ⟨?_, ?_⟩|fail))⟩
    rintro ⟨⟩
    have hV := rc_One m n hM f[i.1] _ hk hqx (bif usesX f[i.1].op then (setsR m n (f.take i.1)).getD f[i.1].x.toNat 0 else 0) (bif usesY f[i.1].op then (setsR m n (f.take i.1)).getD f[i.1].y.toNat 0 else 0) (bif_lt (hAb _) (Nat.two_pow_pos n)) (bif_lt (hAb _) (Nat.two_pow_pos n))
    have hes : (setsR m n (f.take i.1)).map u64 ++ [u64 (vlN m n f[i.1].op f[i.1].i f[i.1].g (bif usesX f[i.1].op then (setsR m n (f.take i.1)).getD f[i.1].x.toNat 0 else 0) (bif usesY f[i.1].op then (setsR m n (f.take i.1)).getD f[i.1].y.toNat 0 else 0))] = (setsR m n (f.take (i.1 + 1))).map u64 := by rw [hA3, List.map_append]; rfl
    try conv=>whnf
    refine ⟨Plan.lin 0 12, [], by kernel_rfl, ?_⟩
    (try conv=>whnf);repeat' (first|(apply And.intro<;>try conv=>whnf)|(apply infoT;rfl)|(apply cellsI;rfl)|(apply szI;rfl)|(refine ⟨_, _, rfl, idx_map (by with_reducible assumption), rfl, ?_⟩;try conv=>whnf)|(refine ⟨_, (by (conv=>whnf);exact hV), rfl, ?_⟩;try conv=>whnf)|fail)
    · exact app_big (n := 200) (by omega) (by decide)
    · refine ⟨⟨i.1 + 1, hi'⟩, by show f.length - (i.1 + 1) < f.length - i.1; omega, ?_⟩
      (refine Wk.of ?_ ?_ rfl rfl rfl<;>repeat' (first|exact trivial|exact WkD.same _|exact WkO.same _ _ rfl|exact WkD.eq (congrArg (fun z : List PV => DV.buf _ z.length) hes)|exact WkO.same _ _ (congrArg (fun z => some (DObj.arr _ z)) hes)|refine WkD.int ?_|refine ⟨?_, ?_⟩|(refine wrapA ?_ ?_ ?_;(focus simp;done);(focus (try dsimp only);omega);(focus (try dsimp only);omega))|fail))
  · have hi' : i.1 = f.length := by have := ge_dec (m := (f.map Nd.pv).length) h (by simpa using hi); simpa using this
    rw [hi', List.take_length]
    exact .refl _
end Go.Proofs.YtlaolpkgabknfaaGreatDoor
set_option maxRecDepth 100000
set_option maxHeartbeats 4000000
namespace Go.Proofs.YtlaolpkgabknfaaGreatDoor
open Go Go.Dv

theorem stat_comp {A F : Nat} {f : List Nd} (h : statI A F (comp f) = 0) : statI A F f = 0 := by
  obtain ⟨h1, h2⟩ := statM_iff.1 h
  have hc : check f = 0 := by
    by_cases q : check f = 0
    · exact q
    · rw [comp_none q] at h1
      exact absurd h1 (by decide)
  rw [comp_comp hc] at h2
  exact statM_iff.2 ⟨hc, h2⟩
theorem stat_comp' {A F : Nat} {f : List Nd} (h : statI A F f = 0) : statI A F (comp f) = 0 := by
  obtain ⟨h1, h2⟩ := statM_iff.1 h
  exact statM_iff.2 ⟨comp_check h1, by rw [comp_comp h1]; exact h2⟩
theorem sub_ofcomp {f : List Nd} (h : check f = 0) {i : Nat} (hi : i < (comp f).length) : sub (comp f) i = canon (comp f) i := by
  rw [sub, comp_check h, decide_eq_false (by omega), decide_eq_false (by omega)]
  rfl
theorem rc_Holds (m : Mo) (f : List Nd) (hf : FitM m) : PureFn Tryz.prog 84 [m.pv, fpv f] (.tup [u64 (holdsI m f).1, .int .i64 (holdsI m f).2]) := by
  have hK := ref_Compact f
  by_cases h0 : reqI m f = 0
  · obtain ⟨⟨n, hM⟩, hst⟩ := reqI_ok h0
    have hag := hM.ag
    have hch := (statM_iff.1 hst).1
    have hall := (statM_iff.1 hst).2
    have hr : reqI m (comp f) = 0 := by rw [reqI, ok_moI hM]; exact stat_comp' hst
    have hS := rc_Sets m n hM (comp f) hr (comp_okl f) (comp_len f) (fun i hi => by rw [sub_ofcomp hch hi]; exact sub_stat (comp_okl f) hall (comp_len f) hi) (fun x hx => by
      obtain ⟨k, hk⟩ := okl_mem (comp_okl f) hx
      exact fitQ_of hag hk (hall x hx))
    have hL := last_R (n := n) hag hst
    have hp := comp_pos hch
    have hsl : (setsR m n (comp f)).length = (comp f).length := by
      have := setsR_len (m := m) (n := n) (f := comp f) (comp f).length (Nat.le_refl _)
      rwa [List.take_length] at this
    have hcl := comp_len f
    have hres : holdsI m f = (vlT m n (root f), 0) := by rw [holdsI, h0, hM.nn, Int.toNat_natCast]; rfl
    rw [hres]
    rw [← hsl] at hL hp hcl
    generalize setsR m n (comp f) = S at hS hL hp hcl
    generalize comp f = g at hK hS
    generalize vlT m n (root f) = v at hL
    have e1 : ((S.map u64).length : Int) = (S.length : Int) := by simp
    have hw : IntKind.wrap .i64 (((S.map u64).length : Int) - 1) = ((S.length - 1 : Nat) : Int) := by rw [e1, Go.Dv.wrap_small (by omega) (by omega)]; omega
    have hz : (((S.map u64).length : Int) == 0) = false := by
      have h9 : ¬ ((S.length : Int) = 0) := by omega
      rw [e1]; simpa using h9
    refine PureFn.introC [2] mixed (fn := Tryz.f84) rfl rfl rfl fun M w0 => ?_
    try conv=>whnf
    refine ⟨Unit, fun _ => [(1, .pv (fpv f)), (2, .ref 0 0), (6, .pv (.sl (S.map u64))), (7, .pv (.int .i64 0))], fun _ => 1, fun _ => HM m, ?_, ?_⟩
    · (try conv=>whnf);repeat' (first|(refine lin_plan (by kernel_rfl) ?_;try conv=>whnf)|(refine ⟨_, (by (conv=>whnf);exact hK), rfl, ?_⟩;try conv=>whnf)|(refine ⟨_, (by (conv=>whnf);exact hS), rfl, ?_⟩;try conv=>whnf)|fail)
      exact ⟨(), (by refine Wk.of ?_ ?_ rfl rfl rfl<;>repeat' (first|exact trivial|exact WkD.same _|exact WkO.same _ _ rfl|refine ⟨?_, ?_⟩|fail))⟩
    rintro ⟨⟩
    (try conv=>whnf);repeat' (first|(apply And.intro<;>try conv=>whnf)|(intro h;try conv=>whnf)|apply True.intro|(apply infoT;rfl)|(apply WhenQ.mk;(try conv=>whnf);rotate_left;(try conv=>whnf);rotate_right)|with_reducible assumption|(apply not_of;with_reducible assumption)|fail)
    · exfalso
      rw [hz] at h
      exact absurd (show false = true from h) (by decide)
    · refine ⟨S.length - 1, _, hw, idx_map (g := u64) hL, rfl, ?_⟩
      try conv=>whnf
      exact .refl _
  · have hb : (reqI m f != 0) = true := by simpa using h0
    have hr : (reqI m (comp f) != 0) = true := by
      rw [bne_iff_ne]
      intro h
      apply h0
      obtain ⟨⟨n, hM⟩, hst⟩ := reqI_ok h
      rw [reqI, ok_moI hM]
      exact stat_comp hst
    have hS := rc_Sets_bad m (comp f) hf hr
    have hC := rc_Check m f hf
    have hres : holdsI m f = (0, reqI m f) := by rw [holdsI, hb]; rfl
    rw [hres]
    generalize reqI m (comp f) = c at hS hr
    generalize comp f = g at hK hS
    generalize reqI m f = d at hC hb
    refine PureFn.introC [2] mixed (fn := Tryz.f84) rfl rfl rfl fun M w0 => ?_
    try conv=>whnf
    refine ⟨Unit, fun _ => [(1, .pv (fpv f)), (2, .ref 0 0), (6, .pv .nil), (7, .pv (.int .i64 c))], fun _ => 1, fun _ => HM m, ?_, ?_⟩
    · (try conv=>whnf);repeat' (first|(refine lin_plan (by kernel_rfl) ?_;try conv=>whnf)|(refine ⟨_, (by (conv=>whnf);exact hK), rfl, ?_⟩;try conv=>whnf)|(refine ⟨_, (by (conv=>whnf);exact hS), rfl, ?_⟩;try conv=>whnf)|fail)
      exact ⟨(), (by refine Wk.of ?_ ?_ rfl rfl rfl<;>repeat' (first|exact trivial|exact WkD.same _|exact WkO.same _ _ rfl|refine ⟨?_, ?_⟩|fail))⟩
    rintro ⟨⟩
    (try conv=>whnf);repeat' (first|(apply And.intro<;>try conv=>whnf)|(intro h;first|with_reducible exact tf (by assumption) h|try conv=>whnf)|apply True.intro|(apply WhenQ.mk;(try conv=>whnf);rotate_left;(try conv=>whnf);rotate_right)|with_reducible assumption|(refine PureFn.dcq (f := 130) rfl ?_;try conv=>whnf)|(refine ⟨_, _, hC, ?_, ?_⟩;(focus first|(refine ⟨?_, ?_, ?_, trivial⟩<;>first|exact PLe.refl _|exact PLe.nil)|exact trivial);try conv=>whnf)|fail)
    · exact .refl _
    · exfalso
      rw [hr] at h
      exact absurd (show true = false from h) (by decide)
end Go.Proofs.YtlaolpkgabknfaaGreatDoor
set_option maxRecDepth 100000
set_option maxHeartbeats 4000000
namespace Go.Proofs.YtlaolpkgabknfaaGreatDoor
open Go Go.Dv

theorem rp_Worlds (m : Mo) (a : Act) (hf : FitM m) (hfa : Fit a) (hl : a.rel.length ≤ 1000) (hp : ∀ l, l ∈ a.post → l.length ≤ 1000) : PureFn Tryz.prog 131 [m.pv, a.pv] (worldsPV (worldsI m a)) := by
  refine PureFn.introC [2, 5, 14, 24] mixed (fn := Tryz.f131) rfl rfl rfl fun M w0 => ?_
  have hC := rm_Check m hf
  have hK := ra_Check a (m.rel.length : Nat) (m.val.length : Nat) hfa hl hp
  rw [show PV.int .i64 ((m.rel.length : Nat) : Int) = .int .i64 ((m.rel.map rowPV).length : Nat) by rw [List.length_map], show PV.int .i64 ((m.val.length : Nat) : Int) = .int .i64 ((m.val.map u64).length : Nat) by rw [List.length_map]] at hK
  try conv=>whnf
  refine ⟨Unit, fun _ => [(2, .ref 0 0), (3, .ref 1 0), (6, .pv (.int .i64 (moI m)))], fun _ => 2, fun _ => HMA m a, ?_, ?_⟩
  · (try conv=>whnf);repeat' (first|(refine PureFn.dcq (f := 42) rfl ?_;try conv=>whnf)|(refine ⟨_, _, hC, ?_, ?_⟩;(focus first|(refine ⟨?_, trivial⟩<;>first|exact PLe.refl _|exact PLe.nil)|exact trivial);try conv=>whnf)|fail)
    exact ⟨(), (by refine Wk.of ?_ ?_ rfl rfl rfl<;>repeat' (first|exact trivial|exact WkD.same _|exact WkO.same _ _ rfl|refine ⟨?_, ?_⟩|fail))⟩
  rintro ⟨⟩
  (try conv=>whnf);repeat' (first|(apply And.intro<;>try conv=>whnf)|(intro h;try conv=>whnf)|fail)
  · have h9 : moaI m a = moI m := by rw [moaI, h]; rfl
    rw [worldsI, h9, h]
    exact le_worlds _
  have h1 := h
  have hmo : moaI m a = actI a (m.rel.length : Int) (m.val.length : Int) := by rw [moaI, h1]; rfl
  refine ⟨Unit, fun _ => [(2, .ref 0 0), (3, .ref 1 0), (7, .pv (.int .i64 (moaI m a)))], fun _ => 2, fun _ => HMA m a, ?_, ?_⟩
  · rw [hmo]
    (try conv=>whnf);repeat' (first|(refine PureFn.dcq (f := 43) rfl ?_;try conv=>whnf)|(refine ⟨_, _, hK, ?_, ?_⟩;(focus first|(refine ⟨?_, ?_, ?_, trivial⟩<;>first|exact PLe.refl _|exact PLe.nil)|exact trivial);try conv=>whnf)|fail)
    exact ⟨(), (by refine Wk.of ?_ ?_ rfl rfl rfl<;>repeat' (first|exact trivial|exact WkD.same _|exact WkO.same _ _ rfl|refine ⟨?_, ?_⟩|fail))⟩
  rintro ⟨⟩
  (try conv=>whnf);repeat' (first|(apply And.intro<;>try conv=>whnf)|(intro h;try conv=>whnf)|fail)
  · rw [worldsI, h]
    exact le_worlds _
  have h2 := h
  have h20 : moaI m a = 0 := by simpa using h2
  obtain ⟨⟨n, hM⟩, hAc⟩ := moaI_ok h20
  have hO := actI_ok hAc
  have hn8 := hO.n8
  have hn1 := hO.n1
  have hn64 := hM.n64
  have hnn := hM.nn
  have hres : worldsI m a = bif ((pairsL m a).length : Int) == 0 then ([], 11) else (pairsL m a, 0) := by rw [worldsI, show (moaI m a != 0) = false from h2]; rfl
  have hpl : pairsL m a = pairsW (possP m a) a.pre.length n := by rw [pairsL, hM.nn]; rfl
  rw [hres, hpl]
  clear hres hpl
  have hH : ∀ (e : Nat) (f : List Nd), a.pre[e]? = some f → PureFn Tryz.prog 84 [m.pv, fpv f] (.tup [u64 (possP m a e), .int .i64 0]) := by
    intro e f he
    have h := rc_Holds m f hf
    have he1 := (List.getElem?_eq_some_iff.1 he).1
    have hp := (pre_holds h20 he1).1
    have hg : a.pre.getD e [] = f := by rw [List.getD_eq_getElem?_getD, he]; rfl
    rw [hg] at hp
    rw [hp] at h
    exact h
  generalize hpe : possP m a = p at hH ⊢
  have hBl : ∀ w e, w ≤ n → e ≤ a.pre.length → ((pairsB p a.pre.length w e).map pairPV).length ≤ 600 := by
    intro w e h1 h2
    rw [List.length_map, pairsB, List.length_append]
    have := pairsW_len p a.pre.length w
    have := pairsE_len p w e
    have := Nat.mul_le_mul h1 hn8
    omega
  refine ⟨Unit, fun _ => [(2, .ref 0 0), (3, .ref 1 0), (8, .pv (.sl ((List.range a.pre.length).map fun e => u64 (p e))))], fun _ => 3, fun _ => HMA m a, ?_, ?_⟩
  · try conv=>whnf
    refine ⟨{ e : Nat // e ≤ a.pre.length }, fun e => [(2, .ref 0 0), (3, .ref 1 0), (8, .buf 2 ((List.range e.1).map fun e => u64 (p e)).length), (33, .pv (.sl (a.pre.map fpv))), (34, .pv (i64 (a.pre.map fpv).length)), (35, .pv (i64 e.1))], fun _ => 3, fun e => [(0, .var (cellsM m)), (1, .var (cellsA a)), (2, .arr 1 ((List.range e.1).map fun e => u64 (p e)))], fun e => a.pre.length - e.1, ⟨⟨0, Nat.zero_le _⟩, (by refine Wk.of ?_ ?_ rfl rfl rfl<;>repeat' (first|exact trivial|exact WkD.same _|exact WkO.same _ _ rfl|exact WkD.new' rfl rfl rfl|exact WkO.new _ _ rfl|exact rfl|refine ⟨?_, ?_⟩|fail))⟩, ?_⟩
    intro e
    have he := e.2
    (try conv=>whnf);repeat' (first|(apply And.intro<;>try conv=>whnf)|(intro h;try conv=>whnf)|(apply infoT;rfl)|fail)
    · have he' : e.1 < a.pre.length := by simpa using lt_dec h
      have hm : a.pre[e.1]? = some a.pre[e.1] := List.getElem?_eq_getElem he'
      have hHe := hH e.1 _ hm
      have hes : ((List.range e.1).map fun e => u64 (p e)) ++ [u64 (p e.1)] = (List.range (e.1 + 1)).map fun e => u64 (p e) := by rw [List.range_succ, List.map_append]; rfl
      refine ⟨_, _, rfl, idx_map hm, rfl, ?_⟩
      (try conv=>whnf);repeat' (first|(apply And.intro<;>try conv=>whnf)|(apply cellsI;rfl)|(apply szI;rfl)|(refine PureFn.dcq (f := 84) rfl ?_;try conv=>whnf)|(refine ⟨_, _, hHe, ?_, ?_⟩;(focus first|(refine ⟨?_, ?_, trivial⟩<;>first|exact PLe.refl _|exact PLe.nil)|exact trivial);try conv=>whnf)|fail)
      · exact app_big (n := 8) (by simp; omega) (by decide)
      · refine ⟨⟨e.1 + 1, he'⟩, by show a.pre.length - (e.1 + 1) < a.pre.length - e.1; omega, ?_⟩
        (refine Wk.of ?_ ?_ rfl rfl rfl<;>repeat' (first|exact trivial|exact WkD.same _|exact WkO.same _ _ rfl|exact WkD.eq (congrArg (fun z : List PV => DV.buf _ z.length) hes)|exact WkO.same _ _ (congrArg (fun z => some (DObj.arr _ z)) hes)|refine WkD.int ?_|refine ⟨?_, ?_⟩|(refine wrapA ?_ ?_ ?_;(focus simp;done);(focus (try dsimp only);omega);(focus (try dsimp only);omega))|fail))
    · obtain ⟨e0, he0⟩ := e
      have he' : e0 = a.pre.length := by have := ge_dec (m := (a.pre.map fpv).length) h (by simpa using he); simpa using this
      subst he'
      exact ⟨(), (by refine Wk.of ?_ ?_ rfl rfl rfl<;>repeat' (first|exact trivial|exact WkD.same _|exact WkO.same _ _ rfl|exact WkD.fz _ _ _ rfl (Or.inl ⟨_, rfl⟩) rfl|refine ⟨?_, ?_⟩|fail))⟩
  rintro ⟨⟩
  refine ⟨Unit, fun _ => [(13, .pv (.sl ((pairsW p a.pre.length n).map pairPV)))], fun _ => 4, fun _ => HMA m a, ?_, ?_⟩
  · try conv=>whnf
    refine ⟨{ w : Nat // w ≤ n }, fun w => [(2, .ref 0 0), (3, .ref 1 0), (8, .pv (.sl ((List.range a.pre.length).map fun e => u64 (p e)))), (13, .buf 3 ((pairsB p a.pre.length w.1 0).map pairPV).length), (14, .pv (i64 w.1))], fun _ => 4, fun w => [(0, .var (cellsM m)), (1, .var (cellsA a)), (3, .arr 2 ((pairsB p a.pre.length w.1 0).map pairPV))], fun w => n - w.1, ⟨⟨0, Nat.zero_le _⟩, (by refine Wk.of ?_ ?_ rfl rfl rfl<;>repeat' (first|exact trivial|exact WkD.same _|exact WkO.same _ _ rfl|exact WkD.new' rfl rfl rfl|exact WkO.new _ _ rfl|exact rfl|refine ⟨?_, ?_⟩|fail))⟩, ?_⟩
    intro w
    have hwn := w.2
    (try conv=>whnf);repeat' (first|(apply And.intro<;>try conv=>whnf)|(intro h;try conv=>whnf)|fail)
    · have hw' : w.1 < n := by rw [hnn] at h; exact lt_dec h
      refine ⟨{ e : Nat // e ≤ a.pre.length }, fun e => [(2, .ref 0 0), (3, .ref 1 0), (8, .pv (.sl ((List.range a.pre.length).map fun e => u64 (p e)))), (13, .buf 3 ((pairsB p a.pre.length w.1 e.1).map pairPV).length), (14, .pv (i64 w.1)), (58, .pv (i64 (a.pre.map fpv).length)), (59, .pv (i64 e.1))], fun _ => 4, fun e => [(0, .var (cellsM m)), (1, .var (cellsA a)), (3, .arr 2 ((pairsB p a.pre.length w.1 e.1).map pairPV))], fun e => a.pre.length - e.1, ⟨⟨0, Nat.zero_le _⟩, (by refine Wk.of ?_ ?_ rfl rfl rfl<;>repeat' (first|exact trivial|exact WkD.same _|exact WkO.same _ _ rfl|refine ⟨?_, ?_⟩|fail))⟩, ?_⟩
      intro e
      have he := e.2
      have hB1 := hBl w.1 e.1 hwn he
      have hs := pairsB_succ p a.pre.length w.1 e.1
      (try conv=>whnf);repeat' (first|(apply And.intro<;>try conv=>whnf)|(intro h;try conv=>whnf)|(apply infoT;rfl)|fail)
      · have he' : e.1 < a.pre.length := by simpa using lt_dec h
        have hHas := rm_Has (p e.1) w.1 (by omega)
        refine ⟨_, _, rfl, idx_map (g := fun e => u64 (p e)) (List.getElem?_range he'), rfl, ?_⟩
        (try conv=>whnf);repeat' (first|(apply And.intro<;>try conv=>whnf)|(intro h;try conv=>whnf)|(apply cellsI;rfl)|(apply szI;rfl)|(refine PureFn.dcq (f := 85) rfl ?_;try conv=>whnf)|(refine ⟨_, _, hHas, ?_, ?_⟩;(focus first|(refine ⟨?_, ?_, trivial⟩<;>first|exact PLe.refl _|exact PLe.nil)|exact trivial);try conv=>whnf)|fail)
        · exact app_big (n := 600) hB1 (by decide)
        · have hes : (pairsB p a.pre.length w.1 e.1).map pairPV ++ [pairPV (w.1, e.1)] = (pairsB p a.pre.length w.1 (e.1 + 1)).map pairPV := by rw [hs, show (p e.1).testBit w.1 = true from h, cond_true, List.map_append]; rfl
          refine ⟨⟨e.1 + 1, he'⟩, by show a.pre.length - (e.1 + 1) < a.pre.length - e.1; omega, ?_⟩
          (refine Wk.of ?_ ?_ rfl rfl rfl<;>repeat' (first|exact trivial|exact WkD.same _|exact WkO.same _ _ rfl|exact WkD.eq (congrArg (fun z : List PV => DV.buf _ z.length) hes)|exact WkO.same _ _ (congrArg (fun z => some (DObj.arr _ z)) hes)|refine WkD.int ?_|refine ⟨?_, ?_⟩|(refine wrapA ?_ ?_ ?_;(focus simp;done);(focus (try dsimp only);omega);(focus (try dsimp only);omega))|fail))
        · have hes : (pairsB p a.pre.length w.1 e.1).map pairPV = (pairsB p a.pre.length w.1 (e.1 + 1)).map pairPV := by rw [hs, show (p e.1).testBit w.1 = false from h, cond_false]
          refine ⟨⟨e.1 + 1, he'⟩, by show a.pre.length - (e.1 + 1) < a.pre.length - e.1; omega, ?_⟩
          (refine Wk.of ?_ ?_ rfl rfl rfl<;>repeat' (first|exact trivial|exact WkD.same _|exact WkO.same _ _ rfl|exact WkD.eq (congrArg (fun z : List PV => DV.buf _ z.length) hes)|exact WkO.same _ _ (congrArg (fun z => some (DObj.arr _ z)) hes)|refine WkD.int ?_|refine ⟨?_, ?_⟩|(refine wrapA ?_ ?_ ?_;(focus simp;done);(focus (try dsimp only);omega);(focus (try dsimp only);omega))|fail))
      · have he' : e.1 = a.pre.length := by have := ge_dec (m := (a.pre.map fpv).length) h (by simpa using he); simpa using this
        have ef : pairsB p a.pre.length w.1 e.1 = pairsB p a.pre.length (w.1 + 1) 0 := by rw [he', pairsB_full, pairsB_zero]
        have efm : (pairsB p a.pre.length w.1 e.1).map pairPV = (pairsB p a.pre.length (w.1 + 1) 0).map pairPV := by rw [ef]
        refine ⟨⟨w.1 + 1, hw'⟩, by show n - (w.1 + 1) < n - w.1; omega, ?_⟩
        (refine Wk.of ?_ ?_ rfl rfl rfl<;>repeat' (first|exact trivial|exact WkD.same _|exact WkO.same _ _ rfl|exact WkD.eq (congrArg (fun z : List PV => DV.buf _ z.length) efm)|exact WkO.same _ _ (congrArg (fun z => some (DObj.arr _ z)) efm)|refine WkD.int ?_|refine ⟨?_, ?_⟩|(refine wrapA ?_ ?_ ?_;(focus simp;done);(focus (try dsimp only);omega);(focus (try dsimp only);omega))|fail))
    · obtain ⟨w0', hw0⟩ := w
      have hw' : w0' = n := by rw [hnn] at h; exact ge_dec h hwn
      subst hw'
      have hfz : (pairsB p a.pre.length w0' 0).map pairPV = (pairsW p a.pre.length w0').map pairPV := by rw [pairsB_zero]
      refine ⟨(), ?_⟩
      rw [← hfz]
      (refine Wk.of ?_ ?_ rfl rfl rfl<;>repeat' (first|exact trivial|exact WkO.same _ _ rfl|exact WkD.fz _ _ _ rfl (Or.inl ⟨_, rfl⟩) rfl|refine ⟨?_, ?_⟩|fail))
  rintro ⟨⟩
  have hl0 : (((pairsW p a.pre.length n).map pairPV).length : Int) = ((pairsW p a.pre.length n).length : Int) := by simp
  (try conv=>whnf);repeat' (first|(apply And.intro<;>try conv=>whnf)|(intro h;try conv=>whnf)|fail)
  · rw [hl0] at h
    rw [h]
    exact le_worlds _
  · rw [hl0] at h
    rw [h]
    exact .refl _
end Go.Proofs.YtlaolpkgabknfaaGreatDoor
set_option maxRecDepth 100000
set_option maxHeartbeats 4000000
namespace Go.Proofs.YtlaolpkgabknfaaGreatDoor
open Go Go.Dv

def bitW (i : Nat) : Nat := 2 ^ i % 2 ^ 64
theorem bitW_lt {i : Nat} (h : i < 64) : bitW i = 2 ^ i := Nat.mod_eq_of_lt (Nat.pow_lt_pow_right (by decide) h)
theorem wrapU_mod (n : Nat) : IntKind.wrap .u64 (n : Int) = ((n % 2 ^ 64 : Nat) : Int) := by
  show (n : Int) % (2 ^ 64 : Int) = _
  omega
theorem bitW_mul (i : Nat) : IntKind.wrap .u64 ((bitW i : Nat) * 2) = ((bitW (i + 1) : Nat) : Int) := by
  rw [show ((bitW i : Nat) : Int) * 2 = ((bitW i * 2 : Nat) : Int) by omega, wrapU_mod]
  congr 1
  show 2 ^ i % 2 ^ 64 * 2 % 2 ^ 64 = 2 ^ (i + 1) % 2 ^ 64
  rw [Nat.mod_mul_mod]
  exact congrArg (fun z => z % 2 ^ 64) (Nat.pow_succ 2 i).symm
theorem mask_add {q : Nat → Bool} {i : Nat} (hi : i < 64) (h : q i = true) : IntKind.wrap .u64 ((maskOf q i : Nat) + (bitW i : Nat)) = ((maskOf q (i + 1) : Nat) : Int) := by
  have h1 := maskOf_lt q i
  have h2 : maskOf q i ||| 2 ^ i = maskOf q i + 2 ^ i := by
    have := Nat.two_pow_add_eq_or_of_lt h1 1
    rw [Nat.mul_one] at this
    rw [Nat.or_comm, ← this, Nat.add_comm]
  have h3 := maskOf_lt q (i + 1)
  have h4 : 2 ^ (i + 1) ≤ 2 ^ 64 := Nat.pow_le_pow_right (by decide) hi
  rw [← mask_or h] at h3 ⊢
  rw [h2] at h3 ⊢
  rw [bitW_lt hi, show ((maskOf q i : Nat) : Int) + ((2 ^ i : Nat) : Int) = ((maskOf q i + 2 ^ i : Nat) : Int) by omega, wrapU_mod, Nat.mod_eq_of_lt (by omega)]
theorem rp_value (m : Mo) (a : Act) (l : List (Nat × Nat)) (i : Nat) (hf : FitM m) (hfa : Fit a) (hl : a.rel.length ≤ 1000) (hp : ∀ l, l ∈ a.post → l.length ≤ 1000) (hma : moaI m a = 0) (hi : i < m.val.length) (hl64 : l.length ≤ 64) (hmem : ∀ y, y ∈ l → y.1 < 64 ∧ y.2 < a.pre.length) :
    PureFn Tryz.prog 132 [m.pv, a.pv, .sl (l.map pairPV), .int .i64 (i : Nat)] (u64 (valP m a l i)) := by
  obtain ⟨⟨n, hM⟩, hAc⟩ := moaI_ok hma
  have hO := actI_ok hAc
  have hn8 := hO.n8
  have hn64 := hM.n64
  refine PureFn.introC [9] mixed (fn := Tryz.f132) rfl rfl rfl fun M w0 => ?_
  have hlv : (vlU m a i).length = a.pre.length := by simp [vlU]
  have hsl : ∀ e, ((List.range e).map fun e => valuP m a e i).length = e := by simp
  have hmk : maskOf (fun k => ((vlU m a i).getD (l.getD k (0, 0)).2 0).testBit (l.getD k (0, 0)).1) l.length = valP m a l i := maskOf_congr fun k hk => by
    rw [vlU_get (hmem _ (List.mem_iff_getElem?.2 ⟨k, getD_mem hk⟩)).2]
  rw [← hmk]
  try conv=>whnf
  refine ⟨Unit, fun _ => [(2, .pv (.sl (l.map pairPV))), (9, .pv (.sl ((vlU m a i).map u64)))], fun _ => 3, fun _ => [], ?_, ?_⟩
  · try conv=>whnf
    refine ⟨{ e : Nat // e ≤ a.pre.length }, fun e => [(2, .pv (.sl (l.map pairPV))), (3, .pv (i64 i)), (4, .ref 0 0), (5, .ref 1 0), (9, .buf 2 (((List.range e.1).map fun e => valuP m a e i).map u64).length), (21, .pv (i64 (a.pre.map fpv).length)), (22, .pv (i64 e.1))], fun _ => 3, fun e => [(0, .var (cellsM m)), (1, .var (cellsA a)), (2, .arr 1 (((List.range e.1).map fun e => valuP m a e i).map u64))], fun e => a.pre.length - e.1, ⟨⟨0, Nat.zero_le _⟩, (by refine Wk.of ?_ ?_ rfl rfl rfl<;>repeat' (first|exact trivial|exact WkD.same _|exact WkO.same _ _ rfl|exact WkD.new' rfl rfl rfl|exact WkO.new _ _ rfl|exact rfl|refine ⟨?_, ?_⟩|fail))⟩, ?_⟩
    intro e
    have he := e.2
    (try conv=>whnf);repeat' (first|(apply And.intro<;>try conv=>whnf)|(intro h;try conv=>whnf)|fail)
    · have he' : e.1 < a.pre.length := by simpa using lt_dec h
      have hV := ra_Value a e.1 i hfa hl hp
      have hv0 := valI_ok hma he' hi
      obtain ⟨g, hg⟩ : ∃ g, valI a e.1 i = (g, 0) := ⟨(valI a e.1 i).1, Prod.ext rfl hv0⟩
      rw [hg] at hV
      have hH := rc_Holds m g hf
      have hvp : (holdsI m g).1 = valuP m a e.1 i := by rw [valuP, hg]
      rw [hvp] at hH
      have hes : ((List.range e.1).map fun e => valuP m a e i).map u64 ++ [u64 (valuP m a e.1 i)] = ((List.range (e.1 + 1)).map fun e => valuP m a e i).map u64 := by rw [List.range_succ, List.map_append, List.map_append]; rfl
      (try conv=>whnf);repeat' (first|(apply And.intro<;>try conv=>whnf)|(apply cellsI;rfl)|(apply szI;rfl)|(refine PureFn.dcq (f := 154) rfl ?_;try conv=>whnf)|(refine PureFn.dcq (f := 84) rfl ?_;try conv=>whnf)|(refine ⟨_, _, hV, ?_, ?_⟩;(focus first|(refine ⟨?_, ?_, ?_, trivial⟩<;>first|exact PLe.refl _|exact PLe.nil)|exact trivial);try conv=>whnf)|(refine ⟨_, _, hH, ?_, ?_⟩;(focus first|(refine ⟨?_, ?_, trivial⟩<;>first|exact PLe.refl _|exact PLe.nil)|exact trivial);try conv=>whnf)|fail)
      · exact app_big (n := 8) (by simp; omega) (by decide)
      · refine ⟨⟨e.1 + 1, he'⟩, by show a.pre.length - (e.1 + 1) < a.pre.length - e.1; omega, ?_⟩
        (refine Wk.of ?_ ?_ rfl rfl rfl<;>repeat' (first|exact trivial|exact WkD.same _|exact WkO.same _ _ rfl|exact WkD.eq (congrArg (fun z : List PV => DV.buf _ z.length) hes)|exact WkO.same _ _ (congrArg (fun z => some (DObj.arr _ z)) hes)|refine WkD.int ?_|refine ⟨?_, ?_⟩|(refine wrapA ?_ ?_ ?_;(focus simp;done);(focus (try dsimp only);omega);(focus (try dsimp only);omega))|fail))
    · obtain ⟨e0, he0⟩ := e
      have he' : e0 = a.pre.length := by have := ge_dec (m := (a.pre.map fpv).length) h (by simpa using he); simpa using this
      subst he'
      exact ⟨(), (by refine Wk.of ?_ ?_ rfl rfl rfl<;>repeat' (first|exact trivial|exact WkD.same _|exact WkD.fz _ _ _ rfl (Or.inl ⟨_, rfl⟩) rfl|refine ⟨?_, ?_⟩|fail))⟩
  rintro ⟨⟩
  generalize vlU m a i = vs at hlv
  try conv=>whnf
  refine ⟨{ k : Nat // k ≤ l.length }, fun k => [(9, .pv (.sl (vs.map u64))), (15, .pv (u64 (maskOf (fun k => (vs.getD (l.getD k (0, 0)).2 0).testBit (l.getD k (0, 0)).1) k.1))), (16, .pv (u64 (bitW k.1))), (43, .pv (.sl (l.map pairPV))), (44, .pv (i64 (l.map pairPV).length)), (45, .pv (i64 k.1))], fun _ => 3, fun _ => [], fun k => l.length - k.1, ⟨⟨0, Nat.zero_le _⟩, (by refine Wk.of ?_ ?_ rfl rfl rfl<;>repeat' (first|exact trivial|exact WkD.same _|refine ⟨?_, ?_⟩|fail))⟩, ?_⟩
  intro k
  have hk := k.2
  (try conv=>whnf);repeat' (first|(apply And.intro<;>try conv=>whnf)|(intro h;try conv=>whnf)|(apply infoT;rfl)|fail)
  · have hk' : k.1 < l.length := by simpa using lt_dec h
    obtain ⟨x, hx, hxw⟩ : ∃ y, l[k.1]? = some y ∧ l.getD k.1 (0, 0) = y := ⟨_, getD_mem hk', rfl⟩
    obtain ⟨hx1, hx2⟩ := hmem x (List.mem_iff_getElem?.2 ⟨k.1, hx⟩)
    have hvx : vs[x.2]? = some (vs.getD x.2 0) := getD_mem (by omega)
    have hHas := rm_Has (vs.getD x.2 0) x.1 hx1
    refine ⟨_, _, rfl, idx_map hx, rfl, ?_⟩
    (try conv=>whnf);repeat' (first|(apply And.intro<;>try conv=>whnf)|(intro h;try conv=>whnf)|(apply infoT;rfl)|(refine lin_plan (by kernel_rfl) ?_;try conv=>whnf)|(refine ⟨_, _, rfl, idx_map (by with_reducible assumption), rfl, ?_⟩;try conv=>whnf)|(refine ⟨_, (by (conv=>whnf);exact hHas), rfl, ?_⟩;try conv=>whnf)|fail)
    · refine ⟨⟨k.1 + 1, hk'⟩, by show l.length - (k.1 + 1) < l.length - k.1; omega, ?_⟩
      (refine Wk.of ?_ ?_ rfl rfl rfl<;>repeat' (first|exact trivial|exact WkD.same _|refine WkD.int ?_|refine ⟨?_, ?_⟩|(refine wrapA ?_ ?_ ?_;(focus simp;done);(focus (try dsimp only);omega);(focus (try dsimp only);omega))|fail))
      · exact mask_add (q := fun k => (vs.getD (l.getD k (0, 0)).2 0).testBit (l.getD k (0, 0)).1) (by omega) (by show (vs.getD (l.getD k.1 (0, 0)).2 0).testBit (l.getD k.1 (0, 0)).1 = true; rw [hxw]; exact h)
      · exact bitW_mul k.1
    · refine ⟨⟨k.1 + 1, hk'⟩, by show l.length - (k.1 + 1) < l.length - k.1; omega, ?_⟩
      (refine Wk.of ?_ ?_ rfl rfl rfl<;>repeat' (first|exact trivial|exact WkD.same _|refine WkD.int ?_|refine ⟨?_, ?_⟩|(refine wrapA ?_ ?_ ?_;(focus simp;done);(focus (try dsimp only);omega);(focus (try dsimp only);omega))|fail))
      · exact congrArg (fun z : Nat => (z : Int)) (mask_no (q := fun k => (vs.getD (l.getD k (0, 0)).2 0).testBit (l.getD k (0, 0)).1) (by show (vs.getD (l.getD k.1 (0, 0)).2 0).testBit (l.getD k.1 (0, 0)).1 = false; rw [hxw]; exact h))
      · exact bitW_mul k.1
  · have hk' : k.1 = l.length := by have := ge_dec (m := (l.map pairPV).length) h (by simpa using hk); simpa using this
    rw [hk']
    exact .refl _
end Go.Proofs.YtlaolpkgabknfaaGreatDoor
set_option maxRecDepth 100000
set_option maxHeartbeats 4000000
namespace Go.Proofs.YtlaolpkgabknfaaGreatDoor
open Go Go.Dv

theorem rp_Update (m : Mo) (a : Act) (hf : FitM m) (hfa : Fit a) (hl : a.rel.length ≤ 1000) (hp : ∀ l, l ∈ a.post → l.length ≤ 1000) : PureFn Tryz.prog 86 [m.pv, a.pv] (updPV (updI m a)) := by
  refine PureFn.introC [2, 12, 29, 31] mixed (fn := Tryz.f86) rfl rfl rfl fun M w0 => ?_
  have hW := rp_Worlds m a hf hfa hl hp
  obtain ⟨l, e, hX⟩ : ∃ l e, worldsI m a = (l, e) := ⟨_, _, rfl⟩
  have hwo := worldsI_ok (m := m) (a := a)
  rw [updI]
  rw [hX] at hW hwo ⊢
  clear hX
  have e9 : ((l.map pairPV).length : Int) = (l.length : Int) := by simp
  try conv=>whnf
  refine ⟨Unit, fun _ => [(2, .ref 0 0), (3, .ref 1 0), (4, .ref 2 0), (7, .pv (.sl (l.map pairPV))), (8, .pv (.int .i64 e))], fun _ => 3, fun _ => [(0, .var (cellsM m)), (1, .var (cellsA a)), (2, .var cells0)], ?_, ?_⟩
  · (try conv=>whnf);repeat' (first|(refine PureFn.dcq (f := 131) rfl ?_;try conv=>whnf)|(refine ⟨_, _, hW, ?_, ?_⟩;(focus first|(refine ⟨?_, ?_, trivial⟩<;>first|exact PLe.refl _|exact PLe.nil)|exact trivial);try conv=>whnf)|fail)
    exact ⟨(), (by refine Wk.of ?_ ?_ rfl rfl rfl<;>repeat' (first|exact trivial|exact WkD.same _|exact WkO.same _ _ rfl|refine ⟨?_, ?_⟩|fail))⟩
  rintro ⟨⟩
  (try conv=>whnf);repeat' (first|(apply And.intro<;>try conv=>whnf)|(intro h;try conv=>whnf)|fail)
  · rw [show (((l, e) : List (Nat × Nat) × Int).2 != 0) = true from h]; exact le_upd _
  · rename_i h1
    have h9 : decide ((l.length : Int) > 64) = true := by rw [← e9]; exact h
    rw [show (((l, e) : List (Nat × Nat) × Int).2 != 0) = false from h1, show decide ((((l, e) : List (Nat × Nat) × Int).1.length : Int) > 64) = true from h9]
    exact le_upd _
  rename_i h1
  have h2 : decide ((l.length : Int) > 64) = false := by rw [← e9]; exact h
  obtain ⟨hma, hpl, hl1⟩ := hwo (show e = 0 by simpa using h1)
  obtain ⟨⟨n, hM⟩, hAc⟩ := moaI_ok hma
  have hO := actI_ok hAc
  have hn8 := hO.n8
  have hn64 := hM.n64
  have hfa8 := hM.fa
  have hag := hM.ag
  have hpl : l = pairsL m a := hpl
  have hmem : ∀ y, y ∈ l → y.1 < n ∧ y.2 < a.pre.length := fun y hy => by
    rw [hpl, pairsL, hM.nn] at hy
    have := pairsW_mem.1 hy
    exact ⟨this.1, this.2.1⟩
  clear hpl hl1
  have hl64 : l.length ≤ 64 := by have := of_decide_eq_false h2; omega
  have hres : (bif (((l, e) : List (Nat × Nat) × Int).2 != 0) then (noMo, ([] : List (Nat × Nat)), ((l, e) : List (Nat × Nat) × Int).2) else bif decide ((((l, e) : List (Nat × Nat) × Int).1.length : Int) > 64) then (noMo, [], 8) else (prodM m a ((l, e) : List (Nat × Nat) × Int).1, ((l, e) : List (Nat × Nat) × Int).1, (0 : Int))) = (prodM m a l, l, 0) := by
    rw [show (((l, e) : List (Nat × Nat) × Int).2 != 0) = false from h1, show decide ((((l, e) : List (Nat × Nat) × Int).1.length : Int) > 64) = false from h2]; rfl
  rw [hres]
  clear hres
  refine ⟨Unit, fun _ => [(2, .ref 0 0), (3, .ref 1 0), (4, .ref 2 0), (7, .pv (.sl (l.map pairPV))), (9, .ref 3 0)], fun _ => 5, fun _ => [(0, .var (cellsM m)), (1, .var (cellsA a)), (2, .var cells0), (3, .var [.pv (i64 (l.map pairPV).length), .pv (rowPV (vsU m a l m.val.length)), .pv .nil])], ?_, ?_⟩
  · try conv=>whnf
    refine ⟨{ i : Nat // i ≤ m.val.length }, fun i => [(2, .ref 0 0), (3, .ref 1 0), (4, .ref 2 0), (7, .pv (.sl (l.map pairPV))), (9, .ref 3 0), (38, .pv (i64 (m.val.map u64).length)), (39, .pv (i64 i.1))], fun _ => 5, fun i => [(0, .var (cellsM m)), (1, .var (cellsA a)), (2, .var cells0), (3, .var [.pv (i64 (l.map pairPV).length), .buf 4 ((vsU m a l i.1).map u64).length, .pv .nil]), (4, .arr 1 ((vsU m a l i.1).map u64))], fun i => m.val.length - i.1, ⟨⟨0, Nat.zero_le _⟩, (by refine Wk.of ?_ ?_ rfl rfl rfl<;>repeat' (first|exact trivial|exact WkD.same _|exact WkO.same _ _ rfl|exact WkD.new' rfl rfl rfl|exact WkO.new _ _ rfl|refine WkO.vars rfl ?_|exact rfl|refine ⟨?_, ?_⟩|fail))⟩, ?_⟩
    intro i
    have hi := i.2
    have hvs := vsU_succ m a l i.1
    have hvsl : ((vsU m a l i.1).map u64).length ≤ 1000 := by simp [vsU]; omega
    have er : (vsU m a l i.1).map u64 ++ [u64 (valP m a l i.1)] = (vsU m a l (i.1 + 1)).map u64 := by rw [hvs, List.map_append]; rfl
    (try conv=>whnf);repeat' (first|(apply And.intro<;>try conv=>whnf)|(intro h;try conv=>whnf)|fail)
    · have hi' : i.1 < m.val.length := by simpa using lt_dec h
      have hV := rp_value m a l i.1 hf hfa hl hp hma hi' hl64 (fun y hy => ⟨by have := (hmem y hy).1; omega, (hmem y hy).2⟩)
      refine ⟨Plan.lin 0 11, [], by kernel_rfl, ?_⟩
      (try conv=>whnf);repeat' (first|(apply And.intro<;>try conv=>whnf)|(apply cellsI;rfl)|(apply szI;rfl)|(refine ⟨_, (by (conv=>whnf);exact hV), rfl, ?_⟩;try conv=>whnf)|fail)
      · exact app_big (n := 1000) hvsl (by decide)
      · refine ⟨⟨i.1 + 1, hi'⟩, by show m.val.length - (i.1 + 1) < m.val.length - i.1; omega, ?_⟩
        (refine Wk.of ?_ ?_ rfl rfl rfl<;>repeat' (first|exact trivial|exact WkD.same _|exact WkO.same _ _ rfl|exact WkD.eq (congrArg (fun z : List PV => DV.buf _ z.length) er)|exact WkO.same _ _ (congrArg (fun z => some (DObj.arr _ z)) er)|refine WkD.int ?_|refine WkO.vars rfl ?_|refine ⟨?_, ?_⟩|(refine wrapA ?_ ?_ ?_;(focus simp;done);(focus (try dsimp only);omega);(focus (try dsimp only);omega))|fail))
    · obtain ⟨i0, hi0⟩ := i
      have hi' : i0 = m.val.length := by have := ge_dec (m := (m.val.map u64).length) h (by simpa using hi); simpa using this
      subst hi'
      exact ⟨(), (by refine Wk.of ?_ ?_ rfl rfl rfl<;>repeat' (first|exact trivial|exact WkD.same _|exact WkO.same _ _ rfl|exact WkD.fz _ _ _ rfl (Or.inl ⟨_, rfl⟩) rfl|refine WkO.vars rfl ?_|refine ⟨?_, ?_⟩|fail))⟩
  rintro ⟨⟩
  generalize hVS : (vsU m a l m.val.length) = vs
  refine ⟨Unit, fun _ => [(4, .ref 2 0), (7, .pv (.sl (l.map pairPV))), (9, .ref 3 0)], fun _ => 5, fun _ => [(2, .var cells0), (3, .var [.pv (i64 (l.map pairPV).length), .pv (rowPV vs), .pv (.sl ((rsU m a l m.rel.length).map rowPV))])], ?_, ?_⟩
  · try conv=>whnf
    refine ⟨{ i : Nat // i ≤ m.rel.length }, fun i => [(2, .ref 0 0), (3, .ref 1 0), (4, .ref 2 0), (7, .pv (.sl (l.map pairPV))), (9, .ref 3 0), (55, .pv (i64 (m.rel.map rowPV).length)), (56, .pv (i64 i.1))], fun _ => 6, fun i => [(0, .var (cellsM m)), (1, .var (cellsA a)), (2, .var cells0), (3, .var [.pv (i64 (l.map pairPV).length), .pv (rowPV vs), .buf 5 ((rsU m a l i.1).map rowPV).length]), (5, .arr 1 ((rsU m a l i.1).map rowPV))], fun i => m.rel.length - i.1, ⟨⟨0, Nat.zero_le _⟩, (by refine Wk.of ?_ ?_ rfl rfl rfl<;>repeat' (first|exact trivial|exact WkD.same _|exact WkO.same _ _ rfl|exact WkD.new' rfl rfl rfl|exact WkO.new _ _ rfl|refine WkO.vars rfl ?_|exact rfl|refine ⟨?_, ?_⟩|fail))⟩, ?_⟩
    intro i
    have hi := i.2
    (try conv=>whnf);repeat' (first|(apply And.intro<;>try conv=>whnf)|(intro h;try conv=>whnf)|fail)
    · have hi' : i.1 < m.rel.length := by simpa using lt_dec h
      obtain ⟨r, hr, hrw⟩ : ∃ r, m.rel[i.1]? = some r ∧ m.rel.getD i.1 [] = r := ⟨_, getD_mem hi', rfl⟩
      have hrm : r ∈ m.rel := List.mem_iff_getElem?.2 ⟨i.1, hr⟩
      have hrl := hM.rows r hrm
      obtain ⟨ra, hra, hraw⟩ : ∃ r, a.rel[i.1]? = some r ∧ a.rel.getD i.1 [] = r := ⟨_, getD_mem (by have := hO.ags; omega), rfl⟩
      have hram : ra ∈ a.rel := List.mem_iff_getElem?.2 ⟨i.1, hra⟩
      have hral := hO.rows ra hram
      refine ⟨Unit, fun _ => [(2, .ref 0 0), (3, .ref 1 0), (4, .ref 2 0), (7, .pv (.sl (l.map pairPV))), (9, .ref 3 0), (11, .pv (i64 i.1)), (55, .pv (i64 (m.rel.map rowPV).length)), (56, .pv (i64 i.1)), (12, .pv (.sl (l.map fun x => u64 (rowP r ra l x))))], fun _ => 6, fun _ => [(0, .var (cellsM m)), (1, .var (cellsA a)), (2, .var cells0), (3, .var [.pv (i64 (l.map pairPV).length), .pv (rowPV vs), .buf 5 ((rsU m a l i.1).map rowPV).length]), (5, .arr 1 ((rsU m a l i.1).map rowPV))], ?_, ?_⟩
      · try conv=>whnf
        refine ⟨{ k : Nat // k ≤ l.length }, fun k => [(2, .ref 0 0), (3, .ref 1 0), (4, .ref 2 0), (7, .pv (.sl (l.map pairPV))), (9, .ref 3 0), (11, .pv (i64 i.1)), (55, .pv (i64 (m.rel.map rowPV).length)), (56, .pv (i64 i.1)), (12, .buf 6 ((l.take k.1).map fun x => u64 (rowP r ra l x)).length), (59, .pv (.sl (l.map pairPV))), (60, .pv (i64 (l.map pairPV).length)), (61, .pv (i64 k.1))], fun _ => 7, fun k => [(0, .var (cellsM m)), (1, .var (cellsA a)), (2, .var cells0), (3, .var [.pv (i64 (l.map pairPV).length), .pv (rowPV vs), .buf 5 ((rsU m a l i.1).map rowPV).length]), (5, .arr 1 ((rsU m a l i.1).map rowPV)), (6, .arr 1 ((l.take k.1).map fun x => u64 (rowP r ra l x)))], fun k => l.length - k.1, ⟨⟨0, Nat.zero_le _⟩, (by refine Wk.of ?_ ?_ rfl rfl rfl<;>repeat' (first|exact trivial|exact WkD.same _|exact WkO.same _ _ rfl|exact WkD.new' rfl rfl rfl|exact WkO.new _ _ rfl|exact rfl|refine ⟨?_, ?_⟩|fail))⟩, ?_⟩
        intro k
        have hk := k.2
        have hkl : ((l.take k.1).map fun x => u64 (rowP r ra l x)).length ≤ 64 := by simp; omega
        (try conv=>whnf);repeat' (first|(apply And.intro<;>try conv=>whnf)|(intro h;try conv=>whnf)|(apply infoT;rfl)|fail)
        · have hk' : k.1 < l.length := by simpa using lt_dec h
          obtain ⟨x, hx, hxw⟩ : ∃ y, l[k.1]? = some y ∧ l[k.1] = y := ⟨_, List.getElem?_eq_getElem hk', rfl⟩
          have hxm := hmem x (List.mem_iff_getElem?.2 ⟨k.1, hx⟩)
          have hrx : r[x.1]? = some (r.getD x.1 0) := getD_mem (by omega)
          have hrax : ra[x.2]? = some (ra.getD x.2 0) := getD_mem (by omega)
          have hes : ((l.take k.1).map fun x => u64 (rowP r ra l x)) ++ [u64 (rowP r ra l x)] = ((l.take (k.1 + 1)).map fun x => u64 (rowP r ra l x)) := by rw [List.take_succ_eq_append_getElem hk', List.map_append, hxw]; rfl
          refine ⟨_, _, rfl, idx_map hx, rfl, ?_⟩
          try conv=>whnf
          refine ⟨{ j : Nat // j ≤ l.length }, fun j => [(2, .ref 0 0), (3, .ref 1 0), (4, .ref 2 0), (7, .pv (.sl (l.map pairPV))), (9, .ref 3 0), (11, .pv (i64 i.1)), (55, .pv (i64 (m.rel.map rowPV).length)), (56, .pv (i64 i.1)), (12, .buf 6 ((l.take k.1).map fun x => u64 (rowP r ra l x)).length), (14, .ref 7 0), (15, .pv (u64 (maskOf (fun j => seesP r ra x (l.getD j (0, 0))) j.1))), (16, .pv (u64 (bitW j.1))), (59, .pv (.sl (l.map pairPV))), (60, .pv (i64 (l.map pairPV).length)), (61, .pv (i64 k.1)), (65, .pv (.sl (l.map pairPV))), (66, .pv (i64 (l.map pairPV).length)), (67, .pv (i64 j.1))], fun _ => 8, fun j => [(0, .var (cellsM m)), (1, .var (cellsA a)), (2, .var cells0), (3, .var [.pv (i64 (l.map pairPV).length), .pv (rowPV vs), .buf 5 ((rsU m a l i.1).map rowPV).length]), (5, .arr 1 ((rsU m a l i.1).map rowPV)), (6, .arr 1 ((l.take k.1).map fun x => u64 (rowP r ra l x))), (7, .var [.pv (i64 x.1), .pv (i64 x.2)])], fun j => l.length - j.1, ⟨⟨0, Nat.zero_le _⟩, (by refine Wk.of ?_ ?_ rfl rfl rfl<;>repeat' (first|exact trivial|exact WkD.same _|exact WkO.same _ _ rfl|refine ⟨?_, ?_⟩|fail))⟩, ?_⟩
          intro j
          have hj := j.2
          (try conv=>whnf);repeat' (first|(apply And.intro<;>try conv=>whnf)|(intro h;try conv=>whnf)|(apply infoT;rfl)|(apply cellsI;rfl)|(apply szI;rfl)|fail)
          · have hj' : j.1 < l.length := by simpa using lt_dec h
            obtain ⟨y, hy, hyw⟩ : ∃ y, l[j.1]? = some y ∧ l.getD j.1 (0, 0) = y := ⟨_, getD_mem hj', rfl⟩
            have hym := hmem y (List.mem_iff_getElem?.2 ⟨j.1, hy⟩)
            have hA1 := rm_Has (r.getD x.1 0) y.1 (by omega)
            have hA2 := rm_Has (ra.getD x.2 0) y.2 (by omega)
            have hsee : seesP r ra x (l.getD j.1 (0, 0)) = bif (r.getD x.1 0).testBit y.1 then (ra.getD x.2 0).testBit y.2 else false := by rw [hyw]; rfl
            refine ⟨_, _, rfl, idx_map hy, rfl, ?_⟩
            (try conv=>whnf);repeat' (first|(apply And.intro<;>try conv=>whnf)|(intro h;try conv=>whnf)|apply True.intro|(apply infoT;rfl)|(apply WhenQ.mk;(try conv=>whnf);rotate_left;(try conv=>whnf);rotate_right)|with_reducible assumption|(refine lin_plan (by kernel_rfl) ?_;try conv=>whnf)|(refine ⟨_, _, rfl, idx_map (by with_reducible assumption), rfl, ?_⟩;try conv=>whnf)|(refine ⟨_, (by (conv=>whnf);exact hA1), rfl, ?_⟩;try conv=>whnf)|(refine ⟨_, (by (conv=>whnf);exact hA2), rfl, ?_⟩;try conv=>whnf)|fail)
            · refine ⟨⟨j.1 + 1, hj'⟩, by show l.length - (j.1 + 1) < l.length - j.1; omega, ?_⟩
              (refine Wk.of ?_ ?_ rfl rfl rfl<;>repeat' (first|exact trivial|exact WkD.same _|exact WkO.same _ _ rfl|refine WkD.int ?_|refine ⟨?_, ?_⟩|(refine wrapA ?_ ?_ ?_;(focus simp;done);(focus (try dsimp only);omega);(focus (try dsimp only);omega))|fail))
              · exact mask_add (q := fun j => seesP r ra x (l.getD j (0, 0))) (by omega) (by show seesP r ra x (l.getD j.1 (0, 0)) = true; rw [hsee]; exact h)
              · exact bitW_mul j.1
            · refine ⟨⟨j.1 + 1, hj'⟩, by show l.length - (j.1 + 1) < l.length - j.1; omega, ?_⟩
              (refine Wk.of ?_ ?_ rfl rfl rfl<;>repeat' (first|exact trivial|exact WkD.same _|exact WkO.same _ _ rfl|refine WkD.int ?_|refine ⟨?_, ?_⟩|(refine wrapA ?_ ?_ ?_;(focus simp;done);(focus (try dsimp only);omega);(focus (try dsimp only);omega))|fail))
              · exact congrArg (fun z : Nat => (z : Int)) (mask_no (q := fun j => seesP r ra x (l.getD j (0, 0))) (by show seesP r ra x (l.getD j.1 (0, 0)) = false; rw [hsee]; exact h))
              · exact bitW_mul j.1
          · exact app_big (n := 64) hkl (by decide)
          · obtain ⟨j0, hj0⟩ := j
            have hj' : j0 = l.length := by have := ge_dec (m := (l.map pairPV).length) h (by simpa using hj); simpa using this
            subst hj'
            refine ⟨⟨k.1 + 1, hk'⟩, by show l.length - (k.1 + 1) < l.length - k.1; omega, ?_⟩
            (refine Wk.of ?_ ?_ rfl rfl rfl<;>repeat' (first|exact trivial|exact WkD.same _|exact WkO.same _ _ rfl|exact WkD.eq (congrArg (fun z : List PV => DV.buf _ z.length) hes)|exact WkO.same _ _ (congrArg (fun z => some (DObj.arr _ z)) hes)|refine WkD.int ?_|refine ⟨?_, ?_⟩|(refine wrapA ?_ ?_ ?_;(focus simp;done);(focus (try dsimp only);omega);(focus (try dsimp only);omega))|fail))
        · obtain ⟨k0, hk0⟩ := k
          have hk' : k0 = l.length := by have := ge_dec (m := (l.map pairPV).length) h (by simpa using hk); simpa using this
          subst hk'
          have hz : ((l.take l.length).map fun x => u64 (rowP r ra l x)) = (l.map fun x => u64 (rowP r ra l x)) := by rw [List.take_length]
          refine ⟨(), ?_⟩
          rw [← hz]
          (refine Wk.of ?_ ?_ rfl rfl rfl<;>repeat' (first|exact trivial|exact WkD.same _|exact WkO.same _ _ rfl|exact WkD.fz _ _ _ rfl (Or.inl ⟨_, rfl⟩) rfl|refine ⟨?_, ?_⟩|fail))
      rintro ⟨⟩
      have hrs := rsU_succ m a l i.1
      have hrsl : ((rsU m a l i.1).map rowPV).length ≤ 1000 := by simp [rsU]; omega
      have er : (rsU m a l i.1).map rowPV ++ [PV.sl (l.map fun x => u64 (rowP r ra l x))] = (rsU m a l (i.1 + 1)).map rowPV := by
        rw [hrs, List.map_append, relP, hrw, hraw]
        congr 1
        show [PV.sl _] = [rowPV (l.map (rowP r ra l))]
        rw [rowPV, List.map_map]; rfl
      (try conv=>whnf);repeat' (first|(apply And.intro<;>try conv=>whnf)|(apply cellsI;rfl)|(apply szI;rfl)|fail)
      · exact app_big (n := 1000) hrsl (by decide)
      refine ⟨⟨i.1 + 1, hi'⟩, by show m.rel.length - (i.1 + 1) < m.rel.length - i.1; omega, ?_⟩
      (refine Wk.of ?_ ?_ rfl rfl rfl<;>repeat' (first|exact trivial|exact WkD.same _|exact WkO.same _ _ rfl|exact WkD.eq (congrArg (fun z : List PV => DV.buf _ z.length) er)|exact WkO.same _ _ (congrArg (fun z => some (DObj.arr _ z)) er)|refine WkD.int ?_|refine WkO.vars rfl ?_|refine ⟨?_, ?_⟩|(refine wrapA ?_ ?_ ?_;(focus simp;done);(focus (try dsimp only);omega);(focus (try dsimp only);omega))|fail))
    · obtain ⟨i0, hi0⟩ := i
      have hi' : i0 = m.rel.length := by have := ge_dec (m := (m.rel.map rowPV).length) h (by simpa using hi); simpa using this
      subst hi'
      exact ⟨(), (by refine Wk.of ?_ ?_ rfl rfl rfl<;>repeat' (first|exact trivial|exact WkD.same _|exact WkO.same _ _ rfl|exact WkD.fz _ _ _ rfl (Or.inl ⟨_, rfl⟩) rfl|refine WkO.vars rfl ?_|refine ⟨?_, ?_⟩|fail))⟩
  rintro ⟨⟩
  have hfin : updPV (prodM m a l, l, 0) = .tup [.agg [i64 (l.map pairPV).length, rowPV vs, .sl ((rsU m a l m.rel.length).map rowPV)], .sl (l.map pairPV), .int .i64 0] := by rw [← hVS, List.length_map]; rfl
  try conv=>whnf
  rw [hfin]; exact .refl _
end Go.Proofs.YtlaolpkgabknfaaGreatDoor
set_option maxRecDepth 100000
set_option maxHeartbeats 8000000
namespace Go.Proofs.YtlaolpkgabknfaaGreatDoor
open Go Go.Dv

def lenR (a : Act) : Bool := bif bif decide ((a.pre.length : Int) > 10) then true else decide ((a.post.length : Int) > 10) then true else decide ((a.rel.length : Int) > 6)
def rowsR (l : List (List Nat)) : Bool := l.any fun r => decide ((r.length : Int) > 12)
def badR (a : Act) : Bool := bif lenR a then true else bif preB 40 a.pre then true else bif postB 40 a.post then true else rowsR a.rel
def fewR (acts : List Act) : Bool := bif decide ((acts.length : Int) > 10) then false else !acts.any badR
theorem fewR_ok {acts : List Act} (h : fewR acts = true) : acts.length ≤ 10 ∧ ∀ a, a ∈ acts → a.pre.length ≤ 10 ∧ a.post.length ≤ 10 ∧ a.rel.length ≤ 6 ∧ (∀ f, f ∈ a.pre → f.length ≤ 40) ∧ ∀ l, l ∈ a.post → l.length ≤ 12 := by
  unfold fewR at h
  cases h1 : decide ((acts.length : Int) > 10) with
  | true => rw [h1] at h; cases h
  | false =>
    rw [h1, cond_false] at h
    have := of_decide_eq_false h1
    refine ⟨by omega, fun a ha => ?_⟩
    have hb : badR a = false := by
      have := List.any_eq_false.1 (show acts.any badR = false by simpa using h) a ha
      simpa using this
    unfold badR at hb
    cases h2 : lenR a with
    | true => rw [h2] at hb; cases hb
    | false =>
      rw [h2, cond_false] at hb
      cases h3 : preB 40 a.pre with
      | true => rw [h3] at hb; cases hb
      | false =>
        rw [h3, cond_false] at hb
        cases h4 : postB 40 a.post with
        | true => rw [h4] at hb; cases hb
        | false =>
          unfold lenR at h2
          cases q1 : decide ((a.pre.length : Int) > 10) with
          | true => rw [q1] at h2; cases h2
          | false =>
            cases q2 : decide ((a.post.length : Int) > 10) with
            | true => rw [q1, q2] at h2; cases h2
            | false =>
              rw [q1, q2] at h2
              have g1 := of_decide_eq_false q1
              have g2 := of_decide_eq_false q2
              have g3 := of_decide_eq_false (show decide ((a.rel.length : Int) > 6) = false from h2)
              refine ⟨by omega, by omega, by omega, fun f hf => ?_, fun l hl => ?_⟩
              · have := List.any_eq_false.1 h3 f hf
                have := of_decide_eq_false (show decide ((f.length : Int) > 40) = false by simpa using this)
                omega
              · have := List.any_eq_false.1 h4 l hl
                cases q : decide ((l.length : Int) > 12) with
                | true => rw [q] at this; exact absurd rfl this
                | false => have := of_decide_eq_false q; omega
theorem rd_Few (acts : List Act) : PureFn Tryz.prog 32 [actsPV acts] (.bool (fewR acts)) := by
  have e0 : ((acts.map Act.pv).length : Int) = (acts.length : Int) := by simp
  refine PureFn.introC [8, 13, 23] mixed (fn := Tryz.f32) rfl rfl rfl fun M w0 => ?_
  (try conv=>whnf);repeat' (first|(apply And.intro<;>try conv=>whnf)|(intro h;try conv=>whnf)|fail)
  · rw [fewR, ← e0, show decide (((acts.map Act.pv).length : Int) > 10) = true from h]; exact .refl _
  rw [show fewR acts = !acts.any badR by rw [fewR, ← e0, show decide (((acts.map Act.pv).length : Int) > 10) = false from h]; rfl]
  have hal : acts.length ≤ 10 := by have := of_decide_eq_false h; simp at this; omega
  clear h
  refine ⟨{ i : Nat // i ≤ acts.length ∧ (acts.take i).any badR = false }, fun i => [(0, .pv (actsPV acts)), (3, .pv (i64 i.1))], fun _ => 0, fun _ => [], fun i => acts.length - i.1, ⟨⟨0, Nat.zero_le _, rfl⟩, (by refine Wk.of ?_ ?_ rfl rfl rfl<;>repeat' (first|exact trivial|exact WkD.same _|refine ⟨?_, ?_⟩|fail))⟩, ?_⟩
  rintro ⟨i, hi, hb⟩
  (try conv=>whnf);repeat' (first|(apply And.intro<;>try conv=>whnf)|(intro h;try conv=>whnf)|fail)
  · have hi' : i < acts.length := by simpa using lt_dec h
    have hat := any_at (p := badR) hi'
    have htk := any_take (p := badR) hi' hb
    obtain ⟨a, hn, hr⟩ : ∃ a, acts[i]? = some a ∧ acts[i] = a := ⟨_, List.getElem?_eq_getElem hi', rfl⟩
    rw [hr] at hat htk
    have e1 : ((a.pre.map fpv).length : Int) = (a.pre.length : Int) := by simp
    have e2 : ((a.post.map postPV).length : Int) = (a.post.length : Int) := by simp
    have e3 : ((a.rel.map rowPV).length : Int) = (a.rel.length : Int) := by simp
    clear h
    refine ⟨{ _x : Unit // lenR a = false }, fun _ => [(0, .pv (actsPV acts)), (3, .pv (i64 i))], fun _ => 0, fun _ => [], ?_, ?_⟩
    · (try conv=>whnf);repeat' (first|(apply And.intro<;>try conv=>whnf)|(intro h;try conv=>whnf)|apply True.intro|(apply infoT;rfl)|(apply WhenQ.mk;(try conv=>whnf);rotate_left;(try conv=>whnf);rotate_right)|with_reducible assumption|(apply not_of;with_reducible assumption)|(refine ⟨_, _, rfl, idx_map (by with_reducible assumption), rfl, ?_⟩;try conv=>whnf)|fail)
      · have h9 : lenR a = true := by rw [lenR, ← e1, ← e2, ← e3]; exact h
        rw [hat (by rw [badR, h9]; rfl)]; exact .refl _
      · exact ⟨⟨(), by rw [lenR, ← e1, ← e2, ← e3]; exact h⟩, (by refine Wk.of ?_ ?_ rfl rfl rfl<;>repeat' (first|exact trivial|exact WkD.same _|refine ⟨?_, ?_⟩|fail))⟩
    rintro ⟨_, h1⟩
    have hb1 : a.pre.length ≤ 10 ∧ a.post.length ≤ 10 ∧ a.rel.length ≤ 6 := by
      unfold lenR at h1
      cases q1 : decide ((a.pre.length : Int) > 10) with
      | true => rw [q1] at h1; cases h1
      | false =>
        cases q2 : decide ((a.post.length : Int) > 10) with
        | true => rw [q1, q2] at h1; cases h1
        | false =>
          rw [q1, q2] at h1
          have g1 := of_decide_eq_false q1
          have g2 := of_decide_eq_false q2
          have g3 := of_decide_eq_false (show decide ((a.rel.length : Int) > 6) = false from h1)
          exact ⟨by omega, by omega, by omega⟩
    refine ⟨{ _x : Unit // preB 40 a.pre = false }, fun _ => [(0, .pv (actsPV acts)), (3, .pv (i64 i))], fun _ => 0, fun _ => [], ?_, ?_⟩
    · try conv=>whnf
      refine ⟨{ k : Nat // k ≤ a.pre.length ∧ preB 40 (a.pre.take k) = false }, fun k => [(0, .pv (actsPV acts)), (3, .pv (i64 i)), (4, .pv (i64 k.1))], fun _ => 0, fun _ => [], fun k => a.pre.length - k.1, ⟨⟨0, Nat.zero_le _, rfl⟩, (by refine Wk.of ?_ ?_ rfl rfl rfl<;>repeat' (first|exact trivial|exact WkD.same _|refine ⟨?_, ?_⟩|fail))⟩, ?_⟩
      rintro ⟨k, hk, hc⟩
      (try conv=>whnf);repeat' (first|(apply And.intro<;>try conv=>whnf)|(intro h;try conv=>whnf)|(apply infoT;rfl)|(refine ⟨_, _, rfl, idx_map (by with_reducible assumption), rfl, ?_⟩;try conv=>whnf)|fail)
      · have hk' : k < a.pre.length := by simpa using lt_dec h
        have hkn : a.pre[k]? = some a.pre[k] := List.getElem?_eq_getElem hk'
        have e4 : ((a.pre[k].map Nd.pv).length : Int) = (a.pre[k].length : Int) := by simp
        (try conv=>whnf);repeat' (first|(apply And.intro<;>try conv=>whnf)|(intro h;try conv=>whnf)|(refine ⟨_, _, rfl, idx_map (by with_reducible assumption), rfl, ?_⟩;try conv=>whnf)|fail)
        · have h9 : preB 40 a.pre = true := any_at (p := fun f : List Nd => decide ((f.length : Int) > 40)) hk' (by rw [← e4]; exact h)
          rw [hat (by rw [badR, h1, h9]; rfl)]; exact .refl _
        · exact ⟨⟨k + 1, hk', any_take (p := fun f : List Nd => decide ((f.length : Int) > 40)) hk' hc (by rw [← e4]; exact h)⟩, by show a.pre.length - (k + 1) < a.pre.length - k; omega, (by refine Wk.of ?_ ?_ rfl rfl rfl<;>repeat' (first|exact trivial|exact WkD.same _|refine WkD.int ?_|refine ⟨?_, ?_⟩|(refine wrapA ?_ ?_ ?_;(focus simp;done);(focus (try dsimp only);omega);(focus (try dsimp only);omega))|fail))⟩
      · have hk' : k = a.pre.length := by have := ge_dec (m := (a.pre.map fpv).length) h (by simpa using hk); simpa using this
        subst hk'
        rw [List.take_length] at hc
        exact ⟨⟨(), hc⟩, (by refine Wk.of ?_ ?_ rfl rfl rfl<;>repeat' (first|exact trivial|exact WkD.same _|refine ⟨?_, ?_⟩|fail))⟩
    rintro ⟨_, h2⟩
    refine ⟨{ _x : Unit // postB 40 a.post = false }, fun _ => [(0, .pv (actsPV acts)), (3, .pv (i64 i))], fun _ => 0, fun _ => [], ?_, ?_⟩
    · try conv=>whnf
      refine ⟨{ k : Nat // k ≤ a.post.length ∧ postB 40 (a.post.take k) = false }, fun k => [(0, .pv (actsPV acts)), (3, .pv (i64 i)), (5, .pv (i64 k.1))], fun _ => 0, fun _ => [], fun k => a.post.length - k.1, ⟨⟨0, Nat.zero_le _, rfl⟩, (by refine Wk.of ?_ ?_ rfl rfl rfl<;>repeat' (first|exact trivial|exact WkD.same _|refine ⟨?_, ?_⟩|fail))⟩, ?_⟩
      rintro ⟨k, hk, hc⟩
      (try conv=>whnf);repeat' (first|(apply And.intro<;>try conv=>whnf)|(intro h;try conv=>whnf)|(apply infoT;rfl)|(refine ⟨_, _, rfl, idx_map (by with_reducible assumption), rfl, ?_⟩;try conv=>whnf)|fail)
      · have hk' : k < a.post.length := by simpa using lt_dec h
        have hat2 := any_at (p := fun l : List Asg => bif decide ((l.length : Int) > 12) then true else asgB 40 l) hk'
        have htk2 := any_take (p := fun l : List Asg => bif decide ((l.length : Int) > 12) then true else asgB 40 l) hk' hc
        obtain ⟨l, hkn, hkr⟩ : ∃ l, a.post[k]? = some l ∧ a.post[k] = l := ⟨_, List.getElem?_eq_getElem hk', rfl⟩
        rw [hkr] at hat2 htk2
        have e4 : ((l.map Asg.pv).length : Int) = (l.length : Int) := by simp
        (try conv=>whnf);repeat' (first|(apply And.intro<;>try conv=>whnf)|(intro h;try conv=>whnf)|(refine ⟨_, _, rfl, idx_map (by with_reducible assumption), rfl, ?_⟩;try conv=>whnf)|fail)
        · have h9 : decide ((l.length : Int) > 12) = true := by rw [← e4]; exact h
          rw [hat (by rw [badR, h1, h2, show postB 40 a.post = true from hat2 (by rw [h9]; rfl)]; rfl)]; exact .refl _
        have h9 : decide ((l.length : Int) > 12) = false := by rw [← e4]; exact h
        have hll : l.length ≤ 12 := by have := of_decide_eq_false h9; omega
        refine ⟨{ j : Nat // j ≤ l.length ∧ asgB 40 (l.take j) = false }, fun j => [(0, .pv (actsPV acts)), (3, .pv (i64 i)), (5, .pv (i64 k)), (6, .pv (i64 j.1))], fun _ => 0, fun _ => [], fun j => l.length - j.1, ⟨⟨0, Nat.zero_le _, rfl⟩, (by refine Wk.of ?_ ?_ rfl rfl rfl<;>repeat' (first|exact trivial|exact WkD.same _|refine ⟨?_, ?_⟩|fail))⟩, ?_⟩
        rintro ⟨j, hj, hd⟩
        (try conv=>whnf);repeat' (first|(apply And.intro<;>try conv=>whnf)|(intro h;try conv=>whnf)|(apply infoT;rfl)|(refine ⟨_, _, rfl, idx_map (by with_reducible assumption), rfl, ?_⟩;try conv=>whnf)|fail)
        · have hj' : j < l.length := by simpa using lt_dec h
          have hm : l[j]? = some l[j] := List.getElem?_eq_getElem hj'
          have e5 : ((l[j].to.map Nd.pv).length : Int) = (l[j].to.length : Int) := by simp
          (try conv=>whnf);repeat' (first|(apply And.intro<;>try conv=>whnf)|(intro h;try conv=>whnf)|(refine ⟨_, _, rfl, idx_map (by with_reducible assumption), rfl, ?_⟩;try conv=>whnf)|fail)
          · have h7 : asgB 40 l = true := any_at (p := fun p : Asg => decide ((p.to.length : Int) > 40)) hj' (by rw [← e5]; exact h)
            rw [hat (by rw [badR, h1, h2, show postB 40 a.post = true from hat2 (by rw [h9, h7]; rfl)]; rfl)]; exact .refl _
          · exact ⟨⟨j + 1, hj', any_take (p := fun p : Asg => decide ((p.to.length : Int) > 40)) hj' hd (by rw [← e5]; exact h)⟩, by show l.length - (j + 1) < l.length - j; omega, (by refine Wk.of ?_ ?_ rfl rfl rfl<;>repeat' (first|exact trivial|exact WkD.same _|refine WkD.int ?_|refine ⟨?_, ?_⟩|(refine wrapA ?_ ?_ ?_;(focus simp;done);(focus (try dsimp only);omega);(focus (try dsimp only);omega))|fail))⟩
        · have hj' : j = l.length := by have := ge_dec (m := (l.map Asg.pv).length) h (by simpa using hj); simpa using this
          subst hj'
          rw [List.take_length] at hd
          exact ⟨⟨k + 1, hk', htk2 (by rw [h9, hd]; rfl)⟩, by show a.post.length - (k + 1) < a.post.length - k; omega, (by refine Wk.of ?_ ?_ rfl rfl rfl<;>repeat' (first|exact trivial|exact WkD.same _|refine WkD.int ?_|refine ⟨?_, ?_⟩|(refine wrapA ?_ ?_ ?_;(focus simp;done);(focus (try dsimp only);omega);(focus (try dsimp only);omega))|fail))⟩
      · have hk' : k = a.post.length := by have := ge_dec (m := (a.post.map postPV).length) h (by simpa using hk); simpa using this
        subst hk'
        rw [List.take_length] at hc
        exact ⟨⟨(), hc⟩, (by refine Wk.of ?_ ?_ rfl rfl rfl<;>repeat' (first|exact trivial|exact WkD.same _|refine ⟨?_, ?_⟩|fail))⟩
    rintro ⟨_, h3⟩
    try conv=>whnf
    refine ⟨{ k : Nat // k ≤ a.rel.length ∧ rowsR (a.rel.take k) = false }, fun k => [(0, .pv (actsPV acts)), (3, .pv (i64 i)), (7, .pv (i64 k.1))], fun _ => 0, fun _ => [], fun k => a.rel.length - k.1, ⟨⟨0, Nat.zero_le _, rfl⟩, (by refine Wk.of ?_ ?_ rfl rfl rfl<;>repeat' (first|exact trivial|exact WkD.same _|refine ⟨?_, ?_⟩|fail))⟩, ?_⟩
    rintro ⟨k, hk, hc⟩
    (try conv=>whnf);repeat' (first|(apply And.intro<;>try conv=>whnf)|(intro h;try conv=>whnf)|(apply infoT;rfl)|(refine ⟨_, _, rfl, idx_map (by with_reducible assumption), rfl, ?_⟩;try conv=>whnf)|fail)
    · have hk' : k < a.rel.length := by simpa using lt_dec h
      have hkn : a.rel[k]? = some a.rel[k] := List.getElem?_eq_getElem hk'
      have e4 : ((a.rel[k].map u64).length : Int) = (a.rel[k].length : Int) := by simp
      (try conv=>whnf);repeat' (first|(apply And.intro<;>try conv=>whnf)|(intro h;try conv=>whnf)|(refine ⟨_, _, rfl, idx_map (by with_reducible assumption), rfl, ?_⟩;try conv=>whnf)|fail)
      · have h9 : rowsR a.rel = true := any_at (p := fun r : List Nat => decide ((r.length : Int) > 12)) hk' (by rw [← e4]; exact h)
        rw [hat (by rw [badR, h1, h2, h3, h9]; rfl)]; exact .refl _
      · exact ⟨⟨k + 1, hk', any_take (p := fun r : List Nat => decide ((r.length : Int) > 12)) hk' hc (by rw [← e4]; exact h)⟩, by show a.rel.length - (k + 1) < a.rel.length - k; omega, (by refine Wk.of ?_ ?_ rfl rfl rfl<;>repeat' (first|exact trivial|exact WkD.same _|refine WkD.int ?_|refine ⟨?_, ?_⟩|(refine wrapA ?_ ?_ ?_;(focus simp;done);(focus (try dsimp only);omega);(focus (try dsimp only);omega))|fail))⟩
    · have hk' : k = a.rel.length := by have := ge_dec (m := (a.rel.map rowPV).length) h (by simpa using hk); simpa using this
      subst hk'
      rw [List.take_length] at hc
      exact ⟨⟨i + 1, hi', htk (by rw [badR, h1, h2, h3, hc]; rfl)⟩, by show acts.length - (i + 1) < acts.length - i; omega, (by refine Wk.of ?_ ?_ rfl rfl rfl<;>repeat' (first|exact trivial|exact WkD.same _|refine WkD.int ?_|refine ⟨?_, ?_⟩|(refine wrapA ?_ ?_ ?_;(focus simp;done);(focus (try dsimp only);omega);(focus (try dsimp only);omega))|fail))⟩
  · have hi' : i = acts.length := by have := ge_dec (m := (acts.map Act.pv).length) h (by simpa using hi); simpa using this
    subst hi'
    rw [List.take_length] at hb
    rw [hb]; exact .refl _
end Go.Proofs.YtlaolpkgabknfaaGreatDoor
set_option maxRecDepth 100000
set_option maxHeartbeats 8000000
namespace Go.Proofs.YtlaolpkgabknfaaGreatDoor
open Go Go.Dv

def hatM : Mo := ⟨4, [10, 12], [[3, 3, 12, 12], [5, 10, 5, 10]]⟩
def hatH : Nat → List (Nat × DObj)
  | 0 => [(0, .var [.pv (i64 0), .pv .nil, .pv .nil]), (1, .var [.buf 3 0, .buf 4 0]), (2, .var [.pv (i64 4), .pv (.sl [u64 10, u64 12]), .vbuf 1 2]), (3, .arr 1 []), (4, .arr 1 [])]
  | 1 => [(0, .var [.pv (i64 0), .pv .nil, .pv .nil]), (1, .var [.buf 3 1, .buf 4 1]), (2, .var [.pv (i64 4), .pv (.sl [u64 10, u64 12]), .vbuf 1 2]), (3, .arr 1 [u64 3]), (4, .arr 1 [u64 5])]
  | 2 => [(0, .var [.pv (i64 0), .pv .nil, .pv .nil]), (1, .var [.buf 3 2, .buf 4 2]), (2, .var [.pv (i64 4), .pv (.sl [u64 10, u64 12]), .vbuf 1 2]), (3, .arr 1 [u64 3, u64 3]), (4, .arr 1 [u64 5, u64 10])]
  | 3 => [(0, .var [.pv (i64 0), .pv .nil, .pv .nil]), (1, .var [.buf 3 3, .buf 4 3]), (2, .var [.pv (i64 4), .pv (.sl [u64 10, u64 12]), .vbuf 1 2]), (3, .arr 1 [u64 3, u64 3, u64 12]), (4, .arr 1 [u64 5, u64 10, u64 5])]
  | _ => [(0, .var [.pv (i64 0), .pv .nil, .pv .nil]), (1, .var [.buf 3 4, .buf 4 4]), (2, .var [.pv (i64 4), .pv (.sl [u64 10, u64 12]), .vbuf 1 2]), (3, .arr 1 [u64 3, u64 3, u64 12, u64 12]), (4, .arr 1 [u64 5, u64 10, u64 5, u64 10])]
theorem lw_hats : PureFn Tryz.prog 29 [] hatM.pv := by
  refine PureFn.introC [6, 7] mixed (fn := Tryz.f29) rfl rfl rfl fun M w0 => ?_
  (try conv=>whnf);repeat' (first|(apply And.intro<;>try conv=>whnf)|(apply cellsI;rfl)|(apply Or.inr;refine ⟨rfl, (by decide), rfl, ?_⟩;try conv=>whnf)|fail)
  · rfl
  · show (0 : Int) ≤ 2; decide
  · show (2 : Int) ≤ ((4294967296 : Nat) : Int); decide
  refine ⟨{ i : Nat // i ≤ 4 }, fun i => [(0, .ref 0 0), (1, .ref 2 0), (6, .pv (i64 i.1))], fun _ => 5, fun i => hatH i.1, fun i => 4 - i.1, ⟨⟨0, Nat.zero_le _⟩, (by refine Wk.of ?_ ?_ rfl rfl rfl<;>repeat' (first|exact trivial|exact WkD.same _|exact WkO.same _ _ rfl|exact WkD.new' rfl rfl rfl|exact WkO.new _ _ rfl|refine WkO.vars rfl ?_|exact rfl|refine ⟨?_, ?_⟩|fail))⟩, ?_⟩
  rintro ⟨i, hi⟩
  rcases i with _ | _ | _ | _ | _ | i
  · (try conv=>whnf);repeat' (first|(apply And.intro<;>try conv=>whnf)|(intro h;try conv=>whnf)|(apply bleI;rfl)|fail)
    · refine ⟨Unit, fun _ => [(0, .ref 0 0), (1, .ref 2 0), (6, .pv (i64 0))], fun _ => 5, fun _ => hatH 1, ?_, ?_⟩
      · try conv=>whnf
        refine ⟨Unit, fun _ => [(0, .ref 0 0), (1, .ref 2 0), (2, .pv (i64 0)), (6, .pv (i64 0))], fun _ => 5, fun _ => [(0, .var [.pv (i64 0), .pv .nil, .pv .nil]), (1, .var [.buf 3 1, .buf 4 0]), (2, .var [.pv (i64 4), .pv (.sl [u64 10, u64 12]), .vbuf 1 2]), (3, .arr 1 [u64 3]), (4, .arr 1 [])], ?_, ?_⟩
        · try conv=>whnf
          refine ⟨.one 2 (.one 3 (.one 4 (.one 5 (.one 6 (.one 7 (.one 8 (.one 9 (.one 10 (.one 11 (.one 12 (.two 0 (.two 1 (.one 13 (.one 14 (.one 15 .done))) 13 (.one 1 (.one 14 (.one 15 .done)))) 13 (.one 0 (.one 1 (.one 14 (.one 15 .done))))))))))))))), [13, 15], by kernel_rfl, ?_⟩
          (try conv=>whnf);repeat' (first|(apply And.intro<;>try conv=>whnf)|(apply infoT;rfl)|(apply cellsI;rfl)|(apply szI;rfl)|(refine ⟨0, rfl, Nat.le_of_ble_eq_true rfl, ?_⟩;try conv=>whnf)|fail)
          all_goals first | exact rfl | (show (0 : Int) ≤ _; exact of_decide_eq_true (by kernel_rfl)) | exact Nat.le_of_ble_eq_true rfl | (refine ⟨(), ?_⟩; (refine Wk.of ?_ ?_ rfl rfl rfl<;>repeat' (first|exact trivial|exact WkD.same _|exact WkO.same _ _ rfl|refine ⟨?_, ?_⟩|fail)); try exact WkO.same _ _ (by kernel_rfl))
        rintro ⟨⟩
        try conv=>whnf
        refine ⟨.one 2 (.one 3 (.one 4 (.one 5 (.one 6 (.one 7 (.one 8 (.one 9 (.one 10 (.one 11 (.one 12 (.two 0 (.two 1 (.one 13 (.one 14 (.one 15 .done))) 13 (.one 1 (.one 14 (.one 15 .done)))) 13 (.one 0 (.one 1 (.one 14 (.one 15 .done))))))))))))))), [13, 15], by kernel_rfl, ?_⟩
        (try conv=>whnf);repeat' (first|(apply And.intro<;>try conv=>whnf)|(apply infoT;rfl)|(apply cellsI;rfl)|(apply szI;rfl)|(refine ⟨1, rfl, Nat.le_of_ble_eq_true rfl, ?_⟩;try conv=>whnf)|fail)
        all_goals first | exact rfl | (show (0 : Int) ≤ _; exact of_decide_eq_true (by kernel_rfl)) | exact Nat.le_of_ble_eq_true rfl | (refine ⟨(), ?_⟩; (refine Wk.of ?_ ?_ rfl rfl rfl<;>repeat' (first|exact trivial|exact WkD.same _|exact WkO.same _ _ rfl|refine ⟨?_, ?_⟩|fail)); try exact WkO.same _ _ (by kernel_rfl))
      rintro ⟨⟩
      try conv=>whnf
      exact ⟨⟨1, by decide⟩, (by show (_ : Nat) < _; exact Nat.le_of_ble_eq_true rfl), (by refine Wk.of ?_ ?_ rfl rfl rfl<;>repeat' (first|exact trivial|exact WkD.same _|exact WkO.same _ _ rfl|refine ⟨?_, ?_⟩|fail))⟩
    all_goals exact Bool.noConfusion (show true = false from h)
  · (try conv=>whnf);repeat' (first|(apply And.intro<;>try conv=>whnf)|(intro h;try conv=>whnf)|(apply bleI;rfl)|fail)
    · refine ⟨Unit, fun _ => [(0, .ref 0 0), (1, .ref 2 0), (6, .pv (i64 1))], fun _ => 5, fun _ => hatH 2, ?_, ?_⟩
      · try conv=>whnf
        refine ⟨Unit, fun _ => [(0, .ref 0 0), (1, .ref 2 0), (2, .pv (i64 1)), (6, .pv (i64 1))], fun _ => 5, fun _ => [(0, .var [.pv (i64 0), .pv .nil, .pv .nil]), (1, .var [.buf 3 2, .buf 4 1]), (2, .var [.pv (i64 4), .pv (.sl [u64 10, u64 12]), .vbuf 1 2]), (3, .arr 1 [u64 3, u64 3]), (4, .arr 1 [u64 5])], ?_, ?_⟩
        · try conv=>whnf
          refine ⟨.one 2 (.one 3 (.one 4 (.one 5 (.one 6 (.one 7 (.one 8 (.one 9 (.one 10 (.one 11 (.one 12 (.two 0 (.two 1 (.one 13 (.one 14 (.one 15 .done))) 13 (.one 1 (.one 14 (.one 15 .done)))) 13 (.one 0 (.one 1 (.one 14 (.one 15 .done))))))))))))))), [13, 15], by kernel_rfl, ?_⟩
          (try conv=>whnf);repeat' (first|(apply And.intro<;>try conv=>whnf)|(apply infoT;rfl)|(apply cellsI;rfl)|(apply szI;rfl)|(refine ⟨0, rfl, Nat.le_of_ble_eq_true rfl, ?_⟩;try conv=>whnf)|fail)
          all_goals first | exact rfl | (show (0 : Int) ≤ _; exact of_decide_eq_true (by kernel_rfl)) | exact Nat.le_of_ble_eq_true rfl | (refine ⟨(), ?_⟩; (refine Wk.of ?_ ?_ rfl rfl rfl<;>repeat' (first|exact trivial|exact WkD.same _|exact WkO.same _ _ rfl|refine ⟨?_, ?_⟩|fail)); try exact WkO.same _ _ (by kernel_rfl))
        rintro ⟨⟩
        try conv=>whnf
        refine ⟨.one 2 (.one 3 (.one 4 (.one 5 (.one 6 (.one 7 (.one 8 (.one 9 (.one 10 (.one 11 (.one 12 (.two 0 (.two 1 (.one 13 (.one 14 (.one 15 .done))) 13 (.one 1 (.one 14 (.one 15 .done)))) 13 (.one 0 (.one 1 (.one 14 (.one 15 .done))))))))))))))), [13, 15], by kernel_rfl, ?_⟩
        (try conv=>whnf);repeat' (first|(apply And.intro<;>try conv=>whnf)|(apply infoT;rfl)|(apply cellsI;rfl)|(apply szI;rfl)|(refine ⟨1, rfl, Nat.le_of_ble_eq_true rfl, ?_⟩;try conv=>whnf)|fail)
        all_goals first | exact rfl | (show (0 : Int) ≤ _; exact of_decide_eq_true (by kernel_rfl)) | exact Nat.le_of_ble_eq_true rfl | (refine ⟨(), ?_⟩; (refine Wk.of ?_ ?_ rfl rfl rfl<;>repeat' (first|exact trivial|exact WkD.same _|exact WkO.same _ _ rfl|refine ⟨?_, ?_⟩|fail)); try exact WkO.same _ _ (by kernel_rfl))
      rintro ⟨⟩
      try conv=>whnf
      exact ⟨⟨2, by decide⟩, (by show (_ : Nat) < _; exact Nat.le_of_ble_eq_true rfl), (by refine Wk.of ?_ ?_ rfl rfl rfl<;>repeat' (first|exact trivial|exact WkD.same _|exact WkO.same _ _ rfl|refine ⟨?_, ?_⟩|fail))⟩
    all_goals exact Bool.noConfusion (show true = false from h)
  · (try conv=>whnf);repeat' (first|(apply And.intro<;>try conv=>whnf)|(intro h;try conv=>whnf)|(apply bleI;rfl)|fail)
    · refine ⟨Unit, fun _ => [(0, .ref 0 0), (1, .ref 2 0), (6, .pv (i64 2))], fun _ => 5, fun _ => hatH 3, ?_, ?_⟩
      · try conv=>whnf
        refine ⟨Unit, fun _ => [(0, .ref 0 0), (1, .ref 2 0), (2, .pv (i64 2)), (6, .pv (i64 2))], fun _ => 5, fun _ => [(0, .var [.pv (i64 0), .pv .nil, .pv .nil]), (1, .var [.buf 3 3, .buf 4 2]), (2, .var [.pv (i64 4), .pv (.sl [u64 10, u64 12]), .vbuf 1 2]), (3, .arr 1 [u64 3, u64 3, u64 12]), (4, .arr 1 [u64 5, u64 10])], ?_, ?_⟩
        · try conv=>whnf
          refine ⟨.one 2 (.one 3 (.one 4 (.one 5 (.one 6 (.one 7 (.one 8 (.one 9 (.one 10 (.one 11 (.one 12 (.two 0 (.two 1 (.one 13 (.one 14 (.one 15 .done))) 13 (.one 1 (.one 14 (.one 15 .done)))) 13 (.one 0 (.one 1 (.one 14 (.one 15 .done))))))))))))))), [13, 15], by kernel_rfl, ?_⟩
          (try conv=>whnf);repeat' (first|(apply And.intro<;>try conv=>whnf)|(apply infoT;rfl)|(apply cellsI;rfl)|(apply szI;rfl)|(refine ⟨0, rfl, Nat.le_of_ble_eq_true rfl, ?_⟩;try conv=>whnf)|fail)
          all_goals first | exact rfl | (show (0 : Int) ≤ _; exact of_decide_eq_true (by kernel_rfl)) | exact Nat.le_of_ble_eq_true rfl | (refine ⟨(), ?_⟩; (refine Wk.of ?_ ?_ rfl rfl rfl<;>repeat' (first|exact trivial|exact WkD.same _|exact WkO.same _ _ rfl|refine ⟨?_, ?_⟩|fail)); try exact WkO.same _ _ (by kernel_rfl))
        rintro ⟨⟩
        try conv=>whnf
        refine ⟨.one 2 (.one 3 (.one 4 (.one 5 (.one 6 (.one 7 (.one 8 (.one 9 (.one 10 (.one 11 (.one 12 (.two 0 (.two 1 (.one 13 (.one 14 (.one 15 .done))) 13 (.one 1 (.one 14 (.one 15 .done)))) 13 (.one 0 (.one 1 (.one 14 (.one 15 .done))))))))))))))), [13, 15], by kernel_rfl, ?_⟩
        (try conv=>whnf);repeat' (first|(apply And.intro<;>try conv=>whnf)|(apply infoT;rfl)|(apply cellsI;rfl)|(apply szI;rfl)|(refine ⟨1, rfl, Nat.le_of_ble_eq_true rfl, ?_⟩;try conv=>whnf)|fail)
        all_goals first | exact rfl | (show (0 : Int) ≤ _; exact of_decide_eq_true (by kernel_rfl)) | exact Nat.le_of_ble_eq_true rfl | (refine ⟨(), ?_⟩; (refine Wk.of ?_ ?_ rfl rfl rfl<;>repeat' (first|exact trivial|exact WkD.same _|exact WkO.same _ _ rfl|refine ⟨?_, ?_⟩|fail)); try exact WkO.same _ _ (by kernel_rfl))
      rintro ⟨⟩
      try conv=>whnf
      exact ⟨⟨3, by decide⟩, (by show (_ : Nat) < _; exact Nat.le_of_ble_eq_true rfl), (by refine Wk.of ?_ ?_ rfl rfl rfl<;>repeat' (first|exact trivial|exact WkD.same _|exact WkO.same _ _ rfl|refine ⟨?_, ?_⟩|fail))⟩
    all_goals exact Bool.noConfusion (show true = false from h)
  · (try conv=>whnf);repeat' (first|(apply And.intro<;>try conv=>whnf)|(intro h;try conv=>whnf)|(apply bleI;rfl)|fail)
    · refine ⟨Unit, fun _ => [(0, .ref 0 0), (1, .ref 2 0), (6, .pv (i64 3))], fun _ => 5, fun _ => hatH 4, ?_, ?_⟩
      · try conv=>whnf
        refine ⟨Unit, fun _ => [(0, .ref 0 0), (1, .ref 2 0), (2, .pv (i64 3)), (6, .pv (i64 3))], fun _ => 5, fun _ => [(0, .var [.pv (i64 0), .pv .nil, .pv .nil]), (1, .var [.buf 3 4, .buf 4 3]), (2, .var [.pv (i64 4), .pv (.sl [u64 10, u64 12]), .vbuf 1 2]), (3, .arr 1 [u64 3, u64 3, u64 12, u64 12]), (4, .arr 1 [u64 5, u64 10, u64 5])], ?_, ?_⟩
        · try conv=>whnf
          refine ⟨.one 2 (.one 3 (.one 4 (.one 5 (.one 6 (.one 7 (.one 8 (.one 9 (.one 10 (.one 11 (.one 12 (.two 0 (.two 1 (.one 13 (.one 14 (.one 15 .done))) 13 (.one 1 (.one 14 (.one 15 .done)))) 13 (.one 0 (.one 1 (.one 14 (.one 15 .done))))))))))))))), [13, 15], by kernel_rfl, ?_⟩
          (try conv=>whnf);repeat' (first|(apply And.intro<;>try conv=>whnf)|(apply infoT;rfl)|(apply cellsI;rfl)|(apply szI;rfl)|(refine ⟨0, rfl, Nat.le_of_ble_eq_true rfl, ?_⟩;try conv=>whnf)|fail)
          all_goals first | exact rfl | (show (0 : Int) ≤ _; exact of_decide_eq_true (by kernel_rfl)) | exact Nat.le_of_ble_eq_true rfl | (refine ⟨(), ?_⟩; (refine Wk.of ?_ ?_ rfl rfl rfl<;>repeat' (first|exact trivial|exact WkD.same _|exact WkO.same _ _ rfl|refine ⟨?_, ?_⟩|fail)); try exact WkO.same _ _ (by kernel_rfl))
        rintro ⟨⟩
        try conv=>whnf
        refine ⟨.one 2 (.one 3 (.one 4 (.one 5 (.one 6 (.one 7 (.one 8 (.one 9 (.one 10 (.one 11 (.one 12 (.two 0 (.two 1 (.one 13 (.one 14 (.one 15 .done))) 13 (.one 1 (.one 14 (.one 15 .done)))) 13 (.one 0 (.one 1 (.one 14 (.one 15 .done))))))))))))))), [13, 15], by kernel_rfl, ?_⟩
        (try conv=>whnf);repeat' (first|(apply And.intro<;>try conv=>whnf)|(apply infoT;rfl)|(apply cellsI;rfl)|(apply szI;rfl)|(refine ⟨1, rfl, Nat.le_of_ble_eq_true rfl, ?_⟩;try conv=>whnf)|fail)
        all_goals first | exact rfl | (show (0 : Int) ≤ _; exact of_decide_eq_true (by kernel_rfl)) | exact Nat.le_of_ble_eq_true rfl | (refine ⟨(), ?_⟩; (refine Wk.of ?_ ?_ rfl rfl rfl<;>repeat' (first|exact trivial|exact WkD.same _|exact WkO.same _ _ rfl|refine ⟨?_, ?_⟩|fail)); try exact WkO.same _ _ (by kernel_rfl))
      rintro ⟨⟩
      try conv=>whnf
      exact ⟨⟨4, by decide⟩, (by show (_ : Nat) < _; exact Nat.le_of_ble_eq_true rfl), (by refine Wk.of ?_ ?_ rfl rfl rfl<;>repeat' (first|exact trivial|exact WkD.same _|exact WkO.same _ _ rfl|refine ⟨?_, ?_⟩|fail))⟩
    all_goals exact Bool.noConfusion (show true = false from h)
  · (try conv=>whnf);repeat' (first|(apply And.intro<;>try conv=>whnf)|(intro h;try conv=>whnf)|(apply bleI;rfl)|fail)
    · exact Bool.noConfusion (show false = true from h)
    all_goals first | exact rfl | exact .refl _
  · omega
end Go.Proofs.YtlaolpkgabknfaaGreatDoor
