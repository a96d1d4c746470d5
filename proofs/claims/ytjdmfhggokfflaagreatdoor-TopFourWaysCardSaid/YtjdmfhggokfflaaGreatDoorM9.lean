/- Parts of the proof, one after the other: Reductions of announcements: operands, announce, Announced of the program walked. Reductions: how small the inputs of the laws are; the example walked. Reductions: what the laws ReduceEqual and ReduceAnnounces ask (plain). The dynamic language: what the laws DynamicPublic, DynamicEvents ask (plain). The dynamic language: a static formula holds where the checker says (plain). The dynamic language: what the law DynamicAnnounces asks (plain). The dynamic language: the evaluation of the program walked: at. The dynamic language: the evaluation of the program walked: nodes. The dynamic language: the evaluation of the program walked: agents and groups. The dynamic language: the evaluation of the program walked: announcements. The dynamic language: the evaluation of the program walked: events. The dynamic language: the evaluation of the program walked: all nodes. -/
import Derived.Test.YtjdmfhggokfflaaGreatDoorM8
set_option maxRecDepth 100000
set_option maxHeartbeats 4000000
namespace Go.Proofs.YtjdmfhggokfflaaGreatDoor
open Go Go.Dv

theorem opn_idx {x : Nd} {n : Nat} (h : OkNd x n) (h0 : n ≠ 0) : (∃ k : Nat, x.x = k ∧ k < n ∧ x.x.toNat = k) ∧ ∃ k : Nat, x.y = k ∧ k < n ∧ x.y.toNat = k := by
  constructor
  · cases hu : usesX x.op with
    | true => have := h.x hu; exact ⟨x.x.toNat, by omega, by omega, rfl⟩
    | false => have := h.nox hu; exact ⟨0, by omega, by omega, by omega⟩
  · cases hu : usesY x.op with
    | true => have := h.y hu; exact ⟨x.y.toNat, by omega, by omega, rfl⟩
    | false => have := h.noy hu; exact ⟨0, by omega, by omega, by omega⟩
theorem fget {l : List (List Nd)} {k : Nat} (h : k < l.length) : (l.map fpv)[k]? = some (fpv (l.getD k [])) := by
  rw [List.getElem?_map, getD_mem h (d := [])]; rfl
theorem op_own (x : Nd) (l : List (List Nd)) (hk : OkNd x l.length) (M : Nat → Prop) (w0 : World) (base : Nat) (K : DV → DH → Prop)
    (hK0 : l = [] → K (.tup [.pv .nil, .pv .nil]) ⟨1, 0, base, objsOf [(0, .arr 1 (l.map fpv))]⟩) (hK : l ≠ [] → K (.tup [.pv (fpv (l.getD x.x.toNat [])), .pv (fpv (l.getD x.y.toNat []))]) ⟨1, 0, base, objsOf [(0, .arr 1 (l.map fpv))]⟩) :
    DC Tryz.prog M w0 54 [.buf 0 (l.map fpv).length, .agg x.dvs] ⟨1, 0, base, objsOf [(0, .arr 1 (l.map fpv))]⟩ K := by
  refine DC.weaken (DC.intro mixed (fn := Tryz.f54) rfl rfl rfl ?_)
  (try conv=>whnf);repeat' (first|(apply And.intro<;>try conv=>whnf)|(intro h;try conv=>whnf)|(refine lin_plan (by kernel_rfl) ?_;try conv=>whnf)|fail)
  · have hl : l = [] := by
      have : (((l.map fpv).length : Nat) : Int) = 0 := by simpa using h
      rw [List.length_map] at this
      exact List.eq_nil_of_length_eq_zero (by omega)
    exact ⟨.tup [.pv .nil, .pv .nil], 1, [(0, .arr 1 (l.map fpv))], (by refine Wk.of ?_ ?_ rfl rfl rfl<;>repeat' (first|exact trivial|exact WkD.same _|exact WkO.same _ _ rfl|refine ⟨?_, ?_⟩|fail)), hK0 hl⟩
  · have hl : l.length ≠ 0 := by
      intro e
      rw [List.length_map, e] at h
      exact absurd h (by decide)
    have hlm : (l.map fpv).length = l.length := List.length_map _
    obtain ⟨⟨a, a1, a2, a3⟩, hb⟩ := opn_idx hk hl
    have hK := hK (by rintro rfl; exact hl rfl)
    refine ⟨a, a1, by omega, ?_⟩
    (try conv=>whnf);repeat' (first|(apply And.intro<;>try conv=>whnf)|fail)
    refine ⟨_, fget a2, ?_⟩
    (try conv=>whnf);repeat' (first|(apply And.intro<;>try conv=>whnf)|fail)
    obtain ⟨b, b1, b2, b3⟩ := hb
    rw [a3, b3] at hK
    refine ⟨b, b1, by omega, ?_⟩
    (try conv=>whnf);repeat' (first|(apply And.intro<;>try conv=>whnf)|fail)
    refine ⟨_, fget b2, ?_⟩
    try conv=>whnf
    exact ⟨.tup [.pv (fpv (l.getD a [])), .pv (fpv (l.getD b []))], 1, [(0, .arr 1 (l.map fpv))], (by refine Wk.of ?_ ?_ rfl rfl rfl<;>repeat' (first|exact trivial|exact WkD.same _|exact WkO.same _ _ rfl|refine ⟨?_, ?_⟩|fail)), hK⟩
theorem red_static (f : List Nd) : PureFn Tryz.prog 31 [fpv f] (.bool (nand64' (frags f : Nat) 15 == 0)) := by
  refine PureFn.intro mixed (fn := Tryz.f31) rfl rfl rfl fun M w0 => ?_
  (try conv=>whnf);repeat' (first|(refine PureFn.dcq (f := 7) rfl ?_;try conv=>whnf)|(refine ⟨_, _, fm_Frags ?_, ?_, ?_⟩;rotate_left 1;(focus first|(refine ⟨?_, trivial⟩<;>first|exact PLe.refl _|exact PLe.nil)|exact trivial);try conv=>whnf)|fail)
  exact .refl _
theorem map_snoc {l : List (List Nd)} {z : List Nd} : l.map fpv ++ [fpv z] = (l ++ [z]).map fpv := by rw [List.map_append]; rfl
theorem redE_yes {α : Type} {d : α} {h : Nd → α → α → α × Int} {c : List Nd} {l : List α} {i : Nat} {x : Nd} {z : α} {e : Int} (hx : c[i]? = some x) (hz : h x (l.getD x.x.toNat d) (l.getD x.y.toNat d) = (z, e)) (h0 : e = 0) :
    redE d h (c.drop i) l = redE d h (c.drop (i + 1)) (l ++ [z]) := by rw [redE_drop hx, hz, h0]; rfl
theorem redE_no {α : Type} {d : α} {h : Nd → α → α → α × Int} {c : List Nd} {l : List α} {i : Nat} {x : Nd} {z : α} {e : Int} (hx : c[i]? = some x) (hz : h x (l.getD x.x.toNat d) (l.getD x.y.toNat d) = (z, e)) (h0 : (e != 0) = true) :
    redE d h (c.drop i) l = ([], e) := by rw [redE_drop hx, hz]; show (bif e != 0 then _ else _) = _; rw [h0]; rfl
theorem le_pairF {a b : List Nd × Int} (h : a = b) : PLe (pairF a) (pairF b) := h ▸ .refl _
theorem red_announce (f g : List Nd) (hg : check g = 0) (hs : ∀ x, x ∈ comp g → x.op ≤ 13) : PureFn Tryz.prog 32 [fpv f, fpv g] (pairF (annF (comp f) (comp g))) := by
  refine PureFn.introC [6, 7] mixed (fn := Tryz.f32) rfl rfl rfl fun M w0 => ?_
  have hlen := comp_len g
  have hpos := comp_pos hg
  have hokl := comp_okl g
  (try conv=>whnf);repeat' (first|(refine PureFn.dcq (f := 26) rfl ?_;try conv=>whnf)|(refine ⟨_, _, fm_Compact ?_, ?_, ?_⟩;rotate_left 1;(focus first|(refine ⟨?_, trivial⟩<;>first|exact PLe.refl _|exact PLe.nil)|exact trivial);try conv=>whnf)|fail)
  generalize comp f = p
  generalize comp g = c at *
  refine ⟨{ q : Nat × List (List Nd) // q.1 ≤ c.length ∧ q.2.length = q.1 ∧ redE [] (annH p) c [] = redE [] (annH p) (c.drop q.1) q.2 },
    fun q => [(6, .pv (fpv p)), (7, .buf 0 (q.1.2.map fpv).length), (16, .pv (fpv c)), (17, .pv (.int .i64 (c.map Nd.pv).length)), (18, .pv (.int .i64 (q.1.1 : Nat)))], fun _ => 1, fun q => [(0, .arr 1 (q.1.2.map fpv))], fun q => c.length - q.1.1,
    ⟨⟨(0, []), Nat.zero_le _, rfl, rfl⟩, (by refine Wk.of ?_ ?_ rfl rfl rfl<;>repeat' (first|exact trivial|exact WkD.same _|exact WkD.new' rfl rfl rfl|exact WkO.new _ _ rfl|exact rfl|refine ⟨?_, ?_⟩|fail))⟩, ?_⟩
  rintro ⟨⟨i, l⟩, hi, hl, he⟩
  simp only at hi hl he
  have hlm : (l.map fpv).length = i := by rw [List.length_map]; exact hl
  (try conv=>whnf);repeat' (first|(apply And.intro<;>try conv=>whnf)|(intro h;try conv=>whnf)|fail)
  · have hi' : i < c.length := by simpa using h
    obtain ⟨x, hx⟩ : ∃ x, c[i]? = some x := ⟨_, List.getElem?_eq_getElem hi'⟩
    have ok := hokl i x hx
    have hox := hs x (List.mem_iff_getElem?.2 ⟨i, hx⟩)
    have h1 := ok.op
    obtain ⟨X, hX⟩ : ∃ X, l.getD x.x.toNat [] = X := ⟨_, rfl⟩
    obtain ⟨Y, hY⟩ : ∃ Y, l.getD x.y.toNat [] = Y := ⟨_, rfl⟩
    refine ⟨Unit, fun _ => [(6, .pv (fpv p)), (7, .buf 0 (l.map fpv).length), (16, .pv (fpv c)), (17, .pv (.int .i64 (c.map Nd.pv).length)), (18, .pv (.int .i64 (i : Nat))), (9, .ref 1 0)], fun _ => 2, fun _ => [(0, .arr 1 (l.map fpv)), (1, .var x.dvs)], ?_, ?_⟩
    · (try conv=>whnf);repeat' (first|(apply And.intro<;>try conv=>whnf)|(apply infoT;rfl)|(refine ⟨_, _, rfl, idx_map (by with_reducible assumption), rfl, ?_⟩;try conv=>whnf)|fail)
      exact ⟨(), (by refine Wk.of ?_ ?_ rfl rfl rfl<;>repeat' (first|exact trivial|exact WkD.same _|exact WkO.same _ _ rfl|refine ⟨?_, ?_⟩|fail))⟩
    rintro ⟨⟩
    refine ⟨{ q : DV × DV // (q.1 = .pv (fpv X) ∧ q.2 = .pv (fpv Y)) }, fun q => [(6, .pv (fpv p)), (7, .buf 0 (l.map fpv).length), (16, .pv (fpv c)), (17, .pv (.int .i64 (c.map Nd.pv).length)), (18, .pv (.int .i64 (i : Nat))), (9, .ref 1 0), (10, q.1.1), (11, q.1.2)], fun _ => 2, fun _ => [(0, .arr 1 (l.map fpv)), (1, .var x.dvs)], ?_, ?_⟩
    · try conv=>whnf
      refine DC.call 1 [(0, .arr 1 (l.map fpv))] ⟨rfl, trivial⟩ rfl rfl rfl rfl fun M' => ?_
      refine op_own x l (by rw [hl]; exact ok) M' _ _ _ (fun e => ⟨rfl, ?_⟩) (fun e => ⟨rfl, ?_⟩)
      · subst e
        try conv=>whnf
        have e1 : X = [] := by rw [← hX]; rfl
        have e2 : Y = [] := by rw [← hY]; rfl
        refine ⟨⟨(.pv (fpv X), .pv (fpv Y)), rfl, rfl⟩, ?_⟩
        subst e1; subst e2
        (refine Wk.of ?_ ?_ rfl rfl rfl<;>repeat' (first|exact trivial|exact WkD.same _|exact WkO.same _ _ rfl|exact WkD.nil _ (Or.inl rfl)|refine ⟨?_, ?_⟩|fail))
      · try conv=>whnf
        refine ⟨⟨(.pv (fpv X), .pv (fpv Y)), rfl, rfl⟩, ?_⟩
        rw [hX, hY]
        (refine Wk.of ?_ ?_ rfl rfl rfl<;>repeat' (first|exact trivial|exact WkD.same _|exact WkO.same _ _ rfl|refine ⟨?_, ?_⟩|fail))
    rintro ⟨⟨dx, dy⟩, e1, e2⟩
    simp only at e1 e2
    subst e1; subst e2
    have hA := red_announced p x X Y ⟨h1.1, hox⟩
    obtain ⟨z, hz⟩ : ∃ z, annN p x X Y = z := ⟨_, rfl⟩
    rw [hz] at hA
    have hh : annH p x (l.getD x.x.toNat []) (l.getD x.y.toNat []) = nz z := by rw [hX, hY, annH, hz]
    cases z with
    | nil =>
      (try conv=>whnf);repeat' (first|(apply And.intro<;>try conv=>whnf)|(intro h;first|with_reducible exact tf0 h|try conv=>whnf)|(refine PureFn.dcq (f := 55) rfl ?_;try conv=>whnf)|(refine ⟨_, _, hA, ?_, ?_⟩;(focus first|(refine ⟨?_, ?_, ?_, ?_, trivial⟩<;>first|exact PLe.refl _|exact PLe.nil)|exact trivial);try conv=>whnf)|fail)
      have hno := redE_no (e := 8) hx hh rfl
      have hF : annF p c = ([], 8) := by rw [annF, he, hno]; rfl
      rw [hF]; exact le_nilF _
    | cons a r =>
      (try conv=>whnf);repeat' (first|(apply And.intro<;>try conv=>whnf)|(intro h;first|with_reducible exact ft0 h|try conv=>whnf)|(apply cellsI;rfl)|(apply szI;rfl)|(refine PureFn.dcq (f := 55) rfl ?_;try conv=>whnf)|(refine ⟨_, _, hA, ?_, ?_⟩;(focus first|(refine ⟨?_, ?_, ?_, ?_, trivial⟩<;>first|exact PLe.refl _|exact PLe.nil)|exact trivial);try conv=>whnf)|fail)
      · show (l.map fpv).length + 1 ≤ 4294967296
        omega
      · have hyes := redE_yes (z := a :: r) (e := 0) hx hh rfl
        have hm := map_snoc (l := l) (z := a :: r)
        refine ⟨⟨(i + 1, l ++ [a :: r]), hi', by simp [hl], by rw [he, hyes]⟩, by show c.length - (i + 1) < c.length - i; omega, ?_⟩
        (refine Wk.of ?_ ?_ rfl rfl rfl<;>repeat' (first|exact trivial|exact WkD.same _|exact WkD.eq (congrArg (fun z : List PV => DV.buf _ z.length) hm)|exact WkO.same _ _ (congrArg (fun z => some (DObj.arr _ z)) hm)|refine WkD.int ?_|refine ⟨?_, ?_⟩|(refine wrapA ?_ ?_ ?_;(focus simp;done);(focus (try dsimp only);omega);(focus (try dsimp only);omega))|fail))
  · have hi' : i = c.length := by have := ge_dec (m := (c.map Nd.pv).length) h (by simpa using hi); simpa using this
    subst hi'
    rw [redE_end] at he
    have hw : IntKind.wrap .i64 (((l.map fpv).length : Int) - 1) = ((l.length - 1 : Nat) : Int) := by
      rw [List.length_map]; exact wrapA (by omega) (by omega) (by omega)
    have hll : l.length = c.length := hl
    refine ⟨l.length - 1, hw, (show l.length - 1 < (l.map fpv).length by rw [List.length_map]; omega), ?_⟩
    (try conv=>whnf);repeat' (first|(apply And.intro<;>try conv=>whnf)|fail)
    refine ⟨_, fget (show l.length - 1 < l.length by omega), ?_⟩
    try conv=>whnf
    exact le_pairF (a := (l.getD (l.length - 1) [], 0)) (b := annF p c) (by rw [annF, he]; rfl)
def stB (f : List Nd) : Bool := nand64' (frags f : Nat) 15 == 0
def rnnI (f g : List Nd) : List Nd × Int := bif check f != 0 then ([], check f) else bif check g != 0 then ([], check g) else bif (bif !stB f then true else !stB g) then ([], 10) else annF (comp f) (comp g)
theorem stB_ops {f : List Nd} (h : stB f = true) : ∀ x, x ∈ comp f → x.op ≤ 13 := fun x hx => by
  have hfr : frags f < 2 ^ 62 := Nat.lt_of_lt_of_le (frags_lt f) (by decide)
  have h1 : frags f < 16 := (frag_low hfr).1 (by simpa [stB] using h)
  have h2 : fragN x ≤ frags f := orN_le hx
  obtain ⟨k, hk⟩ := okl_mem (comp_okl f) hx
  have ho := hk.op
  have key : ∀ op : Nat, op < 22 → (frag (op : Int)).toNat < 16 → op ≤ 13 := by decide
  have := key x.op.toNat (by omega) (by rw [show ((x.op.toNat : Nat) : Int) = x.op by omega]; show fragN x < 16; omega)
  omega
theorem red_Announced (f g : List Nd) : PureFn Tryz.prog 10 [fpv f, fpv g] (pairF (rnnI f g)) := by
  refine PureFn.intro mixed (fn := Tryz.f10) rfl rfl rfl fun M w0 => ?_
  have hAn := red_announce f g
  (try conv=>whnf);repeat' (first|(apply And.intro<;>try conv=>whnf)|(intro h;try conv=>whnf)|apply True.intro|(apply WhenQ.mk;(try conv=>whnf);rotate_left;(try conv=>whnf);rotate_right)|with_reducible assumption|(apply not_of;with_reducible assumption)|(refine PureFn.dcq (f := 30) rfl ?_;try conv=>whnf)|(refine PureFn.dcq (f := 31) rfl ?_;try conv=>whnf)|(refine ⟨_, _, fm_Check ?_, ?_, ?_⟩;rotate_left 1;(focus first|(refine ⟨?_, trivial⟩<;>first|exact PLe.refl _|exact PLe.nil)|exact trivial);try conv=>whnf)|(refine ⟨_, _, red_static ?_, ?_, ?_⟩;rotate_left 1;(focus first|(refine ⟨?_, trivial⟩<;>first|exact PLe.refl _|exact PLe.nil)|exact trivial);try conv=>whnf)|fail)
  · rw [rnnI, h]; exact le_nilF _
  · rename_i h1
    rw [rnnI, h1, h]; exact le_nilF _
  · rename_i h1 h2
    rw [rnnI, h1, h2, show (bif !stB f then true else !stB g) = true from h]; exact le_nilF _
  · rename_i h1 h2
    have hb : (bif !stB f then true else !stB g) = false := h
    have hg : stB g = true := by
      cases q1 : stB f with
      | false => rw [q1] at hb; cases hb
      | true => rw [q1] at hb; simpa using hb
    have hA := hAn (by simpa using h2) (stB_ops hg)
    (try conv=>whnf);repeat' (first|(refine PureFn.dcq (f := 32) rfl ?_;try conv=>whnf)|(refine ⟨_, _, hA, ?_, ?_⟩;(focus first|(refine ⟨?_, ?_, trivial⟩<;>first|exact PLe.refl _|exact PLe.nil)|exact trivial);try conv=>whnf)|fail)
    rw [rnnI, h1, h2, hb]; exact .refl _
end Go.Proofs.YtjdmfhggokfflaaGreatDoor
set_option maxRecDepth 100000
set_option maxHeartbeats 8000000
namespace Go.Proofs.YtjdmfhggokfflaaGreatDoor
open Go Go.Dv

theorem pair_of {a : List Nd × Int} {z : List Nd} {e : Int} (h1 : z = a.1) (h2 : a.2 = e) : a = (z, e) := by
  obtain ⟨x, y⟩ := a
  simp only at h1 h2
  rw [h1, h2]
end Go.Proofs.YtjdmfhggokfflaaGreatDoor
set_option maxRecDepth 100000
set_option maxHeartbeats 4000000
namespace Go.Proofs.YtjdmfhggokfflaaGreatDoor
open Go Go.Dv

theorem nd_static {A F : Nat} {acts : List Act} {x : Nd} (h : ndQ A F acts x.op x.i x.e x.g = true) (h16 : fragN x < 16) : stM A F x.op x.i x.e x.g = true := by
  simp only [ndQ, Bool.and_eq_true, decide_eq_true_eq] at h
  exact stM_iff.2 ⟨⟨h16, h.1.1.2⟩, h.1.2⟩
theorem holds_of {m : Mo} {n : Nat} {x : List Nd} {s : Nat} (hM : OkM m n) (hs : statI m.rel.length m.val.length x = 0) (hv : vlT m n (root x) = s) : holdsI m x = (s, 0) := by
  have hr : reqI m x = 0 := by rw [reqI, ok_moI hM]; exact hs
  rw [holdsI, hr, hM.nn, Int.toNat_natCast, hv]; rfl
theorem ann_fine {f g : List Nd} (h : (rnnI f g).2 = 0) : check f = 0 ∧ check g = 0 ∧ stB f = true ∧ stB g = true ∧ Can (rnnI f g).1 ∧ root (rnnI f g).1 = annT (root f) (root g) := by
  have hf : check f = 0 := by
    by_cases q : check f = 0
    · exact q
    · rw [rnnI, show (check f != 0) = true by simpa using q] at h
      exact absurd h q
  have hg : check g = 0 := by
    by_cases q : check g = 0
    · exact q
    · rw [rnnI, hf, show (check g != 0) = true by simpa using q] at h
      exact absurd h q
  have hb : (bif !stB f then true else !stB g) = false := by
    cases q : (bif !stB f then true else !stB g) with
    | false => rfl
    | true => rw [rnnI, hf, hg, q] at h; exact absurd (show (10 : Int) = 0 from h) (by decide)
  have h1 : stB f = true := by
    cases q : stB f with
    | true => rfl
    | false => rw [q] at hb; cases hb
  have h2 : stB g = true := by
    rw [h1] at hb; simpa using hb
  have hv : rnnI f g = annF (comp f) (comp g) := by rw [rnnI, hf, hg, hb]; rfl
  rw [hv] at h ⊢
  obtain ⟨p1, p2⟩ := annF_tree (comp_okl g) (comp_pos hg) h
  exact ⟨hf, hg, h1, h2, p1, by rw [p2, root_comp hf, root_comp hg]⟩
theorem stB_frag {f : List Nd} (h : stB f = true) {x : Nd} (hx : x ∈ comp f) : fragN x < 16 := by
  have h1 : frags f < 16 := (frag_low (Nat.lt_of_lt_of_le (frags_lt f) (by decide))).1 (by simpa [stB] using h)
  have h2 : fragN x ≤ frags f := orN_le hx
  omega
theorem ndT_static {A F : Nat} {acts : List Act} {f : List Nd} (hc : check f = 0) (hb : stB f = true) (hq : allT (ndQ A F acts) (root f) = true) : allT (rgQ (stM A F)) (root f) = true ∧ allT stOp (root f) = true := by
  have key : ∀ x, x ∈ comp f → ndQ A F acts x.op x.i x.e x.g = true := fun x hx => by
    rw [comp_root hc] at hx
    exact finT_all (Q := ndQ A F acts) _ _ hq (by simp) x hx
  constructor
  · rw [← root_comp hc]
    refine trn_all (fun x hx => ?_) _ _
    obtain ⟨k, hk⟩ := okl_mem (comp_okl f) hx
    exact rg_iff.2 ⟨nd_static (key x hx) (stB_frag hb hx), hk.group⟩
  · rw [← root_comp hc]
    refine trn_all (Q := stOp) (fun x hx => ?_) _ _
    obtain ⟨k, hk⟩ := okl_mem (comp_okl f) hx
    have ho := hk.op
    have := stat13 (op := x.op.toNat) (by omega) (by rw [show ((x.op.toNat : Nat) : Int) = x.op by omega]; exact stB_frag hb hx)
    show stOp x.op x.i x.e x.g = true
    unfold stOp
    simp
    omega
/-- The reduction of an announcement holds where the announcement makes the formula true. -/
theorem ann_dyn {m : Mo} {f g : List Nd} (lf : f.length ≤ 40) (lg : g.length ≤ 40) (ha : (rnnI f g).2 = 0) (hd : (dynI m [] (buildL (n0 16) [f, g])).2 = 0) : holdsI m (rnnI f g).1 = ((dynI m [] (buildL (n0 16) [f, g])).1, 0) := by
  obtain ⟨r1, s, d1, e1⟩ := dyn_ok hd
  obtain ⟨n, hD, _⟩ := chkD_ok (reqD_iff.1 r1).1
  have hM := hD.okm
  obtain ⟨cf, cg, sf, sg, hC, hT⟩ := ann_fine ha
  obtain ⟨q1, q2, q3⟩ := bin_any (op := 16) (by simp) cf cg (by omega)
  obtain ⟨_, _, _, q16⟩ := can_reqD r1
  rw [q2] at d1 q16
  rw [allT, Bool.and_eq_true, Bool.and_eq_true] at q16
  obtain ⟨f1, f2⟩ := ndT_static cf sf q16.1.2
  obtain ⟨g1, g2⟩ := ndT_static cg sg q16.2
  have hnn : m.n.toNat = n := by rw [hM.nn, Int.toNat_natCast]
  have df : dvT [] (root f) m = some (vlT m n (root f)) := by rw [← hnn]; exact dvT_static (root f) f2
  have hsw := can_sw (comp_can cg) (by rw [root_comp cg]; exact g1)
  rw [root_comp cg] at hsw
  rw [e1]
  refine holds_of hM (stat_all hC (by rw [hT]; exact annT_all (stM_clo _ _) f1 _ g1)) ?_
  rw [hT, ann_sem hM rfl hsw.2 hsw.1]
  generalize vlT m n (root f) = t at df
  by_cases h0 : t = 0
  · subst h0
    have d2 := (dv_ann0 (b := root g) df).symm.trans d1
    rw [← Option.some.inj d2, hnn]; rfl
  · have d2 := (dv_ann1 (b := root g) df h0).symm.trans d1
    rw [dvT_static (root g) g2] at d2
    have d2 := Option.some.inj d2
    rw [show (t == 0) = false by simpa using h0, cond_false, ← d2, hnn]
    rfl
end Go.Proofs.YtjdmfhggokfflaaGreatDoor
set_option maxRecDepth 100000
set_option maxHeartbeats 4000000
namespace Go.Proofs.YtjdmfhggokfflaaGreatDoor
open Go Go.Dv

/-! events: a set without the worlds whose pair is not in a set, and a set of the worlds whose pair is -/
/-- The product with a public announcement. -/
theorem pub_upd {m : Mo} {n : Nat} {f : List Nd} (hM : OkM m n) (hs : statI m.rel.length m.val.length f = 0) (h0 : (holdsI m f).1 ≠ 0) :
    updI m (pubA m.rel.length f) = (arrI m (memL (holdsI m f).1), (memL (holdsI m f).1).map (fun w => (w, 0)), 0) := by
  obtain ⟨hpl, hpr⟩ := pub_prod hM hs
  have hlt := holds_lt (f := f) n hM
  have hs64 : (holdsI m f).1 < 2 ^ 64 := Nat.lt_of_lt_of_le hlt (pow64_le hM.n64)
  have hmoa : moaI m (pubA m.rel.length f) = 0 := by rw [moaI, ok_moI hM]; exact pubA_act hM.ag hM.fa hs
  have hlen : (pairsL m (pubA m.rel.length f)).length = (memL (holdsI m f).1).length := by rw [hpl, List.length_map]
  have hml := memL_len (holdsI m f).1
  have hp := memL_pos h0 hs64
  have hW : worldsI m (pubA m.rel.length f) = (pairsL m (pubA m.rel.length f), 0) := by
    rw [worldsI, hmoa, show (((pairsL m (pubA m.rel.length f)).length : Int) == 0) = false by rw [hlen]; simp; intro h; rw [h] at hp; simp at hp]; rfl
  rw [updI, hW]
  show (bif decide (((pairsL m (pubA m.rel.length f)).length : Int) > 64) then _ else _) = _
  rw [decide_eq_false (by omega), hpr, hpl]; rfl
/-- Nodes of a formula whose fragments are few. -/
theorem frag_node {f : List Nd} {x : Nd} (hx : x ∈ comp f) : fragN x ≤ frags f := by
  have := orN_in (m := fragN) hx
  exact Nat.le_of_testBit this
theorem stat_of {m : Mo} {acts : List Act} {f : List Nd} (hc : check f = 0) (hq : allT (ndQ m.rel.length m.val.length acts) (root f) = true) (hfr : nand64' (frags f : Nat) 15 = 0) : statI m.rel.length m.val.length f = 0 := by
  refine statM_iff.2 ⟨hc, fun x hx => ?_⟩
  have hlow : frags f < 16 := (frag_low (Nat.lt_of_lt_of_le (frags_lt f) (by decide))).1 hfr
  have h1 := finT_all (Q := ndQ m.rel.length m.val.length acts) (root f) [] hq (fun y hy => by cases hy) x (by rw [comp_root hc] at hx; exact hx)
  simp only [ndQ, Bool.and_eq_true, decide_eq_true_eq] at h1
  simp only [stM, Bool.and_eq_true, decide_eq_true_eq]
  have h2 : fragN x < 16 := Nat.lt_of_le_of_lt (frag_node hx) hlow
  exact ⟨⟨h2, h1.1.1.2⟩, h1.1.2⟩
/-! DynamicPublic -/
end Go.Proofs.YtjdmfhggokfflaaGreatDoor
set_option maxRecDepth 100000
set_option maxHeartbeats 4000000
namespace Go.Proofs.YtjdmfhggokfflaaGreatDoor
open Go Go.Dv

theorem low16 {f : List Nd} (h15 : nand64' (frags f : Nat) 15 = 0) : frags f < 16 := (frag_low (Nat.lt_of_lt_of_le (frags_lt f) (by decide))).1 h15
theorem op13_of {f : List Nd} (cf : check f = 0) (h15 : nand64' (frags f : Nat) 15 = 0) : ∀ y, y ∈ comp f → y.op ≤ 13 := fun y hy => by
  have hlow := low16 h15
  obtain ⟨i, hi⟩ := List.mem_iff_getElem?.1 hy
  have ho := ((comp_can cf).ok i y hi).op
  have h2 : fragN y < 16 := Nat.lt_of_le_of_lt (frag_node hy) hlow
  have key : ∀ op : Nat, op < 22 → (frag (op : Int)).toNat < 16 → op ≤ 13 := by decide
  have := key y.op.toNat (by omega)
  rw [show ((y.op.toNat : Nat) : Int) = y.op by omega] at this
  have := this h2
  omega
theorem stOp_of {f : List Nd} (cf : check f = 0) (h15 : nand64' (frags f : Nat) 15 = 0) : allT stOp (root f) = true := by
  rw [← root_comp cf]
  exact trn_all (Q := stOp) (fun y hy => decide_eq_true (op13_of cf h15 y hy)) _ _
theorem sub207 : ∀ a : Nat, a < 16 → subM a 207 = true := by decide
theorem static_eq {m : Mo} {acts : List Act} {f : List Nd} (hc : chkD m acts = 0) (h15 : nand64' (frags f : Nat) 15 = 0) : dynI m acts f = holdsI m f := by
  obtain ⟨n, hD, _⟩ := chkD_ok hc
  have hmo := ok_moI hD.okm
  cases hcf : (check f != 0) with
  | true =>
    have e : reqD m acts f = check f := by rw [reqD, hc, hcf]; rfl
    have e' : reqI m f = check f := by rw [reqI, hmo, statI, hcf]; rfl
    rw [dynI, holdsI, e, e', hcf]; rfl
  | false =>
    have cf : check f = 0 := by simpa using hcf
    have h207 : nand64' (frags f : Nat) 207 = 0 := (nand_sub (b := 207) (Nat.lt_of_lt_of_le (frags_lt f) (by decide))).2 (sub207 _ (low16 h15))
    have hany : (comp f).any (badA acts) = false := by
      rw [List.any_eq_false]
      intro y hy
      have := op13_of cf h15 y hy
      have h17 : (y.op == 17) = false := by simp; omega
      rw [badA, h17]; simp
    cases hft : fits f (m.rel.length : Int) (m.val.length : Int) with
    | false =>
      have e : reqD m acts f = 2 := by rw [reqD, hc, hcf, h207, hft]; rfl
      have e' : reqI m f = 2 := by rw [reqI, hmo, statI, hcf, h15, hft]; rfl
      rw [dynI, holdsI, e, e']; rfl
    | true =>
      have e : reqD m acts f = 0 := by rw [reqD, hc, hcf, h207, hft, hany]; rfl
      have e' : reqI m f = 0 := by rw [reqI, hmo, statI, hcf, h15, hft]; rfl
      rw [dynI, holdsI, e, e', dvT_static _ (stOp_of cf h15)]
end Go.Proofs.YtjdmfhggokfflaaGreatDoor
set_option maxRecDepth 100000
set_option maxHeartbeats 4000000
namespace Go.Proofs.YtjdmfhggokfflaaGreatDoor
open Go Go.Dv

structure DanB (m : Mo) (acts : List Act) (f h : List Nd) (n s x : Nat) : Prop where
  okd : OkD acts m n
  hol : holdsI m f = (s, 0)
  lt : s < 2 ^ n
  xlt : x < 2 ^ n
  x0 : s = 0 → x = 2 ^ n - 1
  x1 : s ≠ 0 → annI m f = (arrI m (memL s), memL s, 0) ∧ OkD acts (arrI m (memL s)) (memL s).length ∧ ∃ t, dynI (arrI m (memL s)) acts h = (t, 0) ∧ t < 2 ^ (memL s).length ∧ x = sprG t (memL s) 0 (notN n s)
theorem dann_base {m : Mo} {acts : List Act} {f h : List Nd} (lf : f.length ≤ 40) (lh : h.length ≤ 40) (h15 : nand64' (frags f : Nat) 15 = 0) (h1 : (dynI m acts (buildL (n0 16) [f, h])).2 = 0) :
    ∃ n s x, DanB m acts f h n s x ∧ dynI m acts (buildL (n0 16) [f, h]) = (x, 0) := by
  obtain ⟨r1, x, d1, e1⟩ := dyn_ok h1
  obtain ⟨n, hD, h8⟩ := chkD_ok (reqD_iff.1 r1).1
  have hM := hD.okm
  have hnn : m.n.toNat = n := by rw [hM.nn, Int.toNat_natCast]
  obtain ⟨cf, cg⟩ := build_inv2 (req_check r1)
  obtain ⟨q1, q2, q3⟩ := bin_any (op := 16) (by simp) cf cg (by omega)
  obtain ⟨_, _, _, q16⟩ := can_reqD r1
  rw [q2] at d1 q16
  have hxn := dvT_lt _ hM d1
  rw [allT, Bool.and_eq_true, Bool.and_eq_true] at q16
  have hs := stat_of cf q16.1.2 h15
  have hr : reqI m f = 0 := by rw [reqI, ok_moI hM]; exact hs
  obtain ⟨s, ds⟩ := ann_some d1
  have hds : dvT acts (root f) m = some (vlT m m.n.toNat (root f)) := dvT_static _ (stOp_of cf h15)
  have hh : holdsI m f = (s, 0) := by
    rw [holdsI, hr]
    show (vlT m m.n.toNat (root f), (0 : Int)) = (s, 0)
    rw [Option.some.inj (hds.symm.trans ds)]
  have hsn := dvT_lt (root f) hM ds
  refine ⟨n, s, x, ⟨hD, hh, hsn, hxn, fun h0 => ?_, fun h0 => ?_⟩, e1⟩
  · subst h0
    rw [dv_ann0 ds, hnn] at d1
    exact (Option.some.inj d1).symm
  · have hD1 := hD.arr hsn h0
    rw [dv_ann1 ds h0] at d1
    refine ⟨?_, hD1, ?_⟩
    · rw [annI, hh]
      show (bif s == 0 then (noMo, [], (11 : Int)) else (arrI m (memL s), memL s, 0)) = _
      rw [show (s == 0) = false by simpa using h0]; rfl
    cases hd : dvT acts (root h) (arrI m (memL s)) with
    | none => rw [hd] at d1; cases d1
    | some t =>
      rw [hd] at d1
      have d1 := Option.some.inj d1
      rw [hnn] at d1
      have e1 : (arrI m (memL s)).rel.length = m.rel.length := by rw [arrI, List.length_map]
      have e2 : (arrI m (memL s)).val.length = m.val.length := by rw [arrI, List.length_map]
      refine ⟨t, ok_dyn (reqD_iff.2 ⟨ok_chkD hD1 h8, cg, fun y hy => ?_⟩) hd, dvT_lt _ hD1.okm hd, d1.symm⟩
      rw [e1, e2]
      exact finT_all (Q := ndQ m.rel.length m.val.length acts) (root h) [] q16.2 (fun y hy => by cases hy) y (by rw [comp_root cg] at hy; exact hy)
theorem all_not0 {n : Nat} : notN n 0 = 2 ^ n - 1 := by
  apply Nat.eq_of_testBit_eq
  intro i
  rw [notN_bit, Nat.testBit_two_pow_sub_one]; simp
end Go.Proofs.YtjdmfhggokfflaaGreatDoor
set_option maxRecDepth 100000
set_option maxHeartbeats 4000000
namespace Go.Proofs.YtjdmfhggokfflaaGreatDoor
open Go Go.Dv

def setM (es : List (Nat × Nat)) : List (PV × PV) := es.map fun e => (.int .i64 (e.1 : Int), u64 e.2)
theorem mfnd_setM (i : Nat) : ∀ (es : List (Nat × Nat)) (s : Nat), (mfnd (.int .i64 (i : Int)) (setM es) s).map Prod.snd = (look i es).map u64
  | [], s => rfl
  | e :: r, s => by
    simp only [setM, List.map_cons, mfnd, look]
    by_cases h : e.1 = i
    · rw [if_pos (int_eq.2 h), if_pos h]; rfl
    · rw [if_neg (fun e => h (int_eq.1 e)), if_neg h]
      exact mfnd_setM i r (s + 1)
theorem mfind_setM (i : Nat) (es : List (Nat × Nat)) : mfind (setM es) (.int .i64 (i : Int)) = (look i es).map u64 := mfnd_setM i es 0
theorem mput_setM (i k : Nat) : ∀ (es : List (Nat × Nat)), mput (setM es) (.int .i64 (i : Int)) (u64 k) = setM (dput i k es)
  | [] => rfl
  | e :: r => by
    simp only [setM, List.map_cons, mput_cons, dput]
    by_cases h : e.1 = i
    · rw [if_pos (int_eq.2 h), if_pos h]; rfl
    · rw [if_neg (fun e => h (int_eq.1 e)), if_neg h]
      rw [List.map_cons]
      congr 1
      exact mput_setM i k r
def evC (m : Mo) (acts : List Act) (c : List Nd) : List DV := [.pv (.int .i64 m.n), .pv (.sl (m.val.map u64)), .pv (.sl (m.rel.map rowPV)), .pv (u64 (2 ^ m.n.toNat - 1)), .pv (actsPV acts), .pv (fpv c), .mp 2, .ref 0 0]
def H0 (m : Mo) (acts : List Act) (c : List Nd) (es : List (Nat × Nat)) (err : Int) : List (Nat × DObj) := [(0, .var [.pv (.int .i64 err)]), (1, .var (evC m acts c)), (2, .mp (setM es))]
/-- What is reckoned already. -/
def InvE (acts : List Act) (c : List Nd) (m : Mo) (n : Nat) (es : List (Nat × Nat)) (err : Int) : Prop := ∀ k s, look k es = some s → s < 2 ^ n ∧ (err = 0 → dvT acts (tree c k) m = some s)
structure PostE (acts : List Act) (c : List Nd) (m : Mo) (n : Nat) (i : Nat) (err : Int) (s : Nat) (es' : List (Nat × Nat)) (err' : Int) : Prop where
  lt : s < 2 ^ n
  inv : InvE acts c m n es' err'
  er : err' = 0 ∨ err' = 8
  ok : err' = 0 → err = 0 ∧ dvT acts (tree c i) m = some s
  no : err' ≠ 0 → err ≠ 0 ∨ dvT acts (tree c i) m = none
/-- Nodes that may be asked for. -/
structure CxD (A F : Nat) (acts : List Act) (c : List Nd) : Prop where
  okl : Okl c
  len : c.length ≤ 1000
  op : ∀ x, x ∈ c → x.op ≤ 13 ∨ x.op = 16 ∨ x.op = 17
  fact : ∀ x, x ∈ c → x.op = 3 → x.i < F
  ag : ∀ x, x ∈ c → x.op = 9 ∨ x.op = 10 → x.i < A
  gr : ∀ x, x ∈ c → x.op = 11 ∨ x.op = 12 ∨ x.op = 13 → 1 ≤ x.g ∧ x.g < shl64 1 (A : Int)
  ev : ∀ x, x ∈ c → x.op = 17 → 0 ≤ x.i ∧ x.i < acts.length ∧ 0 ≤ x.e ∧ x.e < (acts.getD x.i.toNat noAct).pre.length
structure ModD (acts : List Act) (m : Mo) (n A F : Nat) : Prop where
  okd : OkD acts m n
  ra : m.rel.length = A
  rf : m.val.length = F
/-- What a call of at or of value does to the evaluation. -/
def ConE (fid : Nat) (arg : DV) (acts : List Act) (c : List Nd) (A F i : Nat) : Prop := ∀ (m : Mo) (n : Nat) (es : List (Nat × Nat)) (err : Int), ModD acts m n A F → InvE acts c m n es err → (err = 0 ∨ err = 8) →
  ∀ (M : Nat → Prop) (w0 : World) (base : Nat) (K : DV → DH → Prop), (∀ s es' err', PostE acts c m n i err s es' err' → K (.pv (u64 s)) ⟨3, 0, base, objsOf (H0 m acts c es' err')⟩) →
    DC Tryz.prog M w0 fid [.ref 1 0, arg] ⟨3, 0, base, objsOf (H0 m acts c es err)⟩ K
theorem con_L {fid : Nat} {arg : DV} {acts : List Act} {c : List Nd} {A F i : Nat} (h : ConE fid arg acts c A F i) (hu : DV.under 3 arg = true) {m : Mo} {n : Nat} {es : List (Nat × Nat)} {err : Int} (hM : ModD acts m n A F) (hI : InvE acts c m n es err) (hE : err = 0 ∨ err = 8)
    {M : Nat → Prop} {w0 : World} {L : DH} {K : DV → DH → Prop} (h0 : L.lo = 0) (hn : Nat.ble 3 L.next = true) (g0 : L.get 0 = some (.var [.pv (.int .i64 err)])) (g1 : L.get 1 = some (.var (evC m acts c))) (g2 : L.get 2 = some (.mp (setM es)))
    (hK : ∀ s es' err', PostE acts c m n i err s es' err' → K (.pv (u64 s)) (L.merge ⟨3, 0, 3, objsOf (H0 m acts c es' err')⟩ 3)) : DC Tryz.prog M w0 fid [.ref 1 0, arg] L K := by
  refine DC.call 3 (H0 m acts c es err) ⟨g2.symm, g1.symm, g0.symm, trivial⟩ rfl hn (by rw [h0]; rfl) ?_ fun M' => ?_
  · show (Nat.blt 1 3 && (arg.under 3 && true)) = true
    rw [hu]; rfl
  · rw [h0]
    exact h m n es err hM hI hE M' w0 3 _ fun s es' err' hp => ⟨rfl, hK s es' err' hp⟩
theorem lt64 {acts : List Act} {c : List Nd} {m : Mo} {n i : Nat} {err err' : Int} {s : Nat} {es' : List (Nat × Nat)} (hM : OkM m n) (p : PostE acts c m n i err s es' err') : s < 2 ^ 64 := Nat.lt_of_lt_of_le p.lt (pow64_le hM.n64)
theorem at_dc {acts : List Act} {c : List Nd} {A F i : Nat} (hC : CxD A F acts c) (hi : i < c.length) (hv : ∀ x, c[i]? = some x → ConE 51 (.agg x.dvs) acts c A F i) : ConE 28 (.pv (.int .i64 (i : Nat))) acts c A F i := by
  intro m n es err hM hI hE M w0 base K hK
  have hlen := hC.len
  obtain ⟨x, hx⟩ : ∃ x, c[i]? = some x := ⟨_, List.getElem?_eq_getElem hi⟩
  have hv' := hv
  have hmf := mfind_setM i es
  refine DC.weaken (DC.intro mixed (fn := Tryz.f28) rfl rfl rfl ?_)
  cases hl : look i es with
  | some s =>
    rw [hl] at hmf
    have hoff : (!true) = false := rfl
    (try conv=>whnf);repeat' (first|(apply And.intro<;>try conv=>whnf)|(intro h;first|with_reducible exact nt0 h|try conv=>whnf)|(apply infoT;rfl)|(apply fitI;rfl)|(apply whenOff;(focus with_reducible assumption);try conv=>whnf)|(refine ⟨_, _, rfl, idx_map (by with_reducible assumption), rfl, ?_⟩;try conv=>whnf)|(apply ex2;(focus with_reducible assumption);try conv=>whnf)|fail)
    · obtain ⟨e, _, rfl⟩ := List.mem_map.1 h; rfl
    · exact absurd (show (bif !true then false else false) = true from h) (by decide)
    · obtain ⟨q1, q2⟩ := hI i s hl
      exact ⟨.pv (u64 s), 3, H0 m acts c es err, (by refine Wk.of ?_ ?_ rfl rfl rfl<;>repeat' (first|exact trivial|exact WkD.same _|exact WkO.same _ _ rfl|refine ⟨?_, ?_⟩|fail)), hK s es err ⟨q1, hI, hE, fun h => ⟨h, q2 h⟩, fun h => .inl h⟩⟩
  | none =>
    rw [hl] at hmf
    rcases hE with rfl | rfl
    · (try conv=>whnf);repeat' (first|(apply And.intro<;>try conv=>whnf)|(intro h;try conv=>whnf)|apply True.intro|(apply infoT;rfl)|(apply fitI;rfl)|(apply WhenQ.mk;(try conv=>whnf);rotate_left;(try conv=>whnf);rotate_right)|with_reducible assumption|(refine ⟨_, _, rfl, idx_map (by with_reducible assumption), rfl, ?_⟩;try conv=>whnf)|(apply ex2;(focus with_reducible assumption);try conv=>whnf)|fail)
      · obtain ⟨e, _, rfl⟩ := List.mem_map.1 h; rfl
      · refine con_L (hv' x hx) rfl hM hI (.inl rfl) rfl rfl rfl rfl rfl fun s1 es1 er1 p1 => ?_
        (try conv=>whnf);repeat' (first|(apply And.intro<;>try conv=>whnf)|(intro h;try conv=>whnf)|(apply fitI;rfl)|fail)
        · obtain ⟨e, _, rfl⟩ := List.mem_map.1 h; rfl
        · refine ⟨.pv (u64 s1), 3, H0 m acts c (dput i s1 es1) er1, ?_, hK s1 (dput i s1 es1) er1 ⟨p1.lt, fun k s hk => ?_, p1.er, p1.ok, p1.no⟩⟩
          · (refine Wk.of ?_ ?_ rfl rfl rfl<;>repeat' (first|exact trivial|exact WkD.same _|exact WkO.same _ _ rfl|refine ⟨?_, ?_⟩|fail))
            exact WkO.same _ _ (congrArg (fun z => some (DObj.mp z)) (mput_setM i s1 es1))
          · rw [look_dput] at hk
            by_cases e : k = i
            · rw [if_pos e] at hk
              have hk := Option.some.inj hk
              subst hk
              rw [e]
              exact ⟨p1.lt, fun h => (p1.ok h).2⟩
            · rw [if_neg e] at hk
              exact p1.inv k s hk
      · exact absurd (show (bif !false then (0 : Int) == 0 else false) = false from h) (by decide)
    · (try conv=>whnf);repeat' (first|(apply And.intro<;>try conv=>whnf)|(intro h;try conv=>whnf)|apply True.intro|(apply infoT;rfl)|(apply fitI;rfl)|(apply WhenQ.mk;(try conv=>whnf);rotate_left;(try conv=>whnf);rotate_right)|with_reducible assumption|(refine ⟨_, _, rfl, idx_map (by with_reducible assumption), rfl, ?_⟩;try conv=>whnf)|(apply ex2;(focus with_reducible assumption);try conv=>whnf)|fail)
      · obtain ⟨e, _, rfl⟩ := List.mem_map.1 h; rfl
      · exact absurd (show (bif !false then (8 : Int) == 0 else false) = true from h) (by decide)
      · exact ⟨.pv (u64 0), 3, H0 m acts c es 8, (by refine Wk.of ?_ ?_ rfl rfl rfl<;>repeat' (first|exact trivial|exact WkD.same _|exact WkO.same _ _ rfl|refine ⟨?_, ?_⟩|fail)), hK 0 es 8 ⟨Nat.two_pow_pos n, hI, .inr rfl, fun h => absurd h (by decide), fun _ => .inl (by decide)⟩⟩
end Go.Proofs.YtjdmfhggokfflaaGreatDoor
set_option maxRecDepth 100000
set_option maxHeartbeats 8000000
namespace Go.Proofs.YtjdmfhggokfflaaGreatDoor
open Go Go.Dv

section
variable {acts : List Act} {c : List Nd} {m : Mo} {n i : Nat} {err : Int} {es : List (Nat × Nat)} {op fi ei gi xx yy : Int}
theorem post0 (hc : Okl c) (hM : OkM m n) (hx : c[i]? = some ⟨op, fi, ei, gi, xx, yy⟩) (h16 : (op == 16) = false) (h17 : (op == 17) = false) (hu : usesX op = false) (hv : usesY op = false) (hI : InvE acts c m n es err) (hE : err = 0 ∨ err = 8) {s : Nat} (hs : s < 2 ^ n) (he : vlN m n op fi gi 0 0 = s) :
    PostE acts c m n i err s es err := by
  have hnn : m.n.toNat = n := by rw [hM.nn, Int.toNat_natCast]
  refine ⟨hs, hI, hE, fun h => ⟨h, ?_⟩, fun h => .inl h⟩
  rw [tree_nd hc hx]
  show dvT acts (.nd op fi ei gi (bif usesX op then _ else _) (bif usesY op then _ else _)) m = _
  rw [hu, hv, dvT, h16, h17, hnn, ← he]; rfl
theorem post1 (hc : Okl c) (hM : OkM m n) (hx : c[i]? = some ⟨op, fi, ei, gi, xx, yy⟩) (h16 : (op == 16) = false) (h17 : (op == 17) = false) (hu : usesX op = true) (hv : usesY op = false) {s1 : Nat} {es1 : List (Nat × Nat)} {err1 : Int} (p : PostE acts c m n xx.toNat err s1 es1 err1) {s : Nat} (hs : s < 2 ^ n) (he : vlN m n op fi gi s1 0 = s) :
    PostE acts c m n i err s es1 err1 := by
  have hnn : m.n.toNat = n := by rw [hM.nn, Int.toNat_natCast]
  have ht : tree c i = .nd op fi ei gi (tree c xx.toNat) .none := by rw [tree_nd hc hx]; show Tr.nd op fi ei gi (bif usesX op then _ else _) (bif usesY op then _ else _) = _; rw [hu, hv]; rfl
  refine ⟨hs, p.inv, p.er, fun h => ?_, fun h => ?_⟩
  · obtain ⟨h1, h2⟩ := p.ok h
    refine ⟨h1, ?_⟩
    rw [ht, dvT, h16, h17, h2, hnn, ← he]; rfl
  · rcases p.no h with h1 | h1
    · exact .inl h1
    · right
      rw [ht, dvT, h16, h17, h1]; rfl
theorem post2 (hc : Okl c) (hM : OkM m n) (hx : c[i]? = some ⟨op, fi, ei, gi, xx, yy⟩) (h16 : (op == 16) = false) (h17 : (op == 17) = false) (hu : usesX op = true) (hv : usesY op = true) {s1 s2 : Nat} {es1 es2 : List (Nat × Nat)} {err1 err2 : Int} (p : PostE acts c m n xx.toNat err s1 es1 err1) (q : PostE acts c m n yy.toNat err1 s2 es2 err2)
    {s : Nat} (hs : s < 2 ^ n) (he : vlN m n op fi gi s1 s2 = s) : PostE acts c m n i err s es2 err2 := by
  have hnn : m.n.toNat = n := by rw [hM.nn, Int.toNat_natCast]
  have ht : tree c i = .nd op fi ei gi (tree c xx.toNat) (tree c yy.toNat) := by rw [tree_nd hc hx]; show Tr.nd op fi ei gi (bif usesX op then _ else _) (bif usesY op then _ else _) = _; rw [hu, hv]; rfl
  refine ⟨hs, q.inv, q.er, fun h => ?_, fun h => ?_⟩
  · obtain ⟨h1, h2⟩ := q.ok h
    obtain ⟨h3, h4⟩ := p.ok h1
    refine ⟨h3, ?_⟩
    rw [ht, dvT, h16, h17, h4, h2, hnn, ← he]; rfl
  · rcases q.no h with h1 | h1
    · rcases p.no h1 with h2 | h2
      · exact .inl h2
      · right
        rw [ht, dvT, h16, h17, h2]; rfl
    · right
      rw [ht, dvT, h16, h17, h1]
      cases dvT acts (tree c xx.toNat) m <;> rfl
end
theorem val_1 {acts : List Act} {c : List Nd} {A F i : Nat} {fi ei gi xx yy : Int} (hC : CxD A F acts c) (hx : c[i]? = some ⟨1, fi, ei, gi, xx, yy⟩) (_hat : ∀ j, j < i → ConE 28 (.pv (.int .i64 (j : Nat))) acts c A F j) :
    ConE 51 (.agg (Nd.dvs ⟨1, fi, ei, gi, xx, yy⟩)) acts c A F i := by
  intro m n es err hM hI hE M w0 base K hK
  have hO := hM.okd.okm
  have hnn : m.n.toNat = n := by rw [hO.nn, Int.toNat_natCast]
  have hn64 := hO.n64
  have h64 := pow64_le hn64
  have hall : 2 ^ n - 1 < 2 ^ n := by have := Nat.two_pow_pos n; omega
  have hnd := hC.okl i _ hx
  have hmem : (⟨1, fi, ei, gi, xx, yy⟩ : Nd) ∈ c := List.mem_iff_getElem?.2 ⟨i, hx⟩
  have f1 : ((1 : Int) == 1) = true := rfl
  have f2 : ((1 : Int) == 2) = false := rfl
  have f3 : ((1 : Int) == 3) = false := rfl
  have f4 : ((1 : Int) == 4) = false := rfl
  have f5 : ((1 : Int) == 5) = false := rfl
  have f6 : ((1 : Int) == 6) = false := rfl
  have f7 : ((1 : Int) == 7) = false := rfl
  have f8 : ((1 : Int) == 8) = false := rfl
  have f9 : ((1 : Int) == 9) = false := rfl
  have f10 : ((1 : Int) == 10) = false := rfl
  have f11 : ((1 : Int) == 11) = false := rfl
  have f12 : ((1 : Int) == 12) = false := rfl
  have f13 : ((1 : Int) == 13) = false := rfl
  have f16 : ((1 : Int) == 16) = false := rfl
  refine DC.weaken (DC.intro mixed (fn := Tryz.f51) rfl rfl rfl ?_)
  (try conv=>whnf);repeat' (first|(apply And.intro<;>try conv=>whnf)|(intro h;first|with_reducible exact tf (by assumption) h|try conv=>whnf)|fail)
  all_goals
    refine ⟨.pv (u64 (2 ^ n - 1)), 3, H0 m acts c es err, ?_, hK _ _ _ ?_⟩
    · (refine Wk.of ?_ ?_ rfl rfl rfl<;>repeat' (first|exact trivial|exact WkO.same _ _ rfl|refine WkD.int ?_|refine ⟨?_, ?_⟩|fail))
      rw [hnn]
    · exact post0 hC.okl hO hx rfl rfl rfl rfl hI hE hall rfl
theorem val_2 {acts : List Act} {c : List Nd} {A F i : Nat} {fi ei gi xx yy : Int} (hC : CxD A F acts c) (hx : c[i]? = some ⟨2, fi, ei, gi, xx, yy⟩) (_hat : ∀ j, j < i → ConE 28 (.pv (.int .i64 (j : Nat))) acts c A F j) :
    ConE 51 (.agg (Nd.dvs ⟨2, fi, ei, gi, xx, yy⟩)) acts c A F i := by
  intro m n es err hM hI hE M w0 base K hK
  have hO := hM.okd.okm
  have hnn : m.n.toNat = n := by rw [hO.nn, Int.toNat_natCast]
  have hn64 := hO.n64
  have h64 := pow64_le hn64
  have hall : 2 ^ n - 1 < 2 ^ n := by have := Nat.two_pow_pos n; omega
  have hnd := hC.okl i _ hx
  have hmem : (⟨2, fi, ei, gi, xx, yy⟩ : Nd) ∈ c := List.mem_iff_getElem?.2 ⟨i, hx⟩
  have f1 : ((2 : Int) == 1) = false := rfl
  have f2 : ((2 : Int) == 2) = true := rfl
  have f3 : ((2 : Int) == 3) = false := rfl
  have f4 : ((2 : Int) == 4) = false := rfl
  have f5 : ((2 : Int) == 5) = false := rfl
  have f6 : ((2 : Int) == 6) = false := rfl
  have f7 : ((2 : Int) == 7) = false := rfl
  have f8 : ((2 : Int) == 8) = false := rfl
  have f9 : ((2 : Int) == 9) = false := rfl
  have f10 : ((2 : Int) == 10) = false := rfl
  have f11 : ((2 : Int) == 11) = false := rfl
  have f12 : ((2 : Int) == 12) = false := rfl
  have f13 : ((2 : Int) == 13) = false := rfl
  have f16 : ((2 : Int) == 16) = false := rfl
  refine DC.weaken (DC.intro mixed (fn := Tryz.f51) rfl rfl rfl ?_)
  (try conv=>whnf);repeat' (first|(apply And.intro<;>try conv=>whnf)|(intro h;first|with_reducible exact tf h (by assumption)|with_reducible exact tf (by assumption) h|try conv=>whnf)|fail)
  all_goals
    refine ⟨.pv (u64 (0)), 3, H0 m acts c es err, ?_, hK _ _ _ ?_⟩
    · (refine Wk.of ?_ ?_ rfl rfl rfl<;>repeat' (first|exact trivial|exact WkD.same _|exact WkO.same _ _ rfl|refine ⟨?_, ?_⟩|fail))
    · exact post0 hC.okl hO hx rfl rfl rfl rfl hI hE (Nat.two_pow_pos n) rfl
theorem val_3 {acts : List Act} {c : List Nd} {A F i : Nat} {fi ei gi xx yy : Int} (hC : CxD A F acts c) (hx : c[i]? = some ⟨3, fi, ei, gi, xx, yy⟩) (_hat : ∀ j, j < i → ConE 28 (.pv (.int .i64 (j : Nat))) acts c A F j) :
    ConE 51 (.agg (Nd.dvs ⟨3, fi, ei, gi, xx, yy⟩)) acts c A F i := by
  intro m n es err hM hI hE M w0 base K hK
  have hO := hM.okd.okm
  have hnn : m.n.toNat = n := by rw [hO.nn, Int.toNat_natCast]
  have hn64 := hO.n64
  have h64 := pow64_le hn64
  have hall : 2 ^ n - 1 < 2 ^ n := by have := Nat.two_pow_pos n; omega
  have hnd := hC.okl i _ hx
  have hmem : (⟨3, fi, ei, gi, xx, yy⟩ : Nd) ∈ c := List.mem_iff_getElem?.2 ⟨i, hx⟩
  have hfi := (hnd.fact rfl).1
  simp only at hfi
  have hfF := hC.fact _ hmem rfl
  simp only at hfF
  obtain ⟨q, eq⟩ : ∃ q : Nat, fi = q := ⟨fi.toNat, by omega⟩
  subst eq
  have hq : q < m.val.length := by rw [hM.rf]; omega
  have hv := getD_mem hq (d := 0)
  have hvl := hO.vbits _ (List.mem_iff_getElem?.2 ⟨q, hv⟩)
  have f1 : ((3 : Int) == 1) = false := rfl
  have f2 : ((3 : Int) == 2) = false := rfl
  have f3 : ((3 : Int) == 3) = true := rfl
  have f4 : ((3 : Int) == 4) = false := rfl
  have f5 : ((3 : Int) == 5) = false := rfl
  have f6 : ((3 : Int) == 6) = false := rfl
  have f7 : ((3 : Int) == 7) = false := rfl
  have f8 : ((3 : Int) == 8) = false := rfl
  have f9 : ((3 : Int) == 9) = false := rfl
  have f10 : ((3 : Int) == 10) = false := rfl
  have f11 : ((3 : Int) == 11) = false := rfl
  have f12 : ((3 : Int) == 12) = false := rfl
  have f13 : ((3 : Int) == 13) = false := rfl
  have f16 : ((3 : Int) == 16) = false := rfl
  refine DC.weaken (DC.intro mixed (fn := Tryz.f51) rfl rfl rfl ?_)
  (try conv=>whnf);repeat' (first|(apply And.intro<;>try conv=>whnf)|(intro h;first|with_reducible exact tf h (by assumption)|with_reducible exact tf (by assumption) h|try conv=>whnf)|(apply infoT;rfl)|(refine lin_plan (by kernel_rfl) ?_;try conv=>whnf)|(refine ⟨_, _, rfl, idx_map (by with_reducible assumption), rfl, ?_⟩;try conv=>whnf)|fail)
  all_goals
    refine ⟨.pv (u64 (m.val.getD q 0)), 3, H0 m acts c es err, ?_, hK _ _ _ ?_⟩
    · (refine Wk.of ?_ ?_ rfl rfl rfl<;>repeat' (first|exact trivial|exact WkD.same _|exact WkO.same _ _ rfl|refine ⟨?_, ?_⟩|fail))
    · exact post0 hC.okl hO hx rfl rfl rfl rfl hI hE hvl rfl
theorem val_4 {acts : List Act} {c : List Nd} {A F i : Nat} {fi ei gi xx yy : Int} (hC : CxD A F acts c) (hx : c[i]? = some ⟨4, fi, ei, gi, xx, yy⟩) (hat : ∀ j, j < i → ConE 28 (.pv (.int .i64 (j : Nat))) acts c A F j) :
    ConE 51 (.agg (Nd.dvs ⟨4, fi, ei, gi, xx, yy⟩)) acts c A F i := by
  intro m n es err hM hI hE M w0 base K hK
  have hO := hM.okd.okm
  have hnn : m.n.toNat = n := by rw [hO.nn, Int.toNat_natCast]
  have hn64 := hO.n64
  have h64 := pow64_le hn64
  have hall : 2 ^ n - 1 < 2 ^ n := by have := Nat.two_pow_pos n; omega
  have hnd := hC.okl i _ hx
  have hmem : (⟨4, fi, ei, gi, xx, yy⟩ : Nd) ∈ c := List.mem_iff_getElem?.2 ⟨i, hx⟩
  have hkx := hnd.x rfl
  simp only at hkx
  obtain ⟨X, ex⟩ : ∃ q : Nat, xx = q := ⟨xx.toNat, by omega⟩
  subst ex
  have hlx : X < i := by omega
  have hX := fun {M w0 L K} => @con_L _ _ _ _ _ _ _ (hat X hlx) rfl m n es err hM hI hE M w0 L K
  have f1 : ((4 : Int) == 1) = false := rfl
  have f2 : ((4 : Int) == 2) = false := rfl
  have f3 : ((4 : Int) == 3) = false := rfl
  have f4 : ((4 : Int) == 4) = true := rfl
  have f5 : ((4 : Int) == 5) = false := rfl
  have f6 : ((4 : Int) == 6) = false := rfl
  have f7 : ((4 : Int) == 7) = false := rfl
  have f8 : ((4 : Int) == 8) = false := rfl
  have f9 : ((4 : Int) == 9) = false := rfl
  have f10 : ((4 : Int) == 10) = false := rfl
  have f11 : ((4 : Int) == 11) = false := rfl
  have f12 : ((4 : Int) == 12) = false := rfl
  have f13 : ((4 : Int) == 13) = false := rfl
  have f16 : ((4 : Int) == 16) = false := rfl
  refine DC.weaken (DC.intro mixed (fn := Tryz.f51) rfl rfl rfl ?_)
  (try conv=>whnf);repeat' (first|(apply And.intro<;>try conv=>whnf)|(intro h;first|with_reducible exact tf h (by assumption)|with_reducible exact tf (by assumption) h|try conv=>whnf)|fail)
  refine ⟨.one 0 (.one 4 (.one 5 (.one 6 (.two 1 (.two 2 (.two 3 (.one 7 (.one 8 (.one 9 .done))) 7 (.one 3 (.one 8 (.one 9 .done)))) 7 (.one 2 (.one 3 (.one 8 (.one 9 .done))))) 7 (.one 1 (.one 2 (.one 3 (.one 8 (.one 9 .done))))))))), [7], by kernel_rfl, ?_⟩
  (try conv=>whnf);repeat' (first|(apply And.intro<;>try conv=>whnf)|(refine hX rfl rfl rfl rfl rfl ?_;intro s1 es1 er1 p1;have q1 := lt64 hO p1;try conv=>whnf)|fail)
  all_goals
    refine ⟨.pv (u64 (notN n s1)), 3, H0 m acts c es1 er1, ?_, hK _ _ _ ?_⟩
    · (refine Wk.of ?_ ?_ rfl rfl rfl<;>repeat' (first|exact trivial|exact WkO.same _ _ rfl|refine WkD.int ?_|refine ⟨?_, ?_⟩|fail))
      exact (by rw [hnn]; exact andNotU_all hn64)
    · exact post1 hC.okl hO hx rfl rfl rfl rfl p1 (notN_lt _ _) rfl
theorem bool_L {acts : List Act} {c : List Nd} {A F : Nat} {op : Int} (hop : op = 5 ∨ op = 6 ∨ op = 7 ∨ op = 8) {m : Mo} {n : Nat} {es : List (Nat × Nat)} {err : Int} (hM : ModD acts m n A F) {x y : Nat} (hx : x < 2 ^ 64) (hy : y < 2 ^ 64)
    {M : Nat → Prop} {w0 : World} {L : DH} {K : DV → DH → Prop} (h0 : L.lo = 0) (hn : Nat.ble 3 L.next = true) (g0 : L.get 0 = some (.var [.pv (.int .i64 err)])) (g1 : L.get 1 = some (.var (evC m acts c))) (g2 : L.get 2 = some (.mp (setM es)))
    (hK : K (.pv (u64 (vlN m n op 0 0 x y))) (L.merge ⟨3, 0, 3, objsOf (H0 m acts c es err)⟩ 3)) : DC Tryz.prog M w0 68 [.ref 1 0, .pv (.int .i64 op), .pv (u64 x), .pv (u64 y)] L K := by
  have hO := hM.okd.okm
  have hnn : m.n.toNat = n := by rw [hO.nn, Int.toNat_natCast]
  have hn64 := hO.n64
  have h64 := pow64_le hn64
  refine DC.call 3 (H0 m acts c es err) ⟨g2.symm, g1.symm, g0.symm, trivial⟩ rfl hn (by rw [h0]; rfl) rfl fun M' => ?_
  rw [h0]
  refine DC.weaken (DC.intro mixed (fn := Tryz.f68) rfl rfl rfl ?_)
  rcases hop with rfl | rfl | rfl | rfl
  · have f5 : ((5 : Int) == 5) = true := rfl
    have f6 : ((5 : Int) == 6) = false := rfl
    have f7 : ((5 : Int) == 7) = false := rfl
    (try conv=>whnf);repeat' (first|(apply And.intro<;>try conv=>whnf)|(intro h;first|with_reducible exact tf (by assumption) h|try conv=>whnf)|fail)
    refine ⟨.pv (u64 (x &&& y)), 3, H0 m acts c es err, ?_, ⟨rfl, hK⟩⟩
    (refine Wk.of ?_ ?_ rfl rfl rfl<;>repeat' (first|exact trivial|exact WkO.same _ _ rfl|refine WkD.int ?_|refine ⟨?_, ?_⟩|fail))
    exact andU_nat hx hy
  · have f5 : ((6 : Int) == 5) = false := rfl
    have f6 : ((6 : Int) == 6) = true := rfl
    have f7 : ((6 : Int) == 7) = false := rfl
    (try conv=>whnf);repeat' (first|(apply And.intro<;>try conv=>whnf)|(intro h;first|with_reducible exact tf h (by assumption)|with_reducible exact tf (by assumption) h|try conv=>whnf)|fail)
    refine ⟨.pv (u64 (x ||| y)), 3, H0 m acts c es err, ?_, ⟨rfl, hK⟩⟩
    (refine Wk.of ?_ ?_ rfl rfl rfl<;>repeat' (first|exact trivial|exact WkO.same _ _ rfl|refine WkD.int ?_|refine ⟨?_, ?_⟩|fail))
    exact orU_nat hx hy
  · have f5 : ((7 : Int) == 5) = false := rfl
    have f6 : ((7 : Int) == 6) = false := rfl
    have f7 : ((7 : Int) == 7) = true := rfl
    (try conv=>whnf);repeat' (first|(apply And.intro<;>try conv=>whnf)|(intro h;first|with_reducible exact tf h (by assumption)|with_reducible exact tf (by assumption) h|try conv=>whnf)|fail)
    refine ⟨.pv (u64 (notN n x ||| y)), 3, H0 m acts c es err, ?_, ⟨rfl, hK⟩⟩
    (refine Wk.of ?_ ?_ rfl rfl rfl<;>repeat' (first|exact trivial|exact WkO.same _ _ rfl|refine WkD.int ?_|refine ⟨?_, ?_⟩|fail))
    exact (by show orU (andNotU ((2 ^ m.n.toNat - 1 : Nat) : Int) (x : Nat)) (y : Nat) = _; rw [hnn, andNotU_all hn64]; exact orU_nat (Nat.lt_of_lt_of_le (notN_lt n x) h64) hy)
  · have f5 : ((8 : Int) == 5) = false := rfl
    have f6 : ((8 : Int) == 6) = false := rfl
    have f7 : ((8 : Int) == 7) = false := rfl
    (try conv=>whnf);repeat' (first|(apply And.intro<;>try conv=>whnf)|(intro h;first|with_reducible exact tf h (by assumption)|try conv=>whnf)|fail)
    refine ⟨.pv (u64 (notN n (x ^^^ y))), 3, H0 m acts c es err, ?_, ⟨rfl, hK⟩⟩
    (refine Wk.of ?_ ?_ rfl rfl rfl<;>repeat' (first|exact trivial|exact WkO.same _ _ rfl|refine WkD.int ?_|refine ⟨?_, ?_⟩|fail))
    exact (by show andNotU ((2 ^ m.n.toNat - 1 : Nat) : Int) (xorU (x : Nat) (y : Nat)) = _; rw [xorU_nat hx hy, hnn]; exact andNotU_all hn64)
theorem val_5 {acts : List Act} {c : List Nd} {A F i : Nat} {fi ei gi xx yy : Int} (hC : CxD A F acts c) (hx : c[i]? = some ⟨5, fi, ei, gi, xx, yy⟩) (hat : ∀ j, j < i → ConE 28 (.pv (.int .i64 (j : Nat))) acts c A F j) :
    ConE 51 (.agg (Nd.dvs ⟨5, fi, ei, gi, xx, yy⟩)) acts c A F i := by
  intro m n es err hM hI hE M w0 base K hK
  have hO := hM.okd.okm
  have hnn : m.n.toNat = n := by rw [hO.nn, Int.toNat_natCast]
  have hn64 := hO.n64
  have h64 := pow64_le hn64
  have hall : 2 ^ n - 1 < 2 ^ n := by have := Nat.two_pow_pos n; omega
  have hnd := hC.okl i _ hx
  have hmem : (⟨5, fi, ei, gi, xx, yy⟩ : Nd) ∈ c := List.mem_iff_getElem?.2 ⟨i, hx⟩
  have hkx := hnd.x rfl
  simp only at hkx
  obtain ⟨X, ex⟩ : ∃ q : Nat, xx = q := ⟨xx.toNat, by omega⟩
  subst ex
  have hlx : X < i := by omega
  have hky := hnd.y rfl
  simp only at hky
  obtain ⟨Y, ey⟩ : ∃ q : Nat, yy = q := ⟨yy.toNat, by omega⟩
  subst ey
  have hly : Y < i := by omega
  have hX := fun {M w0 L K} => @con_L _ _ _ _ _ _ _ (hat X hlx) rfl m n es err hM hI hE M w0 L K
  have hY := fun {s1 es1 er1} (p1 : PostE acts c m n X err s1 es1 er1) {M w0 L K} => @con_L _ _ _ _ _ _ _ (hat Y hly) rfl m n es1 er1 hM p1.inv p1.er M w0 L K
  have hop : (5 : Int) = 5 ∨ (5 : Int) = 6 ∨ (5 : Int) = 7 ∨ (5 : Int) = 8 := by decide
  have f1 : ((5 : Int) == 1) = false := rfl
  have f2 : ((5 : Int) == 2) = false := rfl
  have f3 : ((5 : Int) == 3) = false := rfl
  have f4 : ((5 : Int) == 4) = false := rfl
  have f5 : ((5 : Int) == 5) = true := rfl
  have f6 : ((5 : Int) == 6) = false := rfl
  have f7 : ((5 : Int) == 7) = false := rfl
  have f8 : ((5 : Int) == 8) = false := rfl
  have f9 : ((5 : Int) == 9) = false := rfl
  have f10 : ((5 : Int) == 10) = false := rfl
  have f11 : ((5 : Int) == 11) = false := rfl
  have f12 : ((5 : Int) == 12) = false := rfl
  have f13 : ((5 : Int) == 13) = false := rfl
  have f16 : ((5 : Int) == 16) = false := rfl
  refine DC.weaken (DC.intro mixed (fn := Tryz.f51) rfl rfl rfl ?_)
  (try conv=>whnf);repeat' (first|(apply And.intro<;>try conv=>whnf)|(intro h;first|with_reducible exact tf h (by assumption)|with_reducible exact tf (by assumption) h|try conv=>whnf)|fail)
  refine ⟨.one 0 (.one 3 (.one 4 (.one 5 (.one 7 (.three 1 (.three 2 (.two 6 (.one 8 (.one 9 (.one 10 (.one 11 (.one 12 .done))))) 8 (.two 6 (.one 9 (.one 10 (.one 11 (.one 12 .done)))) 9 (.one 6 (.one 10 (.one 11 (.one 12 .done)))))) 6 (.one 8 (.one 9 (.two 2 (.one 10 (.one 11 (.one 12 .done))) 10 (.one 2 (.one 11 (.one 12 .done)))))) 8 (.three 2 (.two 6 (.one 9 (.one 10 (.one 11 (.one 12 .done)))) 9 (.one 6 (.one 10 (.one 11 (.one 12 .done))))) 6 (.one 9 (.two 2 (.one 10 (.one 11 (.one 12 .done))) 10 (.one 2 (.one 11 (.one 12 .done))))) 9 (.two 2 (.one 6 (.one 10 (.one 11 (.one 12 .done)))) 6 (.two 2 (.one 10 (.one 11 (.one 12 .done))) 10 (.one 2 (.one 11 (.one 12 .done))))))) 6 (.one 8 (.one 9 (.two 1 (.two 2 (.one 10 (.one 11 (.one 12 .done))) 10 (.one 2 (.one 11 (.one 12 .done)))) 10 (.one 1 (.one 2 (.one 11 (.one 12 .done))))))) 8 (.three 1 (.three 2 (.two 6 (.one 9 (.one 10 (.one 11 (.one 12 .done)))) 9 (.one 6 (.one 10 (.one 11 (.one 12 .done))))) 6 (.one 9 (.two 2 (.one 10 (.one 11 (.one 12 .done))) 10 (.one 2 (.one 11 (.one 12 .done))))) 9 (.two 2 (.one 6 (.one 10 (.one 11 (.one 12 .done)))) 6 (.two 2 (.one 10 (.one 11 (.one 12 .done))) 10 (.one 2 (.one 11 (.one 12 .done)))))) 6 (.one 9 (.two 1 (.two 2 (.one 10 (.one 11 (.one 12 .done))) 10 (.one 2 (.one 11 (.one 12 .done)))) 10 (.one 1 (.one 2 (.one 11 (.one 12 .done)))))) 9 (.two 1 (.two 2 (.one 6 (.one 10 (.one 11 (.one 12 .done)))) 6 (.two 2 (.one 10 (.one 11 (.one 12 .done))) 10 (.one 2 (.one 11 (.one 12 .done))))) 6 (.two 1 (.two 2 (.one 10 (.one 11 (.one 12 .done))) 10 (.one 2 (.one 11 (.one 12 .done)))) 10 (.one 1 (.one 2 (.one 11 (.one 12 .done)))))))))))), [6, 10, 11], by kernel_rfl, ?_⟩
  (try conv=>whnf);repeat' (first|(apply And.intro<;>try conv=>whnf)|(refine hX rfl rfl rfl rfl rfl ?_;intro s1 es1 er1 p1;have q1 := lt64 hO p1;try conv=>whnf)|(refine hY p1 rfl rfl rfl rfl rfl ?_;intro s2 es2 er2 p2;have q2 := lt64 hO p2;try conv=>whnf)|(refine bool_L (es := es2) (err := er2) hop hM q1 q2 rfl rfl rfl rfl rfl ?_;try conv=>whnf)|fail)
  all_goals
    refine ⟨.pv (u64 (s1 &&& s2)), 3, H0 m acts c es2 er2, ?_, hK _ _ _ ?_⟩
    · (refine Wk.of ?_ ?_ rfl rfl rfl<;>repeat' (first|exact trivial|exact WkD.same _|exact WkO.same _ _ rfl|refine ⟨?_, ?_⟩|fail))
    · exact post2 hC.okl hO hx rfl rfl rfl rfl p1 p2 (Nat.and_lt_two_pow s1 p2.lt) rfl
theorem val_6 {acts : List Act} {c : List Nd} {A F i : Nat} {fi ei gi xx yy : Int} (hC : CxD A F acts c) (hx : c[i]? = some ⟨6, fi, ei, gi, xx, yy⟩) (hat : ∀ j, j < i → ConE 28 (.pv (.int .i64 (j : Nat))) acts c A F j) :
    ConE 51 (.agg (Nd.dvs ⟨6, fi, ei, gi, xx, yy⟩)) acts c A F i := by
  intro m n es err hM hI hE M w0 base K hK
  have hO := hM.okd.okm
  have hnn : m.n.toNat = n := by rw [hO.nn, Int.toNat_natCast]
  have hn64 := hO.n64
  have h64 := pow64_le hn64
  have hall : 2 ^ n - 1 < 2 ^ n := by have := Nat.two_pow_pos n; omega
  have hnd := hC.okl i _ hx
  have hmem : (⟨6, fi, ei, gi, xx, yy⟩ : Nd) ∈ c := List.mem_iff_getElem?.2 ⟨i, hx⟩
  have hkx := hnd.x rfl
  simp only at hkx
  obtain ⟨X, ex⟩ : ∃ q : Nat, xx = q := ⟨xx.toNat, by omega⟩
  subst ex
  have hlx : X < i := by omega
  have hky := hnd.y rfl
  simp only at hky
  obtain ⟨Y, ey⟩ : ∃ q : Nat, yy = q := ⟨yy.toNat, by omega⟩
  subst ey
  have hly : Y < i := by omega
  have hX := fun {M w0 L K} => @con_L _ _ _ _ _ _ _ (hat X hlx) rfl m n es err hM hI hE M w0 L K
  have hY := fun {s1 es1 er1} (p1 : PostE acts c m n X err s1 es1 er1) {M w0 L K} => @con_L _ _ _ _ _ _ _ (hat Y hly) rfl m n es1 er1 hM p1.inv p1.er M w0 L K
  have hop : (6 : Int) = 5 ∨ (6 : Int) = 6 ∨ (6 : Int) = 7 ∨ (6 : Int) = 8 := by decide
  have f1 : ((6 : Int) == 1) = false := rfl
  have f2 : ((6 : Int) == 2) = false := rfl
  have f3 : ((6 : Int) == 3) = false := rfl
  have f4 : ((6 : Int) == 4) = false := rfl
  have f5 : ((6 : Int) == 5) = false := rfl
  have f6 : ((6 : Int) == 6) = true := rfl
  have f7 : ((6 : Int) == 7) = false := rfl
  have f8 : ((6 : Int) == 8) = false := rfl
  have f9 : ((6 : Int) == 9) = false := rfl
  have f10 : ((6 : Int) == 10) = false := rfl
  have f11 : ((6 : Int) == 11) = false := rfl
  have f12 : ((6 : Int) == 12) = false := rfl
  have f13 : ((6 : Int) == 13) = false := rfl
  have f16 : ((6 : Int) == 16) = false := rfl
  refine DC.weaken (DC.intro mixed (fn := Tryz.f51) rfl rfl rfl ?_)
  (try conv=>whnf);repeat' (first|(apply And.intro<;>try conv=>whnf)|(intro h;first|with_reducible exact tf h (by assumption)|with_reducible exact tf (by assumption) h|try conv=>whnf)|fail)
  refine ⟨.one 0 (.one 3 (.one 4 (.one 5 (.one 7 (.three 1 (.three 2 (.two 6 (.one 8 (.one 9 (.one 10 (.one 11 (.one 12 .done))))) 8 (.two 6 (.one 9 (.one 10 (.one 11 (.one 12 .done)))) 9 (.one 6 (.one 10 (.one 11 (.one 12 .done)))))) 6 (.one 8 (.one 9 (.two 2 (.one 10 (.one 11 (.one 12 .done))) 10 (.one 2 (.one 11 (.one 12 .done)))))) 8 (.three 2 (.two 6 (.one 9 (.one 10 (.one 11 (.one 12 .done)))) 9 (.one 6 (.one 10 (.one 11 (.one 12 .done))))) 6 (.one 9 (.two 2 (.one 10 (.one 11 (.one 12 .done))) 10 (.one 2 (.one 11 (.one 12 .done))))) 9 (.two 2 (.one 6 (.one 10 (.one 11 (.one 12 .done)))) 6 (.two 2 (.one 10 (.one 11 (.one 12 .done))) 10 (.one 2 (.one 11 (.one 12 .done))))))) 6 (.one 8 (.one 9 (.two 1 (.two 2 (.one 10 (.one 11 (.one 12 .done))) 10 (.one 2 (.one 11 (.one 12 .done)))) 10 (.one 1 (.one 2 (.one 11 (.one 12 .done))))))) 8 (.three 1 (.three 2 (.two 6 (.one 9 (.one 10 (.one 11 (.one 12 .done)))) 9 (.one 6 (.one 10 (.one 11 (.one 12 .done))))) 6 (.one 9 (.two 2 (.one 10 (.one 11 (.one 12 .done))) 10 (.one 2 (.one 11 (.one 12 .done))))) 9 (.two 2 (.one 6 (.one 10 (.one 11 (.one 12 .done)))) 6 (.two 2 (.one 10 (.one 11 (.one 12 .done))) 10 (.one 2 (.one 11 (.one 12 .done)))))) 6 (.one 9 (.two 1 (.two 2 (.one 10 (.one 11 (.one 12 .done))) 10 (.one 2 (.one 11 (.one 12 .done)))) 10 (.one 1 (.one 2 (.one 11 (.one 12 .done)))))) 9 (.two 1 (.two 2 (.one 6 (.one 10 (.one 11 (.one 12 .done)))) 6 (.two 2 (.one 10 (.one 11 (.one 12 .done))) 10 (.one 2 (.one 11 (.one 12 .done))))) 6 (.two 1 (.two 2 (.one 10 (.one 11 (.one 12 .done))) 10 (.one 2 (.one 11 (.one 12 .done)))) 10 (.one 1 (.one 2 (.one 11 (.one 12 .done)))))))))))), [6, 10, 11], by kernel_rfl, ?_⟩
  (try conv=>whnf);repeat' (first|(apply And.intro<;>try conv=>whnf)|(refine hX rfl rfl rfl rfl rfl ?_;intro s1 es1 er1 p1;have q1 := lt64 hO p1;try conv=>whnf)|(refine hY p1 rfl rfl rfl rfl rfl ?_;intro s2 es2 er2 p2;have q2 := lt64 hO p2;try conv=>whnf)|(refine bool_L (es := es2) (err := er2) hop hM q1 q2 rfl rfl rfl rfl rfl ?_;try conv=>whnf)|fail)
  all_goals
    refine ⟨.pv (u64 (s1 ||| s2)), 3, H0 m acts c es2 er2, ?_, hK _ _ _ ?_⟩
    · (refine Wk.of ?_ ?_ rfl rfl rfl<;>repeat' (first|exact trivial|exact WkD.same _|exact WkO.same _ _ rfl|refine ⟨?_, ?_⟩|fail))
    · exact post2 hC.okl hO hx rfl rfl rfl rfl p1 p2 (Nat.or_lt_two_pow p1.lt p2.lt) rfl
theorem val_7 {acts : List Act} {c : List Nd} {A F i : Nat} {fi ei gi xx yy : Int} (hC : CxD A F acts c) (hx : c[i]? = some ⟨7, fi, ei, gi, xx, yy⟩) (hat : ∀ j, j < i → ConE 28 (.pv (.int .i64 (j : Nat))) acts c A F j) :
    ConE 51 (.agg (Nd.dvs ⟨7, fi, ei, gi, xx, yy⟩)) acts c A F i := by
  intro m n es err hM hI hE M w0 base K hK
  have hO := hM.okd.okm
  have hnn : m.n.toNat = n := by rw [hO.nn, Int.toNat_natCast]
  have hn64 := hO.n64
  have h64 := pow64_le hn64
  have hall : 2 ^ n - 1 < 2 ^ n := by have := Nat.two_pow_pos n; omega
  have hnd := hC.okl i _ hx
  have hmem : (⟨7, fi, ei, gi, xx, yy⟩ : Nd) ∈ c := List.mem_iff_getElem?.2 ⟨i, hx⟩
  have hkx := hnd.x rfl
  simp only at hkx
  obtain ⟨X, ex⟩ : ∃ q : Nat, xx = q := ⟨xx.toNat, by omega⟩
  subst ex
  have hlx : X < i := by omega
  have hky := hnd.y rfl
  simp only at hky
  obtain ⟨Y, ey⟩ : ∃ q : Nat, yy = q := ⟨yy.toNat, by omega⟩
  subst ey
  have hly : Y < i := by omega
  have hX := fun {M w0 L K} => @con_L _ _ _ _ _ _ _ (hat X hlx) rfl m n es err hM hI hE M w0 L K
  have hY := fun {s1 es1 er1} (p1 : PostE acts c m n X err s1 es1 er1) {M w0 L K} => @con_L _ _ _ _ _ _ _ (hat Y hly) rfl m n es1 er1 hM p1.inv p1.er M w0 L K
  have hop : (7 : Int) = 5 ∨ (7 : Int) = 6 ∨ (7 : Int) = 7 ∨ (7 : Int) = 8 := by decide
  have f1 : ((7 : Int) == 1) = false := rfl
  have f2 : ((7 : Int) == 2) = false := rfl
  have f3 : ((7 : Int) == 3) = false := rfl
  have f4 : ((7 : Int) == 4) = false := rfl
  have f5 : ((7 : Int) == 5) = false := rfl
  have f6 : ((7 : Int) == 6) = false := rfl
  have f7 : ((7 : Int) == 7) = true := rfl
  have f8 : ((7 : Int) == 8) = false := rfl
  have f9 : ((7 : Int) == 9) = false := rfl
  have f10 : ((7 : Int) == 10) = false := rfl
  have f11 : ((7 : Int) == 11) = false := rfl
  have f12 : ((7 : Int) == 12) = false := rfl
  have f13 : ((7 : Int) == 13) = false := rfl
  have f16 : ((7 : Int) == 16) = false := rfl
  refine DC.weaken (DC.intro mixed (fn := Tryz.f51) rfl rfl rfl ?_)
  (try conv=>whnf);repeat' (first|(apply And.intro<;>try conv=>whnf)|(intro h;first|with_reducible exact tf h (by assumption)|with_reducible exact tf (by assumption) h|try conv=>whnf)|fail)
  refine ⟨.one 0 (.one 3 (.one 4 (.one 5 (.one 7 (.three 1 (.three 2 (.two 6 (.one 8 (.one 9 (.one 10 (.one 11 (.one 12 .done))))) 8 (.two 6 (.one 9 (.one 10 (.one 11 (.one 12 .done)))) 9 (.one 6 (.one 10 (.one 11 (.one 12 .done)))))) 6 (.one 8 (.one 9 (.two 2 (.one 10 (.one 11 (.one 12 .done))) 10 (.one 2 (.one 11 (.one 12 .done)))))) 8 (.three 2 (.two 6 (.one 9 (.one 10 (.one 11 (.one 12 .done)))) 9 (.one 6 (.one 10 (.one 11 (.one 12 .done))))) 6 (.one 9 (.two 2 (.one 10 (.one 11 (.one 12 .done))) 10 (.one 2 (.one 11 (.one 12 .done))))) 9 (.two 2 (.one 6 (.one 10 (.one 11 (.one 12 .done)))) 6 (.two 2 (.one 10 (.one 11 (.one 12 .done))) 10 (.one 2 (.one 11 (.one 12 .done))))))) 6 (.one 8 (.one 9 (.two 1 (.two 2 (.one 10 (.one 11 (.one 12 .done))) 10 (.one 2 (.one 11 (.one 12 .done)))) 10 (.one 1 (.one 2 (.one 11 (.one 12 .done))))))) 8 (.three 1 (.three 2 (.two 6 (.one 9 (.one 10 (.one 11 (.one 12 .done)))) 9 (.one 6 (.one 10 (.one 11 (.one 12 .done))))) 6 (.one 9 (.two 2 (.one 10 (.one 11 (.one 12 .done))) 10 (.one 2 (.one 11 (.one 12 .done))))) 9 (.two 2 (.one 6 (.one 10 (.one 11 (.one 12 .done)))) 6 (.two 2 (.one 10 (.one 11 (.one 12 .done))) 10 (.one 2 (.one 11 (.one 12 .done)))))) 6 (.one 9 (.two 1 (.two 2 (.one 10 (.one 11 (.one 12 .done))) 10 (.one 2 (.one 11 (.one 12 .done)))) 10 (.one 1 (.one 2 (.one 11 (.one 12 .done)))))) 9 (.two 1 (.two 2 (.one 6 (.one 10 (.one 11 (.one 12 .done)))) 6 (.two 2 (.one 10 (.one 11 (.one 12 .done))) 10 (.one 2 (.one 11 (.one 12 .done))))) 6 (.two 1 (.two 2 (.one 10 (.one 11 (.one 12 .done))) 10 (.one 2 (.one 11 (.one 12 .done)))) 10 (.one 1 (.one 2 (.one 11 (.one 12 .done)))))))))))), [6, 10, 11], by kernel_rfl, ?_⟩
  (try conv=>whnf);repeat' (first|(apply And.intro<;>try conv=>whnf)|(refine hX rfl rfl rfl rfl rfl ?_;intro s1 es1 er1 p1;have q1 := lt64 hO p1;try conv=>whnf)|(refine hY p1 rfl rfl rfl rfl rfl ?_;intro s2 es2 er2 p2;have q2 := lt64 hO p2;try conv=>whnf)|(refine bool_L (es := es2) (err := er2) hop hM q1 q2 rfl rfl rfl rfl rfl ?_;try conv=>whnf)|fail)
  all_goals
    refine ⟨.pv (u64 (notN n s1 ||| s2)), 3, H0 m acts c es2 er2, ?_, hK _ _ _ ?_⟩
    · (refine Wk.of ?_ ?_ rfl rfl rfl<;>repeat' (first|exact trivial|exact WkD.same _|exact WkO.same _ _ rfl|refine ⟨?_, ?_⟩|fail))
    · exact post2 hC.okl hO hx rfl rfl rfl rfl p1 p2 (Nat.or_lt_two_pow (notN_lt _ _) p2.lt) rfl
theorem val_8 {acts : List Act} {c : List Nd} {A F i : Nat} {fi ei gi xx yy : Int} (hC : CxD A F acts c) (hx : c[i]? = some ⟨8, fi, ei, gi, xx, yy⟩) (hat : ∀ j, j < i → ConE 28 (.pv (.int .i64 (j : Nat))) acts c A F j) :
    ConE 51 (.agg (Nd.dvs ⟨8, fi, ei, gi, xx, yy⟩)) acts c A F i := by
  intro m n es err hM hI hE M w0 base K hK
  have hO := hM.okd.okm
  have hnn : m.n.toNat = n := by rw [hO.nn, Int.toNat_natCast]
  have hn64 := hO.n64
  have h64 := pow64_le hn64
  have hall : 2 ^ n - 1 < 2 ^ n := by have := Nat.two_pow_pos n; omega
  have hnd := hC.okl i _ hx
  have hmem : (⟨8, fi, ei, gi, xx, yy⟩ : Nd) ∈ c := List.mem_iff_getElem?.2 ⟨i, hx⟩
  have hkx := hnd.x rfl
  simp only at hkx
  obtain ⟨X, ex⟩ : ∃ q : Nat, xx = q := ⟨xx.toNat, by omega⟩
  subst ex
  have hlx : X < i := by omega
  have hky := hnd.y rfl
  simp only at hky
  obtain ⟨Y, ey⟩ : ∃ q : Nat, yy = q := ⟨yy.toNat, by omega⟩
  subst ey
  have hly : Y < i := by omega
  have hX := fun {M w0 L K} => @con_L _ _ _ _ _ _ _ (hat X hlx) rfl m n es err hM hI hE M w0 L K
  have hY := fun {s1 es1 er1} (p1 : PostE acts c m n X err s1 es1 er1) {M w0 L K} => @con_L _ _ _ _ _ _ _ (hat Y hly) rfl m n es1 er1 hM p1.inv p1.er M w0 L K
  have hop : (8 : Int) = 5 ∨ (8 : Int) = 6 ∨ (8 : Int) = 7 ∨ (8 : Int) = 8 := by decide
  have f1 : ((8 : Int) == 1) = false := rfl
  have f2 : ((8 : Int) == 2) = false := rfl
  have f3 : ((8 : Int) == 3) = false := rfl
  have f4 : ((8 : Int) == 4) = false := rfl
  have f5 : ((8 : Int) == 5) = false := rfl
  have f6 : ((8 : Int) == 6) = false := rfl
  have f7 : ((8 : Int) == 7) = false := rfl
  have f8 : ((8 : Int) == 8) = true := rfl
  have f9 : ((8 : Int) == 9) = false := rfl
  have f10 : ((8 : Int) == 10) = false := rfl
  have f11 : ((8 : Int) == 11) = false := rfl
  have f12 : ((8 : Int) == 12) = false := rfl
  have f13 : ((8 : Int) == 13) = false := rfl
  have f16 : ((8 : Int) == 16) = false := rfl
  refine DC.weaken (DC.intro mixed (fn := Tryz.f51) rfl rfl rfl ?_)
  (try conv=>whnf);repeat' (first|(apply And.intro<;>try conv=>whnf)|(intro h;first|with_reducible exact tf h (by assumption)|with_reducible exact tf (by assumption) h|try conv=>whnf)|fail)
  refine ⟨.one 0 (.one 3 (.one 4 (.one 5 (.one 7 (.three 1 (.three 2 (.two 6 (.one 8 (.one 9 (.one 10 (.one 11 (.one 12 .done))))) 8 (.two 6 (.one 9 (.one 10 (.one 11 (.one 12 .done)))) 9 (.one 6 (.one 10 (.one 11 (.one 12 .done)))))) 6 (.one 8 (.one 9 (.two 2 (.one 10 (.one 11 (.one 12 .done))) 10 (.one 2 (.one 11 (.one 12 .done)))))) 8 (.three 2 (.two 6 (.one 9 (.one 10 (.one 11 (.one 12 .done)))) 9 (.one 6 (.one 10 (.one 11 (.one 12 .done))))) 6 (.one 9 (.two 2 (.one 10 (.one 11 (.one 12 .done))) 10 (.one 2 (.one 11 (.one 12 .done))))) 9 (.two 2 (.one 6 (.one 10 (.one 11 (.one 12 .done)))) 6 (.two 2 (.one 10 (.one 11 (.one 12 .done))) 10 (.one 2 (.one 11 (.one 12 .done))))))) 6 (.one 8 (.one 9 (.two 1 (.two 2 (.one 10 (.one 11 (.one 12 .done))) 10 (.one 2 (.one 11 (.one 12 .done)))) 10 (.one 1 (.one 2 (.one 11 (.one 12 .done))))))) 8 (.three 1 (.three 2 (.two 6 (.one 9 (.one 10 (.one 11 (.one 12 .done)))) 9 (.one 6 (.one 10 (.one 11 (.one 12 .done))))) 6 (.one 9 (.two 2 (.one 10 (.one 11 (.one 12 .done))) 10 (.one 2 (.one 11 (.one 12 .done))))) 9 (.two 2 (.one 6 (.one 10 (.one 11 (.one 12 .done)))) 6 (.two 2 (.one 10 (.one 11 (.one 12 .done))) 10 (.one 2 (.one 11 (.one 12 .done)))))) 6 (.one 9 (.two 1 (.two 2 (.one 10 (.one 11 (.one 12 .done))) 10 (.one 2 (.one 11 (.one 12 .done)))) 10 (.one 1 (.one 2 (.one 11 (.one 12 .done)))))) 9 (.two 1 (.two 2 (.one 6 (.one 10 (.one 11 (.one 12 .done)))) 6 (.two 2 (.one 10 (.one 11 (.one 12 .done))) 10 (.one 2 (.one 11 (.one 12 .done))))) 6 (.two 1 (.two 2 (.one 10 (.one 11 (.one 12 .done))) 10 (.one 2 (.one 11 (.one 12 .done)))) 10 (.one 1 (.one 2 (.one 11 (.one 12 .done)))))))))))), [6, 10, 11], by kernel_rfl, ?_⟩
  (try conv=>whnf);repeat' (first|(apply And.intro<;>try conv=>whnf)|(refine hX rfl rfl rfl rfl rfl ?_;intro s1 es1 er1 p1;have q1 := lt64 hO p1;try conv=>whnf)|(refine hY p1 rfl rfl rfl rfl rfl ?_;intro s2 es2 er2 p2;have q2 := lt64 hO p2;try conv=>whnf)|(refine bool_L (es := es2) (err := er2) hop hM q1 q2 rfl rfl rfl rfl rfl ?_;try conv=>whnf)|fail)
  all_goals
    refine ⟨.pv (u64 (notN n (s1 ^^^ s2))), 3, H0 m acts c es2 er2, ?_, hK _ _ _ ?_⟩
    · (refine Wk.of ?_ ?_ rfl rfl rfl<;>repeat' (first|exact trivial|exact WkD.same _|exact WkO.same _ _ rfl|refine ⟨?_, ?_⟩|fail))
    · exact post2 hC.okl hO hx rfl rfl rfl rfl p1 p2 (notN_lt _ _) rfl
end Go.Proofs.YtjdmfhggokfflaaGreatDoor
set_option maxRecDepth 100000
set_option maxHeartbeats 16000000
namespace Go.Proofs.YtjdmfhggokfflaaGreatDoor
open Go Go.Dv

theorem val_9 {acts : List Act} {c : List Nd} {A F i : Nat} {fi ei gi xx yy : Int} (hC : CxD A F acts c) (hx : c[i]? = some ⟨9, fi, ei, gi, xx, yy⟩) (hat : ∀ j, j < i → ConE 28 (.pv (.int .i64 (j : Nat))) acts c A F j) :
    ConE 51 (.agg (Nd.dvs ⟨9, fi, ei, gi, xx, yy⟩)) acts c A F i := by
  intro m n es err hM hI hE M w0 base K hK
  have hO := hM.okd.okm
  have hnn : m.n.toNat = n := by rw [hO.nn, Int.toNat_natCast]
  have hn64 := hO.n64
  have h64 := pow64_le hn64
  have hall : 2 ^ n - 1 < 2 ^ n := by have := Nat.two_pow_pos n; omega
  have hnd := hC.okl i _ hx
  have hmem : (⟨9, fi, ei, gi, xx, yy⟩ : Nd) ∈ c := List.mem_iff_getElem?.2 ⟨i, hx⟩
  have hkx := hnd.x rfl
  simp only at hkx
  obtain ⟨X, ex⟩ : ∃ q : Nat, xx = q := ⟨xx.toNat, by omega⟩
  subst ex
  have hlx : X < i := by omega
  have hX := fun {M w0 L K} => @con_L _ _ _ _ _ _ _ (hat X hlx) rfl m n es err hM hI hE M w0 L K
  have hfi := (hnd.agent rfl).1
  simp only at hfi
  have hfA := hC.ag _ hmem (by first | exact .inl rfl | exact .inr rfl)
  simp only at hfA
  obtain ⟨q, eq⟩ : ∃ q : Nat, fi = q := ⟨fi.toNat, by omega⟩
  subst eq
  have hq : q < m.rel.length := by rw [hM.ra]; omega
  obtain ⟨r, hr, hrw⟩ : ∃ r, m.rel[q]? = some r ∧ m.rel.getD q [] = r := ⟨_, getD_mem hq, rfl⟩
  have hrm : r ∈ m.rel := List.mem_iff_getElem?.2 ⟨q, hr⟩
  have hB : ∀ s : Nat, s < 2 ^ 64 → PureFn Tryz.prog 69 [rowPV r, u64 s] (u64 (boxN n r s)) := fun s hs => rl_Box n r _ hn64 (hO.rows r hrm) (hO.bits r hrm) hs
  have f1 : ((9 : Int) == 1) = false := rfl
  have f2 : ((9 : Int) == 2) = false := rfl
  have f3 : ((9 : Int) == 3) = false := rfl
  have f4 : ((9 : Int) == 4) = false := rfl
  have f5 : ((9 : Int) == 5) = false := rfl
  have f6 : ((9 : Int) == 6) = false := rfl
  have f7 : ((9 : Int) == 7) = false := rfl
  have f8 : ((9 : Int) == 8) = false := rfl
  have f9 : ((9 : Int) == 9) = true := rfl
  have f10 : ((9 : Int) == 10) = false := rfl
  have f11 : ((9 : Int) == 11) = false := rfl
  have f12 : ((9 : Int) == 12) = false := rfl
  have f13 : ((9 : Int) == 13) = false := rfl
  have f16 : ((9 : Int) == 16) = false := rfl
  refine DC.weaken (DC.intro mixed (fn := Tryz.f51) rfl rfl rfl ?_)
  (try conv=>whnf);repeat' (first|(apply And.intro<;>try conv=>whnf)|(intro h;first|with_reducible exact tf h (by assumption)|with_reducible exact tf (by assumption) h|try conv=>whnf)|fail)
  refine ⟨.one 0 (.one 9 (.one 10 (.one 11 (.three 1 (.three 2 (.three 3 (.three 4 (.two 5 (.two 6 (.two 7 (.two 8 (.one 12 (.one 13 (.one 14 .done))) 12 (.one 8 (.one 13 (.one 14 .done)))) 12 (.one 7 (.one 8 (.one 13 (.one 14 .done))))) 12 (.one 6 (.one 7 (.one 8 (.one 13 (.one 14 .done)))))) 12 (.one 5 (.one 6 (.one 7 (.one 8 (.one 13 (.one 14 .done))))))) 5 (.three 4 (.two 6 (.two 7 (.two 8 (.one 12 (.one 13 (.one 14 .done))) 12 (.one 8 (.one 13 (.one 14 .done)))) 12 (.one 7 (.one 8 (.one 13 (.one 14 .done))))) 12 (.one 6 (.one 7 (.one 8 (.one 13 (.one 14 .done)))))) 6 (.two 4 (.two 7 (.two 8 (.one 12 (.one 13 (.one 14 .done))) 12 (.one 8 (.one 13 (.one 14 .done)))) 12 (.one 7 (.one 8 (.one 13 (.one 14 .done))))) 12 (.one 4 (.one 7 (.one 8 (.one 13 (.one 14 .done)))))) 12 (.one 4 (.one 6 (.one 7 (.one 8 (.one 13 (.one 14 .done))))))) 12 (.one 4 (.one 5 (.one 6 (.one 7 (.one 8 (.one 13 (.one 14 .done)))))))) 5 (.three 3 (.three 4 (.two 6 (.two 7 (.two 8 (.one 12 (.one 13 (.one 14 .done))) 12 (.one 8 (.one 13 (.one 14 .done)))) 12 (.one 7 (.one 8 (.one 13 (.one 14 .done))))) 12 (.one 6 (.one 7 (.one 8 (.one 13 (.one 14 .done)))))) 6 (.two 4 (.two 7 (.two 8 (.one 12 (.one 13 (.one 14 .done))) 12 (.one 8 (.one 13 (.one 14 .done)))) 12 (.one 7 (.one 8 (.one 13 (.one 14 .done))))) 12 (.one 4 (.one 7 (.one 8 (.one 13 (.one 14 .done)))))) 12 (.one 4 (.one 6 (.one 7 (.one 8 (.one 13 (.one 14 .done))))))) 6 (.two 3 (.two 4 (.two 7 (.two 8 (.one 12 (.one 13 (.one 14 .done))) 12 (.one 8 (.one 13 (.one 14 .done)))) 12 (.one 7 (.one 8 (.one 13 (.one 14 .done))))) 12 (.one 4 (.one 7 (.one 8 (.one 13 (.one 14 .done)))))) 12 (.one 3 (.one 4 (.one 7 (.one 8 (.one 13 (.one 14 .done))))))) 12 (.one 3 (.one 4 (.one 6 (.one 7 (.one 8 (.one 13 (.one 14 .done)))))))) 12 (.one 3 (.one 4 (.one 5 (.one 6 (.one 7 (.one 8 (.one 13 (.one 14 .done))))))))) 5 (.three 2 (.three 3 (.three 4 (.two 6 (.two 7 (.two 8 (.one 12 (.one 13 (.one 14 .done))) 12 (.one 8 (.one 13 (.one 14 .done)))) 12 (.one 7 (.one 8 (.one 13 (.one 14 .done))))) 12 (.one 6 (.one 7 (.one 8 (.one 13 (.one 14 .done)))))) 6 (.two 4 (.two 7 (.two 8 (.one 12 (.one 13 (.one 14 .done))) 12 (.one 8 (.one 13 (.one 14 .done)))) 12 (.one 7 (.one 8 (.one 13 (.one 14 .done))))) 12 (.one 4 (.one 7 (.one 8 (.one 13 (.one 14 .done)))))) 12 (.one 4 (.one 6 (.one 7 (.one 8 (.one 13 (.one 14 .done))))))) 6 (.two 3 (.two 4 (.two 7 (.two 8 (.one 12 (.one 13 (.one 14 .done))) 12 (.one 8 (.one 13 (.one 14 .done)))) 12 (.one 7 (.one 8 (.one 13 (.one 14 .done))))) 12 (.one 4 (.one 7 (.one 8 (.one 13 (.one 14 .done)))))) 12 (.one 3 (.one 4 (.one 7 (.one 8 (.one 13 (.one 14 .done))))))) 12 (.one 3 (.one 4 (.one 6 (.one 7 (.one 8 (.one 13 (.one 14 .done)))))))) 6 (.two 2 (.two 3 (.two 4 (.two 7 (.two 8 (.one 12 (.one 13 (.one 14 .done))) 12 (.one 8 (.one 13 (.one 14 .done)))) 12 (.one 7 (.one 8 (.one 13 (.one 14 .done))))) 12 (.one 4 (.one 7 (.one 8 (.one 13 (.one 14 .done)))))) 12 (.one 3 (.one 4 (.one 7 (.one 8 (.one 13 (.one 14 .done))))))) 12 (.one 2 (.one 3 (.one 4 (.one 7 (.one 8 (.one 13 (.one 14 .done)))))))) 12 (.one 2 (.one 3 (.one 4 (.one 6 (.one 7 (.one 8 (.one 13 (.one 14 .done))))))))) 12 (.one 2 (.one 3 (.one 4 (.one 5 (.one 6 (.one 7 (.one 8 (.one 13 (.one 14 .done)))))))))) 5 (.three 1 (.three 2 (.three 3 (.three 4 (.two 6 (.two 7 (.two 8 (.one 12 (.one 13 (.one 14 .done))) 12 (.one 8 (.one 13 (.one 14 .done)))) 12 (.one 7 (.one 8 (.one 13 (.one 14 .done))))) 12 (.one 6 (.one 7 (.one 8 (.one 13 (.one 14 .done)))))) 6 (.two 4 (.two 7 (.two 8 (.one 12 (.one 13 (.one 14 .done))) 12 (.one 8 (.one 13 (.one 14 .done)))) 12 (.one 7 (.one 8 (.one 13 (.one 14 .done))))) 12 (.one 4 (.one 7 (.one 8 (.one 13 (.one 14 .done)))))) 12 (.one 4 (.one 6 (.one 7 (.one 8 (.one 13 (.one 14 .done))))))) 6 (.two 3 (.two 4 (.two 7 (.two 8 (.one 12 (.one 13 (.one 14 .done))) 12 (.one 8 (.one 13 (.one 14 .done)))) 12 (.one 7 (.one 8 (.one 13 (.one 14 .done))))) 12 (.one 4 (.one 7 (.one 8 (.one 13 (.one 14 .done)))))) 12 (.one 3 (.one 4 (.one 7 (.one 8 (.one 13 (.one 14 .done))))))) 12 (.one 3 (.one 4 (.one 6 (.one 7 (.one 8 (.one 13 (.one 14 .done)))))))) 6 (.two 2 (.two 3 (.two 4 (.two 7 (.two 8 (.one 12 (.one 13 (.one 14 .done))) 12 (.one 8 (.one 13 (.one 14 .done)))) 12 (.one 7 (.one 8 (.one 13 (.one 14 .done))))) 12 (.one 4 (.one 7 (.one 8 (.one 13 (.one 14 .done)))))) 12 (.one 3 (.one 4 (.one 7 (.one 8 (.one 13 (.one 14 .done))))))) 12 (.one 2 (.one 3 (.one 4 (.one 7 (.one 8 (.one 13 (.one 14 .done)))))))) 12 (.one 2 (.one 3 (.one 4 (.one 6 (.one 7 (.one 8 (.one 13 (.one 14 .done))))))))) 6 (.two 1 (.two 2 (.two 3 (.two 4 (.two 7 (.two 8 (.one 12 (.one 13 (.one 14 .done))) 12 (.one 8 (.one 13 (.one 14 .done)))) 12 (.one 7 (.one 8 (.one 13 (.one 14 .done))))) 12 (.one 4 (.one 7 (.one 8 (.one 13 (.one 14 .done)))))) 12 (.one 3 (.one 4 (.one 7 (.one 8 (.one 13 (.one 14 .done))))))) 12 (.one 2 (.one 3 (.one 4 (.one 7 (.one 8 (.one 13 (.one 14 .done)))))))) 12 (.one 1 (.one 2 (.one 3 (.one 4 (.one 7 (.one 8 (.one 13 (.one 14 .done))))))))) 12 (.one 1 (.one 2 (.one 3 (.one 4 (.one 6 (.one 7 (.one 8 (.one 13 (.one 14 .done)))))))))) 12 (.one 1 (.one 2 (.one 3 (.one 4 (.one 5 (.one 6 (.one 7 (.one 8 (.one 13 (.one 14 .done)))))))))))))), [12], by kernel_rfl, ?_⟩
  (try conv=>whnf);repeat' (first|(apply And.intro<;>try conv=>whnf)|(apply infoT;rfl)|(refine ⟨_, _, rfl, idx_map (by with_reducible assumption), rfl, ?_⟩;try conv=>whnf)|(refine hX rfl rfl rfl rfl rfl ?_;intro s1 es1 er1 p1;have q1 := lt64 hO p1;try conv=>whnf)|(refine ⟨u64 (boxN n r s1), ?_, rfl, ?_⟩;(focus ((try conv=>whnf);exact hB _ q1));try conv=>whnf)|fail)
  all_goals
    refine ⟨.pv (u64 (boxN n r s1)), 3, H0 m acts c es1 er1, ?_, hK _ _ _ ?_⟩
    · (refine Wk.of ?_ ?_ rfl rfl rfl<;>repeat' (first|exact trivial|exact WkD.same _|exact WkO.same _ _ rfl|refine ⟨?_, ?_⟩|fail))
    · exact post1 hC.okl hO hx rfl rfl rfl rfl p1 (boxN_lt _ _ _) (by rw [← hrw]; rfl)
theorem val_10 {acts : List Act} {c : List Nd} {A F i : Nat} {fi ei gi xx yy : Int} (hC : CxD A F acts c) (hx : c[i]? = some ⟨10, fi, ei, gi, xx, yy⟩) (hat : ∀ j, j < i → ConE 28 (.pv (.int .i64 (j : Nat))) acts c A F j) :
    ConE 51 (.agg (Nd.dvs ⟨10, fi, ei, gi, xx, yy⟩)) acts c A F i := by
  intro m n es err hM hI hE M w0 base K hK
  have hO := hM.okd.okm
  have hnn : m.n.toNat = n := by rw [hO.nn, Int.toNat_natCast]
  have hn64 := hO.n64
  have h64 := pow64_le hn64
  have hall : 2 ^ n - 1 < 2 ^ n := by have := Nat.two_pow_pos n; omega
  have hnd := hC.okl i _ hx
  have hmem : (⟨10, fi, ei, gi, xx, yy⟩ : Nd) ∈ c := List.mem_iff_getElem?.2 ⟨i, hx⟩
  have hkx := hnd.x rfl
  simp only at hkx
  obtain ⟨X, ex⟩ : ∃ q : Nat, xx = q := ⟨xx.toNat, by omega⟩
  subst ex
  have hlx : X < i := by omega
  have hX := fun {M w0 L K} => @con_L _ _ _ _ _ _ _ (hat X hlx) rfl m n es err hM hI hE M w0 L K
  have hfi := (hnd.agent rfl).1
  simp only at hfi
  have hfA := hC.ag _ hmem (by first | exact .inl rfl | exact .inr rfl)
  simp only at hfA
  obtain ⟨q, eq⟩ : ∃ q : Nat, fi = q := ⟨fi.toNat, by omega⟩
  subst eq
  have hq : q < m.rel.length := by rw [hM.ra]; omega
  obtain ⟨r, hr, hrw⟩ : ∃ r, m.rel[q]? = some r ∧ m.rel.getD q [] = r := ⟨_, getD_mem hq, rfl⟩
  have hrm : r ∈ m.rel := List.mem_iff_getElem?.2 ⟨q, hr⟩
  have hB : ∀ s : Nat, s < 2 ^ 64 → PureFn Tryz.prog 70 [rowPV r, u64 s] (u64 (diaN n r s)) := fun s hs => rl_Diamond n r _ hn64 (hO.rows r hrm) (hO.bits r hrm) hs
  have f1 : ((10 : Int) == 1) = false := rfl
  have f2 : ((10 : Int) == 2) = false := rfl
  have f3 : ((10 : Int) == 3) = false := rfl
  have f4 : ((10 : Int) == 4) = false := rfl
  have f5 : ((10 : Int) == 5) = false := rfl
  have f6 : ((10 : Int) == 6) = false := rfl
  have f7 : ((10 : Int) == 7) = false := rfl
  have f8 : ((10 : Int) == 8) = false := rfl
  have f9 : ((10 : Int) == 9) = false := rfl
  have f10 : ((10 : Int) == 10) = true := rfl
  have f11 : ((10 : Int) == 11) = false := rfl
  have f12 : ((10 : Int) == 12) = false := rfl
  have f13 : ((10 : Int) == 13) = false := rfl
  have f16 : ((10 : Int) == 16) = false := rfl
  refine DC.weaken (DC.intro mixed (fn := Tryz.f51) rfl rfl rfl ?_)
  (try conv=>whnf);repeat' (first|(apply And.intro<;>try conv=>whnf)|(intro h;first|with_reducible exact tf h (by assumption)|with_reducible exact tf (by assumption) h|try conv=>whnf)|fail)
  refine ⟨.one 0 (.one 9 (.one 10 (.one 11 (.three 1 (.three 2 (.three 3 (.three 4 (.two 5 (.two 6 (.two 7 (.two 8 (.one 12 (.one 13 (.one 14 .done))) 12 (.one 8 (.one 13 (.one 14 .done)))) 12 (.one 7 (.one 8 (.one 13 (.one 14 .done))))) 12 (.one 6 (.one 7 (.one 8 (.one 13 (.one 14 .done)))))) 12 (.one 5 (.one 6 (.one 7 (.one 8 (.one 13 (.one 14 .done))))))) 5 (.three 4 (.two 6 (.two 7 (.two 8 (.one 12 (.one 13 (.one 14 .done))) 12 (.one 8 (.one 13 (.one 14 .done)))) 12 (.one 7 (.one 8 (.one 13 (.one 14 .done))))) 12 (.one 6 (.one 7 (.one 8 (.one 13 (.one 14 .done)))))) 6 (.two 4 (.two 7 (.two 8 (.one 12 (.one 13 (.one 14 .done))) 12 (.one 8 (.one 13 (.one 14 .done)))) 12 (.one 7 (.one 8 (.one 13 (.one 14 .done))))) 12 (.one 4 (.one 7 (.one 8 (.one 13 (.one 14 .done)))))) 12 (.one 4 (.one 6 (.one 7 (.one 8 (.one 13 (.one 14 .done))))))) 12 (.one 4 (.one 5 (.one 6 (.one 7 (.one 8 (.one 13 (.one 14 .done)))))))) 5 (.three 3 (.three 4 (.two 6 (.two 7 (.two 8 (.one 12 (.one 13 (.one 14 .done))) 12 (.one 8 (.one 13 (.one 14 .done)))) 12 (.one 7 (.one 8 (.one 13 (.one 14 .done))))) 12 (.one 6 (.one 7 (.one 8 (.one 13 (.one 14 .done)))))) 6 (.two 4 (.two 7 (.two 8 (.one 12 (.one 13 (.one 14 .done))) 12 (.one 8 (.one 13 (.one 14 .done)))) 12 (.one 7 (.one 8 (.one 13 (.one 14 .done))))) 12 (.one 4 (.one 7 (.one 8 (.one 13 (.one 14 .done)))))) 12 (.one 4 (.one 6 (.one 7 (.one 8 (.one 13 (.one 14 .done))))))) 6 (.two 3 (.two 4 (.two 7 (.two 8 (.one 12 (.one 13 (.one 14 .done))) 12 (.one 8 (.one 13 (.one 14 .done)))) 12 (.one 7 (.one 8 (.one 13 (.one 14 .done))))) 12 (.one 4 (.one 7 (.one 8 (.one 13 (.one 14 .done)))))) 12 (.one 3 (.one 4 (.one 7 (.one 8 (.one 13 (.one 14 .done))))))) 12 (.one 3 (.one 4 (.one 6 (.one 7 (.one 8 (.one 13 (.one 14 .done)))))))) 12 (.one 3 (.one 4 (.one 5 (.one 6 (.one 7 (.one 8 (.one 13 (.one 14 .done))))))))) 5 (.three 2 (.three 3 (.three 4 (.two 6 (.two 7 (.two 8 (.one 12 (.one 13 (.one 14 .done))) 12 (.one 8 (.one 13 (.one 14 .done)))) 12 (.one 7 (.one 8 (.one 13 (.one 14 .done))))) 12 (.one 6 (.one 7 (.one 8 (.one 13 (.one 14 .done)))))) 6 (.two 4 (.two 7 (.two 8 (.one 12 (.one 13 (.one 14 .done))) 12 (.one 8 (.one 13 (.one 14 .done)))) 12 (.one 7 (.one 8 (.one 13 (.one 14 .done))))) 12 (.one 4 (.one 7 (.one 8 (.one 13 (.one 14 .done)))))) 12 (.one 4 (.one 6 (.one 7 (.one 8 (.one 13 (.one 14 .done))))))) 6 (.two 3 (.two 4 (.two 7 (.two 8 (.one 12 (.one 13 (.one 14 .done))) 12 (.one 8 (.one 13 (.one 14 .done)))) 12 (.one 7 (.one 8 (.one 13 (.one 14 .done))))) 12 (.one 4 (.one 7 (.one 8 (.one 13 (.one 14 .done)))))) 12 (.one 3 (.one 4 (.one 7 (.one 8 (.one 13 (.one 14 .done))))))) 12 (.one 3 (.one 4 (.one 6 (.one 7 (.one 8 (.one 13 (.one 14 .done)))))))) 6 (.two 2 (.two 3 (.two 4 (.two 7 (.two 8 (.one 12 (.one 13 (.one 14 .done))) 12 (.one 8 (.one 13 (.one 14 .done)))) 12 (.one 7 (.one 8 (.one 13 (.one 14 .done))))) 12 (.one 4 (.one 7 (.one 8 (.one 13 (.one 14 .done)))))) 12 (.one 3 (.one 4 (.one 7 (.one 8 (.one 13 (.one 14 .done))))))) 12 (.one 2 (.one 3 (.one 4 (.one 7 (.one 8 (.one 13 (.one 14 .done)))))))) 12 (.one 2 (.one 3 (.one 4 (.one 6 (.one 7 (.one 8 (.one 13 (.one 14 .done))))))))) 12 (.one 2 (.one 3 (.one 4 (.one 5 (.one 6 (.one 7 (.one 8 (.one 13 (.one 14 .done)))))))))) 5 (.three 1 (.three 2 (.three 3 (.three 4 (.two 6 (.two 7 (.two 8 (.one 12 (.one 13 (.one 14 .done))) 12 (.one 8 (.one 13 (.one 14 .done)))) 12 (.one 7 (.one 8 (.one 13 (.one 14 .done))))) 12 (.one 6 (.one 7 (.one 8 (.one 13 (.one 14 .done)))))) 6 (.two 4 (.two 7 (.two 8 (.one 12 (.one 13 (.one 14 .done))) 12 (.one 8 (.one 13 (.one 14 .done)))) 12 (.one 7 (.one 8 (.one 13 (.one 14 .done))))) 12 (.one 4 (.one 7 (.one 8 (.one 13 (.one 14 .done)))))) 12 (.one 4 (.one 6 (.one 7 (.one 8 (.one 13 (.one 14 .done))))))) 6 (.two 3 (.two 4 (.two 7 (.two 8 (.one 12 (.one 13 (.one 14 .done))) 12 (.one 8 (.one 13 (.one 14 .done)))) 12 (.one 7 (.one 8 (.one 13 (.one 14 .done))))) 12 (.one 4 (.one 7 (.one 8 (.one 13 (.one 14 .done)))))) 12 (.one 3 (.one 4 (.one 7 (.one 8 (.one 13 (.one 14 .done))))))) 12 (.one 3 (.one 4 (.one 6 (.one 7 (.one 8 (.one 13 (.one 14 .done)))))))) 6 (.two 2 (.two 3 (.two 4 (.two 7 (.two 8 (.one 12 (.one 13 (.one 14 .done))) 12 (.one 8 (.one 13 (.one 14 .done)))) 12 (.one 7 (.one 8 (.one 13 (.one 14 .done))))) 12 (.one 4 (.one 7 (.one 8 (.one 13 (.one 14 .done)))))) 12 (.one 3 (.one 4 (.one 7 (.one 8 (.one 13 (.one 14 .done))))))) 12 (.one 2 (.one 3 (.one 4 (.one 7 (.one 8 (.one 13 (.one 14 .done)))))))) 12 (.one 2 (.one 3 (.one 4 (.one 6 (.one 7 (.one 8 (.one 13 (.one 14 .done))))))))) 6 (.two 1 (.two 2 (.two 3 (.two 4 (.two 7 (.two 8 (.one 12 (.one 13 (.one 14 .done))) 12 (.one 8 (.one 13 (.one 14 .done)))) 12 (.one 7 (.one 8 (.one 13 (.one 14 .done))))) 12 (.one 4 (.one 7 (.one 8 (.one 13 (.one 14 .done)))))) 12 (.one 3 (.one 4 (.one 7 (.one 8 (.one 13 (.one 14 .done))))))) 12 (.one 2 (.one 3 (.one 4 (.one 7 (.one 8 (.one 13 (.one 14 .done)))))))) 12 (.one 1 (.one 2 (.one 3 (.one 4 (.one 7 (.one 8 (.one 13 (.one 14 .done))))))))) 12 (.one 1 (.one 2 (.one 3 (.one 4 (.one 6 (.one 7 (.one 8 (.one 13 (.one 14 .done)))))))))) 12 (.one 1 (.one 2 (.one 3 (.one 4 (.one 5 (.one 6 (.one 7 (.one 8 (.one 13 (.one 14 .done)))))))))))))), [12], by kernel_rfl, ?_⟩
  (try conv=>whnf);repeat' (first|(apply And.intro<;>try conv=>whnf)|(apply infoT;rfl)|(refine ⟨_, _, rfl, idx_map (by with_reducible assumption), rfl, ?_⟩;try conv=>whnf)|(refine hX rfl rfl rfl rfl rfl ?_;intro s1 es1 er1 p1;have q1 := lt64 hO p1;try conv=>whnf)|(refine ⟨u64 (diaN n r s1), ?_, rfl, ?_⟩;(focus ((try conv=>whnf);exact hB _ q1));try conv=>whnf)|fail)
  all_goals
    refine ⟨.pv (u64 (diaN n r s1)), 3, H0 m acts c es1 er1, ?_, hK _ _ _ ?_⟩
    · (refine Wk.of ?_ ?_ rfl rfl rfl<;>repeat' (first|exact trivial|exact WkD.same _|exact WkO.same _ _ rfl|refine ⟨?_, ?_⟩|fail))
    · exact post1 hC.okl hO hx rfl rfl rfl rfl p1 (diaN_lt _ _ _) (by rw [← hrw]; rfl)
theorem val_11 {acts : List Act} {c : List Nd} {A F i : Nat} {fi ei gi xx yy : Int} (hC : CxD A F acts c) (hx : c[i]? = some ⟨11, fi, ei, gi, xx, yy⟩) (hat : ∀ j, j < i → ConE 28 (.pv (.int .i64 (j : Nat))) acts c A F j) :
    ConE 51 (.agg (Nd.dvs ⟨11, fi, ei, gi, xx, yy⟩)) acts c A F i := by
  intro m n es err hM hI hE M w0 base K hK
  have hO := hM.okd.okm
  have hnn : m.n.toNat = n := by rw [hO.nn, Int.toNat_natCast]
  have hn64 := hO.n64
  have h64 := pow64_le hn64
  have hall : 2 ^ n - 1 < 2 ^ n := by have := Nat.two_pow_pos n; omega
  have hnd := hC.okl i _ hx
  have hmem : (⟨11, fi, ei, gi, xx, yy⟩ : Nd) ∈ c := List.mem_iff_getElem?.2 ⟨i, hx⟩
  have hkx := hnd.x rfl
  simp only at hkx
  obtain ⟨X, ex⟩ : ∃ q : Nat, xx = q := ⟨xx.toNat, by omega⟩
  subst ex
  have hlx : X < i := by omega
  have hX := fun {M w0 L K} => @con_L _ _ _ _ _ _ _ (hat X hlx) rfl m n es err hM hI hE M w0 L K
  have hgr := hC.gr _ hmem (by first | exact .inl rfl | exact .inr (.inl rfl) | exact .inr (.inr rfl))
  simp only at hgr
  have hg1 := hgr.1
  have hg2 : gi < shl64 1 (m.rel.length : Int) := by rw [hM.ra]; exact hgr.2
  have hG := md_Group m n hO gi
  have hgf := grp_facts (g := gi) hO (orF_lt n) (Nat.two_pow_pos n) hg1 hg2
  obtain ⟨G, hGe⟩ : ∃ G, G = grpM orF m gi 0 := ⟨_, rfl⟩
  rw [← hGe] at hG hgf
  have hB : ∀ s : Nat, s < 2 ^ 64 → PureFn Tryz.prog 69 [rowPV G, u64 s] (u64 (boxN n G s)) := fun s hs => rl_Box n G _ hn64 hgf.1 hgf.2 hs
  have f1 : ((11 : Int) == 1) = false := rfl
  have f2 : ((11 : Int) == 2) = false := rfl
  have f3 : ((11 : Int) == 3) = false := rfl
  have f4 : ((11 : Int) == 4) = false := rfl
  have f5 : ((11 : Int) == 5) = false := rfl
  have f6 : ((11 : Int) == 6) = false := rfl
  have f7 : ((11 : Int) == 7) = false := rfl
  have f8 : ((11 : Int) == 8) = false := rfl
  have f9 : ((11 : Int) == 9) = false := rfl
  have f10 : ((11 : Int) == 10) = false := rfl
  have f11 : ((11 : Int) == 11) = true := rfl
  have f12 : ((11 : Int) == 12) = false := rfl
  have f13 : ((11 : Int) == 13) = false := rfl
  have f16 : ((11 : Int) == 16) = false := rfl
  refine DC.weaken (DC.intro mixed (fn := Tryz.f51) rfl rfl rfl ?_)
  (try conv=>whnf);repeat' (first|(apply And.intro<;>try conv=>whnf)|(intro h;first|with_reducible exact tf h (by assumption)|with_reducible exact tf (by assumption) h|try conv=>whnf)|fail)
  refine ⟨.one 0 (.one 1 (.one 2 (.one 3 (.one 4 (.one 5 (.one 6 (.one 7 (.one 8 (.one 9 (.one 10 (.one 11 (.one 12 .done)))))))))))), [10], by kernel_rfl, ?_⟩
  (try conv=>whnf);repeat' (first|(refine hX rfl rfl rfl rfl rfl ?_;intro s1 es1 er1 p1;have q1 := lt64 hO p1;try conv=>whnf)|(refine ⟨rowPV G, ?_, rfl, ?_⟩;(focus ((try conv=>whnf);exact hG));try conv=>whnf)|(refine ⟨u64 (boxN n G s1), ?_, rfl, ?_⟩;(focus ((try conv=>whnf);exact hB _ q1));try conv=>whnf)|fail)
  all_goals
    refine ⟨.pv (u64 (boxN n G s1)), 3, H0 m acts c es1 er1, ?_, hK _ _ _ ?_⟩
    · (refine Wk.of ?_ ?_ rfl rfl rfl<;>repeat' (first|exact trivial|exact WkD.same _|exact WkO.same _ _ rfl|refine ⟨?_, ?_⟩|fail))
    · exact post1 hC.okl hO hx rfl rfl rfl rfl p1 (boxN_lt _ _ _) (by rw [hGe]; rfl)
theorem val_12 {acts : List Act} {c : List Nd} {A F i : Nat} {fi ei gi xx yy : Int} (hC : CxD A F acts c) (hx : c[i]? = some ⟨12, fi, ei, gi, xx, yy⟩) (hat : ∀ j, j < i → ConE 28 (.pv (.int .i64 (j : Nat))) acts c A F j) :
    ConE 51 (.agg (Nd.dvs ⟨12, fi, ei, gi, xx, yy⟩)) acts c A F i := by
  intro m n es err hM hI hE M w0 base K hK
  have hO := hM.okd.okm
  have hnn : m.n.toNat = n := by rw [hO.nn, Int.toNat_natCast]
  have hn64 := hO.n64
  have h64 := pow64_le hn64
  have hall : 2 ^ n - 1 < 2 ^ n := by have := Nat.two_pow_pos n; omega
  have hnd := hC.okl i _ hx
  have hmem : (⟨12, fi, ei, gi, xx, yy⟩ : Nd) ∈ c := List.mem_iff_getElem?.2 ⟨i, hx⟩
  have hkx := hnd.x rfl
  simp only at hkx
  obtain ⟨X, ex⟩ : ∃ q : Nat, xx = q := ⟨xx.toNat, by omega⟩
  subst ex
  have hlx : X < i := by omega
  have hX := fun {M w0 L K} => @con_L _ _ _ _ _ _ _ (hat X hlx) rfl m n es err hM hI hE M w0 L K
  have hgr := hC.gr _ hmem (by first | exact .inl rfl | exact .inr (.inl rfl) | exact .inr (.inr rfl))
  simp only at hgr
  have hg1 := hgr.1
  have hg2 : gi < shl64 1 (m.rel.length : Int) := by rw [hM.ra]; exact hgr.2
  have hG := md_Meet m n hO gi
  have hgf := grp_facts (g := gi) hO (andF_lt n) hall hg1 hg2
  obtain ⟨G, hGe⟩ : ∃ G, G = grpM andF m gi (2 ^ n - 1) := ⟨_, rfl⟩
  rw [← hGe] at hG hgf
  have hB : ∀ s : Nat, s < 2 ^ 64 → PureFn Tryz.prog 69 [rowPV G, u64 s] (u64 (boxN n G s)) := fun s hs => rl_Box n G _ hn64 hgf.1 hgf.2 hs
  have f1 : ((12 : Int) == 1) = false := rfl
  have f2 : ((12 : Int) == 2) = false := rfl
  have f3 : ((12 : Int) == 3) = false := rfl
  have f4 : ((12 : Int) == 4) = false := rfl
  have f5 : ((12 : Int) == 5) = false := rfl
  have f6 : ((12 : Int) == 6) = false := rfl
  have f7 : ((12 : Int) == 7) = false := rfl
  have f8 : ((12 : Int) == 8) = false := rfl
  have f9 : ((12 : Int) == 9) = false := rfl
  have f10 : ((12 : Int) == 10) = false := rfl
  have f11 : ((12 : Int) == 11) = false := rfl
  have f12 : ((12 : Int) == 12) = true := rfl
  have f13 : ((12 : Int) == 13) = false := rfl
  have f16 : ((12 : Int) == 16) = false := rfl
  refine DC.weaken (DC.intro mixed (fn := Tryz.f51) rfl rfl rfl ?_)
  (try conv=>whnf);repeat' (first|(apply And.intro<;>try conv=>whnf)|(intro h;first|with_reducible exact tf h (by assumption)|with_reducible exact tf (by assumption) h|try conv=>whnf)|fail)
  refine ⟨.one 0 (.one 1 (.one 2 (.one 3 (.one 4 (.one 5 (.one 6 (.one 7 (.one 8 (.one 9 (.one 10 (.one 11 (.one 12 .done)))))))))))), [10], by kernel_rfl, ?_⟩
  (try conv=>whnf);repeat' (first|(refine hX rfl rfl rfl rfl rfl ?_;intro s1 es1 er1 p1;have q1 := lt64 hO p1;try conv=>whnf)|(refine ⟨rowPV G, ?_, rfl, ?_⟩;(focus ((try conv=>whnf);exact hG));try conv=>whnf)|(refine ⟨u64 (boxN n G s1), ?_, rfl, ?_⟩;(focus ((try conv=>whnf);exact hB _ q1));try conv=>whnf)|fail)
  all_goals
    refine ⟨.pv (u64 (boxN n G s1)), 3, H0 m acts c es1 er1, ?_, hK _ _ _ ?_⟩
    · (refine Wk.of ?_ ?_ rfl rfl rfl<;>repeat' (first|exact trivial|exact WkD.same _|exact WkO.same _ _ rfl|refine ⟨?_, ?_⟩|fail))
    · exact post1 hC.okl hO hx rfl rfl rfl rfl p1 (boxN_lt _ _ _) (by rw [hGe]; rfl)
theorem com_L {acts : List Act} {c : List Nd} {A F : Nat} {g : Int} {m : Mo} {n : Nat} {es : List (Nat × Nat)} {err : Int} (hM : ModD acts m n A F) (hg1 : 1 ≤ g) (hg2 : g < shl64 1 (m.rel.length : Int)) {x y : Nat} (hx : x < 2 ^ n) (hy : y < 2 ^ n)
    {M : Nat → Prop} {w0 : World} {L : DH} {K : DV → DH → Prop} (h0 : L.lo = 0) (hn : Nat.ble 3 L.next = true) (g0 : L.get 0 = some (.var [.pv (.int .i64 err)])) (g1 : L.get 1 = some (.var (evC m acts c))) (g2 : L.get 2 = some (.mp (setM es)))
    (hK : K (.pv (u64 (comN n (grpM orF m g 0) x y))) (L.merge ⟨3, 0, 3, objsOf (H0 m acts c es err)⟩ 3)) : DC Tryz.prog M w0 73 [.ref 1 0, .pv (.int .i64 g), .pv (u64 x), .pv (u64 y)] L K := by
  have hO := hM.okd.okm
  have hnn : m.n.toNat = n := by rw [hO.nn, Int.toNat_natCast]
  have hn64 := hO.n64
  have h64 := pow64_le hn64
  have hx64 : x < 2 ^ 64 := by omega
  have hy64 : y < 2 ^ 64 := by omega
  have hG := md_Group m n hO g
  have hgf := grp_facts (g := g) hO (orF_lt n) (Nat.two_pow_pos n) hg1 hg2
  refine DC.call 3 (H0 m acts c es err) ⟨g2.symm, g1.symm, g0.symm, trivial⟩ rfl hn (by rw [h0]; rfl) rfl fun M' => ?_
  rw [h0]
  generalize grpM orF m g 0 = r at hG hgf hK
  obtain ⟨hrl, hrb⟩ := hgf
  have hlt := comP_lt n r x y
  have hgd := getD_lt2 hrb
  refine DC.weaken (DC.intro mixed (fn := Tryz.f73) rfl rfl rfl ?_)
  (try conv=>whnf);repeat' (first|(refine PureFn.dcq (f := 71) rfl ?_;try conv=>whnf)|(refine ⟨_, _, hG, ?_, ?_⟩;(focus first|(refine ⟨?_, ?_, trivial⟩<;>first|exact PLe.refl _|exact PLe.nil)|exact trivial);try conv=>whnf)|fail)
  refine ⟨{ k : Nat // k ≤ n }, fun k => [(0, .ref 1 0), (2, .pv (u64 x)), (3, .pv (u64 y)), (9, .pv (rowPV r)), (10, .pv (u64 (comP n r x y k.1)))], fun _ => 3, fun _ => H0 m acts c es err, fun k => n - k.1, ⟨⟨0, Nat.zero_le _⟩, ?_⟩, ?_⟩
  · (refine Wk.of ?_ ?_ rfl rfl rfl<;>repeat' (first|exact trivial|exact WkD.same _|exact WkO.same _ _ rfl|refine WkD.int ?_|refine ⟨?_, ?_⟩|fail))
    exact congrArg (fun z : Nat => (((2 ^ z - 1 : Nat)) : Int)) hnn
  rintro ⟨k, hk⟩
  have hk1 := hlt k
  have hst := comP_stop (c := x) (s := y) hgd k
  have hcn := comP_comN (c := x) (s := y) (k := k) hrl hrb
  have hnx : comP n r x y (k + 1) = boxN n r (notN n x ||| (y &&& comP n r x y k)) := rfl
  have hB := rl_Box n r (notN n x ||| (y &&& comP n r x y k)) hn64 hrl hrb (Nat.or_lt_two_pow (Nat.lt_of_lt_of_le (notN_lt n x) h64) (Nat.and_lt_two_pow _ (by omega)))
  rw [← hnx] at hB
  have hlt2 := hlt (k + 1)
  have earg : u64 (notN n x ||| (y &&& comP n r x y k)) = .int .u64 (orU (andNotU ((2 ^ m.n.toNat - 1 : Nat) : Int) (x : Nat)) (andU (y : Nat) (comP n r x y k : Nat))) := by
    rw [hnn, andNotU_all hn64, andU_nat (by omega) (by omega), orU_nat (Nat.lt_of_lt_of_le (notN_lt n x) h64) (Nat.and_lt_two_pow _ (by omega))]; rfl
  rw [earg] at hB
  (try conv=>whnf);repeat' (first|(apply And.intro<;>try conv=>whnf)|(intro h;try conv=>whnf)|(refine PureFn.dcq (f := 69) rfl ?_;try conv=>whnf)|(refine ⟨_, _, hB, ?_, ?_⟩;(focus first|(refine ⟨?_, ?_, trivial⟩<;>first|exact PLe.refl _|exact PLe.nil)|exact trivial);try conv=>whnf)|fail)
  · have he : comP n r x y (k + 1) = comP n r x y k := by
      have : ((comP n r x y (k + 1) : Nat) : Int) = (comP n r x y k : Nat) := by simpa using h
      omega
    rw [← hcn he] at hK
    exact ⟨.pv (u64 (comP n r x y k)), 3, H0 m acts c es err, (by refine Wk.of ?_ ?_ rfl rfl rfl<;>repeat' (first|exact trivial|exact WkD.same _|exact WkO.same _ _ rfl|refine ⟨?_, ?_⟩|fail)), ⟨rfl, hK⟩⟩
  · have he : ¬ comP n r x y (k + 1) = comP n r x y k := fun e => by
      have : ¬ ((comP n r x y (k + 1) : Nat) : Int) = (comP n r x y k : Nat) := by simpa using h
      omega
    have hk2 : k + 1 ≤ n := by
      rcases hst with g | g
      · exact absurd g he
      · omega
    exact ⟨⟨k + 1, hk2⟩, by show n - (k + 1) < n - k; omega, (by refine Wk.of ?_ ?_ rfl rfl rfl<;>repeat' (first|exact trivial|exact WkD.same _|exact WkO.same _ _ rfl|refine ⟨?_, ?_⟩|fail))⟩
theorem val_13 {acts : List Act} {c : List Nd} {A F i : Nat} {fi ei gi xx yy : Int} (hC : CxD A F acts c) (hx : c[i]? = some ⟨13, fi, ei, gi, xx, yy⟩) (hat : ∀ j, j < i → ConE 28 (.pv (.int .i64 (j : Nat))) acts c A F j) :
    ConE 51 (.agg (Nd.dvs ⟨13, fi, ei, gi, xx, yy⟩)) acts c A F i := by
  intro m n es err hM hI hE M w0 base K hK
  have hO := hM.okd.okm
  have hnn : m.n.toNat = n := by rw [hO.nn, Int.toNat_natCast]
  have hn64 := hO.n64
  have h64 := pow64_le hn64
  have hall : 2 ^ n - 1 < 2 ^ n := by have := Nat.two_pow_pos n; omega
  have hnd := hC.okl i _ hx
  have hmem : (⟨13, fi, ei, gi, xx, yy⟩ : Nd) ∈ c := List.mem_iff_getElem?.2 ⟨i, hx⟩
  have hkx := hnd.x rfl
  simp only at hkx
  obtain ⟨X, ex⟩ : ∃ q : Nat, xx = q := ⟨xx.toNat, by omega⟩
  subst ex
  have hlx : X < i := by omega
  have hky := hnd.y rfl
  simp only at hky
  obtain ⟨Y, ey⟩ : ∃ q : Nat, yy = q := ⟨yy.toNat, by omega⟩
  subst ey
  have hly : Y < i := by omega
  have hX := fun {M w0 L K} => @con_L _ _ _ _ _ _ _ (hat X hlx) rfl m n es err hM hI hE M w0 L K
  have hY := fun {s1 es1 er1} (p1 : PostE acts c m n X err s1 es1 er1) {M w0 L K} => @con_L _ _ _ _ _ _ _ (hat Y hly) rfl m n es1 er1 hM p1.inv p1.er M w0 L K
  have hgr := hC.gr _ hmem (by first | exact .inl rfl | exact .inr (.inl rfl) | exact .inr (.inr rfl))
  simp only at hgr
  have hg1 := hgr.1
  have hg2 : gi < shl64 1 (m.rel.length : Int) := by rw [hM.ra]; exact hgr.2
  have f1 : ((13 : Int) == 1) = false := rfl
  have f2 : ((13 : Int) == 2) = false := rfl
  have f3 : ((13 : Int) == 3) = false := rfl
  have f4 : ((13 : Int) == 4) = false := rfl
  have f5 : ((13 : Int) == 5) = false := rfl
  have f6 : ((13 : Int) == 6) = false := rfl
  have f7 : ((13 : Int) == 7) = false := rfl
  have f8 : ((13 : Int) == 8) = false := rfl
  have f9 : ((13 : Int) == 9) = false := rfl
  have f10 : ((13 : Int) == 10) = false := rfl
  have f11 : ((13 : Int) == 11) = false := rfl
  have f12 : ((13 : Int) == 12) = false := rfl
  have f13 : ((13 : Int) == 13) = true := rfl
  have f16 : ((13 : Int) == 16) = false := rfl
  refine DC.weaken (DC.intro mixed (fn := Tryz.f51) rfl rfl rfl ?_)
  (try conv=>whnf);repeat' (first|(apply And.intro<;>try conv=>whnf)|(intro h;first|with_reducible exact tf h (by assumption)|with_reducible exact tf (by assumption) h|try conv=>whnf)|fail)
  refine ⟨.one 0 (.one 3 (.one 4 (.one 5 (.one 7 (.three 1 (.three 2 (.two 6 (.one 8 (.one 9 (.one 10 (.one 11 (.one 12 .done))))) 8 (.two 6 (.one 9 (.one 10 (.one 11 (.one 12 .done)))) 9 (.one 6 (.one 10 (.one 11 (.one 12 .done)))))) 6 (.one 8 (.one 9 (.two 2 (.one 10 (.one 11 (.one 12 .done))) 10 (.one 2 (.one 11 (.one 12 .done)))))) 8 (.three 2 (.two 6 (.one 9 (.one 10 (.one 11 (.one 12 .done)))) 9 (.one 6 (.one 10 (.one 11 (.one 12 .done))))) 6 (.one 9 (.two 2 (.one 10 (.one 11 (.one 12 .done))) 10 (.one 2 (.one 11 (.one 12 .done))))) 9 (.two 2 (.one 6 (.one 10 (.one 11 (.one 12 .done)))) 6 (.two 2 (.one 10 (.one 11 (.one 12 .done))) 10 (.one 2 (.one 11 (.one 12 .done))))))) 6 (.one 8 (.one 9 (.two 1 (.two 2 (.one 10 (.one 11 (.one 12 .done))) 10 (.one 2 (.one 11 (.one 12 .done)))) 10 (.one 1 (.one 2 (.one 11 (.one 12 .done))))))) 8 (.three 1 (.three 2 (.two 6 (.one 9 (.one 10 (.one 11 (.one 12 .done)))) 9 (.one 6 (.one 10 (.one 11 (.one 12 .done))))) 6 (.one 9 (.two 2 (.one 10 (.one 11 (.one 12 .done))) 10 (.one 2 (.one 11 (.one 12 .done))))) 9 (.two 2 (.one 6 (.one 10 (.one 11 (.one 12 .done)))) 6 (.two 2 (.one 10 (.one 11 (.one 12 .done))) 10 (.one 2 (.one 11 (.one 12 .done)))))) 6 (.one 9 (.two 1 (.two 2 (.one 10 (.one 11 (.one 12 .done))) 10 (.one 2 (.one 11 (.one 12 .done)))) 10 (.one 1 (.one 2 (.one 11 (.one 12 .done)))))) 9 (.two 1 (.two 2 (.one 6 (.one 10 (.one 11 (.one 12 .done)))) 6 (.two 2 (.one 10 (.one 11 (.one 12 .done))) 10 (.one 2 (.one 11 (.one 12 .done))))) 6 (.two 1 (.two 2 (.one 10 (.one 11 (.one 12 .done))) 10 (.one 2 (.one 11 (.one 12 .done)))) 10 (.one 1 (.one 2 (.one 11 (.one 12 .done)))))))))))), [6, 10, 11], by kernel_rfl, ?_⟩
  (try conv=>whnf);repeat' (first|(apply And.intro<;>try conv=>whnf)|(refine hX rfl rfl rfl rfl rfl ?_;intro s1 es1 er1 p1;have q1 := lt64 hO p1;try conv=>whnf)|(refine hY p1 rfl rfl rfl rfl rfl ?_;intro s2 es2 er2 p2;have q2 := lt64 hO p2;try conv=>whnf)|(refine com_L (es := es2) (err := er2) hM hg1 hg2 p1.lt p2.lt rfl rfl rfl rfl rfl ?_;try conv=>whnf)|fail)
  all_goals
    refine ⟨.pv (u64 (comN n (grpM orF m gi 0) s1 s2)), 3, H0 m acts c es2 er2, ?_, hK _ _ _ ?_⟩
    · (refine Wk.of ?_ ?_ rfl rfl rfl<;>repeat' (first|exact trivial|exact WkD.same _|exact WkO.same _ _ rfl|refine ⟨?_, ?_⟩|fail))
    · exact post2 hC.okl hO hx rfl rfl rfl rfl p1 p2 (comN_lt _ _ _ _) rfl
end Go.Proofs.YtjdmfhggokfflaaGreatDoor
set_option maxRecDepth 100000
set_option maxHeartbeats 16000000
namespace Go.Proofs.YtjdmfhggokfflaaGreatDoor
open Go Go.Dv

/-- What an announcement in a model comes to. -/
def annV (acts : List Act) (c : List Nd) (Y : Nat) (m : Mo) (n s : Nat) : Option Nat := bif s == 0 then some (2 ^ n - 1) else match dvT acts (tree c Y) (arrI m (memL s)) with
  | none => none
  | some u => some (sprG u (memL s) 0 (notN n s))
structure PostV (v : Option Nat) (n : Nat) (err : Int) (s : Nat) (err' : Int) : Prop where
  lt : s < 2 ^ n
  er : err' = 0 ∨ err' = 8
  ok : err' = 0 → err = 0 ∧ v = some s
  no : err' ≠ 0 → err ≠ 0 ∨ v = none
def evK (k : Nat) (m : Mo) (acts : List Act) (c : List Nd) : List DV := [.pv (.int .i64 m.n), .pv (.sl (m.val.map u64)), .pv (.sl (m.rel.map rowPV)), .pv (u64 (2 ^ m.n.toNat - 1)), .pv (actsPV acts), .pv (fpv c), .mp k, .ref 0 0]
def inPlan : Plan := .one 0 (.one 1 (.one 2 (.one 3 (.one 4 (.one 5 (.one 6 (.one 7 (.one 8 (.one 9 (.one 10 (.one 11 (.one 12 (.one 14 (.one 15 (.one 16 (.one 17 (.one 13 (.one 18 (.one 19 (.one 20 .done))))))))))))))))))))
theorem in_wrap {n : Nat} {k : Int} (h : k = n) (h1 : 1 ≤ n) (hn : n ≤ 64) : IntKind.wrap .i64 (64 - k) = (64 : Int) - n := by rw [h]; exact Go.Dv.wrap_small (by omega) (by omega)
theorem spr_step {acc u i w : Nat} (ha : acc < 2 ^ 64) (hu : u < 2 ^ 64) (hi : i < 64) (hw : w < 64) : orU (acc : Nat) (shlU (andU (shrU (u : Nat) (i : Nat)) 1) (w : Nat)) = ((acc ||| (bif u.testBit i then 2 ^ w else 0) : Nat) : Int) := by
  rw [bit_and u i hu hi]
  cases h : u.testBit i with
  | true =>
    rw [if_pos rfl, cond_true, show shlU 1 (w : Nat) = ((2 ^ w : Nat) : Int) from shlU_one hw, orU_nat ha (Nat.pow_lt_pow_right (by decide) hw)]
  | false =>
    rw [if_neg (by decide), cond_false, show shlU 0 (w : Nat) = ((0 : Nat) : Int) by show IntKind.wrap .u64 (0 * _) = 0; rw [Int.zero_mul]; rfl, orU_nat ha (by decide)]
/-- The evaluation in another model, its objects at other keys. -/
theorem at_R {acts : List Act} {c : List Nd} {A F j k e : Nat} (h : ConE 28 (.pv (.int .i64 (j : Nat))) acts c A F j) {m : Mo} {n : Nat} {err : Int} (hM : ModD acts m n A F) (hE : err = 0 ∨ err = 8)
    {M : Nat → Prop} {w0 : World} {L : DH} {K : DV → DH → Prop} (hne : nodR [0, e, k] = true) (hlt : ([0, e, k].all fun q => Nat.blt q L.next) = true) (h0 : L.lo = 0)
    (hag : agrR (objsOf (H0 m acts c [] err)) L.get [0, e, k] 3) (hks : DV.keyss (memR [0, e, k]) [.ref e 0, .pv (.int .i64 (j : Nat))] = true) (hre : DV.rens (sigR [0, e, k]) [.ref e 0, .pv (.int .i64 (j : Nat))] = [.ref 1 0, .pv (.int .i64 (j : Nat))])
    (hK : ∀ s es' err', PostE acts c m n j err s es' err' → K (.pv (u64 s)) (L.mergeR (rhoR [0, e, k]) (sigR [0, e, k]) (memR [0, e, k]) ⟨3, 0, 3, objsOf (H0 m acts c es' err')⟩)) : DC Tryz.prog M w0 28 [.ref e 0, .pv (.int .i64 (j : Nat))] L K := by
  refine DC.callR [0, e, k] (H0 m acts c [] err) hne hlt h0 hag rfl hks (by rw [hre]; rfl) fun M' => ?_
  rw [hre]
  exact h m n [] err hM (fun k s h => by cases h) hE M' w0 3 _ fun s es' err' hp => ⟨rfl, hK s es' err' hp⟩
theorem ann_dc {acts : List Act} {c : List Nd} {A F Y : Nat} (hat : ConE 28 (.pv (.int .i64 (Y : Nat))) acts c A F Y) {m : Mo} {n : Nat} {es : List (Nat × Nat)} {err : Int} (hM : ModD acts m n A F) (hE : err = 0 ∨ err = 8) {s : Nat} (hs : s < 2 ^ n)
    {M : Nat → Prop} {w0 : World} {base : Nat} {K : DV → DH → Prop} (hK : ∀ t err', PostV (annV acts c Y m n s) n err t err' → K (.pv (u64 t)) ⟨3, 0, base, objsOf (H0 m acts c es err')⟩) :
    DC Tryz.prog M w0 74 [.ref 1 0, .pv (u64 s), .pv (.int .i64 (Y : Nat))] ⟨3, 0, base, objsOf (H0 m acts c es err)⟩ K := by
  have hO := hM.okd.okm
  have hnn : m.n.toNat = n := by rw [hO.nn, Int.toNat_natCast]
  have hn64 := hO.n64
  have h64 := pow64_le hn64
  have hall : 2 ^ n - 1 < 2 ^ n := by have := Nat.two_pow_pos n; omega
  have hav0 : s = 0 → annV acts c Y m n s = some (2 ^ n - 1) := fun h => by rw [annV, h]; rfl
  have hav1 : s ≠ 0 → annV acts c Y m n s = match dvT acts (tree c Y) (arrI m (memL s)) with
      | none => none
      | some u => some (sprG u (memL s) 0 (notN n s)) := fun h => by
    rw [annV, show (s == 0) = false by simpa using h, cond_false]
  have hsI : ((s : Int) == 0) = decide (s = 0) := by
    by_cases h : s = 0
    · subst h; rfl
    · rw [decide_eq_false h]; simpa using h
  refine DC.weaken (DC.introC [4] mixed (fn := Tryz.f74) rfl rfl rfl ?_)
  (try conv=>whnf);repeat' (first|(apply And.intro<;>try conv=>whnf)|(intro h;try conv=>whnf)|fail)
  · rw [hsI] at h
    have hs0 := of_decide_eq_true h
    refine ⟨.pv (u64 (2 ^ n - 1)), 3, H0 m acts c es err, ?_, hK _ _ ⟨hall, hE, fun h => ⟨h, hav0 hs0⟩, fun h => .inl h⟩⟩
    (refine Wk.of ?_ ?_ rfl rfl rfl<;>repeat' (first|exact trivial|exact WkO.same _ _ rfl|refine WkD.int ?_|refine ⟨?_, ?_⟩|fail))
    exact congrArg (fun k => ((2 ^ k - 1 : Nat) : Int)) hnn
  rw [hsI] at h
  have hs0 : s ≠ 0 := of_decide_eq_false h
  clear h
  have hM1 := hM.okd.arr hs hs0
  obtain ⟨m1, em1⟩ : ∃ m1, m1 = arrI m (memL s) := ⟨_, rfl⟩
  obtain ⟨ws, ews⟩ : ∃ ws, ws = memL s := ⟨_, rfl⟩
  have hR := md_Restrict m n s hO hs hs0
  have hws : ∀ w, w ∈ ws → w < n := fun w hw => by rw [ews] at hw; exact bit_lt hs (memL_mem.1 hw).2
  have hav1 := hav1 hs0
  rw [← em1, ← ews] at hR hav1 hM1
  have hMD : ModD acts m1 ws.length A F := ⟨hM1, by rw [em1, ← hM.ra, arrI, List.length_map], by rw [em1, ← hM.rf, arrI, List.length_map]⟩
  have hl1 := hM1.okm.n1
  have hl64 := hM1.okm.n64
  have hn1 : m1.n.toNat = ws.length := by rw [hM1.okm.nn, Int.toNat_natCast]
  refine ⟨Unit, fun _ => [(0, .ref 1 0), (1, .pv (u64 s)), (2, .pv (.int .i64 (Y : Nat))), (7, .ref 3 0), (8, .pv (intsPV ws))], fun _ => 4, fun _ => H0 m acts c es err ++ [(3, .var (cellsM m1))], ?_, ?_⟩
  · (try conv=>whnf);repeat' (first|(refine PureFn.dcq (f := 34) rfl ?_;try conv=>whnf)|(refine ⟨_, _, hR, ?_, ?_⟩;(focus first|(refine ⟨?_, ?_, trivial⟩<;>first|exact PLe.refl _|exact PLe.nil)|exact trivial);try conv=>whnf)|fail)
    exact ⟨(), (by refine Wk.of ?_ ?_ rfl rfl rfl<;>repeat' (first|exact trivial|exact WkD.same _|exact WkO.same _ _ rfl|refine ⟨?_, ?_⟩|fail))⟩
  rintro ⟨⟩
  try conv=>whnf
  refine DC.weaken (DC.intro mixed (fn := Tryz.f27) rfl rfl rfl ?_)
  try conv=>whnf
  refine ⟨inPlan, [], by kernel_rfl, ?_⟩
  (try conv=>whnf);repeat' (first|(apply And.intro<;>try conv=>whnf)|fail)
  · show (0 : Int) ≤ IntKind.wrap .i64 (64 - m1.n)
    rw [in_wrap hM1.okm.nn hl1 hl64]; omega
  refine ⟨.ref 6 0, 7, H0 m acts c es err ++ [(5, .mp []), (6, .var (evK 5 m1 acts c))], ?_, ?_⟩
  · refine Wk.of ⟨WkD.same _, trivial⟩ ⟨WkO.same _ _ rfl, trivial, WkO.same _ _ rfl, trivial, WkO.same _ _ rfl, trivial, WkO.same _ _ rfl, trivial, WkO.vars rfl ⟨WkD.same _, WkD.same _, WkD.same _, WkD.int ?_, WkD.same _, WkD.same _, WkD.same _, WkD.same _, trivial⟩, trivial, trivial⟩ rfl rfl rfl
    show shrU 18446744073709551615 (IntKind.wrap .i64 (64 - m1.n)) = _
    rw [in_wrap hM1.okm.nn hl1 hl64, hn1]; exact shr_all hl1 hl64
  try conv=>whnf
  refine at_R (e := 6) (k := 5) hat hMD hE rfl rfl rfl ⟨⟨rfl, rfl⟩, ⟨rfl, rfl⟩, ⟨rfl, rfl⟩, trivial⟩ rfl rfl fun u es1 err1 p => ?_
  try conv=>whnf
  have hu : u < 2 ^ ws.length := p.lt
  have hu64 : u < 2 ^ 64 := Nat.lt_of_lt_of_le hu (pow64_le hl64)
  have hfin : PostV (annV acts c Y m n s) n err (sprG u ws 0 (notN n s)) err1 := by
    refine ⟨sprG_lt hws (notN_lt n s), p.er, fun h => ?_, fun h => ?_⟩
    · obtain ⟨h1, h2⟩ := p.ok h
      exact ⟨h1, by rw [hav1, h2]⟩
    · rcases p.no h with h1 | h1
      · exact .inl h1
      · exact .inr (by rw [hav1, h1])
  refine ⟨{ q : Nat × Nat // q.1 ≤ ws.length ∧ q.2 < 2 ^ n ∧ sprG u (ws.drop q.1) q.1 q.2 = sprG u ws 0 (notN n s) }, fun q => [(10, .pv (u64 u)), (11, .pv (u64 q.1.2)), (41, .pv (intsPV ws)), (42, .pv (i64 (ws.map i64).length)), (43, .pv (i64 q.1.1))], fun _ => 3, fun _ => H0 m acts c es err1, fun q => ws.length - q.1.1, ⟨⟨(0, notN n s), Nat.zero_le _, notN_lt n s, rfl⟩, ?_⟩, ?_⟩
  · refine Wk.of ⟨WkD.same _, WkD.int ?_, WkD.same _, WkD.same _, WkD.same _, trivial⟩ ⟨WkO.same _ _ rfl, trivial, WkO.same _ _ rfl, trivial, WkO.same _ _ rfl, trivial, trivial⟩ rfl rfl rfl
    rw [hnn]; exact andNotU_all hn64
  rintro ⟨⟨i, acc⟩, hi, ha, hd⟩
  simp only at hi ha hd
  have ha64 : acc < 2 ^ 64 := by omega
  (try conv=>whnf);repeat' (first|(apply And.intro<;>try conv=>whnf)|(intro h;try conv=>whnf)|(apply infoT;rfl)|fail)
  · have hi' : i < ws.length := by simpa using lt_dec h
    obtain ⟨w, hx, hxw⟩ : ∃ y, ws[i]? = some y ∧ ws.getD i 0 = y := ⟨_, getD_mem hi', rfl⟩
    have hwn := hws w (List.mem_iff_getElem?.2 ⟨_, hx⟩)
    have hst := spr_step (u := u) (i := i) (w := w) ha64 hu64 (by omega) (by omega)
    refine ⟨_, _, rfl, idx_map hx, rfl, ?_⟩
    (try conv=>whnf);repeat' (first|(apply And.intro<;>try conv=>whnf)|fail)
    · exact Int.natCast_nonneg _
    · exact Int.natCast_nonneg _
    · refine ⟨⟨(i + 1, acc ||| (bif u.testBit i then 2 ^ w else 0)), hi', Nat.or_lt_two_pow ha ?_, ?_⟩, by show ws.length - (i + 1) < ws.length - i; omega, ?_⟩
      · cases u.testBit i with
        | true => exact Nat.pow_lt_pow_right (by decide) hwn
        | false => exact Nat.two_pow_pos n
      · rw [← hd]; exact (sprG_drop hx).symm
      · (refine Wk.of ?_ ?_ rfl rfl rfl<;>repeat' (first|exact trivial|exact WkD.same _|exact WkO.same _ _ rfl|refine WkD.int ?_|refine ⟨?_, ?_⟩|(refine wrapA ?_ ?_ ?_;(focus simp;done);(focus (try dsimp only);omega);(focus (try dsimp only);omega))|fail))
        exact hst
  · have hi' : i = ws.length := by have := ge_dec (m := (ws.map i64).length) h (by simpa using hi); simpa using this
    rw [hi', List.drop_length] at hd
    have hd : acc = sprG u ws 0 (notN n s) := hd
    rw [← hd] at hfin
    exact ⟨.pv (u64 acc), 3, H0 m acts c es err1, (by refine Wk.of ?_ ?_ rfl rfl rfl<;>repeat' (first|exact trivial|exact WkD.same _|exact WkO.same _ _ rfl|refine ⟨?_, ?_⟩|fail)), hK _ _ hfin⟩
end Go.Proofs.YtjdmfhggokfflaaGreatDoor
set_option maxRecDepth 100000
set_option maxHeartbeats 16000000
namespace Go.Proofs.YtjdmfhggokfflaaGreatDoor
open Go Go.Dv

/-- What an event in a model comes to. -/
def evtV (acts : List Act) (c : List Nd) (X : Nat) (m : Mo) (n : Nat) (a : Act) (e : Nat) : Option Nat :=
  bif (holdsI m (a.pre.getD e [])).1 == 0 then some (2 ^ n - 1) else bif (updI m a).2.2 != 0 then none else match dvT acts (tree c X) (updI m a).1 with
  | none => none
  | some t => some (evG e t (updI m a).2.1 0 (2 ^ n - 1))
/-- An action model whose parts are not too long. -/
structure SmA (a : Act) : Prop where
  fit : Fit a
  rel : a.rel.length ≤ 1000
  post : ∀ l, l ∈ a.post → l.length ≤ 1000
def actDV (a : Act) : List DV := [.pv (.sl (a.pre.map fpv)), .pv (.sl (a.post.map postPV)), .pv (.sl (a.rel.map rowPV))]
theorem clr_step {acc w : Nat} (ha : acc < 2 ^ 64) (hw : w < 64) : andNotU (acc : Nat) (shlU 1 (w : Nat)) = ((clrN acc w : Nat) : Int) := by
  rw [show shlU 1 (w : Nat) = ((2 ^ w : Nat) : Int) from shlU_one hw, andNotU_eq ha]; rfl
theorem evb (c b : Bool) : (bif c then ((if b = true then (1 : Int) else 0) == 0) else false) = (bif c then !b else false) := by cases c <;> cases b <;> rfl
theorem upd_err {m : Mo} {n : Nat} {acts : List Act} {a : Act} (h : OkD acts m n) (ha : a ∈ acts) {e : Nat} (he : e < a.pre.length) (h0 : (holdsI m (a.pre.getD e [])).1 ≠ 0) : (updI m a).2.2 = 0 ∨ (updI m a).2.2 = 8 := by
  have hmo : moaI m a = 0 := by rw [moaI, ok_moI h.okm]; exact h.act a ha
  obtain ⟨h1, h2⟩ := pre_holds hmo he
  have hlt : (holdsI m (a.pre.getD e [])).1 < 2 ^ 64 := by
    rw [h1]
    exact Nat.lt_of_lt_of_le h2 (by rw [h.okm.nn, Int.toNat_natCast]; exact pow64_le h.okm.n64)
  obtain ⟨w, hw⟩ : ∃ w, (memL (holdsI m (a.pre.getD e [])).1)[0]? = some w := ⟨_, getD_mem (memL_pos h0 hlt) (d := 0)⟩
  have hb := (memL_mem.1 (List.mem_iff_getElem?.2 ⟨0, hw⟩)).2
  rw [h1] at hb
  have hm : (w, e) ∈ pairsL m a := pairsW_mem.2 ⟨bit_lt h2 hb, he, hb⟩
  have hl : ((pairsL m a).length : Int) ≠ 0 := by
    have := List.length_pos_of_mem hm
    omega
  have hw2 : worldsI m a = (pairsL m a, 0) := by
    rw [worldsI, hmo]
    show (bif ((pairsL m a).length : Int) == 0 then _ else _) = _
    rw [show (((pairsL m a).length : Int) == 0) = false by simpa using hl]; rfl
  rw [updI, hw2]
  show (bif decide (((pairsL m a).length : Int) > 64) then _ else _ : Mo × List (Nat × Nat) × Int).2.2 = 0 ∨ _
  cases decide (((pairsL m a).length : Int) > 64) with
  | true => exact .inr rfl
  | false => exact .inl rfl
theorem evt_dc {acts : List Act} {c : List Nd} {A F X e : Nat} {a : Act} (hS : ∀ a, a ∈ acts → SmA a) (ha : a ∈ acts) (he : e < a.pre.length) (hat : ConE 28 (.pv (.int .i64 (X : Nat))) acts c A F X) {m : Mo} {n : Nat} {es : List (Nat × Nat)} {err : Int} (hM : ModD acts m n A F) (hE : err = 0 ∨ err = 8)
    {M : Nat → Prop} {w0 : World} {base : Nat} {K : DV → DH → Prop} (hK : ∀ t err', PostV (evtV acts c X m n a e) n err t err' → K (.pv (u64 t)) ⟨3, 0, base, objsOf (H0 m acts c es err')⟩) :
    DC Tryz.prog M w0 75 [.ref 1 0, .agg (actDV a), .pv (.int .i64 (e : Nat)), .pv (.int .i64 (X : Nat))] ⟨3, 0, base, objsOf (H0 m acts c es err)⟩ K := by
  have hO := hM.okd.okm
  have hnn : m.n.toNat = n := by rw [hO.nn, Int.toNat_natCast]
  have hn64 := hO.n64
  have h64 := pow64_le hn64
  have hall : 2 ^ n - 1 < 2 ^ n := by have := Nat.two_pow_pos n; omega
  obtain ⟨pre, hx⟩ : ∃ pre, a.pre[e]? = some pre := ⟨_, getD_mem he (d := [])⟩
  have hpd : a.pre.getD e [] = pre := by rw [List.getD_eq_getElem?_getD, hx]; rfl
  have hH := ck_Holds m pre hO.fit
  have hU := pr_Update m a hO.fit (hS a ha).fit (hS a ha).rel (hS a ha).post
  obtain ⟨sp, ep, hsp⟩ : ∃ sp ep, holdsI m pre = (sp, ep) := ⟨_, _, rfl⟩
  obtain ⟨m1, ps, er, hup⟩ : ∃ m1 ps er, updI m a = (m1, ps, er) := ⟨_, _, _, rfl⟩
  have hav0 : sp = 0 → evtV acts c X m n a e = some (2 ^ n - 1) := fun h => by rw [evtV, hpd, hsp, h]; rfl
  have hav1 : sp ≠ 0 → er ≠ 0 → evtV acts c X m n a e = none := fun h h2 => by
    rw [evtV, hpd, hsp, show (((sp, ep) : Nat × Int).1 == 0) = false by simpa using h, cond_false, hup, show (((m1, ps, er) : Mo × List (Nat × Nat) × Int).2.2 != 0) = true by simpa using h2, cond_true]
  have hav2 : sp ≠ 0 → er = 0 → evtV acts c X m n a e = match dvT acts (tree c X) m1 with
      | none => none
      | some t => some (evG e t ps 0 (2 ^ n - 1)) := fun h h2 => by
    rw [evtV, hpd, hsp, show (((sp, ep) : Nat × Int).1 == 0) = false by simpa using h, cond_false, hup, h2]; rfl
  have her : sp ≠ 0 → er = 0 ∨ er = 8 := fun h => by
    have := upd_err hM.okd ha he (by rw [hpd, hsp]; exact h)
    rw [hup] at this; exact this
  have hMD : er = 0 → ModD acts m1 ps.length A F ∧ ∀ q, q ∈ ps → q.1 < n := fun h => by
    have h1 := hM.okd.upd (a := a) (by rw [hup]; exact h)
    obtain ⟨k1, k2, k3, k4, k5⟩ := updI_ok (m := m) (a := a) (by rw [hup]; exact h)
    rw [hup] at h1 k2 k3
    refine ⟨⟨h1.1, ?_, ?_⟩, h1.2⟩
    · rw [← hM.ra, show m1 = _ from k3, prodM, List.length_map, List.length_range]
    · rw [← hM.rf, show m1 = _ from k3, prodM, List.length_map, List.length_range]
  rw [hsp] at hH
  rw [hup] at hU
  have hsI : ((sp : Int) == 0) = decide (sp = 0) := by
    by_cases h : sp = 0
    · subst h; rfl
    · rw [decide_eq_false h]; simpa using h
  refine DC.weaken (DC.introC [2, 8] mixed (fn := Tryz.f75) rfl rfl rfl ?_)
  try conv=>whnf
  refine ⟨Unit, fun _ => [(0, .ref 1 0), (2, .pv (.int .i64 (e : Nat))), (3, .pv (.int .i64 (X : Nat))), (5, .ref 3 0), (9, .pv (u64 sp))], fun _ => 4, fun _ => H0 m acts c es err ++ [(3, .var (actDV a))], ?_, ?_⟩
  · (try conv=>whnf);repeat' (first|(apply And.intro<;>try conv=>whnf)|(apply infoT;rfl)|(refine lin_plan (by kernel_rfl) ?_;try conv=>whnf)|(refine ⟨_, _, rfl, idx_map (by with_reducible assumption), rfl, ?_⟩;try conv=>whnf)|(refine ⟨_, (by (conv=>whnf);exact hH), rfl, ?_⟩;try conv=>whnf)|fail)
    exact ⟨(), (by refine Wk.of ?_ ?_ rfl rfl rfl<;>repeat' (first|exact trivial|exact WkD.same _|exact WkO.same _ _ rfl|refine ⟨?_, ?_⟩|fail))⟩
  rintro ⟨⟩
  (try conv=>whnf);repeat' (first|(apply And.intro<;>try conv=>whnf)|(intro h;try conv=>whnf)|(refine lin_plan (by kernel_rfl) ?_;try conv=>whnf)|(refine ⟨_, (by (conv=>whnf);exact hU), rfl, ?_⟩;try conv=>whnf)|fail)
  · rw [hsI] at h
    have hs0 := of_decide_eq_true h
    refine ⟨.pv (u64 (2 ^ n - 1)), 3, H0 m acts c es err, ?_, hK _ _ ⟨hall, hE, fun h => ⟨h, hav0 hs0⟩, fun h => .inl h⟩⟩
    (refine Wk.of ?_ ?_ rfl rfl rfl<;>repeat' (first|exact trivial|exact WkO.same _ _ rfl|refine WkD.int ?_|refine ⟨?_, ?_⟩|fail))
    exact congrArg (fun k => ((2 ^ k - 1 : Nat) : Int)) hnn
  rw [hsI] at h
  have hs0 := of_decide_eq_false h
  clear h
  refine ⟨{ _x : Unit // sp ≠ 0 ∧ er = 0 }, fun _ => [(0, .ref 1 0), (2, .pv (.int .i64 (e : Nat))), (3, .pv (.int .i64 (X : Nat))), (11, .ref 4 0), (12, .pv (.sl (ps.map pairPV)))], fun _ => 5, fun _ => H0 m acts c es err ++ [(4, .var (cellsM m1))], ?_, ?_⟩
  · (try conv=>whnf);repeat' (first|(apply And.intro<;>try conv=>whnf)|(intro h;try conv=>whnf)|fail)
    · have he0 : er ≠ 0 := by simpa using h
      have he8 : er = 8 := by rcases her hs0 with h | h; exact absurd h he0; exact h
      subst he8
      refine ⟨.pv (u64 0), 3, H0 m acts c es 8, (by refine Wk.of ?_ ?_ rfl rfl rfl<;>repeat' (first|exact trivial|exact WkD.same _|exact WkO.same _ _ rfl|refine ⟨?_, ?_⟩|fail)), hK 0 8 ⟨Nat.two_pow_pos n, .inr rfl, fun h => absurd h (by decide), fun _ => .inr (hav1 hs0 (by decide))⟩⟩
    · have he0 : er = 0 := by simpa using h
      exact ⟨⟨(), hs0, he0⟩, (by refine Wk.of ?_ ?_ rfl rfl rfl<;>repeat' (first|exact trivial|exact WkD.same _|exact WkO.same _ _ rfl|refine ⟨?_, ?_⟩|fail))⟩
  rintro ⟨_, hs0, he0⟩
  obtain ⟨hMD, hws⟩ := hMD he0
  have hav2 := hav2 hs0 he0
  have hl1 := hMD.okd.okm.n1
  have hl64 := hMD.okd.okm.n64
  have hn1 : m1.n.toNat = ps.length := by rw [hMD.okd.okm.nn, Int.toNat_natCast]
  try conv=>whnf
  refine DC.weaken (DC.intro mixed (fn := Tryz.f27) rfl rfl rfl ?_)
  try conv=>whnf
  refine ⟨inPlan, [], by kernel_rfl, ?_⟩
  (try conv=>whnf);repeat' (first|(apply And.intro<;>try conv=>whnf)|fail)
  · show (0 : Int) ≤ IntKind.wrap .i64 (64 - m1.n)
    rw [in_wrap hMD.okd.okm.nn hl1 hl64]; omega
  refine ⟨.ref 7 0, 8, H0 m acts c es err ++ [(6, .mp []), (7, .var (evK 6 m1 acts c))], ?_, ?_⟩
  · refine Wk.of ⟨WkD.same _, trivial⟩ ⟨WkO.same _ _ rfl, trivial, WkO.same _ _ rfl, trivial, WkO.same _ _ rfl, trivial, WkO.same _ _ rfl, trivial, WkO.vars rfl ⟨WkD.same _, WkD.same _, WkD.same _, WkD.int ?_, WkD.same _, WkD.same _, WkD.same _, WkD.same _, trivial⟩, trivial, trivial⟩ rfl rfl rfl
    show shrU 18446744073709551615 (IntKind.wrap .i64 (64 - m1.n)) = _
    rw [in_wrap hMD.okd.okm.nn hl1 hl64, hn1]; exact shr_all hl1 hl64
  try conv=>whnf
  refine at_R (e := 7) (k := 6) hat hMD hE rfl rfl rfl ⟨⟨rfl, rfl⟩, ⟨rfl, rfl⟩, ⟨rfl, rfl⟩, trivial⟩ rfl rfl fun u es1 err1 p => ?_
  try conv=>whnf
  have hu : u < 2 ^ ps.length := p.lt
  have hu64 : u < 2 ^ 64 := Nat.lt_of_lt_of_le hu (pow64_le hl64)
  have hfin : PostV (evtV acts c X m n a e) n err (evG e u ps 0 (2 ^ n - 1)) err1 := by
    refine ⟨evG_lt hall, p.er, fun h => ?_, fun h => ?_⟩
    · obtain ⟨h1, h2⟩ := p.ok h
      exact ⟨h1, by rw [hav2, h2]⟩
    · rcases p.no h with h1 | h1
      · exact .inl h1
      · exact .inr (by rw [hav2, h1])
  refine ⟨{ q : Nat × Nat // q.1 ≤ ps.length ∧ q.2 < 2 ^ n ∧ evG e u (ps.drop q.1) q.1 q.2 = evG e u ps 0 (2 ^ n - 1) }, fun q => [(2, .pv (.int .i64 (e : Nat))), (14, .pv (u64 u)), (15, .pv (u64 q.1.2)), (64, .pv (.sl (ps.map pairPV))), (65, .pv (i64 (ps.map pairPV).length)), (66, .pv (i64 q.1.1))], fun _ => 3, fun _ => H0 m acts c es err1, fun q => ps.length - q.1.1, ⟨⟨(0, 2 ^ n - 1), Nat.zero_le _, hall, rfl⟩, ?_⟩, ?_⟩
  · refine Wk.of ⟨WkD.same _, WkD.same _, WkD.int ?_, WkD.same _, WkD.same _, WkD.same _, trivial⟩ ⟨WkO.same _ _ rfl, trivial, WkO.same _ _ rfl, trivial, WkO.same _ _ rfl, trivial, trivial⟩ rfl rfl rfl
    exact congrArg (fun k => ((2 ^ k - 1 : Nat) : Int)) hnn
  rintro ⟨⟨i, acc⟩, hi, hacc, hd⟩
  simp only at hi hacc hd
  have ha64 : acc < 2 ^ 64 := by omega
  (try conv=>whnf);repeat' (first|(apply And.intro<;>try conv=>whnf)|(intro h;try conv=>whnf)|(apply infoT;rfl)|fail)
  · have hi' : i < ps.length := by simpa using lt_dec h
    obtain ⟨q, hx, hxw⟩ : ∃ y, ps[i]? = some y ∧ ps.getD i (0, 0) = y := ⟨_, getD_mem hi', rfl⟩
    have hwn := hws q (List.mem_iff_getElem?.2 ⟨_, hx⟩)
    obtain ⟨w, d⟩ := q
    have hst := clr_step (acc := acc) (w := w) ha64 (by have : w < n := hwn; omega)
    have hba := bit_and u i hu64 (by omega)
    refine ⟨_, _, rfl, idx_map hx, rfl, ?_⟩
    (try conv=>whnf);repeat' (first|(apply And.intro<;>try conv=>whnf)|(intro h;try conv=>whnf)|apply True.intro|(apply WhenQ.mk;(try conv=>whnf);rotate_left;(try conv=>whnf);rotate_right)|with_reducible assumption|fail)
    · exact Int.natCast_nonneg _
    · exact Int.natCast_nonneg _
    · have h2 : (bif ((d : Int) == (e : Int)) then (andU (shrU (u : Nat) (i : Nat)) 1 == 0) else false) = true := h
      rw [hba, evb] at h2
      refine ⟨⟨(i + 1, clrN acc w), hi', clrN_lt hacc, ?_⟩, by show ps.length - (i + 1) < ps.length - i; omega, ?_⟩
      · rw [← hd, evG_drop hx]
        show _ = evG e u (ps.drop (i + 1)) (i + 1) (bif (bif ((d : Int) == (e : Int)) then !u.testBit i else false) then clrN acc w else acc)
        rw [h2]; rfl
      · (refine Wk.of ?_ ?_ rfl rfl rfl<;>repeat' (first|exact trivial|exact WkD.same _|exact WkO.same _ _ rfl|refine WkD.int ?_|refine ⟨?_, ?_⟩|(refine wrapA ?_ ?_ ?_;(focus simp;done);(focus (try dsimp only);omega);(focus (try dsimp only);omega))|fail))
        exact hst
    · have h2 : (bif ((d : Int) == (e : Int)) then (andU (shrU (u : Nat) (i : Nat)) 1 == 0) else false) = false := h
      rw [hba, evb] at h2
      refine ⟨⟨(i + 1, acc), hi', hacc, ?_⟩, by show ps.length - (i + 1) < ps.length - i; omega, (by refine Wk.of ?_ ?_ rfl rfl rfl<;>repeat' (first|exact trivial|exact WkD.same _|exact WkO.same _ _ rfl|refine WkD.int ?_|refine ⟨?_, ?_⟩|(refine wrapA ?_ ?_ ?_;(focus simp;done);(focus (try dsimp only);omega);(focus (try dsimp only);omega))|fail))⟩
      rw [← hd, evG_drop hx]
      show _ = evG e u (ps.drop (i + 1)) (i + 1) (bif (bif ((d : Int) == (e : Int)) then !u.testBit i else false) then clrN acc w else acc)
      rw [h2]; rfl
  · have hi' : i = ps.length := by have := ge_dec (m := (ps.map pairPV).length) h (by simpa using hi); simpa using this
    rw [hi', List.drop_length] at hd
    have hd : acc = evG e u ps 0 (2 ^ n - 1) := hd
    rw [← hd] at hfin
    exact ⟨.pv (u64 acc), 3, H0 m acts c es err1, (by refine Wk.of ?_ ?_ rfl rfl rfl<;>repeat' (first|exact trivial|exact WkD.same _|exact WkO.same _ _ rfl|refine ⟨?_, ?_⟩|fail)), hK _ _ hfin⟩
end Go.Proofs.YtjdmfhggokfflaaGreatDoor
set_option maxRecDepth 100000
set_option maxHeartbeats 16000000
namespace Go.Proofs.YtjdmfhggokfflaaGreatDoor
open Go Go.Dv

theorem ann_L {acts : List Act} {c : List Nd} {A F Y : Nat} (hat : ConE 28 (.pv (.int .i64 (Y : Nat))) acts c A F Y) {m : Mo} {n : Nat} {es : List (Nat × Nat)} {err : Int} (hM : ModD acts m n A F) (hE : err = 0 ∨ err = 8) {s : Nat} (hs : s < 2 ^ n)
    {M : Nat → Prop} {w0 : World} {L : DH} {K : DV → DH → Prop} (h0 : L.lo = 0) (hn : Nat.ble 3 L.next = true) (g0 : L.get 0 = some (.var [.pv (.int .i64 err)])) (g1 : L.get 1 = some (.var (evC m acts c))) (g2 : L.get 2 = some (.mp (setM es)))
    (hK : ∀ t err', PostV (annV acts c Y m n s) n err t err' → K (.pv (u64 t)) (L.merge ⟨3, 0, 3, objsOf (H0 m acts c es err')⟩ 3)) : DC Tryz.prog M w0 74 [.ref 1 0, .pv (u64 s), .pv (.int .i64 (Y : Nat))] L K := by
  refine DC.call 3 (H0 m acts c es err) ⟨g2.symm, g1.symm, g0.symm, trivial⟩ rfl hn (by rw [h0]; rfl) rfl fun M' => ?_
  rw [h0]
  exact ann_dc hat hM hE hs fun t err' hp => ⟨rfl, hK t err' hp⟩
theorem evt_L {acts : List Act} {c : List Nd} {A F X e : Nat} {a : Act} (hS : ∀ a, a ∈ acts → SmA a) (ha : a ∈ acts) (he : e < a.pre.length) (hat : ConE 28 (.pv (.int .i64 (X : Nat))) acts c A F X) {m : Mo} {n : Nat} {es : List (Nat × Nat)} {err : Int} (hM : ModD acts m n A F) (hE : err = 0 ∨ err = 8)
    {M : Nat → Prop} {w0 : World} {L : DH} {K : DV → DH → Prop} (h0 : L.lo = 0) (hn : Nat.ble 3 L.next = true) (g0 : L.get 0 = some (.var [.pv (.int .i64 err)])) (g1 : L.get 1 = some (.var (evC m acts c))) (g2 : L.get 2 = some (.mp (setM es)))
    (hK : ∀ t err', PostV (evtV acts c X m n a e) n err t err' → K (.pv (u64 t)) (L.merge ⟨3, 0, 3, objsOf (H0 m acts c es err')⟩ 3)) : DC Tryz.prog M w0 75 [.ref 1 0, .agg (actDV a), .pv (.int .i64 (e : Nat)), .pv (.int .i64 (X : Nat))] L K := by
  refine DC.call 3 (H0 m acts c es err) ⟨g2.symm, g1.symm, g0.symm, trivial⟩ rfl hn (by rw [h0]; rfl) rfl fun M' => ?_
  rw [h0]
  exact evt_dc hS ha he hat hM hE fun t err' hp => ⟨rfl, hK t err' hp⟩
theorem annV_dvT {acts : List Act} {c : List Nd} {m : Mo} {n X Y s : Nat} {i e g : Int} (hnn : m.n.toNat = n) (h : dvT acts (tree c X) m = some s) : dvT acts (.nd 16 i e g (tree c X) (tree c Y)) m = annV acts c Y m n s := by
  by_cases h0 : s = 0
  · subst h0; rw [dv_ann0 h, annV, hnn]; rfl
  · rw [dv_ann1 h h0, annV, hnn, show (s == 0) = false by simpa using h0, cond_false]
    all_goals (cases dvT acts (tree c Y) (arrI m (memL s)) <;> rfl)
theorem evtV_dvT {acts : List Act} {c : List Nd} {m : Mo} {n X e : Nat} {i g : Int} {b : Tr} (hnn : m.n.toNat = n) : dvT acts (.nd 17 i (e : Int) g (tree c X) b) m = evtV acts c X m n (acts.getD i.toNat noAct) e := by
  rw [dvT, show ((17 : Int) == 16) = false from rfl, show ((17 : Int) == 17) = true from rfl, cond_false, cond_true, evtV, hnn, Int.toNat_natCast]
  cases ((holdsI m ((acts.getD i.toNat noAct).pre.getD e [])).1 == 0) with
  | true => rfl
  | false =>
    rw [cond_false, cond_false]
    cases ((updI m (acts.getD i.toNat noAct)).2.2 != 0) with
    | true => rfl
    | false =>
      rw [cond_false, cond_false]
      all_goals (cases dvT acts (tree c X) (updI m (acts.getD i.toNat noAct)).1 <;> rfl)
theorem val_16 {acts : List Act} {c : List Nd} {A F i : Nat} {fi ei gi xx yy : Int} (hC : CxD A F acts c) (hx : c[i]? = some ⟨16, fi, ei, gi, xx, yy⟩) (hat : ∀ j, j < i → ConE 28 (.pv (.int .i64 (j : Nat))) acts c A F j) :
    ConE 51 (.agg (Nd.dvs ⟨16, fi, ei, gi, xx, yy⟩)) acts c A F i := by
  intro m n es err hM hI hE M w0 base K hK
  have hO := hM.okd.okm
  have hnn : m.n.toNat = n := by rw [hO.nn, Int.toNat_natCast]
  have hn64 := hO.n64
  have h64 := pow64_le hn64
  have hall : 2 ^ n - 1 < 2 ^ n := by have := Nat.two_pow_pos n; omega
  have hnd := hC.okl i _ hx
  have hmem : (⟨16, fi, ei, gi, xx, yy⟩ : Nd) ∈ c := List.mem_iff_getElem?.2 ⟨i, hx⟩
  have hkx := hnd.x rfl
  simp only at hkx
  obtain ⟨X, ex⟩ : ∃ q : Nat, xx = q := ⟨xx.toNat, by omega⟩
  subst ex
  have hlx : X < i := by omega
  have hky := hnd.y rfl
  simp only at hky
  obtain ⟨Y, ey⟩ : ∃ q : Nat, yy = q := ⟨yy.toNat, by omega⟩
  subst ey
  have hly : Y < i := by omega
  have ht : tree c i = .nd 16 fi ei gi (tree c X) (tree c Y) := by rw [tree_nd hC.okl hx]; rfl
  have hX := fun {M w0 L K} => @con_L _ _ _ _ _ _ _ (hat X hlx) rfl m n es err hM hI hE M w0 L K
  have f1 : ((16 : Int) == 1) = false := rfl
  have f2 : ((16 : Int) == 2) = false := rfl
  have f3 : ((16 : Int) == 3) = false := rfl
  have f4 : ((16 : Int) == 4) = false := rfl
  have f5 : ((16 : Int) == 5) = false := rfl
  have f6 : ((16 : Int) == 6) = false := rfl
  have f7 : ((16 : Int) == 7) = false := rfl
  have f8 : ((16 : Int) == 8) = false := rfl
  have f9 : ((16 : Int) == 9) = false := rfl
  have f10 : ((16 : Int) == 10) = false := rfl
  have f11 : ((16 : Int) == 11) = false := rfl
  have f12 : ((16 : Int) == 12) = false := rfl
  have f13 : ((16 : Int) == 13) = false := rfl
  have f16 : ((16 : Int) == 16) = true := rfl
  refine DC.weaken (DC.intro mixed (fn := Tryz.f51) rfl rfl rfl ?_)
  (try conv=>whnf);repeat' (first|(apply And.intro<;>try conv=>whnf)|(intro h;first|with_reducible exact tf h (by assumption)|with_reducible exact tf (by assumption) h|try conv=>whnf)|fail)
  refine ⟨.one 0 (.one 1 (.one 2 (.one 3 (.two 4 (.one 5 (.one 6 (.one 7 (.one 8 .done)))) 5 (.two 4 (.one 6 (.one 7 (.one 8 .done))) 6 (.one 4 (.one 7 (.one 8 .done)))))))), [4, 7], by kernel_rfl, ?_⟩
  (try conv=>whnf);repeat' (first|(apply And.intro<;>try conv=>whnf)|(refine hX rfl rfl rfl rfl rfl ?_;intro s1 es1 er1 p1;have q1 := lt64 hO p1;try conv=>whnf)|(refine ann_L (es := es1) (hat Y hly) hM p1.er p1.lt rfl rfl rfl rfl rfl ?_;intro t err2 pv;try conv=>whnf)|fail)
  all_goals
    refine ⟨.pv (u64 t), 3, H0 m acts c es1 err2, ?_, hK _ _ _ ⟨pv.lt, fun k s h => ?_, pv.er, fun h => ?_, fun h => ?_⟩⟩
    · (refine Wk.of ?_ ?_ rfl rfl rfl<;>repeat' (first|exact trivial|exact WkD.same _|exact WkO.same _ _ rfl|refine ⟨?_, ?_⟩|fail))
    · obtain ⟨h1, h2⟩ := p1.inv k s h
      exact ⟨h1, fun h3 => h2 (pv.ok h3).1⟩
    · obtain ⟨h1, h2⟩ := pv.ok h
      obtain ⟨h3, h4⟩ := p1.ok h1
      exact ⟨h3, by rw [ht, annV_dvT hnn h4, h2]⟩
    · by_cases h1 : er1 = 0
      · obtain ⟨h3, h4⟩ := p1.ok h1
        rcases pv.no h with h2 | h2
        · exact absurd h1 h2
        · exact .inr (by rw [ht, annV_dvT hnn h4, h2])
      · rcases p1.no h1 with h2 | h2
        · exact .inl h2
        · exact .inr (by rw [ht]; exact dv_annN h2)
theorem val_17 {acts : List Act} {c : List Nd} {A F i : Nat} {fi ei gi xx yy : Int} (hC : CxD A F acts c) (hS : ∀ a, a ∈ acts → SmA a) (hx : c[i]? = some ⟨17, fi, ei, gi, xx, yy⟩) (hat : ∀ j, j < i → ConE 28 (.pv (.int .i64 (j : Nat))) acts c A F j) :
    ConE 51 (.agg (Nd.dvs ⟨17, fi, ei, gi, xx, yy⟩)) acts c A F i := by
  intro m n es err hM hI hE M w0 base K hK
  have hO := hM.okd.okm
  have hnn : m.n.toNat = n := by rw [hO.nn, Int.toNat_natCast]
  have hn64 := hO.n64
  have h64 := pow64_le hn64
  have hall : 2 ^ n - 1 < 2 ^ n := by have := Nat.two_pow_pos n; omega
  have hnd := hC.okl i _ hx
  have hmem : (⟨17, fi, ei, gi, xx, yy⟩ : Nd) ∈ c := List.mem_iff_getElem?.2 ⟨i, hx⟩
  have hkx := hnd.x rfl
  simp only at hkx
  obtain ⟨X, ex⟩ : ∃ q : Nat, xx = q := ⟨xx.toNat, by omega⟩
  subst ex
  have hlx : X < i := by omega
  have hev := hC.ev _ hmem rfl
  simp only at hev
  obtain ⟨I, eI⟩ : ∃ q : Nat, fi = q := ⟨fi.toNat, by omega⟩
  subst eI
  obtain ⟨E, eE⟩ : ∃ q : Nat, ei = q := ⟨ei.toNat, by omega⟩
  subst eE
  have hIl : I < acts.length := by omega
  obtain ⟨a, hai, had⟩ : ∃ a, acts[I]? = some a ∧ acts.getD I noAct = a := ⟨_, getD_mem hIl, rfl⟩
  have ham : a ∈ acts := List.mem_iff_getElem?.2 ⟨I, hai⟩
  have heN : E < a.pre.length := by
    have := hev.2.2.2
    rw [Int.toNat_natCast, had] at this
    omega
  have f1 : ((17 : Int) == 1) = false := rfl
  have f2 : ((17 : Int) == 2) = false := rfl
  have f3 : ((17 : Int) == 3) = false := rfl
  have f4 : ((17 : Int) == 4) = false := rfl
  have f5 : ((17 : Int) == 5) = false := rfl
  have f6 : ((17 : Int) == 6) = false := rfl
  have f7 : ((17 : Int) == 7) = false := rfl
  have f8 : ((17 : Int) == 8) = false := rfl
  have f9 : ((17 : Int) == 9) = false := rfl
  have f10 : ((17 : Int) == 10) = false := rfl
  have f11 : ((17 : Int) == 11) = false := rfl
  have f12 : ((17 : Int) == 12) = false := rfl
  have f13 : ((17 : Int) == 13) = false := rfl
  have f16 : ((17 : Int) == 16) = false := rfl
  refine DC.weaken (DC.intro mixed (fn := Tryz.f51) rfl rfl rfl ?_)
  (try conv=>whnf);repeat' (first|(apply And.intro<;>try conv=>whnf)|(intro h;first|with_reducible exact tf h (by assumption)|try conv=>whnf)|fail)
  refine ⟨.one 0 (.one 1 (.one 2 (.one 3 (.one 4 (.one 5 (.one 6 (.one 7 (.one 8 (.one 9 (.one 10 (.one 11 (.one 12 (.one 13 (.one 14 .done)))))))))))))), [13], by kernel_rfl, ?_⟩
  (try conv=>whnf);repeat' (first|(apply And.intro<;>try conv=>whnf)|(apply infoT;rfl)|(refine ⟨_, _, rfl, idx_map (by with_reducible assumption), rfl, ?_⟩;try conv=>whnf)|(refine evt_L (es := es) hS ham heN (hat X hlx) hM hE rfl rfl rfl rfl rfl ?_;intro t err2 pv;try conv=>whnf)|fail)
  have ht : tree c i = .nd 17 (I : Int) (E : Int) gi (tree c X) .none := by rw [tree_nd hC.okl hx]; rfl
  have hd : dvT acts (tree c i) m = evtV acts c X m n a E := by rw [ht, evtV_dvT hnn, Int.toNat_natCast, had]
  refine ⟨.pv (u64 t), 3, H0 m acts c es err2, ?_, hK _ _ _ ⟨pv.lt, fun k s h => ?_, pv.er, fun h => ?_, fun h => ?_⟩⟩
  · (refine Wk.of ?_ ?_ rfl rfl rfl<;>repeat' (first|exact trivial|exact WkD.same _|exact WkO.same _ _ rfl|refine ⟨?_, ?_⟩|fail))
  · obtain ⟨h1, h2⟩ := hI k s h
    exact ⟨h1, fun h3 => h2 (pv.ok h3).1⟩
  · obtain ⟨h1, h2⟩ := pv.ok h
    exact ⟨h1, hd.trans h2⟩
  · rcases pv.no h with h2 | h2
    · exact .inl h2
    · exact .inr (hd.trans h2)
theorem value_dc {acts : List Act} {c : List Nd} {A F i : Nat} {x : Nd} (hC : CxD A F acts c) (hS : ∀ a, a ∈ acts → SmA a) (hx : c[i]? = some x) (hat : ∀ j, j < i → ConE 28 (.pv (.int .i64 (j : Nat))) acts c A F j) :
    ConE 51 (.agg x.dvs) acts c A F i := by
  have hop := hC.op x (List.mem_iff_getElem?.2 ⟨i, hx⟩)
  have h1 := (hC.okl i x hx).op.1
  obtain ⟨op, fi, ei, gi, xx, yy⟩ := x
  simp only at hop h1
  have : op = 1 ∨ op = 2 ∨ op = 3 ∨ op = 4 ∨ op = 5 ∨ op = 6 ∨ op = 7 ∨ op = 8 ∨ op = 9 ∨ op = 10 ∨ op = 11 ∨ op = 12 ∨ op = 13 ∨ op = 16 ∨ op = 17 := by omega
  rcases this with rfl | rfl | rfl | rfl | rfl | rfl | rfl | rfl | rfl | rfl | rfl | rfl | rfl | rfl | rfl
  · exact val_1 hC hx hat
  · exact val_2 hC hx hat
  · exact val_3 hC hx hat
  · exact val_4 hC hx hat
  · exact val_5 hC hx hat
  · exact val_6 hC hx hat
  · exact val_7 hC hx hat
  · exact val_8 hC hx hat
  · exact val_9 hC hx hat
  · exact val_10 hC hx hat
  · exact val_11 hC hx hat
  · exact val_12 hC hx hat
  · exact val_13 hC hx hat
  · exact val_16 hC hx hat
  · exact val_17 hC hS hx hat
theorem at_all {acts : List Act} {c : List Nd} {A F : Nat} (hC : CxD A F acts c) (hS : ∀ a, a ∈ acts → SmA a) : ∀ (k i : Nat), i < k → i < c.length → ConE 28 (.pv (.int .i64 (i : Nat))) acts c A F i
  | 0, i, h, _ => by omega
  | k + 1, i, h, hi => at_dc hC hi fun x hx => value_dc hC hS hx fun j hj => at_all hC hS k j (by omega) (by omega)
end Go.Proofs.YtjdmfhggokfflaaGreatDoor
