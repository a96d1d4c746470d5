/- Parts of the proof, one after the other: Reductions: the laws ReduceAfter and ReduceWhole walked. -/
import Derived.Test.YtibbphifegibkaaGreatM9
set_option maxRecDepth 100000
set_option maxHeartbeats 8000000
namespace Go.Proofs.YtibbphifegibkaaGreat
open Go Go.Dv

theorem aftI_len (a : Act) (ev : Int) (f : List Nd) : (aftI a ev f).1.length ≤ 200 := by
  unfold aftI
  cases (chkI a != 0) with
  | true => exact Nat.zero_le _
  | false =>
    cases h2 : (check f != 0) with
    | true => exact Nat.zero_le _
    | false =>
      cases h3 : badEv a ev with
      | true => exact Nat.zero_le _
      | false =>
        cases (bif !stB f then true else and64 (frags f : Nat) 8 != 0) with
        | true => exact Nat.zero_le _
        | false =>
          cases (!fits f (min (a.rel.length : Int) 4) 8) with
          | true => exact Nat.zero_le _
          | false =>
            show (aftF a ev.toNat (comp f)).1.length ≤ 200
            obtain ⟨k, rfl, hk⟩ := badEv_no h3
            rw [Int.toNat_natCast]
            by_cases q : (aftF a k (comp f)).2 = 0
            · exact can_len (aftF_tree hk (comp_okl f) (comp_pos (by simpa using h2)) q).1
            · have : (aftF a k (comp f)).1 = [] := by
                unfold aftF at q ⊢
                cases q2 : ((redE [] (evHd a) (comp f) []).2 != 0) with
                | true => rfl
                | false => rw [q2] at q; exact absurd rfl q
              rw [this]; exact Nat.zero_le _
theorem rdI_len (acts : List Act) (f : List Nd) : (rdI acts f).1.length ≤ 200 := by
  by_cases q : (rdI acts f).2 = 0
  · exact can_len (rd_fine q).2.1
  · rw [rd_zero q]; exact Nat.zero_le _
theorem l30_after (a : Act) (ev : Int) (f : List Nd) (hS : fewL [a] [f] = true → SmX a) : PureFn Tryz.prog 3 [a.pv, .int .i64 ev, fpv f] (.bool true) := by
  have hA := rl_awake
  have hW := rl_few [a] [f] (by simp)
  cases hfw : fewL [a] [f] with
  | false =>
    rw [hfw] at hW
    refine PureFn.introC [3] mixed (fn := Tryz.f3) rfl rfl rfl fun M w0 => ?_
    try conv=>whnf
    refine ⟨{ _x : Unit // False }, fun _ => [], fun _ => 0, fun _ => [], ?_, fun ⟨_, h⟩ => h.elim⟩
    (try conv=>whnf);repeat' (first|(apply And.intro<;>try conv=>whnf)|(intro h;try conv=>whnf)|apply True.intro|(apply cellsI;rfl)|(apply WhenQ.mk;(try conv=>whnf);rotate_left;(try conv=>whnf);rotate_right)|with_reducible assumption|(apply not_of;with_reducible assumption)|(refine PureFn.dcq (f := 6) rfl ?_;try conv=>whnf)|(refine PureFn.dcq (f := 5) rfl ?_;try conv=>whnf)|(refine ⟨_, _, hW, ?_, ?_⟩;(focus first|(refine ⟨?_, ?_, trivial⟩<;>first|exact PLe.refl _|exact PLe.nil)|exact trivial);try conv=>whnf)|(refine ⟨_, _, hA, ?_, ?_⟩;(focus first|(refine ⟨trivial⟩<;>first|exact PLe.refl _|exact PLe.nil)|exact trivial);try conv=>whnf)|fail)
    · exact .refl _
    · exact absurd h (by decide)
  | true =>
    rw [hfw] at hW
    have hSa := hS hfw
    have hX := red_After a ev f hSa
    have hY := rr_After a ev f hSa
    have hl := aftI_len a ev f
    generalize aftI a ev f = z at hX hY hl
    obtain ⟨x, e⟩ := z
    have hE := ref_Equal x x (Nat.le_trans hl (by decide))
    refine PureFn.introC [3] mixed (fn := Tryz.f3) rfl rfl rfl fun M w0 => ?_
    try conv=>whnf
    refine ⟨Unit, fun _ => [(1, .pv (.int .i64 ev)), (2, .pv (fpv f)), (3, .ref 0 0)], fun _ => 1, fun _ => [(0, .var (cellsA a))], ?_, ?_⟩
    · (try conv=>whnf);repeat' (first|(apply And.intro<;>try conv=>whnf)|(intro h;try conv=>whnf)|apply True.intro|(apply cellsI;rfl)|(apply WhenQ.mk;(try conv=>whnf);rotate_left;(try conv=>whnf);rotate_right)|with_reducible assumption|(apply not_of;with_reducible assumption)|(refine PureFn.dcq (f := 6) rfl ?_;try conv=>whnf)|(refine PureFn.dcq (f := 5) rfl ?_;try conv=>whnf)|(refine ⟨_, _, hW, ?_, ?_⟩;(focus first|(refine ⟨?_, ?_, trivial⟩<;>first|exact PLe.refl _|exact PLe.nil)|exact trivial);try conv=>whnf)|(refine ⟨_, _, hA, ?_, ?_⟩;(focus first|(refine ⟨trivial⟩<;>first|exact PLe.refl _|exact PLe.nil)|exact trivial);try conv=>whnf)|fail)
      · exact .refl _
      · exact ⟨(), (by refine Wk.of ?_ ?_ rfl rfl rfl<;>repeat' (first|exact trivial|exact WkD.same _|exact WkO.same _ _ rfl|refine ⟨?_, ?_⟩|fail))⟩
    rintro ⟨⟩
    (try conv=>whnf);repeat' (first|(apply And.intro<;>try conv=>whnf)|(intro h;try conv=>whnf)|apply True.intro|(apply WhenQ.mk;(try conv=>whnf);rotate_left;(try conv=>whnf);rotate_right)|with_reducible assumption|(refine PureFn.dcq (f := 7) rfl ?_;try conv=>whnf)|(refine PureFn.dcq (f := 8) rfl ?_;try conv=>whnf)|(refine PureFn.dcq (f := 9) rfl ?_;try conv=>whnf)|(refine ⟨_, _, hX, ?_, ?_⟩;(focus first|(refine ⟨?_, ?_, ?_, trivial⟩<;>first|exact PLe.refl _|exact PLe.nil)|exact trivial);try conv=>whnf)|(refine ⟨_, _, hY, ?_, ?_⟩;(focus first|(refine ⟨?_, ?_, ?_, trivial⟩<;>first|exact PLe.refl _|exact PLe.nil)|exact trivial);try conv=>whnf)|(refine ⟨_, _, hE, ?_, ?_⟩;(focus first|(refine ⟨?_, ?_, trivial⟩<;>first|exact PLe.refl _|exact PLe.nil)|exact trivial);try conv=>whnf)|fail)
    exact le_bool (by simp)
theorem l30_whole (acts : List Act) (f : List Nd) (hS : fewL acts [f] = true → ∀ a, a ∈ acts → SmX a) : PureFn Tryz.prog 4 [actsPV acts, fpv f] (.bool true) := by
  have hA := rl_awake
  have hW := rl_few acts [f] (by simp)
  cases hfw : fewL acts [f] with
  | false =>
    rw [hfw] at hW
    refine PureFn.introC [3] mixed (fn := Tryz.f4) rfl rfl rfl fun M w0 => ?_
    try conv=>whnf
    refine ⟨{ _x : Unit // False }, fun _ => [], fun _ => 0, fun _ => [], ?_, fun ⟨_, h⟩ => h.elim⟩
    (try conv=>whnf);repeat' (first|(apply And.intro<;>try conv=>whnf)|(intro h;try conv=>whnf)|apply True.intro|(apply cellsI;rfl)|(apply WhenQ.mk;(try conv=>whnf);rotate_left;(try conv=>whnf);rotate_right)|with_reducible assumption|(apply not_of;with_reducible assumption)|(refine PureFn.dcq (f := 6) rfl ?_;try conv=>whnf)|(refine PureFn.dcq (f := 5) rfl ?_;try conv=>whnf)|(refine ⟨_, _, hW, ?_, ?_⟩;(focus first|(refine ⟨?_, ?_, trivial⟩<;>first|exact PLe.refl _|exact PLe.nil)|exact trivial);try conv=>whnf)|(refine ⟨_, _, hA, ?_, ?_⟩;(focus first|(refine ⟨trivial⟩<;>first|exact PLe.refl _|exact PLe.nil)|exact trivial);try conv=>whnf)|fail)
    · exact .refl _
    · exact absurd h (by decide)
  | true =>
    rw [hfw] at hW
    have hX := red_Reduce acts f (hS hfw)
    have hY := rr_Reduce acts f (hS hfw)
    have hl := rdI_len acts f
    generalize rdI acts f = z at hX hY hl
    obtain ⟨x, e⟩ := z
    have hE := ref_Equal x x (Nat.le_trans hl (by decide))
    refine PureFn.introC [3] mixed (fn := Tryz.f4) rfl rfl rfl fun M w0 => ?_
    try conv=>whnf
    refine ⟨Unit, fun _ => [(0, .pv (actsPV acts)), (1, .pv (fpv f))], fun _ => 0, fun _ => [], ?_, ?_⟩
    · (try conv=>whnf);repeat' (first|(apply And.intro<;>try conv=>whnf)|(intro h;try conv=>whnf)|apply True.intro|(apply cellsI;rfl)|(apply WhenQ.mk;(try conv=>whnf);rotate_left;(try conv=>whnf);rotate_right)|with_reducible assumption|(apply not_of;with_reducible assumption)|(refine PureFn.dcq (f := 6) rfl ?_;try conv=>whnf)|(refine PureFn.dcq (f := 5) rfl ?_;try conv=>whnf)|(refine ⟨_, _, hW, ?_, ?_⟩;(focus first|(refine ⟨?_, ?_, trivial⟩<;>first|exact PLe.refl _|exact PLe.nil)|exact trivial);try conv=>whnf)|(refine ⟨_, _, hA, ?_, ?_⟩;(focus first|(refine ⟨trivial⟩<;>first|exact PLe.refl _|exact PLe.nil)|exact trivial);try conv=>whnf)|fail)
      · exact .refl _
      · exact ⟨(), (by refine Wk.of ?_ ?_ rfl rfl rfl<;>repeat' (first|exact trivial|exact WkD.same _|refine ⟨?_, ?_⟩|fail))⟩
    rintro ⟨⟩
    (try conv=>whnf);repeat' (first|(apply And.intro<;>try conv=>whnf)|(intro h;try conv=>whnf)|apply True.intro|(apply WhenQ.mk;(try conv=>whnf);rotate_left;(try conv=>whnf);rotate_right)|with_reducible assumption|(refine PureFn.dcq (f := 10) rfl ?_;try conv=>whnf)|(refine PureFn.dcq (f := 11) rfl ?_;try conv=>whnf)|(refine PureFn.dcq (f := 9) rfl ?_;try conv=>whnf)|(refine ⟨_, _, hX, ?_, ?_⟩;(focus first|(refine ⟨?_, ?_, trivial⟩<;>first|exact PLe.refl _|exact PLe.nil)|exact trivial);try conv=>whnf)|(refine ⟨_, _, hY, ?_, ?_⟩;(focus first|(refine ⟨?_, ?_, trivial⟩<;>first|exact PLe.refl _|exact PLe.nil)|exact trivial);try conv=>whnf)|(refine ⟨_, _, hE, ?_, ?_⟩;(focus first|(refine ⟨?_, ?_, trivial⟩<;>first|exact PLe.refl _|exact PLe.nil)|exact trivial);try conv=>whnf)|fail)
    exact le_bool (by simp)
theorem few_sme {acts : List Act} {l : List (List Nd)} (hf : ∀ a, a ∈ acts → Fit a) (h : fewL acts l = true) : ∀ a, a ∈ acts → SmX a := fun a ha => by
  obtain ⟨_, _, h3, _, h5⟩ := (fewR_ok (few_len h).1).2 a ha
  exact ⟨hf a ha, by omega, fun l hl => by have := h5 l hl; omega⟩
theorem u_actz : Tryz.prog.underlying 30 = some (.slice 26) := by kernel_rfl
theorem arg_actz {n : Nat} {p : PV} (h : TyA Tryz.prog (n + 8) 30 p) : ∃ acts : List Act, PLe p (actsPV acts) ∧ ∀ a, a ∈ acts → Fit a :=
  el_of (n := n + 7) (g := Act.pv) (Q := Fit) u_actz (fun _ hp => arg_act (n := n) hp) p h
theorem l30e_args (ps : List PV) (hps : TyAll Tryz.prog 8 Tryz.f3.params.toList ps) : PureFn Tryz.prog 3 ps (.bool true) := by
  obtain ⟨p1, r1, rfl, h1, p2, r2, rfl, h2, p3, r3, rfl, h3, rfl⟩ := hps
  obtain ⟨a, ha, hF⟩ := arg_act (n := 1) h1
  obtain ⟨ev, rfl, _⟩ := arg_int (n := 7) h2
  obtain ⟨f, hf⟩ := arg_nodes (n := 5) h3
  exact (l30_after a ev f fun h => few_sme (fun b hb => by rw [List.mem_singleton.1 hb]; exact hF) h a (by simp)).le ⟨ha, .refl _, hf, trivial⟩
theorem l30w_args (ps : List PV) (hps : TyAll Tryz.prog 8 Tryz.f4.params.toList ps) : PureFn Tryz.prog 4 ps (.bool true) := by
  obtain ⟨p1, r1, rfl, h1, p2, r2, rfl, h2, rfl⟩ := hps
  obtain ⟨acts, ha, hF⟩ := arg_actz (n := 0) h1
  obtain ⟨f, hf⟩ := arg_nodes (n := 5) h2
  exact (l30_whole acts f (few_sme hF)).le ⟨ha, hf, trivial⟩
end Go.Proofs.YtibbphifegibkaaGreat
