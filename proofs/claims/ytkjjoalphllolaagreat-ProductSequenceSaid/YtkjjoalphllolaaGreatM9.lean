/- Parts of the proof, one after the other: The checker's reference walked: Check, Sets, Holds. The checker's reference walked: Holds. The reference of products walked: Worlds. The reference of products walked: value. The reference of products walked: Update. The reference of models walked: Copy. Products one after the other: the reference walked. Products: the examples of the law; models as arguments. The reference of products walked: At, SamePairs; the laws ProductUpdates and ProductAt. Products one after the other: the law ProductSequence and its arguments. -/
import Derived.Test.YtkjjoalphllolaaGreatM8
set_option maxRecDepth 100000
set_option maxHeartbeats 4000000
namespace Go.Proofs.YtkjjoalphllolaaGreat
open Go Go.Dv

theorem rc_Check (m : Mo) (f : List Nd) (hf : FitM m) : PureFn Tryz.prog 60 [m.pv, fpv f, .int .i64 15] (.int .i64 (reqI m f)) := by
  refine PureFn.introC [2, 5] mixed (fn := Tryz.f60) rfl rfl rfl fun M w0 => ?_
  have hC := rm_Check m hf
  have h1 := ref_Check f
  have h2 := ref_Frags f
  have h3 := ref_Fits f ((m.rel.map rowPV).length : Nat) ((m.val.map u64).length : Nat)
  rw [reqI, statI, show (m.rel.length : Int) = ((m.rel.map rowPV).length : Nat) by simp, show (m.val.length : Int) = ((m.val.map u64).length : Nat) by simp]
  generalize moI m = c at hC
  generalize check f = d at h1
  generalize fits f ((m.rel.map rowPV).length : Nat) ((m.val.map u64).length : Nat) = b at h3
  try conv=>whnf
  refine ⟨Unit, fun _ => [(1, .pv (fpv f)), (2, .pv (.int .i64 15)), (3, .ref 0 0), (7, .pv (.int .i64 c))], fun _ => 1, fun _ => HM m, ?_, ?_⟩
  · (try conv=>whnf);repeat' (first|(refine PureFn.dcq (f := 18) rfl ?_;try conv=>whnf)|(refine ⟨_, _, hC, ?_, ?_⟩;(focus first|(refine ⟨?_, trivial⟩<;>first|exact PLe.refl _|exact PLe.nil)|exact trivial);try conv=>whnf)|fail)
    exact ⟨(), (by refine Wk.of ?_ ?_ rfl rfl rfl<;>repeat' (first|exact trivial|exact WkD.same _|exact WkO.same _ _ rfl|refine ⟨?_, ?_⟩|fail))⟩
  rintro ⟨⟩
  (try conv=>whnf);repeat' (first|(apply And.intro<;>try conv=>whnf)|(intro h;try conv=>whnf)|fail)
  · rw [show (c != 0) = true from h]; exact .refl _
  refine ⟨Unit, fun _ => [(1, .pv (fpv f)), (2, .pv (.int .i64 15)), (3, .ref 0 0), (7, .pv (.int .i64 d))], fun _ => 1, fun _ => HM m, ?_, ?_⟩
  · (try conv=>whnf);repeat' (first|(refine PureFn.dcq (f := 82) rfl ?_;try conv=>whnf)|(refine ⟨_, _, h1, ?_, ?_⟩;(focus first|(refine ⟨?_, trivial⟩<;>first|exact PLe.refl _|exact PLe.nil)|exact trivial);try conv=>whnf)|fail)
    exact ⟨(), (by refine Wk.of ?_ ?_ rfl rfl rfl<;>repeat' (first|exact trivial|exact WkD.same _|exact WkO.same _ _ rfl|refine ⟨?_, ?_⟩|fail))⟩
  rintro ⟨⟩
  rw [show (c != 0) = false from h]
  (try conv=>whnf);repeat' (first|(apply And.intro<;>try conv=>whnf)|(intro h;try conv=>whnf)|(refine PureFn.dcq (f := 83) rfl ?_;try conv=>whnf)|(refine PureFn.dcq (f := 84) rfl ?_;try conv=>whnf)|(refine ⟨_, _, h2, ?_, ?_⟩;(focus first|(refine ⟨?_, trivial⟩<;>first|exact PLe.refl _|exact PLe.nil)|exact trivial);try conv=>whnf)|(refine ⟨_, _, h3, ?_, ?_⟩;(focus first|(refine ⟨?_, ?_, ?_, trivial⟩<;>first|exact PLe.refl _|exact PLe.nil)|exact trivial);try conv=>whnf)|fail)
  · rw [show (d != 0) = true from h]; exact .refl _
  · rename_i hd
    rw [show (d != 0) = false from hd, show (nand64' (frags f : Nat) 15 != 0) = true from h]; exact .refl _
  · rename_i hd hn
    rw [show (d != 0) = false from hd, show (nand64' (frags f : Nat) 15 != 0) = false from hn, h]; exact .refl _
  · rename_i hd hn
    rw [show (d != 0) = false from hd, show (nand64' (frags f : Nat) 15 != 0) = false from hn, h]; exact .refl _
theorem rc_fits (m : Mo) (f : List Nd) (i : Nat) (hs : statI (m.rel.length : Int) (m.val.length : Int) (sub f i) = 0) : PureFn Tryz.prog 77 [m.pv, fpv f, i64 i] (.bool true) := by
  refine PureFn.introC [2] mixed (fn := Tryz.f77) rfl rfl rfl fun M w0 => ?_
  have h1 := ref_Sub f i
  have h2 := ref_Frags (sub f i)
  have h3 := ref_Fits (sub f i) ((m.rel.map rowPV).length : Nat) ((m.val.map u64).length : Nat)
  obtain ⟨_, hs1, hs2⟩ := statI_ok hs
  rw [show (m.rel.length : Int) = ((m.rel.map rowPV).length : Nat) by simp, show (m.val.length : Int) = ((m.val.map u64).length : Nat) by simp] at hs2
  rw [hs2] at h3
  generalize sub f i = g at h1 h2 h3 hs1
  try conv=>whnf
  refine ⟨Unit, fun _ => [(3, .ref 0 0), (7, .pv (fpv g))], fun _ => 1, fun _ => HM m, ?_, ?_⟩
  · (try conv=>whnf);repeat' (first|(refine PureFn.dcq (f := 81) rfl ?_;try conv=>whnf)|(refine ⟨_, _, h1, ?_, ?_⟩;(focus first|(refine ⟨?_, ?_, trivial⟩<;>first|exact PLe.refl _|exact PLe.nil)|exact trivial);try conv=>whnf)|fail)
    exact ⟨(), (by refine Wk.of ?_ ?_ rfl rfl rfl<;>repeat' (first|exact trivial|exact WkD.same _|exact WkO.same _ _ rfl|refine ⟨?_, ?_⟩|fail))⟩
  rintro ⟨⟩
  (try conv=>whnf);repeat' (first|(apply And.intro<;>try conv=>whnf)|(intro h;try conv=>whnf)|apply True.intro|(apply WhenQ.mk;(try conv=>whnf);rotate_left;(try conv=>whnf);rotate_right)|with_reducible assumption|(refine PureFn.dcq (f := 83) rfl ?_;try conv=>whnf)|(refine PureFn.dcq (f := 84) rfl ?_;try conv=>whnf)|(refine ⟨_, _, h2, ?_, ?_⟩;(focus first|(refine ⟨?_, trivial⟩<;>first|exact PLe.refl _|exact PLe.nil)|exact trivial);try conv=>whnf)|(refine ⟨_, _, h3, ?_, ?_⟩;(focus first|(refine ⟨?_, ?_, ?_, trivial⟩<;>first|exact PLe.refl _|exact PLe.nil)|exact trivial);try conv=>whnf)|fail)
  refine le_bool ?_
  show (bif nand64' (frags g : Nat) 15 == 0 then true else false) = true
  rw [show nand64' (frags g : Nat) 15 = 0 by simpa using hs1]; rfl
theorem rc_Sets_bad (m : Mo) (f : List Nd) (hf : FitM m) (h0 : (reqI m f != 0) = true) : PureFn Tryz.prog 58 [m.pv, fpv f] (.tup [.nil, .int .i64 (reqI m f)]) := by
  refine PureFn.introC [2] mixed (fn := Tryz.f58) rfl rfl rfl fun M w0 => ?_
  have hC := rc_Check m f hf
  generalize reqI m f = c at h0 hC
  try conv=>whnf
  refine ⟨Unit, fun _ => [(6, .pv (.int .i64 c))], fun _ => 1, fun _ => HM m, ?_, ?_⟩
  · (try conv=>whnf);repeat' (first|(refine PureFn.dcq (f := 60) rfl ?_;try conv=>whnf)|(refine ⟨_, _, hC, ?_, ?_⟩;(focus first|(refine ⟨?_, ?_, ?_, trivial⟩<;>first|exact PLe.refl _|exact PLe.nil)|exact trivial);try conv=>whnf)|fail)
    exact ⟨(), (by refine Wk.of ?_ ?_ rfl rfl rfl<;>repeat' (first|exact trivial|exact WkD.same _|exact WkO.same _ _ rfl|refine ⟨?_, ?_⟩|fail))⟩
  rintro ⟨⟩
  (try conv=>whnf);repeat' (first|(apply And.intro<;>try conv=>whnf)|(intro h;first|with_reducible exact tf (by assumption) h|try conv=>whnf)|fail)
  all_goals exact .refl _
theorem setsR_lt {m : Mo} {n : Nat} (hM : OkM m n) (f : List Nd) : ∀ v, v ∈ setsR m n f → v < 2 ^ n := by
  have key : ∀ (l : List Nd) (acc : List Nat), (∀ v, v ∈ acc → v < 2 ^ n) → ∀ v, v ∈ l.foldl (fun acc x => acc ++ [nodeR m n acc x]) acc → v < 2 ^ n := by
    intro l
    induction l with
    | nil => intro acc h; exact h
    | cons x r ih =>
      intro acc h
      refine ih _ fun v hv => ?_
      rcases List.mem_append.1 hv with hv | hv
      · exact h v hv
      · rw [List.mem_singleton.1 hv]
        have hg : ∀ j, acc.getD j 0 < 2 ^ n := fun j => by
          rw [List.getD_eq_getElem?_getD]
          cases hq : acc[j]? with
          | none => exact Nat.two_pow_pos n
          | some w => exact h w (List.mem_iff_getElem?.2 ⟨j, hq⟩)
        exact vlN_lt hM.vbits (bif_lt (hg _) (Nat.two_pow_pos n)) (bif_lt (hg _) (Nat.two_pow_pos n))
  exact key f [] (by simp)
theorem rc_Sets (m : Mo) (n : Nat) (hM : OkM m n) (f : List Nd) (h0 : reqI m f = 0) (hok : Okl f) (hfl : f.length ≤ 200) (hsub : ∀ i, i < f.length → statI (m.rel.length : Int) (m.val.length : Int) (sub f i) = 0) (hq : ∀ x, x ∈ f → fitQ m x.op x.i x.e x.g = true) :
    PureFn Tryz.prog 58 [m.pv, fpv f] (.tup [.sl ((setsR m n f).map u64), .int .i64 0]) := by
  refine PureFn.introC [2, 11, 13, 15] mixed (fn := Tryz.f58) rfl rfl rfl fun M w0 => ?_
  have hC := rc_Check m f hM.fit
  rw [h0] at hC
  have hfl2 : ((f.map Nd.pv).length : Int) = (f.length : Int) := by simp
  try conv=>whnf
  refine ⟨Unit, fun _ => [(1, .pv (fpv f)), (2, .ref 0 0), (6, .pv (.int .i64 0))], fun _ => 1, fun _ => HM m, ?_, ?_⟩
  · (try conv=>whnf);repeat' (first|(refine PureFn.dcq (f := 60) rfl ?_;try conv=>whnf)|(refine ⟨_, _, hC, ?_, ?_⟩;(focus first|(refine ⟨?_, ?_, ?_, trivial⟩<;>first|exact PLe.refl _|exact PLe.nil)|exact trivial);try conv=>whnf)|fail)
    exact ⟨(), (by refine Wk.of ?_ ?_ rfl rfl rfl<;>repeat' (first|exact trivial|exact WkD.same _|exact WkO.same _ _ rfl|refine ⟨?_, ?_⟩|fail))⟩
  rintro ⟨⟩
  (try conv=>whnf);repeat' (first|(apply And.intro<;>try conv=>whnf)|(intro h;try conv=>whnf)|fail)
  · exact absurd (show (!((0 : Int) == 0)) = true from h) (by decide)
  refine ⟨{ i : Nat // i ≤ f.length }, fun i => [(1, .pv (fpv f)), (2, .ref 0 0), (7, .buf 1 ((setsR m n (f.take i.1)).map u64).length), (8, .pv (i64 i.1))], fun _ => 2, fun i => [(0, .var (cellsM m)), (1, .arr 1 ((setsR m n (f.take i.1)).map u64))], fun i => f.length - i.1, ⟨⟨0, Nat.zero_le _⟩, (by refine Wk.of ?_ ?_ rfl rfl rfl<;>repeat' (first|exact trivial|exact WkD.same _|exact WkO.same _ _ rfl|exact WkD.new' rfl rfl rfl|exact WkO.new _ _ rfl|exact rfl|refine ⟨?_, ?_⟩|fail))⟩, ?_⟩
  intro i
  have hi := i.2
  have hAl := setsR_len (m := m) (n := n) (f := f) i.1 hi
  have hlt := setsR_lt hM (f.take i.1)
  have hAb : ∀ j, (setsR m n (f.take i.1)).getD j 0 < 2 ^ n := fun j => getD_lt (Nat.two_pow_pos n) hlt
  have hAm : ((setsR m n (f.take i.1)).map u64).length = i.1 := by rw [List.length_map, hAl]
  (try conv=>whnf);repeat' (first|(apply And.intro<;>try conv=>whnf)|(intro h;try conv=>whnf)|(apply bleI;rfl)|fail)
  · have hi' : i.1 < f.length := by simpa using lt_dec h
    have hfi := rc_fits m f i.1 (hsub i.1 hi')
    have hx : f[i.1]? = some f[i.1] := List.getElem?_eq_getElem hi'
    have hk := hok i.1 _ hx
    have hqx := hq _ (List.getElem_mem hi')
    have hA3 := setsR_take (m := m) (n := n) hi'
    have hUX := ref_UsesX f[i.1].op
    have hUY := ref_UsesY f[i.1].op
    (try conv=>whnf);repeat' (first|(apply And.intro<;>try conv=>whnf)|(intro h;first|with_reducible exact nt0 h|try conv=>whnf)|(refine PureFn.dcq (f := 77) rfl ?_;try conv=>whnf)|(refine ⟨_, _, hfi, ?_, ?_⟩;(focus first|(refine ⟨?_, ?_, ?_, trivial⟩<;>first|exact PLe.refl _|exact PLe.nil)|exact trivial);try conv=>whnf)|fail)
    refine ⟨Unit, fun _ => [(1, .pv (fpv f)), (2, .ref 0 0), (7, .buf 1 ((setsR m n (f.take i.1)).map u64).length), (8, .pv (i64 i.1)), (9, .pv (u64 (0))), (10, .pv (u64 (0)))], fun _ => 2, fun _ => [(0, .var (cellsM m)), (1, .arr 1 ((setsR m n (f.take i.1)).map u64))], ?_, ?_⟩
    · try conv=>whnf
      exact ⟨(), (by refine Wk.of ?_ ?_ rfl rfl rfl<;>repeat' (first|exact trivial|exact WkD.same _|exact WkO.same _ _ rfl|refine ⟨?_, ?_⟩|fail))⟩
    rintro ⟨⟩
    refine ⟨Unit, fun _ => [(1, .pv (fpv f)), (2, .ref 0 0), (7, .buf 1 ((setsR m n (f.take i.1)).map u64).length), (8, .pv (i64 i.1)), (9, .pv (u64 ((bif usesX f[i.1].op then (setsR m n (f.take i.1)).getD f[i.1].x.toNat 0 else 0)))), (10, .pv (u64 (0)))], fun _ => 2, fun _ => [(0, .var (cellsM m)), (1, .arr 1 ((setsR m n (f.take i.1)).map u64))], ?_, ?_⟩
    · (try conv=>whnf);repeat' (first|(apply And.intro<;>try conv=>whnf)|(intro h;try conv=>whnf)|(apply infoT;rfl)|(refine ⟨_, _, rfl, idx_map (by with_reducible assumption), rfl, ?_⟩;try conv=>whnf)|(refine PureFn.dcq (f := 78) rfl ?_;try conv=>whnf)|(refine ⟨_, _, hUX, ?_, ?_⟩;(focus first|(refine ⟨?_, trivial⟩<;>first|exact PLe.refl _|exact PLe.nil)|exact trivial);try conv=>whnf)|fail)
      · have hkx := hk.x h
        have hj : f[i.1].x.toNat < (setsR m n (f.take i.1)).length := by omega
        refine ⟨f[i.1].x.toNat, by omega, by rw [List.length_map]; exact hj, ?_⟩
        (try conv=>whnf);repeat' (first|(apply And.intro<;>try conv=>whnf)|fail)
        refine ⟨_, idx_map (g := u64) (getD_mem hj (d := 0)), ?_⟩
        try conv=>whnf
        rw [show usesX f[i.1].op = true from h]
        exact ⟨(), (by refine Wk.of ?_ ?_ rfl rfl rfl<;>repeat' (first|exact trivial|exact WkD.same _|exact WkO.same _ _ rfl|refine ⟨?_, ?_⟩|fail))⟩
      · rw [show usesX f[i.1].op = false from h]
        exact ⟨(), (by refine Wk.of ?_ ?_ rfl rfl rfl<;>repeat' (first|exact trivial|exact WkD.same _|exact WkO.same _ _ rfl|refine ⟨?_, ?_⟩|fail))⟩
    rintro ⟨⟩
    refine ⟨Unit, fun _ => [(1, .pv (fpv f)), (2, .ref 0 0), (7, .buf 1 ((setsR m n (f.take i.1)).map u64).length), (8, .pv (i64 i.1)), (9, .pv (u64 ((bif usesX f[i.1].op then (setsR m n (f.take i.1)).getD f[i.1].x.toNat 0 else 0)))), (10, .pv (u64 ((bif usesY f[i.1].op then (setsR m n (f.take i.1)).getD f[i.1].y.toNat 0 else 0))))], fun _ => 2, fun _ => [(0, .var (cellsM m)), (1, .arr 1 ((setsR m n (f.take i.1)).map u64))], ?_, ?_⟩
    · (try conv=>whnf);repeat' (first|(apply And.intro<;>try conv=>whnf)|(intro h;try conv=>whnf)|(apply infoT;rfl)|(refine ⟨_, _, rfl, idx_map (by with_reducible assumption), rfl, ?_⟩;try conv=>whnf)|(refine PureFn.dcq (f := 79) rfl ?_;try conv=>whnf)|(refine ⟨_, _, hUY, ?_, ?_⟩;(focus first|(refine ⟨?_, trivial⟩<;>first|exact PLe.refl _|exact PLe.nil)|exact trivial);try conv=>whnf)|fail)
      · have hkx := hk.y h
        have hj : f[i.1].y.toNat < (setsR m n (f.take i.1)).length := by omega
        refine ⟨f[i.1].y.toNat, by omega, by rw [List.length_map]; exact hj, ?_⟩
        (try conv=>whnf);repeat' (first|(apply And.intro<;>try conv=>whnf)|fail)
        refine ⟨_, idx_map (g := u64) (getD_mem hj (d := 0)), ?_⟩
        try conv=>whnf
        rw [show usesY f[i.1].op = true from h]
        exact ⟨(), (by refine Wk.of ?_ ?_ rfl rfl rfl<;>repeat' (first|exact trivial|exact WkD.same _|exact WkO.same _ _ rfl|refine ⟨?_, ?_⟩|fail))⟩
      · rw [show usesY f[i.1].op = false from h]
        exact ⟨(), (by refine Wk.of ?_ ?_ rfl rfl rfl<;>repeat' (first|exact trivial|exact WkD.same _|exact WkO.same _ _ rfl|refine ⟨?_, ?_⟩|fail))⟩
    rintro ⟨⟩
    have hV := rc_One m n hM f[i.1] _ hk hqx (bif usesX f[i.1].op then (setsR m n (f.take i.1)).getD f[i.1].x.toNat 0 else 0) (bif usesY f[i.1].op then (setsR m n (f.take i.1)).getD f[i.1].y.toNat 0 else 0) (bif_lt (hAb _) (Nat.two_pow_pos n)) (bif_lt (hAb _) (Nat.two_pow_pos n))
    have hes : (setsR m n (f.take i.1)).map u64 ++ [u64 (vlN m n f[i.1].op f[i.1].i f[i.1].g (bif usesX f[i.1].op then (setsR m n (f.take i.1)).getD f[i.1].x.toNat 0 else 0) (bif usesY f[i.1].op then (setsR m n (f.take i.1)).getD f[i.1].y.toNat 0 else 0))] = (setsR m n (f.take (i.1 + 1))).map u64 := by rw [hA3, List.map_append]; rfl
    try conv=>whnf
    refine ⟨Plan.lin 0 12, [], by kernel_rfl, ?_⟩
    (try conv=>whnf);repeat' (first|(apply And.intro<;>try conv=>whnf)|(apply infoT;rfl)|(apply cellsI;rfl)|(apply szI;rfl)|(refine ⟨_, _, rfl, idx_map (by with_reducible assumption), rfl, ?_⟩;try conv=>whnf)|(refine ⟨_, (by (conv=>whnf);exact hV), rfl, ?_⟩;try conv=>whnf)|fail)
    · exact app_big (n := 200) (by omega) (by decide)
    · refine ⟨⟨i.1 + 1, hi'⟩, by show f.length - (i.1 + 1) < f.length - i.1; omega, ?_⟩
      (refine Wk.of ?_ ?_ rfl rfl rfl<;>repeat' (first|exact trivial|exact WkD.same _|exact WkO.same _ _ rfl|exact WkD.eq (congrArg (fun z : List PV => DV.buf _ z.length) hes)|exact WkO.same _ _ (congrArg (fun z => some (DObj.arr _ z)) hes)|refine WkD.int ?_|refine ⟨?_, ?_⟩|(refine wrapA ?_ ?_ ?_;(focus simp;done);(focus (try dsimp only);omega);(focus (try dsimp only);omega))|fail))
  · have hi' : i.1 = f.length := by have := ge_dec (m := (f.map Nd.pv).length) h (by simpa using hi); simpa using this
    rw [hi', List.take_length]
    exact .refl _
end Go.Proofs.YtkjjoalphllolaaGreat
set_option maxRecDepth 100000
set_option maxHeartbeats 4000000
namespace Go.Proofs.YtkjjoalphllolaaGreat
open Go Go.Dv

theorem stat_comp {A F : Nat} {f : List Nd} (h : statI A F (comp f) = 0) : statI A F f = 0 := by
  obtain ⟨h1, h2⟩ := statM_iff.1 h
  have hc : check f = 0 := by
    by_cases q : check f = 0
    · exact q
    · rw [comp_none q] at h1
      exact absurd h1 (by decide)
  rw [comp_comp hc] at h2
  exact statM_iff.2 ⟨hc, h2⟩
theorem stat_comp' {A F : Nat} {f : List Nd} (h : statI A F f = 0) : statI A F (comp f) = 0 := by
  obtain ⟨h1, h2⟩ := statM_iff.1 h
  exact statM_iff.2 ⟨comp_check h1, by rw [comp_comp h1]; exact h2⟩
theorem sub_ofcomp {f : List Nd} (h : check f = 0) {i : Nat} (hi : i < (comp f).length) : sub (comp f) i = canon (comp f) i := by
  rw [sub, comp_check h, decide_eq_false (by omega), decide_eq_false (by omega)]
  rfl
theorem rc_Holds (m : Mo) (f : List Nd) (hf : FitM m) : PureFn Tryz.prog 47 [m.pv, fpv f] (.tup [u64 (holdsI m f).1, .int .i64 (holdsI m f).2]) := by
  have hK := ref_Compact f
  by_cases h0 : reqI m f = 0
  · obtain ⟨⟨n, hM⟩, hst⟩ := reqI_ok h0
    have hag := hM.ag
    have hch := (statM_iff.1 hst).1
    have hall := (statM_iff.1 hst).2
    have hr : reqI m (comp f) = 0 := by rw [reqI, ok_moI hM]; exact stat_comp' hst
    have hS := rc_Sets m n hM (comp f) hr (comp_okl f) (comp_len f) (fun i hi => by rw [sub_ofcomp hch hi]; exact sub_stat (comp_okl f) hall (comp_len f) hi) (fun x hx => by
      obtain ⟨k, hk⟩ := okl_mem (comp_okl f) hx
      exact fitQ_of hag hk (hall x hx))
    have hL := last_R (n := n) hag hst
    have hp := comp_pos hch
    have hsl : (setsR m n (comp f)).length = (comp f).length := by
      have := setsR_len (m := m) (n := n) (f := comp f) (comp f).length (Nat.le_refl _)
      rwa [List.take_length] at this
    have hcl := comp_len f
    have hres : holdsI m f = (vlT m n (root f), 0) := by rw [holdsI, h0, hM.nn, Int.toNat_natCast]; rfl
    rw [hres]
    rw [← hsl] at hL hp hcl
    generalize setsR m n (comp f) = S at hS hL hp hcl
    generalize comp f = g at hK hS
    generalize vlT m n (root f) = v at hL
    have e1 : ((S.map u64).length : Int) = (S.length : Int) := by simp
    have hw : IntKind.wrap .i64 (((S.map u64).length : Int) - 1) = ((S.length - 1 : Nat) : Int) := by rw [e1, Go.Dv.wrap_small (by omega) (by omega)]; omega
    have hz : (((S.map u64).length : Int) == 0) = false := by
      have h9 : ¬ ((S.length : Int) = 0) := by omega
      rw [e1]; simpa using h9
    refine PureFn.introC [2] mixed (fn := Tryz.f47) rfl rfl rfl fun M w0 => ?_
    try conv=>whnf
    refine ⟨Unit, fun _ => [(1, .pv (fpv f)), (2, .ref 0 0), (6, .pv (.sl (S.map u64))), (7, .pv (.int .i64 0))], fun _ => 1, fun _ => HM m, ?_, ?_⟩
    · (try conv=>whnf);repeat' (first|(refine lin_plan (by kernel_rfl) ?_;try conv=>whnf)|(refine ⟨_, (by (conv=>whnf);exact hK), rfl, ?_⟩;try conv=>whnf)|(refine ⟨_, (by (conv=>whnf);exact hS), rfl, ?_⟩;try conv=>whnf)|fail)
      exact ⟨(), (by refine Wk.of ?_ ?_ rfl rfl rfl<;>repeat' (first|exact trivial|exact WkD.same _|exact WkO.same _ _ rfl|refine ⟨?_, ?_⟩|fail))⟩
    rintro ⟨⟩
    (try conv=>whnf);repeat' (first|(apply And.intro<;>try conv=>whnf)|(intro h;try conv=>whnf)|apply True.intro|(apply infoT;rfl)|(apply WhenQ.mk;(try conv=>whnf);rotate_left;(try conv=>whnf);rotate_right)|with_reducible assumption|(apply not_of;with_reducible assumption)|fail)
    · exfalso
      rw [hz] at h
      exact absurd (show false = true from h) (by decide)
    · refine ⟨S.length - 1, _, hw, idx_map (g := u64) hL, rfl, ?_⟩
      try conv=>whnf
      exact .refl _
  · have hb : (reqI m f != 0) = true := by simpa using h0
    have hr : (reqI m (comp f) != 0) = true := by
      rw [bne_iff_ne]
      intro h
      apply h0
      obtain ⟨⟨n, hM⟩, hst⟩ := reqI_ok h
      rw [reqI, ok_moI hM]
      exact stat_comp hst
    have hS := rc_Sets_bad m (comp f) hf hr
    have hC := rc_Check m f hf
    have hres : holdsI m f = (0, reqI m f) := by rw [holdsI, hb]; rfl
    rw [hres]
    generalize reqI m (comp f) = c at hS hr
    generalize comp f = g at hK hS
    generalize reqI m f = d at hC hb
    refine PureFn.introC [2] mixed (fn := Tryz.f47) rfl rfl rfl fun M w0 => ?_
    try conv=>whnf
    refine ⟨Unit, fun _ => [(1, .pv (fpv f)), (2, .ref 0 0), (6, .pv .nil), (7, .pv (.int .i64 c))], fun _ => 1, fun _ => HM m, ?_, ?_⟩
    · (try conv=>whnf);repeat' (first|(refine lin_plan (by kernel_rfl) ?_;try conv=>whnf)|(refine ⟨_, (by (conv=>whnf);exact hK), rfl, ?_⟩;try conv=>whnf)|(refine ⟨_, (by (conv=>whnf);exact hS), rfl, ?_⟩;try conv=>whnf)|fail)
      exact ⟨(), (by refine Wk.of ?_ ?_ rfl rfl rfl<;>repeat' (first|exact trivial|exact WkD.same _|exact WkO.same _ _ rfl|refine ⟨?_, ?_⟩|fail))⟩
    rintro ⟨⟩
    (try conv=>whnf);repeat' (first|(apply And.intro<;>try conv=>whnf)|(intro h;first|with_reducible exact tf (by assumption) h|try conv=>whnf)|apply True.intro|(apply WhenQ.mk;(try conv=>whnf);rotate_left;(try conv=>whnf);rotate_right)|with_reducible assumption|(refine PureFn.dcq (f := 60) rfl ?_;try conv=>whnf)|(refine ⟨_, _, hC, ?_, ?_⟩;(focus first|(refine ⟨?_, ?_, ?_, trivial⟩<;>first|exact PLe.refl _|exact PLe.nil)|exact trivial);try conv=>whnf)|fail)
    · exact .refl _
    · exfalso
      rw [hr] at h
      exact absurd (show true = false from h) (by decide)
end Go.Proofs.YtkjjoalphllolaaGreat
set_option maxRecDepth 100000
set_option maxHeartbeats 4000000
namespace Go.Proofs.YtkjjoalphllolaaGreat
open Go Go.Dv

theorem rp_Worlds (m : Mo) (a : Act) (hf : FitM m) (hfa : Fit a) (hl : a.rel.length ≤ 1000) (hp : ∀ l, l ∈ a.post → l.length ≤ 1000) : PureFn Tryz.prog 33 [m.pv, a.pv] (worldsPV (worldsI m a)) := by
  refine PureFn.introC [2, 5, 14, 24] mixed (fn := Tryz.f33) rfl rfl rfl fun M w0 => ?_
  have hC := rm_Check m hf
  have hK := ra_Check a (m.rel.length : Nat) (m.val.length : Nat) hfa hl hp
  rw [show PV.int .i64 ((m.rel.length : Nat) : Int) = .int .i64 ((m.rel.map rowPV).length : Nat) by rw [List.length_map], show PV.int .i64 ((m.val.length : Nat) : Int) = .int .i64 ((m.val.map u64).length : Nat) by rw [List.length_map]] at hK
  try conv=>whnf
  refine ⟨Unit, fun _ => [(2, .ref 0 0), (3, .ref 1 0), (6, .pv (.int .i64 (moI m)))], fun _ => 2, fun _ => HMA m a, ?_, ?_⟩
  · (try conv=>whnf);repeat' (first|(refine PureFn.dcq (f := 18) rfl ?_;try conv=>whnf)|(refine ⟨_, _, hC, ?_, ?_⟩;(focus first|(refine ⟨?_, trivial⟩<;>first|exact PLe.refl _|exact PLe.nil)|exact trivial);try conv=>whnf)|fail)
    exact ⟨(), (by refine Wk.of ?_ ?_ rfl rfl rfl<;>repeat' (first|exact trivial|exact WkD.same _|exact WkO.same _ _ rfl|refine ⟨?_, ?_⟩|fail))⟩
  rintro ⟨⟩
  (try conv=>whnf);repeat' (first|(apply And.intro<;>try conv=>whnf)|(intro h;try conv=>whnf)|fail)
  · have h9 : moaI m a = moI m := by rw [moaI, h]; rfl
    rw [worldsI, h9, h]
    exact le_worlds _
  have h1 := h
  have hmo : moaI m a = actI a (m.rel.length : Int) (m.val.length : Int) := by rw [moaI, h1]; rfl
  refine ⟨Unit, fun _ => [(2, .ref 0 0), (3, .ref 1 0), (7, .pv (.int .i64 (moaI m a)))], fun _ => 2, fun _ => HMA m a, ?_, ?_⟩
  · rw [hmo]
    (try conv=>whnf);repeat' (first|(refine PureFn.dcq (f := 46) rfl ?_;try conv=>whnf)|(refine ⟨_, _, hK, ?_, ?_⟩;(focus first|(refine ⟨?_, ?_, ?_, trivial⟩<;>first|exact PLe.refl _|exact PLe.nil)|exact trivial);try conv=>whnf)|fail)
    exact ⟨(), (by refine Wk.of ?_ ?_ rfl rfl rfl<;>repeat' (first|exact trivial|exact WkD.same _|exact WkO.same _ _ rfl|refine ⟨?_, ?_⟩|fail))⟩
  rintro ⟨⟩
  (try conv=>whnf);repeat' (first|(apply And.intro<;>try conv=>whnf)|(intro h;try conv=>whnf)|fail)
  · rw [worldsI, h]
    exact le_worlds _
  have h2 := h
  have h20 : moaI m a = 0 := by simpa using h2
  obtain ⟨⟨n, hM⟩, hAc⟩ := moaI_ok h20
  have hO := actI_ok hAc
  have hn8 := hO.n8
  have hn1 := hO.n1
  have hn64 := hM.n64
  have hnn := hM.nn
  have hres : worldsI m a = bif ((pairsL m a).length : Int) == 0 then ([], 11) else (pairsL m a, 0) := by rw [worldsI, show (moaI m a != 0) = false from h2]; rfl
  have hpl : pairsL m a = pairsW (possP m a) a.pre.length n := by rw [pairsL, hM.nn]; rfl
  rw [hres, hpl]
  clear hres hpl
  have hH : ∀ (e : Nat) (f : List Nd), a.pre[e]? = some f → PureFn Tryz.prog 47 [m.pv, fpv f] (.tup [u64 (possP m a e), .int .i64 0]) := by
    intro e f he
    have h := rc_Holds m f hf
    have he1 := (List.getElem?_eq_some_iff.1 he).1
    have hp := (pre_holds h20 he1).1
    have hg : a.pre.getD e [] = f := by rw [List.getD_eq_getElem?_getD, he]; rfl
    rw [hg] at hp
    rw [hp] at h
    exact h
  generalize hpe : possP m a = p at hH ⊢
  have hBl : ∀ w e, w ≤ n → e ≤ a.pre.length → ((pairsB p a.pre.length w e).map pairPV).length ≤ 600 := by
    intro w e h1 h2
    rw [List.length_map, pairsB, List.length_append]
    have := pairsW_len p a.pre.length w
    have := pairsE_len p w e
    have := Nat.mul_le_mul h1 hn8
    omega
  refine ⟨Unit, fun _ => [(2, .ref 0 0), (3, .ref 1 0), (8, .pv (.sl ((List.range a.pre.length).map fun e => u64 (p e))))], fun _ => 3, fun _ => HMA m a, ?_, ?_⟩
  · try conv=>whnf
    refine ⟨{ e : Nat // e ≤ a.pre.length }, fun e => [(2, .ref 0 0), (3, .ref 1 0), (8, .buf 2 ((List.range e.1).map fun e => u64 (p e)).length), (33, .pv (.sl (a.pre.map fpv))), (34, .pv (i64 (a.pre.map fpv).length)), (35, .pv (i64 e.1))], fun _ => 3, fun e => [(0, .var (cellsM m)), (1, .var (cellsA a)), (2, .arr 1 ((List.range e.1).map fun e => u64 (p e)))], fun e => a.pre.length - e.1, ⟨⟨0, Nat.zero_le _⟩, (by refine Wk.of ?_ ?_ rfl rfl rfl<;>repeat' (first|exact trivial|exact WkD.same _|exact WkO.same _ _ rfl|exact WkD.new' rfl rfl rfl|exact WkO.new _ _ rfl|exact rfl|refine ⟨?_, ?_⟩|fail))⟩, ?_⟩
    intro e
    have he := e.2
    (try conv=>whnf);repeat' (first|(apply And.intro<;>try conv=>whnf)|(intro h;try conv=>whnf)|(apply infoT;rfl)|fail)
    · have he' : e.1 < a.pre.length := by simpa using lt_dec h
      have hm : a.pre[e.1]? = some a.pre[e.1] := List.getElem?_eq_getElem he'
      have hHe := hH e.1 _ hm
      have hes : ((List.range e.1).map fun e => u64 (p e)) ++ [u64 (p e.1)] = (List.range (e.1 + 1)).map fun e => u64 (p e) := by rw [List.range_succ, List.map_append]; rfl
      refine ⟨_, _, rfl, idx_map hm, rfl, ?_⟩
      (try conv=>whnf);repeat' (first|(apply And.intro<;>try conv=>whnf)|(apply cellsI;rfl)|(apply szI;rfl)|(refine PureFn.dcq (f := 47) rfl ?_;try conv=>whnf)|(refine ⟨_, _, hHe, ?_, ?_⟩;(focus first|(refine ⟨?_, ?_, trivial⟩<;>first|exact PLe.refl _|exact PLe.nil)|exact trivial);try conv=>whnf)|fail)
      · exact app_big (n := 8) (by simp; omega) (by decide)
      · refine ⟨⟨e.1 + 1, he'⟩, by show a.pre.length - (e.1 + 1) < a.pre.length - e.1; omega, ?_⟩
        (refine Wk.of ?_ ?_ rfl rfl rfl<;>repeat' (first|exact trivial|exact WkD.same _|exact WkO.same _ _ rfl|exact WkD.eq (congrArg (fun z : List PV => DV.buf _ z.length) hes)|exact WkO.same _ _ (congrArg (fun z => some (DObj.arr _ z)) hes)|refine WkD.int ?_|refine ⟨?_, ?_⟩|(refine wrapA ?_ ?_ ?_;(focus simp;done);(focus (try dsimp only);omega);(focus (try dsimp only);omega))|fail))
    · obtain ⟨e0, he0⟩ := e
      have he' : e0 = a.pre.length := by have := ge_dec (m := (a.pre.map fpv).length) h (by simpa using he); simpa using this
      subst he'
      exact ⟨(), (by refine Wk.of ?_ ?_ rfl rfl rfl<;>repeat' (first|exact trivial|exact WkD.same _|exact WkO.same _ _ rfl|exact WkD.fz _ _ _ rfl (Or.inl ⟨_, rfl⟩) rfl|refine ⟨?_, ?_⟩|fail))⟩
  rintro ⟨⟩
  refine ⟨Unit, fun _ => [(13, .pv (.sl ((pairsW p a.pre.length n).map pairPV)))], fun _ => 4, fun _ => HMA m a, ?_, ?_⟩
  · try conv=>whnf
    refine ⟨{ w : Nat // w ≤ n }, fun w => [(2, .ref 0 0), (3, .ref 1 0), (8, .pv (.sl ((List.range a.pre.length).map fun e => u64 (p e)))), (13, .buf 3 ((pairsB p a.pre.length w.1 0).map pairPV).length), (14, .pv (i64 w.1))], fun _ => 4, fun w => [(0, .var (cellsM m)), (1, .var (cellsA a)), (3, .arr 2 ((pairsB p a.pre.length w.1 0).map pairPV))], fun w => n - w.1, ⟨⟨0, Nat.zero_le _⟩, (by refine Wk.of ?_ ?_ rfl rfl rfl<;>repeat' (first|exact trivial|exact WkD.same _|exact WkO.same _ _ rfl|exact WkD.new' rfl rfl rfl|exact WkO.new _ _ rfl|exact rfl|refine ⟨?_, ?_⟩|fail))⟩, ?_⟩
    intro w
    have hwn := w.2
    (try conv=>whnf);repeat' (first|(apply And.intro<;>try conv=>whnf)|(intro h;try conv=>whnf)|fail)
    · have hw' : w.1 < n := by rw [hnn] at h; exact lt_dec h
      refine ⟨{ e : Nat // e ≤ a.pre.length }, fun e => [(2, .ref 0 0), (3, .ref 1 0), (8, .pv (.sl ((List.range a.pre.length).map fun e => u64 (p e)))), (13, .buf 3 ((pairsB p a.pre.length w.1 e.1).map pairPV).length), (14, .pv (i64 w.1)), (58, .pv (i64 (a.pre.map fpv).length)), (59, .pv (i64 e.1))], fun _ => 4, fun e => [(0, .var (cellsM m)), (1, .var (cellsA a)), (3, .arr 2 ((pairsB p a.pre.length w.1 e.1).map pairPV))], fun e => a.pre.length - e.1, ⟨⟨0, Nat.zero_le _⟩, (by refine Wk.of ?_ ?_ rfl rfl rfl<;>repeat' (first|exact trivial|exact WkD.same _|exact WkO.same _ _ rfl|refine ⟨?_, ?_⟩|fail))⟩, ?_⟩
      intro e
      have he := e.2
      have hB1 := hBl w.1 e.1 hwn he
      have hs := pairsB_succ p a.pre.length w.1 e.1
      (try conv=>whnf);repeat' (first|(apply And.intro<;>try conv=>whnf)|(intro h;try conv=>whnf)|(apply infoT;rfl)|fail)
      · have he' : e.1 < a.pre.length := by simpa using lt_dec h
        have hHas := rm_Has (p e.1) w.1 (by omega)
        refine ⟨_, _, rfl, idx_map (g := fun e => u64 (p e)) (List.getElem?_range he'), rfl, ?_⟩
        (try conv=>whnf);repeat' (first|(apply And.intro<;>try conv=>whnf)|(intro h;try conv=>whnf)|(apply cellsI;rfl)|(apply szI;rfl)|(refine PureFn.dcq (f := 35) rfl ?_;try conv=>whnf)|(refine ⟨_, _, hHas, ?_, ?_⟩;(focus first|(refine ⟨?_, ?_, trivial⟩<;>first|exact PLe.refl _|exact PLe.nil)|exact trivial);try conv=>whnf)|fail)
        · exact app_big (n := 600) hB1 (by decide)
        · have hes : (pairsB p a.pre.length w.1 e.1).map pairPV ++ [pairPV (w.1, e.1)] = (pairsB p a.pre.length w.1 (e.1 + 1)).map pairPV := by rw [hs, show (p e.1).testBit w.1 = true from h, cond_true, List.map_append]; rfl
          refine ⟨⟨e.1 + 1, he'⟩, by show a.pre.length - (e.1 + 1) < a.pre.length - e.1; omega, ?_⟩
          (refine Wk.of ?_ ?_ rfl rfl rfl<;>repeat' (first|exact trivial|exact WkD.same _|exact WkO.same _ _ rfl|exact WkD.eq (congrArg (fun z : List PV => DV.buf _ z.length) hes)|exact WkO.same _ _ (congrArg (fun z => some (DObj.arr _ z)) hes)|refine WkD.int ?_|refine ⟨?_, ?_⟩|(refine wrapA ?_ ?_ ?_;(focus simp;done);(focus (try dsimp only);omega);(focus (try dsimp only);omega))|fail))
        · have hes : (pairsB p a.pre.length w.1 e.1).map pairPV = (pairsB p a.pre.length w.1 (e.1 + 1)).map pairPV := by rw [hs, show (p e.1).testBit w.1 = false from h, cond_false]
          refine ⟨⟨e.1 + 1, he'⟩, by show a.pre.length - (e.1 + 1) < a.pre.length - e.1; omega, ?_⟩
          (refine Wk.of ?_ ?_ rfl rfl rfl<;>repeat' (first|exact trivial|exact WkD.same _|exact WkO.same _ _ rfl|exact WkD.eq (congrArg (fun z : List PV => DV.buf _ z.length) hes)|exact WkO.same _ _ (congrArg (fun z => some (DObj.arr _ z)) hes)|refine WkD.int ?_|refine ⟨?_, ?_⟩|(refine wrapA ?_ ?_ ?_;(focus simp;done);(focus (try dsimp only);omega);(focus (try dsimp only);omega))|fail))
      · have he' : e.1 = a.pre.length := by have := ge_dec (m := (a.pre.map fpv).length) h (by simpa using he); simpa using this
        have ef : pairsB p a.pre.length w.1 e.1 = pairsB p a.pre.length (w.1 + 1) 0 := by rw [he', pairsB_full, pairsB_zero]
        have efm : (pairsB p a.pre.length w.1 e.1).map pairPV = (pairsB p a.pre.length (w.1 + 1) 0).map pairPV := by rw [ef]
        refine ⟨⟨w.1 + 1, hw'⟩, by show n - (w.1 + 1) < n - w.1; omega, ?_⟩
        (refine Wk.of ?_ ?_ rfl rfl rfl<;>repeat' (first|exact trivial|exact WkD.same _|exact WkO.same _ _ rfl|exact WkD.eq (congrArg (fun z : List PV => DV.buf _ z.length) efm)|exact WkO.same _ _ (congrArg (fun z => some (DObj.arr _ z)) efm)|refine WkD.int ?_|refine ⟨?_, ?_⟩|(refine wrapA ?_ ?_ ?_;(focus simp;done);(focus (try dsimp only);omega);(focus (try dsimp only);omega))|fail))
    · obtain ⟨w0', hw0⟩ := w
      have hw' : w0' = n := by rw [hnn] at h; exact ge_dec h hwn
      subst hw'
      have hfz : (pairsB p a.pre.length w0' 0).map pairPV = (pairsW p a.pre.length w0').map pairPV := by rw [pairsB_zero]
      refine ⟨(), ?_⟩
      rw [← hfz]
      (refine Wk.of ?_ ?_ rfl rfl rfl<;>repeat' (first|exact trivial|exact WkO.same _ _ rfl|exact WkD.fz _ _ _ rfl (Or.inl ⟨_, rfl⟩) rfl|refine ⟨?_, ?_⟩|fail))
  rintro ⟨⟩
  have hl0 : (((pairsW p a.pre.length n).map pairPV).length : Int) = ((pairsW p a.pre.length n).length : Int) := by simp
  (try conv=>whnf);repeat' (first|(apply And.intro<;>try conv=>whnf)|(intro h;try conv=>whnf)|fail)
  · rw [hl0] at h
    rw [h]
    exact le_worlds _
  · rw [hl0] at h
    rw [h]
    exact .refl _
end Go.Proofs.YtkjjoalphllolaaGreat
set_option maxRecDepth 100000
set_option maxHeartbeats 4000000
namespace Go.Proofs.YtkjjoalphllolaaGreat
open Go Go.Dv

def bitW (i : Nat) : Nat := 2 ^ i % 2 ^ 64
theorem bitW_lt {i : Nat} (h : i < 64) : bitW i = 2 ^ i := Nat.mod_eq_of_lt (Nat.pow_lt_pow_right (by decide) h)
theorem wrapU_mod (n : Nat) : IntKind.wrap .u64 (n : Int) = ((n % 2 ^ 64 : Nat) : Int) := by
  show (n : Int) % (2 ^ 64 : Int) = _
  omega
theorem bitW_mul (i : Nat) : IntKind.wrap .u64 ((bitW i : Nat) * 2) = ((bitW (i + 1) : Nat) : Int) := by
  rw [show ((bitW i : Nat) : Int) * 2 = ((bitW i * 2 : Nat) : Int) by omega, wrapU_mod]
  congr 1
  show 2 ^ i % 2 ^ 64 * 2 % 2 ^ 64 = 2 ^ (i + 1) % 2 ^ 64
  rw [Nat.mod_mul_mod]
  exact congrArg (fun z => z % 2 ^ 64) (Nat.pow_succ 2 i).symm
theorem mask_add {q : Nat → Bool} {i : Nat} (hi : i < 64) (h : q i = true) : IntKind.wrap .u64 ((maskOf q i : Nat) + (bitW i : Nat)) = ((maskOf q (i + 1) : Nat) : Int) := by
  have h1 := maskOf_lt q i
  have h2 : maskOf q i ||| 2 ^ i = maskOf q i + 2 ^ i := by
    have := Nat.two_pow_add_eq_or_of_lt h1 1
    rw [Nat.mul_one] at this
    rw [Nat.or_comm, ← this, Nat.add_comm]
  have h3 := maskOf_lt q (i + 1)
  have h4 : 2 ^ (i + 1) ≤ 2 ^ 64 := Nat.pow_le_pow_right (by decide) hi
  rw [← mask_or h] at h3 ⊢
  rw [h2] at h3 ⊢
  rw [bitW_lt hi, show ((maskOf q i : Nat) : Int) + ((2 ^ i : Nat) : Int) = ((maskOf q i + 2 ^ i : Nat) : Int) by omega, wrapU_mod, Nat.mod_eq_of_lt (by omega)]
theorem rp_value (m : Mo) (a : Act) (l : List (Nat × Nat)) (i : Nat) (hf : FitM m) (hfa : Fit a) (hl : a.rel.length ≤ 1000) (hp : ∀ l, l ∈ a.post → l.length ≤ 1000) (hma : moaI m a = 0) (hi : i < m.val.length) (hl64 : l.length ≤ 64) (hmem : ∀ y, y ∈ l → y.1 < 64 ∧ y.2 < a.pre.length) :
    PureFn Tryz.prog 34 [m.pv, a.pv, .sl (l.map pairPV), .int .i64 (i : Nat)] (u64 (valP m a l i)) := by
  obtain ⟨⟨n, hM⟩, hAc⟩ := moaI_ok hma
  have hO := actI_ok hAc
  have hn8 := hO.n8
  have hn64 := hM.n64
  refine PureFn.introC [9] mixed (fn := Tryz.f34) rfl rfl rfl fun M w0 => ?_
  have hlv : (vlU m a i).length = a.pre.length := by simp [vlU]
  have hsl : ∀ e, ((List.range e).map fun e => valuP m a e i).length = e := by simp
  have hmk : maskOf (fun k => ((vlU m a i).getD (l.getD k (0, 0)).2 0).testBit (l.getD k (0, 0)).1) l.length = valP m a l i := maskOf_congr fun k hk => by
    rw [vlU_get (hmem _ (List.mem_iff_getElem?.2 ⟨k, getD_mem hk⟩)).2]
  rw [← hmk]
  try conv=>whnf
  refine ⟨Unit, fun _ => [(2, .pv (.sl (l.map pairPV))), (9, .pv (.sl ((vlU m a i).map u64)))], fun _ => 3, fun _ => [], ?_, ?_⟩
  · try conv=>whnf
    refine ⟨{ e : Nat // e ≤ a.pre.length }, fun e => [(2, .pv (.sl (l.map pairPV))), (3, .pv (i64 i)), (4, .ref 0 0), (5, .ref 1 0), (9, .buf 2 (((List.range e.1).map fun e => valuP m a e i).map u64).length), (21, .pv (i64 (a.pre.map fpv).length)), (22, .pv (i64 e.1))], fun _ => 3, fun e => [(0, .var (cellsM m)), (1, .var (cellsA a)), (2, .arr 1 (((List.range e.1).map fun e => valuP m a e i).map u64))], fun e => a.pre.length - e.1, ⟨⟨0, Nat.zero_le _⟩, (by refine Wk.of ?_ ?_ rfl rfl rfl<;>repeat' (first|exact trivial|exact WkD.same _|exact WkO.same _ _ rfl|exact WkD.new' rfl rfl rfl|exact WkO.new _ _ rfl|exact rfl|refine ⟨?_, ?_⟩|fail))⟩, ?_⟩
    intro e
    have he := e.2
    (try conv=>whnf);repeat' (first|(apply And.intro<;>try conv=>whnf)|(intro h;try conv=>whnf)|fail)
    · have he' : e.1 < a.pre.length := by simpa using lt_dec h
      have hV := ra_Value a e.1 i hfa hl hp
      have hv0 := valI_ok hma he' hi
      obtain ⟨g, hg⟩ : ∃ g, valI a e.1 i = (g, 0) := ⟨(valI a e.1 i).1, Prod.ext rfl hv0⟩
      rw [hg] at hV
      have hH := rc_Holds m g hf
      have hvp : (holdsI m g).1 = valuP m a e.1 i := by rw [valuP, hg]
      rw [hvp] at hH
      have hes : ((List.range e.1).map fun e => valuP m a e i).map u64 ++ [u64 (valuP m a e.1 i)] = ((List.range (e.1 + 1)).map fun e => valuP m a e i).map u64 := by rw [List.range_succ, List.map_append, List.map_append]; rfl
      (try conv=>whnf);repeat' (first|(apply And.intro<;>try conv=>whnf)|(apply cellsI;rfl)|(apply szI;rfl)|(refine PureFn.dcq (f := 48) rfl ?_;try conv=>whnf)|(refine PureFn.dcq (f := 47) rfl ?_;try conv=>whnf)|(refine ⟨_, _, hV, ?_, ?_⟩;(focus first|(refine ⟨?_, ?_, ?_, trivial⟩<;>first|exact PLe.refl _|exact PLe.nil)|exact trivial);try conv=>whnf)|(refine ⟨_, _, hH, ?_, ?_⟩;(focus first|(refine ⟨?_, ?_, trivial⟩<;>first|exact PLe.refl _|exact PLe.nil)|exact trivial);try conv=>whnf)|fail)
      · exact app_big (n := 8) (by simp; omega) (by decide)
      · refine ⟨⟨e.1 + 1, he'⟩, by show a.pre.length - (e.1 + 1) < a.pre.length - e.1; omega, ?_⟩
        (refine Wk.of ?_ ?_ rfl rfl rfl<;>repeat' (first|exact trivial|exact WkD.same _|exact WkO.same _ _ rfl|exact WkD.eq (congrArg (fun z : List PV => DV.buf _ z.length) hes)|exact WkO.same _ _ (congrArg (fun z => some (DObj.arr _ z)) hes)|refine WkD.int ?_|refine ⟨?_, ?_⟩|(refine wrapA ?_ ?_ ?_;(focus simp;done);(focus (try dsimp only);omega);(focus (try dsimp only);omega))|fail))
    · obtain ⟨e0, he0⟩ := e
      have he' : e0 = a.pre.length := by have := ge_dec (m := (a.pre.map fpv).length) h (by simpa using he); simpa using this
      subst he'
      exact ⟨(), (by refine Wk.of ?_ ?_ rfl rfl rfl<;>repeat' (first|exact trivial|exact WkD.same _|exact WkD.fz _ _ _ rfl (Or.inl ⟨_, rfl⟩) rfl|refine ⟨?_, ?_⟩|fail))⟩
  rintro ⟨⟩
  generalize vlU m a i = vs at hlv
  try conv=>whnf
  refine ⟨{ k : Nat // k ≤ l.length }, fun k => [(9, .pv (.sl (vs.map u64))), (15, .pv (u64 (maskOf (fun k => (vs.getD (l.getD k (0, 0)).2 0).testBit (l.getD k (0, 0)).1) k.1))), (16, .pv (u64 (bitW k.1))), (43, .pv (.sl (l.map pairPV))), (44, .pv (i64 (l.map pairPV).length)), (45, .pv (i64 k.1))], fun _ => 3, fun _ => [], fun k => l.length - k.1, ⟨⟨0, Nat.zero_le _⟩, (by refine Wk.of ?_ ?_ rfl rfl rfl<;>repeat' (first|exact trivial|exact WkD.same _|refine ⟨?_, ?_⟩|fail))⟩, ?_⟩
  intro k
  have hk := k.2
  (try conv=>whnf);repeat' (first|(apply And.intro<;>try conv=>whnf)|(intro h;try conv=>whnf)|(apply infoT;rfl)|fail)
  · have hk' : k.1 < l.length := by simpa using lt_dec h
    obtain ⟨x, hx, hxw⟩ : ∃ y, l[k.1]? = some y ∧ l.getD k.1 (0, 0) = y := ⟨_, getD_mem hk', rfl⟩
    obtain ⟨hx1, hx2⟩ := hmem x (List.mem_iff_getElem?.2 ⟨k.1, hx⟩)
    have hvx : vs[x.2]? = some (vs.getD x.2 0) := getD_mem (by omega)
    have hHas := rm_Has (vs.getD x.2 0) x.1 hx1
    refine ⟨_, _, rfl, idx_map hx, rfl, ?_⟩
    (try conv=>whnf);repeat' (first|(apply And.intro<;>try conv=>whnf)|(intro h;try conv=>whnf)|(apply infoT;rfl)|(refine lin_plan (by kernel_rfl) ?_;try conv=>whnf)|(refine ⟨_, _, rfl, idx_map (by with_reducible assumption), rfl, ?_⟩;try conv=>whnf)|(refine ⟨_, (by (conv=>whnf);exact hHas), rfl, ?_⟩;try conv=>whnf)|fail)
    · refine ⟨⟨k.1 + 1, hk'⟩, by show l.length - (k.1 + 1) < l.length - k.1; omega, ?_⟩
      (refine Wk.of ?_ ?_ rfl rfl rfl<;>repeat' (first|exact trivial|exact WkD.same _|refine WkD.int ?_|refine ⟨?_, ?_⟩|(refine wrapA ?_ ?_ ?_;(focus simp;done);(focus (try dsimp only);omega);(focus (try dsimp only);omega))|fail))
      · exact mask_add (q := fun k => (vs.getD (l.getD k (0, 0)).2 0).testBit (l.getD k (0, 0)).1) (by omega) (by show (vs.getD (l.getD k.1 (0, 0)).2 0).testBit (l.getD k.1 (0, 0)).1 = true; rw [hxw]; exact h)
      · exact bitW_mul k.1
    · refine ⟨⟨k.1 + 1, hk'⟩, by show l.length - (k.1 + 1) < l.length - k.1; omega, ?_⟩
      (refine Wk.of ?_ ?_ rfl rfl rfl<;>repeat' (first|exact trivial|exact WkD.same _|refine WkD.int ?_|refine ⟨?_, ?_⟩|(refine wrapA ?_ ?_ ?_;(focus simp;done);(focus (try dsimp only);omega);(focus (try dsimp only);omega))|fail))
      · exact congrArg (fun z : Nat => (z : Int)) (mask_no (q := fun k => (vs.getD (l.getD k (0, 0)).2 0).testBit (l.getD k (0, 0)).1) (by show (vs.getD (l.getD k.1 (0, 0)).2 0).testBit (l.getD k.1 (0, 0)).1 = false; rw [hxw]; exact h))
      · exact bitW_mul k.1
  · have hk' : k.1 = l.length := by have := ge_dec (m := (l.map pairPV).length) h (by simpa using hk); simpa using this
    rw [hk']
    exact .refl _
end Go.Proofs.YtkjjoalphllolaaGreat
set_option maxRecDepth 100000
set_option maxHeartbeats 4000000
namespace Go.Proofs.YtkjjoalphllolaaGreat
open Go Go.Dv

theorem rp_Update (m : Mo) (a : Act) (hf : FitM m) (hfa : Fit a) (hl : a.rel.length ≤ 1000) (hp : ∀ l, l ∈ a.post → l.length ≤ 1000) : PureFn Tryz.prog 20 [m.pv, a.pv] (updPV (updI m a)) := by
  refine PureFn.introC [2, 12, 29, 31] mixed (fn := Tryz.f20) rfl rfl rfl fun M w0 => ?_
  have hW := rp_Worlds m a hf hfa hl hp
  obtain ⟨l, e, hX⟩ : ∃ l e, worldsI m a = (l, e) := ⟨_, _, rfl⟩
  have hwo := worldsI_ok (m := m) (a := a)
  rw [updI]
  rw [hX] at hW hwo ⊢
  clear hX
  have e9 : ((l.map pairPV).length : Int) = (l.length : Int) := by simp
  try conv=>whnf
  refine ⟨Unit, fun _ => [(2, .ref 0 0), (3, .ref 1 0), (4, .ref 2 0), (7, .pv (.sl (l.map pairPV))), (8, .pv (.int .i64 e))], fun _ => 3, fun _ => [(0, .var (cellsM m)), (1, .var (cellsA a)), (2, .var cells0)], ?_, ?_⟩
  · (try conv=>whnf);repeat' (first|(refine PureFn.dcq (f := 33) rfl ?_;try conv=>whnf)|(refine ⟨_, _, hW, ?_, ?_⟩;(focus first|(refine ⟨?_, ?_, trivial⟩<;>first|exact PLe.refl _|exact PLe.nil)|exact trivial);try conv=>whnf)|fail)
    exact ⟨(), (by refine Wk.of ?_ ?_ rfl rfl rfl<;>repeat' (first|exact trivial|exact WkD.same _|exact WkO.same _ _ rfl|refine ⟨?_, ?_⟩|fail))⟩
  rintro ⟨⟩
  (try conv=>whnf);repeat' (first|(apply And.intro<;>try conv=>whnf)|(intro h;try conv=>whnf)|fail)
  · rw [show (((l, e) : List (Nat × Nat) × Int).2 != 0) = true from h]; exact le_upd _
  · rename_i h1
    have h9 : decide ((l.length : Int) > 64) = true := by rw [← e9]; exact h
    rw [show (((l, e) : List (Nat × Nat) × Int).2 != 0) = false from h1, show decide ((((l, e) : List (Nat × Nat) × Int).1.length : Int) > 64) = true from h9]
    exact le_upd _
  rename_i h1
  have h2 : decide ((l.length : Int) > 64) = false := by rw [← e9]; exact h
  obtain ⟨hma, hpl, hl1⟩ := hwo (show e = 0 by simpa using h1)
  obtain ⟨⟨n, hM⟩, hAc⟩ := moaI_ok hma
  have hO := actI_ok hAc
  have hn8 := hO.n8
  have hn64 := hM.n64
  have hfa8 := hM.fa
  have hag := hM.ag
  have hpl : l = pairsL m a := hpl
  have hmem : ∀ y, y ∈ l → y.1 < n ∧ y.2 < a.pre.length := fun y hy => by
    rw [hpl, pairsL, hM.nn] at hy
    have := pairsW_mem.1 hy
    exact ⟨this.1, this.2.1⟩
  clear hpl hl1
  have hl64 : l.length ≤ 64 := by have := of_decide_eq_false h2; omega
  have hres : (bif (((l, e) : List (Nat × Nat) × Int).2 != 0) then (noMo, ([] : List (Nat × Nat)), ((l, e) : List (Nat × Nat) × Int).2) else bif decide ((((l, e) : List (Nat × Nat) × Int).1.length : Int) > 64) then (noMo, [], 8) else (prodM m a ((l, e) : List (Nat × Nat) × Int).1, ((l, e) : List (Nat × Nat) × Int).1, (0 : Int))) = (prodM m a l, l, 0) := by
    rw [show (((l, e) : List (Nat × Nat) × Int).2 != 0) = false from h1, show decide ((((l, e) : List (Nat × Nat) × Int).1.length : Int) > 64) = false from h2]; rfl
  rw [hres]
  clear hres
  refine ⟨Unit, fun _ => [(2, .ref 0 0), (3, .ref 1 0), (4, .ref 2 0), (7, .pv (.sl (l.map pairPV))), (9, .ref 3 0)], fun _ => 5, fun _ => [(0, .var (cellsM m)), (1, .var (cellsA a)), (2, .var cells0), (3, .var [.pv (i64 (l.map pairPV).length), .pv (rowPV (vsU m a l m.val.length)), .pv .nil])], ?_, ?_⟩
  · try conv=>whnf
    refine ⟨{ i : Nat // i ≤ m.val.length }, fun i => [(2, .ref 0 0), (3, .ref 1 0), (4, .ref 2 0), (7, .pv (.sl (l.map pairPV))), (9, .ref 3 0), (38, .pv (i64 (m.val.map u64).length)), (39, .pv (i64 i.1))], fun _ => 5, fun i => [(0, .var (cellsM m)), (1, .var (cellsA a)), (2, .var cells0), (3, .var [.pv (i64 (l.map pairPV).length), .buf 4 ((vsU m a l i.1).map u64).length, .pv .nil]), (4, .arr 1 ((vsU m a l i.1).map u64))], fun i => m.val.length - i.1, ⟨⟨0, Nat.zero_le _⟩, (by refine Wk.of ?_ ?_ rfl rfl rfl<;>repeat' (first|exact trivial|exact WkD.same _|exact WkO.same _ _ rfl|exact WkD.new' rfl rfl rfl|exact WkO.new _ _ rfl|refine WkO.vars rfl ?_|exact rfl|refine ⟨?_, ?_⟩|fail))⟩, ?_⟩
    intro i
    have hi := i.2
    have hvs := vsU_succ m a l i.1
    have hvsl : ((vsU m a l i.1).map u64).length ≤ 1000 := by simp [vsU]; omega
    have er : (vsU m a l i.1).map u64 ++ [u64 (valP m a l i.1)] = (vsU m a l (i.1 + 1)).map u64 := by rw [hvs, List.map_append]; rfl
    (try conv=>whnf);repeat' (first|(apply And.intro<;>try conv=>whnf)|(intro h;try conv=>whnf)|fail)
    · have hi' : i.1 < m.val.length := by simpa using lt_dec h
      have hV := rp_value m a l i.1 hf hfa hl hp hma hi' hl64 (fun y hy => ⟨by have := (hmem y hy).1; omega, (hmem y hy).2⟩)
      refine ⟨Plan.lin 0 11, [], by kernel_rfl, ?_⟩
      (try conv=>whnf);repeat' (first|(apply And.intro<;>try conv=>whnf)|(apply cellsI;rfl)|(apply szI;rfl)|(refine ⟨_, (by (conv=>whnf);exact hV), rfl, ?_⟩;try conv=>whnf)|fail)
      · exact app_big (n := 1000) hvsl (by decide)
      · refine ⟨⟨i.1 + 1, hi'⟩, by show m.val.length - (i.1 + 1) < m.val.length - i.1; omega, ?_⟩
        (refine Wk.of ?_ ?_ rfl rfl rfl<;>repeat' (first|exact trivial|exact WkD.same _|exact WkO.same _ _ rfl|exact WkD.eq (congrArg (fun z : List PV => DV.buf _ z.length) er)|exact WkO.same _ _ (congrArg (fun z => some (DObj.arr _ z)) er)|refine WkD.int ?_|refine WkO.vars rfl ?_|refine ⟨?_, ?_⟩|(refine wrapA ?_ ?_ ?_;(focus simp;done);(focus (try dsimp only);omega);(focus (try dsimp only);omega))|fail))
    · obtain ⟨i0, hi0⟩ := i
      have hi' : i0 = m.val.length := by have := ge_dec (m := (m.val.map u64).length) h (by simpa using hi); simpa using this
      subst hi'
      exact ⟨(), (by refine Wk.of ?_ ?_ rfl rfl rfl<;>repeat' (first|exact trivial|exact WkD.same _|exact WkO.same _ _ rfl|exact WkD.fz _ _ _ rfl (Or.inl ⟨_, rfl⟩) rfl|refine WkO.vars rfl ?_|refine ⟨?_, ?_⟩|fail))⟩
  rintro ⟨⟩
  generalize hVS : (vsU m a l m.val.length) = vs
  refine ⟨Unit, fun _ => [(4, .ref 2 0), (7, .pv (.sl (l.map pairPV))), (9, .ref 3 0)], fun _ => 5, fun _ => [(2, .var cells0), (3, .var [.pv (i64 (l.map pairPV).length), .pv (rowPV vs), .pv (.sl ((rsU m a l m.rel.length).map rowPV))])], ?_, ?_⟩
  · try conv=>whnf
    refine ⟨{ i : Nat // i ≤ m.rel.length }, fun i => [(2, .ref 0 0), (3, .ref 1 0), (4, .ref 2 0), (7, .pv (.sl (l.map pairPV))), (9, .ref 3 0), (55, .pv (i64 (m.rel.map rowPV).length)), (56, .pv (i64 i.1))], fun _ => 6, fun i => [(0, .var (cellsM m)), (1, .var (cellsA a)), (2, .var cells0), (3, .var [.pv (i64 (l.map pairPV).length), .pv (rowPV vs), .buf 5 ((rsU m a l i.1).map rowPV).length]), (5, .arr 1 ((rsU m a l i.1).map rowPV))], fun i => m.rel.length - i.1, ⟨⟨0, Nat.zero_le _⟩, (by refine Wk.of ?_ ?_ rfl rfl rfl<;>repeat' (first|exact trivial|exact WkD.same _|exact WkO.same _ _ rfl|exact WkD.new' rfl rfl rfl|exact WkO.new _ _ rfl|refine WkO.vars rfl ?_|exact rfl|refine ⟨?_, ?_⟩|fail))⟩, ?_⟩
    intro i
    have hi := i.2
    (try conv=>whnf);repeat' (first|(apply And.intro<;>try conv=>whnf)|(intro h;try conv=>whnf)|fail)
    · have hi' : i.1 < m.rel.length := by simpa using lt_dec h
      obtain ⟨r, hr, hrw⟩ : ∃ r, m.rel[i.1]? = some r ∧ m.rel.getD i.1 [] = r := ⟨_, getD_mem hi', rfl⟩
      have hrm : r ∈ m.rel := List.mem_iff_getElem?.2 ⟨i.1, hr⟩
      have hrl := hM.rows r hrm
      obtain ⟨ra, hra, hraw⟩ : ∃ r, a.rel[i.1]? = some r ∧ a.rel.getD i.1 [] = r := ⟨_, getD_mem (by have := hO.ags; omega), rfl⟩
      have hram : ra ∈ a.rel := List.mem_iff_getElem?.2 ⟨i.1, hra⟩
      have hral := hO.rows ra hram
      refine ⟨Unit, fun _ => [(2, .ref 0 0), (3, .ref 1 0), (4, .ref 2 0), (7, .pv (.sl (l.map pairPV))), (9, .ref 3 0), (11, .pv (i64 i.1)), (55, .pv (i64 (m.rel.map rowPV).length)), (56, .pv (i64 i.1)), (12, .pv (.sl (l.map fun x => u64 (rowP r ra l x))))], fun _ => 6, fun _ => [(0, .var (cellsM m)), (1, .var (cellsA a)), (2, .var cells0), (3, .var [.pv (i64 (l.map pairPV).length), .pv (rowPV vs), .buf 5 ((rsU m a l i.1).map rowPV).length]), (5, .arr 1 ((rsU m a l i.1).map rowPV))], ?_, ?_⟩
      · try conv=>whnf
        refine ⟨{ k : Nat // k ≤ l.length }, fun k => [(2, .ref 0 0), (3, .ref 1 0), (4, .ref 2 0), (7, .pv (.sl (l.map pairPV))), (9, .ref 3 0), (11, .pv (i64 i.1)), (55, .pv (i64 (m.rel.map rowPV).length)), (56, .pv (i64 i.1)), (12, .buf 6 ((l.take k.1).map fun x => u64 (rowP r ra l x)).length), (59, .pv (.sl (l.map pairPV))), (60, .pv (i64 (l.map pairPV).length)), (61, .pv (i64 k.1))], fun _ => 7, fun k => [(0, .var (cellsM m)), (1, .var (cellsA a)), (2, .var cells0), (3, .var [.pv (i64 (l.map pairPV).length), .pv (rowPV vs), .buf 5 ((rsU m a l i.1).map rowPV).length]), (5, .arr 1 ((rsU m a l i.1).map rowPV)), (6, .arr 1 ((l.take k.1).map fun x => u64 (rowP r ra l x)))], fun k => l.length - k.1, ⟨⟨0, Nat.zero_le _⟩, (by refine Wk.of ?_ ?_ rfl rfl rfl<;>repeat' (first|exact trivial|exact WkD.same _|exact WkO.same _ _ rfl|exact WkD.new' rfl rfl rfl|exact WkO.new _ _ rfl|exact rfl|refine ⟨?_, ?_⟩|fail))⟩, ?_⟩
        intro k
        have hk := k.2
        have hkl : ((l.take k.1).map fun x => u64 (rowP r ra l x)).length ≤ 64 := by simp; omega
        (try conv=>whnf);repeat' (first|(apply And.intro<;>try conv=>whnf)|(intro h;try conv=>whnf)|(apply infoT;rfl)|fail)
        · have hk' : k.1 < l.length := by simpa using lt_dec h
          obtain ⟨x, hx, hxw⟩ : ∃ y, l[k.1]? = some y ∧ l[k.1] = y := ⟨_, List.getElem?_eq_getElem hk', rfl⟩
          have hxm := hmem x (List.mem_iff_getElem?.2 ⟨k.1, hx⟩)
          have hrx : r[x.1]? = some (r.getD x.1 0) := getD_mem (by omega)
          have hrax : ra[x.2]? = some (ra.getD x.2 0) := getD_mem (by omega)
          have hes : ((l.take k.1).map fun x => u64 (rowP r ra l x)) ++ [u64 (rowP r ra l x)] = ((l.take (k.1 + 1)).map fun x => u64 (rowP r ra l x)) := by rw [List.take_succ_eq_append_getElem hk', List.map_append, hxw]; rfl
          refine ⟨_, _, rfl, idx_map hx, rfl, ?_⟩
          try conv=>whnf
          refine ⟨{ j : Nat // j ≤ l.length }, fun j => [(2, .ref 0 0), (3, .ref 1 0), (4, .ref 2 0), (7, .pv (.sl (l.map pairPV))), (9, .ref 3 0), (11, .pv (i64 i.1)), (55, .pv (i64 (m.rel.map rowPV).length)), (56, .pv (i64 i.1)), (12, .buf 6 ((l.take k.1).map fun x => u64 (rowP r ra l x)).length), (14, .ref 7 0), (15, .pv (u64 (maskOf (fun j => seesP r ra x (l.getD j (0, 0))) j.1))), (16, .pv (u64 (bitW j.1))), (59, .pv (.sl (l.map pairPV))), (60, .pv (i64 (l.map pairPV).length)), (61, .pv (i64 k.1)), (65, .pv (.sl (l.map pairPV))), (66, .pv (i64 (l.map pairPV).length)), (67, .pv (i64 j.1))], fun _ => 8, fun j => [(0, .var (cellsM m)), (1, .var (cellsA a)), (2, .var cells0), (3, .var [.pv (i64 (l.map pairPV).length), .pv (rowPV vs), .buf 5 ((rsU m a l i.1).map rowPV).length]), (5, .arr 1 ((rsU m a l i.1).map rowPV)), (6, .arr 1 ((l.take k.1).map fun x => u64 (rowP r ra l x))), (7, .var [.pv (i64 x.1), .pv (i64 x.2)])], fun j => l.length - j.1, ⟨⟨0, Nat.zero_le _⟩, (by refine Wk.of ?_ ?_ rfl rfl rfl<;>repeat' (first|exact trivial|exact WkD.same _|exact WkO.same _ _ rfl|refine ⟨?_, ?_⟩|fail))⟩, ?_⟩
          intro j
          have hj := j.2
          (try conv=>whnf);repeat' (first|(apply And.intro<;>try conv=>whnf)|(intro h;try conv=>whnf)|(apply infoT;rfl)|(apply cellsI;rfl)|(apply szI;rfl)|fail)
          · have hj' : j.1 < l.length := by simpa using lt_dec h
            obtain ⟨y, hy, hyw⟩ : ∃ y, l[j.1]? = some y ∧ l.getD j.1 (0, 0) = y := ⟨_, getD_mem hj', rfl⟩
            have hym := hmem y (List.mem_iff_getElem?.2 ⟨j.1, hy⟩)
            have hA1 := rm_Has (r.getD x.1 0) y.1 (by omega)
            have hA2 := rm_Has (ra.getD x.2 0) y.2 (by omega)
            have hsee : seesP r ra x (l.getD j.1 (0, 0)) = bif (r.getD x.1 0).testBit y.1 then (ra.getD x.2 0).testBit y.2 else false := by rw [hyw]; rfl
            refine ⟨_, _, rfl, idx_map hy, rfl, ?_⟩
            (try conv=>whnf);repeat' (first|(apply And.intro<;>try conv=>whnf)|(intro h;try conv=>whnf)|apply True.intro|(apply infoT;rfl)|(apply WhenQ.mk;(try conv=>whnf);rotate_left;(try conv=>whnf);rotate_right)|with_reducible assumption|(refine lin_plan (by kernel_rfl) ?_;try conv=>whnf)|(refine ⟨_, _, rfl, idx_map (by with_reducible assumption), rfl, ?_⟩;try conv=>whnf)|(refine ⟨_, (by (conv=>whnf);exact hA1), rfl, ?_⟩;try conv=>whnf)|(refine ⟨_, (by (conv=>whnf);exact hA2), rfl, ?_⟩;try conv=>whnf)|fail)
            · refine ⟨⟨j.1 + 1, hj'⟩, by show l.length - (j.1 + 1) < l.length - j.1; omega, ?_⟩
              (refine Wk.of ?_ ?_ rfl rfl rfl<;>repeat' (first|exact trivial|exact WkD.same _|exact WkO.same _ _ rfl|refine WkD.int ?_|refine ⟨?_, ?_⟩|(refine wrapA ?_ ?_ ?_;(focus simp;done);(focus (try dsimp only);omega);(focus (try dsimp only);omega))|fail))
              · exact mask_add (q := fun j => seesP r ra x (l.getD j (0, 0))) (by omega) (by show seesP r ra x (l.getD j.1 (0, 0)) = true; rw [hsee]; exact h)
              · exact bitW_mul j.1
            · refine ⟨⟨j.1 + 1, hj'⟩, by show l.length - (j.1 + 1) < l.length - j.1; omega, ?_⟩
              (refine Wk.of ?_ ?_ rfl rfl rfl<;>repeat' (first|exact trivial|exact WkD.same _|exact WkO.same _ _ rfl|refine WkD.int ?_|refine ⟨?_, ?_⟩|(refine wrapA ?_ ?_ ?_;(focus simp;done);(focus (try dsimp only);omega);(focus (try dsimp only);omega))|fail))
              · exact congrArg (fun z : Nat => (z : Int)) (mask_no (q := fun j => seesP r ra x (l.getD j (0, 0))) (by show seesP r ra x (l.getD j.1 (0, 0)) = false; rw [hsee]; exact h))
              · exact bitW_mul j.1
          · exact app_big (n := 64) hkl (by decide)
          · obtain ⟨j0, hj0⟩ := j
            have hj' : j0 = l.length := by have := ge_dec (m := (l.map pairPV).length) h (by simpa using hj); simpa using this
            subst hj'
            refine ⟨⟨k.1 + 1, hk'⟩, by show l.length - (k.1 + 1) < l.length - k.1; omega, ?_⟩
            (refine Wk.of ?_ ?_ rfl rfl rfl<;>repeat' (first|exact trivial|exact WkD.same _|exact WkO.same _ _ rfl|exact WkD.eq (congrArg (fun z : List PV => DV.buf _ z.length) hes)|exact WkO.same _ _ (congrArg (fun z => some (DObj.arr _ z)) hes)|refine WkD.int ?_|refine ⟨?_, ?_⟩|(refine wrapA ?_ ?_ ?_;(focus simp;done);(focus (try dsimp only);omega);(focus (try dsimp only);omega))|fail))
        · obtain ⟨k0, hk0⟩ := k
          have hk' : k0 = l.length := by have := ge_dec (m := (l.map pairPV).length) h (by simpa using hk); simpa using this
          subst hk'
          have hz : ((l.take l.length).map fun x => u64 (rowP r ra l x)) = (l.map fun x => u64 (rowP r ra l x)) := by rw [List.take_length]
          refine ⟨(), ?_⟩
          rw [← hz]
          (refine Wk.of ?_ ?_ rfl rfl rfl<;>repeat' (first|exact trivial|exact WkD.same _|exact WkO.same _ _ rfl|exact WkD.fz _ _ _ rfl (Or.inl ⟨_, rfl⟩) rfl|refine ⟨?_, ?_⟩|fail))
      rintro ⟨⟩
      have hrs := rsU_succ m a l i.1
      have hrsl : ((rsU m a l i.1).map rowPV).length ≤ 1000 := by simp [rsU]; omega
      have er : (rsU m a l i.1).map rowPV ++ [PV.sl (l.map fun x => u64 (rowP r ra l x))] = (rsU m a l (i.1 + 1)).map rowPV := by
        rw [hrs, List.map_append, relP, hrw, hraw]
        congr 1
        show [PV.sl _] = [rowPV (l.map (rowP r ra l))]
        rw [rowPV, List.map_map]; rfl
      (try conv=>whnf);repeat' (first|(apply And.intro<;>try conv=>whnf)|(apply cellsI;rfl)|(apply szI;rfl)|fail)
      · exact app_big (n := 1000) hrsl (by decide)
      refine ⟨⟨i.1 + 1, hi'⟩, by show m.rel.length - (i.1 + 1) < m.rel.length - i.1; omega, ?_⟩
      (refine Wk.of ?_ ?_ rfl rfl rfl<;>repeat' (first|exact trivial|exact WkD.same _|exact WkO.same _ _ rfl|exact WkD.eq (congrArg (fun z : List PV => DV.buf _ z.length) er)|exact WkO.same _ _ (congrArg (fun z => some (DObj.arr _ z)) er)|refine WkD.int ?_|refine WkO.vars rfl ?_|refine ⟨?_, ?_⟩|(refine wrapA ?_ ?_ ?_;(focus simp;done);(focus (try dsimp only);omega);(focus (try dsimp only);omega))|fail))
    · obtain ⟨i0, hi0⟩ := i
      have hi' : i0 = m.rel.length := by have := ge_dec (m := (m.rel.map rowPV).length) h (by simpa using hi); simpa using this
      subst hi'
      exact ⟨(), (by refine Wk.of ?_ ?_ rfl rfl rfl<;>repeat' (first|exact trivial|exact WkD.same _|exact WkO.same _ _ rfl|exact WkD.fz _ _ _ rfl (Or.inl ⟨_, rfl⟩) rfl|refine WkO.vars rfl ?_|refine ⟨?_, ?_⟩|fail))⟩
  rintro ⟨⟩
  have hfin : updPV (prodM m a l, l, 0) = .tup [.agg [i64 (l.map pairPV).length, rowPV vs, .sl ((rsU m a l m.rel.length).map rowPV)], .sl (l.map pairPV), .int .i64 0] := by rw [← hVS, List.length_map]; rfl
  try conv=>whnf
  rw [hfin]; exact .refl _
end Go.Proofs.YtkjjoalphllolaaGreat
set_option maxRecDepth 100000
set_option maxHeartbeats 8000000
namespace Go.Proofs.YtkjjoalphllolaaGreat
open Go Go.Dv

theorem rm_Copy (m : Mo) (n : Nat) (hM : OkM m n) : PureFn Tryz.prog 19 [m.pv] m.pv := by
  refine PureFn.introC [6, 14, 15] mixed (fn := Tryz.f19) rfl rfl rfl fun M w0 => ?_
  have hn64 := hM.n64
  have hag := hM.ag
  have hfa := hM.fa
  have eu : ∀ r : List Nat, (r.map u64).length = r.length := fun r => List.length_map _
  have hmp : m.pv = .agg [.int .i64 m.n, rowPV (m.val.take m.val.length), .sl ((m.rel.take m.rel.length).map rowPV)] := by rw [List.take_length, List.take_length]; rfl
  try conv=>whnf
  refine ⟨Unit, fun _ => [(1, .ref 0 0), (2, .ref 1 0), (3, .ref 2 0)], fun _ => 3, fun _ => [(0, .var (cellsM m)), (1, .var cells0), (2, .var [.pv (.int .i64 m.n), .pv (rowPV (m.val.take m.val.length)), .pv .nil])], ?_, ?_⟩
  · try conv=>whnf
    refine ⟨{ i : Nat // i ≤ m.val.length }, fun i => [(1, .ref 0 0), (2, .ref 1 0), (3, .ref 2 0), (4, .pv (i64 i.1))], fun _ => 4, fun i => [(0, .var (cellsM m)), (1, .var cells0), (2, .var [.pv (.int .i64 m.n), .buf 3 ((m.val.take i.1).map u64).length, .pv .nil]), (3, .arr 1 ((m.val.take i.1).map u64))], fun i => m.val.length - i.1, ⟨⟨0, Nat.zero_le _⟩, (by refine Wk.of ?_ ?_ rfl rfl rfl<;>repeat' (first|exact trivial|exact WkD.same _|exact WkO.same _ _ rfl|exact WkD.new' rfl rfl rfl|exact WkO.new _ _ rfl|refine WkO.vars rfl ?_|exact rfl|refine ⟨?_, ?_⟩|fail))⟩, ?_⟩
    rintro ⟨i, hi⟩
    (try conv=>whnf);repeat' (first|(apply And.intro<;>try conv=>whnf)|(intro h;try conv=>whnf)|(apply infoT;rfl)|(refine lin_plan (by kernel_rfl) ?_;try conv=>whnf)|fail)
    · have hi' : i < m.val.length := by simpa using lt_dec h
      obtain ⟨s, hx⟩ : ∃ y, m.val[i]? = some y := ⟨_, List.getElem?_eq_getElem hi'⟩
      have hvsl : ((m.val.take i).map u64).length ≤ 1000 := by simp; omega
      have er : (m.val.take i).map u64 ++ [PV.int .u64 ((s : Nat) : Int)] = (m.val.take (i + 1)).map u64 := (take_map (f := u64) hx).symm
      have hix := idx_map (g := u64) hx
      (try conv=>whnf);repeat' (first|(apply And.intro<;>try conv=>whnf)|(apply cellsI;rfl)|(apply szI;rfl)|(refine ⟨_, _, rfl, idx_map (by with_reducible assumption), rfl, ?_⟩;try conv=>whnf)|fail)
      · exact app_big (n := 1000) hvsl (by decide)
      · refine ⟨⟨i + 1, hi'⟩, by show m.val.length - (i + 1) < m.val.length - i; omega, ?_⟩
        (refine Wk.of ?_ ?_ rfl rfl rfl<;>repeat' (first|exact trivial|exact WkD.same _|exact WkO.same _ _ rfl|exact WkD.eq (congrArg (fun z : List PV => DV.buf _ z.length) er)|exact WkO.same _ _ (congrArg (fun z => some (DObj.arr _ z)) er)|refine WkD.int ?_|refine WkO.vars rfl ?_|refine ⟨?_, ?_⟩|(refine wrapA ?_ ?_ ?_;(focus simp;done);(focus (try dsimp only);omega);(focus (try dsimp only);omega))|fail))
    · have hi' : i = m.val.length := by have := ge_dec (m := (m.val.map u64).length) h (by simpa using hi); simpa using this
      subst hi'
      exact ⟨(), (by refine Wk.of ?_ ?_ rfl rfl rfl<;>repeat' (first|exact trivial|exact WkD.same _|exact WkO.same _ _ rfl|exact WkD.fz _ _ _ rfl (Or.inl ⟨_, rfl⟩) rfl|refine WkO.vars rfl ?_|refine ⟨?_, ?_⟩|fail))⟩
  rintro ⟨⟩
  have hV : m.val.take m.val.length = m.val := List.take_length
  generalize m.val.take m.val.length = V at hV hmp
  refine ⟨Unit, fun _ => [(2, .ref 1 0), (3, .ref 2 0)], fun _ => 3, fun _ => [(1, .var cells0), (2, .var [.pv (.int .i64 m.n), .pv (rowPV V), .pv (.sl ((m.rel.take m.rel.length).map rowPV))])], ?_, ?_⟩
  · try conv=>whnf
    refine ⟨{ i : Nat // i ≤ m.rel.length }, fun i => [(1, .ref 0 0), (2, .ref 1 0), (3, .ref 2 0), (5, .pv (i64 i.1))], fun _ => 4, fun i => [(0, .var (cellsM m)), (1, .var cells0), (2, .var [.pv (.int .i64 m.n), .pv (rowPV V), .buf 3 ((m.rel.take i.1).map rowPV).length]), (3, .arr 1 ((m.rel.take i.1).map rowPV))], fun i => m.rel.length - i.1, ⟨⟨0, Nat.zero_le _⟩, (by refine Wk.of ?_ ?_ rfl rfl rfl<;>repeat' (first|exact trivial|exact WkD.same _|exact WkO.same _ _ rfl|exact WkD.new' rfl rfl rfl|exact WkO.new _ _ rfl|refine WkO.vars rfl ?_|exact rfl|refine ⟨?_, ?_⟩|fail))⟩, ?_⟩
    rintro ⟨i, hi⟩
    (try conv=>whnf);repeat' (first|(apply And.intro<;>try conv=>whnf)|(intro h;try conv=>whnf)|fail)
    · have hi' : i < m.rel.length := by simpa using lt_dec h
      obtain ⟨r, hx⟩ : ∃ y, m.rel[i]? = some y := ⟨_, List.getElem?_eq_getElem hi'⟩
      have hrl := hM.rows r (List.mem_iff_getElem?.2 ⟨_, hx⟩)
      have hvsl : ((m.rel.take i).map rowPV).length ≤ 1000 := by simp; omega
      have er : (m.rel.take i).map rowPV ++ [rowPV r] = (m.rel.take (i + 1)).map rowPV := (take_map (f := rowPV) hx).symm
      have hixr := idx_map (g := rowPV) hx
      refine ⟨Unit, fun _ => [(1, .ref 0 0), (2, .ref 1 0), (3, .ref 2 0), (5, .pv (i64 i)), (6, .pv (rowPV (r.take r.length)))], fun _ => 4, fun _ => [(0, .var (cellsM m)), (1, .var cells0), (2, .var [.pv (.int .i64 m.n), .pv (rowPV V), .buf 3 ((m.rel.take i).map rowPV).length]), (3, .arr 1 ((m.rel.take i).map rowPV))], ?_, ?_⟩
      · try conv=>whnf
        refine ⟨{ j : Nat // j ≤ r.length }, fun j => [(1, .ref 0 0), (2, .ref 1 0), (3, .ref 2 0), (5, .pv (i64 i)), (6, .buf 4 ((r.take j.1).map u64).length), (7, .pv (i64 j.1))], fun _ => 5, fun j => [(0, .var (cellsM m)), (1, .var cells0), (2, .var [.pv (.int .i64 m.n), .pv (rowPV V), .buf 3 ((m.rel.take i).map rowPV).length]), (3, .arr 1 ((m.rel.take i).map rowPV)), (4, .arr 1 ((r.take j.1).map u64))], fun j => r.length - j.1, ⟨⟨0, Nat.zero_le _⟩, (by refine Wk.of ?_ ?_ rfl rfl rfl<;>repeat' (first|exact trivial|exact WkD.same _|exact WkO.same _ _ rfl|exact WkD.new' rfl rfl rfl|exact WkO.new _ _ rfl|exact rfl|refine ⟨?_, ?_⟩|fail))⟩, ?_⟩
        rintro ⟨j, hj⟩
        (try conv=>whnf);repeat' (first|(apply And.intro<;>try conv=>whnf)|(intro h;try conv=>whnf)|(apply infoT;rfl)|(refine ⟨_, _, rfl, idx_map (by with_reducible assumption), rfl, ?_⟩;try conv=>whnf)|fail)
        · have hj' : j < r.length := by simpa using lt_dec h
          obtain ⟨s, hx2⟩ : ∃ y, r[j]? = some y := ⟨_, List.getElem?_eq_getElem hj'⟩
          have hvsl2 : ((r.take j).map u64).length ≤ 1000 := by simp; omega
          have er2 : (r.take j).map u64 ++ [PV.int .u64 ((s : Nat) : Int)] = (r.take (j + 1)).map u64 := (take_map (f := u64) hx2).symm
          refine ⟨_, _, rfl, idx_map hx2, rfl, ?_⟩
          (try conv=>whnf);repeat' (first|(apply And.intro<;>try conv=>whnf)|(apply cellsI;rfl)|(apply szI;rfl)|fail)
          · exact app_big (n := 1000) hvsl2 (by decide)
          · refine ⟨⟨j + 1, hj'⟩, by show r.length - (j + 1) < r.length - j; omega, ?_⟩
            (refine Wk.of ?_ ?_ rfl rfl rfl<;>repeat' (first|exact trivial|exact WkD.same _|exact WkO.same _ _ rfl|exact WkD.eq (congrArg (fun z : List PV => DV.buf _ z.length) er2)|exact WkO.same _ _ (congrArg (fun z => some (DObj.arr _ z)) er2)|refine WkD.int ?_|refine ⟨?_, ?_⟩|(refine wrapA ?_ ?_ ?_;(focus simp;done);(focus (try dsimp only);omega);(focus (try dsimp only);omega))|fail))
        · have hj' : j = r.length := by have := ge_dec (m := (r.map u64).length) h (by simpa using hj); simpa using this
          subst hj'
          exact ⟨(), (by refine Wk.of ?_ ?_ rfl rfl rfl<;>repeat' (first|exact trivial|exact WkD.same _|exact WkO.same _ _ rfl|exact WkD.fz _ _ _ rfl (Or.inl ⟨_, rfl⟩) rfl|refine ⟨?_, ?_⟩|fail))⟩
      rintro ⟨⟩
      have hR : r.take r.length = r := List.take_length
      rw [hR]
      (try conv=>whnf);repeat' (first|(apply And.intro<;>try conv=>whnf)|(apply cellsI;rfl)|(apply szI;rfl)|fail)
      · exact app_big (n := 1000) hvsl (by decide)
      · refine ⟨⟨i + 1, hi'⟩, by show m.rel.length - (i + 1) < m.rel.length - i; omega, ?_⟩
        (refine Wk.of ?_ ?_ rfl rfl rfl<;>repeat' (first|exact trivial|exact WkD.same _|exact WkO.same _ _ rfl|exact WkD.eq (congrArg (fun z : List PV => DV.buf _ z.length) er)|exact WkO.same _ _ (congrArg (fun z => some (DObj.arr _ z)) er)|refine WkD.int ?_|refine WkO.vars rfl ?_|refine ⟨?_, ?_⟩|(refine wrapA ?_ ?_ ?_;(focus simp;done);(focus (try dsimp only);omega);(focus (try dsimp only);omega))|fail))
    · have hi' : i = m.rel.length := by have := ge_dec (m := (m.rel.map rowPV).length) h (by simpa using hi); simpa using this
      subst hi'
      exact ⟨(), (by refine Wk.of ?_ ?_ rfl rfl rfl<;>repeat' (first|exact trivial|exact WkD.same _|exact WkO.same _ _ rfl|exact WkD.fz _ _ _ rfl (Or.inl ⟨_, rfl⟩) rfl|refine WkO.vars rfl ?_|refine ⟨?_, ?_⟩|fail))⟩
  rintro ⟨⟩
  try conv=>whnf
  rw [hmp]
  exact .refl _
end Go.Proofs.YtkjjoalphllolaaGreat
set_option maxRecDepth 100000
set_option maxHeartbeats 8000000
namespace Go.Proofs.YtkjjoalphllolaaGreat
open Go Go.Dv

theorem rp_Sequence (m : Mo) (l : List Act) (hf : FitM m) (hl : l.length ≤ 400) (hfa : ∀ a, a ∈ l → Fit a) (hla : ∀ a, a ∈ l → a.rel.length ≤ 1000) (hpa : ∀ a, a ∈ l → ∀ x, x ∈ a.post → x.length ≤ 1000) :
    PureFn Tryz.prog 8 [m.pv, .sl (l.map Act.pv)] (seqPV (seqI m l)) := by
  have hC := rm_Check m hf
  have e1 : ((l.map Act.pv).length : Int) = (l.length : Int) := by simp
  refine PureFn.introC [4, 10, 14, 23, 24] mixed (fn := Tryz.f8) rfl rfl rfl fun M w0 => ?_
  try conv=>whnf
  refine ⟨{ _x : Unit // moI m = 0 }, fun _ => [(1, .pv (.sl (l.map Act.pv))), (2, .ref 0 0), (4, .ref 1 0)], fun _ => 2, fun _ => [(0, .var (cellsM m)), (1, .var cells0)], ?_, ?_⟩
  · (try conv=>whnf);repeat' (first|(apply And.intro<;>try conv=>whnf)|(intro h;try conv=>whnf)|(refine PureFn.dcq (f := 18) rfl ?_;try conv=>whnf)|(refine ⟨_, _, hC, ?_, ?_⟩;(focus first|(refine ⟨?_, trivial⟩<;>first|exact PLe.refl _|exact PLe.nil)|exact trivial);try conv=>whnf)|fail)
    · rw [seqI, h]; exact le_seq _
    · exact ⟨⟨(), by simpa using h⟩, (by refine Wk.of ?_ ?_ rfl rfl rfl<;>repeat' (first|exact trivial|exact WkD.same _|exact WkO.same _ _ rfl|refine ⟨?_, ?_⟩|fail))⟩
  rintro ⟨_, hm0⟩
  obtain ⟨K, hM⟩ := moI_ok hm0
  have hK64 := hM.n64
  have hCo := rm_Copy m K hM
  have hKn : ∀ k, OkM m k → k = K := fun k hk => by
    have := hk.nn
    have := hM.nn
    omega
  (try conv=>whnf);repeat' (first|(refine PureFn.dcq (f := 19) rfl ?_;try conv=>whnf)|(refine ⟨_, _, hCo, ?_, ?_⟩;(focus first|(refine ⟨?_, trivial⟩<;>first|exact PLe.refl _|exact PLe.nil)|exact trivial);try conv=>whnf)|fail)
  refine ⟨Unit, fun _ => [(1, .pv (.sl (l.map Act.pv))), (4, .ref 1 0), (8, .ref 2 0), (9, .pv (hisPV (startP K)))], fun _ => 3, fun _ => [(1, .var cells0), (2, .var (cellsM m))], ?_, ?_⟩
  · try conv=>whnf
    refine ⟨{ i : Nat // i ≤ K }, fun i => [(1, .pv (.sl (l.map Act.pv))), (2, .ref 0 0), (4, .ref 1 0), (8, .ref 2 0), (9, .buf 3 ((startP i.1).map natsPV).length), (10, .pv (i64 i.1))], fun _ => 4, fun i => [(0, .var (cellsM m)), (1, .var cells0), (2, .var (cellsM m)), (3, .arr 1 ((startP i.1).map natsPV))], fun i => K - i.1, ⟨⟨0, Nat.zero_le _⟩, (by refine Wk.of ?_ ?_ rfl rfl rfl<;>repeat' (first|exact trivial|exact WkD.same _|exact WkO.same _ _ rfl|exact WkD.new' rfl rfl rfl|exact WkO.new _ _ rfl|exact rfl|refine ⟨?_, ?_⟩|fail))⟩, ?_⟩
    rintro ⟨i, hi⟩
    have hnn := hM.nn
    (try conv=>whnf);repeat' (first|(apply And.intro<;>try conv=>whnf)|(intro h;try conv=>whnf)|(apply cellsI;rfl)|(apply szI;rfl)|fail)
    · have hi' : i < K := by have := of_decide_eq_true h; simp only [hnn] at this; omega
      have hvsl : ((startP i).map natsPV).length ≤ 1000 := by simp [startP]; omega
      exact app_big (n := 1000) hvsl (by decide)
    · have hi' : i < K := by have := of_decide_eq_true h; simp only [hnn] at this; omega
      have er := startP_succ i
      · refine ⟨⟨i + 1, hi'⟩, by show K - (i + 1) < K - i; omega, ?_⟩
        (refine Wk.of ?_ ?_ rfl rfl rfl<;>repeat' (first|exact trivial|exact WkD.same _|exact WkO.same _ _ rfl|exact WkD.eq (congrArg (fun z : List PV => DV.buf _ z.length) er)|exact WkO.same _ _ (congrArg (fun z => some (DObj.arr _ z)) er)|refine WkD.int ?_|refine ⟨?_, ?_⟩|(refine wrapA ?_ ?_ ?_;(focus simp;done);(focus (try dsimp only);omega);(focus (try dsimp only);omega))|fail))
    · have hi' : i = K := by have := of_decide_eq_false h; simp only [hnn] at this; omega
      subst hi'
      exact ⟨(), (by refine Wk.of ?_ ?_ rfl rfl rfl<;>repeat' (first|exact trivial|exact WkD.same _|exact WkO.same _ _ rfl|exact WkD.fz _ _ _ rfl (Or.inl ⟨_, rfl⟩) rfl|refine ⟨?_, ?_⟩|fail))⟩
  rintro _
  have hst := SeqInv.start (l := l) hf (fun _ => hm0) hKn hK64
  try conv=>whnf
  refine ⟨{ x : Nat × Mo × List (List Nat) // SeqInv m l x.1 x.2.1 x.2.2 }, fun x => [(4, .ref 1 0), (8, .ref 2 0), (9, .pv (hisPV x.1.2.2)), (39, .pv (.sl (l.map Act.pv))), (40, .pv (i64 (l.map Act.pv).length)), (41, .pv (i64 x.1.1))], fun _ => 3, fun x => [(1, .var cells0), (2, .var (cellsM x.1.2.1))], fun x => l.length - x.1.1, ⟨⟨(0, m, startP K), hst⟩, (by refine Wk.of ?_ ?_ rfl rfl rfl<;>repeat' (first|exact trivial|exact WkD.same _|exact WkO.same _ _ rfl|refine ⟨?_, ?_⟩|fail))⟩, ?_⟩
  rintro ⟨⟨j, n, ps⟩, hI⟩
  (try conv=>whnf);repeat' (first|(apply And.intro<;>try conv=>whnf)|(intro h;try conv=>whnf)|(apply infoT;rfl)|fail)
  · have hj : j < l.length := by simpa using lt_dec h
    obtain ⟨a, ha⟩ : ∃ a, l[j]? = some a := ⟨_, List.getElem?_eq_getElem hj⟩
    have haM := List.mem_iff_getElem?.2 ⟨_, ha⟩
    have hU := rp_Update n a hI.fit (hfa a haM) (hla a haM) (hpa a haM)
    have hst := hI.step ha
    have hso := hI.stop ha
    have hpt := upd_parts (n := n) (a := a)
    have hlen := updI_len n a
    have hgd := hI.good
    obtain ⟨n', prs, e, hX⟩ : ∃ n' prs e, updI n a = (n', prs, e) := ⟨_, _, _, rfl⟩
    rw [hX] at hU hst hso hpt hlen
    refine ⟨_, _, rfl, idx_map ha, rfl, ?_⟩
    try conv=>whnf
    refine ⟨Unit, fun _ => [(4, .ref 1 0), (8, .ref 2 0), (9, .pv (hisPV ps)), (39, .pv (.sl (l.map Act.pv))), (40, .pv (i64 (l.map Act.pv).length)), (41, .pv (i64 j)), (13, .ref 4 0), (14, .pv (.sl (prs.map pairPV))), (15, .pv (.int .i64 e))], fun _ => 5, fun _ => [(1, .var cells0), (2, .var (cellsM n)), (4, .var (cellsM n'))], ?_, ?_⟩
    · (try conv=>whnf);repeat' (first|(refine PureFn.dcq (f := 20) rfl ?_;try conv=>whnf)|(refine ⟨_, _, hU, ?_, ?_⟩;(focus first|(refine ⟨?_, ?_, trivial⟩<;>first|exact PLe.refl _|exact PLe.nil)|exact trivial);try conv=>whnf)|fail)
      exact ⟨(), (by refine Wk.of ?_ ?_ rfl rfl rfl<;>repeat' (first|exact trivial|exact WkD.same _|exact WkO.same _ _ rfl|refine ⟨?_, ?_⟩|fail))⟩
    rintro _
    (try conv=>whnf);repeat' (first|(apply And.intro<;>try conv=>whnf)|(intro h;try conv=>whnf)|fail)
    · rw [hso h]; exact le_seq e
    obtain ⟨hm0, hnx⟩ := hst h hl
    obtain ⟨k, hk1, hk2, hk3, hk4⟩ := hpt (by simpa using h)
    obtain ⟨hS, hsh⟩ := hgd hm0
    have hkl := hS.len k hk1
    have hlen : prs.length ≤ 64 := hlen
    refine ⟨Unit, fun _ => [(4, .ref 1 0), (8, .ref 2 0), (9, .pv (hisPV ps)), (39, .pv (.sl (l.map Act.pv))), (40, .pv (i64 (l.map Act.pv).length)), (41, .pv (i64 j)), (13, .ref 4 0), (16, .pv (hisPV (longP ps (prs.take prs.length))))], fun _ => 5, fun _ => [(1, .var cells0), (2, .var (cellsM n)), (4, .var (cellsM n'))], ?_, ?_⟩
    · refine ⟨{ i : Nat // i ≤ prs.length }, fun i => [(4, .ref 1 0), (8, .ref 2 0), (9, .pv (hisPV ps)), (39, .pv (.sl (l.map Act.pv))), (40, .pv (i64 (l.map Act.pv).length)), (41, .pv (i64 j)), (13, .ref 4 0), (16, .buf 5 ((longP ps (prs.take i.1)).map natsPV).length), (56, .pv (.sl (prs.map pairPV))), (57, .pv (i64 (prs.map pairPV).length)), (58, .pv (i64 i.1))], fun _ => 6, fun i => [(1, .var cells0), (2, .var (cellsM n)), (4, .var (cellsM n')), (5, .arr 1 ((longP ps (prs.take i.1)).map natsPV))], fun i => prs.length - i.1, ⟨⟨0, Nat.zero_le _⟩, (by refine Wk.of ?_ ?_ rfl rfl rfl<;>repeat' (first|exact trivial|exact WkD.same _|exact WkO.same _ _ rfl|exact WkD.new' rfl rfl rfl|exact WkO.new _ _ rfl|exact rfl|refine ⟨?_, ?_⟩|fail))⟩, ?_⟩
      rintro ⟨i, hi⟩
      (try conv=>whnf);repeat' (first|(apply And.intro<;>try conv=>whnf)|(intro h;try conv=>whnf)|fail)
      · have hi' : i < prs.length := by simpa using lt_dec h
        obtain ⟨q, hq⟩ : ∃ q, prs[i]? = some q := ⟨_, List.getElem?_eq_getElem hi'⟩
        have hq1 : q.1 < ps.length := Nat.lt_of_lt_of_le (hk4 q (List.mem_iff_getElem?.2 ⟨_, hq⟩)) hkl
        have hm : ps.getD q.1 [] ∈ ps := by
          rw [List.getD_eq_getElem?_getD, List.getElem?_eq_getElem hq1]
          exact List.getElem_mem _
        have hgq : ps[q.1]? = some (ps.getD q.1 []) := by rw [List.getD_eq_getElem?_getD, List.getElem?_eq_getElem hq1]; rfl
        have hne := hS.ne _ hm
        have hsm : (ps.getD q.1 []).length ≤ j + 1 := hsh _ hm
        have el := long_succ (ps := ps) hq
        have hvsl : ((longP ps (prs.take i)).map natsPV).length ≤ 1000 := by simp [longP]; omega
        have hvs2 : ((ps.getD q.1 []).map i64).length ≤ 1000 := by rw [List.length_map]; omega
        have hix := idx_map (g := natsPV) hgq
        have hixp := idx_map (g := pairPV) hq
        generalize ps.getD q.1 [] = pq at *
        refine ⟨Unit, fun _ => [(4, .ref 1 0), (8, .ref 2 0), (9, .pv (hisPV ps)), (39, .pv (.sl (l.map Act.pv))), (40, .pv (i64 (l.map Act.pv).length)), (41, .pv (i64 j)), (13, .ref 4 0), (16, .buf 5 ((longP ps (prs.take (i + 1))).map natsPV).length), (56, .pv (.sl (prs.map pairPV))), (57, .pv (i64 (prs.map pairPV).length)), (58, .pv (i64 i))], fun _ => 6, fun _ => [(1, .var cells0), (2, .var (cellsM n)), (4, .var (cellsM n')), (5, .arr 1 ((longP ps (prs.take (i + 1))).map natsPV))], ?_, ?_⟩
        · obtain ⟨p0, pr, rfl⟩ : ∃ p0 pr, pq = p0 :: pr := by
            cases pq with
            | nil => exact absurd rfl hne
            | cons a b => exact ⟨a, b, rfl⟩
          (try conv=>whnf);repeat' (first|(apply And.intro<;>try conv=>whnf)|(apply infoT;rfl)|(apply bleI;rfl)|(apply cellsI;rfl)|(apply szI;rfl)|(refine ⟨_, _, rfl, idx_map (by with_reducible assumption), rfl, ?_⟩;try conv=>whnf)|fail)
          all_goals first | exact cells_i64 _ | exact Nat.le_trans hvs2 (show 1000 ≤ 4294967296 by decide) | exact app_big (n := 1000) hvs2 (by decide) | exact app_big (n := 1000) hvsl (by decide) | (refine ⟨(), ?_⟩; (refine Wk.of ?_ ?_ rfl rfl rfl<;>repeat' (first|exact trivial|exact WkD.same _|exact WkO.same _ _ rfl|exact WkD.eq (congrArg (fun z : List PV => DV.buf _ z.length) el)|exact WkO.same _ _ (congrArg (fun z => some (DObj.arr _ z)) el)|refine ⟨?_, ?_⟩|fail)))
        rintro _
        try conv=>whnf
        exact ⟨⟨i + 1, hi'⟩, by show prs.length - (i + 1) < prs.length - i; omega, (by refine Wk.of ?_ ?_ rfl rfl rfl<;>repeat' (first|exact trivial|exact WkD.same _|exact WkO.same _ _ rfl|refine WkD.int ?_|refine ⟨?_, ?_⟩|(refine wrapA ?_ ?_ ?_;(focus simp;done);(focus (try dsimp only);omega);(focus (try dsimp only);omega))|fail))⟩
      · have hi' : i = prs.length := by have := ge_dec (m := (prs.map pairPV).length) h (by simpa using hi); simpa using this
        subst hi'
        exact ⟨(), (by refine Wk.of ?_ ?_ rfl rfl rfl<;>repeat' (first|exact trivial|exact WkD.same _|exact WkO.same _ _ rfl|exact WkD.fz _ _ _ rfl (Or.inl ⟨_, rfl⟩) rfl|refine ⟨?_, ?_⟩|fail))⟩
    rintro _
    generalize hR : prs.take prs.length = R
    obtain rfl : R = prs := by rw [← hR, List.take_length]
    clear hR
    try conv=>whnf
    exact ⟨⟨(j + 1, n', longP ps R), hnx⟩, by show l.length - (j + 1) < l.length - j; omega, (by refine Wk.of ?_ ?_ rfl rfl rfl<;>repeat' (first|exact trivial|exact WkD.same _|exact WkO.same _ _ rfl|refine WkD.int ?_|refine ⟨?_, ?_⟩|(refine wrapA ?_ ?_ ?_;(focus simp;done);(focus (try dsimp only);omega);(focus (try dsimp only);omega))|fail))⟩
  · have hj : j = l.length := by have := ge_dec (m := (l.map Act.pv).length) h (by simpa using hI.le); simpa using this
    rw [hI.fin hj]
    exact .refl _
end Go.Proofs.YtkjjoalphllolaaGreat
set_option maxRecDepth 100000
set_option maxHeartbeats 4000000
namespace Go.Proofs.YtkjjoalphllolaaGreat
open Go Go.Dv

def exN : Mo := ⟨2, [1], [[3, 3], [3, 3]]⟩
def exX : Act := ⟨[[nI 3 0], [nI 3 0, n0 4]], [[], []], [[1, 2], [3, 3]]⟩
def exY : Act := ⟨[[nI 3 0], [nI 3 0, n0 4]], [[⟨0, [nI 3 0, n0 4]⟩], [⟨0, [nI 3 0, n0 4]⟩]], [[1, 2], [3, 3]]⟩
theorem exN_fit : FitM exN := ⟨by intro s hs; simp [exN] at hs; omega, by intro r hr s hs; simp [exN] at hr; subst hr; simp at hs; omega⟩
theorem exX_fit : Fit exX := by intro r hr s hs; simp [exX] at hr; rcases hr with rfl | rfl <;> simp at hs <;> omega
theorem exY_fit : Fit exY := by intro r hr s hs; simp [exY] at hr; rcases hr with rfl | rfl <;> simp at hs <;> omega
theorem exX_post : ∀ l, l ∈ exX.post → l.length ≤ 1000 := by intro l hl; simp [exX] at hl; subst hl; decide
theorem exY_post : ∀ l, l ∈ exY.post → l.length ≤ 1000 := by intro l hl; simp [exY] at hl; subst hl; decide
def exPlan : Plan := .one 0 (.two 1 (.one 2 (.one 3 .done)) 2 (.one 1 (.one 3 .done)))
theorem lp_example : PureFn Tryz.prog 11 [] (.tup [exN.pv, exX.pv]) := by
  refine PureFn.intro mixed (fn := Tryz.f11) rfl rfl rfl fun M w0 => ?_
  (try conv=>whnf);repeat' (first|(apply And.intro<;>try conv=>whnf)|(apply cellsI;rfl)|fail)
  refine ⟨exPlan, [], by kernel_rfl, ?_⟩
  (try conv=>whnf);repeat' (first|(apply And.intro<;>try conv=>whnf)|fail)
  all_goals exact PLe.tups ⟨.refl _, PLe.aggs ⟨.refl _, PLe.sls ⟨.nil, .nil, trivial⟩, .refl _, trivial⟩, trivial⟩
theorem lp_awake : PureFn Tryz.prog 5 [] (.bool true) := by
  have hE := lp_example
  have u1 := (pr_Update exN exX exN_fit exX_fit (by decide) exX_post).to (q := .tup [.agg [.int .i64 2, .sl [u64 1], .sl [rowPV [1, 2], rowPV [3, 3]]], .sl [.agg [i64 0, i64 0], .agg [i64 1, i64 1]], .int .i64 0]) (by kernel_rfl)
  have a1 := (pr_At exN 1 exY 1 exN_fit exY_fit (by decide) exY_post).to (q := .tup [.agg [.int .i64 2, .sl [u64 2], .sl [rowPV [1, 2], rowPV [3, 3]]], .int .i64 1, .int .i64 0]) (by kernel_rfl)
  have a0 := (pr_At exN 1 exY 0 exN_fit exY_fit (by decide) exY_post).to (q := .tup [.agg [.int .i64 0, .sl [], .sl []], .int .i64 0, .int .i64 11]) (by kernel_rfl)
  have e1 : PureFn Tryz.prog 13 [.sl [.agg [i64 0, i64 0], .agg [i64 1, i64 1]], .sl [.agg [i64 0, i64 0], .agg [i64 1, i64 1]]] (.bool true) := (sl_EqP [(0, 0), (1, 1)] (by decide)).to (by kernel_rfl)
  have s1 : PureFn Tryz.prog 9 [.agg [.int .i64 2, .sl [u64 1], .sl [rowPV [1, 2], rowPV [3, 3]]], .agg [.int .i64 2, .sl [u64 1], .sl [rowPV [1, 2], rowPV [3, 3]]]] (.bool true) := (rm_Same ⟨2, [1], [[1, 2], [3, 3]]⟩ (by decide) (by decide) (by decide)).to (by kernel_rfl)
  refine PureFn.introC [2, 3, 5, 6, 7, 8, 9] mixed (fn := Tryz.f5) rfl rfl rfl fun M w0 => ?_
  try conv=>whnf
  refine ⟨Unit, fun _ => [(1, .ref 0 0), (2, .ref 1 0)], fun _ => 2, fun _ => [(0, .var [.pv (.int .i64 2), .pv (.sl [u64 1]), .pv (.sl [rowPV [3, 3], rowPV [3, 3]])]), (1, .var [.pv (.sl [fpv [nI 3 0], fpv [nI 3 0, n0 4]]), .pv (.sl [.sl [], .sl []]), .pv (.sl [rowPV [1, 2], rowPV [3, 3]])])], ?_, ?_⟩
  · (try conv=>whnf);repeat' (first|(refine PureFn.dcq (f := 11) rfl ?_;try conv=>whnf)|(refine ⟨_, _, hE, ?_, ?_⟩;(focus first|(refine ⟨trivial⟩<;>first|exact PLe.refl _|exact PLe.nil)|exact trivial);try conv=>whnf)|fail)
    exact ⟨(), (by refine Wk.of ?_ ?_ rfl rfl rfl<;>repeat' (first|exact trivial|exact WkD.same _|exact WkO.same _ _ rfl|refine ⟨?_, ?_⟩|fail))⟩
  rintro ⟨⟩
  refine ⟨Unit, fun _ => [(1, .ref 0 0), (2, .ref 1 0), (3, .ref 2 0), (4, .pv (.sl [.agg [i64 0, i64 0], .agg [i64 1, i64 1]])), (5, .pv (.int .i64 0))], fun _ => 3, fun _ => [(0, .var [.pv (.int .i64 2), .pv (.sl [u64 1]), .pv (.sl [rowPV [3, 3], rowPV [3, 3]])]), (1, .var [.pv (.sl [fpv [nI 3 0], fpv [nI 3 0, n0 4]]), .pv (.sl [.sl [], .sl []]), .pv (.sl [rowPV [1, 2], rowPV [3, 3]])]), (2, .var [.pv (.int .i64 2), .pv (.sl [u64 1]), .pv (.sl [rowPV [1, 2], rowPV [3, 3]])])], ?_, ?_⟩
  · (try conv=>whnf);repeat' (first|(refine PureFn.dcq (f := 12) rfl ?_;try conv=>whnf)|(refine ⟨_, _, u1, ?_, ?_⟩;(focus first|(refine ⟨?_, ?_, trivial⟩<;>first|exact PLe.refl _|exact PLe.nil)|exact trivial);try conv=>whnf)|fail)
    exact ⟨(), (by refine Wk.of ?_ ?_ rfl rfl rfl<;>repeat' (first|exact trivial|exact WkD.same _|exact WkO.same _ _ rfl|refine ⟨?_, ?_⟩|fail))⟩
  rintro ⟨⟩
  refine ⟨Unit, fun _ => [(1, .ref 0 0), (2, .ref 1 0)], fun _ => 2, fun _ => [(0, .var [.pv (.int .i64 2), .pv (.sl [u64 1]), .pv (.sl [rowPV [3, 3], rowPV [3, 3]])]), (1, .var [.pv (.sl [fpv [nI 3 0], fpv [nI 3 0, n0 4]]), .pv (.sl [.sl [], .sl []]), .pv (.sl [rowPV [1, 2], rowPV [3, 3]])])], ?_, ?_⟩
  · (try conv=>whnf);repeat' (first|(apply And.intro<;>try conv=>whnf)|(intro h;try conv=>whnf)|apply True.intro|(apply cellsI;rfl)|(apply WhenQ.mk;(try conv=>whnf);rotate_left;(try conv=>whnf);rotate_right)|with_reducible assumption|(apply not_of;with_reducible assumption)|(refine PureFn.dcq (f := 13) rfl ?_;try conv=>whnf)|(refine PureFn.dcq (f := 9) rfl ?_;try conv=>whnf)|(refine ⟨_, _, e1, ?_, ?_⟩;(focus first|(refine ⟨?_, ?_, trivial⟩<;>first|exact PLe.refl _|exact PLe.nil)|exact trivial);try conv=>whnf)|(refine ⟨_, _, s1, ?_, ?_⟩;(focus first|(refine ⟨?_, ?_, trivial⟩<;>first|exact PLe.refl _|exact PLe.nil)|exact trivial);try conv=>whnf)|fail)
    · exact absurd h (by decide)
    · exact ⟨(), (by refine Wk.of ?_ ?_ rfl rfl rfl<;>repeat' (first|exact trivial|exact WkD.same _|exact WkO.same _ _ rfl|refine ⟨?_, ?_⟩|fail))⟩
  rintro ⟨⟩
  refine ⟨Unit, fun _ => [(1, .ref 0 0), (2, .ref 1 0), (6, .pv (fpv [nI 3 0, n0 4]))], fun _ => 2, fun _ => [(0, .var [.pv (.int .i64 2), .pv (.sl [u64 1]), .pv (.sl [rowPV [3, 3], rowPV [3, 3]])]), (1, .var [.pv (.sl [fpv [nI 3 0], fpv [nI 3 0, n0 4]]), .pv (.sl [.sl [], .sl []]), .pv (.sl [rowPV [1, 2], rowPV [3, 3]])])], ?_, ?_⟩
  · (try conv=>whnf);repeat' (first|(apply And.intro<;>try conv=>whnf)|(apply cellsI;rfl)|fail)
    exact ⟨(), (by refine Wk.of ?_ ?_ rfl rfl rfl<;>repeat' (first|exact trivial|exact WkD.same _|exact WkO.same _ _ rfl|refine ⟨?_, ?_⟩|fail))⟩
  rintro ⟨⟩
  refine ⟨Unit, fun _ => [(1, .ref 0 0), (2, .ref 1 0)], fun _ => 2, fun _ => [(0, .var [.pv (.int .i64 2), .pv (.sl [u64 1]), .pv (.sl [rowPV [3, 3], rowPV [3, 3]])]), (1, .var [.pv (.sl [fpv [nI 3 0], fpv [nI 3 0, n0 4]]), .pv (.sl [.sl [.agg [i64 0, fpv [nI 3 0, n0 4]]], .sl [.agg [i64 0, fpv [nI 3 0, n0 4]]]]), .pv (.sl [rowPV [1, 2], rowPV [3, 3]])])], ?_, ?_⟩
  · (try conv=>whnf);repeat' (first|(apply And.intro<;>try conv=>whnf)|(apply cellsI;rfl)|fail)
    exact ⟨(), (by refine Wk.of ?_ ?_ rfl rfl rfl<;>repeat' (first|exact trivial|exact WkD.same _|exact WkO.same _ _ rfl|refine ⟨?_, ?_⟩|fail))⟩
  rintro ⟨⟩
  refine ⟨Unit, fun _ => [(1, .ref 0 0), (2, .ref 1 0), (7, .ref 2 0), (8, .pv (.int .i64 1)), (9, .pv (.int .i64 0))], fun _ => 3, fun _ => [(0, .var [.pv (.int .i64 2), .pv (.sl [u64 1]), .pv (.sl [rowPV [3, 3], rowPV [3, 3]])]), (1, .var [.pv (.sl [fpv [nI 3 0], fpv [nI 3 0, n0 4]]), .pv (.sl [.sl [.agg [i64 0, fpv [nI 3 0, n0 4]]], .sl [.agg [i64 0, fpv [nI 3 0, n0 4]]]]), .pv (.sl [rowPV [1, 2], rowPV [3, 3]])]), (2, .var [.pv (.int .i64 2), .pv (.sl [u64 2]), .pv (.sl [rowPV [1, 2], rowPV [3, 3]])])], ?_, ?_⟩
  · (try conv=>whnf);repeat' (first|(refine PureFn.dcq (f := 14) rfl ?_;try conv=>whnf)|(refine ⟨_, _, a1, ?_, ?_⟩;(focus first|(refine ⟨?_, ?_, ?_, ?_, trivial⟩<;>first|exact PLe.refl _|exact PLe.nil)|exact trivial);try conv=>whnf)|fail)
    exact ⟨(), (by refine Wk.of ?_ ?_ rfl rfl rfl<;>repeat' (first|exact trivial|exact WkD.same _|exact WkO.same _ _ rfl|refine ⟨?_, ?_⟩|fail))⟩
  rintro ⟨⟩
  refine ⟨Unit, fun _ => [(7, .ref 2 0), (8, .pv (.int .i64 1)), (9, .pv (.int .i64 0)), (12, .pv (.int .i64 11))], fun _ => 3, fun _ => [(2, .var [.pv (.int .i64 2), .pv (.sl [u64 2]), .pv (.sl [rowPV [1, 2], rowPV [3, 3]])])], ?_, ?_⟩
  · (try conv=>whnf);repeat' (first|(refine PureFn.dcq (f := 14) rfl ?_;try conv=>whnf)|(refine ⟨_, _, a0, ?_, ?_⟩;(focus first|(refine ⟨?_, ?_, ?_, ?_, trivial⟩<;>first|exact PLe.refl _|exact PLe.nil)|exact trivial);try conv=>whnf)|fail)
    exact ⟨(), (by refine Wk.of ?_ ?_ rfl rfl rfl<;>repeat' (first|exact trivial|exact WkD.same _|exact WkO.same _ _ rfl|refine ⟨?_, ?_⟩|fail))⟩
  rintro ⟨⟩
  (try conv=>whnf);repeat' (first|(apply And.intro<;>try conv=>whnf)|(intro h;try conv=>whnf)|apply True.intro|(apply infoT;rfl)|(apply WhenQ.mk;(try conv=>whnf);rotate_left;(try conv=>whnf);rotate_right)|with_reducible assumption|(refine ⟨0, _, rfl, rfl, rfl, ?_⟩;try conv=>whnf)|fail)
  exact le_bool (by decide)
theorem u_mod : ∃ fs : Array Field, Tryz.prog.underlying 25 = some (.struct fs) ∧ fs.toList.map (·.type) = [3, 22, 23] := ⟨_, rfl, by kernel_rfl⟩
theorem arg_mod {n : Nat} {p : PV} (h : TyA Tryz.prog (n + 4) 25 p) : ∃ m : Mo, PLe p m.pv ∧ FitM m := by
  obtain ⟨cs, h, rfl⟩ := h
  obtain ⟨fs, hu, hf⟩ := u_mod
  have hm : mkE Tryz.prog 25 cs = .agg cs := by simp only [mkE, kindT, hu]
  obtain ⟨a, b, r1, rfl, h1, hb, m1⟩ := fs_cons hf (tyS (n := n + 3) hu h)
  obtain ⟨c, d, r2, rfl, h2, hd, m2⟩ := fs_cons m1 hb
  obtain ⟨e, g, r3, rfl, h3, hg, m3⟩ := fs_cons m2 hd
  have := fs_nil m3 hg
  subst this
  obtain ⟨w, rfl, _⟩ := int_of (n := n + 2) h1
  obtain ⟨val, q2, rfl, l2, hv⟩ := slice_of (n := n + 2) (g := u64) (Q := fun s => s < 2 ^ 64) u_rowT (u64_el (n := n + 1)) h2
  obtain ⟨rel, q3, rfl, l3, hr⟩ := slice_of (n := n + 2) (g := rowPV) (Q := fun r => ∀ s, s ∈ r → s < 2 ^ 64) u_relT (fun p hp => el_of (n := n + 1) u_rowT (u64_el (n := n)) p hp) h3
  refine ⟨⟨w, val, rel⟩, ?_, hv, hr⟩
  rw [hm]
  exact PLe.aggs ⟨.refl _, l2, l3, trivial⟩
end Go.Proofs.YtkjjoalphllolaaGreat
set_option maxRecDepth 100000
set_option maxHeartbeats 4000000
namespace Go.Proofs.YtkjjoalphllolaaGreat
open Go Go.Dv

theorem upd_sizes {m : Mo} {a : Act} : (updI m a).1.val.length ≤ 1000 ∧ (updI m a).1.rel.length ≤ 1000 ∧ ∀ r, r ∈ (updI m a).1.rel → r.length ≤ 1000 := by
  have h0 : noMo.val.length ≤ 1000 ∧ noMo.rel.length ≤ 1000 ∧ ∀ r, r ∈ noMo.rel → r.length ≤ 1000 := ⟨by decide, by decide, by intro r hr; cases hr⟩
  by_cases hk : (worldsI m a).2 = 0
  · obtain ⟨k1, k2, k3⟩ := worldsI_ok hk
    obtain ⟨⟨n, hM⟩, hA⟩ := moaI_ok k1
    unfold updI
    rw [hk, k2]
    cases hq : decide (((pairsL m a).length : Int) > 64) with
    | true => exact h0
    | false =>
      have := of_decide_eq_false hq
      have hP := prod_ok (a := a) hM k3 (by omega)
      have h1 := hP.fa
      have h2 := hP.ag
      have h3 := hP.n64
      exact ⟨show (prodM m a (pairsL m a)).val.length ≤ 1000 by omega, show (prodM m a (pairsL m a)).rel.length ≤ 1000 by omega, fun r hr => by rw [hP.rows r hr]; omega⟩
  · have hb : ((worldsI m a).2 != 0) = true := by simpa using hk
    unfold updI
    rw [hb]; exact h0
end Go.Proofs.YtkjjoalphllolaaGreat
set_option maxRecDepth 100000
set_option maxHeartbeats 8000000
namespace Go.Proofs.YtkjjoalphllolaaGreat
open Go Go.Dv

theorem fewM_sz {m : Mo} {k : Int} (h : fewM m k = true) : m.val.length ≤ 20 ∧ m.rel.length ≤ 10 ∧ ∀ r, r ∈ m.rel → r.length ≤ 1000 := by
  unfold fewM at h
  cases hb : fewB m k with
  | true => rw [hb] at h; cases h
  | false =>
    rw [hb] at h
    have h2 : (m.rel.any fun r => decide ((r.length : Int) > 70)) = false := by simpa using h
    unfold fewB at hb
    cases q0 : (bif decide (m.n > k) then decide (m.n ≤ 64) else false) with
    | true => rw [q0] at hb; cases hb
    | false =>
      cases q1 : decide ((m.val.length : Int) > 20) with
      | true => rw [q0, q1] at hb; cases hb
      | false =>
        rw [q0, q1] at hb
        have q2 : decide ((m.rel.length : Int) > 10) = false := hb
        have := of_decide_eq_false q1
        have := of_decide_eq_false q2
        refine ⟨by omega, by omega, fun r hr => ?_⟩
        have := List.any_eq_false.1 h2 r hr
        have := of_decide_eq_false (show decide ((r.length : Int) > 70) = false by simpa using this)
        omega
def SzM (m : Mo) : Prop := m.val.length ≤ 1000 ∧ m.rel.length ≤ 1000 ∧ ∀ r, r ∈ m.rel → r.length ≤ 1000
def SzS (x : Mo × List (List Nat) × Int) : Prop := SzM x.1 ∧ x.2.1.length ≤ 1000 ∧ ∀ p, p ∈ x.2.1 → p.length ≤ 1000
theorem szS_no (e : Int) : SzS (noMo, [], e) := ⟨⟨Nat.zero_le _, Nat.zero_le _, by intro r hr; cases hr⟩, Nat.zero_le _, by intro r hr; cases hr⟩
theorem seqF_sz : ∀ (l : List Act) (n : Mo) (ps : List (List Nat)) (c : Nat), SzM n → ps.length ≤ 64 → (∀ p, p ∈ ps → p.length ≤ c) → c + l.length ≤ 1000 → SzS (seqF n ps l)
  | [], n, ps, c, h1, h2, h3, h4 => ⟨h1, Nat.le_trans h2 (by decide), fun p hp => by have := h3 p hp; simp at h4; omega⟩
  | a :: r, n, ps, c, h1, h2, h3, h4 => by
    rw [seqF]
    cases he : ((updI n a).2.2 != 0) with
    | true => exact szS_no _
    | false =>
      have hl := updI_len n a
      refine seqF_sz r _ _ (c + 1) upd_sizes (by rw [longP, List.length_map]; exact hl) (fun p hp => ?_) (by simp at h4; omega)
      obtain ⟨q, _, rfl⟩ := List.mem_map.1 hp
      rw [List.length_append]
      have : (ps.getD q.1 []).length ≤ c := by
        rw [List.getD_eq_getElem?_getD]
        cases hg : ps[q.1]? with
        | none => exact Nat.zero_le _
        | some y => exact h3 y (List.mem_iff_getElem?.2 ⟨_, hg⟩)
      simp only [List.length_singleton]; omega
theorem seqI_sz {m : Mo} {l : List Act} (hm : SzM m) (hl : l.length ≤ 3) : SzS (seqI m l) := by
  rw [seqI]
  cases h : (moI m != 0) with
  | true => exact szS_no _
  | false =>
    obtain ⟨n, hM⟩ := moI_ok (show moI m = 0 by simpa using h)
    have := hM.nn
    have := hM.n64
    refine seqF_sz l m _ 1 hm (by simp [startP]; omega) (fun p hp => ?_) (by omega)
    obtain ⟨w, _, rfl⟩ := List.mem_map.1 hp
    exact Nat.le_refl _
theorem sl_EqN (p : List Nat) (hl : p.length ≤ 1000) : PureFn Tryz.prog 10 [natsPV p, natsPV p] (.bool true) := by
  have := sl_EqI (p.map fun (n : Nat) => (n : Int)) (p.map fun (n : Nat) => (n : Int)) (by rw [List.length_map]; exact hl)
  rw [List.map_map, eqL_self (fun x _ => by simp)] at this
  exact this
theorem pseq_pure (m : Mo) (l : List Act) (hf : FitM m) (hfa : ∀ a, a ∈ l → Fit a) : PureFn Tryz.prog 3 [m.pv, .sl (l.map Act.pv)] (.bool true) := by
  have hF := rm_Few m 8
  have hA := lp_awake
  have e1 : ((l.map Act.pv).length : Int) = (l.length : Int) := by simp
  refine PureFn.introC [3, 9, 10, 11] mixed (fn := Tryz.f3) rfl rfl rfl fun M w0 => ?_
  try conv=>whnf
  refine ⟨{ _x : Unit // l.length ≤ 3 ∧ fewM m 8 = true }, fun _ => [(1, .pv (.sl (l.map Act.pv))), (2, .ref 0 0)], fun _ => 1, fun _ => [(0, .var (cellsM m))], ?_, ?_⟩
  · (try conv=>whnf);repeat' (first|(apply And.intro<;>try conv=>whnf)|(intro h;try conv=>whnf)|apply True.intro|(apply WhenQ.mk;(try conv=>whnf);rotate_left;(try conv=>whnf);rotate_right)|with_reducible assumption|(apply not_of;with_reducible assumption)|(refine PureFn.dcq (f := 4) rfl ?_;try conv=>whnf)|(refine PureFn.dcq (f := 5) rfl ?_;try conv=>whnf)|(refine ⟨_, _, hF, ?_, ?_⟩;(focus first|(refine ⟨?_, ?_, trivial⟩<;>first|exact PLe.refl _|exact PLe.nil)|exact trivial);try conv=>whnf)|(refine ⟨_, _, hA, ?_, ?_⟩;(focus first|(refine ⟨trivial⟩<;>first|exact PLe.refl _|exact PLe.nil)|exact trivial);try conv=>whnf)|fail)
    · exact .refl _
    · refine ⟨⟨(), ?_⟩, (by refine Wk.of ?_ ?_ rfl rfl rfl<;>repeat' (first|exact trivial|exact WkD.same _|exact WkO.same _ _ rfl|refine ⟨?_, ?_⟩|fail))⟩
      cases h1 : decide (((l.map Act.pv).length : Int) > 3) with
      | true => rw [h1] at h; cases h
      | false =>
        rw [h1] at h
        have := of_decide_eq_false h1
        exact ⟨by omega, by simpa using h⟩
  rintro ⟨_, hl3, hw⟩
  obtain ⟨g1, g2, g3⟩ := fewM_sz hw
  try conv=>whnf
  refine ⟨{ _x : Unit // ∀ a, a ∈ l → fewI a 12 = true }, fun _ => [(1, .pv (.sl (l.map Act.pv))), (2, .ref 0 0)], fun _ => 1, fun _ => [(0, .var (cellsM m))], ?_, ?_⟩
  · refine ⟨{ i : Nat // i ≤ l.length ∧ ∀ a, a ∈ l.take i → fewI a 12 = true }, fun i => [(1, .pv (.sl (l.map Act.pv))), (2, .ref 0 0), (23, .pv (.sl (l.map Act.pv))), (24, .pv (i64 (l.map Act.pv).length)), (25, .pv (i64 i.1))], fun _ => 1, fun _ => [(0, .var (cellsM m))], fun i => l.length - i.1, ⟨⟨0, Nat.zero_le _, fun a h => by cases h⟩, (by refine Wk.of ?_ ?_ rfl rfl rfl<;>repeat' (first|exact trivial|exact WkD.same _|exact WkO.same _ _ rfl|refine ⟨?_, ?_⟩|fail))⟩, ?_⟩
    rintro ⟨i, hi, hg⟩
    (try conv=>whnf);repeat' (first|(apply And.intro<;>try conv=>whnf)|(intro h;try conv=>whnf)|(apply infoT;rfl)|fail)
    · have hi' : i < l.length := by simpa using lt_dec h
      obtain ⟨a, ha⟩ : ∃ a, l[i]? = some a := ⟨_, List.getElem?_eq_getElem hi'⟩
      have hFa := ra_Few a 12
      refine ⟨_, _, rfl, idx_map ha, rfl, ?_⟩
      (try conv=>whnf);repeat' (first|(apply And.intro<;>try conv=>whnf)|(intro h;try conv=>whnf)|(refine PureFn.dcq (f := 6) rfl ?_;try conv=>whnf)|(refine PureFn.dcq (f := 5) rfl ?_;try conv=>whnf)|(refine ⟨_, _, hFa, ?_, ?_⟩;(focus first|(refine ⟨?_, ?_, trivial⟩<;>first|exact PLe.refl _|exact PLe.nil)|exact trivial);try conv=>whnf)|(refine ⟨_, _, hA, ?_, ?_⟩;(focus first|(refine ⟨trivial⟩<;>first|exact PLe.refl _|exact PLe.nil)|exact trivial);try conv=>whnf)|fail)
      · exact .refl _
      · refine ⟨⟨i + 1, hi', fun b hb => ?_⟩, by show l.length - (i + 1) < l.length - i; omega, (by refine Wk.of ?_ ?_ rfl rfl rfl<;>repeat' (first|exact trivial|exact WkD.same _|exact WkO.same _ _ rfl|refine WkD.int ?_|refine ⟨?_, ?_⟩|(refine wrapA ?_ ?_ ?_;(focus simp;done);(focus (try dsimp only);omega);(focus (try dsimp only);omega))|fail))⟩
        rw [List.take_add_one, ha, List.mem_append] at hb
        rcases hb with hb | hb
        · exact hg b hb
        · obtain rfl : b = a := by simpa using hb
          simpa using h
    · have hi' : i = l.length := by have := ge_dec (m := (l.map Act.pv).length) h (by simpa using hi); simpa using this
      subst hi'
      rw [List.take_length] at hg
      exact ⟨⟨(), hg⟩, (by refine Wk.of ?_ ?_ rfl rfl rfl<;>repeat' (first|exact trivial|exact WkD.same _|exact WkO.same _ _ rfl|refine ⟨?_, ?_⟩|fail))⟩
  rintro ⟨_, hfew⟩
  have g5 : ∀ a, a ∈ l → a.rel.length ≤ 1000 := fun a ha => by have := (few_ok (hfew a ha)).2.2.1; omega
  have g6 : ∀ a, a ∈ l → ∀ x, x ∈ a.post → x.length ≤ 1000 := fun a ha x hx => by have := ((few_ok (hfew a ha)).2.2.2.2 x hx).1; omega
  have hS := pr_Sequence m l hf g1 g2 g3 (by omega) hfa g5 g6
  have hR := rp_Sequence m l hf (by omega) hfa g5 g6
  obtain ⟨⟨s1, s2, s3⟩, s4, s5⟩ := seqI_sz (m := m) (l := l) ⟨by omega, by omega, g3⟩ hl3
  generalize seqI m l = Y at hS hR s1 s2 s3 s4 s5
  obtain ⟨p, ps, e⟩ := Y
  have s4 : ps.length ≤ 1000 := s4
  have s5 : ∀ q, q ∈ ps → q.length ≤ 1000 := s5
  have hSm := rm_Same p s1 s2 s3
  refine ⟨Unit, fun _ => [(1, .pv (.sl (l.map Act.pv))), (2, .ref 0 0), (7, .ref 1 0), (8, .pv (hisPV ps)), (9, .pv (.int .i64 e))], fun _ => 2, fun _ => [(0, .var (cellsM m)), (1, .var (cellsM p))], ?_, ?_⟩
  · (try conv=>whnf);repeat' (first|(refine PureFn.dcq (f := 7) rfl ?_;try conv=>whnf)|(refine ⟨_, _, hS, ?_, ?_⟩;(focus first|(refine ⟨?_, ?_, trivial⟩<;>first|exact PLe.refl _|exact PLe.nil)|exact trivial);try conv=>whnf)|fail)
    exact ⟨(), (by refine Wk.of ?_ ?_ rfl rfl rfl<;>repeat' (first|exact trivial|exact WkD.same _|exact WkO.same _ _ rfl|refine ⟨?_, ?_⟩|fail))⟩
  rintro _
  refine ⟨Unit, fun _ => [(7, .ref 1 0), (8, .pv (hisPV ps)), (9, .pv (.int .i64 e)), (10, .ref 2 0), (11, .pv (hisPV ps)), (12, .pv (.int .i64 e))], fun _ => 3, fun _ => [(1, .var (cellsM p)), (2, .var (cellsM p))], ?_, ?_⟩
  · (try conv=>whnf);repeat' (first|(refine PureFn.dcq (f := 8) rfl ?_;try conv=>whnf)|(refine ⟨_, _, hR, ?_, ?_⟩;(focus first|(refine ⟨?_, ?_, trivial⟩<;>first|exact PLe.refl _|exact PLe.nil)|exact trivial);try conv=>whnf)|fail)
    exact ⟨(), (by refine Wk.of ?_ ?_ rfl rfl rfl<;>repeat' (first|exact trivial|exact WkD.same _|exact WkO.same _ _ rfl|refine ⟨?_, ?_⟩|fail))⟩
  rintro _
  (try conv=>whnf);repeat' (first|(apply And.intro<;>try conv=>whnf)|(intro h;try conv=>whnf)|apply True.intro|(apply WhenQ.mk;(try conv=>whnf);rotate_left;(try conv=>whnf);rotate_right)|with_reducible assumption|(apply not_of;with_reducible assumption)|(refine PureFn.dcq (f := 9) rfl ?_;try conv=>whnf)|(refine ⟨_, _, hSm, ?_, ?_⟩;(focus first|(refine ⟨?_, ?_, trivial⟩<;>first|exact PLe.refl _|exact PLe.nil)|exact trivial);try conv=>whnf)|fail)
  · exact le_bool (by simp at h)
  refine ⟨{ i : Nat // i ≤ ps.length }, fun i => [(8, .pv (hisPV ps)), (11, .pv (hisPV ps)), (64, .pv (hisPV ps)), (65, .pv (i64 (ps.map natsPV).length)), (66, .pv (i64 i.1))], fun _ => 0, fun _ => [], fun i => ps.length - i.1, ⟨⟨0, Nat.zero_le _⟩, (by refine Wk.of ?_ ?_ rfl rfl rfl<;>repeat' (first|exact trivial|exact WkD.same _|refine ⟨?_, ?_⟩|fail))⟩, ?_⟩
  rintro ⟨i, hi⟩
  (try conv=>whnf);repeat' (first|(apply And.intro<;>try conv=>whnf)|(intro h;try conv=>whnf)|(apply infoT;rfl)|(refine lin_plan (by kernel_rfl) ?_;try conv=>whnf)|(refine PureFn.dcq (f := 5) rfl ?_;try conv=>whnf)|(refine ⟨_, _, hA, ?_, ?_⟩;(focus first|(refine ⟨trivial⟩<;>first|exact PLe.refl _|exact PLe.nil)|exact trivial);try conv=>whnf)|fail)
  · have hi' : i < ps.length := by simpa using lt_dec h
    obtain ⟨y, hy⟩ : ∃ y, ps[i]? = some y := ⟨_, List.getElem?_eq_getElem hi'⟩
    have hE := sl_EqN y (s5 y (List.mem_iff_getElem?.2 ⟨_, hy⟩))
    have hix := idx_map (g := natsPV) hy
    refine ⟨_, _, rfl, hix, rfl, ?_⟩
    (try conv=>whnf);repeat' (first|(apply And.intro<;>try conv=>whnf)|(intro h;first|with_reducible exact nt0 h|try conv=>whnf)|(apply infoT;rfl)|(refine ⟨_, _, rfl, idx_map (by with_reducible assumption), rfl, ?_⟩;try conv=>whnf)|(refine ⟨_, (by (conv=>whnf);exact hE), rfl, ?_⟩;try conv=>whnf)|fail)
    exact ⟨⟨i + 1, hi'⟩, by show ps.length - (i + 1) < ps.length - i; omega, (by refine Wk.of ?_ ?_ rfl rfl rfl<;>repeat' (first|exact trivial|exact WkD.same _|refine WkD.int ?_|refine ⟨?_, ?_⟩|(refine wrapA ?_ ?_ ?_;(focus simp;done);(focus (try dsimp only);omega);(focus (try dsimp only);omega))|fail))⟩
  · exact .refl _
theorem u_acl : Tryz.prog.underlying 26 = some (.slice 32) := by kernel_rfl
theorem arg_acl {n : Nat} {p : PV} (h : TyA Tryz.prog (n + 8) 26 p) : ∃ acts : List Act, PLe p (.sl (acts.map Act.pv)) ∧ ∀ a, a ∈ acts → Fit a := by
  exact el_of (n := n + 7) (g := Act.pv) (Q := Fit) u_acl (fun p hp => arg_act (n := n) hp) p h
theorem pseq_args (ps : List PV) (hps : TyAll Tryz.prog 8 Tryz.f3.params.toList ps) : PureFn Tryz.prog 3 ps (.bool true) := by
  obtain ⟨p1, r1, rfl, h1, p2, r2, rfl, h2, rfl⟩ := hps
  obtain ⟨m, hm, hf⟩ := arg_mod (n := 4) h1
  obtain ⟨l, ha, hfa⟩ := arg_acl (n := 0) h2
  exact (pseq_pure m l hf hfa).le ⟨hm, ha, trivial⟩
end Go.Proofs.YtkjjoalphllolaaGreat
