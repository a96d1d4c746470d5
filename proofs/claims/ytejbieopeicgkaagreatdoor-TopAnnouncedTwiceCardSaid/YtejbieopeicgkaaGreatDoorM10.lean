/- Parts of the proof, one after the other: Action models one after the other: Chain of the program walked. The number of trailing zeros: the library's function walked, over its table. Models: the members of a set, and Restrict of the program walked. Products: the examples of the law; models as arguments. Products: what the law ProductKeeps asks (plain). Models: Restrict, and announcements, of the program walked. The dynamic language: where its formulas hold (plain). Models: closed parts of models; formulas that are put together (plain). The dynamic language: formulas that are put together; models taken twice (plain). The dynamic language: announcing twice; the axioms (plain). The dynamic language: the axioms; public events; events as steps (plain). Reductions of announcements: where they hold (plain). Reductions: a formula and its reduction hold at the same worlds (plain). Reductions: what the laws ReduceEqual and ReduceAnnounces ask (plain). Announcements: as action models, and twice (plain). Action models and announcements: the example of the laws walked. The laws TopAnnouncementActions and TopAnnouncedTwice walked. -/
import Derived.Test.YtejbieopeicgkaaGreatDoorChecked
import Derived.WalkKit
import Derived.Laws.Bits64b
import Derived.Lib.TrailingZeros
import Derived.Test.YtejbieopeicgkaaGreatDoorM9
set_option maxRecDepth 100000
set_option maxHeartbeats 4000000
namespace Go.Proofs.YtejbieopeicgkaaGreatDoor
open Go Go.Dv

theorem cp_asg0 (a : Act) (e : Nat) (he : e < a.post.length) (hS : SmX a) : PanFn Tryz.prog 71 [a.pv, i64 e, postPV []] (toE postPV (asgE a e [])) := by
  refine PureFn.pan (p := postPV (compA (a.post.getD e []))) ?_
  obtain ⟨q, hq⟩ : ∃ y, a.post[e]? = some y := ⟨_, List.getElem?_eq_getElem he⟩
  have hqd : a.post.getD e [] = q := by rw [List.getD_eq_getElem?_getD, hq]; rfl
  rw [hqd]
  have hC := cp_compact q (hS.post q (List.mem_iff_getElem?.2 ⟨_, hq⟩))
  have hix := idx_map (g := postPV) hq
  refine PureFn.intro mixed (fn := Tryz.f71) rfl rfl rfl fun M w0 => ?_
  (try conv=>whnf);repeat' (first|(apply And.intro<;>try conv=>whnf)|(apply infoT;rfl)|(refine ⟨_, _, rfl, idx_map (by with_reducible assumption), rfl, ?_⟩;try conv=>whnf)|(refine PureFn.dcq (f := 85) rfl ?_;try conv=>whnf)|(refine ⟨_, _, hC, ?_, ?_⟩;(focus first|(refine ⟨?_, trivial⟩<;>first|exact PLe.refl _|exact PLe.nil)|exact trivial);try conv=>whnf)|fail)
  refine ⟨Unit, fun _ => [(7, .pv (postPV (compA q))), (20, .pv (.int .i64 0)), (21, .pv (.int .i64 0))], fun _ => 0, fun _ => [], fun _ => 0, ⟨(), (by refine Wk.of ?_ ?_ rfl rfl rfl<;>repeat' (first|exact trivial|exact WkD.same _|refine ⟨?_, ?_⟩|fail))⟩, ?_⟩
  rintro _
  (try conv=>whnf);repeat' (first|(apply And.intro<;>try conv=>whnf)|(intro h;try conv=>whnf)|fail)
  · simp at h
  · exact .refl _
/-- The first one, with canonical formulas. -/
def firA (a : Act) : Act := ⟨a.pre.map comp, a.post.map compA, a.rel⟩
def foldC : Act → List Act → Act × Int
  | c, [] => (c, 0)
  | c, b :: r => bif (composeI c b).2 != 0 then (noAct, (composeI c b).2) else foldC (composeI c b).1 r
def chainI : List Act → Act × Int
  | [] => (noAct, 1)
  | a :: r => bif aloneI a != 0 then (noAct, aloneI a) else foldC (firA a) r
theorem cp_Chain (a : Act) (l : List Act) (G : Nat → Act → Prop) (hS : SmX a) (h0 : aloneI a = 0 → G 0 (firA a)) (hl : l.length ≤ 400)
    (hC : ∀ j c b, G j c → l[j]? = some b → PureFn Tryz.prog 23 [c.pv, b.pv] (pairA (composeI c b)) ∧ ((composeI c b).2 = 0 → G (j + 1) (composeI c b).1)) :
    PureFn Tryz.prog 30 [.sl ((a :: l).map Act.pv)] (pairA (chainI (a :: l))) := by
  have hCa := cp_check a hS
  have e1 : ((a.pre.map fpv).length : Int) = (a.pre.length : Int) := by simp
  have e3 : ((a.rel.map rowPV).length : Int) = (a.rel.length : Int) := by simp
  obtain ⟨R, hR⟩ : ∃ R, R = chainI (a :: l) := ⟨_, rfl⟩
  rw [← hR]
  rw [chainI] at hR
  refine PureFn.introC [6, 12, 17, 22] mixed (fn := Tryz.f30) rfl rfl rfl fun M w0 => ?_
  (try conv=>whnf);repeat' (first|(apply And.intro<;>try conv=>whnf)|(intro h;try conv=>whnf)|fail)
  · simp at h; omega
  refine ⟨{ _x : Unit // aloneI a = 0 }, fun _ => [(0, .pv (.sl ((a :: l).map Act.pv))), (2, .ref 0 0)], fun _ => 1, fun _ => [(0, .var cellsZ)], ?_, ?_⟩
  · (try conv=>whnf);repeat' (first|(apply And.intro<;>try conv=>whnf)|(intro h;try conv=>whnf)|(apply infoT;rfl)|(refine PureFn.dcq (f := 51) rfl ?_;try conv=>whnf)|(refine ⟨0, _, rfl, rfl, rfl, ?_⟩;try conv=>whnf)|(refine ⟨_, _, hCa, ?_, ?_⟩;(focus first|(refine ⟨?_, trivial⟩<;>first|exact PLe.refl _|exact PLe.nil)|exact trivial);try conv=>whnf)|fail)
    · rw [hR, show (aloneI a != 0) = true from h]; exact le_noAct _
    · exact ⟨⟨(), by simpa using h⟩, (by refine Wk.of ?_ ?_ rfl rfl rfl<;>repeat' (first|exact trivial|exact WkD.same _|exact WkO.same _ _ rfl|refine ⟨?_, ?_⟩|fail))⟩
  rintro ⟨_, ha0⟩
  have g1 : (aloneI a != 0) = false := by simpa using ha0
  have hOa := actI_ok ha0
  have n8 := hOa.n8
  have n1 := hOa.n1
  have hpl := hOa.post
  have hGA := h0 ha0
  rw [g1] at hR
  have hR : R = foldC (firA a) l := hR
  try conv=>whnf
  refine ⟨Unit, fun _ => [(0, .pv (.sl ((a :: l).map Act.pv))), (2, .ref 0 0), (5, .ref 1 0)], fun _ => 2, fun _ => [(0, .var cellsZ), (1, .var [.pv (.sl (((a.pre.take a.pre.length).map comp).map fpv)), .pv (.sl (((a.post.take a.pre.length).map compA).map postPV)), .pv .nil])], ?_, ?_⟩
  · (try conv=>whnf);repeat' (first|(apply And.intro<;>try conv=>whnf)|(apply infoT;rfl)|(refine ⟨0, _, rfl, rfl, rfl, ?_⟩;try conv=>whnf)|fail)
    refine ⟨{ i : Nat // i ≤ a.pre.length }, fun i => [(0, .pv (.sl ((a :: l).map Act.pv))), (2, .ref 0 0), (5, .ref 1 0), (28, .pv (.sl (a.pre.map fpv))), (29, .pv (i64 (a.pre.map fpv).length)), (30, .pv (i64 i.1))], fun _ => 4, fun i => [(0, .var cellsZ), (1, .var [.buf 2 (((a.pre.take i.1).map comp).map fpv).length, .buf 3 (((a.post.take i.1).map compA).map postPV).length, .pv .nil]), (2, .arr 1 (((a.pre.take i.1).map comp).map fpv)), (3, .arr 1 (((a.post.take i.1).map compA).map postPV))], fun i => a.pre.length - i.1, ⟨⟨0, Nat.zero_le _⟩, (by refine Wk.of ?_ ?_ rfl rfl rfl<;>repeat' (first|exact trivial|exact WkD.same _|exact WkO.same _ _ rfl|exact WkD.new' rfl rfl rfl|exact WkO.new _ _ rfl|refine WkO.vars rfl ?_|exact rfl|refine ⟨?_, ?_⟩|fail))⟩, ?_⟩
    rintro ⟨i, hi⟩
    (try conv=>whnf);repeat' (first|(apply And.intro<;>try conv=>whnf)|(intro h;try conv=>whnf)|(apply infoT;rfl)|fail)
    · have hi' : i < a.pre.length := by simpa using lt_dec h
      obtain ⟨p, hp⟩ : ∃ y, a.pre[i]? = some y := ⟨_, List.getElem?_eq_getElem hi'⟩
      obtain ⟨q, hq⟩ : ∃ y, a.post[i]? = some y := ⟨_, List.getElem?_eq_getElem (by rw [hpl]; exact hi')⟩
      have hCq := cp_compact q (hS.post q (List.mem_iff_getElem?.2 ⟨_, hq⟩))
      have hFp := fm_Compact p
      have hs1 : (((a.pre.take i).map comp).map fpv).length ≤ 1000 := by simp; omega
      have hs2 : (((a.post.take i).map compA).map postPV).length ≤ 1000 := by simp; omega
      have e5 : ((a.pre.take i).map comp).map fpv ++ [.sl ((comp p).map Nd.pv)] = ((a.pre.take (i + 1)).map comp).map fpv := by
        rw [List.take_add_one, hp, List.map_append, List.map_append]; rfl
      have e6 : ((a.post.take i).map compA).map postPV ++ [.sl ((compA q).map Asg.pv)] = ((a.post.take (i + 1)).map compA).map postPV := by
        rw [List.take_add_one, hq, List.map_append, List.map_append]; rfl
      have hixq := idx_map (g := postPV) hq
      refine ⟨_, _, rfl, idx_map hp, rfl, ?_⟩
      try conv=>whnf
      refine ⟨Plan.ofL [0, 1, 2, 3, 4, 6, 7, 8, 9, 10, 11, 12, 13, 14, 5, 18, 15, 16, 17, 19, 20, 21], [19, 21, 1005, 1017, 2006, 2007, 2009, 2010, 2011, 2013, 2014, 2018], by kernel_rfl, ?_⟩
      (try conv=>whnf);repeat' (first|(apply And.intro<;>try conv=>whnf)|(intro h;try conv=>whnf)|(apply infoT;rfl)|(apply cellsI;rfl)|(apply szI;rfl)|(refine ⟨_, _, rfl, idx_map (by with_reducible assumption), rfl, ?_⟩;try conv=>whnf)|(refine ⟨_, (by (conv=>whnf);exact hFp), rfl, ?_⟩;try conv=>whnf)|(refine ⟨_, (by (conv=>whnf);exact hCq), rfl, ?_⟩;try conv=>whnf)|(refine ⟨0, _, rfl, rfl, rfl, ?_⟩;try conv=>whnf)|fail)
      · exact app_big (n := 1000) hs1 (by decide)
      · exact ExtV.put (k := 2) (fun cs h => by cases h) _ _ h
      · exact app_big (n := 1000) hs2 (by decide)
      · exact ExtV.put (k := 3) (fun cs h => by cases h) _ _ h
      · refine ⟨⟨i + 1, hi'⟩, by show a.pre.length - (i + 1) < a.pre.length - i; omega, ?_⟩
        (refine Wk.of ?_ ?_ rfl rfl rfl<;>repeat' (first|exact trivial|exact WkD.same _|exact WkO.same _ _ rfl|exact WkD.eq (congrArg (fun z : List PV => DV.buf _ z.length) e5)|exact WkO.same _ _ (congrArg (fun z => some (DObj.arr _ z)) e5)|exact WkD.eq (congrArg (fun z : List PV => DV.buf _ z.length) e6)|exact WkO.same _ _ (congrArg (fun z => some (DObj.arr _ z)) e6)|refine WkD.int ?_|refine WkO.vars rfl ?_|refine ⟨?_, ?_⟩|(refine wrapA ?_ ?_ ?_;(focus simp;done);(focus (try dsimp only);omega);(focus (try dsimp only);omega))|fail))
    · have hi' : i = a.pre.length := by have := ge_dec (m := (a.pre.map fpv).length) h (by simpa using hi); simpa using this
      subst hi'
      exact ⟨(), (by refine Wk.of ?_ ?_ rfl rfl rfl<;>repeat' (first|exact trivial|exact WkD.same _|exact WkO.same _ _ rfl|exact WkD.fz _ _ _ rfl (Or.inl ⟨_, rfl⟩) rfl|refine WkO.vars rfl ?_|refine ⟨?_, ?_⟩|fail))⟩
  rintro _
  have hT1 : a.pre.take a.pre.length = a.pre := List.take_length
  have hT2 : a.post.take a.pre.length = a.post := by rw [← hpl, List.take_length]
  rw [hT1, hT2]
  refine ⟨Unit, fun _ => [(0, .pv (.sl ((a :: l).map Act.pv))), (2, .ref 0 0), (5, .ref 1 0)], fun _ => 2, fun _ => [(0, .var cellsZ), (1, .var [.pv (.sl ((a.pre.map comp).map fpv)), .pv (.sl ((a.post.map compA).map postPV)), .pv (.sl ((a.rel.take a.rel.length).map rowPV))])], ?_, ?_⟩
  · (try conv=>whnf);repeat' (first|(apply And.intro<;>try conv=>whnf)|(apply infoT;rfl)|(refine ⟨0, _, rfl, rfl, rfl, ?_⟩;try conv=>whnf)|fail)
    refine ⟨{ i : Nat // i ≤ a.rel.length }, fun i => [(0, .pv (.sl ((a :: l).map Act.pv))), (2, .ref 0 0), (5, .ref 1 0), (59, .pv (.sl (a.rel.map rowPV))), (60, .pv (i64 (a.rel.map rowPV).length)), (61, .pv (i64 i.1))], fun _ => 3, fun i => [(0, .var cellsZ), (1, .var [.pv (.sl ((a.pre.map comp).map fpv)), .pv (.sl ((a.post.map compA).map postPV)), .buf 2 ((a.rel.take i.1).map rowPV).length]), (2, .arr 1 ((a.rel.take i.1).map rowPV))], fun i => a.rel.length - i.1, ⟨⟨0, Nat.zero_le _⟩, (by refine Wk.of ?_ ?_ rfl rfl rfl<;>repeat' (first|exact trivial|exact WkD.same _|exact WkO.same _ _ rfl|exact WkD.new' rfl rfl rfl|exact WkO.new _ _ rfl|refine WkO.vars rfl ?_|exact rfl|refine ⟨?_, ?_⟩|fail))⟩, ?_⟩
    rintro ⟨i, hi⟩
    (try conv=>whnf);repeat' (first|(apply And.intro<;>try conv=>whnf)|(intro h;try conv=>whnf)|(apply infoT;rfl)|fail)
    · have hi' : i < a.rel.length := by simpa using lt_dec h
      obtain ⟨r, hx⟩ : ∃ y, a.rel[i]? = some y := ⟨_, List.getElem?_eq_getElem hi'⟩
      have hRC := sl_CloneP r (by rw [hOa.rows r (List.mem_iff_getElem?.2 ⟨_, hx⟩)]; omega)
      have hag := hOa.agn
      have hvsl : ((a.rel.take i).map rowPV).length ≤ 1000 := by simp; omega
      have er : (a.rel.take i).map rowPV ++ [rowPV r] = (a.rel.take (i + 1)).map rowPV := (take_map (f := rowPV) hx).symm
      refine ⟨_, _, rfl, idx_map hx, rfl, ?_⟩
      try conv=>whnf
      refine ⟨Plan.lin 0 8, [7], by kernel_rfl, ?_⟩
      (try conv=>whnf);repeat' (first|(apply And.intro<;>try conv=>whnf)|(apply cellsI;rfl)|(apply szI;rfl)|(refine ⟨_, (by (conv=>whnf);exact hRC), rfl, ?_⟩;try conv=>whnf)|fail)
      · exact app_big (n := 1000) hvsl (by decide)
      · refine ⟨⟨i + 1, hi'⟩, by show a.rel.length - (i + 1) < a.rel.length - i; omega, ?_⟩
        (refine Wk.of ?_ ?_ rfl rfl rfl<;>repeat' (first|exact trivial|exact WkD.same _|exact WkO.same _ _ rfl|exact WkD.eq (congrArg (fun z : List PV => DV.buf _ z.length) er)|exact WkO.same _ _ (congrArg (fun z => some (DObj.arr _ z)) er)|refine WkD.int ?_|refine WkO.vars rfl ?_|refine ⟨?_, ?_⟩|(refine wrapA ?_ ?_ ?_;(focus simp;done);(focus (try dsimp only);omega);(focus (try dsimp only);omega))|fail))
    · have hi' : i = a.rel.length := by have := ge_dec (m := (a.rel.map rowPV).length) h (by simpa using hi); simpa using this
      subst hi'
      exact ⟨(), (by refine Wk.of ?_ ?_ rfl rfl rfl<;>repeat' (first|exact trivial|exact WkD.same _|exact WkO.same _ _ rfl|exact WkD.fz _ _ _ rfl (Or.inl ⟨_, rfl⟩) rfl|refine WkO.vars rfl ?_|refine ⟨?_, ?_⟩|fail))⟩
  rintro _
  rw [show a.rel.take a.rel.length = a.rel from List.take_length]
  have e7 : ((l.map Act.pv).length : Int) = (l.length : Int) := by simp
  have hsl : ((List.map Act.pv (a :: l)).drop 1).take ((List.map Act.pv (a :: l)).length - 1) = l.map Act.pv := by
    show (List.map Act.pv l).take ((List.map Act.pv l).length) = _
    rw [List.take_length]
  (try conv=>whnf);repeat' (first|(apply And.intro<;>try conv=>whnf)|(apply infoT;rfl)|fail)
  · simp only [cellsAll, List.all_eq_true]
    intro p hp
    obtain ⟨x, _, rfl⟩ := List.mem_map.1 hp
    rfl
  refine ⟨1, (List.map Act.pv (a :: l)).length, rfl, rfl, by simp, Nat.le_refl _, ?_⟩
  rw [hsl]
  try conv=>whnf
  refine ⟨{ x : Nat × Act // x.1 ≤ l.length ∧ G x.1 x.2 ∧ R = foldC x.2 (l.drop x.1) }, fun x => [(2, .ref 0 0), (5, .ref 1 0), (74, .pv (.sl (l.map Act.pv))), (75, .pv (i64 (l.map Act.pv).length)), (76, .pv (i64 x.1.1))], fun _ => 2, fun x => [(0, .var cellsZ), (1, .var (cellsA x.1.2))], fun x => l.length - x.1.1, ⟨⟨(0, firA a), Nat.zero_le _, hGA, hR⟩, (by refine Wk.of ?_ ?_ rfl rfl rfl<;>repeat' (first|exact trivial|exact WkD.same _|exact WkO.same _ _ rfl|refine ⟨?_, ?_⟩|fail))⟩, ?_⟩
  rintro ⟨⟨j, c⟩, hj, hGc, hfc⟩
  have hfc : R = foldC c (l.drop j) := hfc
  clear hR
  (try conv=>whnf);repeat' (first|(apply And.intro<;>try conv=>whnf)|(intro h;try conv=>whnf)|(apply infoT;rfl)|fail)
  · have hj' : j < l.length := by simpa using lt_dec h
    obtain ⟨b, hb⟩ : ∃ y, l[j]? = some y := ⟨_, List.getElem?_eq_getElem hj'⟩
    obtain ⟨hCo, hGn⟩ := hC j c b hGc hb
    have hdr : foldC c (l.drop j) = bif (composeI c b).2 != 0 then (noAct, (composeI c b).2) else foldC (composeI c b).1 (l.drop (j + 1)) := by
      obtain ⟨q1, q2⟩ := List.getElem?_eq_some_iff.1 hb
      rw [List.drop_eq_getElem_cons q1, q2]; rfl
    rw [hdr] at hfc
    clear hdr
    generalize composeI c b = X at hCo hGn hfc
    obtain ⟨d, e⟩ := X
    refine ⟨_, _, rfl, idx_map hb, rfl, ?_⟩
    try conv=>whnf
    refine ⟨Unit, fun _ => [(2, .ref 0 0), (5, .ref 1 0), (12, .pv (.int .i64 e)), (74, .pv (.sl (l.map Act.pv))), (75, .pv (i64 (l.map Act.pv).length)), (76, .pv (i64 j))], fun _ => 2, fun _ => [(0, .var cellsZ), (1, .var (cellsA d))], ?_, ?_⟩
    · (try conv=>whnf);repeat' (first|(refine PureFn.dcq (f := 23) rfl ?_;try conv=>whnf)|(refine ⟨_, _, hCo, ?_, ?_⟩;(focus first|(refine ⟨?_, ?_, trivial⟩<;>first|exact PLe.refl _|exact PLe.nil)|exact trivial);try conv=>whnf)|fail)
      exact ⟨(), (by refine Wk.of ?_ ?_ rfl rfl rfl<;>repeat' (first|exact trivial|exact WkD.same _|exact WkO.same _ _ rfl|refine ⟨?_, ?_⟩|fail))⟩
    rintro _
    (try conv=>whnf);repeat' (first|(apply And.intro<;>try conv=>whnf)|(intro h;try conv=>whnf)|fail)
    · rw [hfc, show ((d, e).2 != 0) = true from h]; exact le_noAct _
    · have he : e = 0 := by simpa using h
      subst he
      exact ⟨⟨(j + 1, d), hj', hGn rfl, hfc⟩, by show l.length - (j + 1) < l.length - j; omega, (by refine Wk.of ?_ ?_ rfl rfl rfl<;>repeat' (first|exact trivial|exact WkD.same _|exact WkO.same _ _ rfl|refine WkD.int ?_|refine ⟨?_, ?_⟩|(refine wrapA ?_ ?_ ?_;(focus simp;done);(focus (try dsimp only);omega);(focus (try dsimp only);omega))|fail))⟩
  · have hj' : j = l.length := by have := ge_dec (m := (l.map Act.pv).length) h (by simpa using hj); simpa using this
    subst hj'
    have hfc2 : R = (c, 0) := by rw [hfc, List.drop_length]; rfl
    show PLe (.tup [c.pv, .int .i64 0]) (pairA R)
    rw [hfc2]
    exact .refl _
end Go.Proofs.YtejbieopeicgkaaGreatDoor
set_option maxRecDepth 100000
namespace Go.Proofs.YtejbieopeicgkaaGreatDoor
open Go Go.RowKit

theorem tz64_core (x k idx : Nat) (w : World) (hx0 : ((x : Int) == 0) = false)
    (key : IntKind.u64.wrap (bits BinOp.and IntKind.u64 (x : Int) (IntKind.u64.wrap (-(x : Int))) * 285870213051353865) / 288230376151711744 = (idx : Int))
    (hi : idx < 64) (hk : k < 64) (hcell : w.cell? ⟨0, idx, none⟩ = some (.int .u8 k)) :
    Calls Tryz.prog 149 #[.int .u64 x] w fun e w' => e = .returned (.int .i64 k) ∧ w' = w := by
  go_enter Tryz.func149, Tryz.ntmps149
  go_wp2_with (simp only [key])
  go_ret
  exact ⟨rfl, rfl⟩
theorem tz64_zero (w : World) : Calls Tryz.prog 149 #[.int .u64 0] w fun e w' => e = .returned (.int .i64 64) ∧ w' = w := by
  go_enter Tryz.func149, Tryz.ntmps149
  go_wp2
  go_ret
  exact ⟨rfl, rfl⟩
theorem tz64_key (x a : Nat) (hx : x < 18446744073709551616) (hx0 : x ≠ 0) (hlow : x &&& (18446744073709551616 - x) = a) :
    IntKind.u64.wrap (bits BinOp.and IntKind.u64 (x : Int) (IntKind.u64.wrap (-(x : Int))) * 285870213051353865) / 288230376151711744 = ((a * 285870213051353865 % 18446744073709551616 / 288230376151711744 : Nat) : Int) := by
  have e1 : IntKind.u64.wrap (-(x : Int)) = ((18446744073709551616 - x : Nat) : Int) := by rw [IntKind.wrap_u64]; omega
  rw [e1, bits_and_u64_nat x _ hx (by omega), hlow, IntKind.wrap_u64]
  omega
theorem tz64 (x : Nat) (hx : x < 18446744073709551616) (w : World) (hT : ∀ j, j < Lib.deBruijn64tab.length → w.cell? ⟨0, j, none⟩ = some (.int .u8 (Lib.deBruijn64tab.getD j 0))) :
    Calls Tryz.prog 149 #[.int .u64 x] w fun e w' => e = .returned (.int .i64 (Lib.ctz 64 x)) ∧ w' = w := by
  by_cases hx0 : x = 0
  · subst hx0
    exact tz64_zero w
  · obtain ⟨hlow, hk⟩ := Lib.lowest_bit 64 x hx0 hx
    obtain ⟨hi, htab⟩ := Lib.deBruijn64_at _ hk
    have hcell := hT _ hi
    rw [htab] at hcell
    exact tz64_core x _ _ w (by simp; omega) (tz64_key x _ hx hx0 hlow) hi hk hcell
end Go.Proofs.YtejbieopeicgkaaGreatDoor
set_option maxRecDepth 100000
set_option maxHeartbeats 4000000
namespace Go.Proofs.YtejbieopeicgkaaGreatDoor
open Go Go.Dv
open Go.RowKit (Below)

/-! the members of a set -/
def memL (s : Nat) : List Nat := (List.range 64).filter s.testBit
theorem memL_mem {s i : Nat} : i ∈ memL s ↔ i < 64 ∧ s.testBit i = true := by rw [memL, List.mem_filter, List.mem_range]
theorem filter_first {p : Nat → Bool} {k : Nat} (hk : p k = true) (h : ∀ i, i < k → p i = false) : ∀ n, k < n → (List.range n).filter p = k :: (List.range n).filter (fun i => p i && !(i == k))
  | 0, h0 => by omega
  | n + 1, h0 => by
    rw [List.range_succ, List.filter_append, List.filter_append]
    by_cases e : n = k
    · have e1 : (List.range n).filter p = [] := List.filter_eq_nil_iff.2 fun i hi => by rw [h i (by have := List.mem_range.1 hi; omega)]; simp
      have e2 : (List.range n).filter (fun i => p i && !(i == k)) = [] := List.filter_eq_nil_iff.2 fun i hi => by rw [h i (by have := List.mem_range.1 hi; omega)]; simp
      rw [e1, e2, e]
      simp [hk]
    · have e3 : (n == k) = false := by simpa using e
      rw [filter_first hk h n (by omega), List.cons_append]
      congr 2
      simp only [List.filter_cons, List.filter_nil, e3, Bool.not_false, Bool.and_true]
theorem ctz_bits {x : Nat} (h0 : x ≠ 0) (h : x < 2 ^ 64) : Lib.ctz 64 x < 64 ∧ x.testBit (Lib.ctz 64 x) = true ∧ (∀ i, i < Lib.ctz 64 x → x.testBit i = false) ∧ ∀ i, (x &&& (x - 1)).testBit i = (x.testBit i && !(i == Lib.ctz 64 x)) := by
  obtain ⟨q, hq, hk⟩ := Lib.ctzFrom_spec 64 x (by omega) h
  have e : Lib.ctz 64 x = Lib.ctzFrom 64 x := by simp [Lib.ctz, h0]
  rw [e]
  generalize Lib.ctzFrom 64 x = k at hq hk ⊢
  have hb : ∀ i, x.testBit i = (decide (k ≤ i) && (2 * q + 1).testBit (i - k)) := fun i => by
    rw [hq, Nat.testBit_two_pow_mul]
  have hp := Nat.two_pow_pos k
  have hx1 : x - 1 = 2 ^ k * (2 * q) + (2 ^ k - 1) := by rw [hq, Nat.mul_add]; omega
  have hc : ∀ i, (x - 1).testBit i = if i < k then (2 ^ k - 1).testBit i else (2 * q).testBit (i - k) := fun i => by
    rw [hx1, Nat.testBit_two_pow_mul_add _ (by omega)]
  refine ⟨hk, ?_, fun i hi => ?_, fun i => ?_⟩
  · rw [hb, decide_eq_true (Nat.le_refl k), Nat.sub_self]; simp
  · rw [hb, decide_eq_false (by omega)]; rfl
  · rw [Nat.testBit_and, hb, hc]
    by_cases hi : i < k
    · rw [decide_eq_false (by omega)]; rfl
    · rw [if_neg hi, decide_eq_true (by omega), Bool.true_and]
      by_cases e : i = k
      · rw [e, Nat.sub_self]; simp
      · obtain ⟨j, hj⟩ : ∃ j, i - k = j + 1 := ⟨i - k - 1, by omega⟩
        have e3 : (i == k) = false := by simpa using e
        rw [hj, e3, Nat.testBit_succ, Nat.testBit_succ, show (2 * q + 1) / 2 = q by omega, show 2 * q / 2 = q by omega]
        cases q.testBit j <;> rfl
theorem memL_step {x : Nat} (h0 : x ≠ 0) (h : x < 2 ^ 64) : memL x = Lib.ctz 64 x :: memL (x &&& (x - 1)) := by
  obtain ⟨h1, h2, h3, h4⟩ := ctz_bits h0 h
  rw [memL, filter_first h2 h3 64 h1, memL]
  congr 2
  funext i
  rw [h4 i]
theorem memL_zero : memL 0 = [] := by rw [memL]; exact List.filter_eq_nil_iff.2 fun i _ => by rw [Nat.zero_testBit]; simp
theorem memL_len (s : Nat) : (memL s).length ≤ 64 := Nat.le_trans (List.length_filter_le _ _) (by simp)
theorem memL_pos {s : Nat} (h0 : s ≠ 0) (h : s < 2 ^ 64) : 1 ≤ (memL s).length := by rw [memL_step h0 h]; simp
theorem fn_tz (x : Nat) (hx : x < 2 ^ 64) : PureFn Tryz.prog 149 [u64 x] (.int .i64 (Lib.ctz 64 x : Nat)) := by
  refine PureFn.mk ⟨by kernel_rfl, fun M w vs hG hM hrel => ?_⟩
  obtain ⟨hl, hr⟩ := hrel
  match vs, hl with
  | [v], _ =>
    have h1 := hr 0 _ v rfl rfl
    cases h1
    refine (tz64 x hx w hG.2).mono ?_
    rintro e w' ⟨rfl, rfl⟩
    exact ⟨_, rfl, .int _ _, Below.refl _ _⟩
def intsPV (l : List Nat) : PV := .sl (l.map i64)
theorem md_members (s : Nat) (hs : s < 2 ^ 64) : PureFn Tryz.prog 115 [u64 s] (intsPV (memL s)) := by
  refine PureFn.intro mixed (fn := Tryz.f115) rfl rfl rfl fun M w0 => ?_
  try conv=>whnf
  refine ⟨{ q : Nat × List Nat // q.1 < 2 ^ 64 ∧ q.2 ++ memL q.1 = memL s }, fun q => [(0, .pv (u64 q.1.1)), (3, .buf 0 (q.1.2.map i64).length)], fun _ => 1, fun q => [(0, .arr 1 (q.1.2.map i64))], fun q => (memL q.1.1).length, ⟨⟨(s, []), hs, rfl⟩, (by refine Wk.of ?_ ?_ rfl rfl rfl<;>repeat' (first|exact trivial|exact WkD.same _|exact WkD.new' rfl rfl rfl|exact WkO.new _ _ rfl|exact rfl|refine ⟨?_, ?_⟩|fail))⟩, ?_⟩
  rintro ⟨⟨x, l⟩, hx, hl⟩
  have hx : x < 2 ^ 64 := hx
  have hl : l ++ memL x = memL s := hl
  have hT := fn_tz x hx
  have hlen : (l.map i64).length ≤ 1000 := by
    have h1 := memL_len s
    rw [← hl, List.length_append] at h1
    rw [List.length_map]; omega
  (try conv=>whnf);repeat' (first|(apply And.intro<;>try conv=>whnf)|(intro h;try conv=>whnf)|(apply bleI;rfl)|(apply cellsI;rfl)|(apply szI;rfl)|(refine PureFn.dcq (f := 149) rfl ?_;try conv=>whnf)|(refine ⟨_, _, hT, ?_, ?_⟩;(focus first|(refine ⟨?_, trivial⟩<;>first|exact PLe.refl _|exact PLe.nil)|exact trivial);try conv=>whnf)|fail)
  · exact app_big (n := 1000) hlen (by decide)
  · have hx0 : x ≠ 0 := by
      have h0 : ((x : Int) != 0) = true := h
      intro e; rw [e] at h0; exact absurd h0 (by decide)
    have hst := memL_step hx0 hx
    refine ⟨⟨(x &&& (x - 1), l ++ [Lib.ctz 64 x]), Nat.and_lt_two_pow _ (by omega), ?_⟩, ?_, ?_⟩
    · show l ++ [Lib.ctz 64 x] ++ memL (x &&& (x - 1)) = memL s
      rw [← hl, hst, List.append_assoc]; rfl
    · show (memL (x &&& (x - 1))).length < (memL x).length
      rw [hst, List.length_cons]; omega
    have e1 : andU (x : Nat) (IntKind.wrap .u64 ((x : Int) - 1)) = ((x &&& (x - 1) : Nat) : Int) := by
      rw [wrapU (by omega) (by omega), show ((x : Int) - 1) = ((x - 1 : Nat) : Int) by omega, andU_nat hx (by omega)]
    have e2 : (l.map i64) ++ [PV.int .i64 (Lib.ctz 64 x : Nat)] = (l ++ [Lib.ctz 64 x]).map i64 := by rw [List.map_append]; rfl
    (refine Wk.of ?_ ?_ rfl rfl rfl<;>repeat' (first|exact trivial|exact WkD.eq (congrArg (fun z : List PV => DV.buf _ z.length) e2)|exact WkO.same _ _ (congrArg (fun z => some (DObj.arr _ z)) e2)|refine WkD.int ?_|refine ⟨?_, ?_⟩|fail))
    all_goals exact e1
  · have hx0 : x = 0 := by
      have h0 : ((x : Int) != 0) = false := h
      have : (x : Int) = 0 := by simpa using h0
      omega
    rw [hx0, memL_zero, List.append_nil] at hl
    have e9 : intsPV (memL s) = .sl (l.map i64) := by rw [intsPV, ← hl]
    exact e9.symm ▸ .refl (.sl (l.map i64))

/-! the worlds of a list, taken for a model -/
def pullN (s : Nat) (ws : List Nat) : Nat := maskOf (fun i => s.testBit (ws.getD i 0)) ws.length
theorem pull_step {q : Nat → Bool} {s w i : Nat} (hs : s < 2 ^ 64) (hw : w < 64) (hi : i < 64) (hq : q i = s.testBit w) : orU (maskOf q i : Nat) (shlU (andU (shrU (s : Nat) (w : Nat)) 1) (i : Nat)) = ((maskOf q (i + 1) : Nat) : Int) := by
  rw [bit_and s w hs hw]
  cases h : s.testBit w with
  | true => rw [if_pos rfl]; exact or_shl hi (by rw [hq, h])
  | false =>
    rw [if_neg (by decide), ← mask_no (q := q) (w := i) (by rw [hq, h]), show shlU 0 (i : Nat) = ((0 : Nat) : Int) by show IntKind.wrap .u64 (0 * _) = 0; rw [Int.zero_mul]; rfl, orU_nat (mask_lt64 q (by omega)) (by decide), Nat.or_zero]
theorem md_pull (s : Nat) (ws : List Nat) (hs : s < 2 ^ 64) (hw : ∀ w, w ∈ ws → w < 64) (hl : ws.length ≤ 64) : PureFn Tryz.prog 150 [u64 s, intsPV ws] (u64 (pullN s ws)) := by
  refine PureFn.intro mixed (fn := Tryz.f150) rfl rfl rfl fun M w0 => ?_
  try conv=>whnf
  refine ⟨{ i : Nat // i ≤ ws.length }, fun i => [(0, .pv (u64 s)), (5, .pv (u64 (maskOf (fun i => s.testBit (ws.getD i 0)) i.1))), (8, .pv (intsPV ws)), (9, .pv (i64 (ws.map i64).length)), (10, .pv (i64 i.1))], fun _ => 0, fun _ => [], fun i => ws.length - i.1, ⟨⟨0, Nat.zero_le _⟩, (by refine Wk.of ?_ ?_ rfl rfl rfl<;>repeat' (first|exact trivial|exact WkD.same _|refine ⟨?_, ?_⟩|fail))⟩, ?_⟩
  intro i
  have hi := i.2
  (try conv=>whnf);repeat' (first|(apply And.intro<;>try conv=>whnf)|(intro h;try conv=>whnf)|(apply infoT;rfl)|fail)
  · have hi' : i.1 < ws.length := by simpa using lt_dec h
    obtain ⟨w, hx, hxw⟩ : ∃ y, ws[i.1]? = some y ∧ ws.getD i.1 0 = y := ⟨_, getD_mem hi', rfl⟩
    have hw64 := hw w (List.mem_iff_getElem?.2 ⟨_, hx⟩)
    have hst := pull_step (q := fun i => s.testBit (ws.getD i 0)) hs hw64 (show i.1 < 64 by omega) (by show s.testBit (ws.getD i.1 0) = _; rw [hxw])
    refine ⟨_, _, rfl, idx_map hx, rfl, ?_⟩
    (try conv=>whnf);repeat' (first|(apply And.intro<;>try conv=>whnf)|fail)
    · exact Int.natCast_nonneg _
    · exact Int.natCast_nonneg _
    · refine ⟨⟨i.1 + 1, hi'⟩, by show ws.length - (i.1 + 1) < ws.length - i.1; omega, ?_⟩
      (refine Wk.of ?_ ?_ rfl rfl rfl<;>repeat' (first|exact trivial|exact WkD.same _|refine WkD.int ?_|refine ⟨?_, ?_⟩|(refine wrapA ?_ ?_ ?_;(focus simp;done);(focus (try dsimp only);omega);(focus (try dsimp only);omega))|fail))
      exact hst
  · have hi' : i.1 = ws.length := by have := ge_dec (m := (ws.map i64).length) h (by simpa using hi); simpa using this
    exact le_int (congrArg (fun k => ((maskOf (fun i => s.testBit (ws.getD i 0)) k : Nat) : Int)) hi')
def arrI (m : Mo) (ws : List Nat) : Mo := ⟨(ws.length : Int), m.val.map fun s => pullN s ws, m.rel.map fun r => ws.map fun w => pullN (r.getD w 0) ws⟩
theorem md_arrange (m : Mo) (ws : List Nat) (n : Nat) (hM : OkM m n) (hw : ∀ w, w ∈ ws → w < n) (hl : ws.length ≤ 64) : PureFn Tryz.prog 116 [m.pv, intsPV ws] (arrI m ws).pv := by
  refine PureFn.introC [7, 16, 18] mixed (fn := Tryz.f116) rfl rfl rfl fun M w0 => ?_
  have hf := hM.fit
  have hn64 := hM.n64
  have hag := hM.ag
  have hfa := hM.fa
  have hw64 : ∀ w, w ∈ ws → w < 64 := fun w hh => by have := hw w hh; omega
  obtain ⟨ro, qro⟩ : ∃ ro : List Nat → List Nat, ro = fun r => ws.map fun w => pullN (r.getD w 0) ws := ⟨_, rfl⟩
  have har : (arrI m ws).pv = .agg [i64 (ws.map i64).length, rowPV ((m.val.take m.val.length).map fun s => pullN s ws), .sl (((m.rel.take m.rel.length).map ro).map rowPV)] := by rw [qro, List.length_map, List.take_length, List.take_length]; rfl
  rw [har]
  try conv=>whnf
  refine ⟨Unit, fun _ => [(1, .pv (intsPV ws)), (2, .ref 0 0), (4, .ref 1 0), (5, .ref 2 0)], fun _ => 3, fun _ => [(0, .var (cellsM m)), (1, .var cells0), (2, .var [.pv (i64 (ws.map i64).length), .pv (rowPV ((m.val.take m.val.length).map fun s => pullN s ws)), .pv .nil])], ?_, ?_⟩
  · try conv=>whnf
    refine ⟨{ i : Nat // i ≤ m.val.length }, fun i => [(1, .pv (intsPV ws)), (2, .ref 0 0), (4, .ref 1 0), (5, .ref 2 0), (17, .pv (.sl (m.val.map u64))), (18, .pv (i64 (m.val.map u64).length)), (19, .pv (i64 i.1))], fun _ => 4, fun i => [(0, .var (cellsM m)), (1, .var cells0), (2, .var [.pv (i64 (ws.map i64).length), .buf 3 (((m.val.take i.1).map fun s => pullN s ws).map u64).length, .pv .nil]), (3, .arr 1 (((m.val.take i.1).map fun s => pullN s ws).map u64))], fun i => m.val.length - i.1, ⟨⟨0, Nat.zero_le _⟩, (by refine Wk.of ?_ ?_ rfl rfl rfl<;>repeat' (first|exact trivial|exact WkD.same _|exact WkO.same _ _ rfl|exact WkD.new' rfl rfl rfl|exact WkO.new _ _ rfl|refine WkO.vars rfl ?_|exact rfl|refine ⟨?_, ?_⟩|fail))⟩, ?_⟩
    rintro ⟨i, hi⟩
    (try conv=>whnf);repeat' (first|(apply And.intro<;>try conv=>whnf)|(intro h;try conv=>whnf)|(apply infoT;rfl)|fail)
    · have hi' : i < m.val.length := by simpa using lt_dec h
      obtain ⟨s, hx⟩ : ∃ y, m.val[i]? = some y := ⟨_, List.getElem?_eq_getElem hi'⟩
      have hs64 := hf.1 s (List.mem_iff_getElem?.2 ⟨_, hx⟩)
      have hP := md_pull s ws hs64 hw64 hl
      have ht := take_map (f := fun s => pullN s ws) hx
      have hvsl : (((m.val.take i).map fun s => pullN s ws).map u64).length ≤ 1000 := by simp; omega
      have er : ((m.val.take i).map fun s => pullN s ws).map u64 ++ [PV.int .u64 ((pullN s ws : Nat) : Int)] = ((m.val.take (i + 1)).map fun s => pullN s ws).map u64 := by rw [ht, List.map_append]; rfl
      refine ⟨_, _, rfl, idx_map hx, rfl, ?_⟩
      (try conv=>whnf);repeat' (first|(apply And.intro<;>try conv=>whnf)|(apply cellsI;rfl)|(apply szI;rfl)|(refine lin_plan (by kernel_rfl) ?_;try conv=>whnf)|(refine ⟨_, (by (conv=>whnf);exact hP), rfl, ?_⟩;try conv=>whnf)|fail)
      · exact app_big (n := 1000) hvsl (by decide)
      · refine ⟨⟨i + 1, hi'⟩, by show m.val.length - (i + 1) < m.val.length - i; omega, ?_⟩
        (refine Wk.of ?_ ?_ rfl rfl rfl<;>repeat' (first|exact trivial|exact WkD.same _|exact WkO.same _ _ rfl|exact WkD.eq (congrArg (fun z : List PV => DV.buf _ z.length) er)|exact WkO.same _ _ (congrArg (fun z => some (DObj.arr _ z)) er)|refine WkD.int ?_|refine WkO.vars rfl ?_|refine ⟨?_, ?_⟩|(refine wrapA ?_ ?_ ?_;(focus simp;done);(focus (try dsimp only);omega);(focus (try dsimp only);omega))|fail))
    · have hi' : i = m.val.length := by have := ge_dec (m := (m.val.map u64).length) h (by simpa using hi); simpa using this
      subst hi'
      exact ⟨(), (by refine Wk.of ?_ ?_ rfl rfl rfl<;>repeat' (first|exact trivial|exact WkD.same _|exact WkO.same _ _ rfl|exact WkD.fz _ _ _ rfl (Or.inl ⟨_, rfl⟩) rfl|refine WkO.vars rfl ?_|refine ⟨?_, ?_⟩|fail))⟩
  rintro ⟨⟩
  generalize ((m.val.take m.val.length).map fun s => pullN s ws) = V
  refine ⟨Unit, fun _ => [(4, .ref 1 0), (5, .ref 2 0)], fun _ => 3, fun _ => [(1, .var cells0), (2, .var [.pv (i64 (ws.map i64).length), .pv (rowPV V), .pv (.sl (((m.rel.take m.rel.length).map ro).map rowPV))])], ?_, ?_⟩
  · try conv=>whnf
    refine ⟨{ i : Nat // i ≤ m.rel.length }, fun i => [(1, .pv (intsPV ws)), (2, .ref 0 0), (4, .ref 1 0), (5, .ref 2 0), (33, .pv (.sl (m.rel.map rowPV))), (34, .pv (i64 (m.rel.map rowPV).length)), (35, .pv (i64 i.1))], fun _ => 4, fun i => [(0, .var (cellsM m)), (1, .var cells0), (2, .var [.pv (i64 (ws.map i64).length), .pv (rowPV V), .buf 3 (((m.rel.take i.1).map ro).map rowPV).length]), (3, .arr 1 (((m.rel.take i.1).map ro).map rowPV))], fun i => m.rel.length - i.1, ⟨⟨0, Nat.zero_le _⟩, (by refine Wk.of ?_ ?_ rfl rfl rfl<;>repeat' (first|exact trivial|exact WkD.same _|exact WkO.same _ _ rfl|exact WkD.new' rfl rfl rfl|exact WkO.new _ _ rfl|refine WkO.vars rfl ?_|exact rfl|refine ⟨?_, ?_⟩|fail))⟩, ?_⟩
    rintro ⟨i, hi⟩
    (try conv=>whnf);repeat' (first|(apply And.intro<;>try conv=>whnf)|(intro h;try conv=>whnf)|(apply infoT;rfl)|fail)
    · have hi' : i < m.rel.length := by simpa using lt_dec h
      obtain ⟨r, hx⟩ : ∃ y, m.rel[i]? = some y := ⟨_, List.getElem?_eq_getElem hi'⟩
      have hrm : r ∈ m.rel := List.mem_iff_getElem?.2 ⟨_, hx⟩
      have hrl := hM.rows r hrm
      have hr64 := hf.2 r hrm
      have ht := take_map (f := ro) hx
      have hvsl : (((m.rel.take i).map ro).map rowPV).length ≤ 1000 := by simp; omega
      have er : ((m.rel.take i).map ro).map rowPV ++ [rowPV (ro r)] = ((m.rel.take (i + 1)).map ro).map rowPV := by rw [ht, List.map_append]; rfl
      refine ⟨_, _, rfl, idx_map hx, rfl, ?_⟩
      try conv=>whnf
      refine ⟨Unit, fun _ => [(1, .pv (intsPV ws)), (2, .ref 0 0), (4, .ref 1 0), (5, .ref 2 0), (10, .pv (rowPV ((ws.take ws.length).map fun w => pullN (r.getD w 0) ws))), (33, .pv (.sl (m.rel.map rowPV))), (34, .pv (i64 (m.rel.map rowPV).length)), (35, .pv (i64 i))], fun _ => 4, fun _ => [(0, .var (cellsM m)), (1, .var cells0), (2, .var [.pv (i64 (ws.map i64).length), .pv (rowPV V), .buf 3 (((m.rel.take i).map ro).map rowPV).length]), (3, .arr 1 (((m.rel.take i).map ro).map rowPV))], ?_, ?_⟩
      · try conv=>whnf
        refine ⟨{ j : Nat // j ≤ ws.length }, fun j => [(1, .pv (intsPV ws)), (2, .ref 0 0), (4, .ref 1 0), (5, .ref 2 0), (9, .pv (rowPV r)), (10, .buf 4 (((ws.take j.1).map fun w => pullN (r.getD w 0) ws).map u64).length), (33, .pv (.sl (m.rel.map rowPV))), (34, .pv (i64 (m.rel.map rowPV).length)), (35, .pv (i64 i)), (39, .pv (intsPV ws)), (40, .pv (i64 (ws.map i64).length)), (41, .pv (i64 j.1))], fun _ => 5, fun j => [(0, .var (cellsM m)), (1, .var cells0), (2, .var [.pv (i64 (ws.map i64).length), .pv (rowPV V), .buf 3 (((m.rel.take i).map ro).map rowPV).length]), (3, .arr 1 (((m.rel.take i).map ro).map rowPV)), (4, .arr 1 (((ws.take j.1).map fun w => pullN (r.getD w 0) ws).map u64))], fun j => ws.length - j.1, ⟨⟨0, Nat.zero_le _⟩, (by refine Wk.of ?_ ?_ rfl rfl rfl<;>repeat' (first|exact trivial|exact WkD.same _|exact WkO.same _ _ rfl|exact WkD.new' rfl rfl rfl|exact WkO.new _ _ rfl|exact rfl|refine ⟨?_, ?_⟩|fail))⟩, ?_⟩
        rintro ⟨j, hj⟩
        (try conv=>whnf);repeat' (first|(apply And.intro<;>try conv=>whnf)|(intro h;try conv=>whnf)|(apply infoT;rfl)|fail)
        · have hj' : j < ws.length := by simpa using lt_dec h
          obtain ⟨w, hx2⟩ : ∃ y, ws[j]? = some y := ⟨_, List.getElem?_eq_getElem hj'⟩
          have hwn := hw w (List.mem_iff_getElem?.2 ⟨_, hx2⟩)
          have hx3 : r[w]? = some (r.getD w 0) := getD_mem (by omega)
          have hs64 := hr64 _ (List.mem_iff_getElem?.2 ⟨_, hx3⟩)
          have hP := md_pull (r.getD w 0) ws hs64 hw64 hl
          have ht2 := take_map (f := fun w => pullN (r.getD w 0) ws) hx2
          have hvsl2 : (((ws.take j).map fun w => pullN (r.getD w 0) ws).map u64).length ≤ 1000 := by simp; omega
          have er2 : ((ws.take j).map fun w => pullN (r.getD w 0) ws).map u64 ++ [PV.int .u64 ((pullN (r.getD w 0) ws : Nat) : Int)] = ((ws.take (j + 1)).map fun w => pullN (r.getD w 0) ws).map u64 := by rw [ht2, List.map_append]; rfl
          generalize hgz : r.getD w 0 = z at hx3 hP er2
          refine ⟨_, _, rfl, idx_map hx2, rfl, ?_⟩
          (try conv=>whnf);repeat' (first|(apply And.intro<;>try conv=>whnf)|(apply infoT;rfl)|(apply cellsI;rfl)|(apply szI;rfl)|(refine ⟨_, _, rfl, idx_map (by with_reducible assumption), rfl, ?_⟩;try conv=>whnf)|(refine PureFn.dcq (f := 150) rfl ?_;try conv=>whnf)|(refine ⟨_, _, hP, ?_, ?_⟩;(focus first|(refine ⟨?_, ?_, trivial⟩<;>first|exact PLe.refl _|exact PLe.nil)|exact trivial);try conv=>whnf)|fail)
          · exact app_big (n := 1000) hvsl2 (by decide)
          · refine ⟨⟨j + 1, hj'⟩, by show ws.length - (j + 1) < ws.length - j; omega, ?_⟩
            (refine Wk.of ?_ ?_ rfl rfl rfl<;>repeat' (first|exact trivial|exact WkD.same _|exact WkO.same _ _ rfl|exact WkD.eq (congrArg (fun z : List PV => DV.buf _ z.length) er2)|exact WkO.same _ _ (congrArg (fun z => some (DObj.arr _ z)) er2)|refine WkD.int ?_|refine ⟨?_, ?_⟩|(refine wrapA ?_ ?_ ?_;(focus simp;done);(focus (try dsimp only);omega);(focus (try dsimp only);omega))|fail))
        · have hj' : j = ws.length := by have := ge_dec (m := (ws.map i64).length) h (by simpa using hj); simpa using this
          subst hj'
          exact ⟨(), (by refine Wk.of ?_ ?_ rfl rfl rfl<;>repeat' (first|exact trivial|exact WkD.same _|exact WkO.same _ _ rfl|exact WkD.fz _ _ _ rfl (Or.inl ⟨_, rfl⟩) rfl|refine ⟨?_, ?_⟩|fail))⟩
      rintro ⟨⟩
      have hR : (ws.take ws.length).map (fun w => pullN (r.getD w 0) ws) = ro r := by rw [List.take_length, qro]
      generalize (ws.take ws.length).map (fun w => pullN (r.getD w 0) ws) = R at hR
      rw [← hR] at er
      (try conv=>whnf);repeat' (first|(apply And.intro<;>try conv=>whnf)|(apply cellsI;rfl)|(apply szI;rfl)|fail)
      · exact app_big (n := 1000) hvsl (by decide)
      · refine ⟨⟨i + 1, hi'⟩, by show m.rel.length - (i + 1) < m.rel.length - i; omega, ?_⟩
        (refine Wk.of ?_ ?_ rfl rfl rfl<;>repeat' (first|exact trivial|exact WkD.same _|exact WkO.same _ _ rfl|exact WkD.eq (congrArg (fun z : List PV => DV.buf _ z.length) er)|exact WkO.same _ _ (congrArg (fun z => some (DObj.arr _ z)) er)|refine WkD.int ?_|refine WkO.vars rfl ?_|refine ⟨?_, ?_⟩|(refine wrapA ?_ ?_ ?_;(focus simp;done);(focus (try dsimp only);omega);(focus (try dsimp only);omega))|fail))
    · have hi' : i = m.rel.length := by have := ge_dec (m := (m.rel.map rowPV).length) h (by simpa using hi); simpa using this
      subst hi'
      exact ⟨(), (by refine Wk.of ?_ ?_ rfl rfl rfl<;>repeat' (first|exact trivial|exact WkD.same _|exact WkO.same _ _ rfl|exact WkD.fz _ _ _ rfl (Or.inl ⟨_, rfl⟩) rfl|refine WkO.vars rfl ?_|refine ⟨?_, ?_⟩|fail))⟩
  rintro ⟨⟩
  try conv=>whnf
  exact .refl _
end Go.Proofs.YtejbieopeicgkaaGreatDoor
set_option maxRecDepth 100000
set_option maxHeartbeats 4000000
namespace Go.Proofs.YtejbieopeicgkaaGreatDoor
open Go Go.Dv

theorem u_mod : ∃ fs : Array Field, Tryz.prog.underlying 25 = some (.struct fs) ∧ fs.toList.map (·.type) = [3, 22, 23] := ⟨_, rfl, by kernel_rfl⟩
theorem arg_mod {n : Nat} {p : PV} (h : TyA Tryz.prog (n + 4) 25 p) : ∃ m : Mo, PLe p m.pv ∧ FitM m := by
  obtain ⟨cs, h, rfl⟩ := h
  obtain ⟨fs, hu, hf⟩ := u_mod
  have hm : mkE Tryz.prog 25 cs = .agg cs := by simp only [mkE, kindT, hu]
  obtain ⟨a, b, r1, rfl, h1, hb, m1⟩ := fs_cons hf (tyS (n := n + 3) hu h)
  obtain ⟨c, d, r2, rfl, h2, hd, m2⟩ := fs_cons m1 hb
  obtain ⟨e, g, r3, rfl, h3, hg, m3⟩ := fs_cons m2 hd
  have := fs_nil m3 hg
  subst this
  obtain ⟨w, rfl, _⟩ := int_of (n := n + 2) h1
  obtain ⟨val, q2, rfl, l2, hv⟩ := slice_of (n := n + 2) (g := u64) (Q := fun s => s < 2 ^ 64) u_rowT (u64_el (n := n + 1)) h2
  obtain ⟨rel, q3, rfl, l3, hr⟩ := slice_of (n := n + 2) (g := rowPV) (Q := fun r => ∀ s, s ∈ r → s < 2 ^ 64) u_relT (fun p hp => el_of (n := n + 1) u_rowT (u64_el (n := n)) p hp) h3
  refine ⟨⟨w, val, rel⟩, ?_, hv, hr⟩
  rw [hm]
  exact PLe.aggs ⟨.refl _, l2, l3, trivial⟩
end Go.Proofs.YtejbieopeicgkaaGreatDoor
set_option maxRecDepth 100000
set_option maxHeartbeats 4000000
namespace Go.Proofs.YtejbieopeicgkaaGreatDoor
open Go Go.Dv

theorem getD_map_range {β : Type} {f : Nat → β} {n i : Nat} {d : β} (h : i < n) : ((List.range n).map f).getD i d = f i := by
  rw [List.getD_eq_getElem?_getD, List.getElem?_map, List.getElem?_range h]; rfl
end Go.Proofs.YtejbieopeicgkaaGreatDoor
set_option maxRecDepth 100000
set_option maxHeartbeats 4000000
namespace Go.Proofs.YtejbieopeicgkaaGreatDoor
open Go Go.Dv

def restPV (x : Mo × List Nat × Int) : PV := .tup [x.1.pv, intsPV x.2.1, .int .i64 x.2.2]
theorem le_rest (e : Int) : PLe (.tup [.agg [.int .i64 0, .nil, .nil], .nil, .int .i64 e]) (restPV (noMo, [], e)) := PLe.tups ⟨le_noMo, .nil, .refl _, trivial⟩
theorem nand_all {s n : Nat} (hs : s < 2 ^ n) (hn : n ≤ 64) : andNotU (s : Nat) ((2 ^ n - 1 : Nat) : Int) = 0 := by
  have h64 : s < 2 ^ 64 := Nat.lt_of_lt_of_le hs (pow64_le hn)
  rw [andNotU_eq h64, Nat.and_two_pow_sub_one_eq_mod, Nat.mod_eq_of_lt hs, Nat.xor_self]; rfl
theorem md_Restrict (m : Mo) (n s : Nat) (hM : OkM m n) (hs : s < 2 ^ n) (h0 : s ≠ 0) : PureFn Tryz.prog 84 [m.pv, u64 s] (restPV (arrI m (memL s), memL s, 0)) := by
  refine PureFn.intro mixed (fn := Tryz.f84) rfl rfl rfl fun M w0 => ?_
  have hn64 := hM.n64
  have hs64 : s < 2 ^ 64 := Nat.lt_of_lt_of_le hs (pow64_le hn64)
  have hC := md_Check m hM.fit
  rw [ok_moI hM] at hC
  have hA := md_all n (by omega)
  rw [show i64 n = .int .i64 m.n by rw [hM.nn]; rfl] at hA
  have hB := md_members s hs64
  have hR := md_arrange m (memL s) n hM (fun w hw => bit_lt hs (memL_mem.1 hw).2) (memL_len s)
  have hz := nand_all hs hn64
  have h0' : ¬ (s : Int) = 0 := by omega
  generalize memL s = ws at hB hR
  (try conv=>whnf);repeat' (first|(apply And.intro<;>try conv=>whnf)|(intro h;try conv=>whnf)|(refine PureFn.dcq (f := 40) rfl ?_;try conv=>whnf)|(refine PureFn.dcq (f := 114) rfl ?_;try conv=>whnf)|(refine PureFn.dcq (f := 115) rfl ?_;try conv=>whnf)|(refine PureFn.dcq (f := 116) rfl ?_;try conv=>whnf)|(refine ⟨_, _, hC, ?_, ?_⟩;(focus first|(refine ⟨?_, trivial⟩<;>first|exact PLe.refl _|exact PLe.nil)|exact trivial);try conv=>whnf)|(refine ⟨_, _, hA, ?_, ?_⟩;(focus first|(refine ⟨?_, trivial⟩<;>first|exact PLe.refl _|exact PLe.nil)|exact trivial);try conv=>whnf)|(refine ⟨_, _, hB, ?_, ?_⟩;(focus first|(refine ⟨?_, trivial⟩<;>first|exact PLe.refl _|exact PLe.nil)|exact trivial);try conv=>whnf)|(refine ⟨_, _, hR, ?_, ?_⟩;(focus first|(refine ⟨?_, ?_, trivial⟩<;>first|exact PLe.refl _|exact PLe.nil)|exact trivial);try conv=>whnf)|fail)
  · exact absurd (show ((0 : Int) != 0) = true from h) (by decide)
  · have h1 : (andNotU (s : Nat) ((2 ^ n - 1 : Nat) : Int) != 0) = true := h
    rw [hz] at h1; exact absurd h1 (by decide)
  · have h1 : ((s : Int) == 0) = true := h
    exact absurd (by simpa using h1) h0'
  · exact .refl _
theorem holds_split' {m : Mo} {f : List Nd} (h : (holdsI m f).2 = 0) : reqI m f = 0 := by
  by_cases q : reqI m f = 0
  · exact q
  · rw [holdsI, show (reqI m f != 0) = true by simpa using q] at h
    exact absurd h q
/-- An announcement. -/
def annI (m : Mo) (f : List Nd) : Mo × List Nat × Int := bif (holdsI m f).2 != 0 then (noMo, [], (holdsI m f).2) else bif (holdsI m f).1 == 0 then (noMo, [], 11) else (arrI m (memL (holdsI m f).1), memL (holdsI m f).1, 0)
theorem an_Update (m : Mo) (f : List Nd) (hf : FitM m) : PureFn Tryz.prog 28 [m.pv, fpv f] (restPV (annI m f)) := by
  have hH := ck_Holds m f hf
  by_cases h0 : (holdsI m f).2 = 0
  · obtain ⟨n, hM⟩ := (reqI_ok (holds_split' h0)).1
    have hlt := holds_lt (f := f) n hM
    have hR := fun hs => md_Restrict m n (holdsI m f).1 hM hlt hs
    have hX : annI m f = bif (holdsI m f).1 == 0 then (noMo, [], 11) else (arrI m (memL (holdsI m f).1), memL (holdsI m f).1, 0) := by rw [annI, h0]; rfl
    rw [hX]
    rw [show holdsI m f = ((holdsI m f).1, 0) from Prod.ext rfl h0] at hH
    generalize (holdsI m f).1 = s at hH hR
    by_cases hs : s = 0
    · subst hs
      refine PureFn.intro mixed (fn := Tryz.f28) rfl rfl rfl fun M w0 => ?_
      (try conv=>whnf);repeat' (first|(apply And.intro<;>try conv=>whnf)|(intro h;try conv=>whnf)|(refine PureFn.dcq (f := 41) rfl ?_;try conv=>whnf)|(refine ⟨_, _, hH, ?_, ?_⟩;(focus first|(refine ⟨?_, ?_, trivial⟩<;>first|exact PLe.refl _|exact PLe.nil)|exact trivial);try conv=>whnf)|fail)
      all_goals first
        | exact absurd (show ((0 : Int) != 0) = true from h) (by decide)
        | exact absurd (show ((0 : Int) == 0) = false from h) (by decide)
        | exact le_rest _
    · have hR := hR hs
      have hb : (s == 0) = false := by simpa using hs
      rw [hb]
      refine PureFn.intro mixed (fn := Tryz.f28) rfl rfl rfl fun M w0 => ?_
      (try conv=>whnf);repeat' (first|(apply And.intro<;>try conv=>whnf)|(intro h;try conv=>whnf)|(refine PureFn.dcq (f := 41) rfl ?_;try conv=>whnf)|(refine PureFn.dcq (f := 84) rfl ?_;try conv=>whnf)|(refine ⟨_, _, hH, ?_, ?_⟩;(focus first|(refine ⟨?_, ?_, trivial⟩<;>first|exact PLe.refl _|exact PLe.nil)|exact trivial);try conv=>whnf)|(refine ⟨_, _, hR, ?_, ?_⟩;(focus first|(refine ⟨?_, ?_, trivial⟩<;>first|exact PLe.refl _|exact PLe.nil)|exact trivial);try conv=>whnf)|fail)
      · exact absurd (show ((0 : Int) != 0) = true from h) (by decide)
      · have h1 : ((s : Int) == 0) = true := h
        have : (s : Int) = 0 := by simpa using h1
        omega
      · exact .refl _
  · have hb : ((holdsI m f).2 != 0) = true := by simpa using h0
    rw [annI, hb]
    generalize holdsI m f = X at hH hb
    obtain ⟨s, e⟩ := X
    refine PureFn.introC [4] mixed (fn := Tryz.f28) rfl rfl rfl fun M w0 => ?_
    (try conv=>whnf);repeat' (first|(refine PureFn.dcq (f := 41) rfl ?_;try conv=>whnf)|(refine ⟨_, _, hH, ?_, ?_⟩;(focus first|(refine ⟨?_, ?_, trivial⟩<;>first|exact PLe.refl _|exact PLe.nil)|exact trivial);try conv=>whnf)|fail)
    refine ⟨{ _x : Unit // False }, fun _ => [], fun _ => 0, fun _ => [], ?_, fun ⟨_, h⟩ => h.elim⟩
    (try conv=>whnf);repeat' (first|(apply And.intro<;>try conv=>whnf)|(intro h;first|with_reducible exact tf (by assumption) h|try conv=>whnf)|fail)
    · exact le_rest _

/-! the product with a public announcement -/
theorem map_getD' {α β : Type} {l : List α} {g : α → β} {d : α} : (List.range l.length).map (fun i => g (l.getD i d)) = l.map g := by
  apply List.ext_getElem (by simp)
  intro i h1 h2
  have h3 : i < l.length := by simpa using h2
  rw [List.getElem_map, List.getElem_map, List.getElem_range, List.getD_eq_getElem?_getD, List.getElem?_eq_getElem h3]; rfl
theorem pairs_one {p : Nat → Nat} : ∀ n, pairsW p 1 n = ((List.range n).filter (p 0).testBit).map fun w => (w, 0)
  | 0 => rfl
  | n + 1 => by
    rw [pairsW, pairs_one n, List.range_succ, List.filter_append, List.map_append]
    congr 1
    rw [pairsE, pairsE, List.filter_cons, List.filter_nil]
    cases (p 0).testBit n <;> rfl
theorem filter_more {s n : Nat} (hs : s < 2 ^ n) : ∀ d, (List.range (n + d)).filter s.testBit = (List.range n).filter s.testBit
  | 0 => rfl
  | d + 1 => by
    rw [show n + (d + 1) = n + d + 1 by omega, List.range_succ, List.filter_append, filter_more hs d, List.filter_cons, List.filter_nil, Nat.testBit_lt_two_pow (Nat.lt_of_lt_of_le hs (Nat.pow_le_pow_right (by decide) (by omega)))]
    simp
theorem memL_range {s n : Nat} (hs : s < 2 ^ n) (hn : n ≤ 64) : memL s = (List.range n).filter s.testBit := by
  have := filter_more hs (64 - n)
  rw [show n + (64 - n) = 64 by omega] at this
  exact this
def pubA (A : Nat) (f : List Nd) : Act := ⟨[comp f], [[]], onesL A⟩
theorem pubA_act {A F : Nat} {f : List Nd} (hA : A ≤ 4) (hF : F ≤ 8) (hs : statI A F f = 0) : actI (pubA A f) A F = 0 := by
  have hrl : (onesL A).length = A := by simp [onesL]
  have hrb : rowsBad (onesL A) 1 = false := by
    rw [rowsBad, List.any_eq_false]
    intro r hr
    rw [List.eq_of_mem_replicate hr]; simp
  have hbb : bitsBad (onesL A) 1 = false := by
    rw [bitsBad, List.any_eq_false]
    intro r hr
    rw [List.eq_of_mem_replicate hr]; decide
  have hsh : shapeI (pubA A f) A = 0 := by
    unfold shapeI pubA
    simp only [List.length_singleton, hrl, hrb, hbb]
    simp
  have hc : statI A F (comp f) = 0 := by
    obtain ⟨h1, h2⟩ := statM_iff.1 hs
    exact statM_iff.2 ⟨comp_check h1, by rw [comp_comp h1]; exact h2⟩
  rw [actI, decide_eq_false (show ¬ (A : Int) < 0 by omega), decide_eq_false (show ¬ (A : Int) > 4 by omega), decide_eq_false (show ¬ (F : Int) < 0 by omega), decide_eq_false (show ¬ (F : Int) > 8 by omega), hsh]
  show evs' A F [comp f] [[]] = 0
  rw [evs', hc]; rfl
theorem holds_compr {m : Mo} {n : Nat} {f : List Nd} (hM : OkM m n) (hs : statI m.rel.length m.val.length f = 0) : holdsI m (comp f) = holdsI m f := by
  obtain ⟨h1, h2⟩ := statM_iff.1 hs
  have hc : statI m.rel.length m.val.length (comp f) = 0 := statM_iff.2 ⟨comp_check h1, by rw [comp_comp h1]; exact h2⟩
  have k1 : reqI m f = 0 := by rw [reqI, ok_moI hM]; exact hs
  have k2 : reqI m (comp f) = 0 := by rw [reqI, ok_moI hM]; exact hc
  rw [holdsI, holdsI, k1, k2, root_comp h1]
/-- The product with a public announcement is the part of the model where the formula holds. -/
theorem pub_prod {m : Mo} {n : Nat} {f : List Nd} (hM : OkM m n) (hs : statI m.rel.length m.val.length f = 0) :
    pairsL m (pubA m.rel.length f) = (memL (holdsI m f).1).map (fun w => (w, 0)) ∧ prodM m (pubA m.rel.length f) (pairsL m (pubA m.rel.length f)) = arrI m (memL (holdsI m f).1) := by
  have hag := hM.ag
  have hfa := hM.fa
  have hact := pubA_act hag hfa hs
  have hp0 : possP m (pubA m.rel.length f) 0 = (holdsI m f).1 := by
    show (holdsI m (comp f)).1 = _
    rw [holds_compr hM hs]
  have hlt := holds_lt (f := f) n hM
  have hl : pairsL m (pubA m.rel.length f) = (memL (holdsI m f).1).map (fun w => (w, 0)) := by
    rw [pairsL, hM.nn, Int.toNat_natCast, show (pubA m.rel.length f).pre.length = 1 from rfl, pairs_one, hp0, memL_range hlt hM.n64]
  refine ⟨hl, ?_⟩
  rw [hl]
  obtain ⟨ws, hws⟩ : ∃ ws, ws = memL (holdsI m f).1 := ⟨_, rfl⟩
  rw [← hws]
  have hlen : (ws.map fun w => (w, 0)).length = ws.length := List.length_map _
  have hgd : ∀ k, k < ws.length → (ws.map fun w => (w, 0)).getD k (0, 0) = (ws.getD k 0, 0) := fun k hk => by
    rw [List.getD_eq_getElem?_getD, List.getElem?_map, getD_mem hk (d := 0)]; rfl
  have hal := (act_alone hfa hact).1
  rw [prodM, arrI, hlen]
  congr 1
  · rw [← map_getD' (l := m.val) (g := fun s => pullN s ws) (d := 0)]
    apply List.map_congr_left
    intro i hi
    have hi := List.mem_range.1 hi
    have hvi : valI (pubA m.rel.length f) (0 : Nat) (i : Nat) = (buildL (nI 3 i) [], 0) := by
      rw [valI, hal, badF_of (show i < 8 by omega)]; rfl
    have hv : valuP m (pubA m.rel.length f) 0 i = m.val.getD i 0 := by rw [valuP, hvi, holds_fact hM hi]
    rw [valP, pullN, hlen]
    refine maskOf_congr fun k hk => ?_
    rw [hgd k hk]
    show (valuP m (pubA m.rel.length f) 0 i).testBit _ = _
    rw [hv]
  · rw [← map_getD' (l := m.rel) (g := fun r => ws.map fun w => pullN (r.getD w 0) ws) (d := [])]
    apply List.map_congr_left
    intro i hi
    have hi := List.mem_range.1 hi
    have hone : (pubA m.rel.length f).rel.getD i [] = [1] := by
      show (onesL m.rel.length).getD i [] = [1]
      rw [List.getD_eq_getElem?_getD, onesL, List.getElem?_replicate, if_pos hi]; rfl
    rw [relP, hone, List.map_map]
    apply List.map_congr_left
    intro w _
    show rowP (m.rel.getD i []) [1] (ws.map fun w => (w, 0)) (w, 0) = pullN ((m.rel.getD i []).getD w 0) ws
    rw [rowP, pullN, hlen]
    refine maskOf_congr fun k hk => ?_
    rw [hgd k hk, seesP]
    show (bif ((m.rel.getD i []).getD w 0).testBit (ws.getD k 0) then ([1] : List Nat).getD 0 0 |>.testBit 0 else false) = _
    cases ((m.rel.getD i []).getD w 0).testBit (ws.getD k 0) <;> rfl
end Go.Proofs.YtejbieopeicgkaaGreatDoor
set_option maxRecDepth 100000
set_option maxHeartbeats 4000000
namespace Go.Proofs.YtejbieopeicgkaaGreatDoor
open Go Go.Dv

/-- A set whose members are told by their places in a list, added to a set. -/
def sprG (t : Nat) : List Nat → Nat → Nat → Nat
  | [], _, acc => acc
  | w :: r, i, acc => sprG t r (i + 1) (acc ||| (bif t.testBit i then 2 ^ w else 0))
theorem sprG_bit {t : Nat} : ∀ {ws : List Nat} {i acc v : Nat}, (sprG t ws i acc).testBit v = true ↔ acc.testBit v = true ∨ ∃ k : Nat, ws[k]? = some v ∧ t.testBit (i + k) = true
  | [], i, acc, v => by simp [sprG]
  | w :: r, i, acc, v => by
    rw [sprG, sprG_bit, Nat.testBit_or, Bool.or_eq_true]
    constructor
    · rintro ((h | h) | ⟨k, h1, h2⟩)
      · exact .inl h
      · cases hb : t.testBit i with
        | true =>
          rw [hb, cond_true, Nat.testBit_two_pow, decide_eq_true_eq] at h
          exact .inr ⟨0, by rw [h]; rfl, hb⟩
        | false => rw [hb, cond_false, Nat.zero_testBit] at h; cases h
      · exact .inr ⟨k + 1, by simpa using h1, by rw [← h2]; congr 1; omega⟩
    · rintro (h | ⟨k, h1, h2⟩)
      · exact .inl (.inl h)
      · cases k with
        | zero =>
          refine .inl (.inr ?_)
          have : w = v := by simpa using h1
          rw [show t.testBit i = true from h2, cond_true, this, Nat.testBit_two_pow]; simp
        | succ k => exact .inr ⟨k, by simpa using h1, by rw [← h2]; congr 1; omega⟩
/-! where a formula of the dynamic language holds; nothing, if a product is too large -/
theorem arr_ok {m : Mo} {n : Nat} (hM : OkM m n) {ws : List Nat} (h1 : 1 ≤ ws.length) (h64 : ws.length ≤ 64) : OkM (arrI m ws) ws.length := by
  refine ⟨rfl, h1, h64, by simp [arrI]; exact hM.ag, by simp [arrI]; exact hM.fa, fun r hr => ?_, fun s hs => ?_, fun r hr s hs => ?_⟩
  · obtain ⟨r0, _, rfl⟩ := List.mem_map.1 hr
    simp
  · obtain ⟨s0, _, rfl⟩ := List.mem_map.1 hs
    exact maskOf_lt _ _
  · obtain ⟨r0, _, rfl⟩ := List.mem_map.1 hr
    obtain ⟨w, _, rfl⟩ := List.mem_map.1 hs
    exact maskOf_lt _ _
end Go.Proofs.YtejbieopeicgkaaGreatDoor
set_option maxRecDepth 100000
set_option maxHeartbeats 4000000
namespace Go.Proofs.YtejbieopeicgkaaGreatDoor
open Go Go.Dv

theorem comN_nil (n c s : Nat) : comN n [] c s = 2 ^ n - 1 := by
  have hz : ∀ w, pathN n [] c w = 0 := fun w => by
    have hall : ∀ m, rndR [([] : List Nat).map fun a => a &&& c] 0 m = 0 := fun m => by
      induction m with
      | zero => rfl
      | succ m ih => rw [rndR, ih, inP, Nat.zero_testBit]; rfl
    have hs : ∀ k, seqR [([] : List Nat).map fun a => a &&& c] n 0 k = 0 := fun k => by
      induction k with
      | zero => rfl
      | succ k ih => rw [seqR, ih, hall]
    rw [pathN, List.getD_nil, Nat.zero_and, hs]
  apply Nat.eq_of_testBit_eq
  intro i
  rw [comN, maskOf_bit, Nat.testBit_two_pow_sub_one, hz]
  rw [show subM 0 s = true from subM_iff.2 fun j hj => (by rw [Nat.zero_testBit] at hj; cases hj), Bool.and_true]
theorem comN_eq {n : Nat} {r : List Nat} {c s : Nat} (hn : n ≤ 64) (hl : r.length = n) (hb : ∀ s, s ∈ r → s < 2 ^ n) : comN n r c s = comP n r c s 64 := by
  rcases comP_stop (c := c) (s := s) (getD_lt2 hb) 64 with h | h
  · exact (comP_comN hl hb h).symm
  · omega
section
variable {n N : Nat} {φ : Nat → Nat}
end
section
variable {m p : Mo} {n N : Nat} {φ : Nat → Nat}
theorem OkM.get {m : Mo} {n : Nat} (h : OkM m n) (a w : Nat) : (m.rel.getD a []).getD w 0 < 2 ^ n := by
  rw [List.getD_eq_getElem?_getD (l := m.rel)]
  cases hr : m.rel[a]? with
  | none => simp; exact Nat.two_pow_pos _
  | some r => exact getD_lt2 (h.bits r (List.mem_iff_getElem?.2 ⟨a, hr⟩)) w
theorem join_or {rel : List (List Nat)} {g : Int} {w j : Nat} : ∀ i, (joinA orF rel g 0 w i).testBit j = true ↔ ∃ a, a < i ∧ (and64 (shr64 g a) 1 == 1) = true ∧ ((rel.getD a []).getD w 0).testBit j = true
  | 0 => by
    rw [joinA, Nat.zero_testBit]
    exact ⟨fun h => (by cases h), fun ⟨a, h, _⟩ => (by omega)⟩
  | i + 1 => by
    have ih := join_or (rel := rel) (g := g) (w := w) (j := j) i
    rw [joinA]
    cases hg : (and64 (shr64 g i) 1 == 1) with
    | false =>
      rw [cond_false, ih]
      constructor
      · rintro ⟨a, h1, h2⟩; exact ⟨a, by omega, h2⟩
      · rintro ⟨a, h1, h2, h3⟩
        by_cases e : a = i
        · rw [e, hg] at h2; cases h2
        · exact ⟨a, by omega, h2, h3⟩
    | true =>
      rw [cond_true, orF, Nat.testBit_or, Bool.or_eq_true, ih]
      constructor
      · rintro (⟨a, h1, h2⟩ | h)
        · exact ⟨a, by omega, h2⟩
        · exact ⟨i, by omega, hg, h⟩
      · rintro ⟨a, h1, h2, h3⟩
        by_cases e : a = i
        · exact .inr (by rw [← e]; exact h3)
        · exact .inl ⟨a, by omega, h2, h3⟩
theorem join_and {rel : List (List Nat)} {g : Int} {n w j : Nat} : ∀ i, (joinA andF rel g (2 ^ n - 1) w i).testBit j = true ↔ j < n ∧ ∀ a, a < i → (and64 (shr64 g a) 1 == 1) = true → ((rel.getD a []).getD w 0).testBit j = true
  | 0 => by
    rw [joinA, Nat.testBit_two_pow_sub_one, decide_eq_true_eq]
    exact ⟨fun h => ⟨h, fun a h => (by omega)⟩, fun h => h.1⟩
  | i + 1 => by
    have ih := join_and (rel := rel) (g := g) (n := n) (w := w) (j := j) i
    rw [joinA]
    cases hg : (and64 (shr64 g i) 1 == 1) with
    | false =>
      rw [cond_false, ih]
      refine and_congr_right fun _ => ⟨fun h a h1 h2 => ?_, fun h a h1 h2 => h a (by omega) h2⟩
      by_cases e : a = i
      · rw [e, hg] at h2; cases h2
      · exact h a (by omega) h2
    | true =>
      rw [cond_true, andF, Nat.testBit_and, Bool.and_eq_true, ih]
      constructor
      · rintro ⟨⟨h0, h1⟩, h2⟩
        refine ⟨h0, fun a h3 h4 => ?_⟩
        by_cases e : a = i
        · rw [e]; exact h2
        · exact h1 a (by omega) h4
      · rintro ⟨h0, h1⟩
        exact ⟨⟨h0, fun a h3 h4 => h1 a (by omega) h4⟩, h1 i (by omega) hg⟩
theorem grpM_get {op : Nat → Nat → Nat} {m : Mo} {g : Int} {first n w : Nat} (hM : OkM m n) (hb : badGM m g = false) (hw : w < n) : (grpM op m g first).getD w 0 = joinA op m.rel g first w m.rel.length := by
  rw [grpM, hb, hM.nn, Int.toNat_natCast]
  exact getD_map_range hw
theorem grpM_lt {op : Nat → Nat → Nat} {m : Mo} {n : Nat} (hM : OkM m n) (hop : ∀ x y, x < 2 ^ n → y < 2 ^ n → op x y < 2 ^ n) {g : Int} {first : Nat} (hfi : first < 2 ^ n) (w : Nat) : (grpM op m g first).getD w 0 < 2 ^ n := by
  cases hb : badGM m g with
  | true => rw [grpM, hb, cond_true, List.getD_nil]; exact Nat.two_pow_pos _
  | false =>
    have hg' := hb
    unfold badGM at hg'
    rw [ok_moI hM] at hg'
    by_cases q1 : g < 1
    · rw [decide_eq_true q1] at hg'; cases hg'
    · rw [decide_eq_false q1] at hg'
      have := of_decide_eq_false (show decide (g ≥ shl64 1 (m.rel.length : Int)) = false from hg')
      exact getD_lt2 (grp_facts hM hop hfi (by omega) (by omega)).2 w
theorem orF_lt (n : Nat) : ∀ x y, x < 2 ^ n → y < 2 ^ n → orF x y < 2 ^ n := fun _ _ h1 h2 => Nat.or_lt_two_pow h1 h2
theorem andF_lt (n : Nat) : ∀ x y, x < 2 ^ n → y < 2 ^ n → andF x y < 2 ^ n := fun x _ _ h2 => Nat.and_lt_two_pow x h2
theorem pow_less (n : Nat) : 2 ^ n - 1 < 2 ^ n := by have := Nat.two_pow_pos n; omega
/-! formulas that are put together -/
end
end Go.Proofs.YtejbieopeicgkaaGreatDoor
set_option maxRecDepth 100000
set_option maxHeartbeats 4000000
namespace Go.Proofs.YtejbieopeicgkaaGreatDoor
open Go Go.Dv

/-! ascending lists -/
theorem asc_eq : ∀ {a b : List Nat}, a.Pairwise (· < ·) → b.Pairwise (· < ·) → (∀ x, x ∈ a ↔ x ∈ b) → a = b
  | [], [], _, _, _ => rfl
  | [], y :: s, _, _, h => by have := (h y).2 (by simp); cases this
  | x :: r, [], _, _, h => by have := (h x).1 (by simp); cases this
  | x :: r, y :: s, ha, hb, h => by
    rw [List.pairwise_cons] at ha hb
    have hxy : x = y := by
      have h1 := (h x).1 (by simp)
      have h2 := (h y).2 (by simp)
      rcases List.mem_cons.1 h1 with e | e
      · exact e
      · rcases List.mem_cons.1 h2 with e2 | e2
        · exact e2.symm
        · have := ha.1 y e2
          have := hb.1 x e
          omega
    subst hxy
    congr 1
    refine asc_eq ha.2 hb.2 fun z => ?_
    constructor
    · intro hz
      have := (h z).1 (List.mem_cons_of_mem _ hz)
      rcases List.mem_cons.1 this with e | e
      · have := ha.1 z hz; omega
      · exact e
    · intro hz
      have := (h z).2 (List.mem_cons_of_mem _ hz)
      rcases List.mem_cons.1 this with e | e
      · have := hb.1 z hz; omega
      · exact e
theorem memL_asc (s : Nat) : (memL s).Pairwise (· < ·) := by
  rw [memL]
  exact List.Pairwise.filter _ List.pairwise_lt_range
theorem asc_map {g : Nat → Nat} : ∀ {l : List Nat}, l.Pairwise (· < ·) → (∀ x y, x ∈ l → y ∈ l → x < y → g x < g y) → (l.map g).Pairwise (· < ·)
  | [], _, _ => .nil
  | x :: r, h, hg => by
    rw [List.pairwise_cons] at h
    rw [List.map_cons, List.pairwise_cons]
    refine ⟨fun z hz => ?_, asc_map h.2 fun a b ha hb hab => hg a b (List.mem_cons_of_mem _ ha) (List.mem_cons_of_mem _ hb) hab⟩
    obtain ⟨y, hy, rfl⟩ := List.mem_map.1 hz
    exact hg x y (by simp) (List.mem_cons_of_mem _ hy) (h.1 y hy)
theorem asc_get {l : List Nat} (h : l.Pairwise (· < ·)) {i j : Nat} (hij : i < j) (hj : j < l.length) : l.getD i 0 < l.getD j 0 := by
  rw [List.pairwise_iff_getElem] at h
  rw [List.getD_eq_getElem?_getD, List.getD_eq_getElem?_getD, List.getElem?_eq_getElem (by omega), List.getElem?_eq_getElem hj]
  exact h i j (by omega) hj hij
/-- The members of a part of a set, told by their places. -/
theorem memL_part {s u : Nat} (hu : u < 2 ^ (memL s).length) : (memL u).map (fun k => (memL s).getD k 0) = memL (sprG u (memL s) 0 0) := by
  have hl : ∀ k, k ∈ memL u → k < (memL s).length := fun k hk => bit_lt hu (memL_mem.1 hk).2
  refine asc_eq (asc_map (memL_asc u) fun x y hx hy hxy => asc_get (memL_asc s) hxy (hl y hy)) (memL_asc _) fun v => ?_
  rw [List.mem_map, memL_mem, sprG_bit]
  constructor
  · rintro ⟨k, hk, rfl⟩
    have hkl := hl k hk
    have hm := getD_mem hkl (d := 0)
    refine ⟨(memL_mem.1 (List.mem_iff_getElem?.2 ⟨k, hm⟩)).1, .inr ⟨k, hm, by rw [Nat.zero_add]; exact (memL_mem.1 hk).2⟩⟩
  · rintro ⟨_, h | ⟨k, hk, hb⟩⟩
    · rw [Nat.zero_testBit] at h; cases h
    · rw [Nat.zero_add] at hb
      have hkl := (List.getElem?_eq_some_iff.1 hk).1
      have h64 := memL_len s
      exact ⟨k, memL_mem.2 ⟨by omega, hb⟩, by rw [List.getD_eq_getElem?_getD, hk]; rfl⟩
theorem pull_pull {s u : Nat} {ws : List Nat} (hu : u < 2 ^ ws.length) (_h64 : ws.length ≤ 64) : pullN (pullN s ws) (memL u) = pullN s ((memL u).map fun k => ws.getD k 0) := by
  rw [pullN, pullN, pullN, List.length_map]
  refine maskOf_congr fun k hk => ?_
  have hm := getD_mem hk (d := 0)
  have hkl : (memL u).getD k 0 < ws.length := bit_lt hu (memL_mem.1 (List.mem_iff_getElem?.2 ⟨k, hm⟩)).2
  rw [maskOf_bit, decide_eq_true hkl, Bool.true_and, List.getD_eq_getElem?_getD (l := (memL u).map _), List.getElem?_map, hm]
  rfl
/-- Taking a part of a part is taking a part. -/
theorem arr_arr {m : Mo} {s u : Nat} (hu : u < 2 ^ (memL s).length) : arrI (arrI m (memL s)) (memL u) = arrI m (memL (sprG u (memL s) 0 0)) := by
  have hp := memL_part hu
  have h64 := memL_len s
  rw [arrI, ← hp]
  have e0 : arrI m ((memL u).map fun k => (memL s).getD k 0) = ⟨((memL u).length : Int), m.val.map fun x => pullN x ((memL u).map fun k => (memL s).getD k 0), m.rel.map fun r => ((memL u).map fun k => (memL s).getD k 0).map fun w => pullN (r.getD w 0) ((memL u).map fun k => (memL s).getD k 0)⟩ := by
    rw [arrI, List.length_map]
  rw [e0]
  congr 1
  · show (m.val.map fun x => pullN x (memL s)).map (fun x => pullN x (memL u)) = _
    rw [List.map_map]
    apply List.map_congr_left
    intro x _
    exact pull_pull hu h64
  · show (m.rel.map fun r => (memL s).map fun w => pullN (r.getD w 0) (memL s)).map (fun r => (memL u).map fun w => pullN (r.getD w 0) (memL u)) = _
    rw [List.map_map]
    apply List.map_congr_left
    intro r _
    rw [List.map_map]
    apply List.map_congr_left
    intro k hk
    have hkl : k < (memL s).length := bit_lt hu (memL_mem.1 hk).2
    show pullN (((memL s).map fun w => pullN (r.getD w 0) (memL s)).getD k 0) (memL u) = pullN (r.getD ((memL s).getD k 0) 0) _
    have : ((memL s).map fun w => pullN (r.getD w 0) (memL s)).getD k 0 = pullN (r.getD ((memL s).getD k 0) 0) (memL s) := by
      rw [List.getD_eq_getElem?_getD, List.getElem?_map, getD_mem hkl (d := 0)]; rfl
    rw [this]
    exact pull_pull hu h64
end Go.Proofs.YtejbieopeicgkaaGreatDoor
set_option maxRecDepth 100000
set_option maxHeartbeats 4000000
namespace Go.Proofs.YtejbieopeicgkaaGreatDoor
open Go Go.Dv

section
variable {acts : List Act} {m : Mo} {n : Nat} {a b g : Tr}
theorem notN_bit {n s w : Nat} : (notN n s).testBit w = (decide (w < n) && !s.testBit w) := by rw [notN, maskOf_bit]
end
end Go.Proofs.YtejbieopeicgkaaGreatDoor
set_option maxRecDepth 100000
set_option maxHeartbeats 4000000
namespace Go.Proofs.YtejbieopeicgkaaGreatDoor
open Go Go.Dv

section
variable {acts : List Act} {m : Mo} {n : Nat} {a b : Tr}
theorem memL_at {s w : Nat} (hs : s < 2 ^ 64) (hw : s.testBit w = true) : ∃ j : Nat, (memL s)[j]? = some w := List.mem_iff_getElem?.1 (memL_mem.2 ⟨bit_lt hs hw, hw⟩)
end
end Go.Proofs.YtejbieopeicgkaaGreatDoor
set_option maxRecDepth 100000
set_option maxHeartbeats 4000000
namespace Go.Proofs.YtejbieopeicgkaaGreatDoor
open Go Go.Dv

theorem getD_past {α : Type} {l : List α} {i : Nat} {d : α} (h : l.length ≤ i) : l.getD i d = d := by
  rw [List.getD_eq_getElem?_getD, List.getElem?_eq_none h]; rfl
/-- Static trees whose nodes have their operands. -/
def swT : Tr → Prop
  | .none => True
  | .nd op _ _ _ a b => (1 ≤ op ∧ op ≤ 13) ∧ (usesX op = true → a ≠ .none) ∧ (usesY op = true → b ≠ .none) ∧ swT a ∧ swT b
/-- A set of the worlds of a part of a model, and a set of the model: alike in the part. -/
def Ag (s x t : Nat) : Prop := ∀ k w, (memL s)[k]? = some w → x.testBit k = t.testBit w
section
variable {s n : Nat} (hs : s < 2 ^ n)
theorem ag_at {k w : Nat} (h : (memL s)[k]? = some w) : k < (memL s).length ∧ s.testBit w = true :=
  ⟨(List.getElem?_eq_some_iff.1 h).1, (memL_mem.1 (List.mem_iff_getElem?.2 ⟨k, h⟩)).2⟩
theorem ag_zero : Ag s 0 0 := fun k w _ => by rw [Nat.zero_testBit, Nat.zero_testBit]
include hs in
theorem ag_all : Ag s (2 ^ (memL s).length - 1) (2 ^ n - 1) := fun k w h => by
  obtain ⟨h1, h2⟩ := ag_at h
  rw [all_bit h1, all_bit (bit_lt hs h2)]
include hs in
theorem ag_not {x t : Nat} (h : Ag s x t) : Ag s (notN (memL s).length x) (notN n t) := fun k w hk => by
  obtain ⟨h1, h2⟩ := ag_at hk
  rw [notN_bit, notN_bit, decide_eq_true h1, decide_eq_true (bit_lt hs h2), h k w hk]
theorem ag_and {x t x' t' : Nat} (h : Ag s x t) (h' : Ag s x' t') : Ag s (x &&& x') (t &&& t') := fun k w hk => by rw [Nat.testBit_and, Nat.testBit_and, h k w hk, h' k w hk]
theorem ag_or {x t x' t' : Nat} (h : Ag s x t) (h' : Ag s x' t') : Ag s (x ||| x') (t ||| t') := fun k w hk => by rw [Nat.testBit_or, Nat.testBit_or, h k w hk, h' k w hk]
theorem ag_xor {x t x' t' : Nat} (h : Ag s x t) (h' : Ag s x' t') : Ag s (x ^^^ x') (t ^^^ t') := fun k w hk => by rw [Nat.testBit_xor, Nat.testBit_xor, h k w hk, h' k w hk]
theorem ag_in {x t : Nat} (h : Ag s x t) : Ag s x (s &&& t) := fun k w hk => by rw [Nat.testBit_and, (ag_at hk).2, Bool.true_and, h k w hk]
/-- Rows of a part. -/
def AgR (s : Nat) (r1 r : List Nat) : Prop := ∀ k w, (memL s)[k]? = some w → ∀ j, (r1.getD k 0).testBit j = true ↔ ∃ v, (memL s)[j]? = some v ∧ (r.getD w 0).testBit v = true
include hs in
theorem ag_box {r1 r : List Nat} {x t : Nat} (h64 : n ≤ 64) (hr : ∀ w, r.getD w 0 < 2 ^ n) (hR : AgR s r1 r) (h : Ag s x t) (ho : ∀ v, v < n → s.testBit v = false → t.testBit v = true) : Ag s (boxN (memL s).length r1 x) (boxN n r t) := fun k w hk => by
  obtain ⟨h1, h2⟩ := ag_at hk
  rw [Bool.eq_iff_iff, boxN_bit, boxN_bit]
  constructor
  · rintro ⟨_, g⟩
    refine ⟨bit_lt hs h2, fun v hv => ?_⟩
    have hvn := bit_lt (hr w) hv
    cases hb : s.testBit v with
    | false => exact ho v hvn hb
    | true =>
      obtain ⟨j, hj⟩ := memL_at (Nat.lt_of_lt_of_le hs (pow64_le h64)) hb
      rw [← h j v hj]
      exact g j ((hR k w hk j).2 ⟨v, hj, hv⟩)
  · rintro ⟨_, g⟩
    refine ⟨h1, fun j hj => ?_⟩
    obtain ⟨v, h3, h4⟩ := (hR k w hk j).1 hj
    rw [h j v h3]
    exact g v h4
theorem notN_out {t v : Nat} (hv : v < n) (h : s.testBit v = false) : (notN n (s &&& t)).testBit v = true := by
  rw [notN_bit, Nat.testBit_and, h, decide_eq_true hv]; rfl
include hs in
theorem ag_comP {r1 r : List Nat} {c1 c x t : Nat} (h64 : n ≤ 64) (hr : ∀ w, r.getD w 0 < 2 ^ n) (hR : AgR s r1 r) (hc : Ag s c1 c) (h : Ag s x t) : ∀ k, Ag s (comP (memL s).length r1 c1 x k) (comP n r (s &&& c) t k)
  | 0 => ag_all hs
  | k + 1 => by
    refine ag_box hs h64 hr hR (ag_or (ag_not hs (ag_in hc)) (ag_and h (ag_comP h64 hr hR hc h k))) fun v hv hb => ?_
    rw [Nat.testBit_or, notN_out hv hb]; rfl
end
section
variable {m : Mo} {n s : Nat} (hM : OkM m n) (hs : s < 2 ^ n) (h0 : s ≠ 0)
include hM hs h0 in
theorem arr_okM : OkM (arrI m (memL s)) (memL s).length := arr_ok hM (memL_pos h0 (Nat.lt_of_lt_of_le hs (pow64_le hM.n64))) (memL_len s)
theorem arr_row (i : Nat) : AgR s ((arrI m (memL s)).rel.getD i []) (m.rel.getD i []) := fun k w hk j => by
  by_cases hi : i < m.rel.length
  · have e : ((arrI m (memL s)).rel.getD i []).getD k 0 = pullN ((m.rel.getD i []).getD w 0) (memL s) := by
      rw [arrI, List.getD_eq_getElem?_getD (l := m.rel.map _), List.getElem?_map, getD_mem hi (d := [])]
      show ((memL s).map fun w => pullN ((m.rel.getD i []).getD w 0) (memL s)).getD k 0 = _
      rw [List.getD_eq_getElem?_getD, List.getElem?_map, hk]; rfl
    rw [e, pullN, maskOf_bit, Bool.and_eq_true, decide_eq_true_eq]
    constructor
    · rintro ⟨h1, h2⟩
      exact ⟨_, getD_mem h1, h2⟩
    · rintro ⟨v, h1, h2⟩
      refine ⟨(List.getElem?_eq_some_iff.1 h1).1, ?_⟩
      rw [show (memL s).getD j 0 = v by rw [List.getD_eq_getElem?_getD, h1]; rfl]
      exact h2
  · have el : (arrI m (memL s)).rel.length = m.rel.length := by simp [arrI]
    rw [getD_past (l := m.rel) (i := i) (by omega), getD_past (l := (arrI m (memL s)).rel) (i := i) (by omega)]
    simp
theorem agR_nil : AgR s [] [] := fun k w _ j => by simp
include hM hs h0 in
theorem arr_bad (g : Int) : badGM (arrI m (memL s)) g = badGM m g := by
  rw [badGM, badGM, ok_moI hM, ok_moI (arr_okM hM hs h0), show (arrI m (memL s)).rel.length = m.rel.length by simp [arrI]]
include hM hs h0 in
theorem arr_or (g : Int) : AgR s (grpM orF (arrI m (memL s)) g 0) (grpM orF m g 0) := by
  cases hg : badGM m g with
  | true => rw [grpM, grpM, arr_bad hM hs h0, hg]; exact agR_nil
  | false =>
    intro k w hk j
    obtain ⟨h1, h2⟩ := ag_at hk
    rw [grpM_get hM hg (bit_lt hs h2), grpM_get (arr_okM hM hs h0) (by rw [arr_bad hM hs h0, hg]) h1, join_or, show (arrI m (memL s)).rel.length = m.rel.length by simp [arrI]]
    constructor
    · rintro ⟨a, g1, g2, g3⟩
      obtain ⟨v, g4, g5⟩ := (arr_row (m := m) a k w hk j).1 g3
      exact ⟨v, g4, (join_or _).2 ⟨a, g1, g2, g5⟩⟩
    · rintro ⟨v, g4, g5⟩
      obtain ⟨a, g1, g2, g3⟩ := (join_or _).1 g5
      exact ⟨a, g1, g2, (arr_row (m := m) a k w hk j).2 ⟨v, g4, g3⟩⟩
include hM hs h0 in
theorem arr_and (g : Int) : AgR s (grpM andF (arrI m (memL s)) g (2 ^ (memL s).length - 1)) (grpM andF m g (2 ^ n - 1)) := by
  cases hg : badGM m g with
  | true => rw [grpM, grpM, arr_bad hM hs h0, hg]; exact agR_nil
  | false =>
    intro k w hk j
    obtain ⟨h1, h2⟩ := ag_at hk
    rw [grpM_get hM hg (bit_lt hs h2), grpM_get (arr_okM hM hs h0) (by rw [arr_bad hM hs h0, hg]) h1, join_and, show (arrI m (memL s)).rel.length = m.rel.length by simp [arrI]]
    constructor
    · rintro ⟨hj, g1⟩
      have hv := getD_mem hj (d := 0)
      refine ⟨_, hv, (join_and _).2 ⟨bit_lt hs (ag_at hv).2, fun a g2 g3 => ?_⟩⟩
      obtain ⟨v, g4, g5⟩ := (arr_row (m := m) a k w hk j).1 (g1 a g2 g3)
      rw [hv] at g4
      rw [Option.some.inj g4]
      exact g5
    · rintro ⟨v, g4, g5⟩
      obtain ⟨_, g6⟩ := (join_and _).1 g5
      exact ⟨(ag_at g4).1, fun a g2 g3 => (arr_row (m := m) a k w hk j).2 ⟨v, g4, g6 a g2 g3⟩⟩
theorem vl7 (x y : Nat) (i g : Int) : vlN m n 7 i g x y = notN n x ||| y := rfl
theorem vl5 (x y : Nat) (i g : Int) : vlN m n 5 i g x y = x &&& y := rfl
theorem ann_vl {P : Tr} {op i e g : Int} {a b : Tr} : vlT m n (annT P (.nd op i e g a b)) = notN n (vlT m n P) ||| vlN m n op i g (bif isPC op then vlT m n P &&& vlT m n (annT P a) else vlT m n (annT P a)) (vlT m n (annT P b)) := by
  rw [annT, vlT, vl7, vlT]
  congr 2
  cases isPC op with
  | true => simp only [cond_true]; rw [vlT, vl5]
  | false => rfl
theorem ann_out {P t : Tr} (ht : t ≠ .none) {v : Nat} (hv : v < n) (h : (vlT m n P).testBit v = false) : (vlT m n (annT P t)).testBit v = true := by
  cases t with
  | none => exact absurd rfl ht
  | nd op i e g a b => rw [ann_vl, Nat.testBit_or, notN_bit, h, decide_eq_true hv]; rfl
include hM hs h0 in
/-- What is announced is true where the rest is looked at. -/
theorem ann_ag {P : Tr} (hP : vlT m n P = s) : ∀ t, swT t → Ag s (vlT (arrI m (memL s)) (memL s).length t) (vlT m n (annT P t))
  | .none, _ => ag_zero
  | .nd op i e g a b, hw => by
    obtain ⟨⟨o1, o2⟩, n1, n2, w1, w2⟩ := hw
    have hx := ann_ag hP a w1
    have hy := ann_ag hP b w2
    have h64 := hM.n64
    have hox : usesX op = true → ∀ v, v < n → s.testBit v = false → (vlT m n (annT P a)).testBit v = true := fun u v hv hb => ann_out (n1 u) hv (by rw [hP]; exact hb)
    rw [ann_vl, vlT, hP]
    generalize vlT m n (annT P a) = t at hx hox ⊢
    generalize vlT (arrI m (memL s)) (memL s).length a = x at hx ⊢
    generalize vlT m n (annT P b) = u at hy ⊢
    generalize vlT (arrI m (memL s)) (memL s).length b = y at hy ⊢
    have key : Ag s (vlN (arrI m (memL s)) (memL s).length op i g x y) (vlN m n op i g (bif isPC op then s &&& t else t) u) := by
      have : op = 1 ∨ op = 2 ∨ op = 3 ∨ op = 4 ∨ op = 5 ∨ op = 6 ∨ op = 7 ∨ op = 8 ∨ op = 9 ∨ op = 10 ∨ op = 11 ∨ op = 12 ∨ op = 13 := by omega
      rcases this with rfl | rfl | rfl | rfl | rfl | rfl | rfl | rfl | rfl | rfl | rfl | rfl | rfl
      · exact ag_all hs
      · exact ag_zero
      · intro k w hk
        show ((arrI m (memL s)).val.getD i.toNat 0).testBit k = (m.val.getD i.toNat 0).testBit w
        obtain ⟨h1, h2⟩ := ag_at hk
        by_cases hi : i.toNat < m.val.length
        · rw [arrI, List.getD_eq_getElem?_getD (l := m.val.map _), List.getElem?_map, getD_mem hi (d := 0)]
          show (pullN (m.val.getD i.toNat 0) (memL s)).testBit k = _
          rw [pullN, maskOf_bit, decide_eq_true h1, Bool.true_and, show (memL s).getD k 0 = w by rw [List.getD_eq_getElem?_getD, hk]; rfl]
        · have el : (arrI m (memL s)).val.length = m.val.length := by simp [arrI]
          rw [getD_past (l := m.val) (i := i.toNat) (by omega), getD_past (l := (arrI m (memL s)).val) (i := i.toNat) (by omega), Nat.zero_testBit, Nat.zero_testBit]
      · exact ag_not hs hx
      · exact ag_and hx hy
      · exact ag_or hx hy
      · exact ag_or (ag_not hs hx) hy
      · exact ag_not hs (ag_xor hx hy)
      · exact ag_box hs h64 (hM.get _) (arr_row _) hx (hox rfl)
      · show Ag s (diaN _ _ x) (diaN n _ (s &&& t))
        exact ag_not hs (ag_box hs h64 (hM.get _) (arr_row _) (ag_not hs (ag_in hx)) fun v hv hb => notN_out hv hb)
      · exact ag_box hs h64 (grpM_lt hM (orF_lt n) (Nat.two_pow_pos n)) (arr_or hM hs h0 g) hx (hox rfl)
      · exact ag_box hs h64 (grpM_lt hM (andF_lt n) (pow_less n)) (arr_and hM hs h0 g) hx (hox rfl)
      · show Ag s (comN _ _ x y) (comN n _ (s &&& t) u)
        cases hg : badGM m g with
        | true =>
          rw [grpM, grpM, arr_bad hM hs h0, hg, cond_true, cond_true, comN_nil, comN_nil]
          exact ag_all hs
        | false =>
          have hg' := hg
          unfold badGM at hg'
          rw [ok_moI hM] at hg'
          have hg1 : 1 ≤ g ∧ g < shl64 1 (m.rel.length : Int) := by
            by_cases q1 : g < 1
            · rw [decide_eq_true q1] at hg'; cases hg'
            · rw [decide_eq_false q1] at hg'
              have := of_decide_eq_false (show decide (g ≥ shl64 1 (m.rel.length : Int)) = false from hg')
              exact ⟨by omega, by omega⟩
          have hM1 := arr_okM hM hs h0
          have f1 := grp_facts hM (orF_lt n) (Nat.two_pow_pos n) hg1.1 hg1.2
          have f2 := grp_facts hM1 (orF_lt _) (Nat.two_pow_pos (memL s).length) hg1.1 (by rw [show (arrI m (memL s)).rel.length = m.rel.length by simp [arrI]]; exact hg1.2)
          rw [comN_eq hM1.n64 f2.1 f2.2, comN_eq h64 f1.1 f1.2]
          exact ag_comP hs h64 (getD_lt2 f1.2) (arr_or hM hs h0 g) hx hy 64
    intro k w hk
    rw [Nat.testBit_or, notN_bit, (ag_at hk).2, Bool.not_true, Bool.and_false, Bool.false_or]
    exact key k w hk
theorem all_lt' {t : Nat} (h : t < 2 ^ n) (hall : ∀ w, w < n → t.testBit w = true) : t = 2 ^ n - 1 := by
  apply Nat.eq_of_testBit_eq
  intro w
  rw [Nat.testBit_two_pow_sub_one]
  by_cases hw : w < n
  · rw [hall w hw, decide_eq_true hw]
  · rw [decide_eq_false hw]
    cases hb : t.testBit w with
    | false => rfl
    | true => exact absurd (bit_lt h hb) hw
include hM in
/-- The reduction of an announcement holds where the announcement makes the formula true. -/
theorem ann_sem {P t : Tr} (hP : vlT m n P = s) (ht : swT t) (hn : t ≠ .none) :
    vlT m n (annT P t) = bif s == 0 then 2 ^ n - 1 else sprG (vlT (arrI m (memL s)) (memL s).length t) (memL s) 0 (notN n s) := by
  have hs : s < 2 ^ n := hP ▸ vlT_lt hM.vbits P
  by_cases h0 : s = 0
  · subst h0
    exact all_lt' (vlT_lt hM.vbits _) fun w hw => ann_out hn hw (by rw [hP, Nat.zero_testBit])
  · have hag := ann_ag hM hs h0 hP t ht
    rw [show (s == 0) = false by simpa using h0, cond_false]
    apply Nat.eq_of_testBit_eq
    intro w
    rw [Bool.eq_iff_iff, sprG_bit, notN_bit]
    constructor
    · intro h
      have hw := bit_lt (vlT_lt hM.vbits _) h
      cases hb : s.testBit w with
      | false => left; rw [decide_eq_true hw]; rfl
      | true =>
        right
        obtain ⟨k, hk⟩ := memL_at (Nat.lt_of_lt_of_le hs (pow64_le hM.n64)) hb
        exact ⟨k, hk, by rw [Nat.zero_add, hag k w hk]; exact h⟩
    · rintro (h | ⟨k, hk, h⟩)
      · rw [Bool.and_eq_true, decide_eq_true_eq] at h
        exact ann_out hn h.1 (by rw [hP]; simpa using h.2)
      · rw [Nat.zero_add, hag k w hk] at h
        exact h
end
end Go.Proofs.YtejbieopeicgkaaGreatDoor
set_option maxRecDepth 100000
set_option maxHeartbeats 4000000
namespace Go.Proofs.YtejbieopeicgkaaGreatDoor
open Go Go.Dv

theorem stat13 {op : Nat} (h : op < 22) (hf : (frag (op : Int)).toNat < 16) : op ≤ 13 := by
  have key : ∀ op : Nat, op < 22 → (frag (op : Int)).toNat < 16 → op ≤ 13 := by decide
  exact key op h hf
theorem shape_at {A F : Nat} {f : List Nd} (hf : Okl f) (hs : ∀ x, x ∈ f → stM A F x.op x.i x.e x.g = true) : ∀ (n i : Nat), i < n → i < f.length → tree f i ≠ .none ∧ swT (tree f i)
  | 0, i, h, _ => by omega
  | n + 1, i, hn, hi => by
    have hx : f[i]? = some f[i] := List.getElem?_eq_getElem hi
    have hm := hs _ (List.getElem_mem hi)
    generalize f[i] = x at hx hm
    have ok := hf i x hx
    have h13 : x.op ≤ 13 := by
      obtain ⟨⟨h1, _⟩, _⟩ := stM_iff.1 hm
      have ho := ok.op
      have := stat13 (op := x.op.toNat) (by omega) (by rw [show ((x.op.toNat : Nat) : Int) = x.op by omega]; exact h1)
      omega
    rw [tree_nd hf hx]
    refine ⟨(by intro e; cases e), ⟨⟨ok.op.1, h13⟩, fun u => ?_, fun u => ?_, ?_, ?_⟩⟩
    · rw [u]; have := ok.x u; exact (shape_at hf hs n x.x.toNat (by omega) (by omega)).1
    · rw [u]; have := ok.y u; exact (shape_at hf hs n x.y.toNat (by omega) (by omega)).1
    · cases hu : usesX x.op with
      | false => trivial
      | true => have := ok.x hu; exact (shape_at hf hs n x.x.toNat (by omega) (by omega)).2
    · cases hu : usesY x.op with
      | false => trivial
      | true => have := ok.y hu; exact (shape_at hf hs n x.y.toNat (by omega) (by omega)).2
theorem can_nodes {A F : Nat} {z : List Nd} (hz : Can z) (ha : allT (rgQ (stM A F)) (root z) = true) : ∀ x, x ∈ z → stM A F x.op x.i x.e x.g = true := fun x hx => by
  rw [← hz.fix] at hx
  exact (rg_iff.1 (finT_all (Q := rgQ (stM A F)) _ _ ha (by simp) x hx)).1
theorem can_sw {A F : Nat} {z : List Nd} (hz : Can z) (ha : allT (rgQ (stM A F)) (root z) = true) : root z ≠ .none ∧ swT (root z) := by
  have := hz.pos
  exact shape_at hz.ok (can_nodes hz ha) z.length (z.length - 1) (by omega) (by omega)
end Go.Proofs.YtejbieopeicgkaaGreatDoor
set_option maxRecDepth 100000
set_option maxHeartbeats 4000000
namespace Go.Proofs.YtejbieopeicgkaaGreatDoor
open Go Go.Dv

theorem holds_of {m : Mo} {n : Nat} {x : List Nd} {s : Nat} (hM : OkM m n) (hs : statI m.rel.length m.val.length x = 0) (hv : vlT m n (root x) = s) : holdsI m x = (s, 0) := by
  have hr : reqI m x = 0 := by rw [reqI, ok_moI hM]; exact hs
  rw [holdsI, hr, hM.nn, Int.toNat_natCast, hv]; rfl
theorem ann_fine {f g : List Nd} (h : (rnnI f g).2 = 0) : check f = 0 ∧ check g = 0 ∧ stB f = true ∧ stB g = true ∧ Can (rnnI f g).1 ∧ root (rnnI f g).1 = annT (root f) (root g) := by
  have hf : check f = 0 := by
    by_cases q : check f = 0
    · exact q
    · rw [rnnI, show (check f != 0) = true by simpa using q] at h
      exact absurd h q
  have hg : check g = 0 := by
    by_cases q : check g = 0
    · exact q
    · rw [rnnI, hf, show (check g != 0) = true by simpa using q] at h
      exact absurd h q
  have hb : (bif !stB f then true else !stB g) = false := by
    cases q : (bif !stB f then true else !stB g) with
    | false => rfl
    | true => rw [rnnI, hf, hg, q] at h; exact absurd (show (10 : Int) = 0 from h) (by decide)
  have h1 : stB f = true := by
    cases q : stB f with
    | true => rfl
    | false => rw [q] at hb; cases hb
  have h2 : stB g = true := by
    rw [h1] at hb; simpa using hb
  have hv : rnnI f g = annF (comp f) (comp g) := by rw [rnnI, hf, hg, hb]; rfl
  rw [hv] at h ⊢
  obtain ⟨p1, p2⟩ := annF_tree (comp_okl g) (comp_pos hg) h
  exact ⟨hf, hg, h1, h2, p1, by rw [p2, root_comp hf, root_comp hg]⟩
theorem stB_frag {f : List Nd} (h : stB f = true) {x : Nd} (hx : x ∈ comp f) : fragN x < 16 := by
  have h1 : frags f < 16 := (frag_low (Nat.lt_of_lt_of_le (frags_lt f) (by decide))).1 (by simpa [stB] using h)
  have h2 : fragN x ≤ frags f := orN_le hx
  omega
end Go.Proofs.YtejbieopeicgkaaGreatDoor
set_option maxRecDepth 100000
set_option maxHeartbeats 4000000
namespace Go.Proofs.YtejbieopeicgkaaGreatDoor
open Go Go.Dv

theorem upd_err' {m : Mo} {a : Act} (h : moaI m a ≠ 0) : updI m a = (noMo, [], moaI m a) := by
  have hb : (moaI m a != 0) = true := by simpa using h
  have h2 : worldsI m a = ([], moaI m a) := by rw [worldsI, hb]; rfl
  rw [updI, h2, hb]; rfl
theorem ann_err {m : Mo} {f : List Nd} (h : reqI m f ≠ 0) : annI m f = (noMo, [], reqI m f) := by
  have hb : (reqI m f != 0) = true := by simpa using h
  have h1 : holdsI m f = (0, reqI m f) := by rw [holdsI, hb]; rfl
  rw [annI, h1, hb]; rfl
theorem ann_of {m : Mo} {n s : Nat} {f : List Nd} (hM : OkM m n) (hs : statI m.rel.length m.val.length f = 0) (hv : vlT m n (root f) = s) : annI m f = bif s == 0 then (noMo, [], 11) else (arrI m (memL s), memL s, 0) := by
  rw [annI, holds_of hM hs hv]; rfl
theorem ann_ok {m : Mo} {f : List Nd} (h : (annI m f).2.2 = 0) : ∃ n s, OkM m n ∧ statI m.rel.length m.val.length f = 0 ∧ vlT m n (root f) = s ∧ s ≠ 0 ∧ annI m f = (arrI m (memL s), memL s, 0) := by
  have h0 : reqI m f = 0 := by
    by_cases q : reqI m f = 0
    · exact q
    · rw [ann_err q] at h; exact absurd h q
  obtain ⟨⟨n, hM⟩, hs⟩ := reqI_ok h0
  have e := ann_of hM hs rfl
  rw [e] at h ⊢
  by_cases q : vlT m n (root f) = 0
  · rw [q] at h; exact absurd (show (11 : Int) = 0 from h) (by decide)
  · exact ⟨n, _, hM, hs, rfl, q, by rw [show (vlT m n (root f) == 0) = false by simpa using q]; rfl⟩
theorem annT_sub {Q : Int → Int → Int → Int → Bool} {P : Tr} : ∀ t, allT Q (annT P t) = true → allT Q t = true
  | .none, _ => rfl
  | .nd op i e g a b, h => by
    rw [annT, allT, allT] at h
    simp only [Bool.and_eq_true] at h
    obtain ⟨_, ⟨h1, h2⟩, h3⟩ := h
    rw [allT, Bool.and_eq_true, Bool.and_eq_true]
    refine ⟨⟨h1, ?_⟩, annT_sub b h3⟩
    cases hp : isPC op with
    | false => rw [hp] at h2; exact annT_sub a h2
    | true =>
      rw [hp, cond_true, allT, Bool.and_eq_true] at h2
      exact annT_sub a h2.2
theorem stat_big {f : List Nd} (hc : check f = 0) (hb : stB f = true) : statI (4 : Nat) (8 : Nat) f = 0 := by
  refine statM_iff.2 ⟨hc, fun x hx => ?_⟩
  obtain ⟨k, hk⟩ := okl_mem (comp_okl f) hx
  have h1 : fragN x < 16 := stB_frag hb hx
  have h2 := agN_lt hk
  have h3 := factN_lt hk
  exact stM_iff.2 ⟨⟨h1, h2⟩, h3⟩
theorem stat_two {f : List Nd} {A F : Int} (h : statI (4 : Nat) (8 : Nat) f = 0) (h' : statI A F f ≠ 0) : statI A F f = 2 := by
  obtain ⟨h1, h2, _⟩ := statI_ok h
  rw [statI, h1, h2] at h' ⊢
  cases q : fits f A F with
  | false => rfl
  | true => rw [q] at h'; exact absurd rfl h'
/-- Announcing one formula and then another one is announcing once that the first one holds, and the second one after it. -/
theorem ann_twice {m : Mo} {f g : List Nd} (h1 : (annI m f).2.2 = 0) (h2 : (rnnI f g).2 = 0) (h3 : buildL (n0 5) [f, (rnnI f g).1] ≠ []) :
    (annI (annI m f).1 g).2.2 = (annI m (buildL (n0 5) [f, (rnnI f g).1])).2.2 ∧ ((annI (annI m f).1 g).2.2 = 0 → (annI (annI m f).1 g).1 = (annI m (buildL (n0 5) [f, (rnnI f g).1])).1 ∧ ∃ k, OkM (annI (annI m f).1 g).1 k) := by
  obtain ⟨n, s, hM, hs, hv, h0, e⟩ := ann_ok h1
  obtain ⟨cf, cg, sf, sg, hC, hT⟩ := ann_fine h2
  obtain ⟨_, _, hCb, hTb⟩ := two_inv (op := 5) (by simp) h3
  rw [e]
  show (annI (arrI m (memL s)) g).2.2 = _ ∧ ((annI (arrI m (memL s)) g).2.2 = 0 → (annI (arrI m (memL s)) g).1 = _ ∧ ∃ k, OkM (annI (arrI m (memL s)) g).1 k)
  have hlt : s < 2 ^ n := hv ▸ vlT_lt hM.vbits (root f)
  have hM1 := arr_okM hM hlt h0
  have er : (arrI m (memL s)).rel.length = m.rel.length := by simp [arrI]
  have ev : (arrI m (memL s)).val.length = m.val.length := by simp [arrI]
  have fQ := all_stat hs
  have both : ∀ A F : Nat, allT (rgQ (stM A F)) (root f) = true → allT (rgQ (stM A F)) (root g) = true → statI A F (buildL (n0 5) [f, (rnnI f g).1]) = 0 := fun A F f1 g1 => by
    refine stat_all hCb ?_
    rw [hTb, hT, allT, Bool.and_eq_true, Bool.and_eq_true]
    exact ⟨⟨(stM_clo A F).an, f1⟩, annT_all (stM_clo _ _) f1 _ g1⟩
  by_cases hg : statI m.rel.length m.val.length g = 0
  · have gQ := all_stat hg
    have hsw := can_sw (comp_can cg) (by rw [root_comp cg]; exact gQ)
    rw [root_comp cg] at hsw
    have hb := both _ _ fQ gQ
    have hlt1 : vlT (arrI m (memL s)) (memL s).length (root g) < 2 ^ (memL s).length := vlT_lt hM1.vbits _
    have key : vlT m n (root (buildL (n0 5) [f, (rnnI f g).1])) = sprG (vlT (arrI m (memL s)) (memL s).length (root g)) (memL s) 0 0 := by
      rw [hTb, hT, vlT, vl5, hv, ann_sem hM hv hsw.2 hsw.1, show (s == 0) = false by simpa using h0, cond_false]
      generalize vlT (arrI m (memL s)) (memL s).length (root g) = t
      apply Nat.eq_of_testBit_eq
      intro w
      rw [Bool.eq_iff_iff, Nat.testBit_and, Bool.and_eq_true, sprG_bit, sprG_bit, notN_bit]
      constructor
      · rintro ⟨q1, q2 | q2⟩
        · rw [q1] at q2; simp at q2
        · exact .inr q2
      · rintro (q | ⟨k, q1, q2⟩)
        · rw [Nat.zero_testBit] at q; cases q
        · exact ⟨(ag_at q1).2, .inr ⟨k, q1, q2⟩⟩
    rw [ann_of hM1 (by rw [er, ev]; exact hg) rfl, ann_of hM hb key]
    generalize vlT (arrI m (memL s)) (memL s).length (root g) = t at hlt1
    by_cases t0 : t = 0
    · subst t0
      have : sprG 0 (memL s) 0 0 = 0 := by
        apply Nat.eq_of_testBit_eq
        intro w
        rw [Bool.eq_iff_iff, sprG_bit]
        simp
      rw [this]
      exact ⟨rfl, fun h => absurd (show (11 : Int) = 0 from h) (by decide)⟩
    · have hp := memL_part hlt1
      have h64 := memL_len s
      have ht64 : t < 2 ^ 64 := Nat.lt_of_lt_of_le hlt1 (pow64_le h64)
      have hpos := memL_pos t0 ht64
      have hne : sprG t (memL s) 0 0 ≠ 0 := fun q => by
        rw [q, memL_zero] at hp
        rw [List.map_eq_nil_iff.1 hp] at hpos
        simp at hpos
      rw [show (t == 0) = false by simpa using t0, show (sprG t (memL s) 0 0 == 0) = false by simpa using hne, cond_false, cond_false, arr_arr hlt1]
      refine ⟨rfl, fun _ => ⟨rfl, (memL t).length, ?_⟩⟩
      show OkM (arrI m (memL (sprG t (memL s) 0 0))) _
      rw [← arr_arr hlt1]
      exact arr_ok hM1 hpos (memL_len t)
  · have hb : statI m.rel.length m.val.length (buildL (n0 5) [f, (rnnI f g).1]) ≠ 0 := fun q => hg (by
      have := all_stat q
      rw [hTb, hT, allT, Bool.and_eq_true] at this
      have hq := annT_sub _ this.2
      rw [← root_comp cg] at hq
      have h5 := stat_all (comp_can cg) hq
      obtain ⟨_, h6⟩ := statM_iff.1 h5
      exact statM_iff.2 ⟨cg, by rw [comp_comp cg] at h6; exact h6⟩)
    have big := both 4 8 (all_stat (stat_big cf sf)) (all_stat (stat_big cg sg))
    have e1 : reqI (arrI m (memL s)) g = 2 := by
      rw [reqI, ok_moI hM1, er, ev]
      exact stat_two (stat_big cg sg) hg
    have e2 : reqI m (buildL (n0 5) [f, (rnnI f g).1]) = 2 := by
      rw [reqI, ok_moI hM]
      exact stat_two big hb
    rw [ann_err (by rw [e1]; decide), ann_err (by rw [e2]; decide), e1, e2]
    exact ⟨rfl, fun h => absurd (show (2 : Int) = 0 from h) (by decide)⟩

/-! a public announcement as an action model -/
theorem pubA_stat {A F : Nat} {f : List Nd} (hc : check f = 0) (h : actI (pubA A f) A F = 0) : statI A F f = 0 := by
  have hO := (actI_ok h).ev
  have h1 : statI A F (comp f) = 0 := by
    have hO : evs' A F [comp f] [[]] = 0 := hO
    rw [evs'] at hO
    by_cases q : statI A F (comp f) = 0
    · exact q
    · rw [show (statI A F (comp f) != 0) = true by simpa using q] at hO
      exact absurd hO q
  obtain ⟨_, h3⟩ := statM_iff.1 h1
  exact statM_iff.2 ⟨hc, by rw [comp_comp hc] at h3; exact h3⟩
theorem pub_ok {A : Int} {f : List Nd} (h : (pubI A f).2 = 0) : ∃ n : Nat, A = n ∧ n ≤ 4 ∧ statI A 8 f = 0 ∧ pubI A f = (pubA n f, 0) := by
  have h1 : badAg A = false := by
    cases q : badAg A with
    | false => rfl
    | true => rw [pubI, q] at h; exact absurd (show (2 : Int) = 0 from h) (by decide)
  obtain ⟨n, rfl, hn⟩ := badAg_no h1
  have h2 : statI n 8 f = 0 := by
    by_cases q : statI n 8 f = 0
    · exact q
    · rw [pubI, h1, show (statI (n : Int) 8 f != 0) = true by simpa using q] at h
      exact absurd h q
  refine ⟨n, rfl, hn, h2, ?_⟩
  rw [pubI, h1, h2]; rfl
theorem pubA_smA {A : Nat} {f : List Nd} (hA : A ≤ 4) : Fit (pubA A f) ∧ (pubA A f).rel.length ≤ 1000 ∧ ∀ l, l ∈ (pubA A f).post → l.length ≤ 1000 := by
  refine ⟨fun r hr s hs => ?_, by simp [pubA, onesL]; omega, by simp [pubA]⟩
  rw [List.eq_of_mem_replicate (show r ∈ onesL A from hr)] at hs
  rw [List.mem_singleton.1 hs]; decide
/-- What the two ways find. -/
theorem ann_act (m : Mo) (f : List Nd) : ∃ a e x l g y ws h, pubI (m.rel.length : Nat) f = (a, e) ∧ updI m a = (x, l, g) ∧ annI m f = (y, ws, h) ∧ (Fit a ∧ a.rel.length ≤ 1000 ∧ ∀ l, l ∈ a.post → l.length ≤ 1000) ∧
    ((e = 0 ∧ g = 0 ∧ h = 0 ∧ x = y ∧ l = ws.map (fun w => (w, 0)) ∧ ws.length ≤ 64 ∧ ∃ k, OkM x k) ∨ ((bif bif e != 0 then true else g != 0 then true else h != 0) = true ∧ (bif e == 0 then ((g == 0) != (h == 0)) else false) = false)) := by
  by_cases he : (pubI (m.rel.length : Nat) f).2 = 0
  · obtain ⟨n0, hA, hn, hst, e1⟩ := pub_ok he
    obtain rfl : m.rel.length = n0 := by omega
    refine ⟨pubA m.rel.length f, 0, (updI m (pubA m.rel.length f)).1, (updI m (pubA m.rel.length f)).2.1, (updI m (pubA m.rel.length f)).2.2, (annI m f).1, (annI m f).2.1, (annI m f).2.2, e1, rfl, rfl, pubA_smA hn, ?_⟩
    have cf : check f = 0 := (statI_ok hst).1
    by_cases hm : moI m = 0
    · obtain ⟨n, hM⟩ := moI_ok hm
      by_cases hs : statI m.rel.length m.val.length f = 0
      · obtain ⟨hpl, hpr⟩ := pub_prod hM hs
        have hlt := holds_lt (f := f) n hM
        have hmoa : moaI m (pubA m.rel.length f) = 0 := by rw [moaI, ok_moI hM]; exact pubA_act hn hM.fa hs
        have hX : annI m f = bif (holdsI m f).1 == 0 then (noMo, [], 11) else (arrI m (memL (holdsI m f).1), memL (holdsI m f).1, 0) := by
          rw [annI, holds_of hM hs rfl]; rfl
        rw [hX]
        generalize (holdsI m f).1 = s at hlt hpl hpr
        have hlen : (pairsL m (pubA m.rel.length f)).length = (memL s).length := by rw [hpl, List.length_map]
        have hml := memL_len s
        have hs64 : s < 2 ^ 64 := Nat.lt_of_lt_of_le hlt (pow64_le hM.n64)
        by_cases h0 : s = 0
        · subst h0
          have : updI m (pubA m.rel.length f) = (noMo, [], 11) := by
            rw [updI, worldsI, hmoa, hlen, memL_zero]; rfl
          rw [this]
          exact .inr ⟨rfl, rfl⟩
        · have hp := memL_pos h0 hs64
          have hW : worldsI m (pubA m.rel.length f) = (pairsL m (pubA m.rel.length f), 0) := by
            rw [worldsI, hmoa, show (((pairsL m (pubA m.rel.length f)).length : Int) == 0) = false by rw [hlen]; simp; intro h; rw [h] at hp; simp at hp]; rfl
          have hU : updI m (pubA m.rel.length f) = (arrI m (memL s), pairsL m (pubA m.rel.length f), 0) := by
            rw [updI, hW]
            show (bif decide (((pairsL m (pubA m.rel.length f)).length : Int) > 64) then _ else _) = _
            rw [decide_eq_false (by omega), hpr]; rfl
          rw [hU, show (s == 0) = false by simpa using h0]
          exact .inl ⟨rfl, rfl, rfl, rfl, hpl, hml, _, arr_ok hM hp hml⟩
      · have hmoa : moaI m (pubA m.rel.length f) ≠ 0 := by
          rw [moaI, ok_moI hM]
          exact fun q => hs (pubA_stat cf q)
        have hr : reqI m f ≠ 0 := by rw [reqI, ok_moI hM]; exact hs
        rw [upd_err' hmoa, ann_err hr]
        refine .inr ⟨?_, ?_⟩
        · show (bif moaI m (pubA m.rel.length f) != 0 then true else reqI m f != 0) = true
          rw [show (moaI m (pubA m.rel.length f) != 0) = true by simpa using hmoa]; rfl
        · show ((moaI m (pubA m.rel.length f) == 0) != (reqI m f == 0)) = false
          rw [show (moaI m (pubA m.rel.length f) == 0) = false by simpa using hmoa, show (reqI m f == 0) = false by simpa using hr]; rfl
    · have hmoa : moaI m (pubA m.rel.length f) ≠ 0 := by
        rw [moaI, show (moI m != 0) = true by simpa using hm]; exact hm
      have hr : reqI m f ≠ 0 := by rw [reqI, show (moI m != 0) = true by simpa using hm]; exact hm
      rw [upd_err' hmoa, ann_err hr]
      refine .inr ⟨?_, ?_⟩
      · show (bif moaI m (pubA m.rel.length f) != 0 then true else reqI m f != 0) = true
        rw [show (moaI m (pubA m.rel.length f) != 0) = true by simpa using hmoa]; rfl
      · show ((moaI m (pubA m.rel.length f) == 0) != (reqI m f == 0)) = false
        rw [show (moaI m (pubA m.rel.length f) == 0) = false by simpa using hmoa, show (reqI m f == 0) = false by simpa using hr]; rfl
  · refine ⟨noAct, (pubI (m.rel.length : Nat) f).2, (updI m noAct).1, (updI m noAct).2.1, (updI m noAct).2.2, (annI m f).1, (annI m f).2.1, (annI m f).2.2, ?_, rfl, rfl, ⟨fun r hr => (by cases hr), by decide, fun l hl => (by cases hl)⟩, .inr ⟨?_, ?_⟩⟩
    · unfold pubI at he ⊢
      cases q : badAg ((m.rel.length : Nat) : Int) with
      | true => rfl
      | false =>
        rw [q] at he
        cases q2 : (statI ((m.rel.length : Nat) : Int) 8 f != 0) with
        | true => rfl
        | false => rw [q2] at he; exact absurd rfl he
    · rw [show ((pubI (m.rel.length : Nat) f).2 != 0) = true by simpa using he]; rfl
    · rw [show ((pubI (m.rel.length : Nat) f).2 == 0) = false by simpa using he]; rfl
end Go.Proofs.YtejbieopeicgkaaGreatDoor
set_option maxRecDepth 100000
set_option maxHeartbeats 8000000
namespace Go.Proofs.YtejbieopeicgkaaGreatDoor
open Go Go.Dv

theorem smX_of {a : Act} (h : Fit a ∧ a.rel.length ≤ 1000 ∧ ∀ l, l ∈ a.post → l.length ≤ 1000) : SmX a := ⟨h.1, h.2.1, h.2.2⟩
theorem lt_awake : PureFn Tryz.prog 27 [] (.bool true) := by
  obtain ⟨P, qP⟩ : ∃ z : List Nd, z = buildL (nI 3 0) [] := ⟨_, rfl⟩
  have hP := fm_Fact 0
  rw [← qP] at hP
  obtain ⟨a, qa⟩ : ∃ a, a = pubA 1 P := ⟨_, rfl⟩
  have hSa : SmX a := by rw [qa]; exact smX_of (pubA_smA (by decide))
  have hPb : PureFn Tryz.prog 22 [.int .i64 1, fpv P] (pairA (a, 0)) := by
    have := ac_Public 1 P
    rw [show pubI 1 P = (a, 0) by rw [qa, qP]; kernel_rfl] at this
    exact this
  obtain ⟨m, qm⟩ : ∃ m : Mo, m = ⟨2, [1], [[3, 3]]⟩ := ⟨_, rfl⟩
  obtain ⟨k, qk⟩ : ∃ m : Mo, m = ⟨1, [1], [[1]]⟩ := ⟨_, rfl⟩
  have hf : FitM m := by
    rw [qm]
    refine ⟨fun s hs => ?_, fun r hr s hs => ?_⟩
    · rw [List.mem_singleton.1 hs]; decide
    · rw [List.mem_singleton.1 hr] at hs
      have : s = 3 := by simpa using hs
      rw [this]; decide
  have hU := pr_Update m a hf hSa.fit hSa.rel hSa.post
  rw [show updI m a = (k, [(0, 0)], 0) by rw [qa, qP, qm, qk]; kernel_rfl] at hU
  have hN := an_Update m P hf
  rw [show annI m P = (k, [0], 0) by rw [qP, qm, qk]; kernel_rfl] at hN
  have hSm := rm_Same k (by rw [qk]; decide) (by rw [qk]; decide) (by rw [qk]; decide)
  have hf1 : firA a = a := by rw [qa, qP]; kernel_rfl
  have hCh := cp_Chain a [a] (fun j c => j = 0 → c = a) hSa (fun _ _ => hf1) (by simp) (fun j c b hG hb => by
    obtain ⟨hj, hba⟩ : j = 0 ∧ b = a := by
      cases j with
      | zero => exact ⟨rfl, (Option.some.inj hb).symm⟩
      | succ j => simp at hb
    rw [hG hj, hba]
    refine ⟨cp_Compose _ _ hSa hSa fun _ _ e f he hf => ?_, fun _ h => by omega⟩
    rw [qa] at hf he
    have hf : f = 0 := by simpa [pubA] using hf
    have he : e = 0 := by simpa [pubA] using he
    subst hf
    subst he
    have := cp_asg0 a 0 (by rw [qa]; exact Nat.zero_lt_one) hSa
    rw [← show a.post.getD 0 [] = [] by rw [qa]; rfl] at this
    exact this)
  obtain ⟨c, qc⟩ : ∃ c, c = (chainI [a, a]).1 := ⟨_, rfl⟩
  have hc0 : chainI [a, a] = (c, 0) := by
    refine Prod.ext qc.symm ?_
    show (chainI [a, a]).2 = 0
    rw [qa, qP]; kernel_rfl
  have hcl : c.pre.length = 1 := by rw [qc, qa, qP]; kernel_rfl
  rw [hc0] at hCh
  have hCh : PureFn Tryz.prog 30 [.sl [a.pv, a.pv]] (pairA (c, 0)) := hCh
  have hcl' : ((c.pre.map fpv).length : Int) = 1 := by rw [List.length_map, hcl]; rfl
  clear hf1 hc0 qc hcl hf qP qa hSa
  subst qm
  subst qk
  refine PureFn.introC [2, 3, 4, 5, 6, 7, 8] mixed (fn := Tryz.f27) rfl rfl rfl fun M w0 => ?_
  try conv=>whnf
  refine ⟨Unit, fun _ => [(1, .ref 0 0)], fun _ => 1, fun _ => [(0, .var (cellsM ⟨2, [1], [[3, 3]]⟩))], ?_, ?_⟩
  · (try conv=>whnf);repeat' (first|(apply And.intro<;>try conv=>whnf)|(apply cellsI;rfl)|fail)
    exact ⟨(), (by refine Wk.of ?_ ?_ rfl rfl rfl<;>repeat' (first|exact trivial|exact WkD.same _|exact WkO.same _ _ rfl|refine ⟨?_, ?_⟩|fail))⟩
  rintro ⟨⟩
  refine ⟨Unit, fun _ => [(1, .ref 0 0), (2, .pv (fpv P))], fun _ => 1, fun _ => [(0, .var (cellsM ⟨2, [1], [[3, 3]]⟩))], ?_, ?_⟩
  · (try conv=>whnf);repeat' (first|(refine PureFn.dcq (f := 83) rfl ?_;try conv=>whnf)|(refine ⟨_, _, hP, ?_, ?_⟩;(focus first|(refine ⟨?_, trivial⟩<;>first|exact PLe.refl _|exact PLe.nil)|exact trivial);try conv=>whnf)|fail)
    exact ⟨(), (by refine Wk.of ?_ ?_ rfl rfl rfl<;>repeat' (first|exact trivial|exact WkD.same _|exact WkO.same _ _ rfl|refine ⟨?_, ?_⟩|fail))⟩
  rintro ⟨⟩
  refine ⟨Unit, fun _ => [(1, .ref 0 0), (2, .pv (fpv P)), (3, .ref 1 0), (4, .pv (.int .i64 0))], fun _ => 2, fun _ => [(0, .var (cellsM ⟨2, [1], [[3, 3]]⟩)), (1, .var (cellsA a))], ?_, ?_⟩
  · (try conv=>whnf);repeat' (first|(refine PureFn.dcq (f := 22) rfl ?_;try conv=>whnf)|(refine ⟨_, _, hPb, ?_, ?_⟩;(focus first|(refine ⟨?_, ?_, trivial⟩<;>first|exact PLe.refl _|exact PLe.nil)|exact trivial);try conv=>whnf)|fail)
    exact ⟨(), (by refine Wk.of ?_ ?_ rfl rfl rfl<;>repeat' (first|exact trivial|exact WkD.same _|exact WkO.same _ _ rfl|refine ⟨?_, ?_⟩|fail))⟩
  rintro ⟨⟩
  refine ⟨Unit, fun _ => [(1, .ref 0 0), (2, .pv (fpv P)), (3, .ref 1 0), (4, .pv (.int .i64 0)), (5, .ref 2 0), (7, .pv (.int .i64 0))], fun _ => 3, fun _ => [(0, .var (cellsM ⟨2, [1], [[3, 3]]⟩)), (1, .var (cellsA a)), (2, .var (cellsM ⟨1, [1], [[1]]⟩))], ?_, ?_⟩
  · (try conv=>whnf);repeat' (first|(refine PureFn.dcq (f := 18) rfl ?_;try conv=>whnf)|(refine ⟨_, _, hU, ?_, ?_⟩;(focus first|(refine ⟨?_, ?_, trivial⟩<;>first|exact PLe.refl _|exact PLe.nil)|exact trivial);try conv=>whnf)|fail)
    exact ⟨(), (by refine Wk.of ?_ ?_ rfl rfl rfl<;>repeat' (first|exact trivial|exact WkD.same _|exact WkO.same _ _ rfl|refine ⟨?_, ?_⟩|fail))⟩
  rintro ⟨⟩
  refine ⟨Unit, fun _ => [(3, .ref 1 0), (4, .pv (.int .i64 0)), (5, .ref 2 0), (7, .pv (.int .i64 0)), (8, .ref 3 0), (9, .pv (intsPV [0])), (10, .pv (.int .i64 0))], fun _ => 4, fun _ => [(1, .var (cellsA a)), (2, .var (cellsM ⟨1, [1], [[1]]⟩)), (3, .var (cellsM ⟨1, [1], [[1]]⟩))], ?_, ?_⟩
  · (try conv=>whnf);repeat' (first|(refine PureFn.dcq (f := 28) rfl ?_;try conv=>whnf)|(refine ⟨_, _, hN, ?_, ?_⟩;(focus first|(refine ⟨?_, ?_, trivial⟩<;>first|exact PLe.refl _|exact PLe.nil)|exact trivial);try conv=>whnf)|fail)
    exact ⟨(), (by refine Wk.of ?_ ?_ rfl rfl rfl<;>repeat' (first|exact trivial|exact WkD.same _|exact WkO.same _ _ rfl|refine ⟨?_, ?_⟩|fail))⟩
  rintro ⟨⟩
  refine ⟨Unit, fun _ => [(4, .pv (.int .i64 0)), (5, .ref 2 0), (7, .pv (.int .i64 0)), (8, .ref 3 0), (9, .pv (intsPV [0])), (10, .pv (.int .i64 0)), (11, .ref 4 0), (12, .pv (.int .i64 0))], fun _ => 5, fun _ => [(2, .var (cellsM ⟨1, [1], [[1]]⟩)), (3, .var (cellsM ⟨1, [1], [[1]]⟩)), (4, .var (cellsA c))], ?_, ?_⟩
  · (try conv=>whnf);repeat' (first|(apply And.intro<;>try conv=>whnf)|(apply cellsI;rfl)|(refine PureFn.dcq (f := 30) rfl ?_;try conv=>whnf)|(refine ⟨_, _, hCh, ?_, ?_⟩;(focus first|(refine ⟨?_, trivial⟩<;>first|exact PLe.refl _|exact PLe.nil)|exact trivial);try conv=>whnf)|fail)
    exact ⟨(), (by refine Wk.of ?_ ?_ rfl rfl rfl<;>repeat' (first|exact trivial|exact WkD.same _|exact WkO.same _ _ rfl|refine ⟨?_, ?_⟩|fail))⟩
  rintro ⟨⟩
  refine ⟨Unit, fun _ => [(4, .pv (.int .i64 0)), (5, .ref 2 0), (7, .pv (.int .i64 0)), (8, .ref 3 0), (9, .pv (intsPV [0])), (10, .pv (.int .i64 0)), (11, .ref 4 0), (12, .pv (.int .i64 0)), (13, .ref 5 0)], fun _ => 6, fun _ => [(2, .var (cellsM ⟨1, [1], [[1]]⟩)), (3, .var (cellsM ⟨1, [1], [[1]]⟩)), (4, .var (cellsA c)), (5, .var (cellsM ⟨1, [1], [[1]]⟩))], ?_, ?_⟩
  · (try conv=>whnf);repeat' (first|(apply And.intro<;>try conv=>whnf)|(apply cellsI;rfl)|fail)
    exact ⟨(), (by refine Wk.of ?_ ?_ rfl rfl rfl<;>repeat' (first|exact trivial|exact WkD.same _|exact WkO.same _ _ rfl|refine ⟨?_, ?_⟩|fail))⟩
  rintro ⟨⟩
  (try conv=>whnf);repeat' (first|(apply And.intro<;>try conv=>whnf)|(intro h;try conv=>whnf)|apply True.intro|(apply infoT;rfl)|(apply WhenQ.mk;(try conv=>whnf);rotate_left;(try conv=>whnf);rotate_right)|with_reducible assumption|(refine PureFn.dcq (f := 26) rfl ?_;try conv=>whnf)|(refine ⟨_, _, hSm, ?_, ?_⟩;(focus first|(refine ⟨?_, ?_, trivial⟩<;>first|exact PLe.refl _|exact PLe.nil)|exact trivial);try conv=>whnf)|(refine ⟨0, _, rfl, rfl, rfl, ?_⟩;try conv=>whnf)|fail)
  · refine le_bool ?_
    rw [hcl']
    kernel_rfl
end Go.Proofs.YtejbieopeicgkaaGreatDoor
set_option maxRecDepth 100000
set_option maxHeartbeats 8000000
namespace Go.Proofs.YtejbieopeicgkaaGreatDoor
open Go Go.Dv

theorem tann_pure (m : Mo) (f : List Nd) (hf : FitM m) : PureFn Tryz.prog 8 [m.pv, fpv f] (.bool true) := by
  have hW := rm_Few m 8
  have hAw := lt_awake
  obtain ⟨a, e, x, l, g, y, ws, h', q1, q2, q3, ⟨s1, s2, s3⟩, hcase⟩ := ann_act m f
  have e1 : ((m.rel.map rowPV).length : Int) = (m.rel.length : Int) := by simp
  have hPb : PureFn Tryz.prog 22 [.int .i64 ((m.rel.map rowPV).length : Int), fpv f] (pairA (a, e)) := by
    have := ac_Public (m.rel.length : Nat) f
    rw [e1, ← q1]; exact this
  have hU := pr_Update m a hf s1 s2 s3
  rw [q2] at hU
  have hN := an_Update m f hf
  rw [q3] at hN
  clear q1 q2 q3 s1 s2 s3
  refine PureFn.introC [3, 4, 5, 6, 8] mixed (fn := Tryz.f8) rfl rfl rfl fun M w0 => ?_
  try conv=>whnf
  refine ⟨Unit, fun _ => [(1, .pv (fpv f)), (2, .ref 0 0)], fun _ => 1, fun _ => [(0, .var (cellsM m))], ?_, ?_⟩
  · (try conv=>whnf);repeat' (first|(apply And.intro<;>try conv=>whnf)|(intro h;try conv=>whnf)|apply True.intro|(apply WhenQ.mk;(try conv=>whnf);rotate_left;(try conv=>whnf);rotate_right)|with_reducible assumption|(apply not_of;with_reducible assumption)|(refine PureFn.dcq (f := 11) rfl ?_;try conv=>whnf)|(refine PureFn.dcq (f := 27) rfl ?_;try conv=>whnf)|(refine ⟨_, _, hW, ?_, ?_⟩;(focus first|(refine ⟨?_, ?_, trivial⟩<;>first|exact PLe.refl _|exact PLe.nil)|exact trivial);try conv=>whnf)|(refine ⟨_, _, hAw, ?_, ?_⟩;(focus first|(refine ⟨trivial⟩<;>first|exact PLe.refl _|exact PLe.nil)|exact trivial);try conv=>whnf)|fail)
    · exact .refl _
    · exact ⟨(), (by refine Wk.of ?_ ?_ rfl rfl rfl<;>repeat' (first|exact trivial|exact WkD.same _|exact WkO.same _ _ rfl|refine ⟨?_, ?_⟩|fail))⟩
  rintro ⟨⟩
  refine ⟨Unit, fun _ => [(1, .pv (fpv f)), (2, .ref 0 0), (5, .ref 1 0), (6, .pv (.int .i64 e))], fun _ => 2, fun _ => [(0, .var (cellsM m)), (1, .var (cellsA a))], ?_, ?_⟩
  · (try conv=>whnf);repeat' (first|(refine PureFn.dcq (f := 22) rfl ?_;try conv=>whnf)|(refine ⟨_, _, hPb, ?_, ?_⟩;(focus first|(refine ⟨?_, ?_, trivial⟩<;>first|exact PLe.refl _|exact PLe.nil)|exact trivial);try conv=>whnf)|fail)
    exact ⟨(), (by refine Wk.of ?_ ?_ rfl rfl rfl<;>repeat' (first|exact trivial|exact WkD.same _|exact WkO.same _ _ rfl|refine ⟨?_, ?_⟩|fail))⟩
  rintro ⟨⟩
  refine ⟨Unit, fun _ => [(1, .pv (fpv f)), (2, .ref 0 0), (6, .pv (.int .i64 e)), (7, .ref 2 0), (8, .pv (.sl (l.map pairPV))), (9, .pv (.int .i64 g))], fun _ => 3, fun _ => [(0, .var (cellsM m)), (2, .var (cellsM x))], ?_, ?_⟩
  · (try conv=>whnf);repeat' (first|(refine PureFn.dcq (f := 18) rfl ?_;try conv=>whnf)|(refine ⟨_, _, hU, ?_, ?_⟩;(focus first|(refine ⟨?_, ?_, trivial⟩<;>first|exact PLe.refl _|exact PLe.nil)|exact trivial);try conv=>whnf)|fail)
    exact ⟨(), (by refine Wk.of ?_ ?_ rfl rfl rfl<;>repeat' (first|exact trivial|exact WkD.same _|exact WkO.same _ _ rfl|refine ⟨?_, ?_⟩|fail))⟩
  rintro ⟨⟩
  refine ⟨Unit, fun _ => [(6, .pv (.int .i64 e)), (7, .ref 2 0), (8, .pv (.sl (l.map pairPV))), (9, .pv (.int .i64 g)), (10, .ref 3 0), (11, .pv (intsPV ws)), (12, .pv (.int .i64 h'))], fun _ => 4, fun _ => [(2, .var (cellsM x)), (3, .var (cellsM y))], ?_, ?_⟩
  · (try conv=>whnf);repeat' (first|(refine PureFn.dcq (f := 28) rfl ?_;try conv=>whnf)|(refine ⟨_, _, hN, ?_, ?_⟩;(focus first|(refine ⟨?_, ?_, trivial⟩<;>first|exact PLe.refl _|exact PLe.nil)|exact trivial);try conv=>whnf)|fail)
    exact ⟨(), (by refine Wk.of ?_ ?_ rfl rfl rfl<;>repeat' (first|exact trivial|exact WkD.same _|exact WkO.same _ _ rfl|refine ⟨?_, ?_⟩|fail))⟩
  rintro ⟨⟩
  rcases hcase with ⟨rfl, rfl, rfl, rfl, hl, hw64, k, hO⟩ | ⟨c1, c2⟩
  · have hSm := rm_Same x (by have := hO.fa; omega) (by have := hO.ag; omega) (fun r hr => by have := hO.rows r hr; have := hO.n64; omega)
    have e3 : ((l.map pairPV).length : Int) = ((ws.map i64).length : Int) := by rw [hl]; simp
    have hlk : ∀ i w, ws[i]? = some w → l[i]? = some (w, 0) := fun i w h => by rw [hl, List.getElem?_map, h]; rfl
    have hll : l.length = ws.length := by rw [hl, List.length_map]
    clear hl
    refine ⟨Unit, fun _ => [(7, .ref 2 0), (8, .pv (.sl (l.map pairPV))), (10, .ref 3 0), (11, .pv (intsPV ws))], fun _ => 4, fun _ => [(2, .var (cellsM x)), (3, .var (cellsM x))], ?_, ?_⟩
    · (try conv=>whnf);repeat' (first|(apply And.intro<;>try conv=>whnf)|(intro h;try conv=>whnf)|apply True.intro|(apply WhenQ.mk;(try conv=>whnf);rotate_left;(try conv=>whnf);rotate_right)|with_reducible assumption|(apply not_of;with_reducible assumption)|fail)
      · exact absurd (show (bif bif ((0 : Int) != 0) then true else ((0 : Int) != 0) then true else ((0 : Int) != 0)) = true from h) (by decide)
      · exact ⟨(), (by refine Wk.of ?_ ?_ rfl rfl rfl<;>repeat' (first|exact trivial|exact WkD.same _|exact WkO.same _ _ rfl|refine ⟨?_, ?_⟩|fail))⟩
    rintro ⟨⟩
    (try conv=>whnf);repeat' (first|(apply And.intro<;>try conv=>whnf)|(intro h;try conv=>whnf)|apply True.intro|(apply WhenQ.mk;(try conv=>whnf);rotate_left;(try conv=>whnf);rotate_right)|with_reducible assumption|(apply not_of;with_reducible assumption)|(refine PureFn.dcq (f := 26) rfl ?_;try conv=>whnf)|(refine ⟨_, _, hSm, ?_, ?_⟩;(focus first|(refine ⟨?_, ?_, trivial⟩<;>first|exact PLe.refl _|exact PLe.nil)|exact trivial);try conv=>whnf)|fail)
    · exfalso
      have h1 : (bif !true then true else ((l.map pairPV).length : Int) != ((ws.map i64).length : Int)) = true := h
      rw [e3] at h1
      simp at h1
    refine ⟨{ i : Nat // i ≤ l.length }, fun i => [(8, .pv (.sl (l.map pairPV))), (11, .pv (intsPV ws)), (81, .pv (.sl (l.map pairPV))), (82, .pv (i64 (l.map pairPV).length)), (83, .pv (i64 i.1))], fun _ => 4, fun _ => [], fun i => l.length - i.1, ⟨⟨0, Nat.zero_le _⟩, (by refine Wk.of ?_ ?_ rfl rfl rfl<;>repeat' (first|exact trivial|exact WkD.same _|refine ⟨?_, ?_⟩|fail))⟩, ?_⟩
    rintro ⟨i, hi⟩
    (try conv=>whnf);repeat' (first|(apply And.intro<;>try conv=>whnf)|(intro h;try conv=>whnf)|(apply infoT;rfl)|fail)
    · have hi' : i < l.length := by simpa using lt_dec h
      obtain ⟨w, hw⟩ : ∃ w, ws[i]? = some w := ⟨_, List.getElem?_eq_getElem (by omega)⟩
      have hx := hlk i w hw
      refine ⟨_, _, rfl, idx_map hx, rfl, ?_⟩
      (try conv=>whnf);repeat' (first|(apply And.intro<;>try conv=>whnf)|(intro h;try conv=>whnf)|apply True.intro|(apply infoT;rfl)|(apply WhenQ.mk;(try conv=>whnf);rotate_left;(try conv=>whnf);rotate_right)|with_reducible assumption|(apply not_of;with_reducible assumption)|(refine lin_plan (by kernel_rfl) ?_;try conv=>whnf)|(refine ⟨_, _, rfl, idx_map (by with_reducible assumption), rfl, ?_⟩;try conv=>whnf)|fail)
      · exfalso
        have h1 : (bif ((w : Int) != (w : Int)) then true else (((0 : Nat) : Int) != 0)) = true := h
        simp at h1
      · exact ⟨⟨i + 1, hi'⟩, by show l.length - (i + 1) < l.length - i; omega, (by refine Wk.of ?_ ?_ rfl rfl rfl<;>repeat' (first|exact trivial|exact WkD.same _|refine WkD.int ?_|refine ⟨?_, ?_⟩|(refine wrapA ?_ ?_ ?_;(focus simp;done);(focus (try dsimp only);omega);(focus (try dsimp only);omega))|fail))⟩
    · exact .refl _
  · refine ⟨{ _x : Unit // False }, fun _ => [], fun _ => 0, fun _ => [], ?_, fun ⟨_, h⟩ => h.elim⟩
    (try conv=>whnf);repeat' (first|(apply And.intro<;>try conv=>whnf)|(intro h;first|with_reducible exact tf (by assumption) h|try conv=>whnf)|apply True.intro|(apply WhenQ.mk;(try conv=>whnf);rotate_left;(try conv=>whnf);rotate_right)|with_reducible assumption|(apply not_of;with_reducible assumption)|fail)
    · exact le_bool (by
        show (!(bif e == 0 then ((g == 0) != (h' == 0)) else false)) = true
        rw [c2]; rfl)
theorem tann_args (ps : List PV) (hps : TyAll Tryz.prog 8 Tryz.f8.params.toList ps) : PureFn Tryz.prog 8 ps (.bool true) := by
  obtain ⟨p1, r1, rfl, h1, p2, r2, rfl, h2, rfl⟩ := hps
  obtain ⟨m, hm, hf⟩ := arg_mod (n := 4) h1
  obtain ⟨f, hf2⟩ := arg_nodes (n := 5) h2
  exact (tann_pure m f hf).le ⟨hm, hf2, trivial⟩

theorem ttwi_pure (m : Mo) (f g : List Nd) (hf : FitM m) : PureFn Tryz.prog 10 [m.pv, fpv f, fpv g] (.bool true) := by
  have hW := rm_Few m 8
  have hAw := lt_awake
  have hN1 := an_Update m f hf
  have hR := red_Announced f g
  have hT := ann_twice (m := m) (f := f) (g := g)
  have hK : (annI m f).2.2 = 0 → FitM (annI m f).1 := fun h0 => by
    obtain ⟨n, s, hM, hs, hv, hs0, e⟩ := ann_ok h0
    rw [e]
    exact (arr_okM hM (hv ▸ vlT_lt hM.vbits (root f)) hs0).fit
  have hN2 := fun h => an_Update (annI m f).1 g (hK h)
  clear hK
  generalize annI m f = X at hN1 hT hN2
  obtain ⟨x, ws, e⟩ := X
  simp only at hT hN2
  generalize rnnI f g = R at hR hT
  obtain ⟨af, i⟩ := R
  simp only at hT
  have hAnd := fm_And f af
  have hN3 := an_Update m (buildL (n0 5) [f, af]) hf
  generalize buildL (n0 5) [f, af] = both at hT hAnd hN3
  generalize annI x g = Y at hT hN2
  obtain ⟨y, wy, h'⟩ := Y
  generalize annI m both = Z at hT hN3
  obtain ⟨z, wz, j⟩ := Z
  simp only at hT
  refine PureFn.introC [3, 4, 6, 7, 8, 9, 11, 12] mixed (fn := Tryz.f10) rfl rfl rfl fun M w0 => ?_
  try conv=>whnf
  refine ⟨Unit, fun _ => [(1, .pv (fpv f)), (2, .pv (fpv g)), (3, .ref 0 0)], fun _ => 1, fun _ => [(0, .var (cellsM m))], ?_, ?_⟩
  · (try conv=>whnf);repeat' (first|(apply And.intro<;>try conv=>whnf)|(intro h;try conv=>whnf)|apply True.intro|(apply WhenQ.mk;(try conv=>whnf);rotate_left;(try conv=>whnf);rotate_right)|with_reducible assumption|(apply not_of;with_reducible assumption)|(refine PureFn.dcq (f := 11) rfl ?_;try conv=>whnf)|(refine PureFn.dcq (f := 27) rfl ?_;try conv=>whnf)|(refine ⟨_, _, hW, ?_, ?_⟩;(focus first|(refine ⟨?_, ?_, trivial⟩<;>first|exact PLe.refl _|exact PLe.nil)|exact trivial);try conv=>whnf)|(refine ⟨_, _, hAw, ?_, ?_⟩;(focus first|(refine ⟨trivial⟩<;>first|exact PLe.refl _|exact PLe.nil)|exact trivial);try conv=>whnf)|fail)
    · exact .refl _
    · exact ⟨(), (by refine Wk.of ?_ ?_ rfl rfl rfl<;>repeat' (first|exact trivial|exact WkD.same _|exact WkO.same _ _ rfl|refine ⟨?_, ?_⟩|fail))⟩
  rintro ⟨⟩
  refine ⟨Unit, fun _ => [(1, .pv (fpv f)), (2, .pv (fpv g)), (3, .ref 0 0), (7, .ref 1 0), (9, .pv (.int .i64 e))], fun _ => 2, fun _ => [(0, .var (cellsM m)), (1, .var (cellsM x))], ?_, ?_⟩
  · (try conv=>whnf);repeat' (first|(refine PureFn.dcq (f := 28) rfl ?_;try conv=>whnf)|(refine ⟨_, _, hN1, ?_, ?_⟩;(focus first|(refine ⟨?_, ?_, trivial⟩<;>first|exact PLe.refl _|exact PLe.nil)|exact trivial);try conv=>whnf)|fail)
    exact ⟨(), (by refine Wk.of ?_ ?_ rfl rfl rfl<;>repeat' (first|exact trivial|exact WkD.same _|exact WkO.same _ _ rfl|refine ⟨?_, ?_⟩|fail))⟩
  rintro ⟨⟩
  refine ⟨{ _x : Unit // e = 0 }, fun _ => [(1, .pv (fpv f)), (2, .pv (fpv g)), (3, .ref 0 0), (7, .ref 1 0)], fun _ => 2, fun _ => [(0, .var (cellsM m)), (1, .var (cellsM x))], ?_, ?_⟩
  · (try conv=>whnf);repeat' (first|(apply And.intro<;>try conv=>whnf)|(intro h;try conv=>whnf)|fail)
    · exact .refl _
    · exact ⟨⟨(), by simpa using h⟩, (by refine Wk.of ?_ ?_ rfl rfl rfl<;>repeat' (first|exact trivial|exact WkD.same _|exact WkO.same _ _ rfl|refine ⟨?_, ?_⟩|fail))⟩
  rintro ⟨_, he⟩
  have hN2 := hN2 he
  refine ⟨Unit, fun _ => [(1, .pv (fpv f)), (2, .pv (fpv g)), (3, .ref 0 0), (10, .ref 2 0), (12, .pv (.int .i64 h'))], fun _ => 3, fun _ => [(0, .var (cellsM m)), (2, .var (cellsM y))], ?_, ?_⟩
  · (try conv=>whnf);repeat' (first|(refine PureFn.dcq (f := 28) rfl ?_;try conv=>whnf)|(refine ⟨_, _, hN2, ?_, ?_⟩;(focus first|(refine ⟨?_, ?_, trivial⟩<;>first|exact PLe.refl _|exact PLe.nil)|exact trivial);try conv=>whnf)|fail)
    exact ⟨(), (by refine Wk.of ?_ ?_ rfl rfl rfl<;>repeat' (first|exact trivial|exact WkD.same _|exact WkO.same _ _ rfl|refine ⟨?_, ?_⟩|fail))⟩
  rintro ⟨⟩
  refine ⟨Unit, fun _ => [(1, .pv (fpv f)), (3, .ref 0 0), (10, .ref 2 0), (12, .pv (.int .i64 h')), (13, .pv (fpv af)), (14, .pv (.int .i64 i))], fun _ => 3, fun _ => [(0, .var (cellsM m)), (2, .var (cellsM y))], ?_, ?_⟩
  · (try conv=>whnf);repeat' (first|(refine PureFn.dcq (f := 31) rfl ?_;try conv=>whnf)|(refine ⟨_, _, hR, ?_, ?_⟩;(focus first|(refine ⟨?_, ?_, trivial⟩<;>first|exact PLe.refl _|exact PLe.nil)|exact trivial);try conv=>whnf)|fail)
    exact ⟨(), (by refine Wk.of ?_ ?_ rfl rfl rfl<;>repeat' (first|exact trivial|exact WkD.same _|exact WkO.same _ _ rfl|refine ⟨?_, ?_⟩|fail))⟩
  rintro ⟨⟩
  refine ⟨Unit, fun _ => [(3, .ref 0 0), (10, .ref 2 0), (12, .pv (.int .i64 h')), (14, .pv (.int .i64 i)), (15, .pv (fpv both))], fun _ => 3, fun _ => [(0, .var (cellsM m)), (2, .var (cellsM y))], ?_, ?_⟩
  · (try conv=>whnf);repeat' (first|(refine PureFn.dcq (f := 32) rfl ?_;try conv=>whnf)|(refine ⟨_, _, hAnd, ?_, ?_⟩;(focus first|(refine ⟨?_, ?_, trivial⟩<;>first|exact PLe.refl _|exact PLe.nil)|exact trivial);try conv=>whnf)|fail)
    exact ⟨(), (by refine Wk.of ?_ ?_ rfl rfl rfl<;>repeat' (first|exact trivial|exact WkD.same _|exact WkO.same _ _ rfl|refine ⟨?_, ?_⟩|fail))⟩
  rintro ⟨⟩
  refine ⟨{ _x : Unit // i = 0 ∧ both ≠ [] }, fun _ => [(3, .ref 0 0), (10, .ref 2 0), (12, .pv (.int .i64 h')), (15, .pv (fpv both))], fun _ => 3, fun _ => [(0, .var (cellsM m)), (2, .var (cellsM y))], ?_, ?_⟩
  · (try conv=>whnf);repeat' (first|(apply And.intro<;>try conv=>whnf)|(intro h;try conv=>whnf)|apply True.intro|(apply WhenQ.mk;(try conv=>whnf);rotate_left;(try conv=>whnf);rotate_right)|with_reducible assumption|(apply not_of;with_reducible assumption)|fail)
    · exact .refl _
    · refine ⟨⟨(), ?_⟩, (by refine Wk.of ?_ ?_ rfl rfl rfl<;>repeat' (first|exact trivial|exact WkD.same _|exact WkO.same _ _ rfl|refine ⟨?_, ?_⟩|fail))⟩
      obtain ⟨b1, b2⟩ := or_ff' (show (bif (i != 0) then true else (((both.map Nd.pv).length : Int) == 0)) = false from h)
      refine ⟨by simpa using b1, ?_⟩
      rintro rfl
      exact absurd b2 (by decide)
  rintro ⟨_, hi, hb⟩
  obtain ⟨hj, hS⟩ := hT he hi hb
  refine ⟨Unit, fun _ => [(10, .ref 2 0), (12, .pv (.int .i64 h')), (16, .ref 3 0), (18, .pv (.int .i64 j))], fun _ => 4, fun _ => [(2, .var (cellsM y)), (3, .var (cellsM z))], ?_, ?_⟩
  · (try conv=>whnf);repeat' (first|(refine PureFn.dcq (f := 28) rfl ?_;try conv=>whnf)|(refine ⟨_, _, hN3, ?_, ?_⟩;(focus first|(refine ⟨?_, ?_, trivial⟩<;>first|exact PLe.refl _|exact PLe.nil)|exact trivial);try conv=>whnf)|fail)
    exact ⟨(), (by refine Wk.of ?_ ?_ rfl rfl rfl<;>repeat' (first|exact trivial|exact WkD.same _|exact WkO.same _ _ rfl|refine ⟨?_, ?_⟩|fail))⟩
  rintro ⟨⟩
  subst hj
  by_cases h0 : h' = 0
  · obtain ⟨rfl, k, hO⟩ := hS h0
    subst h0
    have hSm := rm_Same y (by have := hO.fa; omega) (by have := hO.ag; omega) (fun r hr => by have := hO.rows r hr; have := hO.n64; omega)
    (try conv=>whnf);repeat' (first|(apply And.intro<;>try conv=>whnf)|(intro h;try conv=>whnf)|apply True.intro|(apply WhenQ.mk;(try conv=>whnf);rotate_left;(try conv=>whnf);rotate_right)|with_reducible assumption|(apply and_of<;>first|with_reducible assumption|(apply not_of;with_reducible assumption))|(refine PureFn.dcq (f := 26) rfl ?_;try conv=>whnf)|(refine ⟨_, _, hSm, ?_, ?_⟩;(focus first|(refine ⟨?_, ?_, trivial⟩<;>first|exact PLe.refl _|exact PLe.nil)|exact trivial);try conv=>whnf)|fail)
    exact le_bool rfl
  · have f0 : (h' != 0) = true := by simpa using h0
    have f1 : (h' == h' && !(h' != 0)) = false := by rw [f0]; simp
    (try conv=>whnf);repeat' (first|(apply And.intro<;>try conv=>whnf)|(intro h;first|with_reducible exact tf (by assumption) h|try conv=>whnf)|apply True.intro|(apply whenOff;(focus with_reducible assumption);try conv=>whnf)|(apply WhenQ.mk;(try conv=>whnf);rotate_left;(try conv=>whnf);rotate_right)|with_reducible assumption|fail)
    refine le_bool ?_
    rw [f0]
    simp
theorem ttwi_args (ps : List PV) (hps : TyAll Tryz.prog 8 Tryz.f10.params.toList ps) : PureFn Tryz.prog 10 ps (.bool true) := by
  obtain ⟨p1, r1, rfl, h1, p2, r2, rfl, h2, p3, r3, rfl, h3, rfl⟩ := hps
  obtain ⟨m, hm, hf⟩ := arg_mod (n := 4) h1
  obtain ⟨f, hf2⟩ := arg_nodes (n := 5) h2
  obtain ⟨g, hf3⟩ := arg_nodes (n := 5) h3
  exact (ttwi_pure m f g hf).le ⟨hm, hf2, hf3, trivial⟩
end Go.Proofs.YtejbieopeicgkaaGreatDoor
