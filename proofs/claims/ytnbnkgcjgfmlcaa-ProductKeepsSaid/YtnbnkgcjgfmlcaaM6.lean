/- Parts of the proof, one after the other: Formulas: fragments, facts, agents of both sides. Formulas: Fits of both sides. Formulas: build. Formulas: constructors, Subs. Formulas: the canonical list depends on the tree alone (plain). Formulas: canonical lists and constructors by their trees (plain). Formulas: the examples of the laws. Belief sets: bits of numbers, sets of valuations (plain). Belief sets: distances (plain). Belief sets: the value of a formula at a valuation (plain). Formulas: a canonical list is what its last node's constructor makes of its operands (plain). Formulas: the value of a formula by its tree; small formulas (plain). Action models: their values; errors, relations and models of usual messages (plain). Messages: errors and perceptions of the program walked. -/
import Derived.Test.YtnbnkgcjgfmlcaaM5
set_option maxRecDepth 100000
set_option maxHeartbeats 4000000
namespace Go.Proofs.Ytnbnkgcjgfmlcaa
open Go Go.Dv

theorem le_or {a b : Nat} (ha : a < 2 ^ 62) (hb : b < 2 ^ 62) {c : Int} (h : c = ((a ||| b : Nat) : Int)) : or64 a b = c := (or64_nat ha hb).trans h.symm
def usesP (op : Int) : PV := .agg [.bool (usesX op), .bool (usesY op), .bool (op == 3), .bool (isAgent op), .bool (isGroup op), .bool (op == 17), .int .i64 (frag op)]

theorem fm_union (fid : Nat) (m : Nd → Nat) (hcb : callable Try.prog fid = true) (hm : ∀ x (k : Int), OkNd x k → PureFn Try.prog fid [x.pv, usesP x.op] (.int .i64 (m x))) (hb : ∀ x (k : Int), OkNd x k → m x < 2 ^ 9) (f : List Nd) (M : Nat → Prop) (w0 : World) :
    DC Try.prog M w0 72 [.pv (fpv f), .clo fid [] []] noHeap fun d L' => frz d L' fun q _ => PLe q (.int .i64 (orN m (comp f) : Nat)) := by
  refine DC.intro mixed (fn := Try.f72) rfl rfl rfl ?_
  have hlen := comp_len f
  (try conv=>whnf);repeat' (first|(apply And.intro<;>try conv=>whnf)|(intro h;first|(with_reducible first|exact tf0 h|exact ft0 h|exact nt0 h|exact nf0 h)|exact litz h rfl|(with_reducible first|exact tf h (by assumption)|exact tf (by assumption) h)|try conv=>whnf)|with_reducible rfl|apply True.intro|((first|apply infoT|apply bleI|apply fitI|apply cellsI|apply szI);rfl)|(apply guardI;kernel_rfl)|(apply WhenQ.mk;(try conv=>whnf);rotate_left;(try conv=>whnf);rotate_right)|(with_reducible first|assumption|(apply not_of;assumption)|(apply left_of;assumption)|(apply left_of;apply left_of;assumption)|(apply and_of<;>first|assumption|(apply not_of;assumption)))|(refine lin_plan (by kernel_rfl) ?_;try conv=>whnf)|(refine ⟨_, _, rfl, idx_map (by with_reducible assumption), rfl, ?_⟩;try conv=>whnf)|(refine ⟨rfl, ?_⟩;try conv=>whnf)|exact Nat.le_refl 1|((first|(apply ex3;(focus with_reducible assumption);(focus with_reducible assumption))|(apply ex2;(focus with_reducible assumption)));try conv=>whnf)|(refine PureFn.dcq (f := 74) rfl ?_;try conv=>whnf)|((refine ⟨_, _, fm_Compact ?_, ?_, ?_⟩);rotate_left 1;(focus (first|(refine ⟨?_, trivial⟩<;>first|exact PLe.refl _|exact PLe.nil)|exact trivial));try conv=>whnf)|(refine ⟨_, (by (conv=>whnf);exact fm_Compact _), rfl, ?_⟩;try conv=>whnf)|fail)
  refine ⟨{ i : Nat // i ≤ (comp f).length }, fun i => [(1, .clo fid [] []), (5, .pv (.int .i64 (orN m ((comp f).take i.1) : Nat))), (11, .pv (fpv (comp f))), (12, .pv (.int .i64 ((comp f).map Nd.pv).length)), (13, .pv (.int .i64 (i.1 : Nat)))], fun _ => 0,
    fun i => [], fun i => (comp f).length - i.1, ⟨⟨0, Nat.zero_le _⟩, (by refine Wk.of ?_ ?_ rfl rfl rfl<;>(repeat' (first|exact trivial|exact WkD.same _|exact WkO.same _ _ rfl|exact WkD.any _|(apply WkD.nil;first|exact Or.inl rfl|exact Or.inr rfl)|(exact WkD.fz _ _ _ rfl (Or.inl ⟨_, rfl⟩) rfl)|(exact WkD.fz _ _ _ rfl (Or.inr rfl) rfl)|refine WkD.int ?_|exact WkD.new' rfl rfl rfl|exact WkO.new _ _ rfl|refine WkO.vars rfl ?_|with_reducible rfl|exact rfl|refine ⟨?_, ?_⟩|((refine wrapA ?_ ?_ ?_);(focus simp;done);(focus (try dsimp only);omega);(focus (try dsimp only);omega))|fail)))⟩, ?_⟩
  rintro ⟨i, hi⟩
  (try conv=>whnf);repeat' (first|(apply And.intro<;>try conv=>whnf)|(intro h;first|(with_reducible first|exact tf0 h|exact ft0 h|exact nt0 h|exact nf0 h)|exact litz h rfl|(with_reducible first|exact tf h (by assumption)|exact tf (by assumption) h)|try conv=>whnf)|with_reducible rfl|apply True.intro|((first|apply infoT|apply bleI|apply fitI|apply cellsI|apply szI);rfl)|(apply guardI;kernel_rfl)|(apply WhenQ.mk;(try conv=>whnf);rotate_left;(try conv=>whnf);rotate_right)|(with_reducible first|assumption|(apply not_of;assumption)|(apply left_of;assumption)|(apply left_of;apply left_of;assumption)|(apply and_of<;>first|assumption|(apply not_of;assumption)))|(refine lin_plan (by kernel_rfl) ?_;try conv=>whnf)|(refine ⟨_, _, rfl, idx_map (by with_reducible assumption), rfl, ?_⟩;try conv=>whnf)|(refine ⟨rfl, ?_⟩;try conv=>whnf)|exact Nat.le_refl 1|((first|(apply ex3;(focus with_reducible assumption);(focus with_reducible assumption))|(apply ex2;(focus with_reducible assumption)));try conv=>whnf)|fail)
  · have hi' : i < (comp f).length := by simpa using h
    have hn : (comp f)[i]? = some (comp f)[i] := List.getElem?_eq_getElem hi'
    have hok := comp_okl f i _ hn
    have hmx := hm _ _ hok
    have hbx := hb _ _ hok
    have htk := orN_take (m := m) hi'
    have hbt : orN m ((comp f).take i) < 2 ^ 9 := orN_lt fun x hx => by obtain ⟨k, hk⟩ := okl_mem (comp_okl f) (List.mem_of_mem_take hx); exact hb x k hk
    (try conv=>whnf);repeat' (first|(apply And.intro<;>try conv=>whnf)|(intro h;first|(with_reducible first|exact tf0 h|exact ft0 h|exact nt0 h|exact nf0 h)|exact litz h rfl|(with_reducible first|exact tf h (by assumption)|exact tf (by assumption) h)|try conv=>whnf)|with_reducible rfl|apply True.intro|((first|apply infoT|apply bleI|apply fitI|apply cellsI|apply szI);rfl)|(apply guardI;kernel_rfl)|(apply WhenQ.mk;(try conv=>whnf);rotate_left;(try conv=>whnf);rotate_right)|(with_reducible first|assumption|(apply not_of;assumption)|(apply left_of;assumption)|(apply left_of;apply left_of;assumption)|(apply and_of<;>first|assumption|(apply not_of;assumption)))|(refine lin_plan (by kernel_rfl) ?_;try conv=>whnf)|(refine ⟨_, _, rfl, idx_map (by with_reducible assumption), rfl, ?_⟩;try conv=>whnf)|(refine ⟨rfl, ?_⟩;try conv=>whnf)|exact Nat.le_refl 1|((first|(apply ex3;(focus with_reducible assumption);(focus with_reducible assumption))|(apply ex2;(focus with_reducible assumption)));try conv=>whnf)|(refine PureFn.dcq (f := 91) rfl ?_;try conv=>whnf)|((refine ⟨_, _, fm_uses ?_, ?_, ?_⟩);rotate_left 1;(focus (first|(refine ⟨?_, trivial⟩<;>first|exact PLe.refl _|exact PLe.nil)|exact trivial));try conv=>whnf)|(refine ⟨_, (by (conv=>whnf);exact fm_uses _), rfl, ?_⟩;try conv=>whnf)|fail)
    refine PureFn.dcq hcb ?_
    refine ⟨_, _, hmx, ⟨.refl _, .refl _, trivial⟩, ?_⟩
    (try conv=>whnf);repeat' (first|(apply And.intro<;>try conv=>whnf)|(intro h;first|(with_reducible first|exact tf0 h|exact ft0 h|exact nt0 h|exact nf0 h)|exact litz h rfl|(with_reducible first|exact tf h (by assumption)|exact tf (by assumption) h)|try conv=>whnf)|with_reducible rfl|apply True.intro|((first|apply infoT|apply bleI|apply fitI|apply cellsI|apply szI);rfl)|(apply guardI;kernel_rfl)|(apply WhenQ.mk;(try conv=>whnf);rotate_left;(try conv=>whnf);rotate_right)|(with_reducible first|assumption|(apply not_of;assumption)|(apply left_of;assumption)|(apply left_of;apply left_of;assumption)|(apply and_of<;>first|assumption|(apply not_of;assumption)))|(refine lin_plan (by kernel_rfl) ?_;try conv=>whnf)|(refine ⟨_, _, rfl, idx_map (by with_reducible assumption), rfl, ?_⟩;try conv=>whnf)|(refine ⟨rfl, ?_⟩;try conv=>whnf)|exact Nat.le_refl 1|((first|(apply ex3;(focus with_reducible assumption);(focus with_reducible assumption))|(apply ex2;(focus with_reducible assumption)));try conv=>whnf)|fail)
    refine ⟨⟨i + 1, hi'⟩, by show (comp f).length - (i + 1) < (comp f).length - i; omega, ?_⟩
    (refine Wk.of ?_ ?_ rfl rfl rfl<;>(repeat' (first|exact trivial|exact WkD.same _|exact WkO.same _ _ rfl|exact WkD.any _|(apply WkD.nil;first|exact Or.inl rfl|exact Or.inr rfl)|(exact WkD.fz _ _ _ rfl (Or.inl ⟨_, rfl⟩) rfl)|(exact WkD.fz _ _ _ rfl (Or.inr rfl) rfl)|refine WkD.int ?_|exact WkD.new' rfl rfl rfl|exact WkO.new _ _ rfl|refine WkO.vars rfl ?_|with_reducible rfl|exact rfl|refine ⟨?_, ?_⟩|((refine wrapA ?_ ?_ ?_);(focus simp;done);(focus (try dsimp only);omega);(focus (try dsimp only);omega))|fail)))
    exact le_or (Nat.lt_of_lt_of_le hbt (by decide)) (Nat.lt_of_lt_of_le hbx (by decide)) (by rw [htk])
  · have hi' : i = (comp f).length := by simp at h; omega
    subst hi'
    exact le_int (by rw [List.take_length])

theorem fm_frag1 (x : Nd) (k : Int) (hok : OkNd x k) : PureFn Try.prog 73 [x.pv, usesP x.op] (.int .i64 (fragN x)) := by
  refine PureFn.intro mixed (fn := Try.f73) rfl rfl rfl fun M w0 => ?_
  (try conv=>whnf);repeat' (first|(apply And.intro<;>try conv=>whnf)|(intro h;first|(with_reducible first|exact tf0 h|exact ft0 h|exact nt0 h|exact nf0 h)|exact litz h rfl|(with_reducible first|exact tf h (by assumption)|exact tf (by assumption) h)|try conv=>whnf)|with_reducible rfl|apply True.intro|((first|apply infoT|apply bleI|apply fitI|apply cellsI|apply szI);rfl)|(apply guardI;kernel_rfl)|(apply WhenQ.mk;(try conv=>whnf);rotate_left;(try conv=>whnf);rotate_right)|(with_reducible first|assumption|(apply not_of;assumption)|(apply left_of;assumption)|(apply left_of;apply left_of;assumption)|(apply and_of<;>first|assumption|(apply not_of;assumption)))|(refine lin_plan (by kernel_rfl) ?_;try conv=>whnf)|(refine ⟨_, _, rfl, idx_map (by with_reducible assumption), rfl, ?_⟩;try conv=>whnf)|(refine ⟨rfl, ?_⟩;try conv=>whnf)|exact Nat.le_refl 1|((first|(apply ex3;(focus with_reducible assumption);(focus with_reducible assumption))|(apply ex2;(focus with_reducible assumption)));try conv=>whnf)|fail)
  exact le_int (fragN_lt hok).2
theorem fm_fact1 (x : Nd) (k : Int) (hok : OkNd x k) : PureFn Try.prog 121 [x.pv, usesP x.op] (.int .i64 (factN x)) := by
  refine PureFn.intro mixed (fn := Try.f121) rfl rfl rfl fun M w0 => ?_
  (try conv=>whnf);repeat' (first|(apply And.intro<;>try conv=>whnf)|(intro h;first|(with_reducible first|exact tf0 h|exact ft0 h|exact nt0 h|exact nf0 h)|exact litz h rfl|(with_reducible first|exact tf h (by assumption)|exact tf (by assumption) h)|try conv=>whnf)|with_reducible rfl|apply True.intro|((first|apply infoT|apply bleI|apply fitI|apply cellsI|apply szI);rfl)|(apply guardI;kernel_rfl)|(apply WhenQ.mk;(try conv=>whnf);rotate_left;(try conv=>whnf);rotate_right)|(with_reducible first|assumption|(apply not_of;assumption)|(apply left_of;assumption)|(apply left_of;apply left_of;assumption)|(apply and_of<;>first|assumption|(apply not_of;assumption)))|(refine lin_plan (by kernel_rfl) ?_;try conv=>whnf)|(refine ⟨_, _, rfl, idx_map (by with_reducible assumption), rfl, ?_⟩;try conv=>whnf)|(refine ⟨rfl, ?_⟩;try conv=>whnf)|exact Nat.le_refl 1|((first|(apply ex3;(focus with_reducible assumption);(focus with_reducible assumption))|(apply ex2;(focus with_reducible assumption)));try conv=>whnf)|fail)
  · have := hok.fact (by simpa using h)
    exact this.1
  · have := hok.fact (by simpa using h)
    refine le_int ((shl64_one this.1 (by omega)).trans ?_)
    rw [factN, h]; rfl
  · refine le_int ?_
    rw [factN, h]; rfl
theorem fm_agent1 (x : Nd) (k : Int) (hok : OkNd x k) : PureFn Try.prog 120 [x.pv, usesP x.op] (.int .i64 (agN x)) := by
  refine PureFn.intro mixed (fn := Try.f120) rfl rfl rfl fun M w0 => ?_
  (try conv=>whnf);repeat' (first|(apply And.intro<;>try conv=>whnf)|(intro h;first|(with_reducible first|exact tf0 h|exact ft0 h|exact nt0 h|exact nf0 h)|exact litz h rfl|(with_reducible first|exact tf h (by assumption)|exact tf (by assumption) h)|try conv=>whnf)|with_reducible rfl|apply True.intro|((first|apply infoT|apply bleI|apply fitI|apply cellsI|apply szI);rfl)|(apply guardI;kernel_rfl)|(apply WhenQ.mk;(try conv=>whnf);rotate_left;(try conv=>whnf);rotate_right)|(with_reducible first|assumption|(apply not_of;assumption)|(apply left_of;assumption)|(apply left_of;apply left_of;assumption)|(apply and_of<;>first|assumption|(apply not_of;assumption)))|(refine lin_plan (by kernel_rfl) ?_;try conv=>whnf)|(refine ⟨_, _, rfl, idx_map (by with_reducible assumption), rfl, ?_⟩;try conv=>whnf)|(refine ⟨rfl, ?_⟩;try conv=>whnf)|exact Nat.le_refl 1|((first|(apply ex3;(focus with_reducible assumption);(focus with_reducible assumption))|(apply ex2;(focus with_reducible assumption)));try conv=>whnf)|fail)
  · have := hok.agent h
    exact this.1
  · have := hok.agent h
    refine le_int ((shl64_one this.1 (by omega)).trans ?_)
    rw [agN, h]; rfl
  · refine le_int ?_
    rw [agN, h]
    show x.g = (x.g.toNat : Int)
    cases hg : isGroup x.op with
    | true => have := hok.group hg; omega
    | false => have := hok.nog hg; omega
theorem fm_Frags (f : List Nd) : PureFn Try.prog 33 [fpv f] (.int .i64 (frags f)) := by
  refine PureFn.intro mixed (fn := Try.f33) rfl rfl rfl fun M w0 => ?_
  (try conv=>whnf);repeat' (first|(apply And.intro<;>try conv=>whnf)|(intro h;first|(with_reducible first|exact tf0 h|exact ft0 h|exact nt0 h|exact nf0 h)|exact litz h rfl|(with_reducible first|exact tf h (by assumption)|exact tf (by assumption) h)|try conv=>whnf)|with_reducible rfl|apply True.intro|((first|apply infoT|apply bleI|apply fitI|apply cellsI|apply szI);rfl)|(apply guardI;kernel_rfl)|(apply WhenQ.mk;(try conv=>whnf);rotate_left;(try conv=>whnf);rotate_right)|(with_reducible first|assumption|(apply not_of;assumption)|(apply left_of;assumption)|(apply left_of;apply left_of;assumption)|(apply and_of<;>first|assumption|(apply not_of;assumption)))|(refine lin_plan (by kernel_rfl) ?_;try conv=>whnf)|(refine ⟨_, _, rfl, idx_map (by with_reducible assumption), rfl, ?_⟩;try conv=>whnf)|(refine ⟨rfl, ?_⟩;try conv=>whnf)|exact Nat.le_refl 1|((first|(apply ex3;(focus with_reducible assumption);(focus with_reducible assumption))|(apply ex2;(focus with_reducible assumption)));try conv=>whnf)|fail)
  refine DC.alone (p := .int .i64 (orN fragN (comp f) : Nat)) rfl (fun M w0 => fm_union 73 fragN rfl fm_frag1 (fun _ _ h => (fragN_lt h).1) f M w0) ?_
  (try conv=>whnf);repeat' (first|(apply And.intro<;>try conv=>whnf)|(intro h;first|(with_reducible first|exact tf0 h|exact ft0 h|exact nt0 h|exact nf0 h)|exact litz h rfl|(with_reducible first|exact tf h (by assumption)|exact tf (by assumption) h)|try conv=>whnf)|with_reducible rfl|apply True.intro|((first|apply infoT|apply bleI|apply fitI|apply cellsI|apply szI);rfl)|(apply guardI;kernel_rfl)|(apply WhenQ.mk;(try conv=>whnf);rotate_left;(try conv=>whnf);rotate_right)|(with_reducible first|assumption|(apply not_of;assumption)|(apply left_of;assumption)|(apply left_of;apply left_of;assumption)|(apply and_of<;>first|assumption|(apply not_of;assumption)))|(refine lin_plan (by kernel_rfl) ?_;try conv=>whnf)|(refine ⟨_, _, rfl, idx_map (by with_reducible assumption), rfl, ?_⟩;try conv=>whnf)|(refine ⟨rfl, ?_⟩;try conv=>whnf)|exact Nat.le_refl 1|((first|(apply ex3;(focus with_reducible assumption);(focus with_reducible assumption))|(apply ex2;(focus with_reducible assumption)));try conv=>whnf)|fail)
  exact le_int rfl
theorem fm_Facts (f : List Nd) : PureFn Try.prog 113 [fpv f] (.int .i64 (facts f)) := by
  refine PureFn.intro mixed (fn := Try.f113) rfl rfl rfl fun M w0 => ?_
  (try conv=>whnf);repeat' (first|(apply And.intro<;>try conv=>whnf)|(intro h;first|(with_reducible first|exact tf0 h|exact ft0 h|exact nt0 h|exact nf0 h)|exact litz h rfl|(with_reducible first|exact tf h (by assumption)|exact tf (by assumption) h)|try conv=>whnf)|with_reducible rfl|apply True.intro|((first|apply infoT|apply bleI|apply fitI|apply cellsI|apply szI);rfl)|(apply guardI;kernel_rfl)|(apply WhenQ.mk;(try conv=>whnf);rotate_left;(try conv=>whnf);rotate_right)|(with_reducible first|assumption|(apply not_of;assumption)|(apply left_of;assumption)|(apply left_of;apply left_of;assumption)|(apply and_of<;>first|assumption|(apply not_of;assumption)))|(refine lin_plan (by kernel_rfl) ?_;try conv=>whnf)|(refine ⟨_, _, rfl, idx_map (by with_reducible assumption), rfl, ?_⟩;try conv=>whnf)|(refine ⟨rfl, ?_⟩;try conv=>whnf)|exact Nat.le_refl 1|((first|(apply ex3;(focus with_reducible assumption);(focus with_reducible assumption))|(apply ex2;(focus with_reducible assumption)));try conv=>whnf)|fail)
  refine DC.alone (p := .int .i64 (orN factN (comp f) : Nat)) rfl (fun M w0 => fm_union 121 factN rfl fm_fact1 (fun _ _ h => Nat.lt_of_lt_of_le (factN_lt h) (by decide)) f M w0) ?_
  (try conv=>whnf);repeat' (first|(apply And.intro<;>try conv=>whnf)|(intro h;first|(with_reducible first|exact tf0 h|exact ft0 h|exact nt0 h|exact nf0 h)|exact litz h rfl|(with_reducible first|exact tf h (by assumption)|exact tf (by assumption) h)|try conv=>whnf)|with_reducible rfl|apply True.intro|((first|apply infoT|apply bleI|apply fitI|apply cellsI|apply szI);rfl)|(apply guardI;kernel_rfl)|(apply WhenQ.mk;(try conv=>whnf);rotate_left;(try conv=>whnf);rotate_right)|(with_reducible first|assumption|(apply not_of;assumption)|(apply left_of;assumption)|(apply left_of;apply left_of;assumption)|(apply and_of<;>first|assumption|(apply not_of;assumption)))|(refine lin_plan (by kernel_rfl) ?_;try conv=>whnf)|(refine ⟨_, _, rfl, idx_map (by with_reducible assumption), rfl, ?_⟩;try conv=>whnf)|(refine ⟨rfl, ?_⟩;try conv=>whnf)|exact Nat.le_refl 1|((first|(apply ex3;(focus with_reducible assumption);(focus with_reducible assumption))|(apply ex2;(focus with_reducible assumption)));try conv=>whnf)|fail)
  exact le_int rfl
theorem fm_Agents (f : List Nd) : PureFn Try.prog 112 [fpv f] (.int .i64 (agents f)) := by
  refine PureFn.intro mixed (fn := Try.f112) rfl rfl rfl fun M w0 => ?_
  (try conv=>whnf);repeat' (first|(apply And.intro<;>try conv=>whnf)|(intro h;first|(with_reducible first|exact tf0 h|exact ft0 h|exact nt0 h|exact nf0 h)|exact litz h rfl|(with_reducible first|exact tf h (by assumption)|exact tf (by assumption) h)|try conv=>whnf)|with_reducible rfl|apply True.intro|((first|apply infoT|apply bleI|apply fitI|apply cellsI|apply szI);rfl)|(apply guardI;kernel_rfl)|(apply WhenQ.mk;(try conv=>whnf);rotate_left;(try conv=>whnf);rotate_right)|(with_reducible first|assumption|(apply not_of;assumption)|(apply left_of;assumption)|(apply left_of;apply left_of;assumption)|(apply and_of<;>first|assumption|(apply not_of;assumption)))|(refine lin_plan (by kernel_rfl) ?_;try conv=>whnf)|(refine ⟨_, _, rfl, idx_map (by with_reducible assumption), rfl, ?_⟩;try conv=>whnf)|(refine ⟨rfl, ?_⟩;try conv=>whnf)|exact Nat.le_refl 1|((first|(apply ex3;(focus with_reducible assumption);(focus with_reducible assumption))|(apply ex2;(focus with_reducible assumption)));try conv=>whnf)|fail)
  refine DC.alone (p := .int .i64 (orN agN (comp f) : Nat)) rfl (fun M w0 => fm_union 120 agN rfl fm_agent1 (fun _ _ h => Nat.lt_of_lt_of_le (agN_lt h) (by decide)) f M w0) ?_
  (try conv=>whnf);repeat' (first|(apply And.intro<;>try conv=>whnf)|(intro h;first|(with_reducible first|exact tf0 h|exact ft0 h|exact nt0 h|exact nf0 h)|exact litz h rfl|(with_reducible first|exact tf h (by assumption)|exact tf (by assumption) h)|try conv=>whnf)|with_reducible rfl|apply True.intro|((first|apply infoT|apply bleI|apply fitI|apply cellsI|apply szI);rfl)|(apply guardI;kernel_rfl)|(apply WhenQ.mk;(try conv=>whnf);rotate_left;(try conv=>whnf);rotate_right)|(with_reducible first|assumption|(apply not_of;assumption)|(apply left_of;assumption)|(apply left_of;apply left_of;assumption)|(apply and_of<;>first|assumption|(apply not_of;assumption)))|(refine lin_plan (by kernel_rfl) ?_;try conv=>whnf)|(refine ⟨_, _, rfl, idx_map (by with_reducible assumption), rfl, ?_⟩;try conv=>whnf)|(refine ⟨rfl, ?_⟩;try conv=>whnf)|exact Nat.le_refl 1|((first|(apply ex3;(focus with_reducible assumption);(focus with_reducible assumption))|(apply ex2;(focus with_reducible assumption)));try conv=>whnf)|fail)
  exact le_int rfl

theorem frag_tab {op : Int} (h0 : 1 ≤ op ∧ op ≤ 21) : (bif bif op == 9 then true else op == 10 then 1 else bif bif decide (op ≥ 11) then decide (op ≤ 17) else false then IntKind.wrap .i64 (1 * 2 ^ min (IntKind.wrap .i64 (IntKind.wrap .i64 (op - 11) + 1)).toNat (IntKind.bits .i64)) else bif decide (op ≥ 18) then 256 else 0) = frag op := by
  have key : ∀ n : Nat, n < 22 → (bif bif (n : Int) == 9 then true else (n : Int) == 10 then 1 else bif bif decide ((n : Int) ≥ 11) then decide ((n : Int) ≤ 17) else false then IntKind.wrap .i64 (1 * 2 ^ min (IntKind.wrap .i64 (IntKind.wrap .i64 ((n : Int) - 11) + 1)).toNat (IntKind.bits .i64)) else bif decide ((n : Int) ≥ 18) then 256 else 0) = frag (n : Int) := by decide
  have := key op.toNat (by omega)
  rwa [show ((op.toNat : Nat) : Int) = op by omega] at this
theorem ref_Frag (op : Int) (h0 : 1 ≤ op ∧ op ≤ 21) : PureFn Try.prog 133 [.int .i64 op] (.int .i64 (frag op)) := by
  refine PureFn.intro mixed (fn := Try.f133) rfl rfl rfl fun M w0 => ?_
  have tab := frag_tab h0
  (try conv=>whnf);repeat' (first|(apply And.intro<;>try conv=>whnf)|(intro h;first|(with_reducible first|exact tf0 h|exact ft0 h|exact nt0 h|exact nf0 h)|exact litz h rfl|(with_reducible first|exact tf h (by assumption)|exact tf (by assumption) h)|try conv=>whnf)|with_reducible rfl|apply True.intro|((first|apply infoT|apply bleI|apply fitI|apply cellsI|apply szI);rfl)|(apply guardI;kernel_rfl)|(apply WhenQ.mk;(try conv=>whnf);rotate_left;(try conv=>whnf);rotate_right)|(with_reducible first|assumption|(apply not_of;assumption)|(apply left_of;assumption)|(apply left_of;apply left_of;assumption)|(apply and_of<;>first|assumption|(apply not_of;assumption)))|(refine lin_plan (by kernel_rfl) ?_;try conv=>whnf)|(refine ⟨_, _, rfl, idx_map (by with_reducible assumption), rfl, ?_⟩;try conv=>whnf)|(refine ⟨rfl, ?_⟩;try conv=>whnf)|exact Nat.le_refl 1|((first|(apply ex3;(focus with_reducible assumption);(focus with_reducible assumption))|(apply ex2;(focus with_reducible assumption)));try conv=>whnf)|fail)
  · exact le_int (by rw [← tab, h]; rfl)
  · have h1 : 11 ≤ op := by
      cases hb : decide (op ≥ 11) with
      | true => simpa using hb
      | false => rw [hb] at h; simp at h
    show 0 ≤ IntKind.wrap .i64 (IntKind.wrap .i64 (op - 11) + 1)
    have e : IntKind.wrap .i64 (op - 11) = op - 11 := wrap_small (by omega) (by omega)
    rw [e, wrap_small (by omega) (by omega)]; omega
  · rename_i h1
    exact le_int (by rw [← tab, h1, h]; rfl)
  · rename_i h2 h1
    exact le_int (by rw [← tab, h2, h1, h]; rfl)
  · rename_i h2 h1
    exact le_int (by rw [← tab, h2, h1, h]; rfl)

theorem fb (x : Nd) (k : Int) (h : OkNd x k) : fragN x < 2 ^ 9 := (fragN_lt h).1
theorem ab (x : Nd) (k : Int) (h : OkNd x k) : agN x < 2 ^ 9 := Nat.lt_of_lt_of_le (agN_lt h) (by decide)
theorem tb (x : Nd) (k : Int) (h : OkNd x k) : factN x < 2 ^ 9 := Nat.lt_of_lt_of_le (factN_lt h) (by decide)
theorem up {a : Nat} (h : a < 2 ^ 9) : a < 2 ^ 62 := Nat.lt_of_lt_of_le h (by decide)
theorem ref_Frags (f : List Nd) : PureFn Try.prog 128 [fpv f] (.int .i64 (frags f)) := by
  refine PureFn.intro mixed (fn := Try.f128) rfl rfl rfl fun M w0 => ?_
  have hlen := comp_len f
  (try conv=>whnf);repeat' (first|(apply And.intro<;>try conv=>whnf)|(intro h;first|(with_reducible first|exact tf0 h|exact ft0 h|exact nt0 h|exact nf0 h)|exact litz h rfl|(with_reducible first|exact tf h (by assumption)|exact tf (by assumption) h)|try conv=>whnf)|with_reducible rfl|apply True.intro|((first|apply infoT|apply bleI|apply fitI|apply cellsI|apply szI);rfl)|(apply guardI;kernel_rfl)|(apply WhenQ.mk;(try conv=>whnf);rotate_left;(try conv=>whnf);rotate_right)|(with_reducible first|assumption|(apply not_of;assumption)|(apply left_of;assumption)|(apply left_of;apply left_of;assumption)|(apply and_of<;>first|assumption|(apply not_of;assumption)))|(refine lin_plan (by kernel_rfl) ?_;try conv=>whnf)|(refine ⟨_, _, rfl, idx_map (by with_reducible assumption), rfl, ?_⟩;try conv=>whnf)|(refine ⟨rfl, ?_⟩;try conv=>whnf)|exact Nat.le_refl 1|((first|(apply ex3;(focus with_reducible assumption);(focus with_reducible assumption))|(apply ex2;(focus with_reducible assumption)));try conv=>whnf)|(refine PureFn.dcq (f := 132) rfl ?_;try conv=>whnf)|((refine ⟨_, _, ref_Compact ?_, ?_, ?_⟩);rotate_left 1;(focus (first|(refine ⟨?_, trivial⟩<;>first|exact PLe.refl _|exact PLe.nil)|exact trivial));try conv=>whnf)|(refine ⟨_, (by (conv=>whnf);exact ref_Compact _), rfl, ?_⟩;try conv=>whnf)|fail)
  refine ⟨{ i : Nat // i ≤ (comp f).length }, fun i => [(3, .pv (fpv (comp f))), (4, .pv (.int .i64 (orN fragN ((comp f).take i.1) : Nat))), (5, .pv (.int .i64 (i.1 : Nat)))], fun _ => 0,
    fun i => [], fun i => (comp f).length - i.1, ⟨⟨0, Nat.zero_le _⟩, (by refine Wk.of ?_ ?_ rfl rfl rfl<;>(repeat' (first|exact trivial|exact WkD.same _|exact WkO.same _ _ rfl|exact WkD.any _|(apply WkD.nil;first|exact Or.inl rfl|exact Or.inr rfl)|(exact WkD.fz _ _ _ rfl (Or.inl ⟨_, rfl⟩) rfl)|(exact WkD.fz _ _ _ rfl (Or.inr rfl) rfl)|refine WkD.int ?_|exact WkD.new' rfl rfl rfl|exact WkO.new _ _ rfl|refine WkO.vars rfl ?_|with_reducible rfl|exact rfl|refine ⟨?_, ?_⟩|((refine wrapA ?_ ?_ ?_);(focus simp;done);(focus (try dsimp only);omega);(focus (try dsimp only);omega))|fail)))⟩, ?_⟩
  rintro ⟨i, hi⟩
  (try conv=>whnf);repeat' (first|(apply And.intro<;>try conv=>whnf)|(intro h;first|(with_reducible first|exact tf0 h|exact ft0 h|exact nt0 h|exact nf0 h)|exact litz h rfl|(with_reducible first|exact tf h (by assumption)|exact tf (by assumption) h)|try conv=>whnf)|with_reducible rfl|apply True.intro|((first|apply infoT|apply bleI|apply fitI|apply cellsI|apply szI);rfl)|(apply guardI;kernel_rfl)|(apply WhenQ.mk;(try conv=>whnf);rotate_left;(try conv=>whnf);rotate_right)|(with_reducible first|assumption|(apply not_of;assumption)|(apply left_of;assumption)|(apply left_of;apply left_of;assumption)|(apply and_of<;>first|assumption|(apply not_of;assumption)))|(refine lin_plan (by kernel_rfl) ?_;try conv=>whnf)|(refine ⟨_, _, rfl, idx_map (by with_reducible assumption), rfl, ?_⟩;try conv=>whnf)|(refine ⟨rfl, ?_⟩;try conv=>whnf)|exact Nat.le_refl 1|((first|(apply ex3;(focus with_reducible assumption);(focus with_reducible assumption))|(apply ex2;(focus with_reducible assumption)));try conv=>whnf)|fail)
  · have hi' : i < (comp f).length := by simpa using h
    have hn : (comp f)[i]? = some (comp f)[i] := List.getElem?_eq_getElem hi'
    have hok := comp_okl f i _ hn
    have htk := orN_take (m := fragN) hi'
    have hbt : orN fragN ((comp f).take i) < 2 ^ 9 := orN_lt fun x hx => by obtain ⟨k, hk⟩ := okl_mem (comp_okl f) (List.mem_of_mem_take hx); exact fb x k hk
    have hbx := fb _ _ hok
    generalize (comp f)[i] = x at hn hok htk hbx
    have hfr := ref_Frag x.op hok.op
    rw [(fragN_lt hok).2] at hfr
    (try conv=>whnf);repeat' (first|(apply And.intro<;>try conv=>whnf)|(intro h;first|(with_reducible first|exact tf0 h|exact ft0 h|exact nt0 h|exact nf0 h)|exact litz h rfl|(with_reducible first|exact tf h (by assumption)|exact tf (by assumption) h)|try conv=>whnf)|with_reducible rfl|apply True.intro|((first|apply infoT|apply bleI|apply fitI|apply cellsI|apply szI);rfl)|(apply guardI;kernel_rfl)|(apply WhenQ.mk;(try conv=>whnf);rotate_left;(try conv=>whnf);rotate_right)|(with_reducible first|assumption|(apply not_of;assumption)|(apply left_of;assumption)|(apply left_of;apply left_of;assumption)|(apply and_of<;>first|assumption|(apply not_of;assumption)))|(refine lin_plan (by kernel_rfl) ?_;try conv=>whnf)|(refine ⟨_, _, rfl, idx_map (by with_reducible assumption), rfl, ?_⟩;try conv=>whnf)|(refine ⟨rfl, ?_⟩;try conv=>whnf)|exact Nat.le_refl 1|((first|(apply ex3;(focus with_reducible assumption);(focus with_reducible assumption))|(apply ex2;(focus with_reducible assumption)));try conv=>whnf)|(refine PureFn.dcq (f := 133) rfl ?_;try conv=>whnf)|((refine ⟨_, _, hfr, ?_, ?_⟩);(focus (first|(refine ⟨?_, trivial⟩<;>first|exact PLe.refl _|exact PLe.nil)|exact trivial));try conv=>whnf)|(refine ⟨_, (by (conv=>whnf);exact hfr), rfl, ?_⟩;try conv=>whnf)|fail)
    refine ⟨⟨i + 1, hi'⟩, by show (comp f).length - (i + 1) < (comp f).length - i; omega, ?_⟩
    (refine Wk.of ?_ ?_ rfl rfl rfl<;>(repeat' (first|exact trivial|exact WkD.same _|exact WkO.same _ _ rfl|exact WkD.any _|(apply WkD.nil;first|exact Or.inl rfl|exact Or.inr rfl)|(exact WkD.fz _ _ _ rfl (Or.inl ⟨_, rfl⟩) rfl)|(exact WkD.fz _ _ _ rfl (Or.inr rfl) rfl)|refine WkD.int ?_|exact WkD.new' rfl rfl rfl|exact WkO.new _ _ rfl|refine WkO.vars rfl ?_|with_reducible rfl|exact rfl|refine ⟨?_, ?_⟩|((refine wrapA ?_ ?_ ?_);(focus simp;done);(focus (try dsimp only);omega);(focus (try dsimp only);omega))|fail)))
    exact le_or (up hbt) (up hbx) (by rw [htk])
  · have hi' : i = (comp f).length := by simp at *; omega
    subst hi'
    exact le_int (by rw [List.take_length]; rfl)
theorem ref_Facts (f : List Nd) : PureFn Try.prog 135 [fpv f] (.int .i64 (facts f)) := by
  refine PureFn.intro mixed (fn := Try.f135) rfl rfl rfl fun M w0 => ?_
  have hlen := comp_len f
  (try conv=>whnf);repeat' (first|(apply And.intro<;>try conv=>whnf)|(intro h;first|(with_reducible first|exact tf0 h|exact ft0 h|exact nt0 h|exact nf0 h)|exact litz h rfl|(with_reducible first|exact tf h (by assumption)|exact tf (by assumption) h)|try conv=>whnf)|with_reducible rfl|apply True.intro|((first|apply infoT|apply bleI|apply fitI|apply cellsI|apply szI);rfl)|(apply guardI;kernel_rfl)|(apply WhenQ.mk;(try conv=>whnf);rotate_left;(try conv=>whnf);rotate_right)|(with_reducible first|assumption|(apply not_of;assumption)|(apply left_of;assumption)|(apply left_of;apply left_of;assumption)|(apply and_of<;>first|assumption|(apply not_of;assumption)))|(refine lin_plan (by kernel_rfl) ?_;try conv=>whnf)|(refine ⟨_, _, rfl, idx_map (by with_reducible assumption), rfl, ?_⟩;try conv=>whnf)|(refine ⟨rfl, ?_⟩;try conv=>whnf)|exact Nat.le_refl 1|((first|(apply ex3;(focus with_reducible assumption);(focus with_reducible assumption))|(apply ex2;(focus with_reducible assumption)));try conv=>whnf)|(refine PureFn.dcq (f := 132) rfl ?_;try conv=>whnf)|((refine ⟨_, _, ref_Compact ?_, ?_, ?_⟩);rotate_left 1;(focus (first|(refine ⟨?_, trivial⟩<;>first|exact PLe.refl _|exact PLe.nil)|exact trivial));try conv=>whnf)|(refine ⟨_, (by (conv=>whnf);exact ref_Compact _), rfl, ?_⟩;try conv=>whnf)|fail)
  refine ⟨{ i : Nat // i ≤ (comp f).length }, fun i => [(3, .pv (fpv (comp f))), (4, .pv (.int .i64 (orN factN ((comp f).take i.1) : Nat))), (5, .pv (.int .i64 (i.1 : Nat)))], fun _ => 0,
    fun i => [], fun i => (comp f).length - i.1, ⟨⟨0, Nat.zero_le _⟩, (by refine Wk.of ?_ ?_ rfl rfl rfl<;>(repeat' (first|exact trivial|exact WkD.same _|exact WkO.same _ _ rfl|exact WkD.any _|(apply WkD.nil;first|exact Or.inl rfl|exact Or.inr rfl)|(exact WkD.fz _ _ _ rfl (Or.inl ⟨_, rfl⟩) rfl)|(exact WkD.fz _ _ _ rfl (Or.inr rfl) rfl)|refine WkD.int ?_|exact WkD.new' rfl rfl rfl|exact WkO.new _ _ rfl|refine WkO.vars rfl ?_|with_reducible rfl|exact rfl|refine ⟨?_, ?_⟩|((refine wrapA ?_ ?_ ?_);(focus simp;done);(focus (try dsimp only);omega);(focus (try dsimp only);omega))|fail)))⟩, ?_⟩
  rintro ⟨i, hi⟩
  (try conv=>whnf);repeat' (first|(apply And.intro<;>try conv=>whnf)|(intro h;first|(with_reducible first|exact tf0 h|exact ft0 h|exact nt0 h|exact nf0 h)|exact litz h rfl|(with_reducible first|exact tf h (by assumption)|exact tf (by assumption) h)|try conv=>whnf)|with_reducible rfl|apply True.intro|((first|apply infoT|apply bleI|apply fitI|apply cellsI|apply szI);rfl)|(apply guardI;kernel_rfl)|(apply WhenQ.mk;(try conv=>whnf);rotate_left;(try conv=>whnf);rotate_right)|(with_reducible first|assumption|(apply not_of;assumption)|(apply left_of;assumption)|(apply left_of;apply left_of;assumption)|(apply and_of<;>first|assumption|(apply not_of;assumption)))|(refine lin_plan (by kernel_rfl) ?_;try conv=>whnf)|(refine ⟨_, _, rfl, idx_map (by with_reducible assumption), rfl, ?_⟩;try conv=>whnf)|(refine ⟨rfl, ?_⟩;try conv=>whnf)|exact Nat.le_refl 1|((first|(apply ex3;(focus with_reducible assumption);(focus with_reducible assumption))|(apply ex2;(focus with_reducible assumption)));try conv=>whnf)|fail)
  · have hi' : i < (comp f).length := by simpa using h
    have hn : (comp f)[i]? = some (comp f)[i] := List.getElem?_eq_getElem hi'
    have hok := comp_okl f i _ hn
    have htk := orN_take (m := factN) hi'
    have hbt : orN factN ((comp f).take i) < 2 ^ 9 := orN_lt fun x hx => by obtain ⟨k, hk⟩ := okl_mem (comp_okl f) (List.mem_of_mem_take hx); exact tb x k hk
    have hbx := tb _ _ hok
    generalize (comp f)[i] = x at hn hok htk hbx
    (try conv=>whnf);repeat' (first|(apply And.intro<;>try conv=>whnf)|(intro h;first|(with_reducible first|exact tf0 h|exact ft0 h|exact nt0 h|exact nf0 h)|exact litz h rfl|(with_reducible first|exact tf h (by assumption)|exact tf (by assumption) h)|try conv=>whnf)|with_reducible rfl|apply True.intro|((first|apply infoT|apply bleI|apply fitI|apply cellsI|apply szI);rfl)|(apply guardI;kernel_rfl)|(apply WhenQ.mk;(try conv=>whnf);rotate_left;(try conv=>whnf);rotate_right)|(with_reducible first|assumption|(apply not_of;assumption)|(apply left_of;assumption)|(apply left_of;apply left_of;assumption)|(apply and_of<;>first|assumption|(apply not_of;assumption)))|(refine lin_plan (by kernel_rfl) ?_;try conv=>whnf)|(refine ⟨_, _, rfl, idx_map (by with_reducible assumption), rfl, ?_⟩;try conv=>whnf)|(refine ⟨rfl, ?_⟩;try conv=>whnf)|exact Nat.le_refl 1|((first|(apply ex3;(focus with_reducible assumption);(focus with_reducible assumption))|(apply ex2;(focus with_reducible assumption)));try conv=>whnf)|fail)
    · have := hok.fact (by simpa using h)
      exact this.1
    · have hf := hok.fact (by simpa using h)
      have e : shl64 1 x.i = (factN x : Int) := by rw [shl64_one hf.1 (by omega), factN, h]; rfl
      refine ⟨⟨i + 1, hi'⟩, by show (comp f).length - (i + 1) < (comp f).length - i; omega, ?_⟩
      (refine Wk.of ?_ ?_ rfl rfl rfl<;>(repeat' (first|exact trivial|exact WkD.same _|exact WkO.same _ _ rfl|exact WkD.any _|(apply WkD.nil;first|exact Or.inl rfl|exact Or.inr rfl)|(exact WkD.fz _ _ _ rfl (Or.inl ⟨_, rfl⟩) rfl)|(exact WkD.fz _ _ _ rfl (Or.inr rfl) rfl)|refine WkD.int ?_|exact WkD.new' rfl rfl rfl|exact WkO.new _ _ rfl|refine WkO.vars rfl ?_|with_reducible rfl|exact rfl|refine ⟨?_, ?_⟩|((refine wrapA ?_ ?_ ?_);(focus simp;done);(focus (try dsimp only);omega);(focus (try dsimp only);omega))|fail)))
      exact (congrArg (or64 _) e).trans (le_or (up hbt) (up hbx) (by rw [htk]))
    · have e : factN x = 0 := by rw [factN, h]; rfl
      rw [e, Nat.or_zero] at htk
      refine ⟨⟨i + 1, hi'⟩, by show (comp f).length - (i + 1) < (comp f).length - i; omega, ?_⟩
      (refine Wk.of ?_ ?_ rfl rfl rfl<;>(repeat' (first|exact trivial|exact WkD.same _|exact WkO.same _ _ rfl|exact WkD.any _|(apply WkD.nil;first|exact Or.inl rfl|exact Or.inr rfl)|(exact WkD.fz _ _ _ rfl (Or.inl ⟨_, rfl⟩) rfl)|(exact WkD.fz _ _ _ rfl (Or.inr rfl) rfl)|refine WkD.int ?_|exact WkD.new' rfl rfl rfl|exact WkO.new _ _ rfl|refine WkO.vars rfl ?_|with_reducible rfl|exact rfl|refine ⟨?_, ?_⟩|((refine wrapA ?_ ?_ ?_);(focus simp;done);(focus (try dsimp only);omega);(focus (try dsimp only);omega))|fail)))
      exact congrArg Int.ofNat htk.symm
  · have hi' : i = (comp f).length := by simp at *; omega
    subst hi'
    exact le_int (by rw [List.take_length]; rfl)
theorem ref_Agents (f : List Nd) : PureFn Try.prog 134 [fpv f] (.int .i64 (agents f)) := by
  refine PureFn.intro mixed (fn := Try.f134) rfl rfl rfl fun M w0 => ?_
  have hlen := comp_len f
  (try conv=>whnf);repeat' (first|(apply And.intro<;>try conv=>whnf)|(intro h;first|(with_reducible first|exact tf0 h|exact ft0 h|exact nt0 h|exact nf0 h)|exact litz h rfl|(with_reducible first|exact tf h (by assumption)|exact tf (by assumption) h)|try conv=>whnf)|with_reducible rfl|apply True.intro|((first|apply infoT|apply bleI|apply fitI|apply cellsI|apply szI);rfl)|(apply guardI;kernel_rfl)|(apply WhenQ.mk;(try conv=>whnf);rotate_left;(try conv=>whnf);rotate_right)|(with_reducible first|assumption|(apply not_of;assumption)|(apply left_of;assumption)|(apply left_of;apply left_of;assumption)|(apply and_of<;>first|assumption|(apply not_of;assumption)))|(refine lin_plan (by kernel_rfl) ?_;try conv=>whnf)|(refine ⟨_, _, rfl, idx_map (by with_reducible assumption), rfl, ?_⟩;try conv=>whnf)|(refine ⟨rfl, ?_⟩;try conv=>whnf)|exact Nat.le_refl 1|((first|(apply ex3;(focus with_reducible assumption);(focus with_reducible assumption))|(apply ex2;(focus with_reducible assumption)));try conv=>whnf)|(refine PureFn.dcq (f := 132) rfl ?_;try conv=>whnf)|((refine ⟨_, _, ref_Compact ?_, ?_, ?_⟩);rotate_left 1;(focus (first|(refine ⟨?_, trivial⟩<;>first|exact PLe.refl _|exact PLe.nil)|exact trivial));try conv=>whnf)|(refine ⟨_, (by (conv=>whnf);exact ref_Compact _), rfl, ?_⟩;try conv=>whnf)|fail)
  refine ⟨{ i : Nat // i ≤ (comp f).length }, fun i => [(3, .pv (fpv (comp f))), (4, .pv (.int .i64 (orN agN ((comp f).take i.1) : Nat))), (5, .pv (.int .i64 (i.1 : Nat)))], fun _ => 0,
    fun i => [], fun i => (comp f).length - i.1, ⟨⟨0, Nat.zero_le _⟩, (by refine Wk.of ?_ ?_ rfl rfl rfl<;>(repeat' (first|exact trivial|exact WkD.same _|exact WkO.same _ _ rfl|exact WkD.any _|(apply WkD.nil;first|exact Or.inl rfl|exact Or.inr rfl)|(exact WkD.fz _ _ _ rfl (Or.inl ⟨_, rfl⟩) rfl)|(exact WkD.fz _ _ _ rfl (Or.inr rfl) rfl)|refine WkD.int ?_|exact WkD.new' rfl rfl rfl|exact WkO.new _ _ rfl|refine WkO.vars rfl ?_|with_reducible rfl|exact rfl|refine ⟨?_, ?_⟩|((refine wrapA ?_ ?_ ?_);(focus simp;done);(focus (try dsimp only);omega);(focus (try dsimp only);omega))|fail)))⟩, ?_⟩
  rintro ⟨i, hi⟩
  (try conv=>whnf);repeat' (first|(apply And.intro<;>try conv=>whnf)|(intro h;first|(with_reducible first|exact tf0 h|exact ft0 h|exact nt0 h|exact nf0 h)|exact litz h rfl|(with_reducible first|exact tf h (by assumption)|exact tf (by assumption) h)|try conv=>whnf)|with_reducible rfl|apply True.intro|((first|apply infoT|apply bleI|apply fitI|apply cellsI|apply szI);rfl)|(apply guardI;kernel_rfl)|(apply WhenQ.mk;(try conv=>whnf);rotate_left;(try conv=>whnf);rotate_right)|(with_reducible first|assumption|(apply not_of;assumption)|(apply left_of;assumption)|(apply left_of;apply left_of;assumption)|(apply and_of<;>first|assumption|(apply not_of;assumption)))|(refine lin_plan (by kernel_rfl) ?_;try conv=>whnf)|(refine ⟨_, _, rfl, idx_map (by with_reducible assumption), rfl, ?_⟩;try conv=>whnf)|(refine ⟨rfl, ?_⟩;try conv=>whnf)|exact Nat.le_refl 1|((first|(apply ex3;(focus with_reducible assumption);(focus with_reducible assumption))|(apply ex2;(focus with_reducible assumption)));try conv=>whnf)|fail)
  · have hi' : i < (comp f).length := by simpa using h
    have hn : (comp f)[i]? = some (comp f)[i] := List.getElem?_eq_getElem hi'
    have hok := comp_okl f i _ hn
    have htk := orN_take (m := agN) hi'
    have hbt : orN agN ((comp f).take i) < 2 ^ 9 := orN_lt fun x hx => by obtain ⟨k, hk⟩ := okl_mem (comp_okl f) (List.mem_of_mem_take hx); exact ab x k hk
    have hbx := ab _ _ hok
    generalize (comp f)[i] = x at hn hok htk hbx
    (try conv=>whnf);repeat' (first|(apply And.intro<;>try conv=>whnf)|(intro h;first|(with_reducible first|exact tf0 h|exact ft0 h|exact nt0 h|exact nf0 h)|exact litz h rfl|(with_reducible first|exact tf h (by assumption)|exact tf (by assumption) h)|try conv=>whnf)|with_reducible rfl|apply True.intro|((first|apply infoT|apply bleI|apply fitI|apply cellsI|apply szI);rfl)|(apply guardI;kernel_rfl)|(apply WhenQ.mk;(try conv=>whnf);rotate_left;(try conv=>whnf);rotate_right)|(with_reducible first|assumption|(apply not_of;assumption)|(apply left_of;assumption)|(apply left_of;apply left_of;assumption)|(apply and_of<;>first|assumption|(apply not_of;assumption)))|(refine lin_plan (by kernel_rfl) ?_;try conv=>whnf)|(refine ⟨_, _, rfl, idx_map (by with_reducible assumption), rfl, ?_⟩;try conv=>whnf)|(refine ⟨rfl, ?_⟩;try conv=>whnf)|exact Nat.le_refl 1|((first|(apply ex3;(focus with_reducible assumption);(focus with_reducible assumption))|(apply ex2;(focus with_reducible assumption)));try conv=>whnf)|(refine PureFn.dcq (f := 138) rfl ?_;try conv=>whnf)|((refine ⟨_, _, ref_agent ?_, ?_, ?_⟩);rotate_left 1;(focus (first|(refine ⟨?_, trivial⟩<;>first|exact PLe.refl _|exact PLe.nil)|exact trivial));try conv=>whnf)|(refine ⟨_, (by (conv=>whnf);exact ref_agent _), rfl, ?_⟩;try conv=>whnf)|fail)
    · have := hok.agent h
      exact this.1
    · have hf := hok.agent h
      have e : shl64 1 x.i = (agN x : Int) := by rw [shl64_one hf.1 (by omega), agN, h]; rfl
      have e2 : x.g = ((0 : Nat) : Int) := hok.nog (by unfold isAgent at h; unfold isGroup; simp at h ⊢; omega)
      refine ⟨⟨i + 1, hi'⟩, by show (comp f).length - (i + 1) < (comp f).length - i; omega, ?_⟩
      (refine Wk.of ?_ ?_ rfl rfl rfl<;>(repeat' (first|exact trivial|exact WkD.same _|exact WkO.same _ _ rfl|exact WkD.any _|(apply WkD.nil;first|exact Or.inl rfl|exact Or.inr rfl)|(exact WkD.fz _ _ _ rfl (Or.inl ⟨_, rfl⟩) rfl)|(exact WkD.fz _ _ _ rfl (Or.inr rfl) rfl)|refine WkD.int ?_|exact WkD.new' rfl rfl rfl|exact WkO.new _ _ rfl|refine WkO.vars rfl ?_|with_reducible rfl|exact rfl|refine ⟨?_, ?_⟩|((refine wrapA ?_ ?_ ?_);(focus simp;done);(focus (try dsimp only);omega);(focus (try dsimp only);omega))|fail)))
      refine (congrArg (fun z => or64 (or64 _ z) x.g) e).trans ?_
      refine (congrArg (fun z => or64 z x.g) (le_or (up hbt) (up hbx) rfl)).trans ?_
      rw [e2]
      refine le_or (Nat.or_lt_two_pow (up hbt) (up hbx)) (by decide) ?_
      rw [Nat.or_zero]; exact congrArg Int.ofNat htk
    · have e : x.g = (agN x : Int) := by
        rw [agN, h]
        show x.g = (x.g.toNat : Int)
        cases hg : isGroup x.op with
        | true => have := hok.group hg; omega
        | false => have := hok.nog hg; omega
      refine ⟨⟨i + 1, hi'⟩, by show (comp f).length - (i + 1) < (comp f).length - i; omega, ?_⟩
      (refine Wk.of ?_ ?_ rfl rfl rfl<;>(repeat' (first|exact trivial|exact WkD.same _|exact WkO.same _ _ rfl|exact WkD.any _|(apply WkD.nil;first|exact Or.inl rfl|exact Or.inr rfl)|(exact WkD.fz _ _ _ rfl (Or.inl ⟨_, rfl⟩) rfl)|(exact WkD.fz _ _ _ rfl (Or.inr rfl) rfl)|refine WkD.int ?_|exact WkD.new' rfl rfl rfl|exact WkO.new _ _ rfl|refine WkO.vars rfl ?_|with_reducible rfl|exact rfl|refine ⟨?_, ?_⟩|((refine wrapA ?_ ?_ ?_);(focus simp;done);(focus (try dsimp only);omega);(focus (try dsimp only);omega))|fail)))
      exact (congrArg (or64 _) e).trans (le_or (up hbt) (up hbx) (by rw [htk]))
  · have hi' : i = (comp f).length := by simp at *; omega
    subst hi'
    exact le_int (by rw [List.take_length]; rfl)
end Go.Proofs.Ytnbnkgcjgfmlcaa
set_option maxRecDepth 100000
set_option maxHeartbeats 4000000
namespace Go.Proofs.Ytnbnkgcjgfmlcaa
open Go Go.Dv

def belowB (mask n : Int) : Bool := bif decide (n ≥ 31) then true else shr64 mask (max n 0) == 0
def fits (f : List Nd) (a n : Int) : Bool := bif bif check f == 0 then belowB (agents f) a else false then belowB (facts f) n else false

theorem below_iff {mask k : Nat} (hm : mask < 2 ^ k) (hk : k ≤ 31) (n : Int) : belowB mask n = true ↔ ∀ j : Nat, j < k → (mask >>> j) % 2 = 1 → (j : Int) < n := by
  unfold belowB
  by_cases hn : n ≥ 31
  · simp only [hn, decide_true, cond_true, true_iff]
    intro j hj _; omega
  · have e : decide (n ≥ 31) = false := by simpa using hn
    rw [e, cond_false]
    obtain ⟨m, hmm⟩ : ∃ m : Nat, max n 0 = (m : Int) := ⟨(max n 0).toNat, by omega⟩
    rw [hmm, shr64_nat _ _ (by omega)]
    have e2 : (((mask >>> m : Nat) : Int) == 0) = true ↔ mask >>> m = 0 := by rw [beq_iff_eq]; exact Int.natCast_eq_zero
    rw [e2]
    have tb : ∀ j, (mask >>> j) % 2 = 1 ↔ mask.testBit j = true := by
      intro j; rw [Nat.testBit_eq_decide_div_mod_eq, Nat.shiftRight_eq_div_pow]; simp
    constructor
    · intro h0 j _ hb
      rcases Nat.lt_or_ge j m with h | h
      · omega
      · have : mask >>> j = 0 := by rw [show j = m + (j - m) by omega, Nat.shiftRight_add, h0, Nat.zero_shiftRight]
        rw [this] at hb; simp at hb
    · intro h
      refine Nat.eq_of_testBit_eq fun i => ?_
      rw [Nat.testBit_shiftRight, Nat.zero_testBit]
      rcases Nat.lt_or_ge (m + i) k with hlt | hge
      · cases hb : mask.testBit (m + i) with
        | false => rfl
        | true => have := h (m + i) hlt ((tb _).2 hb); omega
      · exact Nat.testBit_lt_two_pow (Nat.lt_of_lt_of_le hm (Nat.pow_le_pow_right (by decide) hge))

theorem fm_below (mask n : Int) : PureFn Try.prog 111 [.int .i64 mask, .int .i64 n] (.bool (belowB mask n)) := by
  refine PureFn.intro mixed (fn := Try.f111) rfl rfl rfl fun M w0 => ?_
  (try conv=>whnf);repeat' (first|(apply And.intro<;>try conv=>whnf)|(intro h;first|(with_reducible first|exact tf0 h|exact ft0 h|exact nt0 h|exact nf0 h)|exact litz h rfl|(with_reducible first|exact tf h (by assumption)|exact tf (by assumption) h)|try conv=>whnf)|with_reducible rfl|apply True.intro|((first|apply infoT|apply bleI|apply fitI|apply cellsI|apply szI);rfl)|(apply guardI;kernel_rfl)|(apply WhenQ.mk;(try conv=>whnf);rotate_left;(try conv=>whnf);rotate_right)|(with_reducible first|assumption|(apply not_of;assumption)|(apply left_of;assumption)|(apply left_of;apply left_of;assumption)|(apply and_of<;>first|assumption|(apply not_of;assumption)))|(refine lin_plan (by kernel_rfl) ?_;try conv=>whnf)|(refine ⟨_, _, rfl, idx_map (by with_reducible assumption), rfl, ?_⟩;try conv=>whnf)|(refine ⟨rfl, ?_⟩;try conv=>whnf)|exact Nat.le_refl 1|((first|(apply ex3;(focus with_reducible assumption);(focus with_reducible assumption))|(apply ex2;(focus with_reducible assumption)));try conv=>whnf)|fail)
  · show 0 ≤ max n 0
    omega
  · exact .refl _
theorem fm_Fits (f : List Nd) (a n : Int) : PureFn Try.prog 96 [fpv f, .int .i64 a, .int .i64 n] (.bool (fits f a n)) := by
  refine PureFn.intro mixed (fn := Try.f96) rfl rfl rfl fun M w0 => ?_
  (try conv=>whnf);repeat' (first|(apply And.intro<;>try conv=>whnf)|(intro h;first|(with_reducible first|exact tf0 h|exact ft0 h|exact nt0 h|exact nf0 h)|exact litz h rfl|(with_reducible first|exact tf h (by assumption)|exact tf (by assumption) h)|try conv=>whnf)|with_reducible rfl|apply True.intro|((first|apply infoT|apply bleI|apply fitI|apply cellsI|apply szI);rfl)|(apply guardI;kernel_rfl)|(apply WhenQ.mk;(try conv=>whnf);rotate_left;(try conv=>whnf);rotate_right)|(with_reducible first|assumption|(apply not_of;assumption)|(apply left_of;assumption)|(apply left_of;apply left_of;assumption)|(apply and_of<;>first|assumption|(apply not_of;assumption)))|(refine lin_plan (by kernel_rfl) ?_;try conv=>whnf)|(refine ⟨_, _, rfl, idx_map (by with_reducible assumption), rfl, ?_⟩;try conv=>whnf)|(refine ⟨rfl, ?_⟩;try conv=>whnf)|exact Nat.le_refl 1|((first|(apply ex3;(focus with_reducible assumption);(focus with_reducible assumption))|(apply ex2;(focus with_reducible assumption)));try conv=>whnf)|(refine PureFn.dcq (f := 90) rfl ?_;try conv=>whnf)|(refine PureFn.dcq (f := 112) rfl ?_;try conv=>whnf)|(refine PureFn.dcq (f := 113) rfl ?_;try conv=>whnf)|(refine PureFn.dcq (f := 111) rfl ?_;try conv=>whnf)|((refine ⟨_, _, fm_Check ?_, ?_, ?_⟩);rotate_left 1;(focus (first|(refine ⟨?_, trivial⟩<;>first|exact PLe.refl _|exact PLe.nil)|exact trivial));try conv=>whnf)|(refine ⟨_, (by (conv=>whnf);exact fm_Check _), rfl, ?_⟩;try conv=>whnf)|((refine ⟨_, _, fm_Agents ?_, ?_, ?_⟩);rotate_left 1;(focus (first|(refine ⟨?_, trivial⟩<;>first|exact PLe.refl _|exact PLe.nil)|exact trivial));try conv=>whnf)|(refine ⟨_, (by (conv=>whnf);exact fm_Agents _), rfl, ?_⟩;try conv=>whnf)|((refine ⟨_, _, fm_Facts ?_, ?_, ?_⟩);rotate_left 1;(focus (first|(refine ⟨?_, trivial⟩<;>first|exact PLe.refl _|exact PLe.nil)|exact trivial));try conv=>whnf)|(refine ⟨_, (by (conv=>whnf);exact fm_Facts _), rfl, ?_⟩;try conv=>whnf)|((refine ⟨_, _, fm_below ?_ ?_, ?_, ?_⟩);rotate_left 2;(focus (first|(refine ⟨?_, ?_, trivial⟩<;>first|exact PLe.refl _|exact PLe.nil)|exact trivial));try conv=>whnf)|(refine ⟨_, (by (conv=>whnf);exact fm_below _ _), rfl, ?_⟩;try conv=>whnf)|fail)
  exact .refl _
theorem bit_test {m i : Nat} {a : Int} (hi : i < 31) : (bif (shr64 (m : Int) (i : Int)).tmod 2 == 1 then decide ((i : Int) ≥ a) else false) = decide ((m >>> i) % 2 = 1 ∧ ¬ (i : Int) < a) := by
  rw [shr64_nat _ _ (by omega)]
  have e : (((m >>> i : Nat) : Int).tmod 2 == 1) = decide ((m >>> i) % 2 = 1) := by
    rw [Int.tmod_eq_emod_of_nonneg (Int.natCast_nonneg _), Bool.eq_iff_iff]
    rw [beq_iff_eq, decide_eq_true_iff, show (((m >>> i : Nat) : Int) % 2) = ((m >>> i % 2 : Nat) : Int) from rfl]
    omega
  rw [e]
  cases h : decide ((m >>> i) % 2 = 1) <;> simp_all
theorem ref_Fits (f : List Nd) (a n : Int) : PureFn Try.prog 129 [fpv f, .int .i64 a, .int .i64 n] (.bool (fits f a n)) := by
  refine PureFn.intro mixed (fn := Try.f129) rfl rfl rfl fun M w0 => ?_
  (try conv=>whnf);repeat' (first|(apply And.intro<;>try conv=>whnf)|(intro h;first|(with_reducible first|exact tf0 h|exact ft0 h|exact nt0 h|exact nf0 h)|exact litz h rfl|(with_reducible first|exact tf h (by assumption)|exact tf (by assumption) h)|try conv=>whnf)|with_reducible rfl|apply True.intro|((first|apply infoT|apply bleI|apply fitI|apply cellsI|apply szI);rfl)|(apply guardI;kernel_rfl)|(apply WhenQ.mk;(try conv=>whnf);rotate_left;(try conv=>whnf);rotate_right)|(with_reducible first|assumption|(apply not_of;assumption)|(apply left_of;assumption)|(apply left_of;apply left_of;assumption)|(apply and_of<;>first|assumption|(apply not_of;assumption)))|(refine lin_plan (by kernel_rfl) ?_;try conv=>whnf)|(refine ⟨_, _, rfl, idx_map (by with_reducible assumption), rfl, ?_⟩;try conv=>whnf)|(refine ⟨rfl, ?_⟩;try conv=>whnf)|exact Nat.le_refl 1|((first|(apply ex3;(focus with_reducible assumption);(focus with_reducible assumption))|(apply ex2;(focus with_reducible assumption)));try conv=>whnf)|(refine PureFn.dcq (f := 127) rfl ?_;try conv=>whnf)|((refine ⟨_, _, ref_Check ?_, ?_, ?_⟩);rotate_left 1;(focus (first|(refine ⟨?_, trivial⟩<;>first|exact PLe.refl _|exact PLe.nil)|exact trivial));try conv=>whnf)|(refine ⟨_, (by (conv=>whnf);exact ref_Check _), rfl, ?_⟩;try conv=>whnf)|fail)
  · have hc : (check f == 0) = false := by simpa [bne] using h
    exact le_bool (by rw [fits, hc]; rfl)
  · have hc : (check f == 0) = true := by simpa [bne] using h
    have fe : fits f a n = (belowB (agents f) a && belowB (facts f) n) := by rw [fits, hc]; cases belowB (agents f) a <;> rfl
    have ba := below_iff (agents_lt f) (by decide) a
    have bn := below_iff (facts_lt f) (by decide) n
    refine ⟨{ i : Nat // i ≤ 4 ∧ ∀ j : Nat, j < i → (agents f >>> j) % 2 = 1 → (j : Int) < a }, fun i => [(0, .pv (fpv f)), (1, .pv (.int .i64 a)), (2, .pv (.int .i64 n)), (7, .pv (.int .i64 (i.1 : Nat)))], fun _ => 0,
      fun i => [], fun i => 4 - i.1, ⟨⟨0, Nat.zero_le _, fun j hj => absurd hj (Nat.not_lt_zero j)⟩, (by refine Wk.of ?_ ?_ rfl rfl rfl<;>(repeat' (first|exact trivial|exact WkD.same _|exact WkO.same _ _ rfl|exact WkD.any _|(apply WkD.nil;first|exact Or.inl rfl|exact Or.inr rfl)|(exact WkD.fz _ _ _ rfl (Or.inl ⟨_, rfl⟩) rfl)|(exact WkD.fz _ _ _ rfl (Or.inr rfl) rfl)|refine WkD.int ?_|exact WkD.new' rfl rfl rfl|exact WkO.new _ _ rfl|refine WkO.vars rfl ?_|with_reducible rfl|exact rfl|refine ⟨?_, ?_⟩|((refine wrapA ?_ ?_ ?_);(focus simp;done);(focus (try dsimp only);omega);(focus (try dsimp only);omega))|fail)))⟩, ?_⟩
    rintro ⟨i, hi, hinv⟩
    (try conv=>whnf);repeat' (first|(apply And.intro<;>try conv=>whnf)|(intro h;first|(with_reducible first|exact tf0 h|exact ft0 h|exact nt0 h|exact nf0 h)|exact litz h rfl|(with_reducible first|exact tf h (by assumption)|exact tf (by assumption) h)|try conv=>whnf)|with_reducible rfl|apply True.intro|((first|apply infoT|apply bleI|apply fitI|apply cellsI|apply szI);rfl)|(apply guardI;kernel_rfl)|(apply WhenQ.mk;(try conv=>whnf);rotate_left;(try conv=>whnf);rotate_right)|(with_reducible first|assumption|(apply not_of;assumption)|(apply left_of;assumption)|(apply left_of;apply left_of;assumption)|(apply and_of<;>first|assumption|(apply not_of;assumption)))|(refine lin_plan (by kernel_rfl) ?_;try conv=>whnf)|(refine ⟨_, _, rfl, idx_map (by with_reducible assumption), rfl, ?_⟩;try conv=>whnf)|(refine ⟨rfl, ?_⟩;try conv=>whnf)|exact Nat.le_refl 1|((first|(apply ex3;(focus with_reducible assumption);(focus with_reducible assumption))|(apply ex2;(focus with_reducible assumption)));try conv=>whnf)|(refine PureFn.dcq (f := 134) rfl ?_;try conv=>whnf)|((refine ⟨_, _, ref_Agents ?_, ?_, ?_⟩);rotate_left 1;(focus (first|(refine ⟨?_, trivial⟩<;>first|exact PLe.refl _|exact PLe.nil)|exact trivial));try conv=>whnf)|(refine ⟨_, (by (conv=>whnf);exact ref_Agents _), rfl, ?_⟩;try conv=>whnf)|fail)
    · have hi' : i < 4 := by simp at h; omega
      exact Int.natCast_nonneg i
    · rename_i hlt
      have hi' : i < 4 := by simp at hlt; omega
      have h2 := (bit_test (m := agents f) (i := i) (a := a) (by omega)).symm.trans h
      have h3 := of_decide_eq_true h2
      refine le_bool ?_
      cases hb : belowB (agents f) a with
      | false => rw [fe, hb]; rfl
      | true => exact absurd (ba.1 hb i hi' h3.1) h3.2
    · rename_i hlt
      have hi' : i < 4 := by simp at hlt; omega
      have h2 := (bit_test (m := agents f) (i := i) (a := a) (by omega)).symm.trans h
      have h3 := of_decide_eq_false h2
      refine ⟨⟨i + 1, hi', fun j hj hb => ?_⟩, by show 4 - (i + 1) < 4 - i; omega, (by refine Wk.of ?_ ?_ rfl rfl rfl<;>(repeat' (first|exact trivial|exact WkD.same _|exact WkO.same _ _ rfl|exact WkD.any _|(apply WkD.nil;first|exact Or.inl rfl|exact Or.inr rfl)|(exact WkD.fz _ _ _ rfl (Or.inl ⟨_, rfl⟩) rfl)|(exact WkD.fz _ _ _ rfl (Or.inr rfl) rfl)|refine WkD.int ?_|exact WkD.new' rfl rfl rfl|exact WkO.new _ _ rfl|refine WkO.vars rfl ?_|with_reducible rfl|exact rfl|refine ⟨?_, ?_⟩|((refine wrapA ?_ ?_ ?_);(focus simp;done);(focus (try dsimp only);omega);(focus (try dsimp only);omega))|fail)))⟩
      by_cases e : j = i
      · subst e
        by_cases hh : (j : Int) < a
        · exact hh
        · exact absurd ⟨hb, hh⟩ h3
      · exact hinv j (by omega) hb
    · have hi' : i = 4 := by simp at *; omega
      subst hi'
      have hA : belowB (agents f) a = true := ba.2 hinv
      rw [hA, Bool.true_and] at fe
      refine ⟨{ i : Nat // i ≤ 8 ∧ ∀ j : Nat, j < i → (facts f >>> j) % 2 = 1 → (j : Int) < n }, fun i => [(0, .pv (fpv f)), (1, .pv (.int .i64 a)), (2, .pv (.int .i64 n)), (8, .pv (.int .i64 (i.1 : Nat)))], fun _ => 0,
        fun i => [], fun i => 8 - i.1, ⟨⟨0, Nat.zero_le _, fun j hj => absurd hj (Nat.not_lt_zero j)⟩, (by refine Wk.of ?_ ?_ rfl rfl rfl<;>(repeat' (first|exact trivial|exact WkD.same _|exact WkO.same _ _ rfl|exact WkD.any _|(apply WkD.nil;first|exact Or.inl rfl|exact Or.inr rfl)|(exact WkD.fz _ _ _ rfl (Or.inl ⟨_, rfl⟩) rfl)|(exact WkD.fz _ _ _ rfl (Or.inr rfl) rfl)|refine WkD.int ?_|exact WkD.new' rfl rfl rfl|exact WkO.new _ _ rfl|refine WkO.vars rfl ?_|with_reducible rfl|exact rfl|refine ⟨?_, ?_⟩|((refine wrapA ?_ ?_ ?_);(focus simp;done);(focus (try dsimp only);omega);(focus (try dsimp only);omega))|fail)))⟩, ?_⟩
      rintro ⟨i, hi, hinv⟩
      (try conv=>whnf);repeat' (first|(apply And.intro<;>try conv=>whnf)|(intro h;first|(with_reducible first|exact tf0 h|exact ft0 h|exact nt0 h|exact nf0 h)|exact litz h rfl|(with_reducible first|exact tf h (by assumption)|exact tf (by assumption) h)|try conv=>whnf)|with_reducible rfl|apply True.intro|((first|apply infoT|apply bleI|apply fitI|apply cellsI|apply szI);rfl)|(apply guardI;kernel_rfl)|(apply WhenQ.mk;(try conv=>whnf);rotate_left;(try conv=>whnf);rotate_right)|(with_reducible first|assumption|(apply not_of;assumption)|(apply left_of;assumption)|(apply left_of;apply left_of;assumption)|(apply and_of<;>first|assumption|(apply not_of;assumption)))|(refine lin_plan (by kernel_rfl) ?_;try conv=>whnf)|(refine ⟨_, _, rfl, idx_map (by with_reducible assumption), rfl, ?_⟩;try conv=>whnf)|(refine ⟨rfl, ?_⟩;try conv=>whnf)|exact Nat.le_refl 1|((first|(apply ex3;(focus with_reducible assumption);(focus with_reducible assumption))|(apply ex2;(focus with_reducible assumption)));try conv=>whnf)|(refine PureFn.dcq (f := 135) rfl ?_;try conv=>whnf)|((refine ⟨_, _, ref_Facts ?_, ?_, ?_⟩);rotate_left 1;(focus (first|(refine ⟨?_, trivial⟩<;>first|exact PLe.refl _|exact PLe.nil)|exact trivial));try conv=>whnf)|(refine ⟨_, (by (conv=>whnf);exact ref_Facts _), rfl, ?_⟩;try conv=>whnf)|fail)
      · exact Int.natCast_nonneg i
      · rename_i hlt
        have hi' : i < 8 := by simp at hlt; omega
        have h2 := (bit_test (m := facts f) (i := i) (a := n) (by omega)).symm.trans h
        have h3 := of_decide_eq_true h2
        refine le_bool ?_
        cases hb : belowB (facts f) n with
        | false => rw [fe, hb]
        | true => exact absurd (bn.1 hb i hi' h3.1) h3.2
      · rename_i hlt
        have hi' : i < 8 := by simp at hlt; omega
        have h2 := (bit_test (m := facts f) (i := i) (a := n) (by omega)).symm.trans h
        have h3 := of_decide_eq_false h2
        refine ⟨⟨i + 1, hi', fun j hj hb => ?_⟩, by show 8 - (i + 1) < 8 - i; omega, (by refine Wk.of ?_ ?_ rfl rfl rfl<;>(repeat' (first|exact trivial|exact WkD.same _|exact WkO.same _ _ rfl|exact WkD.any _|(apply WkD.nil;first|exact Or.inl rfl|exact Or.inr rfl)|(exact WkD.fz _ _ _ rfl (Or.inl ⟨_, rfl⟩) rfl)|(exact WkD.fz _ _ _ rfl (Or.inr rfl) rfl)|refine WkD.int ?_|exact WkD.new' rfl rfl rfl|exact WkO.new _ _ rfl|refine WkO.vars rfl ?_|with_reducible rfl|exact rfl|refine ⟨?_, ?_⟩|((refine wrapA ?_ ?_ ?_);(focus simp;done);(focus (try dsimp only);omega);(focus (try dsimp only);omega))|fail)))⟩
        by_cases e : j = i
        · subst e
          by_cases hh : (j : Int) < n
          · exact hh
          · exact absurd ⟨hb, hh⟩ h3
        · exact hinv j (by omega) hb
      · have hi' : i = 8 := by simp at *; omega
        subst hi'
        exact le_bool (by rw [fe, bn.2 hinv])
end Go.Proofs.Ytnbnkgcjgfmlcaa
set_option maxRecDepth 100000
set_option maxHeartbeats 4000000
namespace Go.Proofs.Ytnbnkgcjgfmlcaa
open Go Go.Dv

def shX (k : Nat) (n : Nd) : Nd := bif usesX n.op then { n with x := n.x + k } else n
def shN (k : Nat) (n : Nd) : Nd := bif usesY n.op then { shX k n with y := n.y + k } else shX k n
def bstep (k : Nat) (s : Nd × List Nd) (o : List Nd) : Nd × List Nd :=
  (bif (k : Int) == 0 then { s.1 with x := ((s.2 ++ (comp o).map (shN s.2.length)).length : Int) - 1 } else { s.1 with y := ((s.2 ++ (comp o).map (shN s.2.length)).length : Int) - 1 }, s.2 ++ (comp o).map (shN s.2.length))
def bfold : Nat → List (List Nd) → Nd × List Nd → Option (Nd × List Nd)
  | _, [], s => some s
  | k, o :: r, s => bif check o != 0 then none else bfold (k + 1) r (bstep k s o)
def bfin (s : Nd × List Nd) : List Nd :=
  bif nodeErr s.1 s.2.length != 0 then [] else bif decide (((canon (s.2 ++ [s.1]) s.2.length).length : Int) > 200) then [] else canon (s.2 ++ [s.1]) s.2.length
def buildL (x : Nd) (l : List (List Nd)) : List Nd := match bfold 0 l (x, []) with | none => [] | some s => bfin s

theorem shX_y (k : Nat) (n : Nd) : (shX k n).y = n.y := by unfold shX; cases usesX n.op <;> rfl
theorem sh_ok {n : Nd} {i : Int} {k : Nat} (h : OkNd n i) : OkNd (shN k n) (k + i) := by
  have e1 : (shN k n).op = n.op := by unfold shN shX; cases usesX n.op <;> cases usesY n.op <;> rfl
  have e2 : (shN k n).i = n.i := by unfold shN shX; cases usesX n.op <;> cases usesY n.op <;> rfl
  have e3 : (shN k n).e = n.e := by unfold shN shX; cases usesX n.op <;> cases usesY n.op <;> rfl
  have e4 : (shN k n).g = n.g := by unfold shN shX; cases usesX n.op <;> cases usesY n.op <;> rfl
  have e5 : (shN k n).x = bif usesX n.op then n.x + k else n.x := by unfold shN shX; cases usesX n.op <;> cases usesY n.op <;> rfl
  have e6 : (shN k n).y = bif usesY n.op then n.y + k else n.y := by unfold shN shX; cases usesX n.op <;> cases usesY n.op <;> rfl
  constructor
  · rw [e1]; exact h.op
  · rw [e1, e5]; intro u; rw [u]; have := h.x u; simp only [cond_true]; omega
  · rw [e1, e5]; intro u; rw [u]; exact h.nox u
  · rw [e1, e6]; intro u; rw [u]; have := h.y u; simp only [cond_true]; omega
  · rw [e1, e6]; intro u; rw [u]; exact h.noy u
  · rw [e1, e2]; exact h.fact
  · rw [e1, e2]; exact h.agent
  · rw [e1, e2, e3]; exact h.act
  · rw [e1, e2]; exact h.noi
  · rw [e1, e3]; exact h.noe
  · rw [e1, e4]; exact h.group
  · rw [e1, e4]; exact h.nog
theorem okl_append {F c : List Nd} (hF : Okl F) (hc : Okl c) : Okl (F ++ c.map (shN F.length)) := by
  intro i x hx
  rcases Nat.lt_or_ge i F.length with h | h
  · rw [List.getElem?_append_left h] at hx; exact hF i x hx
  · rw [List.getElem?_append_right h, List.getElem?_map] at hx
    cases hy : c[i - F.length]? with
    | none => rw [hy] at hx; simp at hx
    | some y =>
      rw [hy] at hx; simp at hx; subst hx
      have := sh_ok (k := F.length) (hc _ y hy)
      rwa [show ((F.length : Int) + ((i - F.length : Nat) : Int)) = (i : Int) by omega] at this
theorem okl_snoc {F : List Nd} {x : Nd} (hF : Okl F) (hx : OkNd x F.length) : Okl (F ++ [x]) := by
  intro i y hy
  rcases Nat.lt_or_ge i F.length with h | h
  · rw [List.getElem?_append_left h] at hy; exact hF i y hy
  · rw [List.getElem?_append_right h] at hy
    have : i = F.length := by
      have := (List.getElem?_eq_some_iff.1 hy).1
      simp at this; omega
    subst this
    simp at hy; subst hy; exact hx

def shL (F c : List Nd) (j : Nat) : List PV := F.map Nd.pv ++ (c.take j).map fun n => (shN F.length n).pv
theorem shL_zero (F c : List Nd) : F.map Nd.pv = shL F c 0 := by simp [shL]
theorem shL_succ {F c : List Nd} {j : Nat} (h : j < c.length) : shL F c j ++ [(shN F.length c[j]).pv] = shL F c (j + 1) := by
  simp only [shL]
  rw [List.take_succ_eq_append_getElem h, List.map_append, List.append_assoc]; rfl
theorem shL_end (F c : List Nd) : shL F c c.length = (F ++ c.map (shN F.length)).map Nd.pv := by
  simp [shL, List.map_append, List.map_map, Function.comp_def]
theorem shL_len {F c : List Nd} {j : Nat} (h : j ≤ c.length) : (shL F c j).length = F.length + j := by
  simp only [shL, List.length_append, List.length_map, List.length_take]; omega

theorem bstep_t {k : Nat} {y : Nd} {F o : List Nd} (h : ((k : Int) == 0) = true) : bstep k (y, F) o = ({ y with x := ((F ++ (comp o).map (shN F.length)).length : Int) - 1 }, F ++ (comp o).map (shN F.length)) := by rw [bstep, h]; rfl
theorem bstep_f {k : Nat} {y : Nd} {F o : List Nd} (h : ((k : Int) == 0) = false) : bstep k (y, F) o = ({ y with y := ((F ++ (comp o).map (shN F.length)).length : Int) - 1 }, F ++ (comp o).map (shN F.length)) := by rw [bstep, h]; rfl
theorem fm_build (x : Nd) (l : List (List Nd)) (hl : l.length ≤ 2) : PureFn Try.prog 62 [x.pv, .sl (l.map fpv)] (fpv (buildL x l)) := by
  refine PureFn.introC [14, 16] mixed (fn := Try.f62) rfl rfl rfl fun M w0 => ?_
  (try conv=>whnf);repeat' (first|(apply And.intro<;>try conv=>whnf)|(intro h;first|(with_reducible first|exact tf0 h|exact ft0 h|exact nt0 h|exact nf0 h)|exact litz h rfl|(with_reducible first|exact tf h (by assumption)|exact tf (by assumption) h)|try conv=>whnf)|with_reducible rfl|apply True.intro|((first|apply infoT|apply bleI|apply fitI|apply cellsI|apply szI);rfl)|(apply guardI;kernel_rfl)|(apply WhenQ.mk;(try conv=>whnf);rotate_left;(try conv=>whnf);rotate_right)|(with_reducible first|assumption|(apply not_of;assumption)|(apply left_of;assumption)|(apply left_of;apply left_of;assumption)|(apply and_of<;>first|assumption|(apply not_of;assumption)))|(refine lin_plan (by kernel_rfl) ?_;try conv=>whnf)|(refine ⟨_, _, rfl, idx_map (by with_reducible assumption), rfl, ?_⟩;try conv=>whnf)|(refine ⟨rfl, ?_⟩;try conv=>whnf)|exact Nat.le_refl 1|((first|(apply ex3;(focus with_reducible assumption);(focus with_reducible assumption))|(apply ex2;(focus with_reducible assumption)));try conv=>whnf)|fail)
  refine ⟨{ q : Nat × Nd × List Nd // q.1 ≤ l.length ∧ bfold 0 l (x, []) = bfold q.1 (l.drop q.1) q.2 ∧ Okl q.2.2 ∧ q.2.2.length ≤ 200 * q.1 },
    fun q => [(2, .ref 0 0), (5, .buf 1 (q.1.2.2.map Nd.pv).length), (14, .pv (.sl (l.map fpv))), (15, .pv (.int .i64 (l.map fpv).length)), (16, .pv (.int .i64 (q.1.1 : Nat)))], fun _ => 2,
    fun q => [(0, .var q.1.2.1.dvs), (1, .arr 6 (q.1.2.2.map Nd.pv))], fun q => l.length - q.1.1, ⟨⟨(0, x, []), Nat.zero_le _, rfl, (fun i x h => by simp at h), Nat.zero_le _⟩, (by refine Wk.of ?_ ?_ rfl rfl rfl<;>(repeat' (first|exact trivial|exact WkD.same _|exact WkO.same _ _ rfl|exact WkD.any _|(apply WkD.nil;first|exact Or.inl rfl|exact Or.inr rfl)|(exact WkD.fz _ _ _ rfl (Or.inl ⟨_, rfl⟩) rfl)|(exact WkD.fz _ _ _ rfl (Or.inr rfl) rfl)|refine WkD.int ?_|exact WkD.new' rfl rfl rfl|exact WkO.new _ _ rfl|refine WkO.vars rfl ?_|with_reducible rfl|exact rfl|refine ⟨?_, ?_⟩|((refine wrapA ?_ ?_ ?_);(focus simp;done);(focus (try dsimp only);omega);(focus (try dsimp only);omega))|fail)))⟩, ?_⟩
  rintro ⟨⟨k, y, F⟩, hk, he, hF, hFl⟩
  simp only at hk he hF hFl
  (try conv=>whnf);repeat' (first|(apply And.intro<;>try conv=>whnf)|(intro h;first|(with_reducible first|exact tf0 h|exact ft0 h|exact nt0 h|exact nf0 h)|exact litz h rfl|(with_reducible first|exact tf h (by assumption)|exact tf (by assumption) h)|try conv=>whnf)|with_reducible rfl|apply True.intro|((first|apply infoT|apply bleI|apply fitI|apply cellsI|apply szI);rfl)|(apply guardI;kernel_rfl)|(apply WhenQ.mk;(try conv=>whnf);rotate_left;(try conv=>whnf);rotate_right)|(with_reducible first|assumption|(apply not_of;assumption)|(apply left_of;assumption)|(apply left_of;apply left_of;assumption)|(apply and_of<;>first|assumption|(apply not_of;assumption)))|(refine lin_plan (by kernel_rfl) ?_;try conv=>whnf)|(refine ⟨_, _, rfl, idx_map (by with_reducible assumption), rfl, ?_⟩;try conv=>whnf)|(refine ⟨rfl, ?_⟩;try conv=>whnf)|exact Nat.le_refl 1|((first|(apply ex3;(focus with_reducible assumption);(focus with_reducible assumption))|(apply ex2;(focus with_reducible assumption)));try conv=>whnf)|fail)
  · have hk' : k < l.length := by simpa using h
    obtain ⟨o, ho⟩ : ∃ o, l[k]? = some o := ⟨_, List.getElem?_eq_getElem hk'⟩
    have hd : l.drop k = o :: l.drop (k + 1) := by
      rw [List.drop_eq_getElem_cons hk']
      rw [List.getElem?_eq_getElem hk'] at ho
      rw [Option.some.inj ho]
    rw [hd] at he
    have hol := comp_len o
    (try conv=>whnf);repeat' (first|(apply And.intro<;>try conv=>whnf)|(intro h;first|(with_reducible first|exact tf0 h|exact ft0 h|exact nt0 h|exact nf0 h)|exact litz h rfl|(with_reducible first|exact tf h (by assumption)|exact tf (by assumption) h)|try conv=>whnf)|with_reducible rfl|apply True.intro|((first|apply infoT|apply bleI|apply fitI|apply cellsI|apply szI);rfl)|(apply guardI;kernel_rfl)|(apply WhenQ.mk;(try conv=>whnf);rotate_left;(try conv=>whnf);rotate_right)|(with_reducible first|assumption|(apply not_of;assumption)|(apply left_of;assumption)|(apply left_of;apply left_of;assumption)|(apply and_of<;>first|assumption|(apply not_of;assumption)))|(refine lin_plan (by kernel_rfl) ?_;try conv=>whnf)|(refine ⟨_, _, rfl, idx_map (by with_reducible assumption), rfl, ?_⟩;try conv=>whnf)|(refine ⟨rfl, ?_⟩;try conv=>whnf)|exact Nat.le_refl 1|((first|(apply ex3;(focus with_reducible assumption);(focus with_reducible assumption))|(apply ex2;(focus with_reducible assumption)));try conv=>whnf)|(refine PureFn.dcq (f := 90) rfl ?_;try conv=>whnf)|(refine PureFn.dcq (f := 74) rfl ?_;try conv=>whnf)|((refine ⟨_, _, fm_Check ?_, ?_, ?_⟩);rotate_left 1;(focus (first|(refine ⟨?_, trivial⟩<;>first|exact PLe.refl _|exact PLe.nil)|exact trivial));try conv=>whnf)|(refine ⟨_, (by (conv=>whnf);exact fm_Check _), rfl, ?_⟩;try conv=>whnf)|((refine ⟨_, _, fm_Compact ?_, ?_, ?_⟩);rotate_left 1;(focus (first|(refine ⟨?_, trivial⟩<;>first|exact PLe.refl _|exact PLe.nil)|exact trivial));try conv=>whnf)|(refine ⟨_, (by (conv=>whnf);exact fm_Compact _), rfl, ?_⟩;try conv=>whnf)|fail)
    · have hb : bfold 0 l (x, []) = none := by rw [he]; simp only [bfold, h]; rfl
      have : buildL x l = [] := by rw [buildL, hb]
      rw [this]; exact .nil
    · have hb : bfold 0 l (x, []) = bfold (k + 1) (l.drop (k + 1)) (bstep k (y, F) o) := by rw [he]; simp only [bfold, h]; rfl
      have hz := shL_zero F (comp o)
      refine ⟨{ j : Nat // j ≤ (comp o).length }, fun j => [(2, .ref 0 0), (5, .buf 1 (shL F (comp o) j.1).length), (6, .pv (.int .i64 (k : Nat))), (8, .pv (.int .i64 (F.map Nd.pv).length)), (14, .pv (.sl (l.map fpv))), (15, .pv (.int .i64 (l.map fpv).length)), (16, .pv (.int .i64 (k : Nat))), (27, .pv (fpv (comp o))), (28, .pv (.int .i64 ((comp o).map Nd.pv).length)), (29, .pv (.int .i64 (j.1 : Nat)))], fun _ => 2,
        fun j => [(0, .var y.dvs), (1, .arr 6 (shL F (comp o) j.1))], fun j => (comp o).length - j.1, ⟨⟨0, Nat.zero_le _⟩, (by refine Wk.of ?_ ?_ rfl rfl rfl<;>(repeat' (first|exact trivial|exact WkD.same _|exact WkO.same _ _ rfl|(exact WkD.eq (congrArg (fun z : List PV => DV.buf _ z.length) hz))|(exact WkO.same _ _ (congrArg (fun z => some (DObj.arr _ z)) hz))|exact WkD.any _|(apply WkD.nil;first|exact Or.inl rfl|exact Or.inr rfl)|(exact WkD.fz _ _ _ rfl (Or.inl ⟨_, rfl⟩) rfl)|(exact WkD.fz _ _ _ rfl (Or.inr rfl) rfl)|refine WkD.int ?_|exact WkD.new' rfl rfl rfl|exact WkO.new _ _ rfl|refine WkO.vars rfl ?_|with_reducible rfl|exact rfl|refine ⟨?_, ?_⟩|((refine wrapA ?_ ?_ ?_);(focus simp;done);(focus (try dsimp only);omega);(focus (try dsimp only);omega))|fail)))⟩, ?_⟩
      rintro ⟨j, hj⟩
      (try conv=>whnf);repeat' (first|(apply And.intro<;>try conv=>whnf)|(intro h;first|(with_reducible first|exact tf0 h|exact ft0 h|exact nt0 h|exact nf0 h)|exact litz h rfl|(with_reducible first|exact tf h (by assumption)|exact tf (by assumption) h)|try conv=>whnf)|with_reducible rfl|apply True.intro|((first|apply infoT|apply bleI|apply fitI|apply cellsI|apply szI);rfl)|(apply guardI;kernel_rfl)|(apply WhenQ.mk;(try conv=>whnf);rotate_left;(try conv=>whnf);rotate_right)|(with_reducible first|assumption|(apply not_of;assumption)|(apply left_of;assumption)|(apply left_of;apply left_of;assumption)|(apply and_of<;>first|assumption|(apply not_of;assumption)))|(refine lin_plan (by kernel_rfl) ?_;try conv=>whnf)|(refine ⟨_, _, rfl, idx_map (by with_reducible assumption), rfl, ?_⟩;try conv=>whnf)|(refine ⟨rfl, ?_⟩;try conv=>whnf)|exact Nat.le_refl 1|((first|(apply ex3;(focus with_reducible assumption);(focus with_reducible assumption))|(apply ex2;(focus with_reducible assumption)));try conv=>whnf)|fail)
      · have hj' : j < (comp o).length := by simpa using h
        have hn : (comp o)[j]? = some (comp o)[j] := List.getElem?_eq_getElem hj'
        have hs := shL_succ (F := F) hj'
        have hok := comp_okl o j _ hn
        generalize (comp o)[j] = n at hn hs hok
        (try conv=>whnf);repeat' (first|(apply And.intro<;>try conv=>whnf)|(intro h;first|(with_reducible first|exact tf0 h|exact ft0 h|exact nt0 h|exact nf0 h)|exact litz h rfl|(with_reducible first|exact tf h (by assumption)|exact tf (by assumption) h)|try conv=>whnf)|with_reducible rfl|apply True.intro|((first|apply infoT|apply bleI|apply fitI|apply cellsI|apply szI);rfl)|(apply guardI;kernel_rfl)|(apply WhenQ.mk;(try conv=>whnf);rotate_left;(try conv=>whnf);rotate_right)|(with_reducible first|assumption|(apply not_of;assumption)|(apply left_of;assumption)|(apply left_of;apply left_of;assumption)|(apply and_of<;>first|assumption|(apply not_of;assumption)))|(refine lin_plan (by kernel_rfl) ?_;try conv=>whnf)|(refine ⟨_, _, rfl, idx_map (by with_reducible assumption), rfl, ?_⟩;try conv=>whnf)|(refine ⟨rfl, ?_⟩;try conv=>whnf)|exact Nat.le_refl 1|((first|(apply ex3;(focus with_reducible assumption);(focus with_reducible assumption))|(apply ex2;(focus with_reducible assumption)));try conv=>whnf)|(refine PureFn.dcq (f := 91) rfl ?_;try conv=>whnf)|((refine ⟨_, _, fm_uses ?_, ?_, ?_⟩);rotate_left 1;(focus (first|(refine ⟨?_, trivial⟩<;>first|exact PLe.refl _|exact PLe.nil)|exact trivial));try conv=>whnf)|(refine ⟨_, (by (conv=>whnf);exact fm_uses _), rfl, ?_⟩;try conv=>whnf)|fail)
        refine ⟨{ z : Nd // z = shX F.length n }, fun z => [(2, .ref 0 0), (5, .buf 1 (shL F (comp o) j).length), (6, .pv (.int .i64 (k : Nat))), (8, .pv (.int .i64 (F.map Nd.pv).length)), (14, .pv (.sl (l.map fpv))), (15, .pv (.int .i64 (l.map fpv).length)), (16, .pv (.int .i64 (k : Nat))), (27, .pv (fpv (comp o))), (28, .pv (.int .i64 ((comp o).map Nd.pv).length)), (29, .pv (.int .i64 (j : Nat))), (10, .ref 2 0), (11, .ref 3 0)], fun _ => 4,
          fun z => [(0, .var y.dvs), (1, .arr 6 (shL F (comp o) j)), (2, .var z.1.dvs), (3, .var (usesDvs n.op))], ?_, ?_⟩
        · (try conv=>whnf);repeat' (first|(apply And.intro<;>try conv=>whnf)|(intro h;first|(with_reducible first|exact tf0 h|exact ft0 h|exact nt0 h|exact nf0 h)|exact litz h rfl|(with_reducible first|exact tf h (by assumption)|exact tf (by assumption) h)|try conv=>whnf)|with_reducible rfl|apply True.intro|((first|apply infoT|apply bleI|apply fitI|apply cellsI|apply szI);rfl)|(apply guardI;kernel_rfl)|(apply WhenQ.mk;(try conv=>whnf);rotate_left;(try conv=>whnf);rotate_right)|(with_reducible first|assumption|(apply not_of;assumption)|(apply left_of;assumption)|(apply left_of;apply left_of;assumption)|(apply and_of<;>first|assumption|(apply not_of;assumption)))|(refine lin_plan (by kernel_rfl) ?_;try conv=>whnf)|(refine ⟨_, _, rfl, idx_map (by with_reducible assumption), rfl, ?_⟩;try conv=>whnf)|(refine ⟨rfl, ?_⟩;try conv=>whnf)|exact Nat.le_refl 1|((first|(apply ex3;(focus with_reducible assumption);(focus with_reducible assumption))|(apply ex2;(focus with_reducible assumption)));try conv=>whnf)|fail)
          · have := hok.x h
            refine ⟨⟨{ n with x := n.x + F.length }, by rw [shX, h]; rfl⟩, ?_⟩
            (refine Wk.of ?_ ?_ rfl rfl rfl<;>(repeat' (first|exact trivial|exact WkD.same _|exact WkO.same _ _ rfl|exact WkD.any _|(apply WkD.nil;first|exact Or.inl rfl|exact Or.inr rfl)|(exact WkD.fz _ _ _ rfl (Or.inl ⟨_, rfl⟩) rfl)|(exact WkD.fz _ _ _ rfl (Or.inr rfl) rfl)|refine WkD.int ?_|exact WkD.new' rfl rfl rfl|exact WkO.new _ _ rfl|refine WkO.vars rfl ?_|with_reducible rfl|exact rfl|refine ⟨?_, ?_⟩|((refine wrapA ?_ ?_ ?_);(focus simp;done);(focus (try dsimp only);omega);(focus (try dsimp only);omega))|fail)))
            exact wrapA (by simp) (by rw [List.length_map]; omega) (by rw [List.length_map]; omega)
          · exact ⟨⟨n, by rw [shX, h]; rfl⟩, (by refine Wk.of ?_ ?_ rfl rfl rfl<;>(repeat' (first|exact trivial|exact WkD.same _|exact WkO.same _ _ rfl|exact WkD.any _|(apply WkD.nil;first|exact Or.inl rfl|exact Or.inr rfl)|(exact WkD.fz _ _ _ rfl (Or.inl ⟨_, rfl⟩) rfl)|(exact WkD.fz _ _ _ rfl (Or.inr rfl) rfl)|refine WkD.int ?_|exact WkD.new' rfl rfl rfl|exact WkO.new _ _ rfl|refine WkO.vars rfl ?_|with_reducible rfl|exact rfl|refine ⟨?_, ?_⟩|((refine wrapA ?_ ?_ ?_);(focus simp;done);(focus (try dsimp only);omega);(focus (try dsimp only);omega))|fail)))⟩
        · rintro ⟨z, rfl⟩
          (try conv=>whnf);repeat' (first|(apply And.intro<;>try conv=>whnf)|(intro h;first|(with_reducible first|exact tf0 h|exact ft0 h|exact nt0 h|exact nf0 h)|exact litz h rfl|(with_reducible first|exact tf h (by assumption)|exact tf (by assumption) h)|try conv=>whnf)|with_reducible rfl|apply True.intro|((first|apply infoT|apply bleI|apply fitI|apply cellsI|apply szI);rfl)|(apply guardI;kernel_rfl)|(apply WhenQ.mk;(try conv=>whnf);rotate_left;(try conv=>whnf);rotate_right)|(with_reducible first|assumption|(apply not_of;assumption)|(apply left_of;assumption)|(apply left_of;apply left_of;assumption)|(apply and_of<;>first|assumption|(apply not_of;assumption)))|(refine lin_plan (by kernel_rfl) ?_;try conv=>whnf)|(refine ⟨_, _, rfl, idx_map (by with_reducible assumption), rfl, ?_⟩;try conv=>whnf)|(refine ⟨rfl, ?_⟩;try conv=>whnf)|exact Nat.le_refl 1|((first|(apply ex3;(focus with_reducible assumption);(focus with_reducible assumption))|(apply ex2;(focus with_reducible assumption)));try conv=>whnf)|fail)
          refine ⟨{ z : Nd // z = shN F.length n }, fun z => [(2, .ref 0 0), (5, .buf 1 (shL F (comp o) j).length), (6, .pv (.int .i64 (k : Nat))), (8, .pv (.int .i64 (F.map Nd.pv).length)), (14, .pv (.sl (l.map fpv))), (15, .pv (.int .i64 (l.map fpv).length)), (16, .pv (.int .i64 (k : Nat))), (27, .pv (fpv (comp o))), (28, .pv (.int .i64 ((comp o).map Nd.pv).length)), (29, .pv (.int .i64 (j : Nat))), (10, .ref 2 0)], fun _ => 3,
            fun z => [(0, .var y.dvs), (1, .arr 6 (shL F (comp o) j)), (2, .var z.1.dvs)], ?_, ?_⟩
          · (try conv=>whnf);repeat' (first|(apply And.intro<;>try conv=>whnf)|(intro h;first|(with_reducible first|exact tf0 h|exact ft0 h|exact nt0 h|exact nf0 h)|exact litz h rfl|(with_reducible first|exact tf h (by assumption)|exact tf (by assumption) h)|try conv=>whnf)|with_reducible rfl|apply True.intro|((first|apply infoT|apply bleI|apply fitI|apply cellsI|apply szI);rfl)|(apply guardI;kernel_rfl)|(apply WhenQ.mk;(try conv=>whnf);rotate_left;(try conv=>whnf);rotate_right)|(with_reducible first|assumption|(apply not_of;assumption)|(apply left_of;assumption)|(apply left_of;apply left_of;assumption)|(apply and_of<;>first|assumption|(apply not_of;assumption)))|(refine lin_plan (by kernel_rfl) ?_;try conv=>whnf)|(refine ⟨_, _, rfl, idx_map (by with_reducible assumption), rfl, ?_⟩;try conv=>whnf)|(refine ⟨rfl, ?_⟩;try conv=>whnf)|exact Nat.le_refl 1|((first|(apply ex3;(focus with_reducible assumption);(focus with_reducible assumption))|(apply ex2;(focus with_reducible assumption)));try conv=>whnf)|fail)
            · have := hok.y h
              refine ⟨⟨{ shX F.length n with y := n.y + F.length }, by rw [shN, h]; rfl⟩, ?_⟩
              (refine Wk.of ?_ ?_ rfl rfl rfl<;>(repeat' (first|exact trivial|exact WkD.same _|exact WkO.same _ _ rfl|exact WkD.any _|(apply WkD.nil;first|exact Or.inl rfl|exact Or.inr rfl)|(exact WkD.fz _ _ _ rfl (Or.inl ⟨_, rfl⟩) rfl)|(exact WkD.fz _ _ _ rfl (Or.inr rfl) rfl)|refine WkD.int ?_|exact WkD.new' rfl rfl rfl|exact WkO.new _ _ rfl|refine WkO.vars rfl ?_|with_reducible rfl|exact rfl|refine ⟨?_, ?_⟩|((refine wrapA ?_ ?_ ?_);(focus simp;done);(focus (try dsimp only);omega);(focus (try dsimp only);omega))|fail)))
              refine (congrArg (fun v => IntKind.wrap .i64 (v + ((F.map Nd.pv).length : Int))) (shX_y F.length n)).trans ?_
              exact wrapA (by simp) (by rw [List.length_map]; omega) (by rw [List.length_map]; omega)
            · exact ⟨⟨shX F.length n, by rw [shN, h]; rfl⟩, (by refine Wk.of ?_ ?_ rfl rfl rfl<;>(repeat' (first|exact trivial|exact WkD.same _|exact WkO.same _ _ rfl|exact WkD.any _|(apply WkD.nil;first|exact Or.inl rfl|exact Or.inr rfl)|(exact WkD.fz _ _ _ rfl (Or.inl ⟨_, rfl⟩) rfl)|(exact WkD.fz _ _ _ rfl (Or.inr rfl) rfl)|refine WkD.int ?_|exact WkD.new' rfl rfl rfl|exact WkO.new _ _ rfl|refine WkO.vars rfl ?_|with_reducible rfl|exact rfl|refine ⟨?_, ?_⟩|((refine wrapA ?_ ?_ ?_);(focus simp;done);(focus (try dsimp only);omega);(focus (try dsimp only);omega))|fail)))⟩
          · rintro ⟨z, rfl⟩
            (try conv=>whnf);repeat' (first|(apply And.intro<;>try conv=>whnf)|(intro h;first|(with_reducible first|exact tf0 h|exact ft0 h|exact nt0 h|exact nf0 h)|exact litz h rfl|(with_reducible first|exact tf h (by assumption)|exact tf (by assumption) h)|try conv=>whnf)|with_reducible rfl|apply True.intro|((first|apply infoT|apply bleI|apply fitI|apply cellsI|apply szI);rfl)|(apply guardI;kernel_rfl)|(apply WhenQ.mk;(try conv=>whnf);rotate_left;(try conv=>whnf);rotate_right)|(with_reducible first|assumption|(apply not_of;assumption)|(apply left_of;assumption)|(apply left_of;apply left_of;assumption)|(apply and_of<;>first|assumption|(apply not_of;assumption)))|(refine lin_plan (by kernel_rfl) ?_;try conv=>whnf)|(refine ⟨_, _, rfl, idx_map (by with_reducible assumption), rfl, ?_⟩;try conv=>whnf)|(refine ⟨rfl, ?_⟩;try conv=>whnf)|exact Nat.le_refl 1|((first|(apply ex3;(focus with_reducible assumption);(focus with_reducible assumption))|(apply ex2;(focus with_reducible assumption)));try conv=>whnf)|fail)
            · show (shL F (comp o) j).length + 1 ≤ 4294967296
              rw [shL_len hj]; omega
            · exact ⟨⟨j + 1, hj'⟩, by show (comp o).length - (j + 1) < (comp o).length - j; omega, (by refine Wk.of ?_ ?_ rfl rfl rfl<;>(repeat' (first|exact trivial|exact WkD.same _|exact WkO.same _ _ rfl|(exact WkD.eq (congrArg (fun z : List PV => DV.buf _ z.length) hs))|(exact WkO.same _ _ (congrArg (fun z => some (DObj.arr _ z)) hs))|exact WkD.any _|(apply WkD.nil;first|exact Or.inl rfl|exact Or.inr rfl)|(exact WkD.fz _ _ _ rfl (Or.inl ⟨_, rfl⟩) rfl)|(exact WkD.fz _ _ _ rfl (Or.inr rfl) rfl)|refine WkD.int ?_|exact WkD.new' rfl rfl rfl|exact WkO.new _ _ rfl|refine WkO.vars rfl ?_|with_reducible rfl|exact rfl|refine ⟨?_, ?_⟩|((refine wrapA ?_ ?_ ?_);(focus simp;done);(focus (try dsimp only);omega);(focus (try dsimp only);omega))|fail)))⟩
      · have hs := bstep_t (y := y) (F := F) (o := o) h
        have hj' : j = (comp o).length := by simp at *; omega
        subst hj'
        have hse := shL_end F (comp o)
        rw [hs] at hb
        have hG := okl_append hF (comp_okl o)
        have hGl : (F ++ (comp o).map (shN F.length)).length ≤ 200 * (k + 1) := by rw [List.length_append, List.length_map]; omega
        generalize (F ++ (comp o).map (shN F.length)) = G at hse hb hG hGl
        have hGn : ((shL F (comp o) (comp o).length).length : Int) = G.length := by rw [hse, List.length_map]
        refine ⟨⟨(k + 1, { y with x := (G.length : Int) - 1 }, G), hk', hb, hG, hGl⟩, by show l.length - (k + 1) < l.length - k; omega, ?_⟩
        (refine Wk.of ?_ ?_ rfl rfl rfl<;>(repeat' (first|exact trivial|exact WkD.same _|exact WkO.same _ _ rfl|(exact WkD.eq (congrArg (fun z : List PV => DV.buf _ z.length) hse))|(exact WkO.same _ _ (congrArg (fun z => some (DObj.arr _ z)) hse))|exact WkD.any _|(apply WkD.nil;first|exact Or.inl rfl|exact Or.inr rfl)|(exact WkD.fz _ _ _ rfl (Or.inl ⟨_, rfl⟩) rfl)|(exact WkD.fz _ _ _ rfl (Or.inr rfl) rfl)|refine WkD.int ?_|exact WkD.new' rfl rfl rfl|exact WkO.new _ _ rfl|refine WkO.vars rfl ?_|with_reducible rfl|exact rfl|refine ⟨?_, ?_⟩|((refine wrapA ?_ ?_ ?_);(focus simp;done);(focus (try dsimp only);omega);(focus (try dsimp only);omega))|fail)))
        exact (congrArg (fun z : Int => IntKind.wrap .i64 (z - 1)) hGn).trans (wrapA rfl (by omega) (by omega))
      · have hs := bstep_f (y := y) (F := F) (o := o) h
        have hj' : j = (comp o).length := by simp at *; omega
        subst hj'
        have hse := shL_end F (comp o)
        rw [hs] at hb
        have hG := okl_append hF (comp_okl o)
        have hGl : (F ++ (comp o).map (shN F.length)).length ≤ 200 * (k + 1) := by rw [List.length_append, List.length_map]; omega
        generalize (F ++ (comp o).map (shN F.length)) = G at hse hb hG hGl
        have hGn : ((shL F (comp o) (comp o).length).length : Int) = G.length := by rw [hse, List.length_map]
        refine ⟨⟨(k + 1, { y with y := (G.length : Int) - 1 }, G), hk', hb, hG, hGl⟩, by show l.length - (k + 1) < l.length - k; omega, ?_⟩
        (refine Wk.of ?_ ?_ rfl rfl rfl<;>(repeat' (first|exact trivial|exact WkD.same _|exact WkO.same _ _ rfl|(exact WkD.eq (congrArg (fun z : List PV => DV.buf _ z.length) hse))|(exact WkO.same _ _ (congrArg (fun z => some (DObj.arr _ z)) hse))|exact WkD.any _|(apply WkD.nil;first|exact Or.inl rfl|exact Or.inr rfl)|(exact WkD.fz _ _ _ rfl (Or.inl ⟨_, rfl⟩) rfl)|(exact WkD.fz _ _ _ rfl (Or.inr rfl) rfl)|refine WkD.int ?_|exact WkD.new' rfl rfl rfl|exact WkO.new _ _ rfl|refine WkO.vars rfl ?_|with_reducible rfl|exact rfl|refine ⟨?_, ?_⟩|((refine wrapA ?_ ?_ ?_);(focus simp;done);(focus (try dsimp only);omega);(focus (try dsimp only);omega))|fail)))
        exact (congrArg (fun z : Int => IntKind.wrap .i64 (z - 1)) hGn).trans (wrapA rfl (by omega) (by omega))
  · have hk' : k = l.length := by simp at *; omega
    subst hk'
    rw [List.drop_length] at he
    have hbl : buildL x l = bfin (y, F) := by rw [buildL, he]; rfl
    rw [hbl]
    rw [bfin]
    simp only
    have hne := fm_nodeError y (F.map Nd.pv).length
    have hFl' : F.length ≤ 400 := by omega
    (try conv=>whnf);repeat' (first|(apply And.intro<;>try conv=>whnf)|(intro h;first|(with_reducible first|exact tf0 h|exact ft0 h|exact nt0 h|exact nf0 h)|exact litz h rfl|(with_reducible first|exact tf h (by assumption)|exact tf (by assumption) h)|try conv=>whnf)|with_reducible rfl|apply True.intro|((first|apply infoT|apply bleI|apply fitI|apply cellsI|apply szI);rfl)|(apply guardI;kernel_rfl)|(apply WhenQ.mk;(try conv=>whnf);rotate_left;(try conv=>whnf);rotate_right)|(with_reducible first|assumption|(apply not_of;assumption)|(apply left_of;assumption)|(apply left_of;apply left_of;assumption)|(apply and_of<;>first|assumption|(apply not_of;assumption)))|(refine lin_plan (by kernel_rfl) ?_;try conv=>whnf)|(refine ⟨_, _, rfl, idx_map (by with_reducible assumption), rfl, ?_⟩;try conv=>whnf)|(refine ⟨rfl, ?_⟩;try conv=>whnf)|exact Nat.le_refl 1|((first|(apply ex3;(focus with_reducible assumption);(focus with_reducible assumption))|(apply ex2;(focus with_reducible assumption)));try conv=>whnf)|(refine PureFn.dcq (f := 92) rfl ?_;try conv=>whnf)|((refine ⟨_, _, hne, ?_, ?_⟩);(focus (first|(refine ⟨?_, ?_, trivial⟩<;>first|exact PLe.refl _|exact PLe.nil)|exact trivial));try conv=>whnf)|(refine ⟨_, (by (conv=>whnf);exact hne), rfl, ?_⟩;try conv=>whnf)|fail)
    · rw [List.length_map] at h
      rw [h]; exact .nil
    · show (F.map Nd.pv).length + 1 ≤ 4294967296
      rw [List.length_map]; omega
    · rw [List.length_map] at h
      have hok : OkNd y F.length := nodeErr_ok.1 (by simpa using h)
      have hcp : PureFn Try.prog 93 [.sl (F.map Nd.pv ++ [y.pv]), .int .i64 ((F.map Nd.pv).length : Int)] (fpv (canon (F ++ [y]) F.length)) := by
        have := fm_compact (F ++ [y]) F.length (okl_snoc hF hok).wf (by simp) (by simp; omega)
        rw [show fpv (F ++ [y]) = .sl (F.map Nd.pv ++ [y.pv]) from congrArg PV.sl List.map_append] at this
        rw [List.length_map]; exact this
      rw [h]
      (try conv=>whnf);repeat' (first|(apply And.intro<;>try conv=>whnf)|(intro h;first|(with_reducible first|exact tf0 h|exact ft0 h|exact nt0 h|exact nf0 h)|exact litz h rfl|(with_reducible first|exact tf h (by assumption)|exact tf (by assumption) h)|try conv=>whnf)|with_reducible rfl|apply True.intro|((first|apply infoT|apply bleI|apply fitI|apply cellsI|apply szI);rfl)|(apply guardI;kernel_rfl)|(apply WhenQ.mk;(try conv=>whnf);rotate_left;(try conv=>whnf);rotate_right)|(with_reducible first|assumption|(apply not_of;assumption)|(apply left_of;assumption)|(apply left_of;apply left_of;assumption)|(apply and_of<;>first|assumption|(apply not_of;assumption)))|(refine lin_plan (by kernel_rfl) ?_;try conv=>whnf)|(refine ⟨_, _, rfl, idx_map (by with_reducible assumption), rfl, ?_⟩;try conv=>whnf)|(refine ⟨rfl, ?_⟩;try conv=>whnf)|exact Nat.le_refl 1|((first|(apply ex3;(focus with_reducible assumption);(focus with_reducible assumption))|(apply ex2;(focus with_reducible assumption)));try conv=>whnf)|(refine PureFn.dcq (f := 93) rfl ?_;try conv=>whnf)|((refine ⟨_, _, hcp, ?_, ?_⟩);(focus (first|(refine ⟨?_, ?_, trivial⟩<;>first|exact PLe.refl _|exact PLe.nil)|exact trivial));try conv=>whnf)|(refine ⟨_, (by (conv=>whnf);exact hcp), rfl, ?_⟩;try conv=>whnf)|fail)
      · rw [List.length_map] at h
        rw [h]; exact .nil
      · rw [List.length_map] at h
        rw [h]; exact .refl _
end Go.Proofs.Ytnbnkgcjgfmlcaa
set_option maxRecDepth 100000
set_option maxHeartbeats 4000000
namespace Go.Proofs.Ytnbnkgcjgfmlcaa
open Go Go.Dv

def n0 (op : Int) : Nd := ⟨op, 0, 0, 0, 0, 0⟩
def nI (op i : Int) : Nd := ⟨op, i, 0, 0, 0, 0⟩
theorem fm_Fact (i : Int) : PureFn Try.prog 23 [.int .i64 i] (fpv (buildL (nI 3 i) [])) := by
  refine PureFn.intro mixed (fn := Try.f23) rfl rfl rfl fun M w0 => ?_
  have hb := fm_build (nI 3 i) [] (by simp)
  (try conv=>whnf);repeat' (first|(apply And.intro<;>try conv=>whnf)|(intro h;first|(with_reducible first|exact tf0 h|exact ft0 h|exact nt0 h|exact nf0 h)|exact litz h rfl|(with_reducible first|exact tf h (by assumption)|exact tf (by assumption) h)|try conv=>whnf)|with_reducible rfl|apply True.intro|((first|apply infoT|apply bleI|apply fitI|apply cellsI|apply szI);rfl)|(apply guardI;kernel_rfl)|(apply WhenQ.mk;(try conv=>whnf);rotate_left;(try conv=>whnf);rotate_right)|(with_reducible first|assumption|(apply not_of;assumption)|(apply left_of;assumption)|(apply left_of;apply left_of;assumption)|(apply and_of<;>first|assumption|(apply not_of;assumption)))|(refine lin_plan (by kernel_rfl) ?_;try conv=>whnf)|(refine ⟨_, _, rfl, idx_map (by with_reducible assumption), rfl, ?_⟩;try conv=>whnf)|(refine ⟨rfl, ?_⟩;try conv=>whnf)|exact Nat.le_refl 1|((first|(apply ex3;(focus with_reducible assumption);(focus with_reducible assumption))|(apply ex2;(focus with_reducible assumption)));try conv=>whnf)|(refine PureFn.dcq (f := 62) rfl ?_;try conv=>whnf)|((refine ⟨_, _, hb, ?_, ?_⟩);(focus (first|(refine ⟨?_, ?_, trivial⟩<;>first|exact PLe.refl _|exact PLe.nil)|exact trivial));try conv=>whnf)|(refine ⟨_, (by (conv=>whnf);exact hb), rfl, ?_⟩;try conv=>whnf)|fail)
  exact .refl _
end Go.Proofs.Ytnbnkgcjgfmlcaa
namespace Go.Proofs.Ytnbnkgcjgfmlcaa
open Go Go.Dv

inductive Tr where
  | none
  | nd (op i e g : Int) (x y : Tr)
  deriving DecidableEq

/-- The tree of a node. -/
def trn (f : List Nd) : Nat → Nat → Tr
  | 0, _ => .none
  | n + 1, i => match f[i]? with
    | none => .none
    | some x => .nd x.op x.i x.e x.g (bif usesX x.op then trn f n x.x.toNat else .none) (bif usesY x.op then trn f n x.y.toNat else .none)
def tree (f : List Nd) (i : Nat) : Tr := trn f (i + 1) i
/-- The walk over a tree. -/
def finT : Tr → List Nd → Nat × List Nd
  | .none, out => (0, out)
  | .nd op i e g a b, out => putN (finT b (finT a out).2).2 ⟨op, i, e, g, ((finT a out).1 : Int), ((finT b (finT a out).2).1 : Int)⟩
def Tr.size : Tr → Nat
  | .none => 0
  | .nd _ _ _ _ a b => a.size + b.size + 1

theorem trn_fuel {f : List Nd} (hf : Okl f) : ∀ (n m i : Nat), i < n → i < m → trn f n i = trn f m i
  | 0, _, i, h, _ => by omega
  | _ + 1, 0, i, _, h => by omega
  | n + 1, m + 1, i, hn, hm => by
    simp only [trn]
    cases hx : f[i]? with
    | none => rfl
    | some x =>
      have ok := hf i x hx
      simp only
      have e1 : (bif usesX x.op then trn f n x.x.toNat else .none) = (bif usesX x.op then trn f m x.x.toNat else .none) := by
        cases hu : usesX x.op with
        | false => rfl
        | true => have := ok.x hu; exact trn_fuel hf n m x.x.toNat (by omega) (by omega)
      have e2 : (bif usesY x.op then trn f n x.y.toNat else .none) = (bif usesY x.op then trn f m x.y.toNat else .none) := by
        cases hu : usesY x.op with
        | false => rfl
        | true => have := ok.y hu; exact trn_fuel hf n m x.y.toNat (by omega) (by omega)
      rw [e1, e2]
theorem trn_succ {f : List Nd} {n i : Nat} {x : Nd} (hx : f[i]? = some x) : trn f (n + 1) i = .nd x.op x.i x.e x.g (bif usesX x.op then trn f n x.x.toNat else .none) (bif usesY x.op then trn f n x.y.toNat else .none) := by
  simp only [trn, hx]
theorem tree_nd {f : List Nd} (hf : Okl f) {i : Nat} {x : Nd} (hx : f[i]? = some x) :
    tree f i = .nd x.op x.i x.e x.g (bif usesX x.op then tree f x.x.toNat else .none) (bif usesY x.op then tree f x.y.toNat else .none) := by
  have ok := hf i x hx
  have e0 : tree f i = _ := trn_succ (n := i) hx
  rw [e0]
  unfold tree
  have e1 : (bif usesX x.op then trn f i x.x.toNat else .none) = (bif usesX x.op then trn f (x.x.toNat + 1) x.x.toNat else .none) := by
    cases hu : usesX x.op with
    | false => rfl
    | true => have := ok.x hu; exact trn_fuel hf _ _ _ (by omega) (by omega)
  have e2 : (bif usesY x.op then trn f i x.y.toNat else .none) = (bif usesY x.op then trn f (x.y.toNat + 1) x.y.toNat else .none) := by
    cases hu : usesY x.op with
    | false => rfl
    | true => have := ok.y hu; exact trn_fuel hf _ _ _ (by omega) (by omega)
  rw [e1, e2]
theorem trn_append (f t : List Nd) (hf : Okl f) : ∀ (n i : Nat), i < f.length → trn (f ++ t) n i = trn f n i
  | 0, _, _ => rfl
  | n + 1, i, hi => by
    simp only [trn]
    rw [List.getElem?_append_left hi, List.getElem?_eq_getElem hi]
    have ok := hf i _ (List.getElem?_eq_getElem hi)
    generalize f[i] = x at ok
    simp only
    have e1 : (bif usesX x.op then trn (f ++ t) n x.x.toNat else .none) = (bif usesX x.op then trn f n x.x.toNat else .none) := by
      cases hu : usesX x.op with
      | false => rfl
      | true => have := ok.x hu; exact trn_append f t hf n x.x.toNat (by omega)
    have e2 : (bif usesY x.op then trn (f ++ t) n x.y.toNat else .none) = (bif usesY x.op then trn f n x.y.toNat else .none) := by
      cases hu : usesY x.op with
      | false => rfl
      | true => have := ok.y hu; exact trn_append f t hf n x.y.toNat (by omega)
    rw [e1, e2]
theorem tree_append {f t : List Nd} (hf : Okl f) {i : Nat} (hi : i < f.length) : tree (f ++ t) i = tree f i := trn_append f t hf _ _ hi

theorem idx_none {x : Nd} : ∀ {out : List Nd} {i : Nat}, idx x out i = none ↔ x ∉ out
  | [], i => by simp [idx]
  | n :: r, i => by
    simp only [idx, List.mem_cons, not_or]
    by_cases e : n = x
    · rw [if_pos e]; subst e; simp
    · rw [if_neg e, idx_none]
      exact ⟨fun h => ⟨fun q => e q.symm, h⟩, fun h => h.2⟩
theorem idx_of {x : Nd} {out : List Nd} (hn : out.Nodup) {v : Nat} (hv : out[v]? = some x) : idx x out 0 = some v := by
  cases h : idx x out 0 with
  | none => exact absurd (List.mem_iff_getElem?.2 ⟨v, hv⟩) (idx_none.1 h)
  | some k =>
    have h2 := (idx_some h).2
    simp only [Nat.sub_zero] at h2
    obtain ⟨l1, e1⟩ := List.getElem?_eq_some_iff.1 h2
    obtain ⟨l2, e2⟩ := List.getElem?_eq_some_iff.1 hv
    rw [(List.getElem_inj hn).1 (e1.trans e2.symm)]
theorem putN_nodup {out : List Nd} {x : Nd} (hn : out.Nodup) : (putN out x).2.Nodup := by
  unfold putN
  cases h : idx x out 0 with
  | some k => exact hn
  | none =>
    have := idx_none.1 h
    simp only
    rw [List.nodup_append]
    refine ⟨hn, by simp, fun a ha b hb => ?_⟩
    simp at hb; subst hb
    intro e; subst e; exact this ha

/-- A tree that stands in a list already. -/
theorem finT_old {out : List Nd} (ho : Okl out) (hn : out.Nodup) : ∀ (t : Tr) (v : Nat), v < out.length → tree out v = t → finT t out = (v, out)
  | .none, v, hv, ht => by
    rw [tree_nd ho (List.getElem?_eq_getElem hv)] at ht
    cases ht
  | .nd op i e g a b, v, hv, ht => by
    have hx : out[v]? = some out[v] := List.getElem?_eq_getElem hv
    have ok := ho v _ hx
    rw [tree_nd ho hx] at ht
    generalize hxx : out[v] = x at hx ok ht
    simp only [Tr.nd.injEq] at ht
    obtain ⟨h1, h2, h3, h4, ha, hb⟩ := ht
    have fa : finT a out = (x.x.toNat, out) := by
      cases hu : usesX x.op with
      | false => rw [hu] at ha; subst ha; rw [ok.nox hu]; rfl
      | true =>
        rw [hu] at ha
        have := ok.x hu
        exact finT_old ho hn a x.x.toNat (by omega) ha
    have fb : finT b out = (x.y.toNat, out) := by
      cases hu : usesY x.op with
      | false => rw [hu] at hb; subst hb; rw [ok.noy hu]; rfl
      | true =>
        rw [hu] at hb
        have := ok.y hu
        exact finT_old ho hn b x.y.toNat (by omega) hb
    have hz : (⟨op, i, e, g, ((finT a out).1 : Int), ((finT b (finT a out).2).1 : Int)⟩ : Nd) = x := by
      rw [fa]; simp only; rw [fb]
      have p1 : 0 ≤ x.x := by cases hu : usesX x.op with
        | false => rw [ok.nox hu]; exact Int.le_refl 0
        | true => exact (ok.x hu).1
      have p2 : 0 ≤ x.y := by cases hu : usesY x.op with
        | false => rw [ok.noy hu]; exact Int.le_refl 0
        | true => exact (ok.y hu).1
      cases x
      simp only at h1 h2 h3 h4 p1 p2
      subst h1; subst h2; subst h3; subst h4
      simp only [Nd.mk.injEq, true_and]
      exact ⟨by omega, by omega⟩
    simp only [finT]
    rw [hz, fa]; simp only; rw [fb]; simp only
    rw [putN, idx_of hn hx]

structure InvT (f : List Nd) (s : List Nd × List (Nat × Nat)) : Prop where
  ok : Okl s.1
  nodup : s.1.Nodup
  ds : ∀ j v, look j s.2 = some v → v < s.1.length ∧ tree s.1 v = tree f j

structure FinTr (f : List Nd) (s t : List Nd × List (Nat × Nat)) (k : Nat) (T : Tr) : Prop where
  inv : InvT f t
  lt : k < t.1.length
  val : tree t.1 k = T
  ext : ∃ u, t.1 = s.1 ++ u
  eq : finT T s.1 = (k, t.1)

theorem fin_tree {f : List Nd} (hf : Okl f) : ∀ (n i : Nat) (s : List Nd × List (Nat × Nat)), i < n → i < f.length → InvT f s → FinTr f s (fin f n i s).2 (fin f n i s).1 (tree f i)
  | 0, i, s, h, _, _ => by omega
  | n + 1, i, s, hin, hif, hs => by
    cases hl : look i s.2 with
    | some k =>
      simp only [fin, hl]
      obtain ⟨h1, h2⟩ := hs.ds i k hl
      exact ⟨hs, h1, h2, ⟨[], by simp⟩, finT_old hs.ok hs.nodup _ k h1 h2⟩
    | none =>
      have hn : f[i]? = some f[i] := List.getElem?_eq_getElem hif
      generalize hx : f[i] = x at hn
      have hok := hf i x hn
      rw [fin_none hl hn, tree_nd hf hn]
      have hA : InvT f (opA f n x s).2 ∧ (usesX x.op = true → (opA f n x s).1 < (opA f n x s).2.1.length ∧ tree (opA f n x s).2.1 (opA f n x s).1 = tree f x.x.toNat) ∧ (∃ u, (opA f n x s).2.1 = s.1 ++ u) ∧
          finT (bif usesX x.op then tree f x.x.toNat else .none) s.1 = ((opA f n x s).1, (opA f n x s).2.1) := by
        unfold opA
        cases hu : usesX x.op with
        | false => exact ⟨hs, (fun h => by cases h), ⟨[], by simp⟩, rfl⟩
        | true =>
          have := hok.x hu
          have q := fin_tree hf n x.x.toNat s (by omega) (by omega) hs
          exact ⟨q.inv, fun _ => ⟨q.lt, q.val⟩, q.ext, q.eq⟩
      generalize opA f n x s = A at hA ⊢
      obtain ⟨a1, a2, ⟨ua, a3⟩, a4⟩ := hA
      have hB : InvT f (opB f n x A.2).2 ∧ (usesY x.op = true → (opB f n x A.2).1 < (opB f n x A.2).2.1.length ∧ tree (opB f n x A.2).2.1 (opB f n x A.2).1 = tree f x.y.toNat) ∧ (∃ u, (opB f n x A.2).2.1 = A.2.1 ++ u) ∧
          finT (bif usesY x.op then tree f x.y.toNat else .none) A.2.1 = ((opB f n x A.2).1, (opB f n x A.2).2.1) := by
        unfold opB
        cases hu : usesY x.op with
        | false => exact ⟨a1, (fun h => by cases h), ⟨[], by simp⟩, rfl⟩
        | true =>
          have := hok.y hu
          have q := fin_tree hf n x.y.toNat A.2 (by omega) (by omega) a1
          exact ⟨q.inv, fun _ => ⟨q.lt, q.val⟩, q.ext, q.eq⟩
      generalize opB f n x A.2 = B at hB ⊢
      obtain ⟨b1, b2, ⟨ub, b3⟩, b4⟩ := hB
      have hz : OkNd (ndZ x A.1 B.1) B.2.1.length := ndZ_ok hok (fun u => by have := (a2 u).1; rw [b3, List.length_append]; omega) (fun u => (b2 u).1)
      change FinTr f s ((putN B.2.1 (ndZ x A.1 B.1)).2, dput i (putN B.2.1 (ndZ x A.1 B.1)).1 B.2.2) (putN B.2.1 (ndZ x A.1 B.1)).1 _
      obtain ⟨p1, p2, t, p3, _⟩ := putN_spec B.2.1 (ndZ x A.1 B.1)
      have pok := putN_ok b1.ok hz
      have hval : tree (putN B.2.1 (ndZ x A.1 B.1)).2 (putN B.2.1 (ndZ x A.1 B.1)).1 = .nd x.op x.i x.e x.g (bif usesX x.op then tree f x.x.toNat else .none) (bif usesY x.op then tree f x.y.toNat else .none) := by
        rw [tree_nd pok p1, ndZ_op, ndZ_i, ndZ_e, ndZ_g, ndZ_x, ndZ_y]
        congr 1
        · cases hu : usesX x.op with
          | false => rfl
          | true =>
            have := a2 hu
            simp only [cond_true, Int.toNat_natCast]
            rw [p3, tree_append b1.ok (by rw [b3, List.length_append]; omega), b3, tree_append a1.ok this.1]
            exact this.2
        · cases hu : usesY x.op with
          | false => rfl
          | true =>
            have := b2 hu
            simp only [cond_true, Int.toNat_natCast]
            rw [p3, tree_append b1.ok this.1]
            exact this.2
      refine ⟨⟨pok, putN_nodup b1.nodup, fun j v hv => ?_⟩, p2, hval, ⟨ua ++ ub ++ t, by simp only; rw [p3, b3, a3]; simp [List.append_assoc]⟩, ?_⟩
      · simp only [look_dput] at hv
        by_cases e : j = i
        · rw [if_pos e] at hv; simp at hv; subst hv; subst e
          exact ⟨p2, by rw [tree_nd hf hn]; exact hval⟩
        · rw [if_neg e] at hv
          obtain ⟨g1, g2⟩ := b1.ds j v hv
          simp only
          refine ⟨by rw [p3, List.length_append]; omega, ?_⟩
          rw [p3, tree_append b1.ok g1]; exact g2
      · simp only [finT]
        rw [a4]; simp only; rw [b4]; simp only
        have e : (⟨x.op, x.i, x.e, x.g, (A.1 : Int), (B.1 : Int)⟩ : Nd) = ndZ x A.1 B.1 := by
          have q1 : usesX x.op = false → (A.1 : Int) = x.x := fun u => by
            rw [u] at a4
            have : A.1 = 0 := (congrArg Prod.fst a4).symm
            rw [this, hok.nox u]; rfl
          have q2 : usesY x.op = false → (B.1 : Int) = x.y := fun u => by
            rw [u] at b4
            have : B.1 = 0 := (congrArg Prod.fst b4).symm
            rw [this, hok.noy u]; rfl
          unfold ndZ ndB ndA
          cases u1 : usesX x.op <;> cases u2 : usesY x.op <;> cases x <;> simp_all
        rw [e]

theorem invT_nil (f : List Nd) : InvT f ([], []) := ⟨fun i x h => by simp at h, List.nodup_nil, fun j v h => by simp [look] at h⟩
theorem opA_tree {f : List Nd} (hf : Okl f) {n i : Nat} {x : Nd} (hx : f[i]? = some x) (hin : i < n + 1) (hif : i < f.length) {s : List Nd × List (Nat × Nat)} (hs : InvT f s) :
    InvT f (opA f n x s).2 ∧ (usesX x.op = true → FinTr f s (opA f n x s).2 (opA f n x s).1 (tree f x.x.toNat)) ∧ ∃ u, (opA f n x s).2.1 = s.1 ++ u := by
  have hok := hf i x hx
  unfold opA
  cases hu : usesX x.op with
  | false => exact ⟨hs, (fun h => by cases h), ⟨[], by simp⟩⟩
  | true =>
    have := hok.x hu
    have q := fin_tree hf n x.x.toNat s (by omega) (by omega) hs
    exact ⟨q.inv, fun _ => q, q.ext⟩
theorem opB_tree {f : List Nd} (hf : Okl f) {n i : Nat} {x : Nd} (hx : f[i]? = some x) (hin : i < n + 1) (hif : i < f.length) {s : List Nd × List (Nat × Nat)} (hs : InvT f s) :
    InvT f (opB f n x s).2 ∧ (usesY x.op = true → FinTr f s (opB f n x s).2 (opB f n x s).1 (tree f x.y.toNat)) ∧ ∃ u, (opB f n x s).2.1 = s.1 ++ u := by
  have hok := hf i x hx
  unfold opB
  cases hu : usesY x.op with
  | false => exact ⟨hs, (fun h => by cases h), ⟨[], by simp⟩⟩
  | true =>
    have := hok.y hu
    have q := fin_tree hf n x.y.toNat s (by omega) (by omega) hs
    exact ⟨q.inv, fun _ => q, q.ext⟩

/-- New nodes' trees are no greater than the root's; what stands ahead of the root's node is less. -/
theorem fin_size {f : List Nd} (hf : Okl f) : ∀ (n i : Nat) (s : List Nd × List (Nat × Nat)), i < n → i < f.length → InvT f s →
    ∀ v, s.1.length ≤ v → v < (fin f n i s).2.1.length → (tree (fin f n i s).2.1 v).size ≤ (tree f i).size ∧ (v ≠ (fin f n i s).1 → (tree (fin f n i s).2.1 v).size < (tree f i).size)
  | 0, i, s, h, _, _ => by omega
  | n + 1, i, s, hin, hif, hs => by
    intro v hv1 hv2
    have q := fin_tree hf (n + 1) i s hin hif hs
    cases hl : look i s.2 with
    | some k => simp only [fin, hl] at hv2; omega
    | none =>
      have hn : f[i]? = some f[i] := List.getElem?_eq_getElem hif
      generalize hx : f[i] = x at hn
      have hok := hf i x hn
      have hsz : (tree f i).size = (bif usesX x.op then tree f x.x.toNat else .none).size + (bif usesY x.op then tree f x.y.toNat else .none).size + 1 := by rw [tree_nd hf hn]; rfl
      obtain ⟨a1, a2, ua, a3⟩ := opA_tree hf hn hin hif hs
      obtain ⟨b1, b2, ub, b3⟩ := opB_tree hf hn hin hif a1
      have sA : ∀ v, s.1.length ≤ v → v < (opA f n x s).2.1.length → (tree (opA f n x s).2.1 v).size < (tree f i).size := by
        intro v h1 h2
        cases hu : usesX x.op with
        | false => rw [opA, hu] at h2; simp only [cond_false] at h2; omega
        | true =>
          have := hok.x hu
          have e : opA f n x s = fin f n x.x.toNat s := by rw [opA, hu]; rfl
          rw [e] at h2 ⊢
          have := (fin_size hf n x.x.toNat s (by omega) (by omega) hs v h1 h2).1
          rw [hsz, hu]; simp only [cond_true]; omega
      have sB : ∀ v, (opA f n x s).2.1.length ≤ v → v < (opB f n x (opA f n x s).2).2.1.length → (tree (opB f n x (opA f n x s).2).2.1 v).size < (tree f i).size := by
        intro v h1 h2
        cases hu : usesY x.op with
        | false => rw [opB, hu] at h2; simp only [cond_false] at h2; omega
        | true =>
          have := hok.y hu
          have e : opB f n x (opA f n x s).2 = fin f n x.y.toNat (opA f n x s).2 := by rw [opB, hu]; rfl
          rw [e] at h2 ⊢
          have := (fin_size hf n x.y.toNat (opA f n x s).2 (by omega) (by omega) a1 v h1 h2).1
          rw [hsz, hu]; simp only [cond_true]; omega
      have hval := q.val
      have hok' := q.inv.ok
      rw [fin_none hl hn] at hv2 hval hok' ⊢
      generalize opA f n x s = A at *
      generalize opB f n x A.2 = B at *
      obtain ⟨p1, p2, t, p3, p4⟩ := putN_spec B.2.1 (ndB x.op (ndA x A.1) B.1)
      simp only at hv2 hval hok' ⊢
      rcases Nat.lt_or_ge v B.2.1.length with hlt | hge
      · have e : tree (putN B.2.1 (ndB x.op (ndA x A.1) B.1)).2 v = tree B.2.1 v := by rw [p3, tree_append b1.ok hlt]
        rw [e]
        have : (tree B.2.1 v).size < (tree f i).size := by
          rcases Nat.lt_or_ge v A.2.1.length with h1 | h1
          · rw [b3, tree_append a1.ok h1]; exact sA v hv1 h1
          · exact sB v h1 hlt
        exact ⟨by omega, fun _ => this⟩
      · have hvk : v = (putN B.2.1 (ndB x.op (ndA x A.1) B.1)).1 := by
          unfold putN at hv2 ⊢
          cases h : idx (ndB x.op (ndA x A.1) B.1) B.2.1 0 with
          | some k => rw [h] at hv2; simp only at hv2; omega
          | none => rw [h] at hv2; simp at hv2; simp only; omega
        rw [hvk, hval]
        exact ⟨Nat.le_refl _, fun h => absurd rfl h⟩
theorem kid_size {f : List Nd} (hf : Okl f) {n i : Nat} {x : Nd} (hn : f[i]? = some x) (hin : i < n + 1) (hif : i < f.length) {s : List Nd × List (Nat × Nat)} (hs : InvT f s) :
    ∀ v, s.1.length ≤ v → v < (opB f n x (opA f n x s).2).2.1.length → (tree (opB f n x (opA f n x s).2).2.1 v).size < (tree f i).size := by
  have hok := hf i x hn
  have hsz : (tree f i).size = (bif usesX x.op then tree f x.x.toNat else .none).size + (bif usesY x.op then tree f x.y.toNat else .none).size + 1 := by rw [tree_nd hf hn]; rfl
  obtain ⟨a1, a2, ua, a3⟩ := opA_tree hf hn hin hif hs
  obtain ⟨b1, b2, ub, b3⟩ := opB_tree hf hn hin hif a1
  intro v hv1 hlt
  rcases Nat.lt_or_ge v (opA f n x s).2.1.length with h1 | h1
  · rw [b3, tree_append a1.ok h1]
    cases hu : usesX x.op with
    | false => rw [opA, hu] at h1; simp only [cond_false] at h1; omega
    | true =>
      have := hok.x hu
      have e : opA f n x s = fin f n x.x.toNat s := by rw [opA, hu]; rfl
      rw [e] at h1 ⊢
      have := (fin_size hf n x.x.toNat s (by omega) (by omega) hs v hv1 h1).1
      rw [hsz, hu]; simp only [cond_true]; omega
  · cases hu : usesY x.op with
    | false => rw [opB, hu] at hlt; simp only [cond_false] at hlt; omega
    | true =>
      have := hok.y hu
      have e : opB f n x (opA f n x s).2 = fin f n x.y.toNat (opA f n x s).2 := by rw [opB, hu]; rfl
      rw [e] at hlt ⊢
      have := (fin_size hf n x.y.toNat (opA f n x s).2 (by omega) (by omega) a1 v h1 hlt).1
      rw [hsz, hu]; simp only [cond_true]; omega
/-- The root stands last. -/
theorem canon_root {f : List Nd} (hf : Okl f) {i : Nat} (hi : i < f.length) : (canon f i).length ≠ 0 ∧ tree (canon f i) ((canon f i).length - 1) = tree f i := by
  have q := fin_tree hf (i + 1) i ([], []) (by omega) hi (invT_nil f)
  have hs := fin_size hf (i + 1) i ([], []) (by omega) hi (invT_nil f)
  have hlt := q.lt
  have hval := q.val
  have hok := q.inv.ok
  refine ⟨by unfold canon; omega, ?_⟩
  -- the root's number is the last one: what stands behind it would be less
  have hlast : (fin f (i + 1) i ([], [])).1 = (canon f i).length - 1 := by
    have hn : f[i]? = some f[i] := List.getElem?_eq_getElem hi
    generalize hx : f[i] = x at hn
    obtain ⟨a1, _, _⟩ := opA_tree hf hn (by omega) hi (invT_nil f) (n := i)
    obtain ⟨b1, _, _⟩ := opB_tree hf hn (by omega) hi a1 (n := i)
    have hkid := kid_size hf hn (by omega) hi (invT_nil f) (n := i)
    unfold canon
    rw [fin_none (f := f) (n := i) (s := ([], [])) rfl hn] at hval ⊢
    simp only at hval ⊢
    generalize opA f i x ([], []) = A at *
    generalize opB f i x A.2 = B at *
    obtain ⟨p1, p2, t, p3, _⟩ := putN_spec B.2.1 (ndB x.op (ndA x A.1) B.1)
    cases h : idx (ndB x.op (ndA x A.1) B.1) B.2.1 0 with
    | none => unfold putN; rw [h]; simp
    | some k =>
      exfalso
      have hp : putN B.2.1 (ndB x.op (ndA x A.1) B.1) = (k, B.2.1) := by unfold putN; rw [h]
      rw [hp] at hval p2
      simp only at hval p2
      have := hkid k (Nat.zero_le _) p2
      rw [hval] at this
      omega
  unfold canon at hlast ⊢
  rw [← hlast]; exact hval
end Go.Proofs.Ytnbnkgcjgfmlcaa
namespace Go.Proofs.Ytnbnkgcjgfmlcaa
open Go Go.Dv

def root (f : List Nd) : Tr := tree f (f.length - 1)
theorem root_comp {f : List Nd} (h : check f = 0) : root (comp f) = root f := by
  have := (check_ok h).1
  unfold root
  rw [comp_eq h]
  exact (canon_root (check_okl h) (by omega)).2
/-! what the reference builds -/
theorem OkNd.re {x y : Nd} {a b : Int} (h : OkNd x a) (h1 : y.op = x.op) (h2 : y.i = x.i) (h3 : y.e = x.e) (h4 : y.g = x.g) (h5 : usesX x.op = true → 0 ≤ y.x ∧ y.x < b) (h6 : usesX x.op = false → y.x = 0) (h7 : usesY x.op = true → 0 ≤ y.y ∧ y.y < b) (h8 : usesY x.op = false → y.y = 0) : OkNd y b := by
  constructor <;> simp only [h1, h2, h3, h4]
  · exact h.op
  · exact h5
  · exact h6
  · exact h7
  · exact h8
  · exact h.fact
  · exact h.agent
  · exact h.act
  · exact h.noi
  · exact h.noe
  · exact h.group
  · exact h.nog
end Go.Proofs.Ytnbnkgcjgfmlcaa
set_option maxRecDepth 100000
set_option maxHeartbeats 4000000
namespace Go.Proofs.Ytnbnkgcjgfmlcaa
open Go Go.Dv

def aF : List Nd := [⟨3, 1, 0, 0, 0, 0⟩, ⟨3, 0, 0, 0, 0, 0⟩, ⟨3, 1, 0, 0, 0, 0⟩, ⟨5, 0, 0, 0, 0, 1⟩, ⟨9, 0, 0, 0, 3, 0⟩, ⟨6, 0, 0, 0, 4, 2⟩]
def aC : List Nd := [⟨3, 1, 0, 0, 0, 0⟩, ⟨3, 0, 0, 0, 0, 0⟩, ⟨5, 0, 0, 0, 0, 1⟩, ⟨9, 0, 0, 0, 2, 0⟩, ⟨6, 0, 0, 0, 3, 0⟩]
def aB : List Nd := buildL (n0 6) [buildL (nI 9 0) [buildL (n0 5) [buildL (nI 3 1) [], buildL (nI 3 0) []]], buildL (nI 3 1) []]
example : comp aF = aC := by kernel_rfl
example : aB = aC := by kernel_rfl
theorem _root_.Go.Dv.PureFn.to {P : Program} {f : FuncId} {ps : List PV} {p q : PV} (h : PureFn P f ps p) (e : p = q) : PureFn P f ps q := e ▸ h
end Go.Proofs.Ytnbnkgcjgfmlcaa
namespace Go.Proofs.Ytnbnkgcjgfmlcaa
open Go Go.Dv

theorem lt_dec {i m : Nat} (h : decide ((i : Int) < (m : Int)) = true) : i < m := by simpa using h
theorem ge_dec {i m : Nat} (h : decide ((i : Int) < (m : Int)) = false) (hi : i ≤ m) : i = m := by simp at h; omega
def u64 (n : Nat) : PV := .int .u64 (n : Int)
def i64 (n : Nat) : PV := .int .i64 (n : Int)
theorem wrapU {a : Int} (h0 : 0 ≤ a) (h : a < 18446744073709551616) : IntKind.wrap .u64 a = a := by
  have e : IntKind.wrap .u64 a = a % 18446744073709551616 := rfl
  rw [e]; exact Int.emod_eq_of_lt h0 h
theorem ofInt_nat (a : Nat) : BitVec.ofInt 64 (a : Int) = BitVec.ofNat 64 a := BitVec.ofInt_natCast 64 a
theorem ofNat_toNat {a : Nat} (h : a < 2 ^ 64) : (BitVec.ofNat 64 a).toNat = a := by rw [BitVec.toNat_ofNat, Nat.mod_eq_of_lt h]
def andU (a b : Int) : Int := IntKind.wrap .u64 ((BitVec.ofInt (IntKind.bits .u64) a &&& BitVec.ofInt (IntKind.bits .u64) b).toNat : Int)
def orU (a b : Int) : Int := IntKind.wrap .u64 ((BitVec.ofInt (IntKind.bits .u64) a ||| BitVec.ofInt (IntKind.bits .u64) b).toNat : Int)
def andNotU (a b : Int) : Int := IntKind.wrap .u64 ((BitVec.ofInt (IntKind.bits .u64) a &&& ~~~BitVec.ofInt (IntKind.bits .u64) b).toNat : Int)
def shrU (a b : Int) : Int := a.fdiv (2 ^ (min b.toNat (IntKind.bits .u64)))
def shlU (a b : Int) : Int := IntKind.wrap .u64 (a * 2 ^ (min b.toNat (IntKind.bits .u64)))
theorem andU_nat {a b : Nat} (ha : a < 2 ^ 64) (hb : b < 2 ^ 64) : andU a b = ((a &&& b : Nat) : Int) := by
  have h : a &&& b < 2 ^ 64 := Nat.lt_of_le_of_lt Nat.and_le_left ha
  unfold andU
  show IntKind.wrap .u64 ((BitVec.ofInt 64 (a : Int) &&& BitVec.ofInt 64 (b : Int)).toNat : Int) = _
  rw [ofInt_nat, ofInt_nat, BitVec.toNat_and, ofNat_toNat ha, ofNat_toNat hb]
  exact wrapU (by omega) (by omega)
theorem orU_nat {a b : Nat} (ha : a < 2 ^ 64) (hb : b < 2 ^ 64) : orU a b = ((a ||| b : Nat) : Int) := by
  have h : a ||| b < 2 ^ 64 := Nat.or_lt_two_pow ha hb
  unfold orU
  show IntKind.wrap .u64 ((BitVec.ofInt 64 (a : Int) ||| BitVec.ofInt 64 (b : Int)).toNat : Int) = _
  rw [ofInt_nat, ofInt_nat, BitVec.toNat_or, ofNat_toNat ha, ofNat_toNat hb]
  exact wrapU (by omega) (by omega)
theorem shrU_nat (a k : Nat) (hk : k ≤ 64) : shrU a k = ((a >>> k : Nat) : Int) := by
  unfold shrU
  rw [show min ((k : Int)).toNat (IntKind.bits .u64) = k from Nat.min_eq_left hk, Nat.shiftRight_eq_div_pow]
  rw [show ((2 : Int) ^ k) = ((2 ^ k : Nat) : Int) by simp, Int.fdiv_eq_ediv_of_nonneg _ (Int.natCast_nonneg _)]
  rfl
theorem shlU_one {k : Nat} (hk : k < 64) : shlU 1 k = ((2 ^ k : Nat) : Int) := by
  unfold shlU
  rw [show min ((k : Int)).toNat (IntKind.bits .u64) = k from Nat.min_eq_left (by show k ≤ 64; omega), Int.one_mul]
  have : 2 ^ k < 2 ^ 64 := Nat.pow_lt_pow_right (by decide) hk
  have e : ((2 : Int) ^ k) = ((2 ^ k : Nat) : Int) := by simp
  rw [e]
  generalize 2 ^ k = m at *
  exact wrapU (by omega) (by omega)
theorem bit_and (s v : Nat) (hs : s < 2 ^ 64) (hv : v < 64) : andU (shrU s v) 1 = if s.testBit v then 1 else 0 := by
  rw [shrU_nat _ _ (by omega)]
  have h1 : s >>> v < 2 ^ 64 := Nat.lt_of_le_of_lt (Nat.shiftRight_le s v) hs
  have := andU_nat (a := s >>> v) (b := 1) h1 (by decide)
  rw [show ((1 : Nat) : Int) = 1 from rfl] at this
  rw [this, Nat.and_one_is_mod, Nat.testBit, Nat.and_comm, Nat.and_one_is_mod]
  have : s >>> v % 2 = 0 ∨ s >>> v % 2 = 1 := by omega
  rcases this with h | h <;> rw [h] <;> rfl
/-- The program's test of a bit. -/
theorem bit_one {s v : Nat} (hs : s < 2 ^ 64) (hv : v < 64) : (andU (shrU s v) 1 == 1) = s.testBit v := by
  rw [bit_and s v hs hv]; cases s.testBit v <;> rfl
theorem bit_zero {s v : Nat} (hs : s < 2 ^ 64) (hv : v < 64) : (andU (shrU s v) 1 == 0) = !s.testBit v := by
  rw [bit_and s v hs hv]; cases s.testBit v <;> rfl
theorem tmod_two (a : Nat) : ((a : Int).tmod 2) = ((a % 2 : Nat) : Int) := by
  rw [Int.tmod_eq_emod_of_nonneg (Int.natCast_nonneg _)]; rfl
theorem testBit_mod (s v : Nat) : s.testBit v = decide (s >>> v % 2 = 1) := by
  rw [Nat.testBit, Nat.and_comm, Nat.and_one_is_mod]
  have : s >>> v % 2 = 0 ∨ s >>> v % 2 = 1 := by omega
  rcases this with h | h <;> rw [h] <;> rfl
/-- The reference's test of a bit. -/
theorem bit_rem {s v : Nat} (hv : v ≤ 64) : ((shrU s v).tmod 2 == 1) = s.testBit v := by
  rw [shrU_nat _ _ hv, tmod_two, testBit_mod, Bool.eq_iff_iff, beq_iff_eq, decide_eq_true_iff]; omega
def and64 (a b : Int) : Int := IntKind.wrap .i64 ((BitVec.ofInt (IntKind.bits .i64) a &&& BitVec.ofInt (IntKind.bits .i64) b).toNat : Int)
theorem and64_nat {a b : Nat} (ha : a < 2 ^ 62) (hb : b < 2 ^ 62) : and64 a b = ((a &&& b : Nat) : Int) := by
  have h : a &&& b < 2 ^ 62 := Nat.lt_of_le_of_lt Nat.and_le_left ha
  unfold and64
  show IntKind.wrap .i64 ((BitVec.ofInt 64 (a : Int) &&& BitVec.ofInt 64 (b : Int)).toNat : Int) = _
  rw [ofInt_nat, ofInt_nat, BitVec.toNat_and, ofNat_toNat (by omega), ofNat_toNat (by omega)]
  exact wrap_small (by omega) (by omega)
theorem bit64_and {s v : Nat} (hs : s < 2 ^ 62) (hv : v ≤ 64) : and64 (shr64 s v) 1 = if s.testBit v then 1 else 0 := by
  rw [shr64_nat _ _ hv]
  have h1 : s >>> v < 2 ^ 62 := Nat.lt_of_le_of_lt (Nat.shiftRight_le s v) hs
  have := and64_nat (a := s >>> v) (b := 1) h1 (by decide)
  rw [show ((1 : Nat) : Int) = 1 from rfl] at this
  rw [this, Nat.and_one_is_mod, testBit_mod]
  have : s >>> v % 2 = 0 ∨ s >>> v % 2 = 1 := by omega
  rcases this with h | h <;> rw [h] <;> rfl

/-- The set of the numbers below m with a property. -/
def maskOf (q : Nat → Bool) : Nat → Nat
  | 0 => 0
  | m + 1 => bif q m then maskOf q m ||| 2 ^ m else maskOf q m
theorem maskOf_bit (q : Nat → Bool) (j : Nat) : ∀ m, (maskOf q m).testBit j = (decide (j < m) && q j)
  | 0 => by simp [maskOf]
  | m + 1 => by
    rw [maskOf]
    cases hq : q m with
    | false =>
      simp only [cond_false]
      rw [maskOf_bit q j m]
      by_cases h : j < m
      · simp [h, Nat.lt_succ_of_lt h]
      · by_cases e : j = m
        · subst e; simp [hq]
        · have : ¬ j < m + 1 := by omega
          simp [h, this]
    | true =>
      simp only [cond_true]
      rw [Nat.testBit_or, maskOf_bit q j m, Nat.testBit_two_pow]
      by_cases h : j < m
      · have : ¬ m = j := by omega
        simp [h, Nat.lt_succ_of_lt h, this]
      · by_cases e : j = m
        · subst e; simp [hq]
        · have : ¬ j < m + 1 := by omega
          have h2 : ¬ m = j := by omega
          simp [h, this, h2]
theorem maskOf_lt (q : Nat → Bool) (m : Nat) : maskOf q m < 2 ^ m := by
  apply Nat.lt_pow_two_of_testBit
  intro i hi
  rw [maskOf_bit]
  simp [Nat.not_lt.2 hi]
theorem maskOf_congr {q r : Nat → Bool} : ∀ {m : Nat}, (∀ j, j < m → q j = r j) → maskOf q m = maskOf r m
  | 0, _ => rfl
  | m + 1, h => by rw [maskOf, maskOf, h m (by omega), maskOf_congr fun j hj => h j (by omega)]
end Go.Proofs.Ytnbnkgcjgfmlcaa
set_option maxRecDepth 100000
namespace Go.Proofs.Ytnbnkgcjgfmlcaa
open Go Go.Dv

theorem shl_n {n : Nat} (hn : n ≤ 4) : shl64 1 (n : Int) = ((2 ^ n : Nat) : Int) := shl64_one (by omega) (by omega)
/-! least values -/
end Go.Proofs.Ytnbnkgcjgfmlcaa
set_option maxRecDepth 100000
namespace Go.Proofs.Ytnbnkgcjgfmlcaa
open Go Go.Dv

theorem ex3 {α : Type} {A B C : α → Prop} {m : α} (h1 : A m) (h2 : B m) (h3 : C m) : ∃ m, A m ∧ B m ∧ C m := ⟨m, h1, h2, h3⟩
theorem ex2 {α : Type} {A B : α → Prop} {m : α} (h1 : A m) (h2 : B m) : ∃ m, A m ∧ B m := ⟨m, h1, h2⟩
/-! arrays half filled -/
end Go.Proofs.Ytnbnkgcjgfmlcaa
namespace Go.Proofs.Ytnbnkgcjgfmlcaa
open Go Go.Dv

/-- A list that is the canonical one of its own last node. -/
structure Can (s : List Nd) : Prop where
  ok : Okl s
  pos : 1 ≤ s.length
  len : s.length ≤ 200
  fix : (finT (root s) []).2 = s
theorem Can.check {s : List Nd} (h : Can s) : check s = 0 := okl_check h.ok h.pos h.len
end Go.Proofs.Ytnbnkgcjgfmlcaa
set_option maxRecDepth 100000
namespace Go.Proofs.Ytnbnkgcjgfmlcaa
open Go Go.Dv

def opN (n : Nat) (op i g : Int) : Bool := decide (1 ≤ op) && decide (op ≤ 8) && (op != 3 || decide (i < n)) && g == 0
def propT (n : Nat) : Tr → Bool
  | .none => true
  | .nd op i _ g a b => opN n op i g && propT n a && propT n b
/-- A formula about the first n facts whose tree is small. -/
structure Gd (n : Nat) (f : List Nd) (k : Nat) : Prop where
  can : Can f
  size : (root f).size ≤ k
  ok : propT n (root f) = true
theorem Gd.more {n k m : Nat} {f : List Nd} (h : Gd n f k) (hk : k ≤ m) : Gd n f m := ⟨h.can, Nat.le_trans h.size hk, h.ok⟩
end Go.Proofs.Ytnbnkgcjgfmlcaa
set_option maxRecDepth 100000
namespace Go.Proofs.Ytnbnkgcjgfmlcaa
open Go Go.Dv

structure Asg where
  fact : Int
  to : List Nd
structure Act where
  pre : List (List Nd)
  post : List (List Asg)
  rel : List (List Nat)
def Asg.pv (a : Asg) : PV := .agg [.int .i64 a.fact, fpv a.to]
def rowPV (r : List Nat) : PV := .sl (r.map u64)
def postPV (l : List Asg) : PV := .sl (l.map Asg.pv)
def Act.pv (a : Act) : PV := .agg [.sl (a.pre.map fpv), .sl (a.post.map postPV), .sl (a.rel.map rowPV)]
/-! lists in which a nil slice stands for an empty one -/
theorem PLe.sls {l l' : List PV} (h : PLes l l') : PLe (.sl l) (.sl l') := by
  have h1 : ∀ {l l' : List PV}, PLes l l' → l.length = l'.length ∧ ∀ (i : Nat) p q, l[i]? = some p → l'[i]? = some q → PLe p q := by
    intro l
    induction l with
    | nil => intro l' h; cases l' with
      | nil => exact ⟨rfl, fun i p q hp => by simp at hp⟩
      | cons => exact h.elim
    | cons a r ih => intro l' h; cases l' with
      | nil => exact h.elim
      | cons b s =>
        obtain ⟨e, k⟩ := ih h.2
        refine ⟨by simp [e], fun i p q hp hq => ?_⟩
        cases i with
        | zero => simp at hp hq; subst hp; subst hq; exact h.1
        | succ i => exact k i p q (by simpa using hp) (by simpa using hq)
  exact .sl _ _ (h1 h).1 (h1 h).2
theorem PLe.aggs {l l' : List PV} (h : PLes l l') : PLe (.agg l) (.agg l') := by
  have := PLe.sls h
  cases this with
  | refl => exact .refl _
  | sl _ _ h1 h2 => exact .agg _ _ h1 h2
theorem PLe.tups {l l' : List PV} (h : PLes l l') : PLe (.tup l) (.tup l') := by
  have := PLe.sls h
  cases this with
  | refl => exact .refl _
  | sl _ _ h1 h2 => exact .tup _ _ h1 h2
/-! errors -/
def nand64' (a b : Int) : Int := IntKind.wrap .i64 ((BitVec.ofInt (IntKind.bits .i64) a &&& ~~~BitVec.ofInt (IntKind.bits .i64) b).toNat : Int)
def statI (ag : Int) (n : Int) (f : List Nd) : Int := bif check f != 0 then check f else bif nand64' (frags f : Nat) 15 != 0 then 10 else bif !fits f ag n then 2 else 0
def badF (fact : Int) : Bool := bif decide (fact < 0) then true else decide (fact ≥ 8)
theorem statI_ok {ag n : Int} {f : List Nd} (h : statI ag n f = 0) : check f = 0 ∧ nand64' (frags f : Nat) 15 = 0 ∧ fits f ag n = true := by
  unfold statI at h
  cases h1 : (check f != 0) with
  | true => rw [h1] at h; simp only [cond_true] at h; rw [h] at h1; cases h1
  | false =>
    rw [h1] at h
    cases h2 : (nand64' (frags f : Nat) 15 != 0) with
    | true => rw [h2] at h; cases h
    | false =>
      rw [h2] at h
      cases h3 : fits f ag n with
      | false => rw [h3] at h; cases h
      | true => exact ⟨by simpa using h1, by simpa using h2, rfl⟩
/-! relations -/
/-! how the agents perceive the events -/
/-! the messages -/
end Go.Proofs.Ytnbnkgcjgfmlcaa
set_option maxRecDepth 100000
set_option maxHeartbeats 4000000
namespace Go.Proofs.Ytnbnkgcjgfmlcaa
open Go Go.Dv

theorem any_take {α : Type} {p : α → Bool} {l : List α} {i : Nat} (hi : i < l.length) (h : (l.take i).any p = false) (h2 : p l[i] = false) : (l.take (i + 1)).any p = false := by
  rw [List.take_succ_eq_append_getElem hi, List.any_append, h]; simp [h2]
theorem any_at {α : Type} {p : α → Bool} {l : List α} {i : Nat} (hi : i < l.length) (h2 : p l[i] = true) : l.any p = true := List.any_eq_true.2 ⟨l[i], List.getElem_mem hi, h2⟩
end Go.Proofs.Ytnbnkgcjgfmlcaa
