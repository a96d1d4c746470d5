/- Parts of the proof, one after the other: The checker of the program walked: a node. The checker of the program walked: Sets, Holds, At, Valid. The checker of the program walked: Holds, At, Valid. Products: Worlds of the program walked. Products: Update of the program walked. Products: Update of the program walked. Models: the reference's All, Check, Same, Few walked. Products: the examples of the law; models as arguments. Products: the law ProductTrue walked. Products: what the law ProductKeeps asks (plain). Messages and products: after a toss (plain). Messages: the law about the logics of the results, walked. Messages: the law MessagesTossed walked. Products: the law ProductKeeps walked. Messages: the law MessagesTossed walked. -/
import Derived.Test.YtnbnkgcjgfmlcaaM6
set_option maxRecDepth 100000
set_option maxHeartbeats 4000000
namespace Go.Proofs.Ytnbnkgcjgfmlcaa
open Go Go.Dv

def cellsN (op i e g x y : Int) : List DV := [.pv (.int .i64 op), .pv (.int .i64 i), .pv (.int .i64 e), .pv (.int .i64 g), .pv (.int .i64 x), .pv (.int .i64 y)]
theorem le_val {v : Int} {b : Bool} {q : Nat × Bool} (h1 : v = (q.1 : Int)) (h2 : b = q.2) : PLe (.tup [.int .u64 v, .bool b]) (valPV q) := by subst h1; subst h2; exact .refl _
theorem ck_value (m : Mo) (n : Nat) (hM : OkM m n) (x : Nd) (k : Int) (hk : OkNd x k) (a b : Nat) (ha : a < 2 ^ n) (hb : b < 2 ^ n) : PureFn Try.prog 99 [m.pv, x.pv, u64 a, u64 b] (valPV (valV m n x a b)) := by
  obtain ⟨op, i, e, g, xx, yy⟩ := x
  refine PureFn.introC [2] mixed (fn := Try.f99) rfl rfl rfl fun M w0 => ?_
  have hn1 := hM.n1
  have hn := hM.n64
  have h64 := pow64_le hn
  have hag := hM.ag
  have ha64 : a < 2 ^ 64 := by omega
  have hb64 : b < 2 ^ 64 := by omega
  have hmn := hM.nn
  have hw : IntKind.wrap .i64 (64 - m.n) = (64 : Int) - n := by rw [hmn, wrap_small (by omega) (by omega)]
  have e1 : ((m.val.map u64).length : Int) = (m.val.length : Int) := by simp
  have e2 : ((m.rel.map rowPV).length : Int) = (m.rel.length : Int) := by simp
  try conv=>whnf
  refine ⟨Unit, fun _ => [(2, .pv (u64 a)), (3, .pv (u64 b)), (4, .ref 0 0), (5, .ref 1 0), (10, .pv (u64 (2 ^ n - 1)))], fun _ => 2, fun _ => [(0, .var (cellsM m)), (1, .var (cellsN op i e g xx yy))], ?_, ?_⟩
  · (try conv=>whnf);repeat' (first|(apply And.intro<;>try conv=>whnf)|fail)
    · show (0 : Int) ≤ IntKind.wrap .i64 (64 - m.n)
      rw [hw]; omega
    · refine ⟨(), ?_⟩
      (refine Wk.of ?_ ?_ rfl rfl rfl<;>repeat' (first|exact trivial|exact WkD.same _|exact WkO.same _ _ rfl|refine WkD.int ?_|refine ⟨?_, ?_⟩|fail))
      show shrU 18446744073709551615 (IntKind.wrap .i64 (64 - m.n)) = _
      rw [hw]; exact shr_all hn1 hn
  rintro ⟨⟩
  have hop : op = 1 ∨ op = 2 ∨ op = 3 ∨ op = 4 ∨ op = 5 ∨ op = 6 ∨ op = 7 ∨ op = 8 ∨ op = 9 ∨ op = 10 ∨ op = 11 ∨ op = 12 ∨ op = 13 ∨ 14 ≤ op := by have := hk.op.1; simp only at this; omega
  rcases hop with rfl | rfl | rfl | rfl | rfl | rfl | rfl | rfl | rfl | rfl | rfl | rfl | rfl | hop
  · skip
    have f1 : ((1 : Int) == 1) = true := rfl
    have f2 : ((1 : Int) == 2) = false := rfl
    have f3 : ((1 : Int) == 3) = false := rfl
    have f4 : ((1 : Int) == 4) = false := rfl
    have f5 : ((1 : Int) == 5) = false := rfl
    have f6 : ((1 : Int) == 6) = false := rfl
    have f7 : ((1 : Int) == 7) = false := rfl
    have f8 : ((1 : Int) == 8) = false := rfl
    have f9 : ((1 : Int) == 9) = false := rfl
    have f10 : ((1 : Int) == 10) = false := rfl
    have f11 : ((1 : Int) == 11) = false := rfl
    have f12 : ((1 : Int) == 12) = false := rfl
    have f13 : ((1 : Int) == 13) = false := rfl
    (try conv=>whnf);repeat' (first|(apply And.intro<;>try conv=>whnf)|(intro h;first|with_reducible exact tf (by assumption) h|try conv=>whnf)|fail)
    exact le_val rfl rfl
  · skip
    have f1 : ((2 : Int) == 1) = false := rfl
    have f2 : ((2 : Int) == 2) = true := rfl
    have f3 : ((2 : Int) == 3) = false := rfl
    have f4 : ((2 : Int) == 4) = false := rfl
    have f5 : ((2 : Int) == 5) = false := rfl
    have f6 : ((2 : Int) == 6) = false := rfl
    have f7 : ((2 : Int) == 7) = false := rfl
    have f8 : ((2 : Int) == 8) = false := rfl
    have f9 : ((2 : Int) == 9) = false := rfl
    have f10 : ((2 : Int) == 10) = false := rfl
    have f11 : ((2 : Int) == 11) = false := rfl
    have f12 : ((2 : Int) == 12) = false := rfl
    have f13 : ((2 : Int) == 13) = false := rfl
    (try conv=>whnf);repeat' (first|(apply And.intro<;>try conv=>whnf)|(intro h;first|with_reducible exact tf h (by assumption)|with_reducible exact tf (by assumption) h|try conv=>whnf)|fail)
    exact le_val rfl rfl
  · skip
    have f1 : ((3 : Int) == 1) = false := rfl
    have f2 : ((3 : Int) == 2) = false := rfl
    have f3 : ((3 : Int) == 3) = true := rfl
    have f4 : ((3 : Int) == 4) = false := rfl
    have f5 : ((3 : Int) == 5) = false := rfl
    have f6 : ((3 : Int) == 6) = false := rfl
    have f7 : ((3 : Int) == 7) = false := rfl
    have f8 : ((3 : Int) == 8) = false := rfl
    have f9 : ((3 : Int) == 9) = false := rfl
    have f10 : ((3 : Int) == 10) = false := rfl
    have f11 : ((3 : Int) == 11) = false := rfl
    have f12 : ((3 : Int) == 12) = false := rfl
    have f13 : ((3 : Int) == 13) = false := rfl
    have hi := (hk.fact rfl).1
    simp only at hi
    obtain ⟨j, rfl⟩ : ∃ j : Nat, i = j := ⟨i.toNat, by omega⟩
    have hv : valV m n ⟨3, j, e, g, xx, yy⟩ a b = bif !decide ((j : Int) ≥ (m.val.length : Int)) then (m.val.getD j 0, true) else (0, false) := rfl
    (try conv=>whnf);repeat' (first|(apply And.intro<;>try conv=>whnf)|(intro h;first|with_reducible exact tf h (by assumption)|with_reducible exact tf (by assumption) h|try conv=>whnf)|(apply infoT;rfl)|fail)
    · rw [hv, show decide ((j : Int) ≥ (m.val.length : Int)) = true by rw [← e1]; exact h]
      exact le_val rfl rfl
    · have h9 : decide ((j : Int) ≥ (m.val.length : Int)) = false := by rw [← e1]; exact h
      have h8 := of_decide_eq_false h9
      refine ⟨j, _, rfl, idx_map (getD_mem (show j < m.val.length by omega) (d := 0)), rfl, ?_⟩
      try conv=>whnf
      rw [hv, h9]
      exact le_val rfl rfl
  · skip
    have f1 : ((4 : Int) == 1) = false := rfl
    have f2 : ((4 : Int) == 2) = false := rfl
    have f3 : ((4 : Int) == 3) = false := rfl
    have f4 : ((4 : Int) == 4) = true := rfl
    have f5 : ((4 : Int) == 5) = false := rfl
    have f6 : ((4 : Int) == 6) = false := rfl
    have f7 : ((4 : Int) == 7) = false := rfl
    have f8 : ((4 : Int) == 8) = false := rfl
    have f9 : ((4 : Int) == 9) = false := rfl
    have f10 : ((4 : Int) == 10) = false := rfl
    have f11 : ((4 : Int) == 11) = false := rfl
    have f12 : ((4 : Int) == 12) = false := rfl
    have f13 : ((4 : Int) == 13) = false := rfl
    (try conv=>whnf);repeat' (first|(apply And.intro<;>try conv=>whnf)|(intro h;first|with_reducible exact tf h (by assumption)|with_reducible exact tf (by assumption) h|try conv=>whnf)|fail)
    exact le_val (andNotU_all hn) rfl
  · skip
    have f1 : ((5 : Int) == 1) = false := rfl
    have f2 : ((5 : Int) == 2) = false := rfl
    have f3 : ((5 : Int) == 3) = false := rfl
    have f4 : ((5 : Int) == 4) = false := rfl
    have f5 : ((5 : Int) == 5) = true := rfl
    have f6 : ((5 : Int) == 6) = false := rfl
    have f7 : ((5 : Int) == 7) = false := rfl
    have f8 : ((5 : Int) == 8) = false := rfl
    have f9 : ((5 : Int) == 9) = false := rfl
    have f10 : ((5 : Int) == 10) = false := rfl
    have f11 : ((5 : Int) == 11) = false := rfl
    have f12 : ((5 : Int) == 12) = false := rfl
    have f13 : ((5 : Int) == 13) = false := rfl
    (try conv=>whnf);repeat' (first|(apply And.intro<;>try conv=>whnf)|(intro h;first|with_reducible exact tf h (by assumption)|with_reducible exact tf (by assumption) h|try conv=>whnf)|fail)
    exact le_val (andU_nat ha64 hb64) rfl
  · skip
    have f1 : ((6 : Int) == 1) = false := rfl
    have f2 : ((6 : Int) == 2) = false := rfl
    have f3 : ((6 : Int) == 3) = false := rfl
    have f4 : ((6 : Int) == 4) = false := rfl
    have f5 : ((6 : Int) == 5) = false := rfl
    have f6 : ((6 : Int) == 6) = true := rfl
    have f7 : ((6 : Int) == 7) = false := rfl
    have f8 : ((6 : Int) == 8) = false := rfl
    have f9 : ((6 : Int) == 9) = false := rfl
    have f10 : ((6 : Int) == 10) = false := rfl
    have f11 : ((6 : Int) == 11) = false := rfl
    have f12 : ((6 : Int) == 12) = false := rfl
    have f13 : ((6 : Int) == 13) = false := rfl
    (try conv=>whnf);repeat' (first|(apply And.intro<;>try conv=>whnf)|(intro h;first|with_reducible exact tf h (by assumption)|with_reducible exact tf (by assumption) h|try conv=>whnf)|fail)
    exact le_val (orU_nat ha64 hb64) rfl
  · skip
    have f1 : ((7 : Int) == 1) = false := rfl
    have f2 : ((7 : Int) == 2) = false := rfl
    have f3 : ((7 : Int) == 3) = false := rfl
    have f4 : ((7 : Int) == 4) = false := rfl
    have f5 : ((7 : Int) == 5) = false := rfl
    have f6 : ((7 : Int) == 6) = false := rfl
    have f7 : ((7 : Int) == 7) = true := rfl
    have f8 : ((7 : Int) == 8) = false := rfl
    have f9 : ((7 : Int) == 9) = false := rfl
    have f10 : ((7 : Int) == 10) = false := rfl
    have f11 : ((7 : Int) == 11) = false := rfl
    have f12 : ((7 : Int) == 12) = false := rfl
    have f13 : ((7 : Int) == 13) = false := rfl
    (try conv=>whnf);repeat' (first|(apply And.intro<;>try conv=>whnf)|(intro h;first|with_reducible exact tf h (by assumption)|with_reducible exact tf (by assumption) h|try conv=>whnf)|fail)
    refine le_val ?_ rfl
    show orU (andNotU ((2 ^ n - 1 : Nat) : Int) (a : Nat)) (b : Nat) = _
    rw [andNotU_all hn]
    exact orU_nat (Nat.lt_of_lt_of_le (notN_lt n a) h64) hb64
  · skip
    have f1 : ((8 : Int) == 1) = false := rfl
    have f2 : ((8 : Int) == 2) = false := rfl
    have f3 : ((8 : Int) == 3) = false := rfl
    have f4 : ((8 : Int) == 4) = false := rfl
    have f5 : ((8 : Int) == 5) = false := rfl
    have f6 : ((8 : Int) == 6) = false := rfl
    have f7 : ((8 : Int) == 7) = false := rfl
    have f8 : ((8 : Int) == 8) = true := rfl
    have f9 : ((8 : Int) == 9) = false := rfl
    have f10 : ((8 : Int) == 10) = false := rfl
    have f11 : ((8 : Int) == 11) = false := rfl
    have f12 : ((8 : Int) == 12) = false := rfl
    have f13 : ((8 : Int) == 13) = false := rfl
    (try conv=>whnf);repeat' (first|(apply And.intro<;>try conv=>whnf)|(intro h;first|with_reducible exact tf h (by assumption)|with_reducible exact tf (by assumption) h|try conv=>whnf)|fail)
    refine le_val ?_ rfl
    show andNotU ((2 ^ n - 1 : Nat) : Int) (xorU (a : Nat) (b : Nat)) = _
    rw [xorU_nat ha64 hb64]
    exact andNotU_all hn
  · skip
    have f1 : ((9 : Int) == 1) = false := rfl
    have f2 : ((9 : Int) == 2) = false := rfl
    have f3 : ((9 : Int) == 3) = false := rfl
    have f4 : ((9 : Int) == 4) = false := rfl
    have f5 : ((9 : Int) == 5) = false := rfl
    have f6 : ((9 : Int) == 6) = false := rfl
    have f7 : ((9 : Int) == 7) = false := rfl
    have f8 : ((9 : Int) == 8) = false := rfl
    have f9 : ((9 : Int) == 9) = true := rfl
    have f10 : ((9 : Int) == 10) = false := rfl
    have f11 : ((9 : Int) == 11) = false := rfl
    have f12 : ((9 : Int) == 12) = false := rfl
    have f13 : ((9 : Int) == 13) = false := rfl
    have hi := (hk.agent rfl).1
    simp only at hi
    obtain ⟨j, rfl⟩ : ∃ j : Nat, i = j := ⟨i.toNat, by omega⟩
    have hv : valV m n ⟨9, j, e, g, xx, yy⟩ a b = bif !decide ((j : Int) ≥ (m.rel.length : Int)) then (boxN n (m.rel.getD j []) a, true) else (0, false) := rfl
    (try conv=>whnf);repeat' (first|(apply And.intro<;>try conv=>whnf)|(intro h;first|with_reducible exact tf h (by assumption)|with_reducible exact tf (by assumption) h|try conv=>whnf)|(apply infoT;rfl)|fail)
    · rw [hv, show decide ((j : Int) ≥ (m.rel.length : Int)) = true by rw [← e2]; exact h]
      exact le_val rfl rfl
    · rename_i hc
      have h9 : decide ((j : Int) ≥ (m.rel.length : Int)) = false := by rw [← e2]; exact hc
      have h8 := of_decide_eq_false h9
      obtain ⟨r, hr, hrw⟩ : ∃ r, m.rel[j]? = some r ∧ m.rel.getD j [] = r := ⟨_, getD_mem (by omega), rfl⟩
      have hrm : r ∈ m.rel := List.mem_iff_getElem?.2 ⟨j, hr⟩
      have hB := rl_Box n r a hn (hM.rows r hrm) (hM.bits r hrm) ha64
      rw [hv, h9, hrw]
      refine ⟨_, _, rfl, idx_map hr, rfl, ?_⟩
      (try conv=>whnf);repeat' (first|(refine PureFn.dcq (f := 114) rfl ?_;try conv=>whnf)|(refine ⟨_, _, hB, ?_, ?_⟩;(focus first|(refine ⟨?_, ?_, trivial⟩<;>first|exact PLe.refl _|exact PLe.nil)|exact trivial);try conv=>whnf)|fail)
      exact le_val rfl rfl
  · skip
    have f1 : ((10 : Int) == 1) = false := rfl
    have f2 : ((10 : Int) == 2) = false := rfl
    have f3 : ((10 : Int) == 3) = false := rfl
    have f4 : ((10 : Int) == 4) = false := rfl
    have f5 : ((10 : Int) == 5) = false := rfl
    have f6 : ((10 : Int) == 6) = false := rfl
    have f7 : ((10 : Int) == 7) = false := rfl
    have f8 : ((10 : Int) == 8) = false := rfl
    have f9 : ((10 : Int) == 9) = false := rfl
    have f10 : ((10 : Int) == 10) = true := rfl
    have f11 : ((10 : Int) == 11) = false := rfl
    have f12 : ((10 : Int) == 12) = false := rfl
    have f13 : ((10 : Int) == 13) = false := rfl
    have hi := (hk.agent rfl).1
    simp only at hi
    obtain ⟨j, rfl⟩ : ∃ j : Nat, i = j := ⟨i.toNat, by omega⟩
    have hv : valV m n ⟨10, j, e, g, xx, yy⟩ a b = bif !decide ((j : Int) ≥ (m.rel.length : Int)) then (diaN n (m.rel.getD j []) a, true) else (0, false) := rfl
    (try conv=>whnf);repeat' (first|(apply And.intro<;>try conv=>whnf)|(intro h;first|with_reducible exact tf h (by assumption)|with_reducible exact tf (by assumption) h|try conv=>whnf)|(apply infoT;rfl)|fail)
    · rw [hv, show decide ((j : Int) ≥ (m.rel.length : Int)) = true by rw [← e2]; exact h]
      exact le_val rfl rfl
    · rename_i hc
      have h9 : decide ((j : Int) ≥ (m.rel.length : Int)) = false := by rw [← e2]; exact hc
      have h8 := of_decide_eq_false h9
      obtain ⟨r, hr, hrw⟩ : ∃ r, m.rel[j]? = some r ∧ m.rel.getD j [] = r := ⟨_, getD_mem (by omega), rfl⟩
      have hrm : r ∈ m.rel := List.mem_iff_getElem?.2 ⟨j, hr⟩
      have hB := rl_Diamond n r a hn (hM.rows r hrm) (hM.bits r hrm) ha64
      rw [hv, h9, hrw]
      refine ⟨_, _, rfl, idx_map hr, rfl, ?_⟩
      (try conv=>whnf);repeat' (first|(refine PureFn.dcq (f := 115) rfl ?_;try conv=>whnf)|(refine ⟨_, _, hB, ?_, ?_⟩;(focus first|(refine ⟨?_, ?_, trivial⟩<;>first|exact PLe.refl _|exact PLe.nil)|exact trivial);try conv=>whnf)|fail)
      exact le_val rfl rfl
  · skip
    have f1 : ((11 : Int) == 1) = false := rfl
    have f2 : ((11 : Int) == 2) = false := rfl
    have f3 : ((11 : Int) == 3) = false := rfl
    have f4 : ((11 : Int) == 4) = false := rfl
    have f5 : ((11 : Int) == 5) = false := rfl
    have f6 : ((11 : Int) == 6) = false := rfl
    have f7 : ((11 : Int) == 7) = false := rfl
    have f8 : ((11 : Int) == 8) = false := rfl
    have f9 : ((11 : Int) == 9) = false := rfl
    have f10 : ((11 : Int) == 10) = false := rfl
    have f11 : ((11 : Int) == 11) = true := rfl
    have f12 : ((11 : Int) == 12) = false := rfl
    have f13 : ((11 : Int) == 13) = false := rfl
    have hg1 := (hk.group rfl).1
    simp only at hg1
    have hv : valV m n ⟨11, i, e, g, xx, yy⟩ a b = bif !decide (g ≥ shl64 1 (m.rel.length : Int)) then (boxN n (grpM orF m g 0) a, true) else (0, false) := rfl
    have hG := md_Group m n hM g
    have hgf := fun (h : g < shl64 1 (m.rel.length : Int)) => grp_facts (op := orF) (first := 0) hM (fun _ _ hx hy => Nat.or_lt_two_pow hx hy) (Nat.two_pow_pos n) hg1 h
    rw [hv]
    clear hv
    generalize grpM orF m g 0 = G at hG hgf ⊢
    (try conv=>whnf);repeat' (first|(apply And.intro<;>try conv=>whnf)|(intro h;first|with_reducible exact tf h (by assumption)|with_reducible exact tf (by assumption) h|try conv=>whnf)|(refine lin_plan (by kernel_rfl) ?_;try conv=>whnf)|fail)
    · exact Int.natCast_nonneg _
    · have h9 : decide (g ≥ shl64 1 (m.rel.length : Int)) = true := by rw [← e2]; exact h
      rw [h9]
      exact le_val rfl rfl
    · rename_i hc
      have h9 : decide (g ≥ shl64 1 (m.rel.length : Int)) = false := by rw [← e2]; exact hc
      have h8 := of_decide_eq_false h9
      obtain ⟨hgl, hgb⟩ := hgf (by omega)
      have hB := rl_Box n _ a hn hgl hgb ha64
      rw [h9]
      (try conv=>whnf);repeat' (first|(apply And.intro<;>try conv=>whnf)|(intro h;first|with_reducible exact tf (by assumption) h|try conv=>whnf)|(refine PureFn.dcq (f := 117) rfl ?_;try conv=>whnf)|(refine PureFn.dcq (f := 114) rfl ?_;try conv=>whnf)|(refine ⟨_, _, hG, ?_, ?_⟩;(focus first|(refine ⟨?_, ?_, trivial⟩<;>first|exact PLe.refl _|exact PLe.nil)|exact trivial);try conv=>whnf)|(refine ⟨_, _, hB, ?_, ?_⟩;(focus first|(refine ⟨?_, ?_, trivial⟩<;>first|exact PLe.refl _|exact PLe.nil)|exact trivial);try conv=>whnf)|fail)
      exact le_val rfl rfl
  · skip
    have f1 : ((12 : Int) == 1) = false := rfl
    have f2 : ((12 : Int) == 2) = false := rfl
    have f3 : ((12 : Int) == 3) = false := rfl
    have f4 : ((12 : Int) == 4) = false := rfl
    have f5 : ((12 : Int) == 5) = false := rfl
    have f6 : ((12 : Int) == 6) = false := rfl
    have f7 : ((12 : Int) == 7) = false := rfl
    have f8 : ((12 : Int) == 8) = false := rfl
    have f9 : ((12 : Int) == 9) = false := rfl
    have f10 : ((12 : Int) == 10) = false := rfl
    have f11 : ((12 : Int) == 11) = false := rfl
    have f12 : ((12 : Int) == 12) = true := rfl
    have f13 : ((12 : Int) == 13) = false := rfl
    have hg1 := (hk.group rfl).1
    simp only at hg1
    have hv : valV m n ⟨12, i, e, g, xx, yy⟩ a b = bif !decide (g ≥ shl64 1 (m.rel.length : Int)) then (boxN n (grpM andF m g (2 ^ n - 1)) a, true) else (0, false) := rfl
    have hG := md_Meet m n hM g
    have hgf := fun (h : g < shl64 1 (m.rel.length : Int)) => grp_facts (op := andF) (first := (2 ^ n - 1)) hM (fun _ _ hx _ => Nat.lt_of_le_of_lt Nat.and_le_left hx) (by have := Nat.two_pow_pos n; omega) hg1 h
    rw [hv]
    clear hv
    generalize grpM andF m g (2 ^ n - 1) = G at hG hgf ⊢
    (try conv=>whnf);repeat' (first|(apply And.intro<;>try conv=>whnf)|(intro h;first|with_reducible exact tf h (by assumption)|with_reducible exact tf (by assumption) h|try conv=>whnf)|(refine lin_plan (by kernel_rfl) ?_;try conv=>whnf)|fail)
    · exact Int.natCast_nonneg _
    · have h9 : decide (g ≥ shl64 1 (m.rel.length : Int)) = true := by rw [← e2]; exact h
      rw [h9]
      exact le_val rfl rfl
    · rename_i hc
      have h9 : decide (g ≥ shl64 1 (m.rel.length : Int)) = false := by rw [← e2]; exact hc
      have h8 := of_decide_eq_false h9
      obtain ⟨hgl, hgb⟩ := hgf (by omega)
      have hB := rl_Box n _ a hn hgl hgb ha64
      rw [h9]
      (try conv=>whnf);repeat' (first|(refine PureFn.dcq (f := 116) rfl ?_;try conv=>whnf)|(refine PureFn.dcq (f := 114) rfl ?_;try conv=>whnf)|(refine ⟨_, _, hG, ?_, ?_⟩;(focus first|(refine ⟨?_, ?_, trivial⟩<;>first|exact PLe.refl _|exact PLe.nil)|exact trivial);try conv=>whnf)|(refine ⟨_, _, hB, ?_, ?_⟩;(focus first|(refine ⟨?_, ?_, trivial⟩<;>first|exact PLe.refl _|exact PLe.nil)|exact trivial);try conv=>whnf)|fail)
      exact le_val rfl rfl
  · skip
    have f1 : ((13 : Int) == 1) = false := rfl
    have f2 : ((13 : Int) == 2) = false := rfl
    have f3 : ((13 : Int) == 3) = false := rfl
    have f4 : ((13 : Int) == 4) = false := rfl
    have f5 : ((13 : Int) == 5) = false := rfl
    have f6 : ((13 : Int) == 6) = false := rfl
    have f7 : ((13 : Int) == 7) = false := rfl
    have f8 : ((13 : Int) == 8) = false := rfl
    have f9 : ((13 : Int) == 9) = false := rfl
    have f10 : ((13 : Int) == 10) = false := rfl
    have f11 : ((13 : Int) == 11) = false := rfl
    have f12 : ((13 : Int) == 12) = false := rfl
    have f13 : ((13 : Int) == 13) = true := rfl
    have hg1 := (hk.group rfl).1
    simp only at hg1
    have hv : valV m n ⟨13, i, e, g, xx, yy⟩ a b = bif !decide (g ≥ shl64 1 (m.rel.length : Int)) then (comN n (grpM orF m g 0) a b, true) else (0, false) := rfl
    have hG := md_Group m n hM g
    have hgf := fun (h : g < shl64 1 (m.rel.length : Int)) => grp_facts (op := orF) (first := 0) hM (fun _ _ hx hy => Nat.or_lt_two_pow hx hy) (Nat.two_pow_pos n) hg1 h
    rw [hv]
    clear hv
    generalize grpM orF m g 0 = G at hG hgf ⊢
    (try conv=>whnf);repeat' (first|(apply And.intro<;>try conv=>whnf)|(intro h;first|with_reducible exact tf h (by assumption)|with_reducible exact tf (by assumption) h|try conv=>whnf)|(refine lin_plan (by kernel_rfl) ?_;try conv=>whnf)|fail)
    · exact Int.natCast_nonneg _
    · have h9 : decide (g ≥ shl64 1 (m.rel.length : Int)) = true := by rw [← e2]; exact h
      rw [h9]
      exact le_val rfl rfl
    · rename_i hc
      have h9 : decide (g ≥ shl64 1 (m.rel.length : Int)) = false := by rw [← e2]; exact hc
      have h8 := of_decide_eq_false h9
      obtain ⟨hgl, hgb⟩ := hgf (by omega)
      have hB := ck_common n _ a b hn hgl hgb hb
      rw [h9]
      (try conv=>whnf);repeat' (first|(apply And.intro<;>try conv=>whnf)|(intro h;first|with_reducible exact tf h (by assumption)|try conv=>whnf)|(refine PureFn.dcq (f := 117) rfl ?_;try conv=>whnf)|(refine PureFn.dcq (f := 118) rfl ?_;try conv=>whnf)|(refine ⟨_, _, hG, ?_, ?_⟩;(focus first|(refine ⟨?_, ?_, trivial⟩<;>first|exact PLe.refl _|exact PLe.nil)|exact trivial);try conv=>whnf)|(refine ⟨_, _, hB, ?_, ?_⟩;(focus first|(refine ⟨?_, ?_, ?_, ?_, trivial⟩<;>first|exact PLe.refl _|exact PLe.nil)|exact trivial);try conv=>whnf)|fail)
      exact le_val rfl rfl
  · skip
    have f1 : (op == 1) = false := by simp; omega
    have f2 : (op == 2) = false := by simp; omega
    have f3 : (op == 3) = false := by simp; omega
    have f4 : (op == 4) = false := by simp; omega
    have f5 : (op == 5) = false := by simp; omega
    have f6 : (op == 6) = false := by simp; omega
    have f7 : (op == 7) = false := by simp; omega
    have f8 : (op == 8) = false := by simp; omega
    have f9 : (op == 9) = false := by simp; omega
    have f10 : (op == 10) = false := by simp; omega
    have f11 : (op == 11) = false := by simp; omega
    have f12 : (op == 12) = false := by simp; omega
    have f13 : (op == 13) = false := by simp; omega
    have hv : valV m n ⟨op, i, e, g, xx, yy⟩ a b = (0, false) := by
      have hq : fitQ m op i e g = false := by
        cases q : fitQ m op i e g with
        | false => rfl
        | true => have := fitQ_13 q; omega
      rw [valV, hq]; rfl
    rw [hv]
    (try conv=>whnf);repeat' (first|(apply And.intro<;>try conv=>whnf)|(intro h;first|with_reducible exact tf h (by assumption)|try conv=>whnf)|fail)
    exact .refl _
end Go.Proofs.Ytnbnkgcjgfmlcaa
set_option maxRecDepth 100000
set_option maxHeartbeats 4000000
namespace Go.Proofs.Ytnbnkgcjgfmlcaa
open Go Go.Dv

/-- The places of a list of N, of what there is already. -/
def arrG (N : Nat) (g : Nat × Bool → PV) (acc : List (Nat × Bool)) : List PV := (List.range N).map fun j => g (acc.getD j (0, false))
theorem arrG_len (N : Nat) (g : Nat × Bool → PV) (acc : List (Nat × Bool)) : (arrG N g acc).length = N := by simp [arrG]
theorem arrG_get {N : Nat} {g : Nat × Bool → PV} {acc : List (Nat × Bool)} {j : Nat} (h : j < N) : (arrG N g acc)[j]? = some (g (acc.getD j (0, false))) := by
  simp [arrG, List.getElem?_map, List.getElem?_range h]
theorem getD_snoc {acc : List (Nat × Bool)} {v : Nat × Bool} {j : Nat} : (acc ++ [v]).getD j (0, false) = if j = acc.length then v else acc.getD j (0, false) := by
  rw [List.getD_eq_getElem?_getD, List.getD_eq_getElem?_getD]
  by_cases h : j = acc.length
  · subst h; simp
  · rw [if_neg h]
    by_cases q : j < acc.length
    · rw [List.getElem?_append_left q]
    · rw [List.getElem?_eq_none (by simp; omega), List.getElem?_eq_none (by omega)]
theorem arrG_set {N : Nat} {g : Nat × Bool → PV} {acc : List (Nat × Bool)} {v : Nat × Bool} {i : Nat} (hi : i < N) (hl : acc.length = i) : (arrG N g acc).set i (g v) = arrG N g (acc ++ [v]) := by
  apply List.ext_getElem?
  intro j
  rw [List.getElem?_set, arrG_len]
  by_cases hj : j < N
  · rw [arrG_get hj, arrG_get hj, getD_snoc, hl]
    by_cases e : i = j
    · subst e; simp [hi]
    · rw [if_neg e, if_neg (fun h => e h.symm)]
  · rw [List.getElem?_eq_none (by rw [arrG_len]; omega), List.getElem?_eq_none (by rw [arrG_len]; omega)]
    rw [if_neg (show ¬ i = j by omega)]
theorem arrG_skip {N : Nat} {g : Nat × Bool → PV} {acc : List (Nat × Bool)} : arrG N g (acc ++ [(0, false)]) = arrG N g acc := by
  apply List.map_congr_left
  intro j _
  rw [getD_snoc]
  split
  · rename_i h
    rw [List.getD_eq_getElem?_getD, List.getElem?_eq_none (by omega)]; rfl
  · rfl
theorem arrG_nil (N : Nat) (g : Nat × Bool → PV) : arrG N g [] = List.replicate N (g (0, false)) := by
  apply List.ext_getElem (by simp [arrG])
  intro i h1 h2
  simp [arrG]
theorem arrG_full {N : Nat} {g : Nat × Bool → PV} {acc : List (Nat × Bool)} (h : acc.length = N) : arrG N g acc = acc.map g := by subst h; exact map_getD rfl
def gS (v : Nat × Bool) : PV := u64 v.1
def gF (v : Nat × Bool) : PV := .bool v.2
def setsI (m : Mo) (f : List Nd) : List Nat × Int := bif reqI m f != 0 then ([], reqI m f) else ((setsV m m.n.toNat f).map (·.1), 0)
def setsPV (x : List Nat × Int) : PV := .tup [rowPV x.1, .int .i64 x.2]
theorem setsV_lt {m : Mo} {n : Nat} (hM : OkM m n) (f : List Nd) : ∀ v, v ∈ setsV m n f → v.1 < 2 ^ n := by
  have key : ∀ (l : List Nd) (acc : List (Nat × Bool)), (∀ v, v ∈ acc → v.1 < 2 ^ n) → ∀ v, v ∈ l.foldl (fun acc x => acc ++ [nodeV m n acc x]) acc → v.1 < 2 ^ n := by
    intro l
    induction l with
    | nil => intro acc h; exact h
    | cons x r ih =>
      intro acc h
      refine ih _ fun v hv => ?_
      rcases List.mem_append.1 hv with hv | hv
      · exact h v hv
      · rw [List.mem_singleton.1 hv]
        have hg : ∀ j, (acc.getD j (0, false)).1 < 2 ^ n := fun j => by
          rw [List.getD_eq_getElem?_getD]
          cases hq : acc[j]? with
          | none => exact Nat.two_pow_pos n
          | some w => exact h w (List.mem_iff_getElem?.2 ⟨j, hq⟩)
        unfold nodeV
        cases okV acc x with
        | false => exact Nat.two_pow_pos n
        | true =>
          show (valV m n x _ _).1 < 2 ^ n
          unfold valV
          cases fitQ m x.op x.i x.e x.g with
          | false => exact Nat.two_pow_pos n
          | true => exact vlN_lt hM.vbits (hg _) (hg _)
  exact key f [] (by simp)
theorem ck_Sets (m : Mo) (f : List Nd) (hf : FitM m) : PureFn Try.prog 71 [m.pv, fpv f] (setsPV (setsI m f)) := by
  refine PureFn.introC [4, 6, 12, 14, 16] mixed (fn := Try.f71) rfl rfl rfl fun M w0 => ?_
  have hR := ck_request m f hf
  try conv=>whnf
  refine ⟨{ _x : Unit // (reqI m f != 0) = false }, fun _ => [(1, .pv (fpv f)), (2, .ref 0 0)], fun _ => 1, fun _ => HM m, ?_, ?_⟩
  · (try conv=>whnf);repeat' (first|(apply And.intro<;>try conv=>whnf)|(intro h;try conv=>whnf)|(refine PureFn.dcq (f := 98) rfl ?_;try conv=>whnf)|(refine ⟨_, _, hR, ?_, ?_⟩;(focus first|(refine ⟨?_, ?_, trivial⟩<;>first|exact PLe.refl _|exact PLe.nil)|exact trivial);try conv=>whnf)|fail)
    · rw [setsI, h]; exact PLe.tups ⟨.nil, .refl _, trivial⟩
    · exact ⟨⟨(), h⟩, (by refine Wk.of ?_ ?_ rfl rfl rfl<;>repeat' (first|exact trivial|exact WkD.same _|exact WkO.same _ _ rfl|refine ⟨?_, ?_⟩|fail))⟩
  rintro ⟨_, h0⟩
  obtain ⟨⟨n, hM⟩, hst⟩ := reqI_ok (show reqI m f = 0 by simpa using h0)
  have hch := (statM_iff.1 hst).1
  have hok := check_okl hch
  have hfl : f.length ≤ 200 := (check_ok hch).2.1
  have hres : setsI m f = ((setsV m n f).map (·.1), 0) := by rw [setsI, h0, hM.nn, Int.toNat_natCast]; rfl
  rw [hres]
  clear hres
  have hN : ((f.map Nd.pv).length : Int).toNat = f.length := by rw [List.length_map]; rfl
  have hz1 : List.replicate ((f.map Nd.pv).length : Int).toNat (PV.int .u64 0) = arrG f.length gS [] := by rw [arrG_nil, hN]; rfl
  have hz2 : List.replicate ((f.map Nd.pv).length : Int).toNat (PV.bool false) = arrG f.length gF [] := by rw [arrG_nil, hN]; rfl
  have hbig : ((f.map Nd.pv).length : Int) ≤ (big : Int) := by
    show ((f.map Nd.pv).length : Int) ≤ 4294967296
    rw [List.length_map]; omega
  (try conv=>whnf);repeat' (first|(apply And.intro<;>try conv=>whnf)|fail)
  · rfl
  · exact Int.natCast_nonneg _
  · exact hbig
  refine ⟨Unit, fun _ => [(1, .pv (fpv f)), (2, .ref 0 0), (7, .buf 1 (arrG f.length gS []).length), (8, .buf 2 (arrG f.length gF []).length)], fun _ => 3, fun _ => [(0, .var (cellsM m)), (1, .arr 1 (arrG f.length gS [])), (2, .arr 1 (arrG f.length gF []))], ?_, ?_⟩
  · (try conv=>whnf);repeat' (first|(apply And.intro<;>try conv=>whnf)|fail)
    · rfl
    · exact Int.natCast_nonneg _
    · exact hbig
    refine ⟨(), ?_⟩
    (refine Wk.of ?_ ?_ rfl rfl rfl<;>repeat' (first|exact trivial|exact WkD.same _|exact WkO.same _ _ rfl|refine ⟨?_, ?_⟩|fail))
    · exact WkD.eq (congrArg (fun z : List PV => DV.buf 1 z.length) hz1)
    · exact WkD.eq (congrArg (fun z : List PV => DV.buf 2 z.length) hz2)
    · exact WkO.same _ _ (congrArg (fun z => some (DObj.arr 1 z)) hz1)
    · exact WkO.same _ _ (congrArg (fun z => some (DObj.arr 1 z)) hz2)
  rintro ⟨⟩
  try conv=>whnf
  have hvl := setsV_lt hM
  refine ⟨{ i : Nat // i ≤ f.length }, fun i => [(2, .ref 0 0), (7, .buf 1 (arrG f.length gS (setsV m n (f.take i.1))).length), (8, .buf 2 (arrG f.length gF (setsV m n (f.take i.1))).length), (24, .pv (fpv f)), (25, .pv (i64 (f.map Nd.pv).length)), (26, .pv (i64 i.1))], fun _ => 3, fun i => [(0, .var (cellsM m)), (1, .arr 1 (arrG f.length gS (setsV m n (f.take i.1)))), (2, .arr 1 (arrG f.length gF (setsV m n (f.take i.1))))], fun i => f.length - i.1, ⟨⟨0, Nat.zero_le _⟩, (by refine Wk.of ?_ ?_ rfl rfl rfl<;>repeat' (first|exact trivial|exact WkD.same _|exact WkO.same _ _ rfl|refine ⟨?_, ?_⟩|fail))⟩, ?_⟩
  rintro ⟨i, hi⟩
  have hA2 := fun (h : i < f.length) => setsV_take (m := m) (n := n) h
  have hAl := setsV_len (m := m) (n := n) (f := f) i hi
  have hAb : ∀ j, ((setsV m n (f.take i)).getD j (0, false)).1 < 2 ^ n := fun j => by
    rw [List.getD_eq_getElem?_getD]
    cases hq : (setsV m n (f.take i))[j]? with
    | none => exact Nat.two_pow_pos n
    | some w => exact setsV_lt hM _ w (List.mem_iff_getElem?.2 ⟨j, hq⟩)
  have hfin : setsV m n f = setsV m n (f.take f.length) := by rw [List.take_length]
  (try conv=>whnf);repeat' (first|(apply And.intro<;>try conv=>whnf)|(intro h;try conv=>whnf)|(apply bleI;rfl)|fail)
  · have hi' : i < f.length := by simpa using lt_dec h
    have hx : f[i]? = some f[i] := List.getElem?_eq_getElem hi'
    have hk := hok i _ hx
    have hA3 := hA2 hi'
    clear hA2
    refine ⟨Unit, fun _ => [(2, .ref 0 0), (7, .buf 1 (arrG f.length gS (setsV m n (f.take (i + 1)))).length), (8, .buf 2 (arrG f.length gF (setsV m n (f.take (i + 1)))).length), (24, .pv (fpv f)), (25, .pv (i64 (f.map Nd.pv).length)), (26, .pv (i64 i))], fun _ => 3, fun _ => [(0, .var (cellsM m)), (1, .arr 1 (arrG f.length gS (setsV m n (f.take (i + 1))))), (2, .arr 1 (arrG f.length gF (setsV m n (f.take (i + 1)))))], ?_, ?_⟩
    · rw [hA3]
      clear hA3
      generalize f[i] = x at hx hk ⊢
      obtain ⟨op, io, eo, g, xx, yy⟩ := x
      obtain ⟨X, rfl, hXi⟩ : ∃ X : Nat, xx = X ∧ X < f.length := by
        cases hu : usesX op with
        | true => have := hk.x hu; simp only at this; exact ⟨xx.toNat, by omega, by omega⟩
        | false => have := hk.nox hu; simp only at this; exact ⟨0, this, by omega⟩
      obtain ⟨Y, rfl, hYi⟩ : ∃ Y : Nat, yy = Y ∧ Y < f.length := by
        cases hu : usesY op with
        | true => have := hk.y hu; simp only at this; exact ⟨yy.toNat, by omega, by omega⟩
        | false => have := hk.noy hu; simp only at this; exact ⟨0, this, by omega⟩
      (try conv=>whnf);repeat' (first|(apply And.intro<;>try conv=>whnf)|(apply infoT;rfl)|(refine ⟨_, _, rfl, idx_map (by with_reducible assumption), rfl, ?_⟩;try conv=>whnf)|fail)
      refine ⟨Unit, fun _ => [(2, .ref 0 0), (7, .buf 1 (arrG f.length gS (setsV m n (f.take i))).length), (8, .buf 2 (arrG f.length gF (setsV m n (f.take i))).length), (9, .pv (i64 i)), (10, .ref 3 0), (11, .pv (.bool (bif decide (op ≥ 4) then ((setsV m n (f.take i)).getD X (0, false)).2 else true))), (24, .pv (fpv f)), (25, .pv (i64 (f.map Nd.pv).length)), (26, .pv (i64 i))], fun _ => 4, fun _ => [(0, .var (cellsM m)), (1, .arr 1 (arrG f.length gS (setsV m n (f.take i)))), (2, .arr 1 (arrG f.length gF (setsV m n (f.take i)))), (3, .var (cellsN op io eo g X Y))], ?_, ?_⟩
      · (try conv=>whnf);repeat' (first|(apply And.intro<;>try conv=>whnf)|(intro h;try conv=>whnf)|fail)
        · rw [show decide (op ≥ 4) = true from h]
          refine ⟨X, rfl, by rw [arrG_len]; exact hXi, ?_⟩
          (try conv=>whnf);repeat' (first|(apply And.intro<;>try conv=>whnf)|fail)
          refine ⟨_, arrG_get hXi, ?_⟩
          try conv=>whnf
          exact ⟨(), (by refine Wk.of ?_ ?_ rfl rfl rfl<;>repeat' (first|exact trivial|exact WkD.same _|exact WkO.same _ _ rfl|refine ⟨?_, ?_⟩|fail))⟩
        · rw [show decide (op ≥ 4) = false from h]
          exact ⟨(), (by refine Wk.of ?_ ?_ rfl rfl rfl<;>repeat' (first|exact trivial|exact WkD.same _|exact WkO.same _ _ rfl|refine ⟨?_, ?_⟩|fail))⟩
      rintro ⟨⟩
      refine ⟨Unit, fun _ => [(2, .ref 0 0), (7, .buf 1 (arrG f.length gS (setsV m n (f.take i))).length), (8, .buf 2 (arrG f.length gF (setsV m n (f.take i))).length), (9, .pv (i64 i)), (10, .ref 3 0), (11, .pv (.bool (okV (setsV m n (f.take i)) ⟨op, io, eo, g, X, Y⟩))), (24, .pv (fpv f)), (25, .pv (i64 (f.map Nd.pv).length)), (26, .pv (i64 i))], fun _ => 4, fun _ => [(0, .var (cellsM m)), (1, .arr 1 (arrG f.length gS (setsV m n (f.take i)))), (2, .arr 1 (arrG f.length gF (setsV m n (f.take i)))), (3, .var (cellsN op io eo g X Y))], ?_, ?_⟩
      · have hokv : okV (setsV m n (f.take i)) ⟨op, io, eo, g, X, Y⟩ = bif usY op then (bif (bif decide (op ≥ 4) then ((setsV m n (f.take i)).getD X (0, false)).2 else true) then ((setsV m n (f.take i)).getD Y (0, false)).2 else false) else (bif decide (op ≥ 4) then ((setsV m n (f.take i)).getD X (0, false)).2 else true) := rfl
        rw [hokv]
        generalize (bif decide (op ≥ 4) then ((setsV m n (f.take i)).getD X (0, false)).2 else true) = c1
        (try conv=>whnf);repeat' (first|(apply And.intro<;>try conv=>whnf)|(intro h;try conv=>whnf)|apply True.intro|(apply WhenQ.mk;(try conv=>whnf);rotate_left;(try conv=>whnf);rotate_right)|with_reducible assumption|(apply not_of;with_reducible assumption)|fail)
        · refine ⟨Y, rfl, by rw [arrG_len]; exact hYi, ?_⟩
          (try conv=>whnf);repeat' (first|(apply And.intro<;>try conv=>whnf)|fail)
        · (try conv=>whnf);repeat' (first|(apply And.intro<;>try conv=>whnf)|fail)
          refine ⟨_, arrG_get hYi, ?_⟩
          (try conv=>whnf);repeat' (first|(apply And.intro<;>try conv=>whnf)|fail)
        · (try conv=>whnf);repeat' (first|(apply And.intro<;>try conv=>whnf)|(intro h;try conv=>whnf)|with_reducible assumption|fail)
          rw [show usY op = true from h]
          exact ⟨(), (by refine Wk.of ?_ ?_ rfl rfl rfl<;>repeat' (first|exact trivial|exact WkD.same _|exact WkO.same _ _ rfl|refine ⟨?_, ?_⟩|fail))⟩
        · rw [show usY op = false from h]
          exact ⟨(), (by refine Wk.of ?_ ?_ rfl rfl rfl<;>repeat' (first|exact trivial|exact WkD.same _|exact WkO.same _ _ rfl|refine ⟨?_, ?_⟩|fail))⟩
      rintro ⟨⟩
      have hnv : nodeV m n (setsV m n (f.take i)) ⟨op, io, eo, g, X, Y⟩ = bif okV (setsV m n (f.take i)) ⟨op, io, eo, g, X, Y⟩ then valV m n ⟨op, io, eo, g, X, Y⟩ ((setsV m n (f.take i)).getD X (0, false)).1 ((setsV m n (f.take i)).getD Y (0, false)).1 else (0, false) := rfl
      have hV := ck_value m n hM ⟨op, io, eo, g, X, Y⟩ i hk _ _ (hAb X) (hAb Y)
      rw [hnv]
      generalize okV (setsV m n (f.take i)) ⟨op, io, eo, g, X, Y⟩ = c2
      (try conv=>whnf);repeat' (first|(apply And.intro<;>try conv=>whnf)|(intro h;try conv=>whnf)|fail)
      · rw [show c2 = true from h, cond_true]
        have hs1 := arrG_set (g := gS) (v := valV m n ⟨op, io, eo, g, X, Y⟩ ((setsV m n (f.take i)).getD X (0, false)).1 ((setsV m n (f.take i)).getD Y (0, false)).1) hi' hAl
        have hs2 := arrG_set (g := gF) (v := valV m n ⟨op, io, eo, g, X, Y⟩ ((setsV m n (f.take i)).getD X (0, false)).1 ((setsV m n (f.take i)).getD Y (0, false)).1) hi' hAl
        have hll := fun (g : Nat × Bool → PV) (B : List (Nat × Bool)) => (arrG_len f.length g (setsV m n (f.take i))).trans (arrG_len f.length g B).symm
        refine ⟨Plan.lin 0 24, [21, 23], by kernel_rfl, ?_⟩
        (try conv=>whnf);repeat' (first|(apply And.intro<;>try conv=>whnf)|fail)
        refine ⟨X, rfl, by rw [arrG_len]; exact hXi, ?_⟩
        (try conv=>whnf);repeat' (first|(apply And.intro<;>try conv=>whnf)|fail)
        refine ⟨_, arrG_get hXi, ?_⟩
        (try conv=>whnf);repeat' (first|(apply And.intro<;>try conv=>whnf)|fail)
        refine ⟨Y, rfl, by rw [arrG_len]; exact hYi, ?_⟩
        (try conv=>whnf);repeat' (first|(apply And.intro<;>try conv=>whnf)|fail)
        refine ⟨_, arrG_get hYi, ?_⟩
        (try conv=>whnf);repeat' (first|(apply And.intro<;>try conv=>whnf)|(refine ⟨_, (by (conv=>whnf);exact hV), rfl, ?_⟩;try conv=>whnf)|fail)
        refine ⟨i, rfl, by rw [arrG_len]; exact hi', ?_⟩
        (try conv=>whnf);repeat' (first|(apply And.intro<;>try conv=>whnf)|fail)
        refine ⟨_, arrG_get hi', Nat.le_refl 1, ?_⟩
        (try conv=>whnf);repeat' (first|(apply And.intro<;>try conv=>whnf)|fail)
        refine ⟨i, rfl, by rw [arrG_len]; exact hi', ?_⟩
        (try conv=>whnf);repeat' (first|(apply And.intro<;>try conv=>whnf)|fail)
        refine ⟨_, arrG_get hi', Nat.le_refl 1, ?_⟩
        try conv=>whnf
        refine ⟨(), ?_⟩
        (refine Wk.of ?_ ?_ rfl rfl rfl<;>repeat' (first|exact trivial|exact WkD.same _|exact WkO.same _ _ rfl|refine ⟨?_, ?_⟩|fail))
        · exact WkD.eq (congrArg (DV.buf 1) (hll gS _))
        · exact WkD.eq (congrArg (DV.buf 2) (hll gF _))
        · exact WkO.same _ _ (congrArg (fun z => some (DObj.arr 1 z)) hs1)
        · exact WkO.same _ _ (congrArg (fun z => some (DObj.arr 1 z)) hs2)
      · rw [show c2 = false from h, cond_false, arrG_skip, arrG_skip]
        exact ⟨(), (by refine Wk.of ?_ ?_ rfl rfl rfl<;>repeat' (first|exact trivial|exact WkD.same _|exact WkO.same _ _ rfl|refine ⟨?_, ?_⟩|fail))⟩
    rintro ⟨⟩
    try conv=>whnf
    exact ⟨⟨i + 1, hi'⟩, by show f.length - (i + 1) < f.length - i; omega, (by refine Wk.of ?_ ?_ rfl rfl rfl<;>repeat' (first|exact trivial|exact WkD.same _|exact WkO.same _ _ rfl|refine WkD.int ?_|refine ⟨?_, ?_⟩|(refine wrapA ?_ ?_ ?_;(focus simp;done);(focus (try dsimp only);omega);(focus (try dsimp only);omega))|fail))⟩
  · have hi' : i = f.length := by have := ge_dec (m := (f.map Nd.pv).length) h (by simpa using hi); simpa using this
    subst hi'
    rw [hfin]
    refine PLe.tups ⟨?_, .refl _, trivial⟩
    show PLe (.sl (arrG f.length gS (setsV m n (f.take f.length)))) (rowPV ((setsV m n (f.take f.length)).map (·.1)))
    rw [arrG_full hAl, rowPV, List.map_map]
    exact .refl _
end Go.Proofs.Ytnbnkgcjgfmlcaa
set_option maxRecDepth 100000
set_option maxHeartbeats 4000000
namespace Go.Proofs.Ytnbnkgcjgfmlcaa
open Go Go.Dv

def holdsPV (x : Nat × Int) : PV := .tup [u64 x.1, .int .i64 x.2]
theorem ck_Holds (m : Mo) (f : List Nd) (hf : FitM m) : PureFn Try.prog 28 [m.pv, fpv f] (holdsPV (holdsI m f)) := by
  have hS := ck_Sets m f hf
  cases h0 : (reqI m f != 0) with
  | true =>
    rw [setsI, h0] at hS
    have hS : PureFn Try.prog 71 [m.pv, fpv f] (.tup [rowPV [], .int .i64 (reqI m f)]) := hS
    rw [holdsI, h0]
    refine PureFn.intro mixed (fn := Try.f28) rfl rfl rfl fun M w0 => ?_
    (try conv=>whnf);repeat' (first|(apply And.intro<;>try conv=>whnf)|(intro h;first|with_reducible exact tf (by assumption) h|try conv=>whnf)|(refine PureFn.dcq (f := 71) rfl ?_;try conv=>whnf)|(refine ⟨_, _, hS, ?_, ?_⟩;(focus first|(refine ⟨?_, ?_, trivial⟩<;>first|exact PLe.refl _|exact PLe.nil)|exact trivial);try conv=>whnf)|fail)
    exact .refl _
  | false =>
    obtain ⟨⟨n, hM⟩, hst⟩ := reqI_ok (show reqI m f = 0 by simpa using h0)
    have hch := (statM_iff.1 hst).1
    have hfl : f.length ≤ 200 := (check_ok hch).2.1
    have hp : 1 ≤ f.length := (check_ok hch).1
    have hlen : (setsV m n f).length = f.length := by have := setsV_len (m := m) (n := n) (f := f) f.length (Nat.le_refl _); rwa [List.take_length] at this
    obtain ⟨v, hv, hv1⟩ := last_V (n := n) hM.ag hst
    rw [setsI, h0, hM.nn, Int.toNat_natCast] at hS
    rw [holdsI, h0, hM.nn, Int.toNat_natCast, ← hv1]
    have hl2 : (((setsV m n f).map (·.1)).length : Int) = (f.length : Int) := by rw [List.length_map, hlen]
    have hidx : ((setsV m n f).map (·.1))[f.length - 1]? = some v.1 := idx_map hv
    have hS : PureFn Try.prog 71 [m.pv, fpv f] (.tup [rowPV ((setsV m n f).map (·.1)), .int .i64 0]) := hS
    generalize (setsV m n f).map (·.1) = L at hS hl2 hidx
    have hl3 : ((L.map u64).length : Int) = (f.length : Int) := by rw [List.length_map]; exact hl2
    refine PureFn.intro mixed (fn := Try.f28) rfl rfl rfl fun M w0 => ?_
    (try conv=>whnf);repeat' (first|(apply And.intro<;>try conv=>whnf)|(intro h;try conv=>whnf)|(apply infoT;rfl)|(refine PureFn.dcq (f := 71) rfl ?_;try conv=>whnf)|(refine ⟨_, _, hS, ?_, ?_⟩;(focus first|(refine ⟨?_, ?_, trivial⟩<;>first|exact PLe.refl _|exact PLe.nil)|exact trivial);try conv=>whnf)|fail)
    · cases h
    refine ⟨f.length - 1, _, ?_, idx_map hidx, rfl, ?_⟩
    · show IntKind.wrap .i64 (((L.map u64).length : Int) - 1) = ((f.length - 1 : Nat) : Int)
      rw [hl3, wrap_small (by omega) (by omega)]; omega
    try conv=>whnf
    exact .refl _
end Go.Proofs.Ytnbnkgcjgfmlcaa
set_option maxRecDepth 100000
set_option maxHeartbeats 4000000
namespace Go.Proofs.Ytnbnkgcjgfmlcaa
open Go Go.Dv

def HMA (m : Mo) (a : Act) : List (Nat × DObj) := [(0, .var (cellsM m)), (1, .var (cellsA a))]
theorem pr_Worlds (m : Mo) (a : Act) (hf : FitM m) (hfa : Fit a) (hl : a.rel.length ≤ 1000) (hp : ∀ l, l ∈ a.post → l.length ≤ 1000) : PureFn Try.prog 17 [m.pv, a.pv] (worldsPV (worldsI m a)) := by
  refine PureFn.introC [4, 7, 8, 16, 26] mixed (fn := Try.f17) rfl rfl rfl fun M w0 => ?_
  have hC := md_Check m hf
  have hK := ac_Check a (m.rel.length : Nat) (m.val.length : Nat) hfa hl hp
  rw [show PV.int .i64 ((m.rel.length : Nat) : Int) = .int .i64 ((m.rel.map rowPV).length : Nat) by rw [List.length_map], show PV.int .i64 ((m.val.length : Nat) : Int) = .int .i64 ((m.val.map u64).length : Nat) by rw [List.length_map]] at hK
  try conv=>whnf
  refine ⟨{ _x : Unit // (moI m != 0) = false }, fun _ => [(2, .ref 0 0), (3, .ref 1 0)], fun _ => 2, fun _ => HMA m a, ?_, ?_⟩
  · (try conv=>whnf);repeat' (first|(apply And.intro<;>try conv=>whnf)|(intro h;try conv=>whnf)|(refine PureFn.dcq (f := 13) rfl ?_;try conv=>whnf)|(refine ⟨_, _, hC, ?_, ?_⟩;(focus first|(refine ⟨?_, trivial⟩<;>first|exact PLe.refl _|exact PLe.nil)|exact trivial);try conv=>whnf)|fail)
    · have h9 : moaI m a = moI m := by rw [moaI, h]; rfl
      rw [worldsI, h9, h]
      exact le_worlds _
    · exact ⟨⟨(), h⟩, (by refine Wk.of ?_ ?_ rfl rfl rfl<;>repeat' (first|exact trivial|exact WkD.same _|exact WkO.same _ _ rfl|refine ⟨?_, ?_⟩|fail))⟩
  rintro ⟨_, h1⟩
  have hmo : moaI m a = actI a (m.rel.length : Int) (m.val.length : Int) := by rw [moaI, h1]; rfl
  refine ⟨{ _x : Unit // (moaI m a != 0) = false }, fun _ => [(2, .ref 0 0), (3, .ref 1 0)], fun _ => 2, fun _ => HMA m a, ?_, ?_⟩
  · (try conv=>whnf);repeat' (first|(apply And.intro<;>try conv=>whnf)|(intro h;try conv=>whnf)|(refine PureFn.dcq (f := 58) rfl ?_;try conv=>whnf)|(refine ⟨_, _, hK, ?_, ?_⟩;(focus first|(refine ⟨?_, ?_, ?_, trivial⟩<;>first|exact PLe.refl _|exact PLe.nil)|exact trivial);try conv=>whnf)|fail)
    · have h9 : (moaI m a != 0) = true := by rw [hmo]; exact h
      rw [worldsI, h9, hmo]
      exact le_worlds _
    · exact ⟨⟨(), by rw [hmo]; exact h⟩, (by refine Wk.of ?_ ?_ rfl rfl rfl<;>repeat' (first|exact trivial|exact WkD.same _|exact WkO.same _ _ rfl|refine ⟨?_, ?_⟩|fail))⟩
  rintro ⟨_, h2⟩
  have h20 : moaI m a = 0 := by simpa using h2
  obtain ⟨⟨n, hM⟩, hAc⟩ := moaI_ok h20
  have hO := actI_ok hAc
  have hn8 := hO.n8
  have hn1 := hO.n1
  have hn64 := hM.n64
  have hres : worldsI m a = bif ((pairsL m a).length : Int) == 0 then ([], 11) else (pairsL m a, 0) := by rw [worldsI, h2]; rfl
  have hpl : pairsL m a = pairsW (possP m a) a.pre.length n := by rw [pairsL, hM.nn]; rfl
  rw [hres, hpl]
  clear hres hpl
  have hph := fun (e : Nat) (he : e < a.pre.length) => pre_holds h20 he
  rw [hM.nn, Int.toNat_natCast] at hph
  generalize hpe : possP m a = p at hph ⊢
  have hN : ((a.pre.map fpv).length : Int).toNat = a.pre.length := by rw [List.length_map]; rfl
  have hz1 : List.replicate ((a.pre.map fpv).length : Int).toNat (PV.int .u64 0) = mixV a.pre.length (fun e => u64 (p e)) (fun _ => u64 0) 0 := by rw [hN]; exact mixV_rep _ _ _
  have hbig : ((a.pre.map fpv).length : Int) ≤ (big : Int) := by
    show ((a.pre.map fpv).length : Int) ≤ 4294967296
    rw [List.length_map]; omega
  have hml := mixV_len a.pre.length (fun e => u64 (p e)) (fun _ => u64 0)
  refine ⟨Unit, fun _ => [(2, .ref 0 0), (3, .ref 1 0), (8, .buf 2 (mixV a.pre.length (fun e => u64 (p e)) (fun _ => u64 0) 0).length)], fun _ => 3, fun _ => [(0, .var (cellsM m)), (1, .var (cellsA a)), (2, .arr 1 (mixV a.pre.length (fun e => u64 (p e)) (fun _ => u64 0) 0))], ?_, ?_⟩
  · (try conv=>whnf);repeat' (first|(apply And.intro<;>try conv=>whnf)|fail)
    · rfl
    · exact Int.natCast_nonneg _
    · exact hbig
    refine ⟨(), ?_⟩
    (refine Wk.of ?_ ?_ rfl rfl rfl<;>repeat' (first|exact trivial|exact WkD.same _|exact WkO.same _ _ rfl|refine ⟨?_, ?_⟩|fail))
    · exact WkD.eq (congrArg (fun z : List PV => DV.buf 2 z.length) hz1)
    · exact WkO.same _ _ (congrArg (fun z => some (DObj.arr 1 z)) hz1)
  rintro ⟨⟩
  clear hz1 hN hbig
  refine ⟨Unit, fun _ => [(2, .ref 0 0), (8, .pv (.sl (mixV a.pre.length (fun e => u64 (p e)) (fun _ => u64 0) a.pre.length)))], fun _ => 3, fun _ => [(0, .var (cellsM m))], ?_, ?_⟩
  · try conv=>whnf
    refine ⟨{ i : Nat // i ≤ a.pre.length }, fun i => [(2, .ref 0 0), (3, .ref 1 0), (8, .buf 2 (mixV a.pre.length (fun e => u64 (p e)) (fun _ => u64 0) i.1).length), (38, .pv (.sl (a.pre.map fpv))), (39, .pv (i64 (a.pre.map fpv).length)), (40, .pv (i64 i.1))], fun _ => 3, fun i => [(0, .var (cellsM m)), (1, .var (cellsA a)), (2, .arr 1 (mixV a.pre.length (fun e => u64 (p e)) (fun _ => u64 0) i.1))], fun i => a.pre.length - i.1, ⟨⟨0, Nat.zero_le _⟩, (by refine Wk.of ?_ ?_ rfl rfl rfl<;>repeat' (first|exact trivial|exact WkD.same _|exact WkO.same _ _ rfl|refine ⟨?_, ?_⟩|fail))⟩, ?_⟩
    rintro ⟨i, hi⟩
    have hmi := hml i
    have hmi1 := hml (i + 1)
    (try conv=>whnf);repeat' (first|(apply And.intro<;>try conv=>whnf)|(intro h;try conv=>whnf)|(apply infoT;rfl)|fail)
    · have hi' : i < a.pre.length := by simpa using lt_dec h
      obtain ⟨f, hn, hw⟩ : ∃ f, a.pre[i]? = some f ∧ a.pre.getD i [] = f := ⟨_, getD_mem hi', rfl⟩
      obtain ⟨hh, hlt⟩ := hph i hi'
      have hH := ck_Holds m f hf
      rw [hw] at hh
      rw [hh] at hH
      have hst := mixV_set (n := a.pre.length) (p := fun e => u64 (p e)) (q := fun _ => u64 0) (e := i)
      refine ⟨_, _, rfl, idx_map hn, rfl, ?_⟩
      (try conv=>whnf);repeat' (first|(apply And.intro<;>try conv=>whnf)|(intro h;try conv=>whnf)|(refine PureFn.dcq (f := 28) rfl ?_;try conv=>whnf)|(refine ⟨_, _, hH, ?_, ?_⟩;(focus first|(refine ⟨?_, ?_, trivial⟩<;>first|exact PLe.refl _|exact PLe.nil)|exact trivial);try conv=>whnf)|fail)
      · cases h
      refine ⟨i, rfl, by rw [hmi]; exact hi', ?_⟩
      (try conv=>whnf);repeat' (first|(apply And.intro<;>try conv=>whnf)|fail)
      refine ⟨_, mixV_old hi', Nat.le_refl 1, ?_⟩
      try conv=>whnf
      refine ⟨⟨i + 1, hi'⟩, by show a.pre.length - (i + 1) < a.pre.length - i; omega, ?_⟩
      (refine Wk.of ?_ ?_ rfl rfl rfl<;>repeat' (first|exact trivial|exact WkD.same _|exact WkO.same _ _ rfl|refine WkD.int ?_|refine ⟨?_, ?_⟩|(refine wrapA ?_ ?_ ?_;(focus simp;done);(focus (try dsimp only);omega);(focus (try dsimp only);omega))|fail))
      · exact WkD.eq (congrArg (DV.buf 2) (hmi.trans hmi1.symm))
      · exact WkO.same _ _ (congrArg (fun z => some (DObj.arr 1 z)) hst)
    · have hi' : i = a.pre.length := by have := ge_dec (m := (a.pre.map fpv).length) h (by simpa using hi); simpa using this
      subst hi'
      exact ⟨(), (by refine Wk.of ?_ ?_ rfl rfl rfl<;>repeat' (first|exact trivial|exact WkD.same _|exact WkO.same _ _ rfl|exact WkD.fz _ _ _ rfl (Or.inl ⟨_, rfl⟩) rfl|refine ⟨?_, ?_⟩|fail))⟩
  rintro ⟨⟩
  have hPl : ∀ w e, w ≤ n → e ≤ a.pre.length → ((pairsB p a.pre.length w e).map pairPV).length ≤ 1000 := fun w e hw he => by
    have h1 := pairsW_len p a.pre.length w
    have h2 := pairsE_len p w e
    have h3 : w * a.pre.length ≤ 64 * 8 := Nat.mul_le_mul (by omega) hn8
    rw [List.length_map, pairsB, List.length_append]; omega
  have hmN := hml a.pre.length
  have hmnn := hM.nn
  try conv=>whnf
  refine ⟨Unit, fun _ => [(13, .pv (.sl ((pairsB p a.pre.length n 0).map pairPV)))], fun _ => 4, fun _ => [], ?_, ?_⟩
  · try conv=>whnf
    refine ⟨{ w : Nat // w ≤ n }, fun w => [(2, .ref 0 0), (8, .pv (.sl (mixV a.pre.length (fun e => u64 (p e)) (fun _ => u64 0) a.pre.length))), (13, .buf 3 ((pairsB p a.pre.length w.1 0).map pairPV).length), (14, .pv (i64 w.1))], fun _ => 4, fun w => [(0, .var (cellsM m)), (3, .arr 2 ((pairsB p a.pre.length w.1 0).map pairPV))], fun w => n - w.1, ⟨⟨0, Nat.zero_le _⟩, (by refine Wk.of ?_ ?_ rfl rfl rfl<;>repeat' (first|exact trivial|exact WkD.same _|exact WkO.same _ _ rfl|exact WkD.new' rfl rfl rfl|exact WkO.new _ _ rfl|exact rfl|refine ⟨?_, ?_⟩|fail))⟩, ?_⟩
    rintro ⟨w, hw⟩
    try conv=>whnf
    refine ⟨{ e : Nat // e ≤ a.pre.length ∧ (w = n → e = 0) }, fun e => [(2, .ref 0 0), (8, .pv (.sl (mixV a.pre.length (fun e => u64 (p e)) (fun _ => u64 0) a.pre.length))), (13, .buf 3 ((pairsB p a.pre.length w e.1).map pairPV).length), (14, .pv (i64 w)), (61, .pv (.sl (mixV a.pre.length (fun e => u64 (p e)) (fun _ => u64 0) a.pre.length))), (62, .pv (i64 (mixV a.pre.length (fun e => u64 (p e)) (fun _ => u64 0) a.pre.length).length)), (63, .pv (i64 e.1))], fun _ => 4, fun e => [(0, .var (cellsM m)), (3, .arr 2 ((pairsB p a.pre.length w e.1).map pairPV))], fun e => a.pre.length - e.1, ⟨⟨0, Nat.zero_le _, fun _ => rfl⟩, (by refine Wk.of ?_ ?_ rfl rfl rfl<;>repeat' (first|exact trivial|exact WkD.same _|exact WkO.same _ _ rfl|refine ⟨?_, ?_⟩|fail))⟩, ?_⟩
    rintro ⟨e, he, hwe⟩
    have hple := hPl w e hw he
    (try conv=>whnf);repeat' (first|(apply And.intro<;>try conv=>whnf)|(intro h;try conv=>whnf)|(apply infoT;rfl)|fail)
    · have he' : e < a.pre.length := by have := lt_dec h; rwa [hmN] at this
      obtain ⟨_, hlt⟩ := hph e he'
      have h64 : p e < 2 ^ 64 := Nat.lt_of_lt_of_le hlt (pow64_le hn64)
      have hsu := pairsB_succ p a.pre.length w e
      refine ⟨e, _, rfl, mixV_new he' he', rfl, ?_⟩
      have hb0 : w ≠ n → (andU (shrU (p e) w) 1 == 0) = !(p e).testBit w := fun hwn => bit_zero h64 (by omega)
      (try conv=>whnf);repeat' (first|(apply And.intro<;>try conv=>whnf)|(intro h;try conv=>whnf)|(apply cellsI;rfl)|(apply szI;rfl)|fail)
      · have hwn : w = n := by
          have : (w : Int) = m.n := by simpa using h
          omega
        subst hwn
        obtain rfl : e = 0 := hwe rfl
        exact ⟨(), (by refine Wk.of ?_ ?_ rfl rfl rfl<;>repeat' (first|exact trivial|exact WkD.fz _ _ _ rfl (Or.inl ⟨_, rfl⟩) rfl|refine ⟨?_, ?_⟩|fail))⟩
      · exact Int.natCast_nonneg _
      · rename_i hw9
        have hwn : w ≠ n := fun e => by
          have : ¬ (w : Int) = m.n := by simpa using hw9
          omega
        have ht : (p e).testBit w = false := by
          have : (!(p e).testBit w) = true := by rw [← hb0 hwn]; exact h
          simpa using this
        rw [ht, cond_false] at hsu
        refine ⟨⟨e + 1, he', fun q => absurd q hwn⟩, by show a.pre.length - (e + 1) < a.pre.length - e; omega, ?_⟩
        (refine Wk.of ?_ ?_ rfl rfl rfl<;>repeat' (first|exact trivial|exact WkD.same _|exact WkO.same _ _ rfl|refine WkD.int ?_|refine ⟨?_, ?_⟩|(refine wrapA ?_ ?_ ?_;(focus simp;done);(focus (try dsimp only);omega);(focus (try dsimp only);omega))|fail))
        · exact WkD.eq (congrArg (fun l : List (Nat × Nat) => DV.buf 3 (l.map pairPV).length) hsu.symm)
        · exact WkO.same _ _ (congrArg (fun l : List (Nat × Nat) => some (DObj.arr 2 (l.map pairPV))) hsu.symm)
      · exact app_big (n := 1000) hple (by decide)
      · rename_i hw9
        have hwn : w ≠ n := fun e => by
          have : ¬ (w : Int) = m.n := by simpa using hw9
          omega
        have ht : (p e).testBit w = true := by
          have : (!(p e).testBit w) = false := by rw [← hb0 hwn]; exact h
          simpa using this
        rw [ht, cond_true] at hsu
        have er : (pairsB p a.pre.length w e).map pairPV ++ [.agg [.int .i64 (w : Int), .int .i64 (e : Int)]] = (pairsB p a.pre.length w (e + 1)).map pairPV := by rw [hsu, List.map_append]; rfl
        refine ⟨⟨e + 1, he', fun q => absurd q hwn⟩, by show a.pre.length - (e + 1) < a.pre.length - e; omega, ?_⟩
        (refine Wk.of ?_ ?_ rfl rfl rfl<;>repeat' (first|exact trivial|exact WkD.same _|exact WkO.same _ _ rfl|exact WkD.eq (congrArg (fun z : List PV => DV.buf _ z.length) er)|exact WkO.same _ _ (congrArg (fun z => some (DObj.arr _ z)) er)|refine WkD.int ?_|refine ⟨?_, ?_⟩|(refine wrapA ?_ ?_ ?_;(focus simp;done);(focus (try dsimp only);omega);(focus (try dsimp only);omega))|fail))
    · have he' : e = a.pre.length := by have := ge_dec h (by rw [hmN]; exact he); rwa [hmN] at this
      have hwn : w < n := by
        rcases Nat.lt_or_ge w n with q | q
        · exact q
        · have := hwe (by omega); omega
      subst he'
      have hew : pairsB p a.pre.length w a.pre.length = pairsB p a.pre.length (w + 1) 0 := by rw [pairsB_full, pairsB_zero]
      try conv=>whnf
      refine ⟨⟨w + 1, hwn⟩, by show n - (w + 1) < n - w; omega, ?_⟩
      (refine Wk.of ?_ ?_ rfl rfl rfl<;>repeat' (first|exact trivial|exact WkD.same _|exact WkO.same _ _ rfl|refine WkD.int ?_|refine ⟨?_, ?_⟩|(refine wrapA ?_ ?_ ?_;(focus simp;done);(focus (try dsimp only);omega);(focus (try dsimp only);omega))|fail))
      · exact WkD.eq (congrArg (fun l : List (Nat × Nat) => DV.buf 3 (l.map pairPV).length) hew)
      · exact WkO.same _ _ (congrArg (fun l : List (Nat × Nat) => some (DObj.arr 2 (l.map pairPV))) hew)
  rintro ⟨⟩
  rw [← pairsB_zero]
  generalize pairsB p a.pre.length n 0 = L
  have e9 : ((L.map pairPV).length : Int) = (L.length : Int) := by simp
  (try conv=>whnf);repeat' (first|(apply And.intro<;>try conv=>whnf)|(intro h;try conv=>whnf)|fail)
  · rw [show ((L.length : Int) == 0) = true by rw [← e9]; exact h]
    exact le_worlds _
  · rw [show ((L.length : Int) == 0) = false by rw [← e9]; exact h]
    exact .refl _
end Go.Proofs.Ytnbnkgcjgfmlcaa
set_option maxRecDepth 100000
set_option maxHeartbeats 4000000
namespace Go.Proofs.Ytnbnkgcjgfmlcaa
open Go Go.Dv

def cells0 : List DV := [.pv (.int .i64 0), .pv .nil, .pv .nil]
def pairD (q : Nat × Nat) : List DV := [.pv (i64 q.1), .pv (i64 q.2)]
/-- The heap while the values of a fact are reckoned. -/
def HV (m : Mo) (a : Act) (l : List (Nat × Nat)) (vs vl : List Nat) : List (Nat × DObj) :=
  [(0, .var (cellsM m)), (1, .var (cellsA a)), (2, .var cells0), (3, .var [.pv (.sl (l.map pairPV))]), (4, .var [.pv (i64 (l.map pairPV).length), .buf 5 (vs.map u64).length, .pv .nil]), (5, .arr 1 (vs.map u64)), (7, .var [.pv (rowPV vl)])]
theorem upd2 {M : Nat → Prop} {w0 : World} (m : Mo) (a : Act) (l : List (Nat × Nat)) (vs vl : List Nat) (q : Nat × Nat) (h1 : q.1 < 64) (h2 : q.2 < vl.length) (hv : ∀ s, s ∈ vl → s < 2 ^ 64) (base : Nat) (K : DV → DH → Prop) (hK : K (.pv (.bool ((vl.getD q.2 0).testBit q.1))) ⟨8, 0, base, objsOf (HV m a l vs vl)⟩) :
    DC Try.prog M w0 51 [.agg (pairD q), .ref 7 0] ⟨8, 0, base, objsOf (HV m a l vs vl)⟩ K := by
  refine DC.weaken (DC.intro mixed (fn := Try.f51) rfl rfl rfl ?_)
  obtain ⟨x, hx, hw⟩ : ∃ x, vl[q.2]? = some x ∧ vl.getD q.2 0 = x := ⟨_, getD_mem h2, rfl⟩
  have hx64 := hv x (List.mem_iff_getElem?.2 ⟨_, hx⟩)
  rw [hw, ← bit_one hx64 h1] at hK
  (try conv=>whnf);repeat' (first|(apply And.intro<;>try conv=>whnf)|(apply infoT;rfl)|(refine lin_plan (by kernel_rfl) ?_;try conv=>whnf)|(refine ⟨_, _, rfl, idx_map (by with_reducible assumption), rfl, ?_⟩;try conv=>whnf)|fail)
  · exact Int.natCast_nonneg _
  · exact ⟨_, 8, HV m a l vs vl, (by refine Wk.of ?_ ?_ rfl rfl rfl<;>repeat' (first|exact trivial|exact WkD.same _|exact WkO.same _ _ rfl|refine ⟨?_, ?_⟩|fail)), hK⟩
/-- The heap while the relation of an agent is reckoned, of a pair. -/
def HW (m : Mo) (a : Act) (l : List (Nat × Nat)) (vs : List Nat) (rs : List (List Nat)) (i : Nat) (r : List Nat) (mx : List PV) (x : Nat × Nat) : List (Nat × DObj) :=
  [(0, .var (cellsM m)), (1, .var (cellsA a)), (2, .var cells0), (3, .var [.pv (.sl (l.map pairPV))]), (4, .var [.pv (i64 (l.map pairPV).length), .pv (rowPV vs), .buf 5 (rs.map rowPV).length]), (5, .arr 1 (rs.map rowPV)), (6, .var [.pv (i64 i)]), (7, .var [.pv (rowPV r)]), (8, .arr 1 mx), (9, .var (pairD x))]
theorem upd3 {M : Nat → Prop} {w0 : World} (m : Mo) (a : Act) (l : List (Nat × Nat)) (vs : List Nat) (rs : List (List Nat)) (i : Nat) (r : List Nat) (mx : List PV) (x q : Nat × Nat) (ra : List Nat) (hra : a.rel[i]? = some ra)
    (hx1 : x.1 < r.length) (hx2 : x.2 < ra.length) (hq1 : q.1 < 64) (hq2 : q.2 < 64) (hr : ∀ s, s ∈ r → s < 2 ^ 64) (hr2 : ∀ s, s ∈ ra → s < 2 ^ 64) (base : Nat) (K : DV → DH → Prop) (hK : K (.pv (.bool (seesP r ra x q))) ⟨10, 0, base, objsOf (HW m a l vs rs i r mx x)⟩) :
    DC Try.prog M w0 52 [.agg (pairD q), .ref 7 0, .ref 9 0, .ref 1 0, .ref 6 0] ⟨10, 0, base, objsOf (HW m a l vs rs i r mx x)⟩ K := by
  refine DC.weaken (DC.intro mixed (fn := Try.f52) rfl rfl rfl ?_)
  obtain ⟨u, hu, hw⟩ : ∃ u, r[x.1]? = some u ∧ r.getD x.1 0 = u := ⟨_, getD_mem hx1, rfl⟩
  obtain ⟨v, hv, hw2⟩ : ∃ v, ra[x.2]? = some v ∧ ra.getD x.2 0 = v := ⟨_, getD_mem hx2, rfl⟩
  have hu64 := hr u (List.mem_iff_getElem?.2 ⟨_, hu⟩)
  have hv64 := hr2 v (List.mem_iff_getElem?.2 ⟨_, hv⟩)
  rw [seesP, hw, hw2, ← bit_one hu64 hq1, ← bit_one hv64 hq2] at hK
  (try conv=>whnf);repeat' (first|(apply And.intro<;>try conv=>whnf)|(intro h;try conv=>whnf)|apply True.intro|(apply infoT;rfl)|(apply WhenQ.mk;(try conv=>whnf);rotate_left;(try conv=>whnf);rotate_right)|with_reducible assumption|(refine lin_plan (by kernel_rfl) ?_;try conv=>whnf)|(refine ⟨_, _, rfl, idx_map (by with_reducible assumption), rfl, ?_⟩;try conv=>whnf)|fail)
  · exact Int.natCast_nonneg _
  · exact Int.natCast_nonneg _
  · exact ⟨_, 10, HW m a l vs rs i r mx x, (by refine Wk.of ?_ ?_ rfl rfl rfl<;>repeat' (first|exact trivial|exact WkD.same _|exact WkO.same _ _ rfl|refine ⟨?_, ?_⟩|fail)), hK⟩
theorem whr_V {M : Nat → Prop} {w0 : World} (m : Mo) (a : Act) (l : List (Nat × Nat)) (vs vl : List Nat) (hlp : ∀ y, y ∈ l → y.1 < 64 ∧ y.2 < vl.length) (hv : ∀ s, s ∈ vl → s < 2 ^ 64) (hl : l.length ≤ 64) (base : Nat) (K : DV → DH → Prop) (hK : K (.pv (u64 (maskOf (fun k => (fun q : Nat × Nat => (vl.getD q.2 0).testBit q.1) (l.getD k (0, 0))) l.length))) ⟨8, 0, base, objsOf (HV m a l vs vl)⟩) :
    DC Try.prog M w0 49 [.clo 51 [] [.ref 7 0], .ref 3 0] ⟨8, 0, base, objsOf (HV m a l vs vl)⟩ K := by
  refine DC.weaken (DC.intro mixed (fn := Try.f49) rfl rfl rfl ?_)
  try conv=>whnf
  refine ⟨{ i : Nat // i ≤ l.length }, fun i => [(0, .clo 51 [] [.ref 7 0]), (4, .pv (u64 (maskOf (fun k => (fun q : Nat × Nat => (vl.getD q.2 0).testBit q.1) (l.getD k (0, 0))) i.1))), (7, .pv (.sl (l.map pairPV))), (8, .pv (i64 (l.map pairPV).length)), (9, .pv (i64 i.1))], fun _ => 8, fun _ => HV m a l vs vl, fun i => l.length - i.1, ⟨⟨0, Nat.zero_le _⟩, (by refine Wk.of ?_ ?_ rfl rfl rfl<;>repeat' (first|exact trivial|exact WkD.same _|exact WkO.same _ _ rfl|refine ⟨?_, ?_⟩|fail))⟩, ?_⟩
  rintro ⟨j, hj⟩
  (try conv=>whnf);repeat' (first|(apply And.intro<;>try conv=>whnf)|(intro h;try conv=>whnf)|(apply infoT;rfl)|fail)
  · have hj' : j < l.length := by simpa using lt_dec h
    obtain ⟨y, hy, hyw⟩ : ∃ y, l[j]? = some y ∧ l.getD j (0, 0) = y := ⟨_, getD_mem hj', rfl⟩
    have hym : y ∈ l := List.mem_iff_getElem?.2 ⟨j, hy⟩
    refine ⟨_, _, rfl, idx_map hy, rfl, ?_⟩
    try conv=>whnf
    refine DC.call 8 (HV m a l vs vl) ⟨rfl, rfl, rfl, rfl, rfl, rfl, rfl, rfl, trivial⟩ rfl rfl rfl rfl fun M' => ?_
    refine upd2 m a l vs vl y (hlp y hym).1 (hlp y hym).2 hv _ _ ?_
    refine ⟨rfl, ?_⟩
    (try conv=>whnf);repeat' (first|(apply And.intro<;>try conv=>whnf)|(intro h;try conv=>whnf)|fail)
    · exact Int.natCast_nonneg _
    · have hq : (fun q : Nat × Nat => (vl.getD q.2 0).testBit q.1) (l.getD j (0, 0)) = true := by rw [hyw]; exact h
      refine ⟨⟨j + 1, hj'⟩, by show l.length - (j + 1) < l.length - j; omega, ?_⟩
      (refine Wk.of ?_ ?_ rfl rfl rfl<;>repeat' (first|exact trivial|exact WkD.same _|exact WkO.same _ _ rfl|refine WkD.int ?_|refine ⟨?_, ?_⟩|(refine wrapA ?_ ?_ ?_;(focus simp;done);(focus (try dsimp only);omega);(focus (try dsimp only);omega))|fail))
      exact or_shl (q := fun k => (fun q : Nat × Nat => (vl.getD q.2 0).testBit q.1) (l.getD k (0, 0))) (w := j) (by omega) hq
    · have hq : (fun q : Nat × Nat => (vl.getD q.2 0).testBit q.1) (l.getD j (0, 0)) = false := by rw [hyw]; exact h
      refine ⟨⟨j + 1, hj'⟩, by show l.length - (j + 1) < l.length - j; omega, ?_⟩
      (refine Wk.of ?_ ?_ rfl rfl rfl<;>repeat' (first|exact trivial|exact WkD.same _|exact WkO.same _ _ rfl|refine WkD.int ?_|refine ⟨?_, ?_⟩|(refine wrapA ?_ ?_ ?_;(focus simp;done);(focus (try dsimp only);omega);(focus (try dsimp only);omega))|fail))
      exact congrArg (fun z : Nat => (z : Int)) (mask_no (q := fun k => (fun q : Nat × Nat => (vl.getD q.2 0).testBit q.1) (l.getD k (0, 0))) hq)
  · have hj' : j = l.length := by have := ge_dec (m := (l.map pairPV).length) h (by simpa using hj); simpa using this
    subst hj'
    exact ⟨_, 8, HV m a l vs vl, (by refine Wk.of ?_ ?_ rfl rfl rfl<;>repeat' (first|exact trivial|exact WkD.same _|exact WkO.same _ _ rfl|refine ⟨?_, ?_⟩|fail)), hK⟩
theorem whr_W {M : Nat → Prop} {w0 : World} (m : Mo) (a : Act) (l : List (Nat × Nat)) (vs : List Nat) (rs : List (List Nat)) (i : Nat) (r : List Nat) (mx : List PV) (x : Nat × Nat) (ra : List Nat) (hra : a.rel[i]? = some ra) (hx1 : x.1 < r.length) (hx2 : x.2 < ra.length) (hlp : ∀ y, y ∈ l → y.1 < 64 ∧ y.2 < 64) (hr : ∀ s, s ∈ r → s < 2 ^ 64) (hr2 : ∀ s, s ∈ ra → s < 2 ^ 64) (hl : l.length ≤ 64) (base : Nat) (K : DV → DH → Prop) (hK : K (.pv (u64 (maskOf (fun k => (fun q : Nat × Nat => seesP r ra x q) (l.getD k (0, 0))) l.length))) ⟨10, 0, base, objsOf (HW m a l vs rs i r mx x)⟩) :
    DC Try.prog M w0 49 [.clo 52 [] [.ref 7 0, .ref 9 0, .ref 1 0, .ref 6 0], .ref 3 0] ⟨10, 0, base, objsOf (HW m a l vs rs i r mx x)⟩ K := by
  refine DC.weaken (DC.intro mixed (fn := Try.f49) rfl rfl rfl ?_)
  try conv=>whnf
  refine ⟨{ i : Nat // i ≤ l.length }, fun i => [(0, .clo 52 [] [.ref 7 0, .ref 9 0, .ref 1 0, .ref 6 0]), (4, .pv (u64 (maskOf (fun k => (fun q : Nat × Nat => seesP r ra x q) (l.getD k (0, 0))) i.1))), (7, .pv (.sl (l.map pairPV))), (8, .pv (i64 (l.map pairPV).length)), (9, .pv (i64 i.1))], fun _ => 10, fun _ => HW m a l vs rs i r mx x, fun i => l.length - i.1, ⟨⟨0, Nat.zero_le _⟩, (by refine Wk.of ?_ ?_ rfl rfl rfl<;>repeat' (first|exact trivial|exact WkD.same _|exact WkO.same _ _ rfl|refine ⟨?_, ?_⟩|fail))⟩, ?_⟩
  rintro ⟨j, hj⟩
  (try conv=>whnf);repeat' (first|(apply And.intro<;>try conv=>whnf)|(intro h;try conv=>whnf)|(apply infoT;rfl)|fail)
  · have hj' : j < l.length := by simpa using lt_dec h
    obtain ⟨y, hy, hyw⟩ : ∃ y, l[j]? = some y ∧ l.getD j (0, 0) = y := ⟨_, getD_mem hj', rfl⟩
    have hym : y ∈ l := List.mem_iff_getElem?.2 ⟨j, hy⟩
    refine ⟨_, _, rfl, idx_map hy, rfl, ?_⟩
    try conv=>whnf
    refine DC.call 10 (HW m a l vs rs i r mx x) ⟨rfl, rfl, rfl, rfl, rfl, rfl, rfl, rfl, rfl, rfl, trivial⟩ rfl rfl rfl rfl fun M' => ?_
    refine upd3 m a l vs rs i r mx x y ra hra hx1 hx2 (hlp y hym).1 (hlp y hym).2 hr hr2 _ _ ?_
    refine ⟨rfl, ?_⟩
    (try conv=>whnf);repeat' (first|(apply And.intro<;>try conv=>whnf)|(intro h;try conv=>whnf)|fail)
    · exact Int.natCast_nonneg _
    · have hq : (fun q : Nat × Nat => seesP r ra x q) (l.getD j (0, 0)) = true := by rw [hyw]; exact h
      refine ⟨⟨j + 1, hj'⟩, by show l.length - (j + 1) < l.length - j; omega, ?_⟩
      (refine Wk.of ?_ ?_ rfl rfl rfl<;>repeat' (first|exact trivial|exact WkD.same _|exact WkO.same _ _ rfl|refine WkD.int ?_|refine ⟨?_, ?_⟩|(refine wrapA ?_ ?_ ?_;(focus simp;done);(focus (try dsimp only);omega);(focus (try dsimp only);omega))|fail))
      exact or_shl (q := fun k => (fun q : Nat × Nat => seesP r ra x q) (l.getD k (0, 0))) (w := j) (by omega) hq
    · have hq : (fun q : Nat × Nat => seesP r ra x q) (l.getD j (0, 0)) = false := by rw [hyw]; exact h
      refine ⟨⟨j + 1, hj'⟩, by show l.length - (j + 1) < l.length - j; omega, ?_⟩
      (refine Wk.of ?_ ?_ rfl rfl rfl<;>repeat' (first|exact trivial|exact WkD.same _|exact WkO.same _ _ rfl|refine WkD.int ?_|refine ⟨?_, ?_⟩|(refine wrapA ?_ ?_ ?_;(focus simp;done);(focus (try dsimp only);omega);(focus (try dsimp only);omega))|fail))
      exact congrArg (fun z : Nat => (z : Int)) (mask_no (q := fun k => (fun q : Nat × Nat => seesP r ra x q) (l.getD k (0, 0))) hq)
  · have hj' : j = l.length := by have := ge_dec (m := (l.map pairPV).length) h (by simpa using hj); simpa using this
    subst hj'
    exact ⟨_, 10, HW m a l vs rs i r mx x, (by refine Wk.of ?_ ?_ rfl rfl rfl<;>repeat' (first|exact trivial|exact WkD.same _|exact WkO.same _ _ rfl|refine ⟨?_, ?_⟩|fail)), hK⟩
end Go.Proofs.Ytnbnkgcjgfmlcaa
set_option maxRecDepth 100000
set_option maxHeartbeats 4000000
namespace Go.Proofs.Ytnbnkgcjgfmlcaa
open Go Go.Dv

def vsU (m : Mo) (a : Act) (l : List (Nat × Nat)) (i : Nat) : List Nat := (List.range i).map (valP m a l)
def rsU (m : Mo) (a : Act) (l : List (Nat × Nat)) (i : Nat) : List (List Nat) := (List.range i).map (relP m a l)
theorem vsU_succ (m : Mo) (a : Act) (l : List (Nat × Nat)) (i : Nat) : vsU m a l (i + 1) = vsU m a l i ++ [valP m a l i] := by rw [vsU, List.range_succ, List.map_append]; rfl
theorem rsU_succ (m : Mo) (a : Act) (l : List (Nat × Nat)) (i : Nat) : rsU m a l (i + 1) = rsU m a l i ++ [relP m a l i] := by rw [rsU, List.range_succ, List.map_append]; rfl
def vlU (m : Mo) (a : Act) (i : Nat) : List Nat := (List.range a.pre.length).map fun e => valuP m a e i
theorem vlU_get {m : Mo} {a : Act} {i e : Nat} (h : e < a.pre.length) : (vlU m a i).getD e 0 = valuP m a e i := by
  rw [vlU, List.getD_eq_getElem?_getD, List.getElem?_map, List.getElem?_range h]; rfl
def updPlan : Plan := .one 2 (.one 3 (.two 0 (.two 1 (.one 4 (.one 5 (.one 6 (.one 7 (.one 8 .done))))) 4 (.one 1 (.one 5 (.one 6 (.one 7 (.one 8 .done)))))) 4 (.one 0 (.one 1 (.one 5 (.one 6 (.one 7 (.one 8 .done))))))))
theorem pr_Update (m : Mo) (a : Act) (hf : FitM m) (hfa : Fit a) (hl : a.rel.length ≤ 1000) (hp : ∀ l, l ∈ a.post → l.length ≤ 1000) : PureFn Try.prog 12 [m.pv, a.pv] (updPV (updI m a)) := by
  refine PureFn.introC [4, 6, 20, 22, 31, 33] mixed (fn := Try.f12) rfl rfl rfl fun M w0 => ?_
  have hW := pr_Worlds m a hf hfa hl hp
  obtain ⟨l, e, hX⟩ : ∃ l e, worldsI m a = (l, e) := ⟨_, _, rfl⟩
  have hwo := worldsI_ok (m := m) (a := a)
  rw [updI]
  rw [hX] at hW hwo ⊢
  clear hX
  have e9 : ((l.map pairPV).length : Int) = (l.length : Int) := by simp
  (try conv=>whnf);repeat' (first|(refine PureFn.dcq (f := 17) rfl ?_;try conv=>whnf)|(refine ⟨_, _, hW, ?_, ?_⟩;(focus first|(refine ⟨?_, ?_, trivial⟩<;>first|exact PLe.refl _|exact PLe.nil)|exact trivial);try conv=>whnf)|fail)
  refine ⟨{ _x : Unit // (e != 0) = false }, fun _ => [(2, .ref 0 0), (3, .ref 1 0), (4, .ref 2 0), (7, .ref 3 0)], fun _ => 4, fun _ => [(0, .var (cellsM m)), (1, .var (cellsA a)), (2, .var cells0), (3, .var [.pv (.sl (l.map pairPV))])], ?_, ?_⟩
  · (try conv=>whnf);repeat' (first|(apply And.intro<;>try conv=>whnf)|(intro h;try conv=>whnf)|fail)
    · rw [show (((l, e) : List (Nat × Nat) × Int).2 != 0) = true from h]; exact le_upd _
    · exact ⟨⟨(), h⟩, (by refine Wk.of ?_ ?_ rfl rfl rfl<;>repeat' (first|exact trivial|exact WkD.same _|exact WkO.same _ _ rfl|refine ⟨?_, ?_⟩|fail))⟩
  rintro ⟨_, h1⟩
  obtain ⟨hma, hpl, hl1⟩ := hwo (show e = 0 by simpa using h1)
  obtain ⟨⟨n, hM⟩, hAc⟩ := moaI_ok hma
  have hO := actI_ok hAc
  have hn8 := hO.n8
  have hn64 := hM.n64
  have hfa8 := hM.fa
  have hag := hM.ag
  have hpl : l = pairsL m a := hpl
  have hmem : ∀ y, y ∈ l → y.1 < n ∧ y.2 < a.pre.length := fun y hy => by
    rw [hpl, pairsL, hM.nn] at hy
    have := pairsW_mem.1 hy
    exact ⟨this.1, this.2.1⟩
  clear hpl hl1
  refine ⟨{ _x : Unit // decide ((l.length : Int) > 64) = false }, fun _ => [(2, .ref 0 0), (3, .ref 1 0), (4, .ref 2 0), (7, .ref 3 0)], fun _ => 4, fun _ => [(0, .var (cellsM m)), (1, .var (cellsA a)), (2, .var cells0), (3, .var [.pv (.sl (l.map pairPV))])], ?_, ?_⟩
  · (try conv=>whnf);repeat' (first|(apply And.intro<;>try conv=>whnf)|(intro h;try conv=>whnf)|fail)
    · have h9 : decide ((l.length : Int) > 64) = true := by rw [← e9]; exact h
      rw [show (((l, e) : List (Nat × Nat) × Int).2 != 0) = false from h1, show decide ((((l, e) : List (Nat × Nat) × Int).1.length : Int) > 64) = true from h9]
      exact le_upd _
    · exact ⟨⟨(), by rw [← e9]; exact h⟩, (by refine Wk.of ?_ ?_ rfl rfl rfl<;>repeat' (first|exact trivial|exact WkD.same _|exact WkO.same _ _ rfl|refine ⟨?_, ?_⟩|fail))⟩
  rintro ⟨_, h2⟩
  have hl64 : l.length ≤ 64 := by have := of_decide_eq_false h2; omega
  have hres : (bif (((l, e) : List (Nat × Nat) × Int).2 != 0) then (noMo, ([] : List (Nat × Nat)), ((l, e) : List (Nat × Nat) × Int).2) else bif decide ((((l, e) : List (Nat × Nat) × Int).1.length : Int) > 64) then (noMo, [], 8) else (prodM m a ((l, e) : List (Nat × Nat) × Int).1, ((l, e) : List (Nat × Nat) × Int).1, (0 : Int))) = (prodM m a l, l, 0) := by
    rw [show (((l, e) : List (Nat × Nat) × Int).2 != 0) = false from h1, show decide ((((l, e) : List (Nat × Nat) × Int).1.length : Int) > 64) = false from h2]; rfl
  rw [hres]
  clear hres
  try conv=>whnf
  refine ⟨Unit, fun _ => [(2, .ref 0 0), (3, .ref 1 0), (4, .ref 2 0), (7, .ref 3 0), (9, .clo 49 [] [.ref 3 0]), (10, .ref 4 0)], fun _ => 5, fun _ => [(0, .var (cellsM m)), (1, .var (cellsA a)), (2, .var cells0), (3, .var [.pv (.sl (l.map pairPV))]), (4, .var [.pv (i64 (l.map pairPV).length), .pv (rowPV (vsU m a l m.val.length)), .pv .nil])], ?_, ?_⟩
  · try conv=>whnf
    refine ⟨{ i : Nat // i ≤ m.val.length }, fun i => [(2, .ref 0 0), (3, .ref 1 0), (4, .ref 2 0), (7, .ref 3 0), (9, .clo 49 [] [.ref 3 0]), (10, .ref 4 0), (41, .pv (i64 (m.val.map u64).length)), (42, .pv (i64 i.1))], fun _ => 6, fun i => [(0, .var (cellsM m)), (1, .var (cellsA a)), (2, .var cells0), (3, .var [.pv (.sl (l.map pairPV))]), (4, .var [.pv (i64 (l.map pairPV).length), .buf 5 ((vsU m a l i.1).map u64).length, .pv .nil]), (5, .arr 1 ((vsU m a l i.1).map u64))], fun i => m.val.length - i.1, ⟨⟨0, Nat.zero_le _⟩, (by refine Wk.of ?_ ?_ rfl rfl rfl<;>repeat' (first|exact trivial|exact WkD.same _|exact WkO.same _ _ rfl|exact WkD.new' rfl rfl rfl|exact WkO.new _ _ rfl|refine WkO.vars rfl ?_|exact rfl|refine ⟨?_, ?_⟩|fail))⟩, ?_⟩
    rintro ⟨i, hi⟩
    (try conv=>whnf);repeat' (first|(apply And.intro<;>try conv=>whnf)|(intro h;try conv=>whnf)|fail)
    · rfl
    · exact Int.natCast_nonneg _
    · show ((a.pre.map fpv).length : Int) ≤ 4294967296
      rw [List.length_map]; omega
    · have hi' : i < m.val.length := by simpa using lt_dec h
      have hN : ((a.pre.map fpv).length : Int).toNat = a.pre.length := by rw [List.length_map]; rfl
      have hz1 : List.replicate ((a.pre.map fpv).length : Int).toNat (PV.int .u64 0) = (mixV a.pre.length (fun e => u64 (valuP m a e i)) (fun _ => u64 0) 0) := by rw [hN]; exact mixV_rep _ _ _
      have hmlv := mixV_len a.pre.length (fun e => u64 (valuP m a e i)) (fun _ => u64 0)
      refine ⟨Unit, fun _ => [(2, .ref 0 0), (3, .ref 1 0), (4, .ref 2 0), (7, .ref 3 0), (9, .clo 49 [] [.ref 3 0]), (10, .ref 4 0), (12, .ref 7 0), (41, .pv (i64 (m.val.map u64).length)), (42, .pv (i64 i))], fun _ => 8, fun _ => [(0, .var (cellsM m)), (1, .var (cellsA a)), (2, .var cells0), (3, .var [.pv (.sl (l.map pairPV))]), (4, .var [.pv (i64 (l.map pairPV).length), .buf 5 ((vsU m a l i).map u64).length, .pv .nil]), (5, .arr 1 ((vsU m a l i).map u64)), (7, .var [.pv (.sl (mixV a.pre.length (fun e => u64 (valuP m a e i)) (fun _ => u64 0) a.pre.length))])], ?_, ?_⟩
      · try conv=>whnf
        refine ⟨{ k : Nat // k ≤ a.pre.length }, fun k => [(2, .ref 0 0), (3, .ref 1 0), (4, .ref 2 0), (7, .ref 3 0), (9, .clo 49 [] [.ref 3 0]), (10, .ref 4 0), (11, .pv (i64 i)), (12, .ref 7 0), (41, .pv (i64 (m.val.map u64).length)), (42, .pv (i64 i)), (50, .pv (i64 a.pre.length)), (51, .pv (i64 k.1))], fun _ => 8, fun k => [(0, .var (cellsM m)), (1, .var (cellsA a)), (2, .var cells0), (3, .var [.pv (.sl (l.map pairPV))]), (4, .var [.pv (i64 (l.map pairPV).length), .buf 5 ((vsU m a l i).map u64).length, .pv .nil]), (5, .arr 1 ((vsU m a l i).map u64)), (6, .arr 1 (mixV a.pre.length (fun e => u64 (valuP m a e i)) (fun _ => u64 0) k.1)), (7, .var [.buf 6 (mixV a.pre.length (fun e => u64 (valuP m a e i)) (fun _ => u64 0) k.1).length])], fun k => a.pre.length - k.1, ⟨⟨0, Nat.zero_le _⟩, ?_⟩, ?_⟩
        · (refine Wk.of ?_ ?_ rfl rfl rfl<;>repeat' (first|exact trivial|exact WkD.same _|exact WkO.same _ _ rfl|refine WkD.int ?_|refine WkO.vars rfl ?_|refine ⟨?_, ?_⟩|fail))
          · exact congrArg (fun z : Nat => (z : Int)) ((List.length_replicate ..).trans hN)
          · exact WkO.same _ _ (congrArg (fun z => some (DObj.arr 1 z)) hz1)
          · exact WkD.eq (congrArg (fun z : List PV => DV.buf 6 z.length) hz1)
        rintro ⟨k, hk⟩
        have hmk := hmlv k
        have hmk1 := hmlv (k + 1)
        have hst := mixV_set (n := a.pre.length) (p := fun e => u64 (valuP m a e i)) (q := fun _ => u64 0) (e := k)
        (try conv=>whnf);repeat' (first|(apply And.intro<;>try conv=>whnf)|(intro h;try conv=>whnf)|fail)
        · have hk' : k < a.pre.length := lt_dec h
          have hV := ac_Value a k i hfa hl hp
          have hv0 := valI_ok hma hk' hi'
          obtain ⟨g, hg⟩ : ∃ g, valI a k i = (g, 0) := ⟨(valI a k i).1, Prod.ext rfl hv0⟩
          rw [hg] at hV
          have hH := ck_Holds m g hf
          have hvp : (holdsI m g).1 = valuP m a k i := by rw [valuP, hg]
          obtain ⟨z, hz⟩ : ∃ z, holdsI m g = (valuP m a k i, z) := ⟨(holdsI m g).2, Prod.ext hvp rfl⟩
          rw [hz] at hH
          (try conv=>whnf);repeat' (first|(apply And.intro<;>try conv=>whnf)|(intro h;try conv=>whnf)|(refine PureFn.dcq (f := 50) rfl ?_;try conv=>whnf)|(refine ⟨_, _, hV, ?_, ?_⟩;(focus first|(refine ⟨?_, ?_, ?_, trivial⟩<;>first|exact PLe.refl _|exact PLe.nil)|exact trivial);try conv=>whnf)|fail)
          · cases h
          refine ⟨Plan.lin 0 10, [9], by kernel_rfl, ?_⟩
          (try conv=>whnf);repeat' (first|(apply And.intro<;>try conv=>whnf)|(refine ⟨_, (by (conv=>whnf);exact hH), rfl, ?_⟩;try conv=>whnf)|fail)
          refine ⟨k, rfl, by rw [hmk]; exact hk', ?_⟩
          (try conv=>whnf);repeat' (first|(apply And.intro<;>try conv=>whnf)|fail)
          refine ⟨_, mixV_old hk', Nat.le_refl 1, ?_⟩
          try conv=>whnf
          refine ⟨⟨k + 1, hk'⟩, by show a.pre.length - (k + 1) < a.pre.length - k; omega, ?_⟩
          (refine Wk.of ?_ ?_ rfl rfl rfl<;>repeat' (first|exact trivial|exact WkD.same _|exact WkO.same _ _ rfl|refine WkD.int ?_|refine WkO.vars rfl ?_|refine ⟨?_, ?_⟩|(refine wrapA ?_ ?_ ?_;(focus simp;done);(focus (try dsimp only);omega);(focus (try dsimp only);omega))|fail))
          · exact WkO.same _ _ (congrArg (fun z => some (DObj.arr 1 z)) hst)
          · exact WkD.eq (congrArg (DV.buf 6) (hmk.trans hmk1.symm))
        · have hk' : k = a.pre.length := ge_dec h hk
          subst hk'
          exact ⟨(), (by refine Wk.of ?_ ?_ rfl rfl rfl<;>repeat' (first|exact trivial|exact WkD.same _|exact WkO.same _ _ rfl|exact WkD.fz _ _ _ rfl (Or.inl ⟨_, rfl⟩) rfl|refine WkO.vars rfl ?_|refine ⟨?_, ?_⟩|fail))⟩
      rintro ⟨⟩
      have hvl : (mixV a.pre.length (fun e => u64 (valuP m a e i)) (fun _ => u64 0) a.pre.length) = (vlU m a i).map u64 := by rw [mixV_full, vlU, List.map_map]; rfl
      have hlv : (vlU m a i).length = a.pre.length := by simp [vlU]
      have hv64 : ∀ s, s ∈ vlU m a i → s < 2 ^ 64 := fun s hs => by
        obtain ⟨e, _, rfl⟩ := List.mem_map.1 hs
        exact Nat.lt_of_lt_of_le (holds_lt n hM) (pow64_le hn64)
      have hmk : maskOf (fun k => ((vlU m a i).getD (l.getD k (0, 0)).2 0).testBit (l.getD k (0, 0)).1) l.length = valP m a l i := maskOf_congr fun k hk => by
        rw [vlU_get (hmem _ (List.mem_iff_getElem?.2 ⟨k, getD_mem hk⟩)).2]
      have hvs := vsU_succ m a l i
      have hvsl : ((vsU m a l i).map u64).length ≤ 1000 := by simp [vsU]; omega
      rw [hvl]
      try conv=>whnf
      have er : (vsU m a l i).map u64 ++ [PV.int .u64 ((valP m a l i : Nat) : Int)] = (vsU m a l (i + 1)).map u64 := by rw [hvs, List.map_append]; rfl
      have hlpV : ∀ y, y ∈ l → y.1 < 64 ∧ y.2 < (vlU m a i).length := fun y hy => ⟨by have := (hmem y hy).1; omega, by rw [hlv]; exact (hmem y hy).2⟩
      refine ⟨updPlan, [4, 6, 8], by kernel_rfl, ?_⟩
      (try conv=>whnf);repeat' (first|(apply And.intro<;>try conv=>whnf)|fail)
      all_goals (refine whr_V m a l (vsU m a l i) (vlU m a i) hlpV hv64 hl64 _ _ ?_)
      all_goals (rw [hmk])
      all_goals ((try conv=>whnf);repeat' (first|(apply And.intro<;>try conv=>whnf)|(apply cellsI;rfl)|(apply szI;rfl)|fail))
      · exact app_big (n := 1000) hvsl (by decide)
      · refine ⟨⟨i + 1, hi'⟩, by show m.val.length - (i + 1) < m.val.length - i; omega, ?_⟩
        (refine Wk.of ?_ ?_ rfl rfl rfl<;>repeat' (first|exact trivial|exact WkD.same _|exact WkO.same _ _ rfl|exact WkD.eq (congrArg (fun z : List PV => DV.buf _ z.length) er)|exact WkO.same _ _ (congrArg (fun z => some (DObj.arr _ z)) er)|refine WkD.int ?_|refine WkO.vars rfl ?_|refine ⟨?_, ?_⟩|(refine wrapA ?_ ?_ ?_;(focus simp;done);(focus (try dsimp only);omega);(focus (try dsimp only);omega))|fail))
      · exact app_big (n := 1000) hvsl (by decide)
      · refine ⟨⟨i + 1, hi'⟩, by show m.val.length - (i + 1) < m.val.length - i; omega, ?_⟩
        (refine Wk.of ?_ ?_ rfl rfl rfl<;>repeat' (first|exact trivial|exact WkD.same _|exact WkO.same _ _ rfl|exact WkD.eq (congrArg (fun z : List PV => DV.buf _ z.length) er)|exact WkO.same _ _ (congrArg (fun z => some (DObj.arr _ z)) er)|refine WkD.int ?_|refine WkO.vars rfl ?_|refine ⟨?_, ?_⟩|(refine wrapA ?_ ?_ ?_;(focus simp;done);(focus (try dsimp only);omega);(focus (try dsimp only);omega))|fail))
      · exact app_big (n := 1000) hvsl (by decide)
      · refine ⟨⟨i + 1, hi'⟩, by show m.val.length - (i + 1) < m.val.length - i; omega, ?_⟩
        (refine Wk.of ?_ ?_ rfl rfl rfl<;>repeat' (first|exact trivial|exact WkD.same _|exact WkO.same _ _ rfl|exact WkD.eq (congrArg (fun z : List PV => DV.buf _ z.length) er)|exact WkO.same _ _ (congrArg (fun z => some (DObj.arr _ z)) er)|refine WkD.int ?_|refine WkO.vars rfl ?_|refine ⟨?_, ?_⟩|(refine wrapA ?_ ?_ ?_;(focus simp;done);(focus (try dsimp only);omega);(focus (try dsimp only);omega))|fail))
    · have hi' : i = m.val.length := by have := ge_dec (m := (m.val.map u64).length) h (by simpa using hi); simpa using this
      subst hi'
      exact ⟨(), (by refine Wk.of ?_ ?_ rfl rfl rfl<;>repeat' (first|exact trivial|exact WkD.same _|exact WkO.same _ _ rfl|exact WkD.fz _ _ _ rfl (Or.inl ⟨_, rfl⟩) rfl|refine WkO.vars rfl ?_|refine ⟨?_, ?_⟩|fail))⟩
  rintro ⟨⟩
  generalize hVS : (vsU m a l m.val.length) = vs
  refine ⟨Unit, fun _ => [(4, .ref 2 0), (7, .ref 3 0), (10, .ref 4 0)], fun _ => 5, fun _ => [(2, .var cells0), (3, .var [.pv (.sl (l.map pairPV))]), (4, .var [.pv (i64 (l.map pairPV).length), .pv (rowPV vs), .pv (.sl ((rsU m a l m.rel.length).map rowPV))])], ?_, ?_⟩
  · try conv=>whnf
    refine ⟨{ i : Nat // i ≤ m.rel.length }, fun i => [(2, .ref 0 0), (3, .ref 1 0), (4, .ref 2 0), (7, .ref 3 0), (9, .clo 49 [] [.ref 3 0]), (10, .ref 4 0), (85, .pv (.sl (m.rel.map rowPV))), (86, .pv (i64 (m.rel.map rowPV).length)), (87, .pv (i64 i.1))], fun _ => 6, fun i => [(0, .var (cellsM m)), (1, .var (cellsA a)), (2, .var cells0), (3, .var [.pv (.sl (l.map pairPV))]), (4, .var [.pv (i64 (l.map pairPV).length), .pv (rowPV vs), .buf 5 ((rsU m a l i.1).map rowPV).length]), (5, .arr 1 ((rsU m a l i.1).map rowPV))], fun i => m.rel.length - i.1, ⟨⟨0, Nat.zero_le _⟩, (by refine Wk.of ?_ ?_ rfl rfl rfl<;>repeat' (first|exact trivial|exact WkD.same _|exact WkO.same _ _ rfl|exact WkD.new' rfl rfl rfl|exact WkO.new _ _ rfl|refine WkO.vars rfl ?_|exact rfl|refine ⟨?_, ?_⟩|fail))⟩, ?_⟩
    rintro ⟨i, hi⟩
    (try conv=>whnf);repeat' (first|(apply And.intro<;>try conv=>whnf)|(intro h;try conv=>whnf)|(apply infoT;rfl)|fail)
    · have hi' : i < m.rel.length := by simpa using lt_dec h
      obtain ⟨r, hr, hrw⟩ : ∃ r, m.rel[i]? = some r ∧ m.rel.getD i [] = r := ⟨_, getD_mem hi', rfl⟩
      have hrm : r ∈ m.rel := List.mem_iff_getElem?.2 ⟨i, hr⟩
      have hrl := hM.rows r hrm
      have hrb := hf.2 r hrm
      obtain ⟨ra, hra, hraw⟩ : ∃ r, a.rel[i]? = some r ∧ a.rel.getD i [] = r := ⟨_, getD_mem (by have := hO.ags; omega), rfl⟩
      have hram : ra ∈ a.rel := List.mem_iff_getElem?.2 ⟨i, hra⟩
      have hral := hO.rows ra hram
      have hrab := hfa ra hram
      have hN : ((l.map pairPV).length : Int).toNat = l.length := by rw [List.length_map]; rfl
      have hz1 : List.replicate ((l.map pairPV).length : Int).toNat (PV.int .u64 0) = (mixV l.length (fun k => u64 (rowP r ra l (l.getD k (0, 0)))) (fun _ => u64 0) 0) := by rw [hN]; exact mixV_rep _ _ _
      have hmlv := mixV_len l.length (fun k => u64 (rowP r ra l (l.getD k (0, 0)))) (fun _ => u64 0)
      refine ⟨_, _, rfl, idx_map hr, rfl, ?_⟩
      (try conv=>whnf);repeat' (first|(apply And.intro<;>try conv=>whnf)|fail)
      · rfl
      · exact Int.natCast_nonneg _
      · show ((l.map pairPV).length : Int) ≤ 4294967296
        rw [List.length_map]; omega
      refine ⟨Unit, fun _ => [(2, .ref 0 0), (3, .ref 1 0), (4, .ref 2 0), (7, .ref 3 0), (9, .clo 49 [] [.ref 3 0]), (10, .ref 4 0), (18, .pv (.sl (mixV l.length (fun k => u64 (rowP r ra l (l.getD k (0, 0)))) (fun _ => u64 0) l.length))), (85, .pv (.sl (m.rel.map rowPV))), (86, .pv (i64 (m.rel.map rowPV).length)), (87, .pv (i64 i))], fun _ => 6, fun _ => [(0, .var (cellsM m)), (1, .var (cellsA a)), (2, .var cells0), (3, .var [.pv (.sl (l.map pairPV))]), (4, .var [.pv (i64 (l.map pairPV).length), .pv (rowPV vs), .buf 5 ((rsU m a l i).map rowPV).length]), (5, .arr 1 ((rsU m a l i).map rowPV))], ?_, ?_⟩
      · try conv=>whnf
        refine ⟨{ k : Nat // k ≤ l.length }, fun k => [(2, .ref 0 0), (3, .ref 1 0), (4, .ref 2 0), (7, .ref 3 0), (9, .clo 49 [] [.ref 3 0]), (10, .ref 4 0), (16, .ref 6 0), (17, .ref 7 0), (18, .buf 8 (mixV l.length (fun k => u64 (rowP r ra l (l.getD k (0, 0)))) (fun _ => u64 0) k.1).length), (85, .pv (.sl (m.rel.map rowPV))), (86, .pv (i64 (m.rel.map rowPV).length)), (87, .pv (i64 i)), (95, .pv (.sl (l.map pairPV))), (96, .pv (i64 (l.map pairPV).length)), (97, .pv (i64 k.1))], fun _ => 9, fun k => [(0, .var (cellsM m)), (1, .var (cellsA a)), (2, .var cells0), (3, .var [.pv (.sl (l.map pairPV))]), (4, .var [.pv (i64 (l.map pairPV).length), .pv (rowPV vs), .buf 5 ((rsU m a l i).map rowPV).length]), (5, .arr 1 ((rsU m a l i).map rowPV)), (6, .var [.pv (i64 i)]), (7, .var [.pv (rowPV r)]), (8, .arr 1 (mixV l.length (fun k => u64 (rowP r ra l (l.getD k (0, 0)))) (fun _ => u64 0) k.1))], fun k => l.length - k.1, ⟨⟨0, Nat.zero_le _⟩, ?_⟩, ?_⟩
        · (refine Wk.of ?_ ?_ rfl rfl rfl<;>repeat' (first|exact trivial|exact WkD.same _|exact WkO.same _ _ rfl|refine ⟨?_, ?_⟩|fail))
          · exact WkD.eq (congrArg (fun z : List PV => DV.buf 8 z.length) hz1)
          · exact WkO.same _ _ (congrArg (fun z => some (DObj.arr 1 z)) hz1)
        rintro ⟨k, hk⟩
        have hmk := hmlv k
        have hmk1 := hmlv (k + 1)
        have hst := mixV_set (n := l.length) (p := fun k => u64 (rowP r ra l (l.getD k (0, 0)))) (q := fun _ => u64 0) (e := k)
        (try conv=>whnf);repeat' (first|(apply And.intro<;>try conv=>whnf)|(intro h;try conv=>whnf)|(apply infoT;rfl)|fail)
        · have hk' : k < l.length := by simpa using lt_dec h
          obtain ⟨x, hx, hxw⟩ : ∃ y, l[k]? = some y ∧ l.getD k (0, 0) = y := ⟨_, getD_mem hk', rfl⟩
          have hxm := hmem x (List.mem_iff_getElem?.2 ⟨k, hx⟩)
          refine ⟨_, _, rfl, idx_map hx, rfl, ?_⟩
          try conv=>whnf
          refine DC.call 10 (HW m a l vs (rsU m a l i) i r (mixV l.length (fun k => u64 (rowP r ra l (l.getD k (0, 0)))) (fun _ => u64 0) k) x) ⟨rfl, rfl, rfl, rfl, rfl, rfl, rfl, rfl, rfl, rfl, trivial⟩ rfl rfl rfl rfl fun M' => ?_
          refine whr_W m a l vs (rsU m a l i) i r (mixV l.length (fun k => u64 (rowP r ra l (l.getD k (0, 0)))) (fun _ => u64 0) k) x ra hra (by omega) (by omega) (fun y hy => by have := hmem y hy; exact ⟨by omega, by omega⟩) hrb hrab hl64 _ _ ?_
          refine ⟨rfl, ?_⟩
          (try conv=>whnf);repeat' (first|(apply And.intro<;>try conv=>whnf)|fail)
          refine ⟨k, rfl, by rw [hmk]; exact hk', ?_⟩
          (try conv=>whnf);repeat' (first|(apply And.intro<;>try conv=>whnf)|fail)
          refine ⟨_, mixV_old hk', Nat.le_refl 1, ?_⟩
          try conv=>whnf
          rw [hxw] at hst
          refine ⟨⟨k + 1, hk'⟩, by show l.length - (k + 1) < l.length - k; omega, ?_⟩
          (refine Wk.of ?_ ?_ rfl rfl rfl<;>repeat' (first|exact trivial|exact WkD.same _|exact WkO.same _ _ rfl|refine WkD.int ?_|refine ⟨?_, ?_⟩|(refine wrapA ?_ ?_ ?_;(focus simp;done);(focus (try dsimp only);omega);(focus (try dsimp only);omega))|fail))
          · exact WkD.eq (congrArg (DV.buf 8) (hmk.trans hmk1.symm))
          · exact WkO.same _ _ (congrArg (fun z => some (DObj.arr 1 z)) hst)
        · have hk' : k = l.length := by have := ge_dec (m := (l.map pairPV).length) h (by simpa using hk); simpa using this
          subst hk'
          exact ⟨(), (by refine Wk.of ?_ ?_ rfl rfl rfl<;>repeat' (first|exact trivial|exact WkD.same _|exact WkO.same _ _ rfl|exact WkD.fz _ _ _ rfl (Or.inl ⟨_, rfl⟩) rfl|refine ⟨?_, ?_⟩|fail))⟩
      rintro ⟨⟩
      have hrs := rsU_succ m a l i
      have hrsl : ((rsU m a l i).map rowPV).length ≤ 1000 := by simp [rsU]; omega
      have er : (rsU m a l i).map rowPV ++ [PV.sl (mixV l.length (fun k => u64 (rowP r ra l (l.getD k (0, 0)))) (fun _ => u64 0) l.length)] = (rsU m a l (i + 1)).map rowPV := by
        rw [hrs, List.map_append, mixV_full, relP, hrw, hraw]
        congr 1
        show [PV.sl _] = [rowPV (l.map (rowP r ra l))]
        rw [rowPV, List.map_map]
        congr 2
        exact map_getD (g := fun x => u64 (rowP r ra l x)) (d := (0, 0)) rfl
      (try conv=>whnf);repeat' (first|(apply And.intro<;>try conv=>whnf)|(apply cellsI;rfl)|(apply szI;rfl)|fail)
      · exact app_big (n := 1000) hrsl (by decide)
      refine ⟨⟨i + 1, hi'⟩, by show m.rel.length - (i + 1) < m.rel.length - i; omega, ?_⟩
      (refine Wk.of ?_ ?_ rfl rfl rfl<;>repeat' (first|exact trivial|exact WkD.same _|exact WkO.same _ _ rfl|exact WkD.eq (congrArg (fun z : List PV => DV.buf _ z.length) er)|exact WkO.same _ _ (congrArg (fun z => some (DObj.arr _ z)) er)|refine WkD.int ?_|refine WkO.vars rfl ?_|refine ⟨?_, ?_⟩|(refine wrapA ?_ ?_ ?_;(focus simp;done);(focus (try dsimp only);omega);(focus (try dsimp only);omega))|fail))
    · have hi' : i = m.rel.length := by have := ge_dec (m := (m.rel.map rowPV).length) h (by simpa using hi); simpa using this
      subst hi'
      exact ⟨(), (by refine Wk.of ?_ ?_ rfl rfl rfl<;>repeat' (first|exact trivial|exact WkD.same _|exact WkO.same _ _ rfl|exact WkD.fz _ _ _ rfl (Or.inl ⟨_, rfl⟩) rfl|refine WkO.vars rfl ?_|refine ⟨?_, ?_⟩|fail))⟩
  rintro ⟨⟩
  try conv=>whnf
  refine ⟨.one 0 (.two 1 (.one 2 (.one 3 (.one 4 .done))) 2 (.one 1 (.one 3 (.one 4 .done)))), [2], by kernel_rfl, ?_⟩
  have hfin : updPV (prodM m a l, l, 0) = .tup [.agg [i64 (l.map pairPV).length, rowPV vs, .sl ((rsU m a l m.rel.length).map rowPV)], .sl (l.map pairPV), .int .i64 0] := by rw [← hVS, List.length_map]; rfl
  (try conv=>whnf);repeat' (first|(apply And.intro<;>try conv=>whnf)|fail)
  all_goals (rw [hfin]; exact .refl _)
end Go.Proofs.Ytnbnkgcjgfmlcaa
set_option maxRecDepth 100000
set_option maxHeartbeats 4000000
namespace Go.Proofs.Ytnbnkgcjgfmlcaa
open Go Go.Dv

theorem rm_SameSets (l : List Nat) (hl : l.length ≤ 1000) : PureFn Try.prog 61 [rowPV l, rowPV l] (.bool true) := by
  refine PureFn.intro mixed (fn := Try.f61) rfl rfl rfl fun M w0 => ?_
  (try conv=>whnf);repeat' (first|(apply And.intro<;>try conv=>whnf)|(intro h;try conv=>whnf)|fail)
  · simp at h
  refine ⟨{ i : Nat // i ≤ l.length }, fun i => [(0, .pv (rowPV l)), (1, .pv (rowPV l)), (5, .pv (i64 i.1))], fun _ => 0, fun _ => [], fun i => l.length - i.1, ⟨⟨0, Nat.zero_le _⟩, (by refine Wk.of ?_ ?_ rfl rfl rfl<;>repeat' (first|exact trivial|exact WkD.same _|refine ⟨?_, ?_⟩|fail))⟩, ?_⟩
  rintro ⟨i, hi⟩
  (try conv=>whnf);repeat' (first|(apply And.intro<;>try conv=>whnf)|(intro h;try conv=>whnf)|(apply infoT;rfl)|(refine lin_plan (by kernel_rfl) ?_;try conv=>whnf)|fail)
  · have hi' : i < l.length := by simpa using lt_dec h
    have hm : l[i]? = some l[i] := List.getElem?_eq_getElem hi'
    refine ⟨_, _, rfl, idx_map hm, rfl, ?_⟩
    (try conv=>whnf);repeat' (first|(apply And.intro<;>try conv=>whnf)|(intro h;try conv=>whnf)|(apply infoT;rfl)|(refine ⟨_, _, rfl, idx_map (by with_reducible assumption), rfl, ?_⟩;try conv=>whnf)|fail)
    · simp at h
    · exact ⟨⟨i + 1, hi'⟩, by show l.length - (i + 1) < l.length - i; omega, (by refine Wk.of ?_ ?_ rfl rfl rfl<;>repeat' (first|exact trivial|exact WkD.same _|refine WkD.int ?_|refine ⟨?_, ?_⟩|(refine wrapA ?_ ?_ ?_;(focus simp;done);(focus (try dsimp only);omega);(focus (try dsimp only);omega))|fail))⟩
  · exact .refl _
theorem rm_Same (m : Mo) (h1 : m.val.length ≤ 1000) (h2 : m.rel.length ≤ 1000) (h3 : ∀ r, r ∈ m.rel → r.length ≤ 1000) : PureFn Try.prog 22 [m.pv, m.pv] (.bool true) := by
  refine PureFn.introC [3] mixed (fn := Try.f22) rfl rfl rfl fun M w0 => ?_
  have hS := rm_SameSets m.val h1
  try conv=>whnf
  refine ⟨Unit, fun _ => [(2, .ref 0 0), (3, .ref 1 0)], fun _ => 2, fun _ => [(0, .var (cellsM m)), (1, .var (cellsM m))], ?_, ?_⟩
  · (try conv=>whnf);repeat' (first|(apply And.intro<;>try conv=>whnf)|(intro h;try conv=>whnf)|apply True.intro|(apply WhenQ.mk;(try conv=>whnf);rotate_left;(try conv=>whnf);rotate_right)|with_reducible assumption|(apply not_of;with_reducible assumption)|(refine PureFn.dcq (f := 61) rfl ?_;try conv=>whnf)|(refine ⟨_, _, hS, ?_, ?_⟩;(focus first|(refine ⟨?_, ?_, trivial⟩<;>first|exact PLe.refl _|exact PLe.nil)|exact trivial);try conv=>whnf)|fail)
    · simp at h
    · exact ⟨(), (by refine Wk.of ?_ ?_ rfl rfl rfl<;>repeat' (first|exact trivial|exact WkD.same _|exact WkO.same _ _ rfl|refine ⟨?_, ?_⟩|fail))⟩
  rintro ⟨⟩
  try conv=>whnf
  refine ⟨{ i : Nat // i ≤ m.rel.length }, fun i => [(2, .ref 0 0), (3, .ref 1 0), (5, .pv (i64 i.1))], fun _ => 2, fun _ => [(0, .var (cellsM m)), (1, .var (cellsM m))], fun i => m.rel.length - i.1, ⟨⟨0, Nat.zero_le _⟩, (by refine Wk.of ?_ ?_ rfl rfl rfl<;>repeat' (first|exact trivial|exact WkD.same _|exact WkO.same _ _ rfl|refine ⟨?_, ?_⟩|fail))⟩, ?_⟩
  rintro ⟨i, hi⟩
  (try conv=>whnf);repeat' (first|(apply And.intro<;>try conv=>whnf)|(intro h;try conv=>whnf)|(apply infoT;rfl)|(refine lin_plan (by kernel_rfl) ?_;try conv=>whnf)|fail)
  · have hi' : i < m.rel.length := by simpa using lt_dec h
    have hm : m.rel[i]? = some m.rel[i] := List.getElem?_eq_getElem hi'
    have hS2 := rm_SameSets m.rel[i] (h3 _ (List.getElem_mem hi'))
    refine ⟨_, _, rfl, idx_map hm, rfl, ?_⟩
    (try conv=>whnf);repeat' (first|(apply And.intro<;>try conv=>whnf)|(intro h;first|with_reducible exact nt0 h|try conv=>whnf)|(apply infoT;rfl)|(refine ⟨_, _, rfl, idx_map (by with_reducible assumption), rfl, ?_⟩;try conv=>whnf)|(refine ⟨_, (by (conv=>whnf);exact hS2), rfl, ?_⟩;try conv=>whnf)|fail)
    exact ⟨⟨i + 1, hi'⟩, by show m.rel.length - (i + 1) < m.rel.length - i; omega, (by refine Wk.of ?_ ?_ rfl rfl rfl<;>repeat' (first|exact trivial|exact WkD.same _|exact WkO.same _ _ rfl|refine WkD.int ?_|refine ⟨?_, ?_⟩|(refine wrapA ?_ ?_ ?_;(focus simp;done);(focus (try dsimp only);omega);(focus (try dsimp only);omega))|fail))⟩
  · exact .refl _
def fewB (m : Mo) (k : Int) : Bool := bif bif bif decide (m.n > k) then decide (m.n ≤ 64) else false then true else decide ((m.val.length : Int) > 20) then true else decide ((m.rel.length : Int) > 10)
def fewM (m : Mo) (k : Int) : Bool := bif fewB m k then false else !(m.rel.any fun r => decide ((r.length : Int) > 70))
theorem rm_Few (m : Mo) (k : Int) : PureFn Try.prog 19 [m.pv, .int .i64 k] (.bool (fewM m k)) := by
  refine PureFn.introC [3] mixed (fn := Try.f19) rfl rfl rfl fun M w0 => ?_
  have e1 : ((m.val.map u64).length : Int) = (m.val.length : Int) := by simp
  have e2 : ((m.rel.map rowPV).length : Int) = (m.rel.length : Int) := by simp
  try conv=>whnf
  refine ⟨{ _x : Unit // fewB m k = false }, fun _ => [(2, .ref 0 0)], fun _ => 1, fun _ => HM m, ?_, ?_⟩
  · (try conv=>whnf);repeat' (first|(apply And.intro<;>try conv=>whnf)|(intro h;try conv=>whnf)|apply True.intro|(apply WhenQ.mk;(try conv=>whnf);rotate_left;(try conv=>whnf);rotate_right)|with_reducible assumption|(apply not_of;with_reducible assumption)|fail)
    · have h9 : fewB m k = true := by rw [fewB, ← e1, ← e2]; exact h
      rw [fewM, h9]; exact .refl _
    · have h9 : fewB m k = false := by rw [fewB, ← e1, ← e2]; exact h
      exact ⟨⟨(), h9⟩, (by refine Wk.of ?_ ?_ rfl rfl rfl<;>repeat' (first|exact trivial|exact WkD.same _|exact WkO.same _ _ rfl|refine ⟨?_, ?_⟩|fail))⟩
  rintro ⟨_, h1⟩
  have hrl : m.rel.length ≤ 10 := by
    unfold fewB at h1
    cases q1 : (bif bif decide (m.n > k) then decide (m.n ≤ 64) else false then true else decide ((m.val.length : Int) > 20)) with
    | true => rw [q1] at h1; cases h1
    | false =>
      rw [q1] at h1
      have := of_decide_eq_false (show decide ((m.rel.length : Int) > 10) = false from h1)
      omega
  try conv=>whnf
  refine ⟨{ i : Nat // i ≤ m.rel.length ∧ (m.rel.take i).any (fun r => decide ((r.length : Int) > 70)) = false }, fun i => [(2, .ref 0 0), (5, .pv (i64 i.1))], fun _ => 1, fun _ => HM m, fun i => m.rel.length - i.1, ⟨⟨0, Nat.zero_le _, rfl⟩, (by refine Wk.of ?_ ?_ rfl rfl rfl<;>repeat' (first|exact trivial|exact WkD.same _|exact WkO.same _ _ rfl|refine ⟨?_, ?_⟩|fail))⟩, ?_⟩
  rintro ⟨i, hi, ha⟩
  (try conv=>whnf);repeat' (first|(apply And.intro<;>try conv=>whnf)|(intro h;try conv=>whnf)|(apply infoT;rfl)|fail)
  · have hi' : i < m.rel.length := by simpa using lt_dec h
    have hm : m.rel[i]? = some m.rel[i] := List.getElem?_eq_getElem hi'
    have e3 : (((m.rel[i]).map u64).length : Int) = ((m.rel[i]).length : Int) := by simp
    refine ⟨_, _, rfl, idx_map hm, rfl, ?_⟩
    (try conv=>whnf);repeat' (first|(apply And.intro<;>try conv=>whnf)|(intro h;try conv=>whnf)|fail)
    · have e : (m.rel.any fun r => decide ((r.length : Int) > 70)) = true := any_at hi' (by rw [← e3]; exact h)
      rw [fewM, h1, e]; exact .refl _
    · exact ⟨⟨i + 1, hi', any_take hi' ha (by rw [← e3]; exact h)⟩, by show m.rel.length - (i + 1) < m.rel.length - i; omega, (by refine Wk.of ?_ ?_ rfl rfl rfl<;>repeat' (first|exact trivial|exact WkD.same _|exact WkO.same _ _ rfl|refine WkD.int ?_|refine ⟨?_, ?_⟩|(refine wrapA ?_ ?_ ?_;(focus simp;done);(focus (try dsimp only);omega);(focus (try dsimp only);omega))|fail))⟩
  · have hi' : i = m.rel.length := by have := ge_dec (m := (m.rel.map rowPV).length) h (by simpa using hi); simpa using this
    subst hi'
    rw [List.take_length] at ha
    rw [fewM, h1, ha]; exact .refl _
end Go.Proofs.Ytnbnkgcjgfmlcaa
set_option maxRecDepth 100000
set_option maxHeartbeats 4000000
namespace Go.Proofs.Ytnbnkgcjgfmlcaa
open Go Go.Dv

theorem u_mod : ∃ fs : Array Field, Try.prog.underlying 25 = some (.struct fs) ∧ fs.toList.map (·.type) = [3, 22, 23] := ⟨_, rfl, by kernel_rfl⟩
theorem arg_mod {n : Nat} {p : PV} (h : TyA Try.prog (n + 4) 25 p) : ∃ m : Mo, PLe p m.pv ∧ FitM m := by
  obtain ⟨cs, h, rfl⟩ := h
  obtain ⟨fs, hu, hf⟩ := u_mod
  have hm : mkE Try.prog 25 cs = .agg cs := by simp only [mkE, kindT, hu]
  obtain ⟨a, b, r1, rfl, h1, hb, m1⟩ := fs_cons hf (tyS (n := n + 3) hu h)
  obtain ⟨c, d, r2, rfl, h2, hd, m2⟩ := fs_cons m1 hb
  obtain ⟨e, g, r3, rfl, h3, hg, m3⟩ := fs_cons m2 hd
  have := fs_nil m3 hg
  subst this
  obtain ⟨w, rfl, _⟩ := int_of (n := n + 2) h1
  obtain ⟨val, q2, rfl, l2, hv⟩ := slice_of (n := n + 2) (g := u64) (Q := fun s => s < 2 ^ 64) u_rowT (u64_el (n := n + 1)) h2
  obtain ⟨rel, q3, rfl, l3, hr⟩ := slice_of (n := n + 2) (g := rowPV) (Q := fun r => ∀ s, s ∈ r → s < 2 ^ 64) u_relT (fun p hp => el_of (n := n + 1) u_rowT (u64_el (n := n)) p hp) h3
  refine ⟨⟨w, val, rel⟩, ?_, hv, hr⟩
  rw [hm]
  exact PLe.aggs ⟨.refl _, l2, l3, trivial⟩
end Go.Proofs.Ytnbnkgcjgfmlcaa
set_option maxRecDepth 100000
set_option maxHeartbeats 4000000
namespace Go.Proofs.Ytnbnkgcjgfmlcaa
open Go Go.Dv

theorem whenOff {c : Bool} {A B : DV → Prop} (hc : c = false) (h2 : B (.pv (.bool false))) : WhenQ (fun d => c = true → A d) B :=
  WhenQ.mk (d := .pv (.bool false)) (fun h => by rw [hc] at h; cases h) h2
end Go.Proofs.Ytnbnkgcjgfmlcaa
set_option maxRecDepth 100000
set_option maxHeartbeats 4000000
namespace Go.Proofs.Ytnbnkgcjgfmlcaa
open Go Go.Dv

theorem getD_map_range {β : Type} {f : Nat → β} {n i : Nat} {d : β} (h : i < n) : ((List.range n).map f).getD i d = f i := by
  rw [List.getD_eq_getElem?_getD, List.getElem?_map, List.getElem?_range h]; rfl
end Go.Proofs.Ytnbnkgcjgfmlcaa
set_option maxRecDepth 100000
set_option maxHeartbeats 4000000
namespace Go.Proofs.Ytnbnkgcjgfmlcaa
open Go Go.Dv

def trueL : List Nd := buildL (n0 1) []
def falseL : List Nd := buildL (n0 2) []
def tossA (A : Nat) (to : Nat) : Act := ⟨[trueL, trueL], [[⟨0, trueL⟩], [⟨0, falseL⟩]], relOf A 2 (pcB to 1)⟩
theorem toss_err : ∀ A : Nat, A < 5 → ∀ to : Nat, to < 16 → to < 2 ^ A → errI A 0 [(to : Int)] (buildL (n0 1) []) = 0 := by decide +kernel
theorem toss_eq {A to : Nat} (hA : A < 5) (ht : to < 2 ^ A) : tossI A to 0 = (tossA A to, 0) := by
  have h16 : to < 16 := Nat.lt_of_lt_of_le ht (Nat.pow_le_pow_right (by decide) (show A ≤ 4 by omega))
  rw [tossI, toss_err A hA to h16 ht]; rfl
theorem toss_act : ∀ A : Nat, A < 5 → ∀ F : Nat, F < 9 → 1 ≤ F → ∀ to : Nat, to < 16 → actI (tossA A to) A F = 0 := by decide +kernel
theorem false_stat : ∀ A : Nat, A < 5 → ∀ F : Nat, F < 9 → statI A F (buildL (n0 2) []) = 0 := by decide +kernel
theorem false_root : root (buildL (n0 2) []) = .nd 2 0 0 0 .none .none := by decide +kernel
theorem holds_false {m : Mo} {n : Nat} (hM : OkM m n) : holdsI m (buildL (n0 2) []) = (0, 0) := by
  have hr : reqI m (buildL (n0 2) []) = 0 := by
    rw [reqI, ok_moI hM]
    exact false_stat _ (by have := hM.ag; omega) _ (by have := hM.fa; omega)
  rw [holdsI, hr, false_root, hM.nn]; rfl
theorem two_pairs {p : Nat → Nat} : ∀ {n : Nat}, (∀ e w, e < 2 → w < n → (p e).testBit w = true) → pairsW p 2 n = (List.range (2 * n)).map fun k => (k / 2, k % 2)
  | 0, _ => rfl
  | n + 1, h => by
    have e : pairsE p n 2 = [(n, 0), (n, 1)] := by
      rw [pairsE, pairsE, pairsE, h 0 n (by decide) (by omega), h 1 n (by decide) (by omega)]; rfl
    rw [pairsW, two_pairs (n := n) (fun e w he hw => h e w he (by omega)), e, show 2 * (n + 1) = 2 * n + 1 + 1 by omega, List.range_succ, List.range_succ, List.map_append, List.map_append, List.append_assoc]
    congr 1
    show [(n, 0), (n, 1)] = [((2 * n) / 2, (2 * n) % 2), ((2 * n + 1) / 2, (2 * n + 1) % 2)]
    rw [show 2 * n / 2 = n by omega, show 2 * n % 2 = 0 by omega, show (2 * n + 1) / 2 = n by omega, show (2 * n + 1) % 2 = 1 by omega]
/-- The product with a toss. -/
theorem toss_prod {m : Mo} {n to : Nat} (hM : OkM m n) (hn : n ≤ 32) (hv : 1 ≤ m.val.length) (ht : to < 2 ^ m.rel.length) :
    moaI m (tossA m.rel.length to) = 0 ∧ pairsL m (tossA m.rel.length to) = (List.range (2 * n)).map (fun k => (k / 2, k % 2)) ∧
    updI m (tossA m.rel.length to) = (prodM m (tossA m.rel.length to) ((List.range (2 * n)).map fun k => (k / 2, k % 2)), (List.range (2 * n)).map (fun k => (k / 2, k % 2)), 0) := by
  have hag := hM.ag
  have hfa := hM.fa
  have hn1 := hM.n1
  have h16 : to < 16 := Nat.lt_of_lt_of_le ht (Nat.pow_le_pow_right (by decide) hag)
  have hE : moaI m (tossA m.rel.length to) = 0 := by
    rw [moaI, ok_moI hM]; exact toss_act _ (by omega) _ (by omega) hv to h16
  have hp : ∀ e w, e < 2 → w < n → (possP m (tossA m.rel.length to) e).testBit w = true := fun e w he hw => by
    have : (tossA m.rel.length to).pre.getD e [] = buildL (n0 1) [] := by
      have : e = 0 ∨ e = 1 := by omega
      rcases this with rfl | rfl <;> rfl
    rw [possP, this, holds_true hM]
    exact all_bit hw
  have hl : pairsL m (tossA m.rel.length to) = (List.range (2 * n)).map (fun k => (k / 2, k % 2)) := by
    rw [pairsL, hM.nn, Int.toNat_natCast]
    exact two_pairs hp
  refine ⟨hE, hl, ?_⟩
  have hln : (pairsL m (tossA m.rel.length to)).length = 2 * n := by rw [hl]; simp
  have hW : worldsI m (tossA m.rel.length to) = (pairsL m (tossA m.rel.length to), 0) := by
    rw [worldsI, hE, hln, show (((2 * n : Nat) : Int) == 0) = false by simp; omega]; rfl
  rw [updI, hW, hln, show decide (((2 * n : Nat) : Int) > 64) = false from decide_eq_false (by omega), hl]; rfl
def whyF (b : Nat) : List Nd := buildL (n0 6) [buildL (nI 9 b) [buildL (nI 3 0) []], buildL (nI 9 b) [buildL (n0 4) [buildL (nI 3 0) []]]]
theorem why_root : ∀ b : Nat, b < 4 → root (whyF b) = .nd 6 0 0 0 (.nd 9 b 0 0 (.nd 3 0 0 0 .none .none) .none) (.nd 9 b 0 0 (.nd 4 0 0 0 (.nd 3 0 0 0 .none .none) .none) .none) := by decide +kernel
theorem why_stat : ∀ A : Nat, A < 5 → ∀ F : Nat, F < 9 → 1 ≤ F → ∀ b : Nat, b < A → statI A F (whyF b) = 0 := by decide +kernel
theorem why_holds {p : Mo} {N b : Nat} (hP : OkM p N) (hv : 1 ≤ p.val.length) (hb : b < p.rel.length) :
    holdsI p (whyF b) = (boxN N (p.rel.getD b []) (p.val.getD 0 0) ||| boxN N (p.rel.getD b []) (notN N (p.val.getD 0 0)), 0) := by
  have hag := hP.ag
  have hfa := hP.fa
  have hr : reqI p (whyF b) = 0 := by rw [reqI, ok_moI hP]; exact why_stat _ (by omega) _ (by omega) hv b hb
  rw [holdsI, hr, why_root b (by omega), hP.nn]; rfl
theorem range_pair {f : Nat → Nat × Nat} {n k : Nat} (h : k < n) : ((List.range n).map f).getD k (0, 0) = f k := getD_map_range h
/-- Who knows the result of a toss. -/
theorem toss_law {m : Mo} {n to b : Nat} (hM : OkM m n) (hn : n ≤ 32) (hv : 1 ≤ m.val.length) (ht : to < 2 ^ m.rel.length) (hb : b < m.rel.length) :
    ∃ s, holdsI (prodM m (tossA m.rel.length to) ((List.range (2 * n)).map fun k => (k / 2, k % 2))) (whyF b) = (s, 0) ∧ s < 2 ^ 64 ∧
      ∀ k, k < 2 * n → s.testBit k = (to.testBit b || (m.rel.getD b []).getD (k / 2) 0 == 0) := by
  obtain ⟨hE, hl, hU⟩ := toss_prod hM hn hv ht
  have hn1 := hM.n1
  have hag := hM.ag
  have hfa := hM.fa
  obtain ⟨l, hle⟩ : ∃ l, l = (List.range (2 * n)).map fun k => (k / 2, k % 2) := ⟨_, rfl⟩
  have hll : l.length = 2 * n := by rw [hle]; simp
  have hlk : ∀ k, k < 2 * n → l.getD k (0, 0) = (k / 2, k % 2) := fun k hk => by rw [hle]; exact range_pair hk
  rw [← hle]
  have hP := prod_ok (a := tossA m.rel.length to) (l := l) hM (by omega) (by omega)
  rw [hll] at hP
  obtain ⟨p, hp⟩ : ∃ p, p = prodM m (tossA m.rel.length to) l := ⟨_, rfl⟩
  have hrl : p.rel.length = m.rel.length := by rw [hp]; simp [prodM]
  have hvl : p.val.length = m.val.length := by rw [hp]; simp [prodM]
  have hV : ∀ k, k < 2 * n → (p.val.getD 0 0).testBit k = decide (k % 2 = 0) := fun k hk => by
    have h1 : p.val.getD 0 0 = valP m (tossA m.rel.length to) l 0 := by rw [hp]; exact getD_map_range hv
    rw [h1, valP, maskOf_bit, hlk k hk, decide_eq_true (by omega), Bool.true_and, valuP]
    have hb1 : badF 0 = false := by decide
    have hal := (act_alone hfa (moaI_ok hE).2).1
    have hbe : ∀ e : Nat, e < 2 → badEv (tossA m.rel.length to) (e : Int) = false := fun e he => by
      unfold badEv
      have : (tossA m.rel.length to).pre.length = 2 := rfl
      rw [this, decide_eq_false (by omega), decide_eq_false (by omega)]; rfl
    have hvi : (valI (tossA m.rel.length to) ((k % 2 : Nat) : Int) 0).1 = bif decide (k % 2 = 0) then buildL (n0 1) [] else buildL (n0 2) [] := by
      have : k % 2 = 0 ∨ k % 2 = 1 := by omega
      rw [valI, hal, hbe (k % 2) (by omega), hb1]
      rcases this with h | h
      · rw [h]; show valL 0 [⟨0, trueL⟩] = _
        exact comp_true
      · rw [h]; show valL 0 [⟨0, falseL⟩] = _
        show comp falseL = falseL
        decide +kernel
    show (holdsI m (valI (tossA m.rel.length to) ((k % 2 : Nat) : Int) 0).1).1.testBit (k / 2) = _
    rw [hvi]
    by_cases h : k % 2 = 0
    · rw [decide_eq_true h, cond_true, holds_true hM]; exact all_bit (by omega)
    · rw [decide_eq_false h, cond_false, holds_false hM]; exact Nat.zero_testBit _
  have hrow : p.rel.getD b [] = l.map (rowP (m.rel.getD b []) ((tossA m.rel.length to).rel.getD b []) l) := by
    rw [hp]; exact getD_map_range hb
  have hq : (tossA m.rel.length to).rel.getD b [] = bif to.testBit b then [1, 2] else [3, 3] := by
    show (relOf m.rel.length 2 (pcB to 1)).getD b [] = _
    rw [relOf, getD_map_range hb, pcB, bit64_one (Nat.lt_of_lt_of_le ht (Nat.pow_le_pow_right (by decide) (by omega))) (by omega)]
    cases to.testBit b <;> rfl
  have hmem : m.rel.getD b [] ∈ m.rel := List.mem_iff_getElem?.2 ⟨b, getD_mem hb⟩
  rw [← hp] at hP ⊢
  refine ⟨_, why_holds hP (by omega) (by omega), ?_, fun k hk => ?_⟩
  · have h1 := Nat.or_lt_two_pow (boxN_lt (2 * n) (p.rel.getD b []) (p.val.getD 0 0)) (boxN_lt (2 * n) (p.rel.getD b []) (notN (2 * n) (p.val.getD 0 0)))
    exact Nat.lt_of_lt_of_le h1 (pow64_le (by omega))
  have hbit : ∀ j, ((p.rel.getD b []).getD k 0).testBit j = true ↔ j < 2 * n ∧ ((m.rel.getD b []).getD (k / 2) 0).testBit (j / 2) = true ∧ (((bif to.testBit b then [1, 2] else [3, 3]) : List Nat).getD (k % 2) 0).testBit (j % 2) = true := fun j => by
    rw [hrow, prow_bit (by omega), hll]
    constructor
    · rintro ⟨h1, h2⟩
      rw [hlk k hk, hlk j h1, seesP_iff, hq] at h2
      exact ⟨h1, h2⟩
    · rintro ⟨h1, h2⟩
      refine ⟨h1, ?_⟩
      rw [hlk k hk, hlk j h1, seesP_iff, hq]
      exact h2
  have hbx : ∀ s, (boxN (2 * n) (p.rel.getD b []) s).testBit k = true ↔ ∀ j, ((p.rel.getD b []).getD k 0).testBit j = true → s.testBit j = true := fun s => by
    rw [boxN, maskOf_bit, Bool.and_eq_true, decide_eq_true_eq, subM_iff]
    exact ⟨fun h => h.2, fun h => ⟨hk, h⟩⟩
  have hnot : ∀ j, j < 2 * n → (notN (2 * n) (p.val.getD 0 0)).testBit j = !decide (j % 2 = 0) := fun j hj => by
    rw [notN, maskOf_bit, decide_eq_true hj, Bool.true_and, hV j hj]
  rw [Nat.testBit_or, Bool.eq_iff_iff, Bool.or_eq_true, Bool.or_eq_true, hbx, hbx]
  cases hto : to.testBit b with
  | true =>
    rw [hto] at hbit
    simp only [true_or, iff_true]
    have h2 : k % 2 = 0 ∨ k % 2 = 1 := by omega
    rcases h2 with h2 | h2
    · left
      intro j hj
      obtain ⟨h3, _, h4⟩ := (hbit j).1 hj
      rw [h2] at h4
      have h5 : j % 2 = 0 ∨ j % 2 = 1 := by omega
      rcases h5 with h5 | h5
      · rw [hV j h3, h5]; rfl
      · rw [h5] at h4; exact absurd h4 (by decide)
    · right
      intro j hj
      obtain ⟨h3, _, h4⟩ := (hbit j).1 hj
      rw [h2] at h4
      have h5 : j % 2 = 0 ∨ j % 2 = 1 := by omega
      rcases h5 with h5 | h5
      · rw [h5] at h4; exact absurd h4 (by decide)
      · rw [hnot j h3, h5]; rfl
  | false =>
    rw [hto] at hbit
    have h33 : ∀ i : Nat, i < 2 → ∀ j : Nat, j < 2 → (([3, 3] : List Nat).getD i 0).testBit j = true := by decide
    simp only [Bool.false_eq_true, false_or, beq_iff_eq]
    constructor
    · intro h
      apply Nat.eq_of_testBit_eq
      intro w
      rw [Nat.zero_testBit]
      cases hw : ((m.rel.getD b []).getD (k / 2) 0).testBit w with
      | false => rfl
      | true =>
        exfalso
        have hwn : w < n := by
          have hlt := getD_lt2 (hM.bits _ hmem) (k / 2)
          exact bit_lt hlt hw
        have g0 := (hbit (2 * w)).2 ⟨by omega, by rw [show 2 * w / 2 = w by omega]; exact hw, h33 _ (by omega) _ (by omega)⟩
        have g1 := (hbit (2 * w + 1)).2 ⟨by omega, by rw [show (2 * w + 1) / 2 = w by omega]; exact hw, h33 _ (by omega) _ (by omega)⟩
        rcases h with h | h
        · have := h _ g1
          rw [hV _ (by omega), show (2 * w + 1) % 2 = 1 by omega] at this
          exact absurd this (by decide)
        · have := h _ g0
          rw [hnot _ (by omega), show (2 * w) % 2 = 0 by omega] at this
          exact absurd this (by decide)
    · intro h
      left
      intro j hj
      obtain ⟨_, h3, _⟩ := (hbit j).1 hj
      rw [h, Nat.zero_testBit] at h3; cases h3
end Go.Proofs.Ytnbnkgcjgfmlcaa
set_option maxRecDepth 100000
set_option maxHeartbeats 8000000
namespace Go.Proofs.Ytnbnkgcjgfmlcaa
open Go Go.Dv

theorem u8_mod {u : Nat} (hu : u < 256) (m : Nat) : (IntKind.wrap .i64 (u : Int)).tmod (m : Int) = ((u % m : Nat) : Int) := by
  rw [wrap_small (by omega) (by omega), Int.tmod_eq_emod_of_nonneg (by omega)]; rfl
theorem shl_wn {n : Nat} (hn : n ≤ 8) : shl64 1 (IntKind.wrap .u64 (n : Int)) = ((2 ^ n : Nat) : Int) := by
  rw [wrapU_nat (by omega)]; exact shl64_one (by omega) (by omega)
theorem fit_small {n k : Nat} {pre : List (List Nd)} {post : List (List Asg)} {pc : Nat → Int} (h1 : 1 ≤ k) (hk : k ≤ 8) : Fit ⟨pre, post, relOf n k pc⟩ := fun r hr s hs => by
  obtain ⟨a, _, rfl⟩ := rel_mem hr
  obtain ⟨e, he, rfl⟩ := List.mem_map.1 hs
  have := rcell_lt (c := pc a) h1 (List.mem_range.1 he)
  have : 2 ^ k ≤ 2 ^ 8 := Nat.pow_le_pow_right (by decide) hk
  omega
end Go.Proofs.Ytnbnkgcjgfmlcaa
set_option maxRecDepth 100000
set_option maxHeartbeats 4000000
namespace Go.Proofs.Ytnbnkgcjgfmlcaa
open Go Go.Dv

def fitsC (m : Mo) (f g : List Nd) : Bool := bif bif bif bif !fewM m 8 then true else moI m != 0 then true else (m.rel.length : Int) == 0 then true else decide ((f.length : Int) > 20) then true else decide ((g.length : Int) > 20)
def fitsL (m : Mo) (f g : List Nd) : Bool := bif fitsC m f g then false else bif (holdsI m f).2 == 0 then (holdsI m g).2 == 0 else false
theorem lw_fits (m : Mo) (f g : List Nd) (hf : FitM m) : PureFn Try.prog 24 [m.pv, fpv f, fpv g] (.bool (fitsL m f g)) := by
  refine PureFn.introC [3, 4, 5] mixed (fn := Try.f24) rfl rfl rfl fun M w0 => ?_
  have hW := rm_Few m 8
  have hC := md_Check m hf
  have h1 := ck_Holds m f hf
  have h2 := ck_Holds m g hf
  have e1 : ((m.rel.map rowPV).length : Int) = (m.rel.length : Int) := by simp
  have e2 : ((f.map Nd.pv).length : Int) = (f.length : Int) := by simp
  have e3 : ((g.map Nd.pv).length : Int) = (g.length : Int) := by simp
  have hc : fitsC m f g = bif bif bif bif !fewM m 8 then true else moI m != 0 then true else ((m.rel.map rowPV).length : Int) == 0 then true else decide (((f.map Nd.pv).length : Int) > 20) then true else decide (((g.map Nd.pv).length : Int) > 20) := by rw [e1, e2, e3]; rfl
  rw [fitsL]
  obtain ⟨C, hC0⟩ : ∃ C, C = fitsC m f g := ⟨_, rfl⟩
  rw [← hC0] at hc ⊢
  clear hC0
  generalize fewM m 8 = b at hW hc
  generalize moI m = c at hC hc
  generalize holdsI m f = X at h1
  generalize holdsI m g = Y at h2
  obtain ⟨s, x⟩ := X
  obtain ⟨t, y⟩ := Y
  try conv=>whnf
  refine ⟨{ _x : Unit // C = false }, fun _ => [(1, .pv (fpv f)), (2, .pv (fpv g)), (3, .ref 0 0)], fun _ => 1, fun _ => [(0, .var (cellsM m))], ?_, ?_⟩
  · (try conv=>whnf);repeat' (first|(apply And.intro<;>try conv=>whnf)|(intro h;try conv=>whnf)|apply True.intro|(apply WhenQ.mk;(try conv=>whnf);rotate_left;(try conv=>whnf);rotate_right)|with_reducible assumption|(apply not_of;with_reducible assumption)|(refine PureFn.dcq (f := 19) rfl ?_;try conv=>whnf)|(refine PureFn.dcq (f := 13) rfl ?_;try conv=>whnf)|(refine ⟨_, _, hW, ?_, ?_⟩;(focus first|(refine ⟨?_, ?_, trivial⟩<;>first|exact PLe.refl _|exact PLe.nil)|exact trivial);try conv=>whnf)|(refine ⟨_, _, hC, ?_, ?_⟩;(focus first|(refine ⟨?_, trivial⟩<;>first|exact PLe.refl _|exact PLe.nil)|exact trivial);try conv=>whnf)|fail)
    · rw [hc, h]; exact .refl _
    · exact ⟨⟨(), by rw [hc]; exact h⟩, (by refine Wk.of ?_ ?_ rfl rfl rfl<;>repeat' (first|exact trivial|exact WkD.same _|exact WkO.same _ _ rfl|refine ⟨?_, ?_⟩|fail))⟩
  rintro ⟨_, h0⟩
  subst h0
  refine ⟨Unit, fun _ => [(2, .pv (fpv g)), (3, .ref 0 0), (8, .pv (.int .i64 x))], fun _ => 1, fun _ => [(0, .var (cellsM m))], ?_, ?_⟩
  · (try conv=>whnf);repeat' (first|(refine PureFn.dcq (f := 28) rfl ?_;try conv=>whnf)|(refine ⟨_, _, h1, ?_, ?_⟩;(focus first|(refine ⟨?_, ?_, trivial⟩<;>first|exact PLe.refl _|exact PLe.nil)|exact trivial);try conv=>whnf)|fail)
    exact ⟨(), (by refine Wk.of ?_ ?_ rfl rfl rfl<;>repeat' (first|exact trivial|exact WkD.same _|exact WkO.same _ _ rfl|refine ⟨?_, ?_⟩|fail))⟩
  rintro ⟨⟩
  refine ⟨Unit, fun _ => [(8, .pv (.int .i64 x)), (10, .pv (.int .i64 y))], fun _ => 1, fun _ => [], ?_, ?_⟩
  · (try conv=>whnf);repeat' (first|(refine PureFn.dcq (f := 28) rfl ?_;try conv=>whnf)|(refine ⟨_, _, h2, ?_, ?_⟩;(focus first|(refine ⟨?_, ?_, trivial⟩<;>first|exact PLe.refl _|exact PLe.nil)|exact trivial);try conv=>whnf)|fail)
    exact ⟨(), (by refine Wk.of ?_ ?_ rfl rfl rfl<;>repeat' (first|exact trivial|exact WkD.same _|refine ⟨?_, ?_⟩|fail))⟩
  rintro ⟨⟩
  (try conv=>whnf);repeat' (first|(apply And.intro<;>try conv=>whnf)|(intro h;try conv=>whnf)|apply True.intro|(apply WhenQ.mk;(try conv=>whnf);rotate_left;(try conv=>whnf);rotate_right)|with_reducible assumption|fail)
  exact .refl _
end Go.Proofs.Ytnbnkgcjgfmlcaa
set_option maxRecDepth 100000
set_option maxHeartbeats 4000000
namespace Go.Proofs.Ytnbnkgcjgfmlcaa
open Go Go.Dv

theorem fitM_ok {p : Mo} {n : Nat} (h : OkM p n) : FitM p :=
  ⟨fun s hs => Nat.lt_of_lt_of_le (h.vbits s hs) (pow64_le h.n64), fun r hr s hs => Nat.lt_of_lt_of_le (h.bits r hr s hs) (pow64_le h.n64)⟩
end Go.Proofs.Ytnbnkgcjgfmlcaa
set_option maxRecDepth 100000
set_option maxHeartbeats 4000000
namespace Go.Proofs.Ytnbnkgcjgfmlcaa
open Go Go.Dv

theorem fewM_ok {m : Mo} {k : Int} (h : fewM m k = true) (h64 : m.n ≤ 64) : m.n ≤ k := by
  unfold fewM at h
  cases hb : fewB m k with
  | true => rw [hb] at h; cases h
  | false =>
    unfold fewB at hb
    obtain ⟨h1, _⟩ := or_ff' hb
    obtain ⟨h2, _⟩ := or_ff' h1
    by_cases q : m.n > k
    · rw [decide_eq_true q, decide_eq_true h64] at h2; cases h2
    · omega
theorem fitsL_ok {m : Mo} {f g : List Nd} (h : fitsL m f g = true) : ∃ n, OkM m n ∧ n ≤ 8 ∧ 1 ≤ m.rel.length ∧ f.length ≤ 20 ∧ g.length ≤ 20 ∧ (holdsI m f).2 = 0 ∧ (holdsI m g).2 = 0 := by
  unfold fitsL at h
  cases hc : fitsC m f g with
  | true => rw [hc] at h; cases h
  | false =>
    rw [hc] at h
    have hc' : (bif bif bif bif !fewM m 8 then true else moI m != 0 then true else (m.rel.length : Int) == 0 then true else decide ((f.length : Int) > 20) then true else decide ((g.length : Int) > 20)) = false := hc
    obtain ⟨h1, b5⟩ := or_ff' hc'
    obtain ⟨h2, b4⟩ := or_ff' h1
    obtain ⟨h3, b3⟩ := or_ff' h2
    obtain ⟨b1, b2⟩ := or_ff' h3
    have hm : moI m = 0 := by simpa using b2
    obtain ⟨n, hM⟩ := moI_ok hm
    have hnn := hM.nn
    have hw := fewM_ok (show fewM m 8 = true by simpa using b1) (by have := hM.n64; omega)
    have e3 : ¬ (m.rel.length : Int) = 0 := by simpa using b3
    have e4 := of_decide_eq_false b4
    have e5 := of_decide_eq_false b5
    cases h7 : ((holdsI m f).2 == 0) with
    | false => rw [h7] at h; cases h
    | true =>
      rw [h7] at h
      exact ⟨n, hM, by omega, by omega, by omega, by omega, by simpa using h7, by simpa using h⟩
theorem mtossed_pure (m : Mo) (u : Nat) (hu : u < 256) (hf : FitM m) : PureFn Try.prog 6 [m.pv, .int .u8 u] (.bool true) := by
  obtain ⟨P, qP⟩ : ∃ z : List Nd, z = buildL (nI 3 0) [] := ⟨_, rfl⟩
  obtain ⟨T, qT⟩ : ∃ z : List Nd, z = buildL (n0 1) [] := ⟨_, rfl⟩
  have hP := fm_Fact 0
  rw [← qP] at hP
  have hT := fm_True
  rw [← qT] at hT
  have hL := lw_fits m T T hf
  have hA := ml_awake
  by_cases hg : fitsL m T T = true ∧ 1 ≤ m.val.length
  · obtain ⟨hg1, hv⟩ := hg
    obtain ⟨n, hM, hn8, ha1, _⟩ := fitsL_ok hg1
    have hag := hM.ag
    have hn1 := hM.n1
    have hnn := hM.nn
    have hpos := Nat.two_pow_pos m.rel.length
    obtain ⟨to, qt⟩ : ∃ k, k = u % 2 ^ m.rel.length := ⟨_, rfl⟩
    have ht : to < 2 ^ m.rel.length := by rw [qt]; exact Nat.mod_lt _ hpos
    have ht16 : to < 2 ^ 62 := Nat.lt_of_lt_of_le ht (Nat.pow_le_pow_right (by decide) (by omega))
    have e1 : ((m.rel.map rowPV).length : Int) = (m.rel.length : Int) := by simp
    have hTo := ms_Toss m.rel.length to 0
    rw [toss_eq (by omega) ht] at hTo
    obtain ⟨a, qa⟩ : ∃ a, a = tossA m.rel.length to := ⟨_, rfl⟩
    obtain ⟨_, _, hU0⟩ := toss_prod (to := to) hM (by omega) hv ht
    have hK0 := fun b (hb : b < m.rel.length) => toss_law (to := to) hM (by omega) hv ht hb
    have hfa : Fit a := by rw [qa]; exact fit_small (by decide) (by decide)
    have hU := pr_Update m a hf hfa (by rw [qa]; simp [tossA, relOf]; omega) (by rw [qa]; simp [tossA])
    rw [← qa] at hU0 hTo
    rw [hU0] at hU
    obtain ⟨l, ql⟩ : ∃ l, l = (List.range (2 * n)).map fun k => (k / 2, k % 2) := ⟨_, rfl⟩
    have hll : l.length = 2 * n := by rw [ql]; simp
    have hlk : ∀ k, k < 2 * n → l[k]? = some (k / 2, k % 2) := fun k hk => by rw [ql, List.getElem?_map, List.getElem?_range hk]; rfl
    rw [← ql] at hU
    obtain ⟨p, qp⟩ : ∃ p, p = prodM m a l := ⟨_, rfl⟩
    have hp := prod_ok (a := a) (l := l) hM (by omega) (by omega)
    have hpr : p.rel.length = m.rel.length := by rw [qp]; simp [prodM]
    have hpn : p.n = ((2 * n : Nat) : Int) := by rw [qp, ← hll]; rfl
    have hK : ∀ b, b < m.rel.length → ∃ s, holdsI p (whyF b) = (s, 0) ∧ s < 2 ^ 64 ∧ ∀ k, k < 2 * n → s.testBit k = (to.testBit b || (m.rel.getD b []).getD (k / 2) 0 == 0) := by
      rw [qp, ql, qa]; exact hK0
    rw [← qp] at hU hp
    have hU : PureFn Try.prog 12 [m.pv, a.pv] (.tup [p.pv, .sl (l.map pairPV), .int .i64 0]) := hU
    have hfp := fitM_ok hp
    rw [show PV.int .i64 ((m.rel.length : Nat) : Int) = .int .i64 ((m.rel.map rowPV).length : Nat) by rw [List.length_map]] at hTo
    have hTo : PureFn Try.prog 27 [.int .i64 ((m.rel.map rowPV).length : Nat), .int .i64 (to : Int), .int .i64 0] (.tup [a.pv, .int .i64 0]) := hTo
    clear hU0 hK0 qa qp ql
    have e1 : ((m.rel.map rowPV).length : Int) = (m.rel.length : Int) := by simp
    have hwr : IntKind.wrap .i64 (2 * m.n) = p.n := by rw [hnn, hpn, wrap_small (by omega) (by omega)]; omega
    have e2 : ((l.map pairPV).length : Int) = p.n := by rw [hpn, List.length_map, hll]
    have e3 : ((p.rel.map rowPV).length : Int) = (m.rel.length : Int) := by rw [List.length_map, hpr]
    refine PureFn.introC [2, 4, 5, 6, 7, 9, 13, 19] mixed (fn := Try.f6) rfl rfl rfl fun M w0 => ?_
    try conv=>whnf
    refine ⟨Unit, fun _ => [(1, .pv (.int .u8 u)), (2, .ref 0 0), (5, .pv (fpv P))], fun _ => 1, fun _ => [(0, .var (cellsM m))], ?_, ?_⟩
    · (try conv=>whnf);repeat' (first|(refine PureFn.dcq (f := 23) rfl ?_;try conv=>whnf)|(refine ⟨_, _, hP, ?_, ?_⟩;(focus first|(refine ⟨?_, trivial⟩<;>first|exact PLe.refl _|exact PLe.nil)|exact trivial);try conv=>whnf)|fail)
      exact ⟨(), (by refine Wk.of ?_ ?_ rfl rfl rfl<;>repeat' (first|exact trivial|exact WkD.same _|exact WkO.same _ _ rfl|refine ⟨?_, ?_⟩|fail))⟩
    rintro ⟨⟩
    refine ⟨Unit, fun _ => [(1, .pv (.int .u8 u)), (2, .ref 0 0), (5, .pv (fpv P))], fun _ => 1, fun _ => [(0, .var (cellsM m))], ?_, ?_⟩
    · (try conv=>whnf);repeat' (first|(apply And.intro<;>try conv=>whnf)|(intro h;try conv=>whnf)|apply True.intro|(apply WhenQ.mk;(try conv=>whnf);rotate_left;(try conv=>whnf);rotate_right)|with_reducible assumption|(apply not_of;with_reducible assumption)|(refine lin_plan (by kernel_rfl) ?_;try conv=>whnf)|(refine PureFn.dcq (f := 26) rfl ?_;try conv=>whnf)|(refine ⟨_, (by (conv=>whnf);exact hL), rfl, ?_⟩;try conv=>whnf)|(refine ⟨_, (by (conv=>whnf);exact hT), rfl, ?_⟩;try conv=>whnf)|(refine ⟨_, _, hA, ?_, ?_⟩;(focus first|(refine ⟨trivial⟩<;>first|exact PLe.refl _|exact PLe.nil)|exact trivial);try conv=>whnf)|fail)
      · exact .refl _
      · exact ⟨(), (by refine Wk.of ?_ ?_ rfl rfl rfl<;>repeat' (first|exact trivial|exact WkD.same _|exact WkO.same _ _ rfl|refine ⟨?_, ?_⟩|fail))⟩
    rintro ⟨⟩
    refine ⟨Unit, fun _ => [(2, .ref 0 0), (5, .pv (fpv P)), (6, .pv (.int .i64 (to : Int)))], fun _ => 1, fun _ => [(0, .var (cellsM m))], ?_, ?_⟩
    · have hsw : shl64 1 (IntKind.wrap .u64 ((m.rel.map rowPV).length : Int)) = ((2 ^ m.rel.length : Nat) : Int) := by rw [e1]; exact shl_wn (by omega)
      have hne : shl64 1 (IntKind.wrap .u64 ((m.rel.map rowPV).length : Int)) = 0 → False := fun e => by rw [hsw] at e; omega
      (try conv=>whnf);repeat' (first|(apply And.intro<;>try conv=>whnf)|(intro h;try conv=>whnf)|fail)
      · exact wrapU_pos _
      · exact hne h
      · refine ⟨(), ?_⟩
        have w1 : (IntKind.wrap .i64 (u : Int)).tmod (shl64 1 (IntKind.wrap .u64 ((m.rel.map rowPV).length : Int))) = (to : Int) := by rw [hsw, u8_mod hu, qt]
        (refine Wk.of ?_ ?_ rfl rfl rfl<;>repeat' (first|exact trivial|exact WkD.same _|exact WkO.same _ _ rfl|refine WkD.int ?_|refine ⟨?_, ?_⟩|fail))
        exact w1
    rintro ⟨⟩
    refine ⟨Unit, fun _ => [(2, .ref 0 0), (5, .pv (fpv P)), (6, .pv (.int .i64 (to : Int))), (7, .ref 1 0), (8, .pv (.int .i64 0))], fun _ => 2, fun _ => [(0, .var (cellsM m)), (1, .var (cellsA a))], ?_, ?_⟩
    · (try conv=>whnf);repeat' (first|(refine PureFn.dcq (f := 27) rfl ?_;try conv=>whnf)|(refine ⟨_, _, hTo, ?_, ?_⟩;(focus first|(refine ⟨?_, ?_, ?_, trivial⟩<;>first|exact PLe.refl _|exact PLe.nil)|exact trivial);try conv=>whnf)|fail)
      exact ⟨(), (by refine Wk.of ?_ ?_ rfl rfl rfl<;>repeat' (first|exact trivial|exact WkD.same _|exact WkO.same _ _ rfl|refine ⟨?_, ?_⟩|fail))⟩
    rintro ⟨⟩
    refine ⟨Unit, fun _ => [(2, .ref 0 0), (5, .pv (fpv P)), (6, .pv (.int .i64 (to : Int))), (8, .pv (.int .i64 0)), (9, .ref 2 0), (10, .pv (.sl (l.map pairPV))), (11, .pv (.int .i64 0))], fun _ => 3, fun _ => [(0, .var (cellsM m)), (1, .var (cellsA a)), (2, .var (cellsM p))], ?_, ?_⟩
    · (try conv=>whnf);repeat' (first|(refine PureFn.dcq (f := 12) rfl ?_;try conv=>whnf)|(refine ⟨_, _, hU, ?_, ?_⟩;(focus first|(refine ⟨?_, ?_, trivial⟩<;>first|exact PLe.refl _|exact PLe.nil)|exact trivial);try conv=>whnf)|fail)
      exact ⟨(), (by refine Wk.of ?_ ?_ rfl rfl rfl<;>repeat' (first|exact trivial|exact WkD.same _|exact WkO.same _ _ rfl|refine ⟨?_, ?_⟩|fail))⟩
    rintro ⟨⟩
    refine ⟨Unit, fun _ => [(2, .ref 0 0), (5, .pv (fpv P)), (6, .pv (.int .i64 (to : Int))), (9, .ref 2 0), (10, .pv (.sl (l.map pairPV)))], fun _ => 3, fun _ => [(0, .var (cellsM m)), (1, .var (cellsA a)), (2, .var (cellsM p))], ?_, ?_⟩
    · (try conv=>whnf);repeat' (first|(apply And.intro<;>try conv=>whnf)|(intro h;try conv=>whnf)|apply True.intro|(apply WhenQ.mk;(try conv=>whnf);rotate_left;(try conv=>whnf);rotate_right)|with_reducible assumption|(apply not_of;with_reducible assumption)|fail)
      · exfalso
        have h0 : (bif bif bif bif ((0 : Int) != 0) then true else ((0 : Int) != 0) then true else p.n != IntKind.wrap .i64 (2 * m.n) then true else ((l.map pairPV).length : Int) != p.n then true else ((p.rel.map rowPV).length : Int) != ((m.rel.map rowPV).length : Int)) = true := h
        rw [hwr, e2, e3, e1] at h0
        simp at h0
      · exact ⟨(), (by refine Wk.of ?_ ?_ rfl rfl rfl<;>repeat' (first|exact trivial|exact WkD.same _|exact WkO.same _ _ rfl|refine ⟨?_, ?_⟩|fail))⟩
    rintro ⟨⟩
    try conv=>whnf
    refine ⟨{ b : Nat // b ≤ m.rel.length }, fun b => [(2, .ref 0 0), (5, .pv (fpv P)), (6, .pv (.int .i64 (to : Int))), (9, .ref 2 0), (10, .pv (.sl (l.map pairPV))), (12, .pv (i64 b.1))], fun _ => 3, fun _ => [(0, .var (cellsM m)), (1, .var (cellsA a)), (2, .var (cellsM p))], fun b => m.rel.length - b.1, ⟨⟨0, Nat.zero_le _⟩, (by refine Wk.of ?_ ?_ rfl rfl rfl<;>repeat' (first|exact trivial|exact WkD.same _|exact WkO.same _ _ rfl|refine ⟨?_, ?_⟩|fail))⟩, ?_⟩
    intro b
    have hb := b.2
    (try conv=>whnf);repeat' (first|(apply And.intro<;>try conv=>whnf)|(intro h;try conv=>whnf)|(apply cellsI;rfl)|fail)
    · have hb' : b.1 < m.rel.length := by simpa using lt_dec h
      obtain ⟨s, hs, hs64, hsb⟩ := hK b.1 hb'
      have hC := ck_Holds p (whyF b.1) hfp
      rw [hs] at hC
      obtain ⟨NP, qNP⟩ : ∃ z : List Nd, z = buildL (n0 4) [P] := ⟨_, rfl⟩
      obtain ⟨K1, qK1⟩ : ∃ z : List Nd, z = buildL (nI 9 b.1) [P] := ⟨_, rfl⟩
      obtain ⟨K2, qK2⟩ : ∃ z : List Nd, z = buildL (nI 9 b.1) [NP] := ⟨_, rfl⟩
      have hN := fm_Not P
      rw [← qNP] at hN
      have hK1 := fm_Know (b.1 : Nat) P
      rw [← qK1] at hK1
      have hK2 := fm_Know (b.1 : Nat) NP
      rw [← qK2] at hK2
      have hO := fm_Or K1 K2
      have hwe : buildL (n0 6) [K1, K2] = whyF b.1 := by rw [qK1, qK2, qNP, qP]; rfl
      rw [hwe] at hO
      generalize whyF b.1 = W at hO hC
      have hrb : m.rel[b.1]? = some (m.rel.getD b.1 []) := getD_mem hb'
      have hrn : (m.rel.getD b.1 []).length = n := hM.rows _ (List.mem_iff_getElem?.2 ⟨b.1, hrb⟩)
      clear qK1 qK2 qNP hwe
      refine ⟨Unit, fun _ => [(2, .ref 0 0), (5, .pv (fpv P)), (6, .pv (.int .i64 (to : Int))), (9, .ref 2 0), (10, .pv (.sl (l.map pairPV))), (12, .pv (i64 b.1)), (13, .pv (u64 s)), (14, .pv (.int .i64 0))], fun _ => 3, fun _ => [(0, .var (cellsM m)), (1, .var (cellsA a)), (2, .var (cellsM p))], ?_, ?_⟩
      · (try conv=>whnf);repeat' (first|(refine lin_plan (by kernel_rfl) ?_;try conv=>whnf)|(refine ⟨_, (by (conv=>whnf);exact hN), rfl, ?_⟩;try conv=>whnf)|(refine ⟨_, (by (conv=>whnf);exact hK1), rfl, ?_⟩;try conv=>whnf)|(refine ⟨_, (by (conv=>whnf);exact hK2), rfl, ?_⟩;try conv=>whnf)|(refine ⟨_, (by (conv=>whnf);exact hO), rfl, ?_⟩;try conv=>whnf)|(refine ⟨_, (by (conv=>whnf);exact hC), rfl, ?_⟩;try conv=>whnf)|fail)
        exact ⟨(), (by refine Wk.of ?_ ?_ rfl rfl rfl<;>repeat' (first|exact trivial|exact WkD.same _|exact WkO.same _ _ rfl|refine ⟨?_, ?_⟩|fail))⟩
      rintro ⟨⟩
      (try conv=>whnf);repeat' (first|(apply And.intro<;>try conv=>whnf)|(intro h;try conv=>whnf)|fail)
      · exact absurd (show ((0 : Int) != 0) = true from h) (by decide)
      refine ⟨{ k : Nat // k ≤ l.length }, fun k => [(2, .ref 0 0), (5, .pv (fpv P)), (6, .pv (.int .i64 (to : Int))), (9, .ref 2 0), (10, .pv (.sl (l.map pairPV))), (12, .pv (i64 b.1)), (13, .pv (u64 s)), (15, .pv (i64 k.1))], fun _ => 3, fun _ => [(0, .var (cellsM m)), (1, .var (cellsA a)), (2, .var (cellsM p))], fun k => l.length - k.1, ⟨⟨0, Nat.zero_le _⟩, (by refine Wk.of ?_ ?_ rfl rfl rfl<;>repeat' (first|exact trivial|exact WkD.same _|exact WkO.same _ _ rfl|refine ⟨?_, ?_⟩|fail))⟩, ?_⟩
      intro k
      have hk := k.2
      (try conv=>whnf);repeat' (first|(apply And.intro<;>try conv=>whnf)|(intro h;try conv=>whnf)|fail)
      · have hk' : k.1 < l.length := by simpa using lt_dec h
        have hx := hlk k.1 (by omega)
        have hy : (m.rel.getD b.1 [])[k.1 / 2]? = some ((m.rel.getD b.1 []).getD (k.1 / 2) 0) := getD_mem (by omega)
        have hbit := hsb k.1 (by omega)
        refine ⟨Unit, fun _ => [(2, .ref 0 0), (5, .pv (fpv P)), (6, .pv (.int .i64 (to : Int))), (9, .ref 2 0), (10, .pv (.sl (l.map pairPV))), (12, .pv (i64 b.1)), (13, .pv (u64 s)), (15, .pv (i64 k.1)), (16, .pv (i64 (k.1 / 2)))], fun _ => 3, fun _ => [(0, .var (cellsM m)), (1, .var (cellsA a)), (2, .var (cellsM p))], ?_, ?_⟩
        · (try conv=>whnf);repeat' (first|(apply And.intro<;>try conv=>whnf)|(apply infoT;rfl)|(refine ⟨_, _, rfl, idx_map (by with_reducible assumption), rfl, ?_⟩;try conv=>whnf)|fail)
          exact ⟨(), (by refine Wk.of ?_ ?_ rfl rfl rfl<;>repeat' (first|exact trivial|exact WkD.same _|exact WkO.same _ _ rfl|refine ⟨?_, ?_⟩|fail))⟩
        rintro ⟨⟩
        generalize hyv : (m.rel.getD b.1 []).getD (k.1 / 2) 0 = y at hy hbit
        have hyz : ((y : Int) == 0) = (y == 0) := by rw [Bool.eq_iff_iff]; simp
        have hc0 : (bif (bif decide (((k.1 / 2 : Nat) : Int) < 0) then true else decide (((k.1 / 2 : Nat) : Int) ≥ m.n)) then true else !((andU (shrU (s : Nat) (IntKind.wrap .u64 (k.1 : Int))) 1 == 1) == (bif and64 (shr64 (to : Int) (IntKind.wrap .u64 (b.1 : Int))) 1 == 1 then true else ((y : Nat) : Int) == 0))) = false := by
          rw [decide_eq_false (by omega), decide_eq_false (by rw [hnn]; omega), wrapU_nat (by omega), wrapU_nat (by omega), bit_one hs64 (by omega), bit64_one ht16 (by omega), hbit, hyz]
          cases to.testBit b.1 <;> cases (y == 0) <;> rfl
        (try conv=>whnf);repeat' (first|(apply And.intro<;>try conv=>whnf)|(intro h;try conv=>whnf)|apply True.intro|(apply infoT;rfl)|(apply WhenQ.mk;(try conv=>whnf);rotate_left;(try conv=>whnf);rotate_right)|with_reducible assumption|(apply not_of;with_reducible assumption)|(apply and_of<;>first|with_reducible assumption|(apply not_of;with_reducible assumption))|(refine ⟨_, _, rfl, idx_map (by with_reducible assumption), rfl, ?_⟩;try conv=>whnf)|fail)
        · exact wrapU_pos _
        · exact wrapU_pos _
        · exact absurd (h.symm.trans hc0) (by decide)
        · exact ⟨⟨k.1 + 1, hk'⟩, by show l.length - (k.1 + 1) < l.length - k.1; omega, (by refine Wk.of ?_ ?_ rfl rfl rfl<;>repeat' (first|exact trivial|exact WkD.same _|exact WkO.same _ _ rfl|refine WkD.int ?_|refine ⟨?_, ?_⟩|(refine wrapA ?_ ?_ ?_;(focus simp;done);(focus (try dsimp only);omega);(focus (try dsimp only);omega))|fail))⟩
      · exact ⟨⟨b.1 + 1, hb'⟩, by show m.rel.length - (b.1 + 1) < m.rel.length - b.1; omega, (by refine Wk.of ?_ ?_ rfl rfl rfl<;>repeat' (first|exact trivial|exact WkD.same _|exact WkO.same _ _ rfl|refine WkD.int ?_|refine ⟨?_, ?_⟩|(refine wrapA ?_ ?_ ?_;(focus simp;done);(focus (try dsimp only);omega);(focus (try dsimp only);omega))|fail))⟩
    · have hE := (ref_Equal P [⟨3, 0, 0, 0, 0, 0⟩] (by rw [qP]; decide +kernel)).to (q := .bool true) (by rw [qP]; kernel_rfl)
      (try conv=>whnf);repeat' (first|(apply And.intro<;>try conv=>whnf)|(intro h;try conv=>whnf)|apply True.intro|(apply WhenQ.mk;(try conv=>whnf);rotate_left;(try conv=>whnf);rotate_right)|(refine PureFn.dcq (f := 32) rfl ?_;try conv=>whnf)|(refine PureFn.dcq (f := 26) rfl ?_;try conv=>whnf)|(refine ⟨_, _, hE, ?_, ?_⟩;(focus first|(refine ⟨?_, ?_, trivial⟩<;>first|exact PLe.refl _|exact PLe.nil)|exact trivial);try conv=>whnf)|(refine ⟨_, _, hA, ?_, ?_⟩;(focus first|(refine ⟨trivial⟩<;>first|exact PLe.refl _|exact PLe.nil)|exact trivial);try conv=>whnf)|fail)
      all_goals exact .refl _
  · refine PureFn.introC [2, 4] mixed (fn := Try.f6) rfl rfl rfl fun M w0 => ?_
    try conv=>whnf
    refine ⟨Unit, fun _ => [(1, .pv (.int .u8 u)), (2, .ref 0 0), (5, .pv (fpv P))], fun _ => 1, fun _ => [(0, .var (cellsM m))], ?_, ?_⟩
    · (try conv=>whnf);repeat' (first|(refine PureFn.dcq (f := 23) rfl ?_;try conv=>whnf)|(refine ⟨_, _, hP, ?_, ?_⟩;(focus first|(refine ⟨?_, trivial⟩<;>first|exact PLe.refl _|exact PLe.nil)|exact trivial);try conv=>whnf)|fail)
      exact ⟨(), (by refine Wk.of ?_ ?_ rfl rfl rfl<;>repeat' (first|exact trivial|exact WkD.same _|exact WkO.same _ _ rfl|refine ⟨?_, ?_⟩|fail))⟩
    rintro ⟨⟩
    refine ⟨{ _x : Unit // False }, fun _ => [], fun _ => 0, fun _ => [], ?_, fun ⟨_, h⟩ => h.elim⟩
    (try conv=>whnf);repeat' (first|(apply And.intro<;>try conv=>whnf)|(intro h;try conv=>whnf)|apply True.intro|(apply WhenQ.mk;(try conv=>whnf);rotate_left;(try conv=>whnf);rotate_right)|with_reducible assumption|(apply not_of;with_reducible assumption)|(refine lin_plan (by kernel_rfl) ?_;try conv=>whnf)|(refine PureFn.dcq (f := 26) rfl ?_;try conv=>whnf)|(refine ⟨_, (by (conv=>whnf);exact hL), rfl, ?_⟩;try conv=>whnf)|(refine ⟨_, (by (conv=>whnf);exact hT), rfl, ?_⟩;try conv=>whnf)|(refine ⟨_, _, hA, ?_, ?_⟩;(focus first|(refine ⟨trivial⟩<;>first|exact PLe.refl _|exact PLe.nil)|exact trivial);try conv=>whnf)|fail)
    · exact .refl _
    · exfalso
      apply hg
      have h0 : (bif !fitsL m T T then true else ((m.val.map u64).length : Int) == 0) = false := h
      obtain ⟨b1, b2⟩ := or_ff' h0
      have b3 : ¬ ((m.val.map u64).length : Int) = 0 := by simpa using b2
      rw [List.length_map] at b3
      exact ⟨by simpa using b1, by omega⟩
theorem mtossed_args (ps : List PV) (hps : TyAll Try.prog 8 Try.f6.params.toList ps) : PureFn Try.prog 6 ps (.bool true) := by
  obtain ⟨p1, r1, rfl, h1, p2, r2, rfl, h2, rfl⟩ := hps
  obtain ⟨m, hm, hf⟩ := arg_mod (n := 4) h1
  obtain ⟨u, rfl, hu⟩ := arg_u8 h2
  exact (mtossed_pure m u hu hf).le ⟨hm, .refl _, trivial⟩
end Go.Proofs.Ytnbnkgcjgfmlcaa
