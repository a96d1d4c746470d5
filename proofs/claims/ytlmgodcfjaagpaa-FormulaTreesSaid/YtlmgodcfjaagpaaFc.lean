/- Formulas: the canonical list (plain). -/
import Derived.Test.YtlmgodcfjaagpaaFb
namespace Go.Proofs.Ytlmgodcfjaagpaa
open Go Go.Dv

theorem Nd.pv_inj {a b : Nd} (h : a.pv = b.pv) : a = b := by
  cases a; cases b
  simp only [Nd.pv, PV.agg.injEq, List.cons.injEq, PV.int.injEq, true_and, and_true] at h
  simp only [Nd.mk.injEq]
  exact h

/-- The first place of a node. -/
def idx (x : Nd) : List Nd → Nat → Option Nat
  | [], _ => none
  | n :: r, i => if n = x then some i else idx x r (i + 1)
def look (i : Nat) : List (Nat × Nat) → Option Nat
  | [] => none
  | e :: r => if e.1 = i then some e.2 else look i r
def dput (i k : Nat) : List (Nat × Nat) → List (Nat × Nat)
  | [] => [(i, k)]
  | e :: r => if e.1 = i then (i, k) :: r else e :: dput i k r

def putN (out : List Nd) (x : Nd) : Nat × List Nd := match idx x out 0 with | some k => (k, out) | none => (out.length, out ++ [x])

/-- The walk from a node: its number; the list and the numbers so far. -/
def fin (f : List Nd) : Nat → Nat → List Nd × List (Nat × Nat) → Nat × List Nd × List (Nat × Nat)
  | 0, _, s => (0, s)
  | n + 1, i, s =>
    match look i s.2 with
    | some k => (k, s)
    | none => match f[i]? with
      | none => (0, s)
      | some x =>
        let a := bif usesX x.op then fin f n x.x.toNat s else (0, s)
        let x1 := bif usesX x.op then { x with x := (a.1 : Int) } else x
        let b := bif usesY x.op then fin f n x.y.toNat a.2 else (0, a.2)
        let x2 := bif usesY x.op then { x1 with y := (b.1 : Int) } else x1
        let p := putN b.2.1 x2
        (p.1, p.2, dput i p.1 b.2.2)

def canon (f : List Nd) (i : Nat) : List Nd := (fin f (i + 1) i ([], [])).2.1

/-! maps of the program -/
def nums : List Nd → Nat → List (PV × PV)
  | [], _ => []
  | n :: r, i => (n.pv, .int .i64 (i : Int)) :: nums r (i + 1)
def dones (ds : List (Nat × Nat)) : List (PV × PV) := ds.map fun e => (.int .i64 (e.1 : Int), .int .i64 (e.2 : Int))

theorem mfnd_nums (x : Nd) : ∀ (out : List Nd) (i s : Nat), (mfnd x.pv (nums out i) s).map Prod.snd = (idx x out i).map fun k => PV.int .i64 (k : Int)
  | [], i, s => rfl
  | n :: r, i, s => by
    simp only [nums, mfnd, idx]
    by_cases h : n = x
    · subst h; simp
    · have : ¬ n.pv = x.pv := fun e => h (Nd.pv_inj e)
      rw [if_neg this, if_neg h]
      exact mfnd_nums x r (i + 1) (s + 1)
theorem mfind_nums (x : Nd) (out : List Nd) : mfind (nums out 0) x.pv = (idx x out 0).map fun k => PV.int .i64 (k : Int) := mfnd_nums x out 0 0
theorem nums_append (x : Nd) : ∀ (out : List Nd) (i : Nat), nums (out ++ [x]) i = nums out i ++ [(x.pv, .int .i64 ((i + out.length : Nat) : Int))]
  | [], i => rfl
  | n :: r, i => by
    simp only [List.cons_append, nums, nums_append x r (i + 1), List.length_cons]
    rw [show i + 1 + r.length = i + (r.length + 1) by omega]
theorem mput_nums (x : Nd) (out : List Nd) (h : idx x out 0 = none) : mput (nums out 0) x.pv (.int .i64 (out.length : Int)) = nums (out ++ [x]) 0 := by
  have hf := mfnd_nums x out 0 0
  rw [h] at hf
  have : mfnd x.pv (nums out 0) 0 = none := by
    cases hm : mfnd x.pv (nums out 0) 0 with
    | none => rfl
    | some y => rw [hm] at hf; simp at hf
  simp only [mput, this]
  rw [nums_append, Nat.zero_add]
theorem int_eq {a b : Nat} : (PV.int .i64 (a : Int) = PV.int .i64 (b : Int)) ↔ a = b := by simp only [PV.int.injEq, true_and]; omega
theorem mfnd_dones (i : Nat) : ∀ (ds : List (Nat × Nat)) (s : Nat), (mfnd (.int .i64 (i : Int)) (dones ds) s).map Prod.snd = (look i ds).map fun k => PV.int .i64 (k : Int)
  | [], s => rfl
  | e :: r, s => by
    simp only [dones, List.map_cons, mfnd, look]
    by_cases h : e.1 = i
    · rw [if_pos (int_eq.2 h), if_pos h]; rfl
    · rw [if_neg (fun e => h (int_eq.1 e)), if_neg h]
      exact mfnd_dones i r (s + 1)
theorem mfind_dones (i : Nat) (ds : List (Nat × Nat)) : mfind (dones ds) (.int .i64 (i : Int)) = (look i ds).map fun k => PV.int .i64 (k : Int) := mfnd_dones i ds 0
theorem mfnd_shift {k : PV} : ∀ (es : List (PV × PV)) (s : Nat), mfnd k es (s + 1) = (mfnd k es s).map fun q => (q.1 + 1, q.2)
  | [], s => rfl
  | e :: r, s => by
    simp only [mfnd]
    by_cases h : e.1 = k
    · rw [if_pos h, if_pos h]; rfl
    · rw [if_neg h, if_neg h]; exact mfnd_shift r (s + 1)
theorem mput_cons {k v : PV} {e : PV × PV} {r : List (PV × PV)} : mput (e :: r) k v = open Classical in if e.1 = k then (k, v) :: r else e :: mput r k v := by
  unfold mput
  simp only [mfnd]
  by_cases h : e.1 = k
  · rw [if_pos h, if_pos h]; rfl
  · rw [if_neg h, if_neg h, mfnd_shift]
    cases hm : mfnd k r 0 with
    | none => rfl
    | some y => rfl
theorem mput_dones (i k : Nat) : ∀ (ds : List (Nat × Nat)), mput (dones ds) (.int .i64 (i : Int)) (.int .i64 (k : Int)) = dones (dput i k ds)
  | [] => rfl
  | e :: r => by
    simp only [dones, List.map_cons, mput_cons, dput]
    by_cases h : e.1 = i
    · rw [if_pos (int_eq.2 h), if_pos h]; rfl
    · rw [if_neg (fun e => h (int_eq.1 e)), if_neg h]
      rw [List.map_cons]
      congr 1
      exact mput_dones i k r
end Go.Proofs.Ytlmgodcfjaagpaa
