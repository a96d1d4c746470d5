/- The layer Dv, part 21: helps of the walk. -/
import Derived.Test.YtlmgodcfjaagpaaDv20
namespace Go.Dv

theorem guardI {P : Program} {n : Nat} {t : TypeId} (h : P.eqGuardType n t = false) : P.eqGuardType n t = false := h
theorem litz {a : Int} (h : a = 0) (hd : (a == 0) = false) : False := by rw [h] at hd; cases hd
theorem lin_plan {ops : Array Oper} {X : Plan → List Nat → Prop} (h1 : drawOk ops [] (Plan.lin 0 ops.size) = true) (h2 : X (Plan.lin 0 ops.size) []) : ∃ (pl : Plan) (eff : List Nat), drawOk ops eff pl = true ∧ X pl eff := ⟨_, _, h1, h2⟩
theorem idx_map {α β : Type} {f : List α} {g : α → β} {i : Nat} {x : α} (h : f[i]? = some x) : (f.map g)[i]? = some (g x) := by simp [h]
theorem wrapA {a b : Int} (h : a = b) (h1 : -9223372036854775808 ≤ a) (h2 : a ≤ 9223372036854775807) : IntKind.wrap .i64 a = b := (wrap_small h1 h2).trans h
end Go.Dv
