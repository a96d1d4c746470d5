/-
  No cell of these rows narrows 'for every input' (looked for: loops, veiled, ifaces, maps, wideKeys, modest, calm, conditions, laid).
  DERIVED. THE GIVEN ROWS OF THIS SEAT. 8 by the template 'for every input the law returns true; each argument reads behind the call as it read before'; 0 by the template 'total and deterministic' (their statements: YtlmgodcfjaagpaaTotals.lean).
  GIVEN WITH THE SEED: the statements are not yours to turn. If you find one false, say at which input.
  Laid BY PROGRAM, IN A SANDBOX (cutbox-rows.mjs): the forced cells as the released guide's own fill.sh prints them over the translation 2ffe63500325bbfe… (all of the seat's roots in one cut). By AI agents, Wed Nov 11 2026. No macro, syntax, notation, axiom, sorry.
-/
import Derived.Test.YtlmgodcfjaagpaaChecked
import GoSem.Claim
import GoSem.ClaimJoined
import GoSem.ClaimMapViews
import Derived.JoinedTies
import Derived.KernelRfl
namespace Go.Proofs.Ytlmgodcfjaagpaa
/- THE CELL 'sum', in the pinned program and in every row, IS THE sha256 OF THE DUMP (.gsa) THAT YtlmgodcfjaagpaaProg.lean LOADS. Nothing in Lean hashes anything: it is a label: what it is worth is what the hold of that sum in a sandbox is worth. -/
noncomputable def Try.pinned : Pinned := { name := "ytlmgodcfjaagpaa", sum := "2ffe63500325bbfecc8deaec62c55be93c8b9efc5aa57a41d1b079c77b2664c6", checked := Try.checked }
namespace Rows
def none {H : Type} : Left H := { results := [], args := [] }

/-- 'wittinglaw05.FormulaChecks': WHATEVER THE INPUT: true; the input reads as it did. -/
def formulaChecksSpec : ChangeSpec := { name := "formulaChecks", fn := fun _ => fun
  | [d1, d2, d3] => { results := [.lit (.bool true)], args := [d1, d2, d3] }
  | _ => none }
def formulaChecksRow : OpenClaim := { program := "ytlmgodcfjaagpaa", sum := "2ffe63500325bbfecc8deaec62c55be93c8b9efc5aa57a41d1b079c77b2664c6", func := "witting/wittinglaw05.FormulaChecks", spec := "formulaChecks", unfollowed := true, recurses := true, plainKeys := false, apart := false }
def FormulaChecksSaid : Prop := formulaChecksRow.holds Try.pinned (OpenSpec.ofChange formulaChecksSpec)

/-- ITS FALSE NEIGHBOUR: 'it returns false'. Refute it at one input. -/
def formulaChecksWrong : ChangeSpec := { name := "formulaChecks", fn := fun _ => fun
  | [d1, d2, d3] => { results := [.lit (.bool false)], args := [d1, d2, d3] }
  | _ => none }
def FormulaChecksWrongFalsely : Prop := formulaChecksRow.holds Try.pinned (OpenSpec.ofChange formulaChecksWrong)

/-- 'wittinglaw05.FormulaCompacts': WHATEVER THE INPUT: true; the input reads as it did. -/
def formulaCompactsSpec : ChangeSpec := { name := "formulaCompacts", fn := fun _ => fun
  | [d1, d2] => { results := [.lit (.bool true)], args := [d1, d2] }
  | _ => none }
def formulaCompactsRow : OpenClaim := { program := "ytlmgodcfjaagpaa", sum := "2ffe63500325bbfecc8deaec62c55be93c8b9efc5aa57a41d1b079c77b2664c6", func := "witting/wittinglaw05.FormulaCompacts", spec := "formulaCompacts", unfollowed := true, recurses := true, plainKeys := false, apart := false }
def FormulaCompactsSaid : Prop := formulaCompactsRow.holds Try.pinned (OpenSpec.ofChange formulaCompactsSpec)

/-- ITS FALSE NEIGHBOUR: 'it returns false'. Refute it at one input. -/
def formulaCompactsWrong : ChangeSpec := { name := "formulaCompacts", fn := fun _ => fun
  | [d1, d2] => { results := [.lit (.bool false)], args := [d1, d2] }
  | _ => none }
def FormulaCompactsWrongFalsely : Prop := formulaCompactsRow.holds Try.pinned (OpenSpec.ofChange formulaCompactsWrong)

/-- 'wittinglaw05.FormulaCompares': WHATEVER THE INPUT: true; the input reads as it did. -/
def formulaComparesSpec : ChangeSpec := { name := "formulaCompares", fn := fun _ => fun
  | [d1, d2] => { results := [.lit (.bool true)], args := [d1, d2] }
  | _ => none }
def formulaComparesRow : OpenClaim := { program := "ytlmgodcfjaagpaa", sum := "2ffe63500325bbfecc8deaec62c55be93c8b9efc5aa57a41d1b079c77b2664c6", func := "witting/wittinglaw05.FormulaCompares", spec := "formulaCompares", unfollowed := true, recurses := true, plainKeys := false, apart := false }
def FormulaComparesSaid : Prop := formulaComparesRow.holds Try.pinned (OpenSpec.ofChange formulaComparesSpec)

/-- ITS FALSE NEIGHBOUR: 'it returns false'. Refute it at one input. -/
def formulaComparesWrong : ChangeSpec := { name := "formulaCompares", fn := fun _ => fun
  | [d1, d2] => { results := [.lit (.bool false)], args := [d1, d2] }
  | _ => none }
def FormulaComparesWrongFalsely : Prop := formulaComparesRow.holds Try.pinned (OpenSpec.ofChange formulaComparesWrong)

/-- 'wittinglaw05.FormulaTrees': WHATEVER THE INPUT: true; the input reads as it did. -/
def formulaTreesSpec : ChangeSpec := { name := "formulaTrees", fn := fun _ => fun
  | [d1, d2] => { results := [.lit (.bool true)], args := [d1, d2] }
  | _ => none }
def formulaTreesRow : OpenClaim := { program := "ytlmgodcfjaagpaa", sum := "2ffe63500325bbfecc8deaec62c55be93c8b9efc5aa57a41d1b079c77b2664c6", func := "witting/wittinglaw05.FormulaTrees", spec := "formulaTrees", unfollowed := true, recurses := true, plainKeys := false, apart := false }
def FormulaTreesSaid : Prop := formulaTreesRow.holds Try.pinned (OpenSpec.ofChange formulaTreesSpec)

/-- ITS FALSE NEIGHBOUR: 'it returns false'. Refute it at one input. -/
def formulaTreesWrong : ChangeSpec := { name := "formulaTrees", fn := fun _ => fun
  | [d1, d2] => { results := [.lit (.bool false)], args := [d1, d2] }
  | _ => none }
def FormulaTreesWrongFalsely : Prop := formulaTreesRow.holds Try.pinned (OpenSpec.ofChange formulaTreesWrong)

/-- 'wittinglaw05.FormulaOrders': WHATEVER THE INPUT: true; the input reads as it did. -/
def formulaOrdersSpec : ChangeSpec := { name := "formulaOrders", fn := fun _ => fun
  | [d1, d2, d3] => { results := [.lit (.bool true)], args := [d1, d2, d3] }
  | _ => none }
def formulaOrdersRow : OpenClaim := { program := "ytlmgodcfjaagpaa", sum := "2ffe63500325bbfecc8deaec62c55be93c8b9efc5aa57a41d1b079c77b2664c6", func := "witting/wittinglaw05.FormulaOrders", spec := "formulaOrders", unfollowed := true, recurses := true, plainKeys := false, apart := false }
def FormulaOrdersSaid : Prop := formulaOrdersRow.holds Try.pinned (OpenSpec.ofChange formulaOrdersSpec)

/-- ITS FALSE NEIGHBOUR: 'it returns false'. Refute it at one input. -/
def formulaOrdersWrong : ChangeSpec := { name := "formulaOrders", fn := fun _ => fun
  | [d1, d2, d3] => { results := [.lit (.bool false)], args := [d1, d2, d3] }
  | _ => none }
def FormulaOrdersWrongFalsely : Prop := formulaOrdersRow.holds Try.pinned (OpenSpec.ofChange formulaOrdersWrong)

/-- 'wittinglaw05.FormulaJoins': WHATEVER THE INPUT: true; the input reads as it did. -/
def formulaJoinsSpec : ChangeSpec := { name := "formulaJoins", fn := fun _ => fun
  | [d] => { results := [.lit (.bool true)], args := [d] }
  | _ => none }
def formulaJoinsRow : OpenClaim := { program := "ytlmgodcfjaagpaa", sum := "2ffe63500325bbfecc8deaec62c55be93c8b9efc5aa57a41d1b079c77b2664c6", func := "witting/wittinglaw05.FormulaJoins", spec := "formulaJoins", unfollowed := true, recurses := true, plainKeys := false, apart := false }
def FormulaJoinsSaid : Prop := formulaJoinsRow.holds Try.pinned (OpenSpec.ofChange formulaJoinsSpec)

/-- ITS FALSE NEIGHBOUR: 'it returns false'. Refute it at one input. -/
def formulaJoinsWrong : ChangeSpec := { name := "formulaJoins", fn := fun _ => fun
  | [d] => { results := [.lit (.bool false)], args := [d] }
  | _ => none }
def FormulaJoinsWrongFalsely : Prop := formulaJoinsRow.holds Try.pinned (OpenSpec.ofChange formulaJoinsWrong)

/-- 'wittinglaw05.FormulaBuilds': WHATEVER THE INPUT: true; the input reads as it did. -/
def formulaBuildsSpec : ChangeSpec := { name := "formulaBuilds", fn := fun _ => fun
  | [d] => { results := [.lit (.bool true)], args := [d] }
  | _ => none }
def formulaBuildsRow : OpenClaim := { program := "ytlmgodcfjaagpaa", sum := "2ffe63500325bbfecc8deaec62c55be93c8b9efc5aa57a41d1b079c77b2664c6", func := "witting/wittinglaw05.FormulaBuilds", spec := "formulaBuilds", unfollowed := true, recurses := true, plainKeys := false, apart := false }
def FormulaBuildsSaid : Prop := formulaBuildsRow.holds Try.pinned (OpenSpec.ofChange formulaBuildsSpec)

/-- ITS FALSE NEIGHBOUR: 'it returns false'. Refute it at one input. -/
def formulaBuildsWrong : ChangeSpec := { name := "formulaBuilds", fn := fun _ => fun
  | [d] => { results := [.lit (.bool false)], args := [d] }
  | _ => none }
def FormulaBuildsWrongFalsely : Prop := formulaBuildsRow.holds Try.pinned (OpenSpec.ofChange formulaBuildsWrong)

/-- 'wittinglaw05.FormulaRebuilds': WHATEVER THE INPUT: true; the input reads as it did. -/
def formulaRebuildsSpec : ChangeSpec := { name := "formulaRebuilds", fn := fun _ => fun
  | [d] => { results := [.lit (.bool true)], args := [d] }
  | _ => none }
def formulaRebuildsRow : OpenClaim := { program := "ytlmgodcfjaagpaa", sum := "2ffe63500325bbfecc8deaec62c55be93c8b9efc5aa57a41d1b079c77b2664c6", func := "witting/wittinglaw05.FormulaRebuilds", spec := "formulaRebuilds", unfollowed := true, recurses := true, plainKeys := false, apart := false }
def FormulaRebuildsSaid : Prop := formulaRebuildsRow.holds Try.pinned (OpenSpec.ofChange formulaRebuildsSpec)

/-- ITS FALSE NEIGHBOUR: 'it returns false'. Refute it at one input. -/
def formulaRebuildsWrong : ChangeSpec := { name := "formulaRebuilds", fn := fun _ => fun
  | [d] => { results := [.lit (.bool false)], args := [d] }
  | _ => none }
def FormulaRebuildsWrongFalsely : Prop := formulaRebuildsRow.holds Try.pinned (OpenSpec.ofChange formulaRebuildsWrong)

/- THE SECOND FORM. 'bulk': how many values and letters a reading holds, each counted each time it is reached (what is shared counts as often as it is met; a slice's spare places count too). A statement '..UptoSaid' is the law's where the arguments, and the package variables that the reading takes, are together of bulk at most 1048576: NARROWER than '..Said'. Prove '..Said' where nothing that the law and all that it calls make is longer than what came in: it says more and counts as full. Else prove '..UptoSaid'. A law counts once. -/
mutual
def uptoBulk {H : Type} : DataW H → Nat
  | .lit (.string bytes) => bytes.length + 1
  | .lit _ => 1
  | .nil => 1
  | .ptr d => uptoBulk d + 1
  | .slice elems spare => uptoBulkAll elems + uptoBulkAll spare + 1
  | .agg parts => uptoBulkAll parts + 1
  | .iface _ d => uptoBulk d + 1
  | .map entries => uptoBulkEntries entries + 1
  | .held _ => 1
def uptoBulkAll {H : Type} : List (DataW H) → Nat
  | [] => 0
  | d :: r => uptoBulk d + uptoBulkAll r
def uptoBulkEntries {H : Type} : List (Lit × DataW H) → Nat
  | [] => 0
  | x :: r => uptoBulkEntry x + uptoBulkEntries r
def uptoBulkEntry {H : Type} : Lit × DataW H → Nat
  | (.string bytes, d) => bytes.length + uptoBulk d + 1
  | (_, d) => uptoBulk d + 1
 end
def uptoSmall : (H : Type) → List (DataW H) → Bool := fun _ ds => decide (uptoBulkAll ds ≤ 1048576)
def OpenSpec.upto (s : _root_.Go.ChangeSpec) : _root_.Go.OpenSpec := { _root_.Go.OpenSpec.ofChange s with cond := some uptoSmall }

/-- 'wittinglaw05.FormulaChecks', WHERE WHAT IT READS IS OF BULK AT MOST 1048576: true; the input reads as it did. -/
def formulaChecksUptoRow : OpenClaim := { program := "ytlmgodcfjaagpaa", sum := "2ffe63500325bbfecc8deaec62c55be93c8b9efc5aa57a41d1b079c77b2664c6", func := "witting/wittinglaw05.FormulaChecks", spec := "formulaChecks", unfollowed := true, recurses := true, plainKeys := false, apart := false, narrowed := true }
def FormulaChecksUptoSaid : Prop := formulaChecksUptoRow.holds Try.pinned (OpenSpec.upto formulaChecksSpec)

/-- 'wittinglaw05.FormulaCompacts', WHERE WHAT IT READS IS OF BULK AT MOST 1048576: true; the input reads as it did. -/
def formulaCompactsUptoRow : OpenClaim := { program := "ytlmgodcfjaagpaa", sum := "2ffe63500325bbfecc8deaec62c55be93c8b9efc5aa57a41d1b079c77b2664c6", func := "witting/wittinglaw05.FormulaCompacts", spec := "formulaCompacts", unfollowed := true, recurses := true, plainKeys := false, apart := false, narrowed := true }
def FormulaCompactsUptoSaid : Prop := formulaCompactsUptoRow.holds Try.pinned (OpenSpec.upto formulaCompactsSpec)

/-- 'wittinglaw05.FormulaCompares', WHERE WHAT IT READS IS OF BULK AT MOST 1048576: true; the input reads as it did. -/
def formulaComparesUptoRow : OpenClaim := { program := "ytlmgodcfjaagpaa", sum := "2ffe63500325bbfecc8deaec62c55be93c8b9efc5aa57a41d1b079c77b2664c6", func := "witting/wittinglaw05.FormulaCompares", spec := "formulaCompares", unfollowed := true, recurses := true, plainKeys := false, apart := false, narrowed := true }
def FormulaComparesUptoSaid : Prop := formulaComparesUptoRow.holds Try.pinned (OpenSpec.upto formulaComparesSpec)

/-- 'wittinglaw05.FormulaTrees', WHERE WHAT IT READS IS OF BULK AT MOST 1048576: true; the input reads as it did. -/
def formulaTreesUptoRow : OpenClaim := { program := "ytlmgodcfjaagpaa", sum := "2ffe63500325bbfecc8deaec62c55be93c8b9efc5aa57a41d1b079c77b2664c6", func := "witting/wittinglaw05.FormulaTrees", spec := "formulaTrees", unfollowed := true, recurses := true, plainKeys := false, apart := false, narrowed := true }
def FormulaTreesUptoSaid : Prop := formulaTreesUptoRow.holds Try.pinned (OpenSpec.upto formulaTreesSpec)

/-- 'wittinglaw05.FormulaOrders', WHERE WHAT IT READS IS OF BULK AT MOST 1048576: true; the input reads as it did. -/
def formulaOrdersUptoRow : OpenClaim := { program := "ytlmgodcfjaagpaa", sum := "2ffe63500325bbfecc8deaec62c55be93c8b9efc5aa57a41d1b079c77b2664c6", func := "witting/wittinglaw05.FormulaOrders", spec := "formulaOrders", unfollowed := true, recurses := true, plainKeys := false, apart := false, narrowed := true }
def FormulaOrdersUptoSaid : Prop := formulaOrdersUptoRow.holds Try.pinned (OpenSpec.upto formulaOrdersSpec)

/-- 'wittinglaw05.FormulaJoins', WHERE WHAT IT READS IS OF BULK AT MOST 1048576: true; the input reads as it did. -/
def formulaJoinsUptoRow : OpenClaim := { program := "ytlmgodcfjaagpaa", sum := "2ffe63500325bbfecc8deaec62c55be93c8b9efc5aa57a41d1b079c77b2664c6", func := "witting/wittinglaw05.FormulaJoins", spec := "formulaJoins", unfollowed := true, recurses := true, plainKeys := false, apart := false, narrowed := true }
def FormulaJoinsUptoSaid : Prop := formulaJoinsUptoRow.holds Try.pinned (OpenSpec.upto formulaJoinsSpec)

/-- 'wittinglaw05.FormulaBuilds', WHERE WHAT IT READS IS OF BULK AT MOST 1048576: true; the input reads as it did. -/
def formulaBuildsUptoRow : OpenClaim := { program := "ytlmgodcfjaagpaa", sum := "2ffe63500325bbfecc8deaec62c55be93c8b9efc5aa57a41d1b079c77b2664c6", func := "witting/wittinglaw05.FormulaBuilds", spec := "formulaBuilds", unfollowed := true, recurses := true, plainKeys := false, apart := false, narrowed := true }
def FormulaBuildsUptoSaid : Prop := formulaBuildsUptoRow.holds Try.pinned (OpenSpec.upto formulaBuildsSpec)

/-- 'wittinglaw05.FormulaRebuilds', WHERE WHAT IT READS IS OF BULK AT MOST 1048576: true; the input reads as it did. -/
def formulaRebuildsUptoRow : OpenClaim := { program := "ytlmgodcfjaagpaa", sum := "2ffe63500325bbfecc8deaec62c55be93c8b9efc5aa57a41d1b079c77b2664c6", func := "witting/wittinglaw05.FormulaRebuilds", spec := "formulaRebuilds", unfollowed := true, recurses := true, plainKeys := false, apart := false, narrowed := true }
def FormulaRebuildsUptoSaid : Prop := formulaRebuildsUptoRow.holds Try.pinned (OpenSpec.upto formulaRebuildsSpec)

end Rows
end Go.Proofs.Ytlmgodcfjaagpaa
