/-
  No cell of these rows narrows 'for every input' (looked for: loops, veiled, ifaces, maps, wideKeys, modest, calm, conditions, laid).
  DERIVED. THE GIVEN ROWS OF THIS SEAT. 8 by the template 'for every input the law returns true; each argument reads behind the call as it read before'; 0 by the template 'total and deterministic' (their statements: YthnfbkplkheliaaTotals.lean).
  GIVEN WITH THE SEED: the statements are not yours to turn. If you find one false, say at which input.
  Laid BY PROGRAM, IN A SANDBOX (cutbox-rows.mjs): the forced cells as the released guide's own fill.sh prints them over the translation b3f619ba4265ba73… (all of the seat's roots in one cut). By AI agents, Wed Nov 11 2026. No macro, syntax, notation, axiom, sorry.
-/
import Derived.Test.YthnfbkplkheliaaChecked
import GoSem.Claim
import GoSem.ClaimJoined
import GoSem.ClaimMapViews
import Derived.JoinedTies
import Derived.KernelRfl
namespace Go.Proofs.Ythnfbkplkheliaa
/- THE CELL 'sum', in the pinned program and in every row, IS THE sha256 OF THE DUMP (.gsa) THAT YthnfbkplkheliaaProg.lean LOADS. Nothing in Lean hashes anything: it is a label: what it is worth is what the hold of that sum in a sandbox is worth. -/
noncomputable def Try.pinned : Pinned := { name := "ythnfbkplkheliaa", sum := "b3f619ba4265ba73db383fd26011645ff14ddde2a9e5a7950c6e5f47f981ceca", checked := Try.checked }
namespace Rows
def none {H : Type} : Left H := { results := [], args := [] }

/-- 'wittinglaw38.BeliefsetModels': WHATEVER THE INPUT: true; the input reads as it did. -/
def beliefsetModelsSpec : ChangeSpec := { name := "beliefsetModels", fn := fun _ => fun
  | [d1, d2] => { results := [.lit (.bool true)], args := [d1, d2] }
  | _ => none }
def beliefsetModelsRow : OpenClaim := { program := "ythnfbkplkheliaa", sum := "b3f619ba4265ba73db383fd26011645ff14ddde2a9e5a7950c6e5f47f981ceca", func := "witting/wittinglaw38.BeliefsetModels", spec := "beliefsetModels", unfollowed := true, recurses := true, plainKeys := false, apart := false }
def BeliefsetModelsSaid : Prop := beliefsetModelsRow.holds Try.pinned (OpenSpec.ofChange beliefsetModelsSpec)

/-- ITS FALSE NEIGHBOUR: 'it returns false'. Refute it at one input. -/
def beliefsetModelsWrong : ChangeSpec := { name := "beliefsetModels", fn := fun _ => fun
  | [d1, d2] => { results := [.lit (.bool false)], args := [d1, d2] }
  | _ => none }
def BeliefsetModelsWrongFalsely : Prop := beliefsetModelsRow.holds Try.pinned (OpenSpec.ofChange beliefsetModelsWrong)

/-- 'wittinglaw38.BeliefsetFormulas': WHATEVER THE INPUT: true; the input reads as it did. -/
def beliefsetFormulasSpec : ChangeSpec := { name := "beliefsetFormulas", fn := fun _ => fun
  | [d1, d2] => { results := [.lit (.bool true)], args := [d1, d2] }
  | _ => none }
def beliefsetFormulasRow : OpenClaim := { program := "ythnfbkplkheliaa", sum := "b3f619ba4265ba73db383fd26011645ff14ddde2a9e5a7950c6e5f47f981ceca", func := "witting/wittinglaw38.BeliefsetFormulas", spec := "beliefsetFormulas", unfollowed := true, recurses := true, plainKeys := false, apart := false }
def BeliefsetFormulasSaid : Prop := beliefsetFormulasRow.holds Try.pinned (OpenSpec.ofChange beliefsetFormulasSpec)

/-- ITS FALSE NEIGHBOUR: 'it returns false'. Refute it at one input. -/
def beliefsetFormulasWrong : ChangeSpec := { name := "beliefsetFormulas", fn := fun _ => fun
  | [d1, d2] => { results := [.lit (.bool false)], args := [d1, d2] }
  | _ => none }
def BeliefsetFormulasWrongFalsely : Prop := beliefsetFormulasRow.holds Try.pinned (OpenSpec.ofChange beliefsetFormulasWrong)

/-- 'wittinglaw38.BeliefsetDistances': WHATEVER THE INPUT: true; the input reads as it did. -/
def beliefsetDistancesSpec : ChangeSpec := { name := "beliefsetDistances", fn := fun _ => fun
  | [d1, d2, d3] => { results := [.lit (.bool true)], args := [d1, d2, d3] }
  | _ => none }
def beliefsetDistancesRow : OpenClaim := { program := "ythnfbkplkheliaa", sum := "b3f619ba4265ba73db383fd26011645ff14ddde2a9e5a7950c6e5f47f981ceca", func := "witting/wittinglaw38.BeliefsetDistances", spec := "beliefsetDistances", unfollowed := true, recurses := true, plainKeys := false, apart := false }
def BeliefsetDistancesSaid : Prop := beliefsetDistancesRow.holds Try.pinned (OpenSpec.ofChange beliefsetDistancesSpec)

/-- ITS FALSE NEIGHBOUR: 'it returns false'. Refute it at one input. -/
def beliefsetDistancesWrong : ChangeSpec := { name := "beliefsetDistances", fn := fun _ => fun
  | [d1, d2, d3] => { results := [.lit (.bool false)], args := [d1, d2, d3] }
  | _ => none }
def BeliefsetDistancesWrongFalsely : Prop := beliefsetDistancesRow.holds Try.pinned (OpenSpec.ofChange beliefsetDistancesWrong)

/-- 'wittinglaw38.BeliefsetKnows': WHATEVER THE INPUT: true; the input reads as it did. -/
def beliefsetKnowsSpec : ChangeSpec := { name := "beliefsetKnows", fn := fun _ => fun
  | [d1, d2, d3] => { results := [.lit (.bool true)], args := [d1, d2, d3] }
  | _ => none }
def beliefsetKnowsRow : OpenClaim := { program := "ythnfbkplkheliaa", sum := "b3f619ba4265ba73db383fd26011645ff14ddde2a9e5a7950c6e5f47f981ceca", func := "witting/wittinglaw38.BeliefsetKnows", spec := "beliefsetKnows", unfollowed := true, recurses := true, plainKeys := false, apart := false }
def BeliefsetKnowsSaid : Prop := beliefsetKnowsRow.holds Try.pinned (OpenSpec.ofChange beliefsetKnowsSpec)

/-- ITS FALSE NEIGHBOUR: 'it returns false'. Refute it at one input. -/
def beliefsetKnowsWrong : ChangeSpec := { name := "beliefsetKnows", fn := fun _ => fun
  | [d1, d2, d3] => { results := [.lit (.bool false)], args := [d1, d2, d3] }
  | _ => none }
def BeliefsetKnowsWrongFalsely : Prop := beliefsetKnowsRow.holds Try.pinned (OpenSpec.ofChange beliefsetKnowsWrong)

/-- 'wittinglaw38.BeliefsetBack': WHATEVER THE INPUT: true; the input reads as it did. -/
def beliefsetBackSpec : ChangeSpec := { name := "beliefsetBack", fn := fun _ => fun
  | [d1, d2, d3] => { results := [.lit (.bool true)], args := [d1, d2, d3] }
  | _ => none }
def beliefsetBackRow : OpenClaim := { program := "ythnfbkplkheliaa", sum := "b3f619ba4265ba73db383fd26011645ff14ddde2a9e5a7950c6e5f47f981ceca", func := "witting/wittinglaw38.BeliefsetBack", spec := "beliefsetBack", unfollowed := true, recurses := true, plainKeys := false, apart := false }
def BeliefsetBackSaid : Prop := beliefsetBackRow.holds Try.pinned (OpenSpec.ofChange beliefsetBackSpec)

/-- ITS FALSE NEIGHBOUR: 'it returns false'. Refute it at one input. -/
def beliefsetBackWrong : ChangeSpec := { name := "beliefsetBack", fn := fun _ => fun
  | [d1, d2, d3] => { results := [.lit (.bool false)], args := [d1, d2, d3] }
  | _ => none }
def BeliefsetBackWrongFalsely : Prop := beliefsetBackRow.holds Try.pinned (OpenSpec.ofChange beliefsetBackWrong)

/-- 'wittinglaw38.BeliefsetMetric': WHATEVER THE INPUT: true; the input reads as it did. -/
def beliefsetMetricSpec : ChangeSpec := { name := "beliefsetMetric", fn := fun _ => fun
  | [d1, d2, d3] => { results := [.lit (.bool true)], args := [d1, d2, d3] }
  | _ => none }
def beliefsetMetricRow : OpenClaim := { program := "ythnfbkplkheliaa", sum := "b3f619ba4265ba73db383fd26011645ff14ddde2a9e5a7950c6e5f47f981ceca", func := "witting/wittinglaw38.BeliefsetMetric", spec := "beliefsetMetric", unfollowed := true, recurses := true, plainKeys := false, apart := false }
def BeliefsetMetricSaid : Prop := beliefsetMetricRow.holds Try.pinned (OpenSpec.ofChange beliefsetMetricSpec)

/-- ITS FALSE NEIGHBOUR: 'it returns false'. Refute it at one input. -/
def beliefsetMetricWrong : ChangeSpec := { name := "beliefsetMetric", fn := fun _ => fun
  | [d1, d2, d3] => { results := [.lit (.bool false)], args := [d1, d2, d3] }
  | _ => none }
def BeliefsetMetricWrongFalsely : Prop := beliefsetMetricRow.holds Try.pinned (OpenSpec.ofChange beliefsetMetricWrong)

/-- 'wittinglaw38.BeliefsetNear': WHATEVER THE INPUT: true; the input reads as it did. -/
def beliefsetNearSpec : ChangeSpec := { name := "beliefsetNear", fn := fun _ => fun
  | [d1, d2] => { results := [.lit (.bool true)], args := [d1, d2] }
  | _ => none }
def beliefsetNearRow : OpenClaim := { program := "ythnfbkplkheliaa", sum := "b3f619ba4265ba73db383fd26011645ff14ddde2a9e5a7950c6e5f47f981ceca", func := "witting/wittinglaw38.BeliefsetNear", spec := "beliefsetNear", unfollowed := true, recurses := true, plainKeys := false, apart := false }
def BeliefsetNearSaid : Prop := beliefsetNearRow.holds Try.pinned (OpenSpec.ofChange beliefsetNearSpec)

/-- ITS FALSE NEIGHBOUR: 'it returns false'. Refute it at one input. -/
def beliefsetNearWrong : ChangeSpec := { name := "beliefsetNear", fn := fun _ => fun
  | [d1, d2] => { results := [.lit (.bool false)], args := [d1, d2] }
  | _ => none }
def BeliefsetNearWrongFalsely : Prop := beliefsetNearRow.holds Try.pinned (OpenSpec.ofChange beliefsetNearWrong)

/-- 'wittinglaw38.BeliefsetForgets': WHATEVER THE INPUT: true; the input reads as it did. -/
def beliefsetForgetsSpec : ChangeSpec := { name := "beliefsetForgets", fn := fun _ => fun
  | [d1, d2, d3] => { results := [.lit (.bool true)], args := [d1, d2, d3] }
  | _ => none }
def beliefsetForgetsRow : OpenClaim := { program := "ythnfbkplkheliaa", sum := "b3f619ba4265ba73db383fd26011645ff14ddde2a9e5a7950c6e5f47f981ceca", func := "witting/wittinglaw38.BeliefsetForgets", spec := "beliefsetForgets", unfollowed := true, recurses := true, plainKeys := false, apart := false }
def BeliefsetForgetsSaid : Prop := beliefsetForgetsRow.holds Try.pinned (OpenSpec.ofChange beliefsetForgetsSpec)

/-- ITS FALSE NEIGHBOUR: 'it returns false'. Refute it at one input. -/
def beliefsetForgetsWrong : ChangeSpec := { name := "beliefsetForgets", fn := fun _ => fun
  | [d1, d2, d3] => { results := [.lit (.bool false)], args := [d1, d2, d3] }
  | _ => none }
def BeliefsetForgetsWrongFalsely : Prop := beliefsetForgetsRow.holds Try.pinned (OpenSpec.ofChange beliefsetForgetsWrong)

/- THE SECOND FORM. 'bulk': how many values and letters a reading holds, each counted each time it is reached (what is shared counts as often as it is met; a slice's spare places count too). A statement '..UptoSaid' is the law's where the arguments, and the package variables that the reading takes, are together of bulk at most 1048576: NARROWER than '..Said'. Prove '..Said' where nothing that the law and all that it calls make is longer than what came in: it says more and counts as full. Else prove '..UptoSaid'. A law counts once. -/
mutual
def uptoBulk {H : Type} : DataW H → Nat
  | .lit (.string bytes) => bytes.length + 1
  | .lit _ => 1
  | .nil => 1
  | .ptr d => uptoBulk d + 1
  | .slice elems spare => uptoBulkAll elems + uptoBulkAll spare + 1
  | .agg parts => uptoBulkAll parts + 1
  | .iface _ d => uptoBulk d + 1
  | .map entries => uptoBulkEntries entries + 1
  | .held _ => 1
def uptoBulkAll {H : Type} : List (DataW H) → Nat
  | [] => 0
  | d :: r => uptoBulk d + uptoBulkAll r
def uptoBulkEntries {H : Type} : List (Lit × DataW H) → Nat
  | [] => 0
  | x :: r => uptoBulkEntry x + uptoBulkEntries r
def uptoBulkEntry {H : Type} : Lit × DataW H → Nat
  | (.string bytes, d) => bytes.length + uptoBulk d + 1
  | (_, d) => uptoBulk d + 1
 end
def uptoSmall : (H : Type) → List (DataW H) → Bool := fun _ ds => decide (uptoBulkAll ds ≤ 1048576)
def OpenSpec.upto (s : _root_.Go.ChangeSpec) : _root_.Go.OpenSpec := { _root_.Go.OpenSpec.ofChange s with cond := some uptoSmall }

/-- 'wittinglaw38.BeliefsetModels', WHERE WHAT IT READS IS OF BULK AT MOST 1048576: true; the input reads as it did. -/
def beliefsetModelsUptoRow : OpenClaim := { program := "ythnfbkplkheliaa", sum := "b3f619ba4265ba73db383fd26011645ff14ddde2a9e5a7950c6e5f47f981ceca", func := "witting/wittinglaw38.BeliefsetModels", spec := "beliefsetModels", unfollowed := true, recurses := true, plainKeys := false, apart := false, narrowed := true }
def BeliefsetModelsUptoSaid : Prop := beliefsetModelsUptoRow.holds Try.pinned (OpenSpec.upto beliefsetModelsSpec)

/-- 'wittinglaw38.BeliefsetFormulas', WHERE WHAT IT READS IS OF BULK AT MOST 1048576: true; the input reads as it did. -/
def beliefsetFormulasUptoRow : OpenClaim := { program := "ythnfbkplkheliaa", sum := "b3f619ba4265ba73db383fd26011645ff14ddde2a9e5a7950c6e5f47f981ceca", func := "witting/wittinglaw38.BeliefsetFormulas", spec := "beliefsetFormulas", unfollowed := true, recurses := true, plainKeys := false, apart := false, narrowed := true }
def BeliefsetFormulasUptoSaid : Prop := beliefsetFormulasUptoRow.holds Try.pinned (OpenSpec.upto beliefsetFormulasSpec)

/-- 'wittinglaw38.BeliefsetDistances', WHERE WHAT IT READS IS OF BULK AT MOST 1048576: true; the input reads as it did. -/
def beliefsetDistancesUptoRow : OpenClaim := { program := "ythnfbkplkheliaa", sum := "b3f619ba4265ba73db383fd26011645ff14ddde2a9e5a7950c6e5f47f981ceca", func := "witting/wittinglaw38.BeliefsetDistances", spec := "beliefsetDistances", unfollowed := true, recurses := true, plainKeys := false, apart := false, narrowed := true }
def BeliefsetDistancesUptoSaid : Prop := beliefsetDistancesUptoRow.holds Try.pinned (OpenSpec.upto beliefsetDistancesSpec)

/-- 'wittinglaw38.BeliefsetKnows', WHERE WHAT IT READS IS OF BULK AT MOST 1048576: true; the input reads as it did. -/
def beliefsetKnowsUptoRow : OpenClaim := { program := "ythnfbkplkheliaa", sum := "b3f619ba4265ba73db383fd26011645ff14ddde2a9e5a7950c6e5f47f981ceca", func := "witting/wittinglaw38.BeliefsetKnows", spec := "beliefsetKnows", unfollowed := true, recurses := true, plainKeys := false, apart := false, narrowed := true }
def BeliefsetKnowsUptoSaid : Prop := beliefsetKnowsUptoRow.holds Try.pinned (OpenSpec.upto beliefsetKnowsSpec)

/-- 'wittinglaw38.BeliefsetBack', WHERE WHAT IT READS IS OF BULK AT MOST 1048576: true; the input reads as it did. -/
def beliefsetBackUptoRow : OpenClaim := { program := "ythnfbkplkheliaa", sum := "b3f619ba4265ba73db383fd26011645ff14ddde2a9e5a7950c6e5f47f981ceca", func := "witting/wittinglaw38.BeliefsetBack", spec := "beliefsetBack", unfollowed := true, recurses := true, plainKeys := false, apart := false, narrowed := true }
def BeliefsetBackUptoSaid : Prop := beliefsetBackUptoRow.holds Try.pinned (OpenSpec.upto beliefsetBackSpec)

/-- 'wittinglaw38.BeliefsetMetric', WHERE WHAT IT READS IS OF BULK AT MOST 1048576: true; the input reads as it did. -/
def beliefsetMetricUptoRow : OpenClaim := { program := "ythnfbkplkheliaa", sum := "b3f619ba4265ba73db383fd26011645ff14ddde2a9e5a7950c6e5f47f981ceca", func := "witting/wittinglaw38.BeliefsetMetric", spec := "beliefsetMetric", unfollowed := true, recurses := true, plainKeys := false, apart := false, narrowed := true }
def BeliefsetMetricUptoSaid : Prop := beliefsetMetricUptoRow.holds Try.pinned (OpenSpec.upto beliefsetMetricSpec)

/-- 'wittinglaw38.BeliefsetNear', WHERE WHAT IT READS IS OF BULK AT MOST 1048576: true; the input reads as it did. -/
def beliefsetNearUptoRow : OpenClaim := { program := "ythnfbkplkheliaa", sum := "b3f619ba4265ba73db383fd26011645ff14ddde2a9e5a7950c6e5f47f981ceca", func := "witting/wittinglaw38.BeliefsetNear", spec := "beliefsetNear", unfollowed := true, recurses := true, plainKeys := false, apart := false, narrowed := true }
def BeliefsetNearUptoSaid : Prop := beliefsetNearUptoRow.holds Try.pinned (OpenSpec.upto beliefsetNearSpec)

/-- 'wittinglaw38.BeliefsetForgets', WHERE WHAT IT READS IS OF BULK AT MOST 1048576: true; the input reads as it did. -/
def beliefsetForgetsUptoRow : OpenClaim := { program := "ythnfbkplkheliaa", sum := "b3f619ba4265ba73db383fd26011645ff14ddde2a9e5a7950c6e5f47f981ceca", func := "witting/wittinglaw38.BeliefsetForgets", spec := "beliefsetForgets", unfollowed := true, recurses := true, plainKeys := false, apart := false, narrowed := true }
def BeliefsetForgetsUptoSaid : Prop := beliefsetForgetsUptoRow.holds Try.pinned (OpenSpec.upto beliefsetForgetsSpec)

end Rows
end Go.Proofs.Ythnfbkplkheliaa
