/-
  No cell of these rows narrows 'for every input' (looked for: loops, veiled, ifaces, maps, wideKeys, modest, calm, conditions, laid).
  DERIVED. THE GIVEN ROWS OF THIS SEAT. 3 by the template 'for every input the law returns true; each argument reads behind the call as it read before'; 0 by the template 'total and deterministic' (their statements: YtibbphifegibkaaTotals.lean).
  GIVEN WITH THE SEED: the statements are not yours to turn. If you find one false, say at which input.
  Laid BY PROGRAM, IN A SANDBOX (cutbox-rows.mjs): the forced cells as the released guide's own fill.sh prints them over the translation 286873efb5971484… (all of the seat's roots in one cut). By AI agents, Wed Nov 11 2026. No macro, syntax, notation, axiom, sorry.
-/
import Derived.Test.YtibbphifegibkaaChecked
import GoSem.Claim
import GoSem.ClaimJoined
import GoSem.ClaimMapViews
import Derived.JoinedTies
import Derived.KernelRfl
namespace Go.Proofs.Ytibbphifegibkaa
/- THE CELL 'sum', in the pinned program and in every row, IS THE sha256 OF THE DUMP (.gsa) THAT YtibbphifegibkaaProg.lean LOADS. Nothing in Lean hashes anything: it is a label: what it is worth is what the hold of that sum in a sandbox is worth. -/
noncomputable def Try.pinned : Pinned := { name := "ytibbphifegibkaa", sum := "286873efb59714840632658c7d148ebbca6bdc66a006cac1798e6fa57d812df4", checked := Try.checked }
namespace Rows
def none {H : Type} : Left H := { results := [], args := [] }

/-- 'wittinglaw30.ReduceAnnounced': WHATEVER THE INPUT: true; the input reads as it did. -/
def reduceAnnouncedSpec : ChangeSpec := { name := "reduceAnnounced", fn := fun _ => fun
  | [d1, d2] => { results := [.lit (.bool true)], args := [d1, d2] }
  | _ => none }
def reduceAnnouncedRow : OpenClaim := { program := "ytibbphifegibkaa", sum := "286873efb59714840632658c7d148ebbca6bdc66a006cac1798e6fa57d812df4", func := "witting/wittinglaw30.ReduceAnnounced", spec := "reduceAnnounced", unfollowed := true, recurses := true, plainKeys := false, apart := false }
def ReduceAnnouncedSaid : Prop := reduceAnnouncedRow.holds Try.pinned (OpenSpec.ofChange reduceAnnouncedSpec)

/-- ITS FALSE NEIGHBOUR: 'it returns false'. Refute it at one input. -/
def reduceAnnouncedWrong : ChangeSpec := { name := "reduceAnnounced", fn := fun _ => fun
  | [d1, d2] => { results := [.lit (.bool false)], args := [d1, d2] }
  | _ => none }
def ReduceAnnouncedWrongFalsely : Prop := reduceAnnouncedRow.holds Try.pinned (OpenSpec.ofChange reduceAnnouncedWrong)

/-- 'wittinglaw30.ReduceStatic': WHATEVER THE INPUT: true; the input reads as it did. -/
def reduceStaticSpec : ChangeSpec := { name := "reduceStatic", fn := fun _ => fun
  | [d1, d2] => { results := [.lit (.bool true)], args := [d1, d2] }
  | _ => none }
def reduceStaticRow : OpenClaim := { program := "ytibbphifegibkaa", sum := "286873efb59714840632658c7d148ebbca6bdc66a006cac1798e6fa57d812df4", func := "witting/wittinglaw30.ReduceStatic", spec := "reduceStatic", unfollowed := true, recurses := true, plainKeys := false, apart := false }
def ReduceStaticSaid : Prop := reduceStaticRow.holds Try.pinned (OpenSpec.ofChange reduceStaticSpec)

/-- ITS FALSE NEIGHBOUR: 'it returns false'. Refute it at one input. -/
def reduceStaticWrong : ChangeSpec := { name := "reduceStatic", fn := fun _ => fun
  | [d1, d2] => { results := [.lit (.bool false)], args := [d1, d2] }
  | _ => none }
def ReduceStaticWrongFalsely : Prop := reduceStaticRow.holds Try.pinned (OpenSpec.ofChange reduceStaticWrong)

/-- 'wittinglaw30.ReduceAgents': WHATEVER THE INPUT: true; the input reads as it did. -/
def reduceAgentsSpec : ChangeSpec := { name := "reduceAgents", fn := fun _ => fun
  | [d1, d2] => { results := [.lit (.bool true)], args := [d1, d2] }
  | _ => none }
def reduceAgentsRow : OpenClaim := { program := "ytibbphifegibkaa", sum := "286873efb59714840632658c7d148ebbca6bdc66a006cac1798e6fa57d812df4", func := "witting/wittinglaw30.ReduceAgents", spec := "reduceAgents", unfollowed := true, recurses := true, plainKeys := false, apart := false }
def ReduceAgentsSaid : Prop := reduceAgentsRow.holds Try.pinned (OpenSpec.ofChange reduceAgentsSpec)

/-- ITS FALSE NEIGHBOUR: 'it returns false'. Refute it at one input. -/
def reduceAgentsWrong : ChangeSpec := { name := "reduceAgents", fn := fun _ => fun
  | [d1, d2] => { results := [.lit (.bool false)], args := [d1, d2] }
  | _ => none }
def ReduceAgentsWrongFalsely : Prop := reduceAgentsRow.holds Try.pinned (OpenSpec.ofChange reduceAgentsWrong)

/- THE SECOND FORM. 'bulk': how many values and letters a reading holds, each counted each time it is reached (what is shared counts as often as it is met; a slice's spare places count too). A statement '..UptoSaid' is the law's where the arguments, and the package variables that the reading takes, are together of bulk at most 1048576: NARROWER than '..Said'. Prove '..Said' where nothing that the law and all that it calls make is longer than what came in: it says more and counts as full. Else prove '..UptoSaid'. A law counts once. -/
mutual
def uptoBulk {H : Type} : DataW H → Nat
  | .lit (.string bytes) => bytes.length + 1
  | .lit _ => 1
  | .nil => 1
  | .ptr d => uptoBulk d + 1
  | .slice elems spare => uptoBulkAll elems + uptoBulkAll spare + 1
  | .agg parts => uptoBulkAll parts + 1
  | .iface _ d => uptoBulk d + 1
  | .map entries => uptoBulkEntries entries + 1
  | .held _ => 1
def uptoBulkAll {H : Type} : List (DataW H) → Nat
  | [] => 0
  | d :: r => uptoBulk d + uptoBulkAll r
def uptoBulkEntries {H : Type} : List (Lit × DataW H) → Nat
  | [] => 0
  | x :: r => uptoBulkEntry x + uptoBulkEntries r
def uptoBulkEntry {H : Type} : Lit × DataW H → Nat
  | (.string bytes, d) => bytes.length + uptoBulk d + 1
  | (_, d) => uptoBulk d + 1
 end
def uptoSmall : (H : Type) → List (DataW H) → Bool := fun _ ds => decide (uptoBulkAll ds ≤ 1048576)
def OpenSpec.upto (s : _root_.Go.ChangeSpec) : _root_.Go.OpenSpec := { _root_.Go.OpenSpec.ofChange s with cond := some uptoSmall }

/-- 'wittinglaw30.ReduceAnnounced', WHERE WHAT IT READS IS OF BULK AT MOST 1048576: true; the input reads as it did. -/
def reduceAnnouncedUptoRow : OpenClaim := { program := "ytibbphifegibkaa", sum := "286873efb59714840632658c7d148ebbca6bdc66a006cac1798e6fa57d812df4", func := "witting/wittinglaw30.ReduceAnnounced", spec := "reduceAnnounced", unfollowed := true, recurses := true, plainKeys := false, apart := false, narrowed := true }
def ReduceAnnouncedUptoSaid : Prop := reduceAnnouncedUptoRow.holds Try.pinned (OpenSpec.upto reduceAnnouncedSpec)

/-- 'wittinglaw30.ReduceStatic', WHERE WHAT IT READS IS OF BULK AT MOST 1048576: true; the input reads as it did. -/
def reduceStaticUptoRow : OpenClaim := { program := "ytibbphifegibkaa", sum := "286873efb59714840632658c7d148ebbca6bdc66a006cac1798e6fa57d812df4", func := "witting/wittinglaw30.ReduceStatic", spec := "reduceStatic", unfollowed := true, recurses := true, plainKeys := false, apart := false, narrowed := true }
def ReduceStaticUptoSaid : Prop := reduceStaticUptoRow.holds Try.pinned (OpenSpec.upto reduceStaticSpec)

/-- 'wittinglaw30.ReduceAgents', WHERE WHAT IT READS IS OF BULK AT MOST 1048576: true; the input reads as it did. -/
def reduceAgentsUptoRow : OpenClaim := { program := "ytibbphifegibkaa", sum := "286873efb59714840632658c7d148ebbca6bdc66a006cac1798e6fa57d812df4", func := "witting/wittinglaw30.ReduceAgents", spec := "reduceAgents", unfollowed := true, recurses := true, plainKeys := false, apart := false, narrowed := true }
def ReduceAgentsUptoSaid : Prop := reduceAgentsUptoRow.holds Try.pinned (OpenSpec.upto reduceAgentsSpec)

end Rows
end Go.Proofs.Ytibbphifegibkaa
