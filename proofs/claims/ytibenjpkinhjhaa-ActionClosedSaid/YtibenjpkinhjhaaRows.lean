/-
  No cell of these rows narrows 'for every input' (looked for: loops, veiled, ifaces, maps, wideKeys, modest, calm, conditions, laid).
  DERIVED. THE GIVEN ROWS OF THIS SEAT. 10 by the template 'for every input the law returns true; each argument reads behind the call as it read before'; 0 by the template 'total and deterministic' (their statements: YtibenjpkinhjhaaTotals.lean).
  GIVEN WITH THE SEED: the statements are not yours to turn. If you find one false, say at which input.
  Laid BY PROGRAM, IN A SANDBOX (cutbox-rows.mjs): the forced cells as the released guide's own fill.sh prints them over the translation 8baee152f3b4e009… (all of the seat's roots in one cut). By AI agents, Wed Nov 11 2026. No macro, syntax, notation, axiom, sorry.
-/
import Derived.Test.YtibenjpkinhjhaaChecked
import GoSem.Claim
import GoSem.ClaimJoined
import GoSem.ClaimMapViews
import Derived.JoinedTies
import Derived.KernelRfl
namespace Go.Proofs.Ytibenjpkinhjhaa
/- THE CELL 'sum', in the pinned program and in every row, IS THE sha256 OF THE DUMP (.gsa) THAT YtibenjpkinhjhaaProg.lean LOADS. Nothing in Lean hashes anything: it is a label: what it is worth is what the hold of that sum in a sandbox is worth. -/
noncomputable def Try.pinned : Pinned := { name := "ytibenjpkinhjhaa", sum := "8baee152f3b4e0092c10f626be5433e19f684dca733483f71b562be89ec78344", checked := Try.checked }
namespace Rows
def none {H : Type} : Left H := { results := [], args := [] }

/-- 'wittinglaw26.ActionChecks': WHATEVER THE INPUT: true; the input reads as it did. -/
def actionChecksSpec : ChangeSpec := { name := "actionChecks", fn := fun _ => fun
  | [d1, d2, d3] => { results := [.lit (.bool true)], args := [d1, d2, d3] }
  | _ => none }
def actionChecksRow : OpenClaim := { program := "ytibenjpkinhjhaa", sum := "8baee152f3b4e0092c10f626be5433e19f684dca733483f71b562be89ec78344", func := "witting/wittinglaw26.ActionChecks", spec := "actionChecks", unfollowed := true, recurses := true, plainKeys := false, apart := false }
def ActionChecksSaid : Prop := actionChecksRow.holds Try.pinned (OpenSpec.ofChange actionChecksSpec)

/-- ITS FALSE NEIGHBOUR: 'it returns false'. Refute it at one input. -/
def actionChecksWrong : ChangeSpec := { name := "actionChecks", fn := fun _ => fun
  | [d1, d2, d3] => { results := [.lit (.bool false)], args := [d1, d2, d3] }
  | _ => none }
def ActionChecksWrongFalsely : Prop := actionChecksRow.holds Try.pinned (OpenSpec.ofChange actionChecksWrong)

/-- 'wittinglaw26.ActionRelates': WHATEVER THE INPUT: true; the input reads as it did. -/
def actionRelatesSpec : ChangeSpec := { name := "actionRelates", fn := fun _ => fun
  | [d1, d2, d3] => { results := [.lit (.bool true)], args := [d1, d2, d3] }
  | _ => none }
def actionRelatesRow : OpenClaim := { program := "ytibenjpkinhjhaa", sum := "8baee152f3b4e0092c10f626be5433e19f684dca733483f71b562be89ec78344", func := "witting/wittinglaw26.ActionRelates", spec := "actionRelates", unfollowed := true, recurses := true, plainKeys := false, apart := false }
def ActionRelatesSaid : Prop := actionRelatesRow.holds Try.pinned (OpenSpec.ofChange actionRelatesSpec)

/-- ITS FALSE NEIGHBOUR: 'it returns false'. Refute it at one input. -/
def actionRelatesWrong : ChangeSpec := { name := "actionRelates", fn := fun _ => fun
  | [d1, d2, d3] => { results := [.lit (.bool false)], args := [d1, d2, d3] }
  | _ => none }
def ActionRelatesWrongFalsely : Prop := actionRelatesRow.holds Try.pinned (OpenSpec.ofChange actionRelatesWrong)

/-- 'wittinglaw26.ActionParts': WHATEVER THE INPUT: true; the input reads as it did. -/
def actionPartsSpec : ChangeSpec := { name := "actionParts", fn := fun _ => fun
  | [d1, d2, d3] => { results := [.lit (.bool true)], args := [d1, d2, d3] }
  | _ => none }
def actionPartsRow : OpenClaim := { program := "ytibenjpkinhjhaa", sum := "8baee152f3b4e0092c10f626be5433e19f684dca733483f71b562be89ec78344", func := "witting/wittinglaw26.ActionParts", spec := "actionParts", unfollowed := true, recurses := true, plainKeys := false, apart := false }
def ActionPartsSaid : Prop := actionPartsRow.holds Try.pinned (OpenSpec.ofChange actionPartsSpec)

/-- ITS FALSE NEIGHBOUR: 'it returns false'. Refute it at one input. -/
def actionPartsWrong : ChangeSpec := { name := "actionParts", fn := fun _ => fun
  | [d1, d2, d3] => { results := [.lit (.bool false)], args := [d1, d2, d3] }
  | _ => none }
def ActionPartsWrongFalsely : Prop := actionPartsRow.holds Try.pinned (OpenSpec.ofChange actionPartsWrong)

/-- 'wittinglaw26.ActionSame': WHATEVER THE INPUT: true; the input reads as it did. -/
def actionSameSpec : ChangeSpec := { name := "actionSame", fn := fun _ => fun
  | [d1, d2] => { results := [.lit (.bool true)], args := [d1, d2] }
  | _ => none }
def actionSameRow : OpenClaim := { program := "ytibenjpkinhjhaa", sum := "8baee152f3b4e0092c10f626be5433e19f684dca733483f71b562be89ec78344", func := "witting/wittinglaw26.ActionSame", spec := "actionSame", unfollowed := true, recurses := true, plainKeys := false, apart := false }
def ActionSameSaid : Prop := actionSameRow.holds Try.pinned (OpenSpec.ofChange actionSameSpec)

/-- ITS FALSE NEIGHBOUR: 'it returns false'. Refute it at one input. -/
def actionSameWrong : ChangeSpec := { name := "actionSame", fn := fun _ => fun
  | [d1, d2] => { results := [.lit (.bool false)], args := [d1, d2] }
  | _ => none }
def ActionSameWrongFalsely : Prop := actionSameRow.holds Try.pinned (OpenSpec.ofChange actionSameWrong)

/-- 'wittinglaw26.ActionPublic': WHATEVER THE INPUT: true; the input reads as it did. -/
def actionPublicSpec : ChangeSpec := { name := "actionPublic", fn := fun _ => fun
  | [d1, d2] => { results := [.lit (.bool true)], args := [d1, d2] }
  | _ => none }
def actionPublicRow : OpenClaim := { program := "ytibenjpkinhjhaa", sum := "8baee152f3b4e0092c10f626be5433e19f684dca733483f71b562be89ec78344", func := "witting/wittinglaw26.ActionPublic", spec := "actionPublic", unfollowed := true, recurses := true, plainKeys := false, apart := false }
def ActionPublicSaid : Prop := actionPublicRow.holds Try.pinned (OpenSpec.ofChange actionPublicSpec)

/-- ITS FALSE NEIGHBOUR: 'it returns false'. Refute it at one input. -/
def actionPublicWrong : ChangeSpec := { name := "actionPublic", fn := fun _ => fun
  | [d1, d2] => { results := [.lit (.bool false)], args := [d1, d2] }
  | _ => none }
def ActionPublicWrongFalsely : Prop := actionPublicRow.holds Try.pinned (OpenSpec.ofChange actionPublicWrong)

/-- 'wittinglaw26.ActionMakes': WHATEVER THE INPUT: true; the input reads as it did. -/
def actionMakesSpec : ChangeSpec := { name := "actionMakes", fn := fun _ => fun
  | [d1, d2] => { results := [.lit (.bool true)], args := [d1, d2] }
  | _ => none }
def actionMakesRow : OpenClaim := { program := "ytibenjpkinhjhaa", sum := "8baee152f3b4e0092c10f626be5433e19f684dca733483f71b562be89ec78344", func := "witting/wittinglaw26.ActionMakes", spec := "actionMakes", unfollowed := true, recurses := true, plainKeys := false, apart := false }
def ActionMakesSaid : Prop := actionMakesRow.holds Try.pinned (OpenSpec.ofChange actionMakesSpec)

/-- ITS FALSE NEIGHBOUR: 'it returns false'. Refute it at one input. -/
def actionMakesWrong : ChangeSpec := { name := "actionMakes", fn := fun _ => fun
  | [d1, d2] => { results := [.lit (.bool false)], args := [d1, d2] }
  | _ => none }
def ActionMakesWrongFalsely : Prop := actionMakesRow.holds Try.pinned (OpenSpec.ofChange actionMakesWrong)

/-- 'wittinglaw26.ActionClosed': WHATEVER THE INPUT: true; the input reads as it did. -/
def actionClosedSpec : ChangeSpec := { name := "actionClosed", fn := fun _ => fun
  | [d1, d2] => { results := [.lit (.bool true)], args := [d1, d2] }
  | _ => none }
def actionClosedRow : OpenClaim := { program := "ytibenjpkinhjhaa", sum := "8baee152f3b4e0092c10f626be5433e19f684dca733483f71b562be89ec78344", func := "witting/wittinglaw26.ActionClosed", spec := "actionClosed", unfollowed := true, recurses := true, plainKeys := false, apart := false }
def ActionClosedSaid : Prop := actionClosedRow.holds Try.pinned (OpenSpec.ofChange actionClosedSpec)

/-- ITS FALSE NEIGHBOUR: 'it returns false'. Refute it at one input. -/
def actionClosedWrong : ChangeSpec := { name := "actionClosed", fn := fun _ => fun
  | [d1, d2] => { results := [.lit (.bool false)], args := [d1, d2] }
  | _ => none }
def ActionClosedWrongFalsely : Prop := actionClosedRow.holds Try.pinned (OpenSpec.ofChange actionClosedWrong)

/-- 'wittinglaw29.MessagesTell': WHATEVER THE INPUT: true; the input reads as it did. -/
def messagesTellSpec : ChangeSpec := { name := "messagesTell", fn := fun _ => fun
  | [d1, d2, d3] => { results := [.lit (.bool true)], args := [d1, d2, d3] }
  | _ => none }
def messagesTellRow : OpenClaim := { program := "ytibenjpkinhjhaa", sum := "8baee152f3b4e0092c10f626be5433e19f684dca733483f71b562be89ec78344", func := "witting/wittinglaw29.MessagesTell", spec := "messagesTell", unfollowed := true, recurses := true, plainKeys := false, apart := false }
def MessagesTellSaid : Prop := messagesTellRow.holds Try.pinned (OpenSpec.ofChange messagesTellSpec)

/-- ITS FALSE NEIGHBOUR: 'it returns false'. Refute it at one input. -/
def messagesTellWrong : ChangeSpec := { name := "messagesTell", fn := fun _ => fun
  | [d1, d2, d3] => { results := [.lit (.bool false)], args := [d1, d2, d3] }
  | _ => none }
def MessagesTellWrongFalsely : Prop := messagesTellRow.holds Try.pinned (OpenSpec.ofChange messagesTellWrong)

/-- 'wittinglaw29.MessagesChange': WHATEVER THE INPUT: true; the input reads as it did. -/
def messagesChangeSpec : ChangeSpec := { name := "messagesChange", fn := fun _ => fun
  | [d1, d2, d3] => { results := [.lit (.bool true)], args := [d1, d2, d3] }
  | _ => none }
def messagesChangeRow : OpenClaim := { program := "ytibenjpkinhjhaa", sum := "8baee152f3b4e0092c10f626be5433e19f684dca733483f71b562be89ec78344", func := "witting/wittinglaw29.MessagesChange", spec := "messagesChange", unfollowed := true, recurses := true, plainKeys := false, apart := false }
def MessagesChangeSaid : Prop := messagesChangeRow.holds Try.pinned (OpenSpec.ofChange messagesChangeSpec)

/-- ITS FALSE NEIGHBOUR: 'it returns false'. Refute it at one input. -/
def messagesChangeWrong : ChangeSpec := { name := "messagesChange", fn := fun _ => fun
  | [d1, d2, d3] => { results := [.lit (.bool false)], args := [d1, d2, d3] }
  | _ => none }
def MessagesChangeWrongFalsely : Prop := messagesChangeRow.holds Try.pinned (OpenSpec.ofChange messagesChangeWrong)

/-- 'wittinglaw29.MessagesLogics': WHATEVER THE INPUT: true; the input reads as it did. -/
def messagesLogicsSpec : ChangeSpec := { name := "messagesLogics", fn := fun _ => fun
  | [d1, d2, d3] => { results := [.lit (.bool true)], args := [d1, d2, d3] }
  | _ => none }
def messagesLogicsRow : OpenClaim := { program := "ytibenjpkinhjhaa", sum := "8baee152f3b4e0092c10f626be5433e19f684dca733483f71b562be89ec78344", func := "witting/wittinglaw29.MessagesLogics", spec := "messagesLogics", unfollowed := true, recurses := true, plainKeys := false, apart := false }
def MessagesLogicsSaid : Prop := messagesLogicsRow.holds Try.pinned (OpenSpec.ofChange messagesLogicsSpec)

/-- ITS FALSE NEIGHBOUR: 'it returns false'. Refute it at one input. -/
def messagesLogicsWrong : ChangeSpec := { name := "messagesLogics", fn := fun _ => fun
  | [d1, d2, d3] => { results := [.lit (.bool false)], args := [d1, d2, d3] }
  | _ => none }
def MessagesLogicsWrongFalsely : Prop := messagesLogicsRow.holds Try.pinned (OpenSpec.ofChange messagesLogicsWrong)

/- THE SECOND FORM. 'bulk': how many values and letters a reading holds, each counted each time it is reached (what is shared counts as often as it is met; a slice's spare places count too). A statement '..UptoSaid' is the law's where the arguments, and the package variables that the reading takes, are together of bulk at most 1048576: NARROWER than '..Said'. Prove '..Said' where nothing that the law and all that it calls make is longer than what came in: it says more and counts as full. Else prove '..UptoSaid'. A law counts once. -/
mutual
def uptoBulk {H : Type} : DataW H → Nat
  | .lit (.string bytes) => bytes.length + 1
  | .lit _ => 1
  | .nil => 1
  | .ptr d => uptoBulk d + 1
  | .slice elems spare => uptoBulkAll elems + uptoBulkAll spare + 1
  | .agg parts => uptoBulkAll parts + 1
  | .iface _ d => uptoBulk d + 1
  | .map entries => uptoBulkEntries entries + 1
  | .held _ => 1
def uptoBulkAll {H : Type} : List (DataW H) → Nat
  | [] => 0
  | d :: r => uptoBulk d + uptoBulkAll r
def uptoBulkEntries {H : Type} : List (Lit × DataW H) → Nat
  | [] => 0
  | x :: r => uptoBulkEntry x + uptoBulkEntries r
def uptoBulkEntry {H : Type} : Lit × DataW H → Nat
  | (.string bytes, d) => bytes.length + uptoBulk d + 1
  | (_, d) => uptoBulk d + 1
 end
def uptoSmall : (H : Type) → List (DataW H) → Bool := fun _ ds => decide (uptoBulkAll ds ≤ 1048576)
def OpenSpec.upto (s : _root_.Go.ChangeSpec) : _root_.Go.OpenSpec := { _root_.Go.OpenSpec.ofChange s with cond := some uptoSmall }

/-- 'wittinglaw26.ActionChecks', WHERE WHAT IT READS IS OF BULK AT MOST 1048576: true; the input reads as it did. -/
def actionChecksUptoRow : OpenClaim := { program := "ytibenjpkinhjhaa", sum := "8baee152f3b4e0092c10f626be5433e19f684dca733483f71b562be89ec78344", func := "witting/wittinglaw26.ActionChecks", spec := "actionChecks", unfollowed := true, recurses := true, plainKeys := false, apart := false, narrowed := true }
def ActionChecksUptoSaid : Prop := actionChecksUptoRow.holds Try.pinned (OpenSpec.upto actionChecksSpec)

/-- 'wittinglaw26.ActionRelates', WHERE WHAT IT READS IS OF BULK AT MOST 1048576: true; the input reads as it did. -/
def actionRelatesUptoRow : OpenClaim := { program := "ytibenjpkinhjhaa", sum := "8baee152f3b4e0092c10f626be5433e19f684dca733483f71b562be89ec78344", func := "witting/wittinglaw26.ActionRelates", spec := "actionRelates", unfollowed := true, recurses := true, plainKeys := false, apart := false, narrowed := true }
def ActionRelatesUptoSaid : Prop := actionRelatesUptoRow.holds Try.pinned (OpenSpec.upto actionRelatesSpec)

/-- 'wittinglaw26.ActionParts', WHERE WHAT IT READS IS OF BULK AT MOST 1048576: true; the input reads as it did. -/
def actionPartsUptoRow : OpenClaim := { program := "ytibenjpkinhjhaa", sum := "8baee152f3b4e0092c10f626be5433e19f684dca733483f71b562be89ec78344", func := "witting/wittinglaw26.ActionParts", spec := "actionParts", unfollowed := true, recurses := true, plainKeys := false, apart := false, narrowed := true }
def ActionPartsUptoSaid : Prop := actionPartsUptoRow.holds Try.pinned (OpenSpec.upto actionPartsSpec)

/-- 'wittinglaw26.ActionSame', WHERE WHAT IT READS IS OF BULK AT MOST 1048576: true; the input reads as it did. -/
def actionSameUptoRow : OpenClaim := { program := "ytibenjpkinhjhaa", sum := "8baee152f3b4e0092c10f626be5433e19f684dca733483f71b562be89ec78344", func := "witting/wittinglaw26.ActionSame", spec := "actionSame", unfollowed := true, recurses := true, plainKeys := false, apart := false, narrowed := true }
def ActionSameUptoSaid : Prop := actionSameUptoRow.holds Try.pinned (OpenSpec.upto actionSameSpec)

/-- 'wittinglaw26.ActionPublic', WHERE WHAT IT READS IS OF BULK AT MOST 1048576: true; the input reads as it did. -/
def actionPublicUptoRow : OpenClaim := { program := "ytibenjpkinhjhaa", sum := "8baee152f3b4e0092c10f626be5433e19f684dca733483f71b562be89ec78344", func := "witting/wittinglaw26.ActionPublic", spec := "actionPublic", unfollowed := true, recurses := true, plainKeys := false, apart := false, narrowed := true }
def ActionPublicUptoSaid : Prop := actionPublicUptoRow.holds Try.pinned (OpenSpec.upto actionPublicSpec)

/-- 'wittinglaw26.ActionMakes', WHERE WHAT IT READS IS OF BULK AT MOST 1048576: true; the input reads as it did. -/
def actionMakesUptoRow : OpenClaim := { program := "ytibenjpkinhjhaa", sum := "8baee152f3b4e0092c10f626be5433e19f684dca733483f71b562be89ec78344", func := "witting/wittinglaw26.ActionMakes", spec := "actionMakes", unfollowed := true, recurses := true, plainKeys := false, apart := false, narrowed := true }
def ActionMakesUptoSaid : Prop := actionMakesUptoRow.holds Try.pinned (OpenSpec.upto actionMakesSpec)

/-- 'wittinglaw26.ActionClosed', WHERE WHAT IT READS IS OF BULK AT MOST 1048576: true; the input reads as it did. -/
def actionClosedUptoRow : OpenClaim := { program := "ytibenjpkinhjhaa", sum := "8baee152f3b4e0092c10f626be5433e19f684dca733483f71b562be89ec78344", func := "witting/wittinglaw26.ActionClosed", spec := "actionClosed", unfollowed := true, recurses := true, plainKeys := false, apart := false, narrowed := true }
def ActionClosedUptoSaid : Prop := actionClosedUptoRow.holds Try.pinned (OpenSpec.upto actionClosedSpec)

/-- 'wittinglaw29.MessagesTell', WHERE WHAT IT READS IS OF BULK AT MOST 1048576: true; the input reads as it did. -/
def messagesTellUptoRow : OpenClaim := { program := "ytibenjpkinhjhaa", sum := "8baee152f3b4e0092c10f626be5433e19f684dca733483f71b562be89ec78344", func := "witting/wittinglaw29.MessagesTell", spec := "messagesTell", unfollowed := true, recurses := true, plainKeys := false, apart := false, narrowed := true }
def MessagesTellUptoSaid : Prop := messagesTellUptoRow.holds Try.pinned (OpenSpec.upto messagesTellSpec)

/-- 'wittinglaw29.MessagesChange', WHERE WHAT IT READS IS OF BULK AT MOST 1048576: true; the input reads as it did. -/
def messagesChangeUptoRow : OpenClaim := { program := "ytibenjpkinhjhaa", sum := "8baee152f3b4e0092c10f626be5433e19f684dca733483f71b562be89ec78344", func := "witting/wittinglaw29.MessagesChange", spec := "messagesChange", unfollowed := true, recurses := true, plainKeys := false, apart := false, narrowed := true }
def MessagesChangeUptoSaid : Prop := messagesChangeUptoRow.holds Try.pinned (OpenSpec.upto messagesChangeSpec)

/-- 'wittinglaw29.MessagesLogics', WHERE WHAT IT READS IS OF BULK AT MOST 1048576: true; the input reads as it did. -/
def messagesLogicsUptoRow : OpenClaim := { program := "ytibenjpkinhjhaa", sum := "8baee152f3b4e0092c10f626be5433e19f684dca733483f71b562be89ec78344", func := "witting/wittinglaw29.MessagesLogics", spec := "messagesLogics", unfollowed := true, recurses := true, plainKeys := false, apart := false, narrowed := true }
def MessagesLogicsUptoSaid : Prop := messagesLogicsUptoRow.holds Try.pinned (OpenSpec.upto messagesLogicsSpec)

end Rows
end Go.Proofs.Ytibenjpkinhjhaa
