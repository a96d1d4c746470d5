/-
  NARROWER THAN 'FOR EVERY INPUT', by the rows' own cells (each row's printed sentence says how): ComposeDiffers: laid · ComposeSmaller: laid · ComposeEffects: laid · ComposePublic: laid · ComposeOrder: laid · TopAnnouncementActions: laid · TopComposedActions: laid · TopAnnouncedTwice: laid.
  DERIVED. THE GIVEN ROWS OF THIS SEAT. 8 by the template 'for every input the law returns true; each argument reads behind the call as it read before'; 0 by the template 'total and deterministic' (their statements: YtejbieopeicgkaaGreatDoorTotals.lean).
  GIVEN WITH THE SEED: the statements are not yours to turn. If you find one false, say at which input.
  Laid BY PROGRAM, IN A SANDBOX (cutbox-rows.mjs): the forced cells as the released guide's own fill.sh prints them over the translation 7bd8e83dcb410fd3… (all of the seat's roots in one cut). By AI agents, Wed Nov 11 2026. No macro, syntax, notation, axiom, sorry.
-/
import Derived.Test.YtejbieopeicgkaaGreatDoorChecked
import GoSem.Claim
import GoSem.ClaimJoined
import GoSem.ClaimMapViews
import Derived.JoinedTies
import Derived.KernelRfl
namespace Go.Proofs.YtejbieopeicgkaaGreatDoor
/- THE CELL 'sum', in the pinned program and in every row, IS THE sha256 OF THE DUMP (.gsa) THAT YtejbieopeicgkaaGreatDoorProg.lean LOADS. Nothing in Lean hashes anything: it is a label: what it is worth is what the hold of that sum in a sandbox is worth. -/
noncomputable def Tryz.pinned : Pinned := { name := "ytejbieopeicgkaagreatdoor", sum := "7bd8e83dcb410fd354896d5d084829d616808a8035ea7190ac33ea09c3780f0f", checked := Tryz.checked }
namespace Rows
def none {H : Type} : Left H := { results := [], args := [] }

/- WHAT THE LISTED PACKAGE-LEVEL VARIABLES READ AS WHEN THE CALL BEGINS. Each datum BY PROGRAM (the guide's laid-datum.mjs) off the statement by which the dump's own 'gosem.cut.vars' lays the variable. In a bare row this is a premise. The card (YtejbieopeicgkaaGreatDoorCards.lean) ties it to the program's text. -/
def laid_math_bits_deBruijn64tab {H : Type} : DataW H := .agg [.lit (.int .u8 0), .lit (.int .u8 1), .lit (.int .u8 56), .lit (.int .u8 2), .lit (.int .u8 57), .lit (.int .u8 49), .lit (.int .u8 28), .lit (.int .u8 3), .lit (.int .u8 61), .lit (.int .u8 58), .lit (.int .u8 42), .lit (.int .u8 50), .lit (.int .u8 38), .lit (.int .u8 29), .lit (.int .u8 17), .lit (.int .u8 4), .lit (.int .u8 62), .lit (.int .u8 47), .lit (.int .u8 59), .lit (.int .u8 36), .lit (.int .u8 45), .lit (.int .u8 43), .lit (.int .u8 51), .lit (.int .u8 22), .lit (.int .u8 53), .lit (.int .u8 39), .lit (.int .u8 33), .lit (.int .u8 30), .lit (.int .u8 24), .lit (.int .u8 18), .lit (.int .u8 12), .lit (.int .u8 5), .lit (.int .u8 63), .lit (.int .u8 55), .lit (.int .u8 48), .lit (.int .u8 27), .lit (.int .u8 60), .lit (.int .u8 41), .lit (.int .u8 37), .lit (.int .u8 16), .lit (.int .u8 46), .lit (.int .u8 35), .lit (.int .u8 44), .lit (.int .u8 21), .lit (.int .u8 52), .lit (.int .u8 32), .lit (.int .u8 23), .lit (.int .u8 11), .lit (.int .u8 54), .lit (.int .u8 26), .lit (.int .u8 40), .lit (.int .u8 15), .lit (.int .u8 34), .lit (.int .u8 20), .lit (.int .u8 31), .lit (.int .u8 10), .lit (.int .u8 25), .lit (.int .u8 14), .lit (.int .u8 19), .lit (.int .u8 9), .lit (.int .u8 13), .lit (.int .u8 8), .lit (.int .u8 7), .lit (.int .u8 6)]

/-- 'wittinglaw31.ComposeDiffers': WHATEVER THE INPUT: true; the input reads as it did. -/
def composeDiffersSpec : ChangeSpec := { name := "composeDiffers", fn := fun _ => fun
  | [d1, d2, d3] => { results := [.lit (.bool true)], args := [d1, d2, d3] }
  | _ => none }
def composeDiffersRow : OpenClaim := { program := "ytejbieopeicgkaagreatdoor", sum := "7bd8e83dcb410fd354896d5d084829d616808a8035ea7190ac33ea09c3780f0f", func := "witting/wittinglaw31.ComposeDiffers", spec := "composeDiffers", inPlace := ["slices.overlaps[witting/api.Assign]"], unfollowed := true, recurses := true, named := ["math/bits.deBruijn64tab"], plainKeys := false, apart := false, laid := [("math/bits.deBruijn64tab", laid_math_bits_deBruijn64tab)] }
def ComposeDiffersSaid : Prop := composeDiffersRow.holds Tryz.pinned (OpenSpec.ofChange composeDiffersSpec)

/-- ITS FALSE NEIGHBOUR: 'it returns false'. Refute it at one input. -/
def composeDiffersWrong : ChangeSpec := { name := "composeDiffers", fn := fun _ => fun
  | [d1, d2, d3] => { results := [.lit (.bool false)], args := [d1, d2, d3] }
  | _ => none }
def ComposeDiffersWrongFalsely : Prop := composeDiffersRow.holds Tryz.pinned (OpenSpec.ofChange composeDiffersWrong)

/-- 'wittinglaw31.ComposeSmaller': WHATEVER THE INPUT: true; the input reads as it did. -/
def composeSmallerSpec : ChangeSpec := { name := "composeSmaller", fn := fun _ => fun
  | [d1, d2] => { results := [.lit (.bool true)], args := [d1, d2] }
  | _ => none }
def composeSmallerRow : OpenClaim := { program := "ytejbieopeicgkaagreatdoor", sum := "7bd8e83dcb410fd354896d5d084829d616808a8035ea7190ac33ea09c3780f0f", func := "witting/wittinglaw31.ComposeSmaller", spec := "composeSmaller", inPlace := ["slices.overlaps[witting/api.Assign]"], unfollowed := true, recurses := true, named := ["math/bits.deBruijn64tab"], plainKeys := false, apart := false, laid := [("math/bits.deBruijn64tab", laid_math_bits_deBruijn64tab)] }
def ComposeSmallerSaid : Prop := composeSmallerRow.holds Tryz.pinned (OpenSpec.ofChange composeSmallerSpec)

/-- ITS FALSE NEIGHBOUR: 'it returns false'. Refute it at one input. -/
def composeSmallerWrong : ChangeSpec := { name := "composeSmaller", fn := fun _ => fun
  | [d1, d2] => { results := [.lit (.bool false)], args := [d1, d2] }
  | _ => none }
def ComposeSmallerWrongFalsely : Prop := composeSmallerRow.holds Tryz.pinned (OpenSpec.ofChange composeSmallerWrong)

/-- 'wittinglaw31.ComposeEffects': WHATEVER THE INPUT: true; the input reads as it did. -/
def composeEffectsSpec : ChangeSpec := { name := "composeEffects", fn := fun _ => fun
  | [d1, d2, d3] => { results := [.lit (.bool true)], args := [d1, d2, d3] }
  | _ => none }
def composeEffectsRow : OpenClaim := { program := "ytejbieopeicgkaagreatdoor", sum := "7bd8e83dcb410fd354896d5d084829d616808a8035ea7190ac33ea09c3780f0f", func := "witting/wittinglaw31.ComposeEffects", spec := "composeEffects", inPlace := ["slices.overlaps[witting/api.Assign]"], unfollowed := true, recurses := true, named := ["math/bits.deBruijn64tab"], plainKeys := false, apart := false, laid := [("math/bits.deBruijn64tab", laid_math_bits_deBruijn64tab)] }
def ComposeEffectsSaid : Prop := composeEffectsRow.holds Tryz.pinned (OpenSpec.ofChange composeEffectsSpec)

/-- ITS FALSE NEIGHBOUR: 'it returns false'. Refute it at one input. -/
def composeEffectsWrong : ChangeSpec := { name := "composeEffects", fn := fun _ => fun
  | [d1, d2, d3] => { results := [.lit (.bool false)], args := [d1, d2, d3] }
  | _ => none }
def ComposeEffectsWrongFalsely : Prop := composeEffectsRow.holds Tryz.pinned (OpenSpec.ofChange composeEffectsWrong)

/-- 'wittinglaw31.ComposePublic': WHATEVER THE INPUT: true; the input reads as it did. -/
def composePublicSpec : ChangeSpec := { name := "composePublic", fn := fun _ => fun
  | [d1, d2] => { results := [.lit (.bool true)], args := [d1, d2] }
  | _ => none }
def composePublicRow : OpenClaim := { program := "ytejbieopeicgkaagreatdoor", sum := "7bd8e83dcb410fd354896d5d084829d616808a8035ea7190ac33ea09c3780f0f", func := "witting/wittinglaw31.ComposePublic", spec := "composePublic", inPlace := ["slices.overlaps[witting/api.Assign]"], unfollowed := true, recurses := true, named := ["math/bits.deBruijn64tab"], plainKeys := false, apart := false, laid := [("math/bits.deBruijn64tab", laid_math_bits_deBruijn64tab)] }
def ComposePublicSaid : Prop := composePublicRow.holds Tryz.pinned (OpenSpec.ofChange composePublicSpec)

/-- ITS FALSE NEIGHBOUR: 'it returns false'. Refute it at one input. -/
def composePublicWrong : ChangeSpec := { name := "composePublic", fn := fun _ => fun
  | [d1, d2] => { results := [.lit (.bool false)], args := [d1, d2] }
  | _ => none }
def ComposePublicWrongFalsely : Prop := composePublicRow.holds Tryz.pinned (OpenSpec.ofChange composePublicWrong)

/-- 'wittinglaw31.ComposeOrder': WHATEVER THE INPUT: true; the input reads as it did. -/
def composeOrderSpec : ChangeSpec := { name := "composeOrder", fn := fun _ => fun
  | [d1, d2, d3] => { results := [.lit (.bool true)], args := [d1, d2, d3] }
  | _ => none }
def composeOrderRow : OpenClaim := { program := "ytejbieopeicgkaagreatdoor", sum := "7bd8e83dcb410fd354896d5d084829d616808a8035ea7190ac33ea09c3780f0f", func := "witting/wittinglaw31.ComposeOrder", spec := "composeOrder", inPlace := ["slices.overlaps[witting/api.Assign]"], unfollowed := true, recurses := true, named := ["math/bits.deBruijn64tab"], plainKeys := false, apart := false, laid := [("math/bits.deBruijn64tab", laid_math_bits_deBruijn64tab)] }
def ComposeOrderSaid : Prop := composeOrderRow.holds Tryz.pinned (OpenSpec.ofChange composeOrderSpec)

/-- ITS FALSE NEIGHBOUR: 'it returns false'. Refute it at one input. -/
def composeOrderWrong : ChangeSpec := { name := "composeOrder", fn := fun _ => fun
  | [d1, d2, d3] => { results := [.lit (.bool false)], args := [d1, d2, d3] }
  | _ => none }
def ComposeOrderWrongFalsely : Prop := composeOrderRow.holds Tryz.pinned (OpenSpec.ofChange composeOrderWrong)

/-- 'wittingtop.TopAnnouncementActions': WHATEVER THE INPUT: true; the input reads as it did. -/
def topAnnouncementActionsSpec : ChangeSpec := { name := "topAnnouncementActions", fn := fun _ => fun
  | [d1, d2] => { results := [.lit (.bool true)], args := [d1, d2] }
  | _ => none }
def topAnnouncementActionsRow : OpenClaim := { program := "ytejbieopeicgkaagreatdoor", sum := "7bd8e83dcb410fd354896d5d084829d616808a8035ea7190ac33ea09c3780f0f", func := "witting/wittingtop.TopAnnouncementActions", spec := "topAnnouncementActions", inPlace := ["slices.overlaps[witting/api.Assign]"], unfollowed := true, recurses := true, named := ["math/bits.deBruijn64tab"], plainKeys := false, apart := false, laid := [("math/bits.deBruijn64tab", laid_math_bits_deBruijn64tab)] }
def TopAnnouncementActionsSaid : Prop := topAnnouncementActionsRow.holds Tryz.pinned (OpenSpec.ofChange topAnnouncementActionsSpec)

/-- ITS FALSE NEIGHBOUR: 'it returns false'. Refute it at one input. -/
def topAnnouncementActionsWrong : ChangeSpec := { name := "topAnnouncementActions", fn := fun _ => fun
  | [d1, d2] => { results := [.lit (.bool false)], args := [d1, d2] }
  | _ => none }
def TopAnnouncementActionsWrongFalsely : Prop := topAnnouncementActionsRow.holds Tryz.pinned (OpenSpec.ofChange topAnnouncementActionsWrong)

/-- 'wittingtop.TopComposedActions': WHATEVER THE INPUT: true; the input reads as it did. -/
def topComposedActionsSpec : ChangeSpec := { name := "topComposedActions", fn := fun _ => fun
  | [d1, d2] => { results := [.lit (.bool true)], args := [d1, d2] }
  | _ => none }
def topComposedActionsRow : OpenClaim := { program := "ytejbieopeicgkaagreatdoor", sum := "7bd8e83dcb410fd354896d5d084829d616808a8035ea7190ac33ea09c3780f0f", func := "witting/wittingtop.TopComposedActions", spec := "topComposedActions", inPlace := ["slices.overlaps[witting/api.Assign]"], unfollowed := true, recurses := true, named := ["math/bits.deBruijn64tab"], plainKeys := false, apart := false, laid := [("math/bits.deBruijn64tab", laid_math_bits_deBruijn64tab)] }
def TopComposedActionsSaid : Prop := topComposedActionsRow.holds Tryz.pinned (OpenSpec.ofChange topComposedActionsSpec)

/-- ITS FALSE NEIGHBOUR: 'it returns false'. Refute it at one input. -/
def topComposedActionsWrong : ChangeSpec := { name := "topComposedActions", fn := fun _ => fun
  | [d1, d2] => { results := [.lit (.bool false)], args := [d1, d2] }
  | _ => none }
def TopComposedActionsWrongFalsely : Prop := topComposedActionsRow.holds Tryz.pinned (OpenSpec.ofChange topComposedActionsWrong)

/-- 'wittingtop.TopAnnouncedTwice': WHATEVER THE INPUT: true; the input reads as it did. -/
def topAnnouncedTwiceSpec : ChangeSpec := { name := "topAnnouncedTwice", fn := fun _ => fun
  | [d1, d2, d3] => { results := [.lit (.bool true)], args := [d1, d2, d3] }
  | _ => none }
def topAnnouncedTwiceRow : OpenClaim := { program := "ytejbieopeicgkaagreatdoor", sum := "7bd8e83dcb410fd354896d5d084829d616808a8035ea7190ac33ea09c3780f0f", func := "witting/wittingtop.TopAnnouncedTwice", spec := "topAnnouncedTwice", inPlace := ["slices.overlaps[witting/api.Assign]"], unfollowed := true, recurses := true, named := ["math/bits.deBruijn64tab"], plainKeys := false, apart := false, laid := [("math/bits.deBruijn64tab", laid_math_bits_deBruijn64tab)] }
def TopAnnouncedTwiceSaid : Prop := topAnnouncedTwiceRow.holds Tryz.pinned (OpenSpec.ofChange topAnnouncedTwiceSpec)

/-- ITS FALSE NEIGHBOUR: 'it returns false'. Refute it at one input. -/
def topAnnouncedTwiceWrong : ChangeSpec := { name := "topAnnouncedTwice", fn := fun _ => fun
  | [d1, d2, d3] => { results := [.lit (.bool false)], args := [d1, d2, d3] }
  | _ => none }
def TopAnnouncedTwiceWrongFalsely : Prop := topAnnouncedTwiceRow.holds Tryz.pinned (OpenSpec.ofChange topAnnouncedTwiceWrong)

/- THE SECOND FORM. 'bulk': how many values and letters a reading holds, each counted each time it is reached (what is shared counts as often as it is met; a slice's spare places count too). A statement '..UptoSaid' is the law's where the arguments, and the package variables that the reading takes, are together of bulk at most 1048576: NARROWER than '..Said'. Prove '..Said' where nothing that the law and all that it calls make is longer than what came in: it says more and counts as full. Else prove '..UptoSaid'. A law counts once. -/
mutual
def uptoBulk {H : Type} : DataW H → Nat
  | .lit (.string bytes) => bytes.length + 1
  | .lit _ => 1
  | .nil => 1
  | .ptr d => uptoBulk d + 1
  | .slice elems spare => uptoBulkAll elems + uptoBulkAll spare + 1
  | .agg parts => uptoBulkAll parts + 1
  | .iface _ d => uptoBulk d + 1
  | .map entries => uptoBulkEntries entries + 1
  | .held _ => 1
def uptoBulkAll {H : Type} : List (DataW H) → Nat
  | [] => 0
  | d :: r => uptoBulk d + uptoBulkAll r
def uptoBulkEntries {H : Type} : List (Lit × DataW H) → Nat
  | [] => 0
  | x :: r => uptoBulkEntry x + uptoBulkEntries r
def uptoBulkEntry {H : Type} : Lit × DataW H → Nat
  | (.string bytes, d) => bytes.length + uptoBulk d + 1
  | (_, d) => uptoBulk d + 1
 end
def uptoSmall : (H : Type) → List (DataW H) → Bool := fun _ ds => decide (uptoBulkAll ds ≤ 1048576)
def OpenSpec.upto (s : _root_.Go.ChangeSpec) : _root_.Go.OpenSpec := { _root_.Go.OpenSpec.ofChange s with cond := some uptoSmall }

/-- 'wittinglaw31.ComposeDiffers', WHERE WHAT IT READS IS OF BULK AT MOST 1048576: true; the input reads as it did. -/
def composeDiffersUptoRow : OpenClaim := { program := "ytejbieopeicgkaagreatdoor", sum := "7bd8e83dcb410fd354896d5d084829d616808a8035ea7190ac33ea09c3780f0f", func := "witting/wittinglaw31.ComposeDiffers", spec := "composeDiffers", inPlace := ["slices.overlaps[witting/api.Assign]"], unfollowed := true, recurses := true, named := ["math/bits.deBruijn64tab"], plainKeys := false, apart := false, laid := [("math/bits.deBruijn64tab", laid_math_bits_deBruijn64tab)], narrowed := true }
def ComposeDiffersUptoSaid : Prop := composeDiffersUptoRow.holds Tryz.pinned (OpenSpec.upto composeDiffersSpec)

/-- 'wittinglaw31.ComposeSmaller', WHERE WHAT IT READS IS OF BULK AT MOST 1048576: true; the input reads as it did. -/
def composeSmallerUptoRow : OpenClaim := { program := "ytejbieopeicgkaagreatdoor", sum := "7bd8e83dcb410fd354896d5d084829d616808a8035ea7190ac33ea09c3780f0f", func := "witting/wittinglaw31.ComposeSmaller", spec := "composeSmaller", inPlace := ["slices.overlaps[witting/api.Assign]"], unfollowed := true, recurses := true, named := ["math/bits.deBruijn64tab"], plainKeys := false, apart := false, laid := [("math/bits.deBruijn64tab", laid_math_bits_deBruijn64tab)], narrowed := true }
def ComposeSmallerUptoSaid : Prop := composeSmallerUptoRow.holds Tryz.pinned (OpenSpec.upto composeSmallerSpec)

/-- 'wittinglaw31.ComposeEffects', WHERE WHAT IT READS IS OF BULK AT MOST 1048576: true; the input reads as it did. -/
def composeEffectsUptoRow : OpenClaim := { program := "ytejbieopeicgkaagreatdoor", sum := "7bd8e83dcb410fd354896d5d084829d616808a8035ea7190ac33ea09c3780f0f", func := "witting/wittinglaw31.ComposeEffects", spec := "composeEffects", inPlace := ["slices.overlaps[witting/api.Assign]"], unfollowed := true, recurses := true, named := ["math/bits.deBruijn64tab"], plainKeys := false, apart := false, laid := [("math/bits.deBruijn64tab", laid_math_bits_deBruijn64tab)], narrowed := true }
def ComposeEffectsUptoSaid : Prop := composeEffectsUptoRow.holds Tryz.pinned (OpenSpec.upto composeEffectsSpec)

/-- 'wittinglaw31.ComposePublic', WHERE WHAT IT READS IS OF BULK AT MOST 1048576: true; the input reads as it did. -/
def composePublicUptoRow : OpenClaim := { program := "ytejbieopeicgkaagreatdoor", sum := "7bd8e83dcb410fd354896d5d084829d616808a8035ea7190ac33ea09c3780f0f", func := "witting/wittinglaw31.ComposePublic", spec := "composePublic", inPlace := ["slices.overlaps[witting/api.Assign]"], unfollowed := true, recurses := true, named := ["math/bits.deBruijn64tab"], plainKeys := false, apart := false, laid := [("math/bits.deBruijn64tab", laid_math_bits_deBruijn64tab)], narrowed := true }
def ComposePublicUptoSaid : Prop := composePublicUptoRow.holds Tryz.pinned (OpenSpec.upto composePublicSpec)

/-- 'wittinglaw31.ComposeOrder', WHERE WHAT IT READS IS OF BULK AT MOST 1048576: true; the input reads as it did. -/
def composeOrderUptoRow : OpenClaim := { program := "ytejbieopeicgkaagreatdoor", sum := "7bd8e83dcb410fd354896d5d084829d616808a8035ea7190ac33ea09c3780f0f", func := "witting/wittinglaw31.ComposeOrder", spec := "composeOrder", inPlace := ["slices.overlaps[witting/api.Assign]"], unfollowed := true, recurses := true, named := ["math/bits.deBruijn64tab"], plainKeys := false, apart := false, laid := [("math/bits.deBruijn64tab", laid_math_bits_deBruijn64tab)], narrowed := true }
def ComposeOrderUptoSaid : Prop := composeOrderUptoRow.holds Tryz.pinned (OpenSpec.upto composeOrderSpec)

/-- 'wittingtop.TopAnnouncementActions', WHERE WHAT IT READS IS OF BULK AT MOST 1048576: true; the input reads as it did. -/
def topAnnouncementActionsUptoRow : OpenClaim := { program := "ytejbieopeicgkaagreatdoor", sum := "7bd8e83dcb410fd354896d5d084829d616808a8035ea7190ac33ea09c3780f0f", func := "witting/wittingtop.TopAnnouncementActions", spec := "topAnnouncementActions", inPlace := ["slices.overlaps[witting/api.Assign]"], unfollowed := true, recurses := true, named := ["math/bits.deBruijn64tab"], plainKeys := false, apart := false, laid := [("math/bits.deBruijn64tab", laid_math_bits_deBruijn64tab)], narrowed := true }
def TopAnnouncementActionsUptoSaid : Prop := topAnnouncementActionsUptoRow.holds Tryz.pinned (OpenSpec.upto topAnnouncementActionsSpec)

/-- 'wittingtop.TopComposedActions', WHERE WHAT IT READS IS OF BULK AT MOST 1048576: true; the input reads as it did. -/
def topComposedActionsUptoRow : OpenClaim := { program := "ytejbieopeicgkaagreatdoor", sum := "7bd8e83dcb410fd354896d5d084829d616808a8035ea7190ac33ea09c3780f0f", func := "witting/wittingtop.TopComposedActions", spec := "topComposedActions", inPlace := ["slices.overlaps[witting/api.Assign]"], unfollowed := true, recurses := true, named := ["math/bits.deBruijn64tab"], plainKeys := false, apart := false, laid := [("math/bits.deBruijn64tab", laid_math_bits_deBruijn64tab)], narrowed := true }
def TopComposedActionsUptoSaid : Prop := topComposedActionsUptoRow.holds Tryz.pinned (OpenSpec.upto topComposedActionsSpec)

/-- 'wittingtop.TopAnnouncedTwice', WHERE WHAT IT READS IS OF BULK AT MOST 1048576: true; the input reads as it did. -/
def topAnnouncedTwiceUptoRow : OpenClaim := { program := "ytejbieopeicgkaagreatdoor", sum := "7bd8e83dcb410fd354896d5d084829d616808a8035ea7190ac33ea09c3780f0f", func := "witting/wittingtop.TopAnnouncedTwice", spec := "topAnnouncedTwice", inPlace := ["slices.overlaps[witting/api.Assign]"], unfollowed := true, recurses := true, named := ["math/bits.deBruijn64tab"], plainKeys := false, apart := false, laid := [("math/bits.deBruijn64tab", laid_math_bits_deBruijn64tab)], narrowed := true }
def TopAnnouncedTwiceUptoSaid : Prop := topAnnouncedTwiceUptoRow.holds Tryz.pinned (OpenSpec.upto topAnnouncedTwiceSpec)

end Rows
end Go.Proofs.YtejbieopeicgkaaGreatDoor
