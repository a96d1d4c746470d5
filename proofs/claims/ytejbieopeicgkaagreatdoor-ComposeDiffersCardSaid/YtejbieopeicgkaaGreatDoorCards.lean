/-
  DERIVED. GIVEN WITH THE SEED: THE CARDS: each row of YtejbieopeicgkaaGreatDoorRows.lean that lists a variable, with what it lists TIED to the program's text (the seventh form; the later family's looks); each row that meets fmt, with fmt's text TOLD by the authors' own Lean function (tested against real Go, not proved from fmt's source: count such statements apart). THE CARD IS WHAT COUNTS. Prove the row's statement (the work); the ties are given (YtejbieopeicgkaaGreatDoorTie.lean); close each card by the builder's one call (the guide's Derived/Test/ToyasCard.lean, 'card_holds'). Laid BY PROGRAM, IN A SANDBOX (cutbox-door.mjs). By AI agents, Wed Nov 11 2026. No macro, syntax, notation, axiom, sorry.
-/
import Derived.Test.YtejbieopeicgkaaGreatDoorRows
import GoSem.ClaimSeven
namespace Go.Proofs.YtejbieopeicgkaaGreatDoor
namespace Rows

/-- THE TIED CARD OF 'wittinglaw31.ComposeDiffers'. -/
def composeDiffersCard : Claim7 := { stood := { row := composeDiffersRow, standIns := [], harness := (true, "20de31dfb0402d3e022c504b5a8c63c7de3c1a27a83e610c52aa006731eeaa1b"), looks := true }, kinds := [], alts := [], laidByText := true, laidKinds := [.data], laidTests := true, laidLooks := .later }
def ComposeDiffersCardSaid : Prop := Claim7.holds Tryz.pinned (.plain (OpenSpec.ofChange composeDiffersSpec)) composeDiffersCard

/-- THE TIED CARD OF 'wittinglaw31.ComposeSmaller'. -/
def composeSmallerCard : Claim7 := { stood := { row := composeSmallerRow, standIns := [], harness := (true, "20de31dfb0402d3e022c504b5a8c63c7de3c1a27a83e610c52aa006731eeaa1b"), looks := true }, kinds := [], alts := [], laidByText := true, laidKinds := [.data], laidTests := true, laidLooks := .later }
def ComposeSmallerCardSaid : Prop := Claim7.holds Tryz.pinned (.plain (OpenSpec.ofChange composeSmallerSpec)) composeSmallerCard

/-- THE TIED CARD OF 'wittinglaw31.ComposeEffects'. -/
def composeEffectsCard : Claim7 := { stood := { row := composeEffectsRow, standIns := [], harness := (true, "20de31dfb0402d3e022c504b5a8c63c7de3c1a27a83e610c52aa006731eeaa1b"), looks := true }, kinds := [], alts := [], laidByText := true, laidKinds := [.data], laidTests := true, laidLooks := .later }
def ComposeEffectsCardSaid : Prop := Claim7.holds Tryz.pinned (.plain (OpenSpec.ofChange composeEffectsSpec)) composeEffectsCard

/-- THE TIED CARD OF 'wittinglaw31.ComposePublic'. -/
def composePublicCard : Claim7 := { stood := { row := composePublicRow, standIns := [], harness := (true, "20de31dfb0402d3e022c504b5a8c63c7de3c1a27a83e610c52aa006731eeaa1b"), looks := true }, kinds := [], alts := [], laidByText := true, laidKinds := [.data], laidTests := true, laidLooks := .later }
def ComposePublicCardSaid : Prop := Claim7.holds Tryz.pinned (.plain (OpenSpec.ofChange composePublicSpec)) composePublicCard

/-- THE TIED CARD OF 'wittinglaw31.ComposeOrder'. -/
def composeOrderCard : Claim7 := { stood := { row := composeOrderRow, standIns := [], harness := (true, "20de31dfb0402d3e022c504b5a8c63c7de3c1a27a83e610c52aa006731eeaa1b"), looks := true }, kinds := [], alts := [], laidByText := true, laidKinds := [.data], laidTests := true, laidLooks := .later }
def ComposeOrderCardSaid : Prop := Claim7.holds Tryz.pinned (.plain (OpenSpec.ofChange composeOrderSpec)) composeOrderCard

/-- THE TIED CARD OF 'wittingtop.TopAnnouncementActions'. -/
def topAnnouncementActionsCard : Claim7 := { stood := { row := topAnnouncementActionsRow, standIns := [], harness := (true, "20de31dfb0402d3e022c504b5a8c63c7de3c1a27a83e610c52aa006731eeaa1b"), looks := true }, kinds := [], alts := [], laidByText := true, laidKinds := [.data], laidTests := true, laidLooks := .later }
def TopAnnouncementActionsCardSaid : Prop := Claim7.holds Tryz.pinned (.plain (OpenSpec.ofChange topAnnouncementActionsSpec)) topAnnouncementActionsCard

/-- THE TIED CARD OF 'wittingtop.TopComposedActions'. -/
def topComposedActionsCard : Claim7 := { stood := { row := topComposedActionsRow, standIns := [], harness := (true, "20de31dfb0402d3e022c504b5a8c63c7de3c1a27a83e610c52aa006731eeaa1b"), looks := true }, kinds := [], alts := [], laidByText := true, laidKinds := [.data], laidTests := true, laidLooks := .later }
def TopComposedActionsCardSaid : Prop := Claim7.holds Tryz.pinned (.plain (OpenSpec.ofChange topComposedActionsSpec)) topComposedActionsCard

/-- THE TIED CARD OF 'wittingtop.TopAnnouncedTwice'. -/
def topAnnouncedTwiceCard : Claim7 := { stood := { row := topAnnouncedTwiceRow, standIns := [], harness := (true, "20de31dfb0402d3e022c504b5a8c63c7de3c1a27a83e610c52aa006731eeaa1b"), looks := true }, kinds := [], alts := [], laidByText := true, laidKinds := [.data], laidTests := true, laidLooks := .later }
def TopAnnouncedTwiceCardSaid : Prop := Claim7.holds Tryz.pinned (.plain (OpenSpec.ofChange topAnnouncedTwiceSpec)) topAnnouncedTwiceCard

/-- THE SECOND FORM's CARD OF 'wittinglaw31.ComposeDiffers'. -/
def composeDiffersUptoCard : Claim7 := { stood := { row := composeDiffersUptoRow, standIns := [], harness := (true, "20de31dfb0402d3e022c504b5a8c63c7de3c1a27a83e610c52aa006731eeaa1b"), looks := true }, kinds := [], alts := [], laidByText := true, laidKinds := [.data], laidTests := true, laidLooks := .later }
def ComposeDiffersUptoCardSaid : Prop := Claim7.holds Tryz.pinned (.plain (OpenSpec.upto composeDiffersSpec)) composeDiffersUptoCard

/-- THE SECOND FORM's CARD OF 'wittinglaw31.ComposeSmaller'. -/
def composeSmallerUptoCard : Claim7 := { stood := { row := composeSmallerUptoRow, standIns := [], harness := (true, "20de31dfb0402d3e022c504b5a8c63c7de3c1a27a83e610c52aa006731eeaa1b"), looks := true }, kinds := [], alts := [], laidByText := true, laidKinds := [.data], laidTests := true, laidLooks := .later }
def ComposeSmallerUptoCardSaid : Prop := Claim7.holds Tryz.pinned (.plain (OpenSpec.upto composeSmallerSpec)) composeSmallerUptoCard

/-- THE SECOND FORM's CARD OF 'wittinglaw31.ComposeEffects'. -/
def composeEffectsUptoCard : Claim7 := { stood := { row := composeEffectsUptoRow, standIns := [], harness := (true, "20de31dfb0402d3e022c504b5a8c63c7de3c1a27a83e610c52aa006731eeaa1b"), looks := true }, kinds := [], alts := [], laidByText := true, laidKinds := [.data], laidTests := true, laidLooks := .later }
def ComposeEffectsUptoCardSaid : Prop := Claim7.holds Tryz.pinned (.plain (OpenSpec.upto composeEffectsSpec)) composeEffectsUptoCard

/-- THE SECOND FORM's CARD OF 'wittinglaw31.ComposePublic'. -/
def composePublicUptoCard : Claim7 := { stood := { row := composePublicUptoRow, standIns := [], harness := (true, "20de31dfb0402d3e022c504b5a8c63c7de3c1a27a83e610c52aa006731eeaa1b"), looks := true }, kinds := [], alts := [], laidByText := true, laidKinds := [.data], laidTests := true, laidLooks := .later }
def ComposePublicUptoCardSaid : Prop := Claim7.holds Tryz.pinned (.plain (OpenSpec.upto composePublicSpec)) composePublicUptoCard

/-- THE SECOND FORM's CARD OF 'wittinglaw31.ComposeOrder'. -/
def composeOrderUptoCard : Claim7 := { stood := { row := composeOrderUptoRow, standIns := [], harness := (true, "20de31dfb0402d3e022c504b5a8c63c7de3c1a27a83e610c52aa006731eeaa1b"), looks := true }, kinds := [], alts := [], laidByText := true, laidKinds := [.data], laidTests := true, laidLooks := .later }
def ComposeOrderUptoCardSaid : Prop := Claim7.holds Tryz.pinned (.plain (OpenSpec.upto composeOrderSpec)) composeOrderUptoCard

/-- THE SECOND FORM's CARD OF 'wittingtop.TopAnnouncementActions'. -/
def topAnnouncementActionsUptoCard : Claim7 := { stood := { row := topAnnouncementActionsUptoRow, standIns := [], harness := (true, "20de31dfb0402d3e022c504b5a8c63c7de3c1a27a83e610c52aa006731eeaa1b"), looks := true }, kinds := [], alts := [], laidByText := true, laidKinds := [.data], laidTests := true, laidLooks := .later }
def TopAnnouncementActionsUptoCardSaid : Prop := Claim7.holds Tryz.pinned (.plain (OpenSpec.upto topAnnouncementActionsSpec)) topAnnouncementActionsUptoCard

/-- THE SECOND FORM's CARD OF 'wittingtop.TopComposedActions'. -/
def topComposedActionsUptoCard : Claim7 := { stood := { row := topComposedActionsUptoRow, standIns := [], harness := (true, "20de31dfb0402d3e022c504b5a8c63c7de3c1a27a83e610c52aa006731eeaa1b"), looks := true }, kinds := [], alts := [], laidByText := true, laidKinds := [.data], laidTests := true, laidLooks := .later }
def TopComposedActionsUptoCardSaid : Prop := Claim7.holds Tryz.pinned (.plain (OpenSpec.upto topComposedActionsSpec)) topComposedActionsUptoCard

/-- THE SECOND FORM's CARD OF 'wittingtop.TopAnnouncedTwice'. -/
def topAnnouncedTwiceUptoCard : Claim7 := { stood := { row := topAnnouncedTwiceUptoRow, standIns := [], harness := (true, "20de31dfb0402d3e022c504b5a8c63c7de3c1a27a83e610c52aa006731eeaa1b"), looks := true }, kinds := [], alts := [], laidByText := true, laidKinds := [.data], laidTests := true, laidLooks := .later }
def TopAnnouncedTwiceUptoCardSaid : Prop := Claim7.holds Tryz.pinned (.plain (OpenSpec.upto topAnnouncedTwiceSpec)) topAnnouncedTwiceUptoCard
end Rows
end Go.Proofs.YtejbieopeicgkaaGreatDoor
