/-
  DERIVED. GIVEN WITH THE SEED: THE CARDS: each row of YtlaolpkgabknfaaGreatDoorRows.lean that lists a variable, with what it lists TIED to the program's text (the seventh form; the later family's looks); each row that meets fmt, with fmt's text TOLD by the authors' own Lean function (tested against real Go, not proved from fmt's source: count such statements apart). THE CARD IS WHAT COUNTS. Prove the row's statement (the work); the ties are given (YtlaolpkgabknfaaGreatDoorTie.lean); close each card by the builder's one call (the guide's Derived/Test/ToyasCard.lean, 'card_holds'). Laid BY PROGRAM, IN A SANDBOX (cutbox-door.mjs). By AI agents, Wed Nov 11 2026. No macro, syntax, notation, axiom, sorry.
-/
import Derived.Test.YtlaolpkgabknfaaGreatDoorRows
import GoSem.ClaimSeven
namespace Go.Proofs.YtlaolpkgabknfaaGreatDoor
namespace Rows

/-- THE TIED CARD OF 'wittinglaw28.DynamicHolds'. -/
def dynamicHoldsCard : Claim7 := { stood := { row := dynamicHoldsRow, standIns := [], harness := (true, "e39d43ad2b6522bec2e0749ccb2384f5ec88ac473d127e99cb48e137987404bf"), looks := false }, kinds := [], alts := [], laidByText := true, laidKinds := [.data], laidTests := true, laidLooks := .later }
def DynamicHoldsCardSaid : Prop := Claim7.holds Tryz.pinned (.plain (OpenSpec.ofChange dynamicHoldsSpec)) dynamicHoldsCard

/-- THE TIED CARD OF 'wittinglaw28.DynamicRuns'. -/
def dynamicRunsCard : Claim7 := { stood := { row := dynamicRunsRow, standIns := [], harness := (true, "e39d43ad2b6522bec2e0749ccb2384f5ec88ac473d127e99cb48e137987404bf"), looks := false }, kinds := [], alts := [], laidByText := true, laidKinds := [.data], laidTests := true, laidLooks := .later }
def DynamicRunsCardSaid : Prop := Claim7.holds Tryz.pinned (.plain (OpenSpec.ofChange dynamicRunsSpec)) dynamicRunsCard

/-- THE TIED CARD OF 'wittinglaw28.DynamicStatic'. -/
def dynamicStaticCard : Claim7 := { stood := { row := dynamicStaticRow, standIns := [], harness := (true, "e39d43ad2b6522bec2e0749ccb2384f5ec88ac473d127e99cb48e137987404bf"), looks := false }, kinds := [], alts := [], laidByText := true, laidKinds := [.data], laidTests := true, laidLooks := .later }
def DynamicStaticCardSaid : Prop := Claim7.holds Tryz.pinned (.plain (OpenSpec.ofChange dynamicStaticSpec)) dynamicStaticCard

/-- THE TIED CARD OF 'wittinglaw28.DynamicAnnounces'. -/
def dynamicAnnouncesCard : Claim7 := { stood := { row := dynamicAnnouncesRow, standIns := [], harness := (true, "e39d43ad2b6522bec2e0749ccb2384f5ec88ac473d127e99cb48e137987404bf"), looks := false }, kinds := [], alts := [], laidByText := true, laidKinds := [.data], laidTests := true, laidLooks := .later }
def DynamicAnnouncesCardSaid : Prop := Claim7.holds Tryz.pinned (.plain (OpenSpec.ofChange dynamicAnnouncesSpec)) dynamicAnnouncesCard

/-- THE SECOND FORM's CARD OF 'wittinglaw28.DynamicHolds'. -/
def dynamicHoldsUptoCard : Claim7 := { stood := { row := dynamicHoldsUptoRow, standIns := [], harness := (true, "e39d43ad2b6522bec2e0749ccb2384f5ec88ac473d127e99cb48e137987404bf"), looks := false }, kinds := [], alts := [], laidByText := true, laidKinds := [.data], laidTests := true, laidLooks := .later }
def DynamicHoldsUptoCardSaid : Prop := Claim7.holds Tryz.pinned (.plain (OpenSpec.upto dynamicHoldsSpec)) dynamicHoldsUptoCard

/-- THE SECOND FORM's CARD OF 'wittinglaw28.DynamicRuns'. -/
def dynamicRunsUptoCard : Claim7 := { stood := { row := dynamicRunsUptoRow, standIns := [], harness := (true, "e39d43ad2b6522bec2e0749ccb2384f5ec88ac473d127e99cb48e137987404bf"), looks := false }, kinds := [], alts := [], laidByText := true, laidKinds := [.data], laidTests := true, laidLooks := .later }
def DynamicRunsUptoCardSaid : Prop := Claim7.holds Tryz.pinned (.plain (OpenSpec.upto dynamicRunsSpec)) dynamicRunsUptoCard

/-- THE SECOND FORM's CARD OF 'wittinglaw28.DynamicStatic'. -/
def dynamicStaticUptoCard : Claim7 := { stood := { row := dynamicStaticUptoRow, standIns := [], harness := (true, "e39d43ad2b6522bec2e0749ccb2384f5ec88ac473d127e99cb48e137987404bf"), looks := false }, kinds := [], alts := [], laidByText := true, laidKinds := [.data], laidTests := true, laidLooks := .later }
def DynamicStaticUptoCardSaid : Prop := Claim7.holds Tryz.pinned (.plain (OpenSpec.upto dynamicStaticSpec)) dynamicStaticUptoCard

/-- THE SECOND FORM's CARD OF 'wittinglaw28.DynamicAnnounces'. -/
def dynamicAnnouncesUptoCard : Claim7 := { stood := { row := dynamicAnnouncesUptoRow, standIns := [], harness := (true, "e39d43ad2b6522bec2e0749ccb2384f5ec88ac473d127e99cb48e137987404bf"), looks := false }, kinds := [], alts := [], laidByText := true, laidKinds := [.data], laidTests := true, laidLooks := .later }
def DynamicAnnouncesUptoCardSaid : Prop := Claim7.holds Tryz.pinned (.plain (OpenSpec.upto dynamicAnnouncesSpec)) dynamicAnnouncesUptoCard
end Rows
end Go.Proofs.YtlaolpkgabknfaaGreatDoor
