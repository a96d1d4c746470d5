/-
  DERIVED. GIVEN WITH THE SEED: THE CARDS: each row of YtibbphifegibkaaGreatDoorRows.lean that lists a variable, with what it lists TIED to the program's text (the seventh form; the later family's looks); each row that meets fmt, with fmt's text TOLD by the authors' own Lean function (tested against real Go, not proved from fmt's source: count such statements apart). THE CARD IS WHAT COUNTS. Prove the row's statement (the work); the ties are given (YtibbphifegibkaaGreatDoorTie.lean); close each card by the builder's one call (the guide's Derived/Test/ToyasCard.lean, 'card_holds'). Laid BY PROGRAM, IN A SANDBOX (cutbox-door.mjs). By AI agents, Wed Nov 11 2026. No macro, syntax, notation, axiom, sorry.
-/
import Derived.Test.YtibbphifegibkaaGreatDoorRows
import GoSem.ClaimSeven
namespace Go.Proofs.YtibbphifegibkaaGreatDoor
namespace Rows

/-- THE TIED CARD OF 'wittinglaw30.ReduceEqual'. -/
def reduceEqualCard : Claim7 := { stood := { row := reduceEqualRow, standIns := [], harness := (true, "c3423bdaf02c49bb093797332cf82699efb39fe66f8be5d00185078e17ff5acf"), looks := false }, kinds := [], alts := [], laidByText := true, laidKinds := [.data], laidTests := true, laidLooks := .later }
def ReduceEqualCardSaid : Prop := Claim7.holds Tryz.pinned (.plain (OpenSpec.ofChange reduceEqualSpec)) reduceEqualCard

/-- THE TIED CARD OF 'wittinglaw30.ReduceAnnounces'. -/
def reduceAnnouncesCard : Claim7 := { stood := { row := reduceAnnouncesRow, standIns := [], harness := (true, "c3423bdaf02c49bb093797332cf82699efb39fe66f8be5d00185078e17ff5acf"), looks := false }, kinds := [], alts := [], laidByText := true, laidKinds := [.data], laidTests := true, laidLooks := .later }
def ReduceAnnouncesCardSaid : Prop := Claim7.holds Tryz.pinned (.plain (OpenSpec.ofChange reduceAnnouncesSpec)) reduceAnnouncesCard

/-- THE SECOND FORM's CARD OF 'wittinglaw30.ReduceEqual'. -/
def reduceEqualUptoCard : Claim7 := { stood := { row := reduceEqualUptoRow, standIns := [], harness := (true, "c3423bdaf02c49bb093797332cf82699efb39fe66f8be5d00185078e17ff5acf"), looks := false }, kinds := [], alts := [], laidByText := true, laidKinds := [.data], laidTests := true, laidLooks := .later }
def ReduceEqualUptoCardSaid : Prop := Claim7.holds Tryz.pinned (.plain (OpenSpec.upto reduceEqualSpec)) reduceEqualUptoCard

/-- THE SECOND FORM's CARD OF 'wittinglaw30.ReduceAnnounces'. -/
def reduceAnnouncesUptoCard : Claim7 := { stood := { row := reduceAnnouncesUptoRow, standIns := [], harness := (true, "c3423bdaf02c49bb093797332cf82699efb39fe66f8be5d00185078e17ff5acf"), looks := false }, kinds := [], alts := [], laidByText := true, laidKinds := [.data], laidTests := true, laidLooks := .later }
def ReduceAnnouncesUptoCardSaid : Prop := Claim7.holds Tryz.pinned (.plain (OpenSpec.upto reduceAnnouncesSpec)) reduceAnnouncesUptoCard
end Rows
end Go.Proofs.YtibbphifegibkaaGreatDoor
