/-
  DERIVED. GIVEN WITH THE SEED: THE CARDS: each row of YtjdmfhggokfflaaDoorRows.lean that lists a variable, with what it lists TIED to the program's text (the seventh form; the later family's looks); each row that meets fmt, with fmt's text TOLD by the authors' own Lean function (tested against real Go, not proved from fmt's source: count such statements apart). THE CARD IS WHAT COUNTS. Prove the row's statement (the work); the ties are given (YtjdmfhggokfflaaDoorTie.lean); close each card by the builder's one call (the guide's Derived/Test/ToyasCard.lean, 'card_holds'). Laid BY PROGRAM, IN A SANDBOX (cutbox-door.mjs). By AI agents, Wed Nov 11 2026. No macro, syntax, notation, axiom, sorry.
-/
import Derived.Test.YtjdmfhggokfflaaDoorRows
import GoSem.ClaimSeven
namespace Go.Proofs.YtjdmfhggokfflaaDoor
namespace Rows

/-- THE TIED CARD OF 'wittingtop.TopHats'. -/
def topHatsCard : Claim7 := { stood := { row := topHatsRow, standIns := [], harness := (true, "fb1e0fb9ad098e3652500e68d012e9be293466263d7e1560be46569230c71ffd"), looks := false }, kinds := [], alts := [], laidByText := true, laidKinds := [.data], laidTests := true, laidLooks := .later }
def TopHatsCardSaid : Prop := Claim7.holds Tryd.pinned (.plain (OpenSpec.ofChange topHatsSpec)) topHatsCard

/-- THE SECOND FORM's CARD OF 'wittingtop.TopHats'. -/
def topHatsUptoCard : Claim7 := { stood := { row := topHatsUptoRow, standIns := [], harness := (true, "fb1e0fb9ad098e3652500e68d012e9be293466263d7e1560be46569230c71ffd"), looks := false }, kinds := [], alts := [], laidByText := true, laidKinds := [.data], laidTests := true, laidLooks := .later }
def TopHatsUptoCardSaid : Prop := Claim7.holds Tryd.pinned (.plain (OpenSpec.upto topHatsSpec)) topHatsUptoCard
end Rows
end Go.Proofs.YtjdmfhggokfflaaDoor
