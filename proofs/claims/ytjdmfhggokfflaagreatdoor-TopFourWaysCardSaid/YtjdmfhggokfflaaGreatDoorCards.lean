/-
  DERIVED. GIVEN WITH THE SEED: THE CARDS: each row of YtjdmfhggokfflaaGreatDoorRows.lean that lists a variable, with what it lists TIED to the program's text (the seventh form; the later family's looks); each row that meets fmt, with fmt's text TOLD by the authors' own Lean function (tested against real Go, not proved from fmt's source: count such statements apart). THE CARD IS WHAT COUNTS. Prove the row's statement (the work); the ties are given (YtjdmfhggokfflaaGreatDoorTie.lean); close each card by the builder's one call (the guide's Derived/Test/ToyasCard.lean, 'card_holds'). Laid BY PROGRAM, IN A SANDBOX (cutbox-door.mjs). By AI agents, Wed Nov 11 2026. No macro, syntax, notation, axiom, sorry.
-/
import Derived.Test.YtjdmfhggokfflaaGreatDoorRows
import GoSem.ClaimSeven
namespace Go.Proofs.YtjdmfhggokfflaaGreatDoor
namespace Rows

/-- THE TIED CARD OF 'wittingtop.TopFourWays'. -/
def topFourWaysCard : Claim7 := { stood := { row := topFourWaysRow, standIns := [], harness := (true, "f4a53cd9ce96ce7fbe1a0bf4c03c73a0556b653424aa2a24a00562e438ce1ff1"), looks := false }, kinds := [], alts := [], laidByText := true, laidKinds := [.data], laidTests := true, laidLooks := .later }
def TopFourWaysCardSaid : Prop := Claim7.holds Tryz.pinned (.plain (OpenSpec.ofChange topFourWaysSpec)) topFourWaysCard

/-- THE SECOND FORM's CARD OF 'wittingtop.TopFourWays'. -/
def topFourWaysUptoCard : Claim7 := { stood := { row := topFourWaysUptoRow, standIns := [], harness := (true, "f4a53cd9ce96ce7fbe1a0bf4c03c73a0556b653424aa2a24a00562e438ce1ff1"), looks := false }, kinds := [], alts := [], laidByText := true, laidKinds := [.data], laidTests := true, laidLooks := .later }
def TopFourWaysUptoCardSaid : Prop := Claim7.holds Tryz.pinned (.plain (OpenSpec.upto topFourWaysSpec)) topFourWaysUptoCard
end Rows
end Go.Proofs.YtjdmfhggokfflaaGreatDoor
