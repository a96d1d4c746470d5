/-
  DERIVED. GIVEN WITH THE SEED: THE CARDS: each row of YtnbnkgcjgfmlcaaDoorRows.lean that lists a variable, with what it lists TIED to the program's text (the seventh form; the later family's looks); each row that meets fmt, with fmt's text TOLD by the authors' own Lean function (tested against real Go, not proved from fmt's source: count such statements apart). THE CARD IS WHAT COUNTS. Prove the row's statement (the work); the ties are given (YtnbnkgcjgfmlcaaDoorTie.lean); close each card by the builder's one call (the guide's Derived/Test/ToyasCard.lean, 'card_holds'). Laid BY PROGRAM, IN A SANDBOX (cutbox-door.mjs). By AI agents, Wed Nov 11 2026. No macro, syntax, notation, axiom, sorry.
-/
import Derived.Test.YtnbnkgcjgfmlcaaDoorRows
import GoSem.ClaimSeven
namespace Go.Proofs.YtnbnkgcjgfmlcaaDoor
namespace Rows

/-- THE TIED CARD OF 'wittinglaw27.ProductAnnounces'. -/
def productAnnouncesCard : Claim7 := { stood := { row := productAnnouncesRow, standIns := [], harness := (true, "48d06e064fb2e11ab8208bb5b4a0659b539c78169e9f46eb4d169fc1f6070226"), looks := false }, kinds := [], alts := [], laidByText := true, laidKinds := [.data], laidTests := true, laidLooks := .later }
def ProductAnnouncesCardSaid : Prop := Claim7.holds Tryd.pinned (.plain (OpenSpec.ofChange productAnnouncesSpec)) productAnnouncesCard

/-- THE SECOND FORM's CARD OF 'wittinglaw27.ProductAnnounces'. -/
def productAnnouncesUptoCard : Claim7 := { stood := { row := productAnnouncesUptoRow, standIns := [], harness := (true, "48d06e064fb2e11ab8208bb5b4a0659b539c78169e9f46eb4d169fc1f6070226"), looks := false }, kinds := [], alts := [], laidByText := true, laidKinds := [.data], laidTests := true, laidLooks := .later }
def ProductAnnouncesUptoCardSaid : Prop := Claim7.holds Tryd.pinned (.plain (OpenSpec.upto productAnnouncesSpec)) productAnnouncesUptoCard
end Rows
end Go.Proofs.YtnbnkgcjgfmlcaaDoor
