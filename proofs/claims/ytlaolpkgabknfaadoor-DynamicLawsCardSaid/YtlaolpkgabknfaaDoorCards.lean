/-
  DERIVED. GIVEN WITH THE SEED: THE CARDS: each row of YtlaolpkgabknfaaDoorRows.lean that lists a variable, with what it lists TIED to the program's text (the seventh form; the later family's looks); each row that meets fmt, with fmt's text TOLD by the authors' own Lean function (tested against real Go, not proved from fmt's source: count such statements apart). THE CARD IS WHAT COUNTS. Prove the row's statement (the work); the ties are given (YtlaolpkgabknfaaDoorTie.lean); close each card by the builder's one call (the guide's Derived/Test/ToyasCard.lean, 'card_holds'). Laid BY PROGRAM, IN A SANDBOX (cutbox-door.mjs). By AI agents, Wed Nov 11 2026. No macro, syntax, notation, axiom, sorry.
-/
import Derived.Test.YtlaolpkgabknfaaDoorRows
import GoSem.ClaimSeven
namespace Go.Proofs.YtlaolpkgabknfaaDoor
namespace Rows

/-- THE TIED CARD OF 'wittinglaw28.DynamicPublic'. -/
def dynamicPublicCard : Claim7 := { stood := { row := dynamicPublicRow, standIns := [], harness := (true, "472b7d219789b1ad1fced496de08d504d96a64ac47399200d6d31e2ee28680b3"), looks := false }, kinds := [], alts := [], laidByText := true, laidKinds := [.data], laidTests := true, laidLooks := .later }
def DynamicPublicCardSaid : Prop := Claim7.holds Tryd.pinned (.plain (OpenSpec.ofChange dynamicPublicSpec)) dynamicPublicCard

/-- THE TIED CARD OF 'wittinglaw28.DynamicEvents'. -/
def dynamicEventsCard : Claim7 := { stood := { row := dynamicEventsRow, standIns := [], harness := (true, "472b7d219789b1ad1fced496de08d504d96a64ac47399200d6d31e2ee28680b3"), looks := false }, kinds := [], alts := [], laidByText := true, laidKinds := [.data], laidTests := true, laidLooks := .later }
def DynamicEventsCardSaid : Prop := Claim7.holds Tryd.pinned (.plain (OpenSpec.ofChange dynamicEventsSpec)) dynamicEventsCard

/-- THE TIED CARD OF 'wittinglaw28.DynamicMerges'. -/
def dynamicMergesCard : Claim7 := { stood := { row := dynamicMergesRow, standIns := [], harness := (true, "472b7d219789b1ad1fced496de08d504d96a64ac47399200d6d31e2ee28680b3"), looks := false }, kinds := [], alts := [], laidByText := true, laidKinds := [.data], laidTests := true, laidLooks := .later }
def DynamicMergesCardSaid : Prop := Claim7.holds Tryd.pinned (.plain (OpenSpec.ofChange dynamicMergesSpec)) dynamicMergesCard

/-- THE TIED CARD OF 'wittinglaw28.DynamicLaws'. -/
def dynamicLawsCard : Claim7 := { stood := { row := dynamicLawsRow, standIns := [], harness := (true, "472b7d219789b1ad1fced496de08d504d96a64ac47399200d6d31e2ee28680b3"), looks := false }, kinds := [], alts := [], laidByText := true, laidKinds := [.data], laidTests := true, laidLooks := .later }
def DynamicLawsCardSaid : Prop := Claim7.holds Tryd.pinned (.plain (OpenSpec.ofChange dynamicLawsSpec)) dynamicLawsCard

/-- THE SECOND FORM's CARD OF 'wittinglaw28.DynamicPublic'. -/
def dynamicPublicUptoCard : Claim7 := { stood := { row := dynamicPublicUptoRow, standIns := [], harness := (true, "472b7d219789b1ad1fced496de08d504d96a64ac47399200d6d31e2ee28680b3"), looks := false }, kinds := [], alts := [], laidByText := true, laidKinds := [.data], laidTests := true, laidLooks := .later }
def DynamicPublicUptoCardSaid : Prop := Claim7.holds Tryd.pinned (.plain (OpenSpec.upto dynamicPublicSpec)) dynamicPublicUptoCard

/-- THE SECOND FORM's CARD OF 'wittinglaw28.DynamicEvents'. -/
def dynamicEventsUptoCard : Claim7 := { stood := { row := dynamicEventsUptoRow, standIns := [], harness := (true, "472b7d219789b1ad1fced496de08d504d96a64ac47399200d6d31e2ee28680b3"), looks := false }, kinds := [], alts := [], laidByText := true, laidKinds := [.data], laidTests := true, laidLooks := .later }
def DynamicEventsUptoCardSaid : Prop := Claim7.holds Tryd.pinned (.plain (OpenSpec.upto dynamicEventsSpec)) dynamicEventsUptoCard

/-- THE SECOND FORM's CARD OF 'wittinglaw28.DynamicMerges'. -/
def dynamicMergesUptoCard : Claim7 := { stood := { row := dynamicMergesUptoRow, standIns := [], harness := (true, "472b7d219789b1ad1fced496de08d504d96a64ac47399200d6d31e2ee28680b3"), looks := false }, kinds := [], alts := [], laidByText := true, laidKinds := [.data], laidTests := true, laidLooks := .later }
def DynamicMergesUptoCardSaid : Prop := Claim7.holds Tryd.pinned (.plain (OpenSpec.upto dynamicMergesSpec)) dynamicMergesUptoCard

/-- THE SECOND FORM's CARD OF 'wittinglaw28.DynamicLaws'. -/
def dynamicLawsUptoCard : Claim7 := { stood := { row := dynamicLawsUptoRow, standIns := [], harness := (true, "472b7d219789b1ad1fced496de08d504d96a64ac47399200d6d31e2ee28680b3"), looks := false }, kinds := [], alts := [], laidByText := true, laidKinds := [.data], laidTests := true, laidLooks := .later }
def DynamicLawsUptoCardSaid : Prop := Claim7.holds Tryd.pinned (.plain (OpenSpec.upto dynamicLawsSpec)) dynamicLawsUptoCard
end Rows
end Go.Proofs.YtlaolpkgabknfaaDoor
