/-
  DERIVED. GIVEN WITH THE SEED: THE CARDS: each row of YtmmcjcaccicheaaGreatDoorRows.lean that lists a variable, with what it lists TIED to the program's text (the seventh form; the later family's looks); each row that meets fmt, with fmt's text TOLD by the authors' own Lean function (tested against real Go, not proved from fmt's source: count such statements apart). THE CARD IS WHAT COUNTS. Prove the row's statement (the work); the ties are given (YtmmcjcaccicheaaGreatDoorTie.lean); close each card by the builder's one call (the guide's Derived/Test/ToyasCard.lean, 'card_holds'). Laid BY PROGRAM, IN A SANDBOX (cutbox-door.mjs). By AI agents, Wed Nov 11 2026. No macro, syntax, notation, axiom, sorry.
-/
import Derived.Test.YtmmcjcaccicheaaGreatDoorRows
import GoSem.ClaimSeven
namespace Go.Proofs.YtmmcjcaccicheaaGreatDoor
namespace Rows

/-- THE TIED CARD OF 'quilttop.TopDifferences'. -/
def topDifferencesCard : Claim7 := { stood := { row := topDifferencesRow, standIns := [], harness := (true, "d70d5f84f1a866680677d8a065d9f27d6a94248db8267b3f072111e0a42cb890"), looks := true }, kinds := [], alts := [], laidByText := true, laidKinds := [.data, .data, .data, .sentinel, .sentinel], laidTests := true, laidLooks := .later }
def TopDifferencesCardSaid : Prop := Claim7.holds Tryz.pinned (.plain (OpenSpec.ofChange topDifferencesSpec)) topDifferencesCard

/-- THE SECOND FORM's CARD OF 'quilttop.TopDifferences'. -/
def topDifferencesUptoCard : Claim7 := { stood := { row := topDifferencesUptoRow, standIns := [], harness := (true, "d70d5f84f1a866680677d8a065d9f27d6a94248db8267b3f072111e0a42cb890"), looks := true }, kinds := [], alts := [], laidByText := true, laidKinds := [.data, .data, .data, .sentinel, .sentinel], laidTests := true, laidLooks := .later }
def TopDifferencesUptoCardSaid : Prop := Claim7.holds Tryz.pinned (.plain (OpenSpec.upto topDifferencesSpec)) topDifferencesUptoCard
end Rows
end Go.Proofs.YtmmcjcaccicheaaGreatDoor
