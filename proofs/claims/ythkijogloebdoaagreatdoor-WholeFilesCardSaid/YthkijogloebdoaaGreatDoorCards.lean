/-
  DERIVED. GIVEN WITH THE SEED: THE CARDS: each row of YthkijogloebdoaaGreatDoorRows.lean that lists a variable, with what it lists TIED to the program's text (the seventh form; the later family's looks); each row that meets fmt, with fmt's text TOLD by the authors' own Lean function (tested against real Go, not proved from fmt's source: count such statements apart). THE CARD IS WHAT COUNTS. Prove the row's statement (the work); the ties are given (YthkijogloebdoaaGreatDoorTie.lean); close each card by the builder's one call (the guide's Derived/Test/ToyasCard.lean, 'card_holds'). Laid BY PROGRAM, IN A SANDBOX (cutbox-door.mjs). By AI agents, Wed Nov 11 2026. No macro, syntax, notation, axiom, sorry.
-/
import Derived.Test.YthkijogloebdoaaGreatDoorRows
import GoSem.ClaimSeven
namespace Go.Proofs.YthkijogloebdoaaGreatDoor
namespace Rows

/-- THE TIED CARD OF 'boletop.WholeFiles'. -/
def wholeFilesCard : Claim7 := { stood := { row := wholeFilesRow, standIns := [], harness := (true, "51ebe1705b9ef5ecd76a3e303efe063d0990b7b89343e42e101c2d6aa11b81b7"), looks := false }, kinds := [], alts := [], laidByText := true, laidKinds := [.data, .data], laidTests := true, laidLooks := .later }
def WholeFilesCardSaid : Prop := Claim7.holds Tryz.pinned (.plain (OpenSpec.ofChange wholeFilesSpec)) wholeFilesCard

/-- THE SECOND FORM's CARD OF 'boletop.WholeFiles'. -/
def wholeFilesUptoCard : Claim7 := { stood := { row := wholeFilesUptoRow, standIns := [], harness := (true, "51ebe1705b9ef5ecd76a3e303efe063d0990b7b89343e42e101c2d6aa11b81b7"), looks := false }, kinds := [], alts := [], laidByText := true, laidKinds := [.data, .data], laidTests := true, laidLooks := .later }
def WholeFilesUptoCardSaid : Prop := Claim7.holds Tryz.pinned (.plain (OpenSpec.upto wholeFilesSpec)) wholeFilesUptoCard
end Rows
end Go.Proofs.YthkijogloebdoaaGreatDoor
