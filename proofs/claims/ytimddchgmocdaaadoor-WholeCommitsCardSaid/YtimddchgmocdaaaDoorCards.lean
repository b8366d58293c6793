/-
  DERIVED. GIVEN WITH THE SEED: THE CARDS: each row of YtimddchgmocdaaaDoorRows.lean that lists a variable, with what it lists TIED to the program's text (the seventh form; the later family's looks); each row that meets fmt, with fmt's text TOLD by the authors' own Lean function (tested against real Go, not proved from fmt's source: count such statements apart). THE CARD IS WHAT COUNTS. Prove the row's statement (the work); the ties are given (YtimddchgmocdaaaDoorTie.lean); close each card by the builder's one call (the guide's Derived/Test/ToyasCard.lean, 'card_holds'). Laid BY PROGRAM, IN A SANDBOX (cutbox-door.mjs). By AI agents, Wed Nov 11 2026. No macro, syntax, notation, axiom, sorry.
-/
import Derived.Test.YtimddchgmocdaaaDoorRows
import GoSem.ClaimSeven
namespace Go.Proofs.YtimddchgmocdaaaDoor
namespace Rows

/-- THE TIED CARD OF 'boletop.WholeCommits'. -/
def wholeCommitsCard : Claim7 := { stood := { row := wholeCommitsRow, standIns := [], harness := (true, "ec8c99ef67b40e6bdc0af2e59b722a714417038e56840f9d1b92db39eea9677e"), looks := true }, kinds := [], alts := [], laidByText := true, laidKinds := [.data, .data], laidTests := true, laidLooks := .later }
def WholeCommitsCardSaid : Prop := Claim7.holds Tryd.pinned (.plain (OpenSpec.ofChange wholeCommitsSpec)) wholeCommitsCard

/-- THE SECOND FORM's CARD OF 'boletop.WholeCommits'. -/
def wholeCommitsUptoCard : Claim7 := { stood := { row := wholeCommitsUptoRow, standIns := [], harness := (true, "ec8c99ef67b40e6bdc0af2e59b722a714417038e56840f9d1b92db39eea9677e"), looks := true }, kinds := [], alts := [], laidByText := true, laidKinds := [.data, .data], laidTests := true, laidLooks := .later }
def WholeCommitsUptoCardSaid : Prop := Claim7.holds Tryd.pinned (.plain (OpenSpec.upto wholeCommitsSpec)) wholeCommitsUptoCard
end Rows
end Go.Proofs.YtimddchgmocdaaaDoor
