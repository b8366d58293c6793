/-
  DERIVED. GIVEN WITH THE SEED: THE CARDS: each row of YtnknoikmleiopaaDoorRows.lean that lists a variable, with what it lists TIED to the program's text (the seventh form; the later family's looks); each row that meets fmt, with fmt's text TOLD by the authors' own Lean function (tested against real Go, not proved from fmt's source: count such statements apart). THE CARD IS WHAT COUNTS. Prove the row's statement (the work); the ties are given (YtnknoikmleiopaaDoorTie.lean); close each card by the builder's one call (the guide's Derived/Test/ToyasCard.lean, 'card_holds'). Laid BY PROGRAM, IN A SANDBOX (cutbox-door.mjs). By AI agents, Wed Nov 11 2026. No macro, syntax, notation, axiom, sorry.
-/
import Derived.Test.YtnknoikmleiopaaDoorRows
import GoSem.ClaimSeven
namespace Go.Proofs.YtnknoikmleiopaaDoor
namespace Rows

/-- THE TIED CARD OF 'bolelaw02.RecPlays'. -/
def recPlaysCard : Claim7 := { stood := { row := recPlaysRow, standIns := [], harness := (true, "de259cca934c92053fbf8f7651a54f8d18bcf2a5c2ce79889ff9cfb0b2d46307"), looks := false }, kinds := [], alts := [], laidByText := true, laidKinds := [.data], laidTests := true, laidLooks := .later }
def RecPlaysCardSaid : Prop := Claim7.holds Tryd.pinned (.plain (OpenSpec.ofChange recPlaysSpec)) recPlaysCard

/-- THE TIED CARD OF 'bolelaw02.RecCuts'. -/
def recCutsCard : Claim7 := { stood := { row := recCutsRow, standIns := [], harness := (true, "de259cca934c92053fbf8f7651a54f8d18bcf2a5c2ce79889ff9cfb0b2d46307"), looks := false }, kinds := [], alts := [], laidByText := true, laidKinds := [.data], laidTests := true, laidLooks := .later }
def RecCutsCardSaid : Prop := Claim7.holds Tryd.pinned (.plain (OpenSpec.ofChange recCutsSpec)) recCutsCard

/-- THE TIED CARD OF 'bolelaw02.RecBack'. -/
def recBackCard : Claim7 := { stood := { row := recBackRow, standIns := [], harness := (true, "de259cca934c92053fbf8f7651a54f8d18bcf2a5c2ce79889ff9cfb0b2d46307"), looks := false }, kinds := [], alts := [], laidByText := true, laidKinds := [.data], laidTests := true, laidLooks := .later }
def RecBackCardSaid : Prop := Claim7.holds Tryd.pinned (.plain (OpenSpec.ofChange recBackSpec)) recBackCard

/-- THE TIED CARD OF 'bolelaw02.RecTexts'. -/
def recTextsCard : Claim7 := { stood := { row := recTextsRow, standIns := [], harness := (true, "de259cca934c92053fbf8f7651a54f8d18bcf2a5c2ce79889ff9cfb0b2d46307"), looks := false }, kinds := [], alts := [], laidByText := true, laidKinds := [.data], laidTests := true, laidLooks := .later }
def RecTextsCardSaid : Prop := Claim7.holds Tryd.pinned (.plain (OpenSpec.ofChange recTextsSpec)) recTextsCard

/-- THE SECOND FORM's CARD OF 'bolelaw02.RecPlays'. -/
def recPlaysUptoCard : Claim7 := { stood := { row := recPlaysUptoRow, standIns := [], harness := (true, "de259cca934c92053fbf8f7651a54f8d18bcf2a5c2ce79889ff9cfb0b2d46307"), looks := false }, kinds := [], alts := [], laidByText := true, laidKinds := [.data], laidTests := true, laidLooks := .later }
def RecPlaysUptoCardSaid : Prop := Claim7.holds Tryd.pinned (.plain (OpenSpec.upto recPlaysSpec)) recPlaysUptoCard

/-- THE SECOND FORM's CARD OF 'bolelaw02.RecCuts'. -/
def recCutsUptoCard : Claim7 := { stood := { row := recCutsUptoRow, standIns := [], harness := (true, "de259cca934c92053fbf8f7651a54f8d18bcf2a5c2ce79889ff9cfb0b2d46307"), looks := false }, kinds := [], alts := [], laidByText := true, laidKinds := [.data], laidTests := true, laidLooks := .later }
def RecCutsUptoCardSaid : Prop := Claim7.holds Tryd.pinned (.plain (OpenSpec.upto recCutsSpec)) recCutsUptoCard

/-- THE SECOND FORM's CARD OF 'bolelaw02.RecBack'. -/
def recBackUptoCard : Claim7 := { stood := { row := recBackUptoRow, standIns := [], harness := (true, "de259cca934c92053fbf8f7651a54f8d18bcf2a5c2ce79889ff9cfb0b2d46307"), looks := false }, kinds := [], alts := [], laidByText := true, laidKinds := [.data], laidTests := true, laidLooks := .later }
def RecBackUptoCardSaid : Prop := Claim7.holds Tryd.pinned (.plain (OpenSpec.upto recBackSpec)) recBackUptoCard

/-- THE SECOND FORM's CARD OF 'bolelaw02.RecTexts'. -/
def recTextsUptoCard : Claim7 := { stood := { row := recTextsUptoRow, standIns := [], harness := (true, "de259cca934c92053fbf8f7651a54f8d18bcf2a5c2ce79889ff9cfb0b2d46307"), looks := false }, kinds := [], alts := [], laidByText := true, laidKinds := [.data], laidTests := true, laidLooks := .later }
def RecTextsUptoCardSaid : Prop := Claim7.holds Tryd.pinned (.plain (OpenSpec.upto recTextsSpec)) recTextsUptoCard
end Rows
end Go.Proofs.YtnknoikmleiopaaDoor
