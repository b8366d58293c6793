/-
  DERIVED. GIVEN WITH THE SEED: THE CARDS: each row of YtjglffejoflpoaaDoorRows.lean that lists a variable, with what it lists TIED to the program's text (the seventh form; the later family's looks); each row that meets fmt, with fmt's text TOLD by the authors' own Lean function (tested against real Go, not proved from fmt's source: count such statements apart). THE CARD IS WHAT COUNTS. Prove the row's statement (the work); the ties are given (YtjglffejoflpoaaDoorTie.lean); close each card by the builder's one call (the guide's Derived/Test/ToyasCard.lean, 'card_holds'). Laid BY PROGRAM, IN A SANDBOX (cutbox-door.mjs). By AI agents, Wed Nov 11 2026. No macro, syntax, notation, axiom, sorry.
-/
import Derived.Test.YtjglffejoflpoaaDoorRows
import GoSem.ClaimSeven
namespace Go.Proofs.YtjglffejoflpoaaDoor
namespace Rows

/-- THE TIED CARD OF 'bolelaw01.SumExact'. -/
def sumExactCard : Claim7 := { stood := { row := sumExactRow, standIns := [], harness := (true, "66cc6db3b69dd63b207f2ba1789f60b902faf41c0bf08378e1befb60f77b7b6f"), looks := false }, kinds := [], alts := [], laidByText := true, laidKinds := [.data], laidTests := true, laidLooks := .later }
def SumExactCardSaid : Prop := Claim7.holds Tryd.pinned (.plain (OpenSpec.ofChange sumExactSpec)) sumExactCard

/-- THE TIED CARD OF 'bolelaw01.SumPieces'. -/
def sumPiecesCard : Claim7 := { stood := { row := sumPiecesRow, standIns := [], harness := (true, "66cc6db3b69dd63b207f2ba1789f60b902faf41c0bf08378e1befb60f77b7b6f"), looks := false }, kinds := [], alts := [], laidByText := true, laidKinds := [.data], laidTests := true, laidLooks := .later }
def SumPiecesCardSaid : Prop := Claim7.holds Tryd.pinned (.plain (OpenSpec.ofChange sumPiecesSpec)) sumPiecesCard

/-- THE TIED CARD OF 'bolelaw01.SumFar'. -/
def sumFarCard : Claim7 := { stood := { row := sumFarRow, standIns := [], harness := (true, "66cc6db3b69dd63b207f2ba1789f60b902faf41c0bf08378e1befb60f77b7b6f"), looks := false }, kinds := [], alts := [], laidByText := true, laidKinds := [.data], laidTests := true, laidLooks := .later }
def SumFarCardSaid : Prop := Claim7.holds Tryd.pinned (.plain (OpenSpec.ofChange sumFarSpec)) sumFarCard

/-- THE TIED CARD OF 'bolelaw01.SumTurns'. -/
def sumTurnsCard : Claim7 := { stood := { row := sumTurnsRow, standIns := [], harness := (true, "66cc6db3b69dd63b207f2ba1789f60b902faf41c0bf08378e1befb60f77b7b6f"), looks := false }, kinds := [], alts := [], laidByText := true, laidKinds := [.data], laidTests := true, laidLooks := .later }
def SumTurnsCardSaid : Prop := Claim7.holds Tryd.pinned (.plain (OpenSpec.ofChange sumTurnsSpec)) sumTurnsCard

/-- THE TIED CARD OF 'bolelaw01.SumBursts'. -/
def sumBurstsCard : Claim7 := { stood := { row := sumBurstsRow, standIns := [], harness := (true, "66cc6db3b69dd63b207f2ba1789f60b902faf41c0bf08378e1befb60f77b7b6f"), looks := false }, kinds := [], alts := [], laidByText := true, laidKinds := [.data], laidTests := true, laidLooks := .later }
def SumBurstsCardSaid : Prop := Claim7.holds Tryd.pinned (.plain (OpenSpec.ofChange sumBurstsSpec)) sumBurstsCard

/-- THE SECOND FORM's CARD OF 'bolelaw01.SumExact'. -/
def sumExactUptoCard : Claim7 := { stood := { row := sumExactUptoRow, standIns := [], harness := (true, "66cc6db3b69dd63b207f2ba1789f60b902faf41c0bf08378e1befb60f77b7b6f"), looks := false }, kinds := [], alts := [], laidByText := true, laidKinds := [.data], laidTests := true, laidLooks := .later }
def SumExactUptoCardSaid : Prop := Claim7.holds Tryd.pinned (.plain (OpenSpec.upto sumExactSpec)) sumExactUptoCard

/-- THE SECOND FORM's CARD OF 'bolelaw01.SumPieces'. -/
def sumPiecesUptoCard : Claim7 := { stood := { row := sumPiecesUptoRow, standIns := [], harness := (true, "66cc6db3b69dd63b207f2ba1789f60b902faf41c0bf08378e1befb60f77b7b6f"), looks := false }, kinds := [], alts := [], laidByText := true, laidKinds := [.data], laidTests := true, laidLooks := .later }
def SumPiecesUptoCardSaid : Prop := Claim7.holds Tryd.pinned (.plain (OpenSpec.upto sumPiecesSpec)) sumPiecesUptoCard

/-- THE SECOND FORM's CARD OF 'bolelaw01.SumFar'. -/
def sumFarUptoCard : Claim7 := { stood := { row := sumFarUptoRow, standIns := [], harness := (true, "66cc6db3b69dd63b207f2ba1789f60b902faf41c0bf08378e1befb60f77b7b6f"), looks := false }, kinds := [], alts := [], laidByText := true, laidKinds := [.data], laidTests := true, laidLooks := .later }
def SumFarUptoCardSaid : Prop := Claim7.holds Tryd.pinned (.plain (OpenSpec.upto sumFarSpec)) sumFarUptoCard

/-- THE SECOND FORM's CARD OF 'bolelaw01.SumTurns'. -/
def sumTurnsUptoCard : Claim7 := { stood := { row := sumTurnsUptoRow, standIns := [], harness := (true, "66cc6db3b69dd63b207f2ba1789f60b902faf41c0bf08378e1befb60f77b7b6f"), looks := false }, kinds := [], alts := [], laidByText := true, laidKinds := [.data], laidTests := true, laidLooks := .later }
def SumTurnsUptoCardSaid : Prop := Claim7.holds Tryd.pinned (.plain (OpenSpec.upto sumTurnsSpec)) sumTurnsUptoCard

/-- THE SECOND FORM's CARD OF 'bolelaw01.SumBursts'. -/
def sumBurstsUptoCard : Claim7 := { stood := { row := sumBurstsUptoRow, standIns := [], harness := (true, "66cc6db3b69dd63b207f2ba1789f60b902faf41c0bf08378e1befb60f77b7b6f"), looks := false }, kinds := [], alts := [], laidByText := true, laidKinds := [.data], laidTests := true, laidLooks := .later }
def SumBurstsUptoCardSaid : Prop := Claim7.holds Tryd.pinned (.plain (OpenSpec.upto sumBurstsSpec)) sumBurstsUptoCard
end Rows
end Go.Proofs.YtjglffejoflpoaaDoor
