/-
  NARROWER THAN 'FOR EVERY INPUT', by the rows' own cells (each row's printed sentence says how): SumExact: laid · SumPieces: laid · SumFar: laid · SumTurns: laid · SumBursts: laid.
  DERIVED. THE GIVEN ROWS OF THIS SEAT. 5 by the template 'for every input the law returns true; each argument reads behind the call as it read before'; 0 by the template 'total and deterministic' (their statements: YtjglffejoflpoaaDoorTotals.lean).
  GIVEN WITH THE SEED: the statements are not yours to turn. If you find one false, say at which input.
  Laid BY PROGRAM, IN A SANDBOX (cutbox-rows.mjs): the forced cells as the released guide's own fill.sh prints them over the translation 7df431b3e0ea4bd3… (all of the seat's roots in one cut). By AI agents, Wed Nov 11 2026. No macro, syntax, notation, axiom, sorry.
-/
import Derived.Test.YtjglffejoflpoaaDoorChecked
import GoSem.Claim
import GoSem.ClaimJoined
import GoSem.ClaimMapViews
import Derived.JoinedTies
import Derived.KernelRfl
namespace Go.Proofs.YtjglffejoflpoaaDoor
/- THE CELL 'sum', in the pinned program and in every row, IS THE sha256 OF THE DUMP (.gsa) THAT YtjglffejoflpoaaDoorProg.lean LOADS. Nothing in Lean hashes anything: it is a label: what it is worth is what the hold of that sum in a sandbox is worth. -/
noncomputable def Tryd.pinned : Pinned := { name := "ytjglffejoflpoaadoor", sum := "7df431b3e0ea4bd39a41d3a31069ae85b01c18181972edefb8c194fa7452061a", checked := Tryd.checked }
namespace Rows
def none {H : Type} : Left H := { results := [], args := [] }

/- WHAT THE LISTED PACKAGE-LEVEL VARIABLES READ AS WHEN THE CALL BEGINS. Each datum BY PROGRAM (the guide's laid-datum.mjs) off the statement by which the dump's own 'gosem.cut.vars' lays the variable. In a bare row this is a premise. The card (YtjglffejoflpoaaDoorCards.lean) ties it to the program's text. -/
def laid_bole_sum_half {H : Type} : DataW H := .agg [.lit (.int .u32 0), .lit (.int .u32 498536548), .lit (.int .u32 997073096), .lit (.int .u32 651767980), .lit (.int .u32 1994146192), .lit (.int .u32 1802195444), .lit (.int .u32 1303535960), .lit (.int .u32 1342533948), .lit (.int .u32 3988292384), .lit (.int .u32 4027552580), .lit (.int .u32 3604390888), .lit (.int .u32 3412177804), .lit (.int .u32 2607071920), .lit (.int .u32 2262029012), .lit (.int .u32 2685067896), .lit (.int .u32 3183342108)]

/-- 'bolelaw01.SumExact': WHATEVER THE INPUT: true; the input reads as it did. -/
def sumExactSpec : ChangeSpec := { name := "sumExact", fn := fun _ => fun
  | [d] => { results := [.lit (.bool true)], args := [d] }
  | _ => none }
def sumExactRow : OpenClaim := { program := "ytjglffejoflpoaadoor", sum := "7df431b3e0ea4bd39a41d3a31069ae85b01c18181972edefb8c194fa7452061a", func := "bole/bolelaw01.SumExact", spec := "sumExact", named := ["bole/sum.half"], apart := false, laid := [("bole/sum.half", laid_bole_sum_half)] }
def SumExactSaid : Prop := sumExactRow.holds Tryd.pinned (OpenSpec.ofChange sumExactSpec)

/-- ITS FALSE NEIGHBOUR: 'it returns false'. Refute it at one input. -/
def sumExactWrong : ChangeSpec := { name := "sumExact", fn := fun _ => fun
  | [d] => { results := [.lit (.bool false)], args := [d] }
  | _ => none }
def SumExactWrongFalsely : Prop := sumExactRow.holds Tryd.pinned (OpenSpec.ofChange sumExactWrong)

/-- 'bolelaw01.SumPieces': WHATEVER THE INPUT: true; the input reads as it did. -/
def sumPiecesSpec : ChangeSpec := { name := "sumPieces", fn := fun _ => fun
  | [d] => { results := [.lit (.bool true)], args := [d] }
  | _ => none }
def sumPiecesRow : OpenClaim := { program := "ytjglffejoflpoaadoor", sum := "7df431b3e0ea4bd39a41d3a31069ae85b01c18181972edefb8c194fa7452061a", func := "bole/bolelaw01.SumPieces", spec := "sumPieces", named := ["bole/sum.half"], apart := false, laid := [("bole/sum.half", laid_bole_sum_half)] }
def SumPiecesSaid : Prop := sumPiecesRow.holds Tryd.pinned (OpenSpec.ofChange sumPiecesSpec)

/-- ITS FALSE NEIGHBOUR: 'it returns false'. Refute it at one input. -/
def sumPiecesWrong : ChangeSpec := { name := "sumPieces", fn := fun _ => fun
  | [d] => { results := [.lit (.bool false)], args := [d] }
  | _ => none }
def SumPiecesWrongFalsely : Prop := sumPiecesRow.holds Tryd.pinned (OpenSpec.ofChange sumPiecesWrong)

/-- 'bolelaw01.SumFar': WHATEVER THE INPUT: true; the input reads as it did. -/
def sumFarSpec : ChangeSpec := { name := "sumFar", fn := fun _ => fun
  | [d1, d2, d3] => { results := [.lit (.bool true)], args := [d1, d2, d3] }
  | _ => none }
def sumFarRow : OpenClaim := { program := "ytjglffejoflpoaadoor", sum := "7df431b3e0ea4bd39a41d3a31069ae85b01c18181972edefb8c194fa7452061a", func := "bole/bolelaw01.SumFar", spec := "sumFar", named := ["bole/sum.half"], apart := false, laid := [("bole/sum.half", laid_bole_sum_half)] }
def SumFarSaid : Prop := sumFarRow.holds Tryd.pinned (OpenSpec.ofChange sumFarSpec)

/-- ITS FALSE NEIGHBOUR: 'it returns false'. Refute it at one input. -/
def sumFarWrong : ChangeSpec := { name := "sumFar", fn := fun _ => fun
  | [d1, d2, d3] => { results := [.lit (.bool false)], args := [d1, d2, d3] }
  | _ => none }
def SumFarWrongFalsely : Prop := sumFarRow.holds Tryd.pinned (OpenSpec.ofChange sumFarWrong)

/-- 'bolelaw01.SumTurns': WHATEVER THE INPUT: true; the input reads as it did. -/
def sumTurnsSpec : ChangeSpec := { name := "sumTurns", fn := fun _ => fun
  | [d1, d2, d3] => { results := [.lit (.bool true)], args := [d1, d2, d3] }
  | _ => none }
def sumTurnsRow : OpenClaim := { program := "ytjglffejoflpoaadoor", sum := "7df431b3e0ea4bd39a41d3a31069ae85b01c18181972edefb8c194fa7452061a", func := "bole/bolelaw01.SumTurns", spec := "sumTurns", named := ["bole/sum.half"], apart := false, laid := [("bole/sum.half", laid_bole_sum_half)] }
def SumTurnsSaid : Prop := sumTurnsRow.holds Tryd.pinned (OpenSpec.ofChange sumTurnsSpec)

/-- ITS FALSE NEIGHBOUR: 'it returns false'. Refute it at one input. -/
def sumTurnsWrong : ChangeSpec := { name := "sumTurns", fn := fun _ => fun
  | [d1, d2, d3] => { results := [.lit (.bool false)], args := [d1, d2, d3] }
  | _ => none }
def SumTurnsWrongFalsely : Prop := sumTurnsRow.holds Tryd.pinned (OpenSpec.ofChange sumTurnsWrong)

/-- 'bolelaw01.SumBursts': WHATEVER THE INPUT: true; the input reads as it did. -/
def sumBurstsSpec : ChangeSpec := { name := "sumBursts", fn := fun _ => fun
  | [d1, d2, d3] => { results := [.lit (.bool true)], args := [d1, d2, d3] }
  | _ => none }
def sumBurstsRow : OpenClaim := { program := "ytjglffejoflpoaadoor", sum := "7df431b3e0ea4bd39a41d3a31069ae85b01c18181972edefb8c194fa7452061a", func := "bole/bolelaw01.SumBursts", spec := "sumBursts", named := ["bole/sum.half"], apart := false, laid := [("bole/sum.half", laid_bole_sum_half)] }
def SumBurstsSaid : Prop := sumBurstsRow.holds Tryd.pinned (OpenSpec.ofChange sumBurstsSpec)

/-- ITS FALSE NEIGHBOUR: 'it returns false'. Refute it at one input. -/
def sumBurstsWrong : ChangeSpec := { name := "sumBursts", fn := fun _ => fun
  | [d1, d2, d3] => { results := [.lit (.bool false)], args := [d1, d2, d3] }
  | _ => none }
def SumBurstsWrongFalsely : Prop := sumBurstsRow.holds Tryd.pinned (OpenSpec.ofChange sumBurstsWrong)

/- THE SECOND FORM. 'bulk': how many values and letters a reading holds, each counted each time it is reached (what is shared counts as often as it is met; a slice's spare places count too). A statement '..UptoSaid' is the law's where the arguments, and the package variables that the reading takes, are together of bulk at most 1048576: NARROWER than '..Said'. Prove '..Said' where nothing that the law and all that it calls make is longer than what came in: it says more and counts as full. Else prove '..UptoSaid'. A law counts once. -/
mutual
def uptoBulk {H : Type} : DataW H → Nat
  | .lit (.string bytes) => bytes.length + 1
  | .lit _ => 1
  | .nil => 1
  | .ptr d => uptoBulk d + 1
  | .slice elems spare => uptoBulkAll elems + uptoBulkAll spare + 1
  | .agg parts => uptoBulkAll parts + 1
  | .iface _ d => uptoBulk d + 1
  | .map entries => uptoBulkEntries entries + 1
  | .held _ => 1
def uptoBulkAll {H : Type} : List (DataW H) → Nat
  | [] => 0
  | d :: r => uptoBulk d + uptoBulkAll r
def uptoBulkEntries {H : Type} : List (Lit × DataW H) → Nat
  | [] => 0
  | x :: r => uptoBulkEntry x + uptoBulkEntries r
def uptoBulkEntry {H : Type} : Lit × DataW H → Nat
  | (.string bytes, d) => bytes.length + uptoBulk d + 1
  | (_, d) => uptoBulk d + 1
 end
def uptoSmall : (H : Type) → List (DataW H) → Bool := fun _ ds => decide (uptoBulkAll ds ≤ 1048576)
def OpenSpec.upto (s : _root_.Go.ChangeSpec) : _root_.Go.OpenSpec := { _root_.Go.OpenSpec.ofChange s with cond := some uptoSmall }

/-- 'bolelaw01.SumExact', WHERE WHAT IT READS IS OF BULK AT MOST 1048576: true; the input reads as it did. -/
def sumExactUptoRow : OpenClaim := { program := "ytjglffejoflpoaadoor", sum := "7df431b3e0ea4bd39a41d3a31069ae85b01c18181972edefb8c194fa7452061a", func := "bole/bolelaw01.SumExact", spec := "sumExact", named := ["bole/sum.half"], apart := false, laid := [("bole/sum.half", laid_bole_sum_half)], narrowed := true }
def SumExactUptoSaid : Prop := sumExactUptoRow.holds Tryd.pinned (OpenSpec.upto sumExactSpec)

/-- 'bolelaw01.SumPieces', WHERE WHAT IT READS IS OF BULK AT MOST 1048576: true; the input reads as it did. -/
def sumPiecesUptoRow : OpenClaim := { program := "ytjglffejoflpoaadoor", sum := "7df431b3e0ea4bd39a41d3a31069ae85b01c18181972edefb8c194fa7452061a", func := "bole/bolelaw01.SumPieces", spec := "sumPieces", named := ["bole/sum.half"], apart := false, laid := [("bole/sum.half", laid_bole_sum_half)], narrowed := true }
def SumPiecesUptoSaid : Prop := sumPiecesUptoRow.holds Tryd.pinned (OpenSpec.upto sumPiecesSpec)

/-- 'bolelaw01.SumFar', WHERE WHAT IT READS IS OF BULK AT MOST 1048576: true; the input reads as it did. -/
def sumFarUptoRow : OpenClaim := { program := "ytjglffejoflpoaadoor", sum := "7df431b3e0ea4bd39a41d3a31069ae85b01c18181972edefb8c194fa7452061a", func := "bole/bolelaw01.SumFar", spec := "sumFar", named := ["bole/sum.half"], apart := false, laid := [("bole/sum.half", laid_bole_sum_half)], narrowed := true }
def SumFarUptoSaid : Prop := sumFarUptoRow.holds Tryd.pinned (OpenSpec.upto sumFarSpec)

/-- 'bolelaw01.SumTurns', WHERE WHAT IT READS IS OF BULK AT MOST 1048576: true; the input reads as it did. -/
def sumTurnsUptoRow : OpenClaim := { program := "ytjglffejoflpoaadoor", sum := "7df431b3e0ea4bd39a41d3a31069ae85b01c18181972edefb8c194fa7452061a", func := "bole/bolelaw01.SumTurns", spec := "sumTurns", named := ["bole/sum.half"], apart := false, laid := [("bole/sum.half", laid_bole_sum_half)], narrowed := true }
def SumTurnsUptoSaid : Prop := sumTurnsUptoRow.holds Tryd.pinned (OpenSpec.upto sumTurnsSpec)

/-- 'bolelaw01.SumBursts', WHERE WHAT IT READS IS OF BULK AT MOST 1048576: true; the input reads as it did. -/
def sumBurstsUptoRow : OpenClaim := { program := "ytjglffejoflpoaadoor", sum := "7df431b3e0ea4bd39a41d3a31069ae85b01c18181972edefb8c194fa7452061a", func := "bole/bolelaw01.SumBursts", spec := "sumBursts", named := ["bole/sum.half"], apart := false, laid := [("bole/sum.half", laid_bole_sum_half)], narrowed := true }
def SumBurstsUptoSaid : Prop := sumBurstsUptoRow.holds Tryd.pinned (OpenSpec.upto sumBurstsSpec)

end Rows
end Go.Proofs.YtjglffejoflpoaaDoor
