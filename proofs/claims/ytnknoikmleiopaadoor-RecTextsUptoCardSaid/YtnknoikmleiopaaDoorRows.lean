/-
  NARROWER THAN 'FOR EVERY INPUT', by the rows' own cells (each row's printed sentence says how): RecPlays: laid · RecCuts: laid · RecBack: laid · RecTexts: laid.
  DERIVED. THE GIVEN ROWS OF THIS SEAT. 4 by the template 'for every input the law returns true; each argument reads behind the call as it read before'; 0 by the template 'total and deterministic' (their statements: YtnknoikmleiopaaDoorTotals.lean).
  GIVEN WITH THE SEED: the statements are not yours to turn. If you find one false, say at which input.
  Laid BY PROGRAM, IN A SANDBOX (cutbox-rows.mjs): the forced cells as the released guide's own fill.sh prints them over the translation 92d34315b984fe4a… (all of the seat's roots in one cut). By AI agents, Wed Nov 11 2026. No macro, syntax, notation, axiom, sorry.
-/
import Derived.Test.YtnknoikmleiopaaDoorChecked
import GoSem.Claim
import GoSem.ClaimJoined
import GoSem.ClaimMapViews
import Derived.JoinedTies
import Derived.KernelRfl
namespace Go.Proofs.YtnknoikmleiopaaDoor
/- THE CELL 'sum', in the pinned program and in every row, IS THE sha256 OF THE DUMP (.gsa) THAT YtnknoikmleiopaaDoorProg.lean LOADS. Nothing in Lean hashes anything: it is a label: what it is worth is what the hold of that sum in a sandbox is worth. -/
noncomputable def Tryd.pinned : Pinned := { name := "ytnknoikmleiopaadoor", sum := "92d34315b984fe4a2447636e9f1f77c48fb3d92cef88d0f256a0229fd6a6ea5c", checked := Tryd.checked }
namespace Rows
def none {H : Type} : Left H := { results := [], args := [] }

/- WHAT THE LISTED PACKAGE-LEVEL VARIABLES READ AS WHEN THE CALL BEGINS. Each datum BY PROGRAM (the guide's laid-datum.mjs) off the statement by which the dump's own 'gosem.cut.vars' lays the variable. In a bare row this is a premise. The card (YtnknoikmleiopaaDoorCards.lean) ties it to the program's text. -/
def laid_bole_rec_widths {H : Type} : DataW H := .agg [.lit (.bool false), .lit (.bool true), .lit (.bool true), .lit (.bool false), .lit (.bool true), .lit (.bool false), .lit (.bool false), .lit (.bool false), .lit (.bool true)]

/-- 'bolelaw02.RecPlays': WHATEVER THE INPUT: true; the input reads as it did. -/
def recPlaysSpec : ChangeSpec := { name := "recPlays", fn := fun _ => fun
  | [d1, d2] => { results := [.lit (.bool true)], args := [d1, d2] }
  | _ => none }
def recPlaysRow : OpenClaim := { program := "ytnknoikmleiopaadoor", sum := "92d34315b984fe4a2447636e9f1f77c48fb3d92cef88d0f256a0229fd6a6ea5c", func := "bole/bolelaw02.RecPlays", spec := "recPlays", named := ["bole/rec.widths"], apart := false, laid := [("bole/rec.widths", laid_bole_rec_widths)] }
def RecPlaysSaid : Prop := recPlaysRow.holds Tryd.pinned (OpenSpec.ofChange recPlaysSpec)

/-- ITS FALSE NEIGHBOUR: 'it returns false'. Refute it at one input. -/
def recPlaysWrong : ChangeSpec := { name := "recPlays", fn := fun _ => fun
  | [d1, d2] => { results := [.lit (.bool false)], args := [d1, d2] }
  | _ => none }
def RecPlaysWrongFalsely : Prop := recPlaysRow.holds Tryd.pinned (OpenSpec.ofChange recPlaysWrong)

/-- 'bolelaw02.RecCuts': WHATEVER THE INPUT: true; the input reads as it did. -/
def recCutsSpec : ChangeSpec := { name := "recCuts", fn := fun _ => fun
  | [d1, d2, d3] => { results := [.lit (.bool true)], args := [d1, d2, d3] }
  | _ => none }
def recCutsRow : OpenClaim := { program := "ytnknoikmleiopaadoor", sum := "92d34315b984fe4a2447636e9f1f77c48fb3d92cef88d0f256a0229fd6a6ea5c", func := "bole/bolelaw02.RecCuts", spec := "recCuts", named := ["bole/rec.widths"], apart := false, laid := [("bole/rec.widths", laid_bole_rec_widths)] }
def RecCutsSaid : Prop := recCutsRow.holds Tryd.pinned (OpenSpec.ofChange recCutsSpec)

/-- ITS FALSE NEIGHBOUR: 'it returns false'. Refute it at one input. -/
def recCutsWrong : ChangeSpec := { name := "recCuts", fn := fun _ => fun
  | [d1, d2, d3] => { results := [.lit (.bool false)], args := [d1, d2, d3] }
  | _ => none }
def RecCutsWrongFalsely : Prop := recCutsRow.holds Tryd.pinned (OpenSpec.ofChange recCutsWrong)

/-- 'bolelaw02.RecBack': WHATEVER THE INPUT: true; the input reads as it did. -/
def recBackSpec : ChangeSpec := { name := "recBack", fn := fun _ => fun
  | [d1, d2, d3] => { results := [.lit (.bool true)], args := [d1, d2, d3] }
  | _ => none }
def recBackRow : OpenClaim := { program := "ytnknoikmleiopaadoor", sum := "92d34315b984fe4a2447636e9f1f77c48fb3d92cef88d0f256a0229fd6a6ea5c", func := "bole/bolelaw02.RecBack", spec := "recBack", named := ["bole/rec.widths"], apart := false, laid := [("bole/rec.widths", laid_bole_rec_widths)] }
def RecBackSaid : Prop := recBackRow.holds Tryd.pinned (OpenSpec.ofChange recBackSpec)

/-- ITS FALSE NEIGHBOUR: 'it returns false'. Refute it at one input. -/
def recBackWrong : ChangeSpec := { name := "recBack", fn := fun _ => fun
  | [d1, d2, d3] => { results := [.lit (.bool false)], args := [d1, d2, d3] }
  | _ => none }
def RecBackWrongFalsely : Prop := recBackRow.holds Tryd.pinned (OpenSpec.ofChange recBackWrong)

/-- 'bolelaw02.RecTexts': WHATEVER THE INPUT: true; the input reads as it did. -/
def recTextsSpec : ChangeSpec := { name := "recTexts", fn := fun _ => fun
  | [d1, d2, d3] => { results := [.lit (.bool true)], args := [d1, d2, d3] }
  | _ => none }
def recTextsRow : OpenClaim := { program := "ytnknoikmleiopaadoor", sum := "92d34315b984fe4a2447636e9f1f77c48fb3d92cef88d0f256a0229fd6a6ea5c", func := "bole/bolelaw02.RecTexts", spec := "recTexts", named := ["bole/rec.widths"], apart := false, laid := [("bole/rec.widths", laid_bole_rec_widths)] }
def RecTextsSaid : Prop := recTextsRow.holds Tryd.pinned (OpenSpec.ofChange recTextsSpec)

/-- ITS FALSE NEIGHBOUR: 'it returns false'. Refute it at one input. -/
def recTextsWrong : ChangeSpec := { name := "recTexts", fn := fun _ => fun
  | [d1, d2, d3] => { results := [.lit (.bool false)], args := [d1, d2, d3] }
  | _ => none }
def RecTextsWrongFalsely : Prop := recTextsRow.holds Tryd.pinned (OpenSpec.ofChange recTextsWrong)

/- THE SECOND FORM. 'bulk': how many values and letters a reading holds, each counted each time it is reached (what is shared counts as often as it is met; a slice's spare places count too). A statement '..UptoSaid' is the law's where the arguments, and the package variables that the reading takes, are together of bulk at most 1048576: NARROWER than '..Said'. Prove '..Said' where nothing that the law and all that it calls make is longer than what came in: it says more and counts as full. Else prove '..UptoSaid'. A law counts once. -/
mutual
def uptoBulk {H : Type} : DataW H → Nat
  | .lit (.string bytes) => bytes.length + 1
  | .lit _ => 1
  | .nil => 1
  | .ptr d => uptoBulk d + 1
  | .slice elems spare => uptoBulkAll elems + uptoBulkAll spare + 1
  | .agg parts => uptoBulkAll parts + 1
  | .iface _ d => uptoBulk d + 1
  | .map entries => uptoBulkEntries entries + 1
  | .held _ => 1
def uptoBulkAll {H : Type} : List (DataW H) → Nat
  | [] => 0
  | d :: r => uptoBulk d + uptoBulkAll r
def uptoBulkEntries {H : Type} : List (Lit × DataW H) → Nat
  | [] => 0
  | x :: r => uptoBulkEntry x + uptoBulkEntries r
def uptoBulkEntry {H : Type} : Lit × DataW H → Nat
  | (.string bytes, d) => bytes.length + uptoBulk d + 1
  | (_, d) => uptoBulk d + 1
 end
def uptoSmall : (H : Type) → List (DataW H) → Bool := fun _ ds => decide (uptoBulkAll ds ≤ 1048576)
def OpenSpec.upto (s : _root_.Go.ChangeSpec) : _root_.Go.OpenSpec := { _root_.Go.OpenSpec.ofChange s with cond := some uptoSmall }

/-- 'bolelaw02.RecPlays', WHERE WHAT IT READS IS OF BULK AT MOST 1048576: true; the input reads as it did. -/
def recPlaysUptoRow : OpenClaim := { program := "ytnknoikmleiopaadoor", sum := "92d34315b984fe4a2447636e9f1f77c48fb3d92cef88d0f256a0229fd6a6ea5c", func := "bole/bolelaw02.RecPlays", spec := "recPlays", named := ["bole/rec.widths"], apart := false, laid := [("bole/rec.widths", laid_bole_rec_widths)], narrowed := true }
def RecPlaysUptoSaid : Prop := recPlaysUptoRow.holds Tryd.pinned (OpenSpec.upto recPlaysSpec)

/-- 'bolelaw02.RecCuts', WHERE WHAT IT READS IS OF BULK AT MOST 1048576: true; the input reads as it did. -/
def recCutsUptoRow : OpenClaim := { program := "ytnknoikmleiopaadoor", sum := "92d34315b984fe4a2447636e9f1f77c48fb3d92cef88d0f256a0229fd6a6ea5c", func := "bole/bolelaw02.RecCuts", spec := "recCuts", named := ["bole/rec.widths"], apart := false, laid := [("bole/rec.widths", laid_bole_rec_widths)], narrowed := true }
def RecCutsUptoSaid : Prop := recCutsUptoRow.holds Tryd.pinned (OpenSpec.upto recCutsSpec)

/-- 'bolelaw02.RecBack', WHERE WHAT IT READS IS OF BULK AT MOST 1048576: true; the input reads as it did. -/
def recBackUptoRow : OpenClaim := { program := "ytnknoikmleiopaadoor", sum := "92d34315b984fe4a2447636e9f1f77c48fb3d92cef88d0f256a0229fd6a6ea5c", func := "bole/bolelaw02.RecBack", spec := "recBack", named := ["bole/rec.widths"], apart := false, laid := [("bole/rec.widths", laid_bole_rec_widths)], narrowed := true }
def RecBackUptoSaid : Prop := recBackUptoRow.holds Tryd.pinned (OpenSpec.upto recBackSpec)

/-- 'bolelaw02.RecTexts', WHERE WHAT IT READS IS OF BULK AT MOST 1048576: true; the input reads as it did. -/
def recTextsUptoRow : OpenClaim := { program := "ytnknoikmleiopaadoor", sum := "92d34315b984fe4a2447636e9f1f77c48fb3d92cef88d0f256a0229fd6a6ea5c", func := "bole/bolelaw02.RecTexts", spec := "recTexts", named := ["bole/rec.widths"], apart := false, laid := [("bole/rec.widths", laid_bole_rec_widths)], narrowed := true }
def RecTextsUptoSaid : Prop := recTextsUptoRow.holds Tryd.pinned (OpenSpec.upto recTextsSpec)

end Rows
end Go.Proofs.YtnknoikmleiopaaDoor
