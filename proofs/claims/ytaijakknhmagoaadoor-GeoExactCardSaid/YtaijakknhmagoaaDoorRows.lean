/-
  NARROWER THAN 'FOR EVERY INPUT', by the rows' own cells (each row's printed sentence says how): GeoGrows: laid · GeoReads: laid · GeoOwn: laid · GeoExact: laid · GeoLays: laid.
  DERIVED. THE GIVEN ROWS OF THIS SEAT. 5 by the template 'for every input the law returns true; each argument reads behind the call as it read before'; 0 by the template 'total and deterministic' (their statements: YtaijakknhmagoaaDoorTotals.lean).
  GIVEN WITH THE SEED: the statements are not yours to turn. If you find one false, say at which input.
  Laid BY PROGRAM, IN A SANDBOX (cutbox-rows.mjs): the forced cells as the released guide's own fill.sh prints them over the translation 6595516bb0514b2f… (all of the seat's roots in one cut). By AI agents, Wed Nov 11 2026. No macro, syntax, notation, axiom, sorry.
-/
import Derived.Test.YtaijakknhmagoaaDoorChecked
import GoSem.Claim
import GoSem.ClaimJoined
import GoSem.ClaimMapViews
import Derived.JoinedTies
import Derived.KernelRfl
namespace Go.Proofs.YtaijakknhmagoaaDoor
/- THE CELL 'sum', in the pinned program and in every row, IS THE sha256 OF THE DUMP (.gsa) THAT YtaijakknhmagoaaDoorProg.lean LOADS. Nothing in Lean hashes anything: it is a label: what it is worth is what the hold of that sum in a sandbox is worth. -/
noncomputable def Tryd.pinned : Pinned := { name := "ytaijakknhmagoaadoor", sum := "6595516bb0514b2ff88134642835cf7084c8cb7127a2416e2d101f492d61db49", checked := Tryd.checked }
namespace Rows
def none {H : Type} : Left H := { results := [], args := [] }

/- WHAT THE LISTED PACKAGE-LEVEL VARIABLES READ AS WHEN THE CALL BEGINS. Each datum BY PROGRAM (the guide's laid-datum.mjs) off the statement by which the dump's own 'gosem.cut.vars' lays the variable. In a bare row this is a premise. The card (YtaijakknhmagoaaDoorCards.lean) ties it to the program's text. -/
def laid_bole_rec_widths {H : Type} : DataW H := .agg [.lit (.bool false), .lit (.bool true), .lit (.bool true), .lit (.bool false), .lit (.bool true), .lit (.bool false), .lit (.bool false), .lit (.bool false), .lit (.bool true)]
def laid_bole_sum_half {H : Type} : DataW H := .agg [.lit (.int .u32 0), .lit (.int .u32 498536548), .lit (.int .u32 997073096), .lit (.int .u32 651767980), .lit (.int .u32 1994146192), .lit (.int .u32 1802195444), .lit (.int .u32 1303535960), .lit (.int .u32 1342533948), .lit (.int .u32 3988292384), .lit (.int .u32 4027552580), .lit (.int .u32 3604390888), .lit (.int .u32 3412177804), .lit (.int .u32 2607071920), .lit (.int .u32 2262029012), .lit (.int .u32 2685067896), .lit (.int .u32 3183342108)]

/-- 'bolelaw07.GeoGrows': WHATEVER THE INPUT: true; the input reads as it did. -/
def geoGrowsSpec : ChangeSpec := { name := "geoGrows", fn := fun _ => fun
  | [d1, d2] => { results := [.lit (.bool true)], args := [d1, d2] }
  | _ => none }
def geoGrowsRow : OpenClaim := { program := "ytaijakknhmagoaadoor", sum := "6595516bb0514b2ff88134642835cf7084c8cb7127a2416e2d101f492d61db49", func := "bole/bolelaw07.GeoGrows", spec := "geoGrows", named := ["bole/rec.widths", "bole/sum.half"], apart := false, laid := [("bole/rec.widths", laid_bole_rec_widths), ("bole/sum.half", laid_bole_sum_half)] }
def GeoGrowsSaid : Prop := geoGrowsRow.holds Tryd.pinned (OpenSpec.ofChange geoGrowsSpec)

/-- ITS FALSE NEIGHBOUR: 'it returns false'. Refute it at one input. -/
def geoGrowsWrong : ChangeSpec := { name := "geoGrows", fn := fun _ => fun
  | [d1, d2] => { results := [.lit (.bool false)], args := [d1, d2] }
  | _ => none }
def GeoGrowsWrongFalsely : Prop := geoGrowsRow.holds Tryd.pinned (OpenSpec.ofChange geoGrowsWrong)

/-- 'bolelaw07.GeoReads': WHATEVER THE INPUT: true; the input reads as it did. -/
def geoReadsSpec : ChangeSpec := { name := "geoReads", fn := fun _ => fun
  | [d1, d2, d3] => { results := [.lit (.bool true)], args := [d1, d2, d3] }
  | _ => none }
def geoReadsRow : OpenClaim := { program := "ytaijakknhmagoaadoor", sum := "6595516bb0514b2ff88134642835cf7084c8cb7127a2416e2d101f492d61db49", func := "bole/bolelaw07.GeoReads", spec := "geoReads", named := ["bole/rec.widths", "bole/sum.half"], apart := false, laid := [("bole/rec.widths", laid_bole_rec_widths), ("bole/sum.half", laid_bole_sum_half)] }
def GeoReadsSaid : Prop := geoReadsRow.holds Tryd.pinned (OpenSpec.ofChange geoReadsSpec)

/-- ITS FALSE NEIGHBOUR: 'it returns false'. Refute it at one input. -/
def geoReadsWrong : ChangeSpec := { name := "geoReads", fn := fun _ => fun
  | [d1, d2, d3] => { results := [.lit (.bool false)], args := [d1, d2, d3] }
  | _ => none }
def GeoReadsWrongFalsely : Prop := geoReadsRow.holds Tryd.pinned (OpenSpec.ofChange geoReadsWrong)

/-- 'bolelaw07.GeoOwn': WHATEVER THE INPUT: true; the input reads as it did. -/
def geoOwnSpec : ChangeSpec := { name := "geoOwn", fn := fun _ => fun
  | [d1, d2] => { results := [.lit (.bool true)], args := [d1, d2] }
  | _ => none }
def geoOwnRow : OpenClaim := { program := "ytaijakknhmagoaadoor", sum := "6595516bb0514b2ff88134642835cf7084c8cb7127a2416e2d101f492d61db49", func := "bole/bolelaw07.GeoOwn", spec := "geoOwn", named := ["bole/rec.widths", "bole/sum.half"], apart := false, laid := [("bole/rec.widths", laid_bole_rec_widths), ("bole/sum.half", laid_bole_sum_half)] }
def GeoOwnSaid : Prop := geoOwnRow.holds Tryd.pinned (OpenSpec.ofChange geoOwnSpec)

/-- ITS FALSE NEIGHBOUR: 'it returns false'. Refute it at one input. -/
def geoOwnWrong : ChangeSpec := { name := "geoOwn", fn := fun _ => fun
  | [d1, d2] => { results := [.lit (.bool false)], args := [d1, d2] }
  | _ => none }
def GeoOwnWrongFalsely : Prop := geoOwnRow.holds Tryd.pinned (OpenSpec.ofChange geoOwnWrong)

/-- 'bolelaw07.GeoExact': WHATEVER THE INPUT: true; the input reads as it did. -/
def geoExactSpec : ChangeSpec := { name := "geoExact", fn := fun _ => fun
  | [d1, d2, d3] => { results := [.lit (.bool true)], args := [d1, d2, d3] }
  | _ => none }
def geoExactRow : OpenClaim := { program := "ytaijakknhmagoaadoor", sum := "6595516bb0514b2ff88134642835cf7084c8cb7127a2416e2d101f492d61db49", func := "bole/bolelaw07.GeoExact", spec := "geoExact", named := ["bole/rec.widths", "bole/sum.half"], apart := false, laid := [("bole/rec.widths", laid_bole_rec_widths), ("bole/sum.half", laid_bole_sum_half)] }
def GeoExactSaid : Prop := geoExactRow.holds Tryd.pinned (OpenSpec.ofChange geoExactSpec)

/-- ITS FALSE NEIGHBOUR: 'it returns false'. Refute it at one input. -/
def geoExactWrong : ChangeSpec := { name := "geoExact", fn := fun _ => fun
  | [d1, d2, d3] => { results := [.lit (.bool false)], args := [d1, d2, d3] }
  | _ => none }
def GeoExactWrongFalsely : Prop := geoExactRow.holds Tryd.pinned (OpenSpec.ofChange geoExactWrong)

/-- 'bolelaw07.GeoLays': WHATEVER THE INPUT: true; the input reads as it did. -/
def geoLaysSpec : ChangeSpec := { name := "geoLays", fn := fun _ => fun
  | [d] => { results := [.lit (.bool true)], args := [d] }
  | _ => none }
def geoLaysRow : OpenClaim := { program := "ytaijakknhmagoaadoor", sum := "6595516bb0514b2ff88134642835cf7084c8cb7127a2416e2d101f492d61db49", func := "bole/bolelaw07.GeoLays", spec := "geoLays", named := ["bole/rec.widths", "bole/sum.half"], apart := false, laid := [("bole/rec.widths", laid_bole_rec_widths), ("bole/sum.half", laid_bole_sum_half)] }
def GeoLaysSaid : Prop := geoLaysRow.holds Tryd.pinned (OpenSpec.ofChange geoLaysSpec)

/-- ITS FALSE NEIGHBOUR: 'it returns false'. Refute it at one input. -/
def geoLaysWrong : ChangeSpec := { name := "geoLays", fn := fun _ => fun
  | [d] => { results := [.lit (.bool false)], args := [d] }
  | _ => none }
def GeoLaysWrongFalsely : Prop := geoLaysRow.holds Tryd.pinned (OpenSpec.ofChange geoLaysWrong)

/- THE SECOND FORM. 'bulk': how many values and letters a reading holds, each counted each time it is reached (what is shared counts as often as it is met; a slice's spare places count too). A statement '..UptoSaid' is the law's where the arguments, and the package variables that the reading takes, are together of bulk at most 1048576: NARROWER than '..Said'. Prove '..Said' where nothing that the law and all that it calls make is longer than what came in: it says more and counts as full. Else prove '..UptoSaid'. A law counts once. -/
mutual
def uptoBulk {H : Type} : DataW H → Nat
  | .lit (.string bytes) => bytes.length + 1
  | .lit _ => 1
  | .nil => 1
  | .ptr d => uptoBulk d + 1
  | .slice elems spare => uptoBulkAll elems + uptoBulkAll spare + 1
  | .agg parts => uptoBulkAll parts + 1
  | .iface _ d => uptoBulk d + 1
  | .map entries => uptoBulkEntries entries + 1
  | .held _ => 1
def uptoBulkAll {H : Type} : List (DataW H) → Nat
  | [] => 0
  | d :: r => uptoBulk d + uptoBulkAll r
def uptoBulkEntries {H : Type} : List (Lit × DataW H) → Nat
  | [] => 0
  | x :: r => uptoBulkEntry x + uptoBulkEntries r
def uptoBulkEntry {H : Type} : Lit × DataW H → Nat
  | (.string bytes, d) => bytes.length + uptoBulk d + 1
  | (_, d) => uptoBulk d + 1
 end
def uptoSmall : (H : Type) → List (DataW H) → Bool := fun _ ds => decide (uptoBulkAll ds ≤ 1048576)
def OpenSpec.upto (s : _root_.Go.ChangeSpec) : _root_.Go.OpenSpec := { _root_.Go.OpenSpec.ofChange s with cond := some uptoSmall }

/-- 'bolelaw07.GeoGrows', WHERE WHAT IT READS IS OF BULK AT MOST 1048576: true; the input reads as it did. -/
def geoGrowsUptoRow : OpenClaim := { program := "ytaijakknhmagoaadoor", sum := "6595516bb0514b2ff88134642835cf7084c8cb7127a2416e2d101f492d61db49", func := "bole/bolelaw07.GeoGrows", spec := "geoGrows", named := ["bole/rec.widths", "bole/sum.half"], apart := false, laid := [("bole/rec.widths", laid_bole_rec_widths), ("bole/sum.half", laid_bole_sum_half)], narrowed := true }
def GeoGrowsUptoSaid : Prop := geoGrowsUptoRow.holds Tryd.pinned (OpenSpec.upto geoGrowsSpec)

/-- 'bolelaw07.GeoReads', WHERE WHAT IT READS IS OF BULK AT MOST 1048576: true; the input reads as it did. -/
def geoReadsUptoRow : OpenClaim := { program := "ytaijakknhmagoaadoor", sum := "6595516bb0514b2ff88134642835cf7084c8cb7127a2416e2d101f492d61db49", func := "bole/bolelaw07.GeoReads", spec := "geoReads", named := ["bole/rec.widths", "bole/sum.half"], apart := false, laid := [("bole/rec.widths", laid_bole_rec_widths), ("bole/sum.half", laid_bole_sum_half)], narrowed := true }
def GeoReadsUptoSaid : Prop := geoReadsUptoRow.holds Tryd.pinned (OpenSpec.upto geoReadsSpec)

/-- 'bolelaw07.GeoOwn', WHERE WHAT IT READS IS OF BULK AT MOST 1048576: true; the input reads as it did. -/
def geoOwnUptoRow : OpenClaim := { program := "ytaijakknhmagoaadoor", sum := "6595516bb0514b2ff88134642835cf7084c8cb7127a2416e2d101f492d61db49", func := "bole/bolelaw07.GeoOwn", spec := "geoOwn", named := ["bole/rec.widths", "bole/sum.half"], apart := false, laid := [("bole/rec.widths", laid_bole_rec_widths), ("bole/sum.half", laid_bole_sum_half)], narrowed := true }
def GeoOwnUptoSaid : Prop := geoOwnUptoRow.holds Tryd.pinned (OpenSpec.upto geoOwnSpec)

/-- 'bolelaw07.GeoExact', WHERE WHAT IT READS IS OF BULK AT MOST 1048576: true; the input reads as it did. -/
def geoExactUptoRow : OpenClaim := { program := "ytaijakknhmagoaadoor", sum := "6595516bb0514b2ff88134642835cf7084c8cb7127a2416e2d101f492d61db49", func := "bole/bolelaw07.GeoExact", spec := "geoExact", named := ["bole/rec.widths", "bole/sum.half"], apart := false, laid := [("bole/rec.widths", laid_bole_rec_widths), ("bole/sum.half", laid_bole_sum_half)], narrowed := true }
def GeoExactUptoSaid : Prop := geoExactUptoRow.holds Tryd.pinned (OpenSpec.upto geoExactSpec)

/-- 'bolelaw07.GeoLays', WHERE WHAT IT READS IS OF BULK AT MOST 1048576: true; the input reads as it did. -/
def geoLaysUptoRow : OpenClaim := { program := "ytaijakknhmagoaadoor", sum := "6595516bb0514b2ff88134642835cf7084c8cb7127a2416e2d101f492d61db49", func := "bole/bolelaw07.GeoLays", spec := "geoLays", named := ["bole/rec.widths", "bole/sum.half"], apart := false, laid := [("bole/rec.widths", laid_bole_rec_widths), ("bole/sum.half", laid_bole_sum_half)], narrowed := true }
def GeoLaysUptoSaid : Prop := geoLaysUptoRow.holds Tryd.pinned (OpenSpec.upto geoLaysSpec)

end Rows
end Go.Proofs.YtaijakknhmagoaaDoor
