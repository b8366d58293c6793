/-
  DERIVED. GIVEN WITH THE SEED: THE CARDS: each row of YtaijakknhmagoaaDoorRows.lean that lists a variable, with what it lists TIED to the program's text (the seventh form; the later family's looks); each row that meets fmt, with fmt's text TOLD by the authors' own Lean function (tested against real Go, not proved from fmt's source: count such statements apart). THE CARD IS WHAT COUNTS. Prove the row's statement (the work); the ties are given (YtaijakknhmagoaaDoorTie.lean); close each card by the builder's one call (the guide's Derived/Test/ToyasCard.lean, 'card_holds'). Laid BY PROGRAM, IN A SANDBOX (cutbox-door.mjs). By AI agents, Wed Nov 11 2026. No macro, syntax, notation, axiom, sorry.
-/
import Derived.Test.YtaijakknhmagoaaDoorRows
import GoSem.ClaimSeven
namespace Go.Proofs.YtaijakknhmagoaaDoor
namespace Rows

/-- THE TIED CARD OF 'bolelaw07.GeoGrows'. -/
def geoGrowsCard : Claim7 := { stood := { row := geoGrowsRow, standIns := [], harness := (true, "2c5694447c6415e7180b803a622625602c60826c128d64dbe97f99becd57e67b"), looks := false }, kinds := [], alts := [], laidByText := true, laidKinds := [.data, .data], laidTests := true, laidLooks := .later }
def GeoGrowsCardSaid : Prop := Claim7.holds Tryd.pinned (.plain (OpenSpec.ofChange geoGrowsSpec)) geoGrowsCard

/-- THE TIED CARD OF 'bolelaw07.GeoReads'. -/
def geoReadsCard : Claim7 := { stood := { row := geoReadsRow, standIns := [], harness := (true, "2c5694447c6415e7180b803a622625602c60826c128d64dbe97f99becd57e67b"), looks := false }, kinds := [], alts := [], laidByText := true, laidKinds := [.data, .data], laidTests := true, laidLooks := .later }
def GeoReadsCardSaid : Prop := Claim7.holds Tryd.pinned (.plain (OpenSpec.ofChange geoReadsSpec)) geoReadsCard

/-- THE TIED CARD OF 'bolelaw07.GeoOwn'. -/
def geoOwnCard : Claim7 := { stood := { row := geoOwnRow, standIns := [], harness := (true, "2c5694447c6415e7180b803a622625602c60826c128d64dbe97f99becd57e67b"), looks := false }, kinds := [], alts := [], laidByText := true, laidKinds := [.data, .data], laidTests := true, laidLooks := .later }
def GeoOwnCardSaid : Prop := Claim7.holds Tryd.pinned (.plain (OpenSpec.ofChange geoOwnSpec)) geoOwnCard

/-- THE TIED CARD OF 'bolelaw07.GeoExact'. -/
def geoExactCard : Claim7 := { stood := { row := geoExactRow, standIns := [], harness := (true, "2c5694447c6415e7180b803a622625602c60826c128d64dbe97f99becd57e67b"), looks := false }, kinds := [], alts := [], laidByText := true, laidKinds := [.data, .data], laidTests := true, laidLooks := .later }
def GeoExactCardSaid : Prop := Claim7.holds Tryd.pinned (.plain (OpenSpec.ofChange geoExactSpec)) geoExactCard

/-- THE TIED CARD OF 'bolelaw07.GeoLays'. -/
def geoLaysCard : Claim7 := { stood := { row := geoLaysRow, standIns := [], harness := (true, "2c5694447c6415e7180b803a622625602c60826c128d64dbe97f99becd57e67b"), looks := false }, kinds := [], alts := [], laidByText := true, laidKinds := [.data, .data], laidTests := true, laidLooks := .later }
def GeoLaysCardSaid : Prop := Claim7.holds Tryd.pinned (.plain (OpenSpec.ofChange geoLaysSpec)) geoLaysCard

/-- THE SECOND FORM's CARD OF 'bolelaw07.GeoGrows'. -/
def geoGrowsUptoCard : Claim7 := { stood := { row := geoGrowsUptoRow, standIns := [], harness := (true, "2c5694447c6415e7180b803a622625602c60826c128d64dbe97f99becd57e67b"), looks := false }, kinds := [], alts := [], laidByText := true, laidKinds := [.data, .data], laidTests := true, laidLooks := .later }
def GeoGrowsUptoCardSaid : Prop := Claim7.holds Tryd.pinned (.plain (OpenSpec.upto geoGrowsSpec)) geoGrowsUptoCard

/-- THE SECOND FORM's CARD OF 'bolelaw07.GeoReads'. -/
def geoReadsUptoCard : Claim7 := { stood := { row := geoReadsUptoRow, standIns := [], harness := (true, "2c5694447c6415e7180b803a622625602c60826c128d64dbe97f99becd57e67b"), looks := false }, kinds := [], alts := [], laidByText := true, laidKinds := [.data, .data], laidTests := true, laidLooks := .later }
def GeoReadsUptoCardSaid : Prop := Claim7.holds Tryd.pinned (.plain (OpenSpec.upto geoReadsSpec)) geoReadsUptoCard

/-- THE SECOND FORM's CARD OF 'bolelaw07.GeoOwn'. -/
def geoOwnUptoCard : Claim7 := { stood := { row := geoOwnUptoRow, standIns := [], harness := (true, "2c5694447c6415e7180b803a622625602c60826c128d64dbe97f99becd57e67b"), looks := false }, kinds := [], alts := [], laidByText := true, laidKinds := [.data, .data], laidTests := true, laidLooks := .later }
def GeoOwnUptoCardSaid : Prop := Claim7.holds Tryd.pinned (.plain (OpenSpec.upto geoOwnSpec)) geoOwnUptoCard

/-- THE SECOND FORM's CARD OF 'bolelaw07.GeoExact'. -/
def geoExactUptoCard : Claim7 := { stood := { row := geoExactUptoRow, standIns := [], harness := (true, "2c5694447c6415e7180b803a622625602c60826c128d64dbe97f99becd57e67b"), looks := false }, kinds := [], alts := [], laidByText := true, laidKinds := [.data, .data], laidTests := true, laidLooks := .later }
def GeoExactUptoCardSaid : Prop := Claim7.holds Tryd.pinned (.plain (OpenSpec.upto geoExactSpec)) geoExactUptoCard

/-- THE SECOND FORM's CARD OF 'bolelaw07.GeoLays'. -/
def geoLaysUptoCard : Claim7 := { stood := { row := geoLaysUptoRow, standIns := [], harness := (true, "2c5694447c6415e7180b803a622625602c60826c128d64dbe97f99becd57e67b"), looks := false }, kinds := [], alts := [], laidByText := true, laidKinds := [.data, .data], laidTests := true, laidLooks := .later }
def GeoLaysUptoCardSaid : Prop := Claim7.holds Tryd.pinned (.plain (OpenSpec.upto geoLaysSpec)) geoLaysUptoCard
end Rows
end Go.Proofs.YtaijakknhmagoaaDoor
