/-
  A WORLD FOR THE WITNESS: the settled one, the table of widths holding what its initialiser lays.
-/
import Derived.Test.YtnknoikmleiopaaDoorWidths
set_option linter.unusedVariables false
set_option linter.unusedSimpArgs false
namespace Go.Proofs.YtnknoikmleiopaaDoor
open Go.ChangeShapes Go.WideShapes Go.ChangeAt Go.RowKit

noncomputable def laidWorld (os : Os) : World :=
  { World.holding Tryd.prog os ⟨#[], #[], []⟩ with heap := (World.holding Tryd.prog os ⟨#[], #[], []⟩).heap.modify 0 fun
      | .cells _ t frozen => .cells (widthBits.map Value.bool).toArray t frozen
      | o => o }
end Go.Proofs.YtnknoikmleiopaaDoor
