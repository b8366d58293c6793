/-
  A WORLD FOR THE WITNESS: the settled one, the table of widths and the table of sixteen words holding what their initialisers lay.
-/
import Derived.Test.YtimddchgmocdaaaDoorWidths
import Derived.Test.YtimddchgmocdaaaDoorHalf
set_option linter.unusedVariables false
set_option linter.unusedSimpArgs false
namespace Go.Proofs.YtimddchgmocdaaaDoor
open Go.ChangeShapes Go.WideShapes Go.ChangeAt Go.RowKit

theorem laidMet_behind {P : Program} {w : World} {x : String × DataW Unit} {r : List (String × DataW Unit)} (h : laidMet P (x :: r) w) : laidMet P r w := by
  obtain ⟨n, d⟩ := x
  obtain ⟨ps, ⟨g, t, cs, fuel, p, q, h1, h2, h3, h4, h5, rfl⟩, hnd, hc⟩ := h
  exact ⟨q, h5, (List.nodup_append.1 hnd).2.1, fun b off hm => hc b off (List.mem_append_right _ hm)⟩

noncomputable def laidWorld (os : Os) : World :=
  { World.holding Tryd.prog os ⟨#[], #[], []⟩ with heap := (((World.holding Tryd.prog os ⟨#[], #[], []⟩).heap.modify 0 fun
      | .cells _ t frozen => .cells (widthBits.map Value.bool).toArray t frozen
      | o => o).modify 1 fun
      | .cells _ t frozen => .cells (halves.map fun z => Value.int .u32 z).toArray t frozen
      | o => o) }
end Go.Proofs.YtimddchgmocdaaaDoor
