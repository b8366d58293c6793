/-
  A WORLD FOR THE WITNESS: the settled one.
-/
import Derived.Test.YtlpochabgdcidaaFrame
set_option linter.unusedVariables false
set_option linter.unusedSimpArgs false
namespace Go.Proofs.Ytlpochabgdcidaa
open Go.ChangeShapes Go.WideShapes Go.ChangeAt Go.RowKit

noncomputable def plainWorld (os : Os) : World := World.holding Try.prog os ⟨#[], #[], []⟩
end Go.Proofs.Ytlpochabgdcidaa
