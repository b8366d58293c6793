/-
  THE TABLE OF SIXTEEN WORDS: what the row's list gives; the world of the witness.
-/
import Derived.Test.YtimddchgmocdaaaDoorFrame
import Derived.Test.YtimddchgmocdaaaDoorSumJ
import Derived.Lib.LaidTab
set_option linter.unusedVariables false
set_option linter.unusedSimpArgs false
namespace Go.Proofs.YtimddchgmocdaaaDoor
open Go.ChangeShapes Go.WideShapes Go.ChangeAt Go.RowKit

def halves : List Int := [0, 498536548, 997073096, 651767980, 1994146192, 1802195444, 1303535960, 1342533948, 3988292384, 4027552580, 3604390888, 3412177804, 2607071920, 2262029012, 2685067896, 3183342108]
theorem half_is : ∀ i : Fin 16, (halves[i.val]?.getD 0) = n32 (Crc.half i.val) := by decide +kernel
theorem gHalf : Tryd.prog.globalNamed "bole/sum.half" = some 1 := by kernel_rfl
theorem gHalfType : (Tryd.prog.globals[1]?).map (·.type) = some 149 := by kernel_rfl
theorem cellsHalf : Tryd.prog.cellsOf 149 = 16 := by kernel_rfl
theorem cellsU32 : Tryd.prog.cellsOf 102 = 1 := by kernel_rfl
theorem halfAt_of {W : World} (h : Lib.TabIs Tryd.prog W "bole/sum.half" .u32 halves) : HalfAt W := by
  intro i hi
  have := h.cell gHalf i (by simp [halves]; omega)
  have e := half_is ⟨i, hi⟩
  simp only at e
  rw [this]
  rw [← e]
  simp

end Go.Proofs.YtimddchgmocdaaaDoor
