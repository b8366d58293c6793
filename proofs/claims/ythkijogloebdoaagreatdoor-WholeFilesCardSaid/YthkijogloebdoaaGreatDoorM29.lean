/-
  WholeFiles, the texts Half LaidG: lemmas for the proof that three files on one disk are plain rows of bytes. No conditions.
-/
import Derived.Test.YthkijogloebdoaaGreatDoorM28
import Derived.Test.YthkijogloebdoaaGreatDoorM06
import Derived.Lib.LaidTab
set_option linter.unusedVariables false
set_option linter.unusedSimpArgs false
section
namespace Go.Proofs.YthkijogloebdoaaGreatDoor
open Go.ChangeShapes Go.WideShapes Go.ChangeAt Go.RowKit
def halves:List Int := [0,498536548,997073096,651767980,1994146192,1802195444,1303535960,1342533948,3988292384,4027552580,3604390888,3412177804,2607071920,2262029012,2685067896,3183342108]
theorem half_is:∀ i:Fin 16,(halves[i.val]?.getD 0)=n32 (Crc.half i.val):=by decide +kernel
theorem gHalf : Tryz.prog.globalNamed "bole/sum.half" = some 1 := by kernel_rfl
theorem gHalfType:(Tryz.prog.globals[1]?).map (·.type)=some 239:=by kernel_rfl
theorem cellsHalf:Tryz.prog.cellsOf 239=16:=by kernel_rfl
theorem cellsU32:Tryz.prog.cellsOf 199=1:=by kernel_rfl
theorem halfAt_of {W : World} (h : Lib.TabIs Tryz.prog W "bole/sum.half" .u32 halves) : HalfAt W := by
  intro i hi
  have:=h.cell gHalf i (by simp [halves]; omega)
  have e:=half_is ⟨i,hi⟩
  simp only at e
  rw [this]
  rw [← e]
  simp
end Go.Proofs.YthkijogloebdoaaGreatDoor
end
section
namespace Go.Proofs.YthkijogloebdoaaGreatDoor
open Go.ChangeShapes Go.WideShapes Go.ChangeAt Go.RowKit
theorem laidMet_behind {P:Program}{w:World}{x:String × DataW Unit}{r:List (String × DataW Unit)}(h:laidMet P (x :: r) w):laidMet P r w:=by
  obtain ⟨n,d⟩:=x
  obtain ⟨ps,⟨g,t,cs,fuel,p,q,h1,h2,h3,h4,h5,rfl⟩,hnd,hc⟩:=h
  exact ⟨q,h5,(List.nodup_append.1 hnd).2.1,fun b off hm => hc b off (List.mem_append_right _ hm)⟩
noncomputable def laidWorld (os:Os):World :=
  { World.holding Tryz.prog os ⟨#[],#[],[]⟩ with heap:=(((World.holding Tryz.prog os ⟨#[],#[],[]⟩).heap.modify 0 fun
      | .cells _ t frozen => .cells (widthBits.map Value.bool).toArray t frozen
      | o => o).modify 1 fun
      | .cells _ t frozen => .cells (halves.map fun z => Value.int .u32 z).toArray t frozen
      | o => o) }
end Go.Proofs.YthkijogloebdoaaGreatDoor
end
