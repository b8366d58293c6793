/-
  THE TABLE OF WIDTHS: what the row's list gives.
-/
import Derived.Test.YtimddchgmocdaaaDoorFrame
import Derived.Test.YtimddchgmocdaaaDoorRecW
import Derived.Lib.LaidTab
set_option linter.unusedVariables false
set_option linter.unusedSimpArgs false
namespace Go.Proofs.YtimddchgmocdaaaDoor
open Go.ChangeShapes Go.WideShapes Go.ChangeAt Go.RowKit

def widthBits : List Bool := [false, true, true, false, true, false, false, false, true]
theorem width_is : ∀ i : Fin 9, widthBits[i.val]? = some (Rec.isW (i.val : Int)) := by decide +kernel
theorem gWidths : Tryd.prog.globalNamed "bole/rec.widths" = some 0 := by kernel_rfl
theorem gWidthsType : (Tryd.prog.globals[0]?).map (·.type) = some 138 := by kernel_rfl
theorem cellsWidths : Tryd.prog.cellsOf 138 = 9 := by kernel_rfl
theorem cellsBool : Tryd.prog.cellsOf 4 = 1 := by kernel_rfl

def boolData {H : Type} (bs : List Bool) : DataW H := .agg (bs.map fun b => .lit (.bool b))
theorem cells_of_bools {H : Type} {enc : TypeId × Value → H} {P : Program} {w : World} {base : Nat} {sp : Nat → Bool} {held : Bool} {fuel : Nat} {t e : TypeId} {n : Nat} {cs : List Value} {bs : List Bool} {p : List MemPlace}
    (ht : P.underlying t = some (.array n e)) (he : P.underlying e = some .bool) (hce : P.cellsOf e = 1) (hct : P.cellsOf t = n)
    (h : DataW.trod enc P w base sp held fuel t cs = some (boolData bs, p)) : cs = bs.map Value.bool := by
  cases fuel with
  | zero => simp [DataW.trod] at h
  | succ fuel =>
    simp only [DataW.trod, ht, hce, hct, Nat.mul_one] at h
    split at h
    · rename_i hl
      obtain ⟨xs, hm, hx⟩ := Option.map_eq_some_iff.1 h
      have hxs : xs.map (·.1) = bs.map fun b => (DataW.lit (.bool b) : DataW H) := by
        have := congrArg Prod.fst hx
        simpa [boolData] using this
      have hxl : xs.length = n := by simpa using Lib.mapM_length hm
      have hzl : bs.length = n := by
        have := congrArg List.length hxs
        simp at this
        omega
      apply List.ext_getElem?
      intro i
      by_cases hi : i < n
      · obtain ⟨b, hb, hf⟩ := Lib.mapM_at hm i i (by simp [hi])
        obtain ⟨z, hc, rfl⟩ := DataW.trod_bool he hf
        have h1 : cs[i]? = some (.bool z) := by
          have := congrArg (·[0]?) hc
          simpa [List.getElem?_take, List.getElem?_drop] using this
        have h2 : (xs.map (·.1))[i]? = some (DataW.lit (.bool z) : DataW H) := by simp [hb]
        rw [hxs] at h2
        simp only [List.getElem?_map, Option.map_eq_some_iff, DataW.lit.injEq, Lit.bool.injEq] at h2
        obtain ⟨z', hz', rfl⟩ := h2
        simp [h1, hz']
      · rw [List.getElem?_eq_none (by omega), List.getElem?_eq_none (by simp; omega)]
    · cases h
theorem widthsAt_of {W : World} {rest : List (String × DataW Unit)} (h : laidMet Tryd.prog (("bole/rec.widths", boolData widthBits) :: rest) W) : WidthsAt W := by
  obtain ⟨ps, ⟨g', t', cs, fuel, p, q, hg', ht', hvar, hd, _, _⟩, _⟩ := h
  obtain rfl := Option.some.inj (gWidths.symm.trans hg')
  obtain rfl := Option.some.inj (gWidthsType.symm.trans ht')
  have hc := cells_of_bools Tryd.underlying138 Tryd.underlying4 cellsBool cellsWidths hd
  intro i hi
  have h1 := World.var?_cell gWidths hvar i
  rw [h1]
  have h2 : cs[i]? = cs.toList[i]? := by simp
  rw [h2, hc, List.getElem?_map, width_is ⟨i, hi⟩]
  rfl
end Go.Proofs.YtimddchgmocdaaaDoor
