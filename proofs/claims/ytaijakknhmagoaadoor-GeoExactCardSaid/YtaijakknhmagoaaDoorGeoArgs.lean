/-
  AN ARGUMENT OF TWO INTEGERS, WITH THEIR BOUNDS.
-/
import Derived.Test.YtaijakknhmagoaaDoorArgs
set_option linter.unusedVariables false
set_option linter.unusedSimpArgs false
namespace Go.Proofs.YtaijakknhmagoaaDoor
open Go.ChangeShapes Go.WideShapes Go.ChangeAt Go.RowKit

theorem open_two_b {H : Type} {enc : TypeId × Value → H} {W : World} {base : Nat} {v : Value} {d : DataW H} {p : List MemPlace} (hv : Value.okWide Tryd.prog W .any base 33 v)
    (h : DataW.Trod enc Tryd.prog W 0 (fun _ => true) true 33 v d p) : ∃ x y : Int, v = .agg #[.int .i64 x, .int .i64 y] ∧ (-9223372036854775808 ≤ x ∧ x ≤ 9223372036854775807) ∧ (-9223372036854775808 ≤ y ∧ y ≤ 9223372036854775807) := by
  simp only [Value.okWide, Tryd.underlying33] at hv
  obtain ⟨cs, rfl, hs, _⟩ := hv
  rw [cellsArr] at hs
  obtain ⟨c0, c1, rfl⟩ := Go.Joins.array2 hs
  obtain ⟨fuel, hf⟩ := h
  obtain ⟨xs, m, _, _, _, hl, hi⟩ := DataW.trod_array Tryd.underlying33 hf
  have h0 := hi 0 (by decide)
  have h1 := hi 1 (by decide)
  simp only [Value.cells, cellsInt] at h0 h1
  rw [List.getElem?_eq_getElem (by omega)] at h0 h1
  obtain ⟨x, ex, _, wx⟩ := DataW.trod_int Tryd.underlying3 h0
  obtain ⟨y, ey, _, wy⟩ := DataW.trod_int Tryd.underlying3 h1
  simp at ex ey
  exact ⟨x, y, by rw [ex, ey], bounds_i64 wx, bounds_i64 wy⟩
end Go.Proofs.YtaijakknhmagoaaDoor
