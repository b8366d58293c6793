/-
  A NUMBER OF BLOCKS THAT MAY BE, MADE OF ANY NUMBER.
-/
import Derived.Test.YtaijakknhmagoaaDoorGeoK
set_option linter.unusedVariables false
set_option linter.unusedSimpArgs false
namespace Go.Proofs.YtaijakknhmagoaaDoor
open Go.RowKit Rec Gp

/-- the number of blocks that a number is made -/
theorem made_num (k : Int) (h0 : -9223372036854775808 ≤ k) (h1 : k ≤ 9223372036854775807) : ∃ u m n : Nat, IntKind.u64.wrap k = (u : Int) ∧ (u : Int) % 16257 = (m : Int) ∧ (m : Int) ≤ 16256 ∧ 128 + m = n ∧ Disk n := by
  refine ⟨(k % 18446744073709551616).toNat, (k % 18446744073709551616).toNat % 16257, 128 + (k % 18446744073709551616).toNat % 16257, ?_, by omega, by omega, rfl, ?_⟩
  · by_cases h : 0 ≤ k
    · rw [IntWalk.u64_in _ (by omega)]; omega
    · rw [show IntKind.u64.wrap k = k % 18446744073709551616 from rfl]; omega
  · unfold Disk; omega

end Go.Proofs.YtaijakknhmagoaaDoor
