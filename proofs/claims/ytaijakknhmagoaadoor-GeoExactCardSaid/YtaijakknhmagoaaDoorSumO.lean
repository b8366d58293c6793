/-
  THE TABLE OF SIXTEEN WORDS, AND THE WALKS OF sum.step AND sum.Of (for a seat that reaches no more of sum).
-/
import Derived.Test.YtaijakknhmagoaaDoorProg
import Derived.Test.YtaijakknhmagoaaDoorCrc
import Derived.Test.YtaijakknhmagoaaDoorBits
import Derived.Test.YtaijakknhmagoaaDoorMem
import Derived.WalkKit
import Derived.Lib.Hide
set_option linter.unusedVariables false
set_option linter.unusedSimpArgs false
namespace Go.Proofs.YtaijakknhmagoaaDoor
open Go.RowKit

/-- the table of sixteen words lies in its variable -/
def HalfAt (w : World) : Prop := ∀ i, i < 16 → w.cell? ⟨1, i, none⟩ = some (.int .u32 (n32 (Crc.half i)))

theorem HalfAt.lt {w : World} (h : HalfAt w) : 1 < w.heap.size := block_lt_of_cell (h 0 (by decide))
theorem HalfAt.below {B : Nat} {w w' : World} (h : HalfAt w) (hb : Below B w w') (hB : 1 < B) : HalfAt w' := fun i hi => (hb.cell (p := ⟨1, i, none⟩) hB).trans (h i hi)

attribute [local go_sem] u32_wrap8 u32_wrap32 u32_xor u32_xor8 u32_and15 u32_quart u32_max u32_signed u32_not Crc.half_low Crc.step_lay

set_option maxHeartbeats 400000 in
theorem step_any (v : BitVec 32) (b : UInt8) (w : World) (hw : HalfAt w) :
    Calls Tryd.prog 30 #[.int .u32 (n32 v), .int .u8 (n8 b)] w fun e w' => e = .returned (.int .u32 (n32 (Crc.step v b))) ∧ w = w' := by
  have l1 := Crc.low4_lt (Crc.lay v b)
  have h1 := hw _ l1
  have l2 := Crc.low4_lt (Crc.ones 4 (Crc.lay v b))
  have h2 := hw _ l2
  clear hw
  go_enter Tryd.func30, Tryd.ntmps30
  go_wp2_with fail
  go_ret
  exact ⟨rfl, rfl⟩

theorem n32_all : (4294967295 : Int) = n32 (Crc.start) := by decide

set_option maxHeartbeats 400000 in
theorem of_any (A : Option Addr) (cap : Nat) (l : List UInt8) (w : World) (hw : HalfAt w) (hl : Bytes w A l) (hm : l.length ≤ 9223372036854775807) :
    Calls Tryd.prog 23 #[.slice A l.length cap] w fun e w' => e = .returned (.int .u32 (n32 (Crc.crc l))) ∧ w = w' := by
  go_enter Tryd.func23, Tryd.ntmps23
  go_wp2_with fail
  go_loop [3, 8] (fun v i => ∃ k : Nat, k ≤ l.length ∧ i = .int .i64 k ∧ v = .int .u32 (n32 (Crc.row (Crc.start) (l.take k)))) (fun _ i => l.length - (intOf i).toNat)
  case atStart => exact ⟨0, Nat.zero_le _, rfl, by rw [n32_all]; rfl⟩
  case round =>
    obtain ⟨k, hk, rfl, rfl⟩ := hrel
    by_cases hlt : k < l.length
    · obtain ⟨b, off, rfl, hc⟩ := hl.at_ hlt
      go_wp2_with (go_at_call 30; refine (step_any _ _ _ hw).mono ?_; rintro e w' ⟨rfl, rfl⟩)
      go_round
      case rel => exact ⟨k + 1, by omega, by go_num, by rw [take_snoc l k hlt, Crc.row_snoc]⟩
      case measure => simp [intOf]; omega
    · go_wp2_with fail
      go_ret
      exact ⟨ret_int (by rw [List.take_of_length_le (by omega)]; rfl), rfl⟩
end Go.Proofs.YtaijakknhmagoaaDoor
