/-
  THE WALKS OF THE DOCUMENT'S OWN ANSWER (boleref01): it computes what the plain law says, bit by bit.
-/
import Derived.Test.YtaijakknhmagoaaDoorSumO
import Derived.Deep.RegionHeld3
import Derived.Deep.MidRow
set_option linter.unusedVariables false
set_option linter.unusedSimpArgs false
namespace Go.Proofs.YtaijakknhmagoaaDoor
open Go.RowKit
attribute [local go_sem] u32_wrap8 u32_wrap32 u32_xor u32_xor8 u32_max u32_signed u32_poly u32_ones

theorem u32_even (v : BitVec 32) : n32 v % 2 = ((v.getLsbD 0).toNat : Int) := by
  unfold n32
  simp [BitVec.getLsbD, Nat.testBit_zero]
  cases h : decide (v.toNat % 2 = 1) <;> simp at h <;> simp <;> omega
theorem u32_shr1 (v : BitVec 32) : n32 v / 2 = n32 (Crc.shrk v 1) := u32_shr0 v 1

set_option maxHeartbeats 400000 in
theorem one_any (v : BitVec 32) (w : World) :
    Calls Tryd.prog 31 #[.int .u32 (n32 v)] w fun e w' => e = .returned (.int .u32 (n32 (Crc.one v))) ∧ w = w' := by
  have h0 := u32_even v
  have h2 := u32_shr1 v
  have h3 := n32_lo v
  have h4 := n32_hi v
  cases hb : v.getLsbD 0
  · have e : Crc.one v = Crc.shrk v 1 := by unfold Crc.one; rw [hb]; rfl
    have E := Lib.hid e
    rw [hb] at h0
    have h0 : n32 v % 2 = 0 := h0
    clear hb e
    go_enter Tryd.func31, Tryd.ntmps31
    go_wp2_with fail
    go_ret
    exact ⟨ret_int (by rw [E.out]; try rw [h2]), rfl⟩
  · have e : Crc.one v = Crc.shrk v 1 ^^^ Crc.poly := by unfold Crc.one; rw [hb]; rfl
    have E := Lib.hid e
    rw [hb] at h0
    have h0 : n32 v % 2 = 1 := h0
    clear hb e
    go_enter Tryd.func31, Tryd.ntmps31
    go_wp2_with fail
    go_ret
    exact ⟨ret_int (by rw [E.out]; try rw [h2]), rfl⟩

set_option maxHeartbeats 800000 in
theorem ref_of_any (A : Option Addr) (cap : Nat) (l : List UInt8) (w : World) (hl : Bytes w A l) (hm : l.length ≤ 9223372036854775807) :
    Calls Tryd.prog 26 #[.slice A l.length cap] w fun e w' => e = .returned (.int .u32 (n32 (Crc.crc l))) ∧ w = w' := by
  go_enter Tryd.func26, Tryd.ntmps26
  go_wp2_with fail
  go_loop [3, 4, 5] (fun v i _ => ∃ k : Nat, k ≤ l.length ∧ i = .int .i64 k ∧ v = .int .u32 (n32 (Crc.row (Crc.start) (l.take k)))) (fun _ i _ => l.length - (intOf i).toNat)
  case atStart => exact ⟨0, Nat.zero_le _, rfl, by rw [n32_all]; rfl⟩
  case round =>
    obtain ⟨k, hk, rfl, rfl⟩ := hrel
    by_cases hlt : k < l.length
    · obtain ⟨b, off, rfl, hc⟩ := hl.at_ hlt
      go_wp2_with fail
      go_loop [3, 5] (fun v i => ∃ j : Nat, j ≤ 8 ∧ i = .int .i64 j ∧ v = .int .u32 (n32 (Crc.ones j (Crc.lay (Crc.row (Crc.start) (l.take k)) l[k])))) (fun _ i => 8 - (intOf i).toNat)
      case atStart => exact ⟨0, Nat.zero_le _, rfl, rfl⟩
      case round =>
        obtain ⟨j, hj, rfl, rfl⟩ := hrel
        by_cases hlj : j < 8
        · go_wp2_with (go_at_call 31; refine (one_any _ _).mono ?_; rintro e w' ⟨rfl, rfl⟩)
          go_round
          case rel => exact ⟨j + 1, by omega, by go_num, by rw [Crc.ones_succ']⟩
          case measure => simp [intOf]; omega
        · go_wp2_with fail
          go_round
          case rel => exact ⟨k + 1, by omega, by go_num, by rw [take_snoc l k hlt, Crc.row_snoc, show j = 8 by omega]; rfl⟩
          case measure => simp [intOf]; omega
    · go_wp2_with fail
      go_ret
      exact ⟨ret_int (by rw [List.take_of_length_le (by omega)]; rfl), rfl⟩
end Go.Proofs.YtaijakknhmagoaaDoor
