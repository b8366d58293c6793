/-
  THE WALK OF SumBursts: it answers true for every row of bytes, every place and every mask.
-/
import Derived.Test.YtjglffejoflpoaaDoorSumKnown
import Derived.Test.YtjglffejoflpoaaDoorRow
import Derived.Test.YtjglffejoflpoaaDoorBurst
set_option linter.unusedVariables false
set_option linter.unusedSimpArgs false
namespace Go.Proofs.YtjglffejoflpoaaDoor
open Go.RowKit
attribute [local go_sem] u32_wrap8 u32_wrap32 u32_xor u32_max u32_signed u32_not

theorem hide_known {w : World} (h : HalfAt w) : Hid (HalfAt w) := h

/-- The place is outside of the bytes: nothing is turned. -/
theorem bursts_out (A : Option Addr) (cap : Nat) (l : List UInt8) (at_ : Int) (mask : BitVec 32) (w : World) (hw : HalfAt w) (hA : Bytes w A l) (hc : A = none → cap = 0)
    (hm : l.length ≤ 140737488355328) (ho : at_ < 0 ∨ 8 * (l.length : Int) ≤ at_) :
    Calls Tryd.prog 7 #[.slice A l.length cap, .int .i64 at_, .int .u32 (n32 mask)] w fun e w' => e = .returned (.bool true) ∧ Below w.heap.size w w' := by
  have hG := hw.lt
  have HW := Lib.hid hw
  have HA := Lib.hid hA
  have HC := Lib.hid hc
  clear hw hA hc
  go_enter Tryd.func7, Tryd.ntmps7
  go_wp2_with fail
  refine (known_any _ HW.out).mono ?_
  rintro e w1 ⟨rfl, hb1⟩
  have hs1 := hb1.size
  have HW1 := Lib.hid (HW.out.below hb1 hG)
  have HA1 := Lib.hid (HA.out.later hb1)
  go_wp2_with (at_builtin; refine wpList_append_u8 rfl (.tmp 13) (.tmp 14) rfl w.heap.size (some ⟨w1.heap.size, 0, none⟩) 0 [] rfl (Mine.empty w1 hs1) A cap l rfl HC.out (HA1.out.later (below_new w1 _)) (by simpa using hm) (by simp; omega) ?_; intro A2 cap2 w2 hm2 hg2 hb2)
  have hm2 : Mine w2 w.heap.size A2 cap2 l := hm2
  obtain ⟨hb3, hs2⟩ := below_over hb1 hs1 hb2
  have HW2 := Lib.hid (HW.out.below hb3 hG)
  have HA2 := Lib.hid (HA.out.later hb3)
  clear HW1 HA1 hg2 hb1 hb2
  go_loop [8, 9] (fun x i => ∃ k : Nat, k ≤ 32 ∧ i = .int .i64 k ∧ x = .bool false) (fun _ i => 32 - (intOf i).toNat)
  case atStart => exact ⟨0, by omega, rfl, rfl⟩
  case round =>
    obtain ⟨k, hk, rfl, rfl⟩ := hrel
    by_cases hk2 : k < 32
    · by_cases hneg : at_ < 0
      · go_wp2_with fail
        go_round
        case rel => exact ⟨k + 1, by omega, by go_num, rfl⟩
        case measure => simp [intOf]; omega
      · have hge : 8 * (l.length : Int) ≤ at_ := by omega
        go_wp2_with fail
        go_round
        case rel => exact ⟨k + 1, by omega, by go_num, rfl⟩
        case measure => simp [intOf]; omega
    · go_wp2_with fail
      refine (of_b _ _ l _ HW2.out hm2.bytes (by omega)).mono ?_
      rintro e w4 ⟨rfl, hb4⟩
      have hb5 := hb3.trans (hb4.mono hb3.size)
      go_wp2_with fail
      refine (of_b _ _ l _ (HW.out.below hb5 hG) (HA.out.later hb5) (by omega)).mono ?_
      rintro e w5 ⟨rfl, hb6⟩
      have hb7 := hb5.trans (hb6.mono hb5.size)
      go_wp2_with fail
      go_ret
      exact ⟨rfl, hb7⟩

theorem below_put {B : Nat} {w w1 : World} (h : Below B w w1) {g : Nat} (hg : B ≤ g) (k : Nat) (u : Value) : Below B w (w1.setCell ⟨g, k, none⟩ u) := h.setCell hg u

set_option maxHeartbeats 1000000 in
/-- The place lies in the bytes. -/
theorem bursts_in (A : Option Addr) (cap : Nat) (l : List UInt8) (at_ : Nat) (mask : BitVec 32) (w : World) (hw : HalfAt w) (hA : Bytes w A l) (hc : A = none → cap = 0)
    (hm : l.length ≤ 140737488355328) (ho : at_ < 8 * l.length) :
    Calls Tryd.prog 7 #[.slice A l.length cap, .int .i64 (at_ : Int), .int .u32 (n32 mask)] w fun e w' => e = .returned (.bool true) ∧ Below w.heap.size w w' := by
  have hG := hw.lt
  have HW := Lib.hid hw
  have HA := Lib.hid hA
  have HC := Lib.hid hc
  clear hw hA hc
  go_enter Tryd.func7, Tryd.ntmps7
  go_wp2_with fail
  refine (known_any _ HW.out).mono ?_
  rintro e w1 ⟨rfl, hb1⟩
  have hs1 := hb1.size
  have HA1 := Lib.hid (HA.out.later hb1)
  go_wp2_with (at_builtin; refine wpList_append_u8 rfl (.tmp 13) (.tmp 14) rfl w.heap.size (some ⟨w1.heap.size, 0, none⟩) 0 [] rfl (Mine.empty w1 hs1) A cap l rfl HC.out (HA1.out.later (below_new w1 _)) (by simpa using hm) (by simp; omega) ?_; intro A2 cap2 w2 hm2 hg2 hb2)
  have hm2 : Mine w2 w.heap.size A2 cap2 l := hm2
  obtain ⟨hb3, hs2⟩ := below_over hb1 hs1 hb2
  obtain ⟨g, rfl, hgB, hgl⟩ := hm2.form (by omega)
  clear HA1 hg2 hb1 hb2
  go_loopw [8, 9] (fun x i wr => ∃ k : Nat, k ≤ 32 ∧ i = .int .i64 k ∧ x = .bool (Crc.burstAny l at_ mask k) ∧ Mine wr w.heap.size (some ⟨g, 0, none⟩) cap2 (Crc.bursts l at_ mask k) ∧ Below w.heap.size w wr) (fun _ i _ => 32 - (intOf i).toNat)
  case atStart => exact ⟨0, by omega, rfl, rfl, hm2, hb3⟩
  case round =>
    obtain ⟨k, hk, rfl, rfl, hM, hB⟩ := hrel
    by_cases hk2 : k < 32
    · by_cases hin : at_ + k < 8 * l.length
      · cases hbit : Crc.bit mask k
        · have HB := Lib.hid hbit
          have hz := u32_bit0 mask k hbit
          have hs := u32_shr0 mask k
          clear hbit
          go_wp2_with fail
          go_roundw
          case rel => exact ⟨k + 1, by omega, by go_num, by rw [Crc.burstAny_no _ _ _ _ (fun h => by have := h.2; rw [HB.out] at this; cases this)], by rw [Crc.bursts_no _ _ _ _ (fun h => by have := h.2; rw [HB.out] at this; cases this)]; exact hM, hB⟩
          case measure => simp [intOf]; omega
        · have HB := Lib.hid hbit
          have hz := u32_bit1 mask k hbit
          have hs := u32_shr0 mask k
          clear hbit
          have hlen := Crc.bursts_length l at_ mask k
          have hkk : (at_ + k) / 8 < (Crc.bursts l at_ mask k).length := by omega
          have hc := hM.cell hkk
          have hf := hM.free ((at_ + k) / 8)
          have hp := u8_pow ((at_ + k) % 8) (Nat.mod_lt _ (by decide))
          rw [IntKind.wrap_u8] at hp
          have hx := u8_xor (Crc.bursts l at_ mask k)[(at_ + k) / 8] (Crc.bit8 ((at_ + k) % 8))
          have hput := hM.put ((at_ + k) / 8) ((Crc.bursts l at_ mask k)[(at_ + k) / 8] ^^^ (Crc.bit8 ((at_ + k) % 8)))
          have hset : (Crc.bursts l at_ mask k).set ((at_ + k) / 8) ((Crc.bursts l at_ mask k)[(at_ + k) / 8] ^^^ (Crc.bit8 ((at_ + k) % 8))) = Crc.bursts l at_ mask (k + 1) := by
            rw [Crc.bursts_yes _ _ _ _ hin HB.out]
            unfold Crc.turnBit
            rw [List.getD_eq_getElem?_getD, List.getElem?_eq_getElem hkk]
            rfl
          rw [hset] at hput
          have HP := Lib.hid hput
          clear hset hput
          go_wp2_with fail
          go_region
          go_wp2_with fail
          go_roundw
          case rel => exact ⟨k + 1, by omega, by go_num, by rw [Crc.burstAny_yes _ _ _ _ hin HB.out], HP.out, hB.drew.setCell hgB _⟩
          case measure => simp [intOf]; omega
      · go_wp2_with fail
        go_roundw
        case rel => exact ⟨k + 1, by omega, by go_num, by rw [Crc.burstAny_no _ _ _ _ (fun h => hin h.1)], by rw [Crc.bursts_no _ _ _ _ (fun h => hin h.1)]; exact hM, hB⟩
        case measure => simp [intOf]; omega
    · have e : k = 32 := by omega
      have htold := (show ∀ n, n = 32 → (Crc.crc (Crc.bursts l at_ mask n) = Crc.crc l ↔ Crc.burstAny l at_ mask n = false) from fun n hn => by subst hn; exact Crc.burst_told l at_ mask) k e
      have hlen := Crc.bursts_length l at_ mask k
      have hM' := hM.bytes
      have HM := Lib.hid hM'
      have hend : ((n32 (Crc.crc (Crc.bursts l at_ mask k)) == n32 (Crc.crc l)) == !Crc.burstAny l at_ mask k) = true := by
        rw [n32_beq]
        cases hb : Crc.burstAny l at_ mask k
        · simp [htold.2 hb]
        · simp; intro h; rw [htold.1 h] at hb; cases hb
      have HE := Lib.hid hend
      clear e htold hM' hend
      go_wp2_with fail
      rw [← hlen]
      refine (of_b _ _ (Crc.bursts l at_ mask k) _ (HW.out.below hB hG) HM.out (by omega)).mono ?_
      rintro e w4 ⟨rfl, hb4⟩
      have hb5 := hB.trans (hb4.mono hB.size)
      go_wp2_with fail
      refine (of_b _ _ l _ (HW.out.below hb5 hG) (HA.out.later hb5) (by omega)).mono ?_
      rintro e w5 ⟨rfl, hb6⟩
      have hb7 := hb5.trans (hb6.mono hb5.size)
      generalize Crc.crc (Crc.bursts l at_ mask k) = c1 at HE ⊢
      generalize Crc.crc l = c2 at HE ⊢
      generalize Crc.burstAny l at_ mask k = c3 at HE ⊢
      have hend := HE.out
      go_wp2_with fail
      go_ret
      exact ⟨rfl, hb7⟩

theorem bursts_any (A : Option Addr) (cap : Nat) (l : List UInt8) (at_ : Int) (mask : BitVec 32) (w : World) (hw : HalfAt w) (hA : Bytes w A l) (hc : A = none → cap = 0)
    (hm : l.length ≤ 140737488355328) :
    Calls Tryd.prog 7 #[.slice A l.length cap, .int .i64 at_, .int .u32 (n32 mask)] w fun e w' => e = .returned (.bool true) ∧ Below w.heap.size w w' := by
  by_cases h : at_ < 0 ∨ 8 * (l.length : Int) ≤ at_
  · exact bursts_out A cap l at_ mask w hw hA hc hm h
  · obtain ⟨n, rfl⟩ := Int.eq_ofNat_of_zero_le (a := at_) (by omega)
    exact bursts_in A cap l n mask w hw hA hc hm (by omega)
end Go.Proofs.YtjglffejoflpoaaDoor
