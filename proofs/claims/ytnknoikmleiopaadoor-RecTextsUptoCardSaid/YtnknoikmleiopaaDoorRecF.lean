/-
  THE WALK OF 'fixed' (bolelaw02): what the document tells of eight bytes.
-/
import Derived.Test.YtnknoikmleiopaaDoorRecS
set_option linter.unusedVariables false
set_option linter.unusedSimpArgs false
namespace Go.Proofs.YtnknoikmleiopaaDoor
open Go.RowKit Rec

/-- a literal of bytes is a row of the call's own -/
theorem mine_new (w : World) (base : Nat) (hb : base ≤ w.heap.size) (l : List UInt8) (hm : l.length ≤ maxLen) : Mine (w.alloc (.cells (u8s l) 5)) base (some ⟨w.heap.size, 0, none⟩) l.length l := by
  refine ⟨by rw [cellsOf8_length, Nat.mul_one], .inr ⟨w.heap.size, l.length, u8s l, rfl, hb, heap_alloc_new w _, Nat.le_refl _, hm, by rw [u8s_size, Nat.mul_one], ?_⟩⟩
  rw [Nat.mul_one]
  have : (u8s l).toList = cellsOf8 l := by simp [u8s, cellsOf8]
  rw [this, List.take_of_length_le (by rw [cellsOf8_length]; omega)]

def fx0 : List UInt8 := [1, 2, 3, 4, 0, 0, 255, 128]
def fx1 : List UInt8 := [1, 205, 171, 4, 0, 0, 255, 128]
def fx2 : List UInt8 := [1, 205, 171, 4, 97, 98, 0, 128]
theorem fx_get : getV fx0 0 4 = 67305985 ∧ getE fx0.length 0 4 = 0 := by decide +kernel
theorem fx_text : textV fx0 0 6 = [1, 2, 3, 4] ∧ textE fx0 0 6 = 0 := by decide +kernel
theorem fx_zero : zeroV fx0 4 2 = true ∧ zeroE fx0.length 4 2 = 0 := by decide +kernel
theorem fx_put : putE fx0.length 1 2 43981 = 0 ∧ putL fx0 1 2 43981 = fx1 := by decide +kernel
theorem fx_putText : putTextE fx1.length 4 3 [97, 98] = 0 ∧ putTextL fx1 4 3 [97, 98] = fx2 := by decide +kernel
theorem fx0_cells : #[Value.int .u8 1, .int .u8 2, .int .u8 3, .int .u8 4, .int .u8 0, .int .u8 0, .int .u8 255, .int .u8 128] = u8s fx0 := by rfl
theorem fx2_cells : #[Value.int .u8 1, .int .u8 205, .int .u8 171, .int .u8 4, .int .u8 97, .int .u8 98, .int .u8 0, .int .u8 128] = u8s fx2 := by rfl

theorem fx_get_any (A : Option Addr) (w : World) (hw : WidthsAt w) (hl : Bytes w A fx0) : Calls Tryd.prog 14 #[.slice A 8 8, .int .i64 0, .int .i64 4] w fun e w' => e = .returned (.tuple #[.int .u64 67305985, .int .i64 0]) ∧ w = w' := by
  have h := get_any A 8 fx0 0 4 w hw hl (by decide) (by decide) (by decide)
  rw [fx_get.1, fx_get.2] at h
  exact h
theorem fx_text_any (A : Option Addr) (w : World) (hl : Bytes w A fx0) : Calls Tryd.prog 10 #[.slice A 8 8, .int .i64 0, .int .i64 6] w fun e w' => e = .returned (.tuple #[.string ⟨#[1, 2, 3, 4]⟩, .int .i64 0]) ∧ Below w.heap.size w w' := by
  have h := text_any A 8 fx0 0 6 w hl (by decide) (by decide) (by decide) (by decide)
  rw [fx_text.1, fx_text.2] at h
  exact h
theorem fx_zero_any (A : Option Addr) (w : World) (hl : Bytes w A fx0) : Calls Tryd.prog 16 #[.slice A 8 8, .int .i64 4, .int .i64 2] w fun e w' => e = .returned (.tuple #[.bool true, .int .i64 0]) ∧ w = w' := by
  have h := zero_any A 8 fx0 4 2 w hl (by decide) (by decide) (by decide) (by decide)
  rw [fx_zero.1, fx_zero.2] at h
  exact h
theorem fx_put_any (base : Nat) (A : Option Addr) (w : World) (hw : WidthsAt w) (hM : Mine w base A 8 fx0) : Calls Tryd.prog 13 #[.slice A 8 8, .int .i64 1, .int .i64 2, .int .u64 43981] w fun e w' => e = .returned (.int .i64 0) ∧ Mine w' base A 8 fx1 ∧ w.grownBy w' (Value.slice A 8 8).ownBlock := by
  have h := put_any base A 8 fx0 [] 1 2 43981 w hw (by rw [List.append_nil]; exact hM) (by decide) (by decide) (by decide) (by decide)
  rw [fx_put.1, fx_put.2, List.append_nil] at h
  exact h
theorem fx_putText_any (base : Nat) (A : Option Addr) (w : World) (hb : base ≤ w.heap.size) (hM : Mine w base A 8 fx1) : Calls Tryd.prog 15 #[.slice A 8 8, .int .i64 4, .int .i64 3, .string ⟨#[97, 98]⟩] w fun e w' => e = .returned (.int .i64 0) ∧ Mine w' base A 8 fx2 ∧ w.grownBy w' (Value.slice A 8 8).ownBlock := by
  have h := putText_any base A 8 fx1 [] 4 3 [97, 98] w (by rw [List.append_nil]; exact hM) hb (by decide) (by decide) (by decide) (by decide)
  rw [fx_putText.1, fx_putText.2, List.append_nil] at h
  exact h
theorem fx_same_any (A B : Option Addr) (w : World) (hl : Bytes w A fx2) (hm : Bytes w B fx2) : Calls Tryd.prog 9 #[.slice A 8 8, .slice B 8 8] w fun e w' => e = .returned (.bool true) ∧ Below w.heap.size w w' := by
  have h := same_any A B 8 8 fx2 fx2 w hl hm (by decide) (by decide)
  rw [decide_eq_true rfl] at h
  exact h

set_option maxHeartbeats 1600000 in
theorem fixed_any (w : World) (hw : WidthsAt w) : Calls Tryd.prog 7 #[] w fun e w' => e = .returned (.bool true) ∧ Below w.heap.size w w' := by
  have hm := mine_new w w.heap.size (Nat.le_refl _) fx0 (by decide)
  have hb := below_new w (.cells (u8s fx0) 5)
  rw [← fx0_cells] at hm hb
  have hgw := hw.lt
  go_enter Tryd.func7, Tryd.ntmps7
  go_upto_region 2 with fail
  generalize w.alloc (.cells #[Value.int .u8 1, .int .u8 2, .int .u8 3, .int .u8 4, .int .u8 0, .int .u8 0, .int .u8 255, .int .u8 128] 5) = w1 at hm hb ⊢
  have HW := Lib.hid (hw.below hb hgw)
  have HM := Lib.hid (show Mine w1 w.heap.size _ 8 fx0 from hm)
  have HB := Lib.hid hb
  clear hw hm hb
  go_wp2_with (first
    | (go_at_call 14; refine (fx_get_any _ _ HW.out HM.out.bytes).mono ?_; rintro e w' ⟨rfl, rfl⟩)
    | (go_at_call 10; refine (fx_text_any _ _ HM.out.bytes).mono ?_; rintro e w2 ⟨rfl, hb2⟩; have HM2 := Lib.hid (HM.out.later hb2); have HB2 := Lib.hid (HB.out.trans (hb2.mono HB.out.size)); have HW2 := Lib.hid (HW.out.below hb2 (by have := HB.out.size; omega)))
    | (go_at_call 16; refine (fx_zero_any _ _ HM2.out.bytes).mono ?_; rintro e w' ⟨rfl, rfl⟩)
    | (go_at_call 13; refine (fx_put_any w.heap.size _ _ HW2.out HM2.out).mono ?_; rintro e w3 ⟨rfl, hM3, hg3⟩; have HM3 := Lib.hid hM3; have HB3 := Lib.hid (HB2.out.trans (grown_below (l := fx0) HM2.out HB2.out.size hg3)))
    | (go_at_call 15; refine (fx_putText_any w.heap.size _ _ HB3.out.size HM3.out).mono ?_; rintro e w4 ⟨rfl, hM4, hg4⟩; have HM4 := Lib.hid hM4; have HB4 := Lib.hid (HB3.out.trans (grown_below (l := fx1) HM3.out HB3.out.size hg4)))
    | (go_at_call 9; refine (fx_same_any _ _ _ (HM4.out.bytes.later (below_new w4 _)) (by first | exact bytes_new w4 _ (0, 0) fx2)).mono ?_; rintro e w5 ⟨rfl, hb5⟩; have hb6 := ((below_new w4 _).trans (hb5.mono (by simp)))))
  go_ret
  exact ⟨rfl, HB4.out.trans (hb6.mono HB4.out.size)⟩
end Go.Proofs.YtnknoikmleiopaaDoor
