/-
  THE WALKS OF PACKAGE sum: what its functions compute (Crc: the plain law), in every world that holds the table of sixteen words.
-/
import Derived.Test.YtimddchgmocdaaaDoorProg
import Derived.Test.YtimddchgmocdaaaDoorCrc
import Derived.Test.YtimddchgmocdaaaDoorBits
import Derived.Test.YtimddchgmocdaaaDoorMem
import Derived.WalkKit
import Derived.Lib.Hide
set_option linter.unusedVariables false
set_option linter.unusedSimpArgs false
namespace Go.Proofs.YtimddchgmocdaaaDoor
open Go.RowKit

/-- the table of sixteen words lies in its variable -/
def HalfAt (w : World) : Prop := ∀ i, i < 16 → w.cell? ⟨1, i, none⟩ = some (.int .u32 (n32 (Crc.half i)))

theorem HalfAt.lt {w : World} (h : HalfAt w) : 1 < w.heap.size := block_lt_of_cell (h 0 (by decide))
theorem HalfAt.below {B : Nat} {w w' : World} (h : HalfAt w) (hb : Below B w w') (hB : 1 < B) : HalfAt w' := fun i hi => (hb.cell (p := ⟨1, i, none⟩) hB).trans (h i hi)

attribute [local go_sem] u32_wrap8 u32_wrap32 u32_xor u32_xor8 u32_and15 u32_quart u32_max u32_signed u32_not Crc.half_low Crc.step_lay

set_option maxHeartbeats 400000 in
theorem step_any (v : BitVec 32) (b : UInt8) (w : World) (hw : HalfAt w) :
    Calls Tryd.prog 85 #[.int .u32 (n32 v), .int .u8 (n8 b)] w fun e w' => e = .returned (.int .u32 (n32 (Crc.step v b))) ∧ w = w' := by
  have l1 := Crc.low4_lt (Crc.lay v b)
  have h1 := hw _ l1
  have l2 := Crc.low4_lt (Crc.ones 4 (Crc.lay v b))
  have h2 := hw _ l2
  clear hw
  go_enter Tryd.func85, Tryd.ntmps85
  go_wp2_with fail
  go_ret
  exact ⟨rfl, rfl⟩

theorem n32_all : (4294967295 : Int) = n32 (Crc.start) := by decide

set_option maxHeartbeats 400000 in
theorem of_any (A : Option Addr) (cap : Nat) (l : List UInt8) (w : World) (hw : HalfAt w) (hl : Bytes w A l) (hm : l.length ≤ 9223372036854775807) :
    Calls Tryd.prog 68 #[.slice A l.length cap] w fun e w' => e = .returned (.int .u32 (n32 (Crc.crc l))) ∧ w = w' := by
  go_enter Tryd.func68, Tryd.ntmps68
  go_wp2_with fail
  go_loop [3, 8] (fun v i => ∃ k : Nat, k ≤ l.length ∧ i = .int .i64 k ∧ v = .int .u32 (n32 (Crc.row (Crc.start) (l.take k)))) (fun _ i => l.length - (intOf i).toNat)
  case atStart => exact ⟨0, Nat.zero_le _, rfl, by rw [n32_all]; rfl⟩
  case round =>
    obtain ⟨k, hk, rfl, rfl⟩ := hrel
    by_cases hlt : k < l.length
    · obtain ⟨b, off, rfl, hc⟩ := hl.at_ hlt
      go_wp2_with (go_at_call 85; refine (step_any _ _ _ hw).mono ?_; rintro e w' ⟨rfl, rfl⟩)
      go_round
      case rel => exact ⟨k + 1, by omega, by go_num, by rw [take_snoc l k hlt, Crc.row_snoc]⟩
      case measure => simp [intOf]; omega
    · go_wp2_with fail
      go_ret
      exact ⟨ret_int (by rw [List.take_of_length_le (by omega)]; rfl), rfl⟩

set_option maxHeartbeats 400000 in
theorem times_any (b : Nat) (m : Nat → BitVec 32) (v : BitVec 32) (w : World) (hc : ∀ i, i < 32 → w.cell? ⟨b, i, none⟩ = some (.int .u32 (n32 (m i)))) :
    Calls Tryd.prog 95 #[.pointer (some ⟨b, 0, none⟩), .int .u32 (n32 v)] w fun e w' => e = .returned (.int .u32 (n32 (Crc.app m v 32))) ∧ w = w' := by
  have HC := Lib.hid hc
  clear hc
  go_enter Tryd.func95, Tryd.ntmps95
  go_wp2_with fail
  go_loop [1, 5, 6] (fun x r i => ∃ k : Nat, k ≤ 32 ∧ i = .int .i64 k ∧ x = .int .u32 (n32 (Crc.shrk v k)) ∧ r = .int .u32 (n32 (Crc.app m v k))) (fun _ _ i => 32 - (intOf i).toNat)
  case atStart => exact ⟨0, by omega, rfl, by rw [Crc.shrk_zero], rfl⟩
  case round =>
    obtain ⟨k, hk, rfl, rfl, rfl⟩ := hrel
    by_cases hz : Crc.shrk v k = 0#32
    · have h0 := n32_eq0 _ hz
      have HZ := Lib.hid hz
      clear hz
      go_wp2_with fail
      go_ret
      exact ⟨ret_int (by rw [Crc.shrk_done v k HZ.out m hk]), rfl⟩
    · have hlt : k < 32 := by
        refine Nat.lt_of_le_of_ne hk (fun e => hz ?_)
        rw [e, Crc.shrk_32]
      have h0 := n32_ne0 _ hz
      have h1 := HC.out k hlt
      have hs := u32_shrk v k
      cases hb : Crc.bit v k
      · have h2 := u32_bit0 v k hb
        have HB := Lib.hid hb
        clear hb hz
        go_wp2_with fail
        go_round
        case rel => exact ⟨k + 1, by omega, by go_num, rfl, by rw [Crc.app_no m v k HB.out]⟩
        case measure => simp [intOf]; omega
      · have h2 := u32_bit1 v k hb
        have HB := Lib.hid hb
        clear hb hz
        go_wp2_with fail
        go_round
        case rel => exact ⟨k + 1, by omega, by go_num, rfl, by rw [Crc.app_yes m v k HB.out]⟩
        case measure => simp [intOf]; omega

/-- a matrix's cells -/
def mats (m : Nat → BitVec 32) : Array Value := ((List.range 32).map fun i => Value.int .u32 (n32 (m i))).toArray
theorem mats_size (m : Nat → BitVec 32) : (mats m).size = 32 := by simp [mats]
theorem mats_at (m : Nat → BitVec 32) (i : Nat) (h : i < 32) : (mats m)[i]? = some (.int .u32 (n32 (m i))) := by simp [mats, h]
theorem mats_put (m : Nat → BitVec 32) (i : Nat) (v : BitVec 32) (h : i < 32) : (mats m).setIfInBounds i (.int .u32 (n32 v)) = mats (fun j => if j = i then v else m j) := by
  apply Array.ext_getElem?
  intro j
  rw [Array.getElem?_setIfInBounds]
  by_cases hj : j < 32
  · rw [mats_at _ j hj, mats_at _ j hj]
    by_cases e : i = j
    · subst e; simp [mats_size, hj]
    · rw [if_neg e, if_neg (fun x => e x.symm)]
  · rw [Array.getElem?_eq_none (by rw [mats_size]; omega), Array.getElem?_eq_none (by rw [mats_size]; omega)]
    split <;> simp [mats_size]; omega
theorem mats_congr {m m' : Nat → BitVec 32} (h : ∀ i, i < 32 → m i = m' i) : mats m = mats m' := by
  unfold mats
  congr 1
  apply List.map_congr_left
  intro i hi
  rw [h i (by simpa using hi)]
theorem mats_one (m : Nat → BitVec 32) : (mats m).all (·.oneCell') = true := by
  rw [Array.all_eq_true]
  intro i hi
  rw [mats_size] at hi
  have := mats_at m i hi
  rw [Array.getElem?_eq_getElem (by rw [mats_size]; exact hi)] at this
  injection this with this
  rw [this]; rfl

theorem mats_zero : mats (fun _ => 0#32) = #[.int .u32 0, .int .u32 0, .int .u32 0, .int .u32 0, .int .u32 0, .int .u32 0, .int .u32 0, .int .u32 0, .int .u32 0, .int .u32 0, .int .u32 0, .int .u32 0, .int .u32 0, .int .u32 0, .int .u32 0, .int .u32 0, .int .u32 0, .int .u32 0, .int .u32 0, .int .u32 0, .int .u32 0, .int .u32 0, .int .u32 0, .int .u32 0, .int .u32 0, .int .u32 0, .int .u32 0, .int .u32 0, .int .u32 0, .int .u32 0, .int .u32 0, .int .u32 0] := rfl
theorem mats_start (f : Nat → BitVec 32) : mats (fun i => if i < 0 then f i else 0#32) = mats (fun _ => 0#32) := mats_congr (by simp)
theorem mats_step (f : Nat → BitVec 32) (k : Nat) : mats (fun j => if j = k then f k else if j < k then f j else 0#32) = mats (fun i => if i < k + 1 then f i else 0#32) := by
  apply mats_congr
  intro i _
  by_cases e : i = k
  · subst e; simp
  · simp only [e, if_false]
    by_cases h : i < k
    · rw [if_pos h, if_pos (by omega)]
    · rw [if_neg h, if_neg (by omega)]
theorem mats_all (f : Nat → BitVec 32) : mats (fun i => if i < 32 then f i else 0#32) = mats f := mats_congr (fun i h => by simp [h])
theorem size51 : (Tryd.prog.info? 151).map (·.size) = some 32 := by kernel_rfl

set_option maxHeartbeats 800000 in
theorem square_any (b : Nat) (m : Nat → BitVec 32) (w : World) (hb : b < w.heap.size) (hc : ∀ i, i < 32 → w.cell? ⟨b, i, none⟩ = some (.int .u32 (n32 (m i)))) :
    Calls Tryd.prog 96 #[.pointer (some ⟨b, 0, none⟩)] w fun e w' => e = .returned (.agg (mats fun i => Crc.app m (m i) 32)) ∧ Below w.heap.size w w' := by
  have HC := Lib.hid hc
  clear hc
  go_enter Tryd.func96, Tryd.ntmps96
  go_wp2_with fail
  go_loopw [4, 5] (fun _ i wr => ∃ k : Nat, k ≤ 32 ∧ i = .int .i64 k ∧ Below w.heap.size w wr ∧ (∃ z, z.size = 32 ∧ Is wr w.heap.size 151 z) ∧ Is wr (w.heap.size + 1) 151 (mats fun i => if i < k then Crc.app m (m i) 32 else 0#32))
    (fun _ i _ => 32 - (intOf i).toNat)
  case atStart =>
    have h := two_new w (mats fun _ => 0#32) (mats fun _ => 0#32) 151 151
    exact ⟨0, by omega, rfl, h.1, ⟨_, rfl, h.2.1⟩, by rw [mats_start]; exact h.2.2⟩
  case round =>
    obtain ⟨k, hk, rfl, hB, ⟨z, hz, hZ⟩, hM⟩ := hrel
    have hcr : ∀ i, i < 32 → wr.cell? ⟨b, i, none⟩ = some (.int .u32 (n32 (m i))) := fun i hi => (hB.cell (p := ⟨b, i, none⟩) hb).trans (HC.out i hi)
    by_cases hlt : k < 32
    · have h1 := hcr k hlt
      have HR := Lib.hid hcr
      clear hcr
      have h2 := hM.cell k
      rw [mats_at _ k hlt] at h2
      have h3 := hM.free k
      go_wp2_with (go_at_call 95; refine (times_any _ m _ _ HR.out).mono ?_; rintro e w' ⟨rfl, rfl⟩)
      go_roundw
      case rel =>
        refine ⟨k + 1, by omega, by go_num, hB.setCell (by show w.heap.size ≤ w.heap.size + 1; omega) _, ⟨z, hz, hZ.other _ (by simp) _⟩, ?_⟩
        have h4 := hM.put k (.int .u32 (n32 (Crc.app m (m k) 32)))
        rw [mats_put _ _ _ hlt, mats_step (fun i => Crc.app m (m i) 32)] at h4
        exact h4
      case measure => simp [intOf]; omega
    · obtain rfl : k = 32 := by omega
      rw [mats_all] at hM
      go_wp2_with (first
        | (refine wpList_load_row rfl 151 (.tmp 3) rfl (w.heap.size + 1) rfl _ _ _ _ hM Tryd.underlying151 rfl (size51.trans (by rw [mats_size])) ?_)
        | (refine wpList_store_row rfl 151 (.tmp 2) (.tmp 18) rfl w.heap.size (mats _) rfl rfl _ _ hZ (size51.trans (by rw [mats_size])) (hz.trans (mats_size _).symm) (mats_one _) ?_))
      refine bodyPost_ret (results_cell_row rfl _ _ w.heap.size _ _ _ _ rfl (hZ.row _) Tryd.underlying151 rfl (size51.trans (by rw [mats_size]))) rfl ?_
      exact ⟨rfl, below_setRow hB (Nat.le_refl _) _⟩

theorem step0_any (v : BitVec 32) (w : World) (hw : HalfAt w) :
    Calls Tryd.prog 85 #[.int .u32 (n32 v), .int .u8 0] w fun e w' => e = .returned (.int .u32 (n32 (Crc.step v 0))) ∧ w = w' := step_any v 0 w hw

set_option maxHeartbeats 800000 in
theorem behind_any (v : BitVec 32) (n : Nat) (w : World) (hw : HalfAt w) (hn : n ≤ 1099511627776) :
    Calls Tryd.prog 86 #[.int .u32 (n32 v), .int .i64 (n : Int)] w fun e w' => e = .returned (.int .u32 (n32 (Crc.zeros n v))) ∧ Below w.heap.size w w' := by
  have hG := hw.lt
  have HW := Lib.hid hw
  clear hw
  go_enter Tryd.func86, Tryd.ntmps86
  go_wp2_with fail
  go_loopw [6, 7] (fun _ i wr => ∃ k : Nat, k ≤ 32 ∧ i = .int .i64 k ∧ Below w.heap.size w wr ∧ w.heap.size < wr.heap.size ∧ Is wr w.heap.size 151 (mats fun i => if i < k then Crc.step (Crc.unit i) 0 else 0#32))
    (fun _ i _ => 32 - (intOf i).toNat)
  case atStart =>
    have h := one_new w (mats fun _ => 0#32) 151
    exact ⟨0, by omega, rfl, h.1, by simp, by rw [mats_start]; exact h.2⟩
  case round =>
    obtain ⟨k, hk, rfl, hB, hsz, hM⟩ := hrel
    by_cases hlt : k < 32
    · have h2 := hM.cell k
      rw [mats_at _ k hlt] at h2
      have h3 := hM.free k
      have h4 := u32_one_shl k hlt
      have HWR := Lib.hid (HW.out.below hB hG)
      go_wp2_with (go_at_call 85; refine (step0_any _ _ HWR.out).mono ?_; rintro e w' ⟨rfl, rfl⟩)
      go_roundw
      case rel =>
        refine ⟨k + 1, by omega, by go_num, hB.setCell (Nat.le_refl _) _, by simpa using hsz, ?_⟩
        have h5 := hM.put k (.int .u32 (n32 (Crc.step (Crc.unit k) 0)))
        rw [mats_put _ _ _ hlt, mats_step (fun i => Crc.step (Crc.unit i) 0)] at h5
        exact h5
      case measure => simp [intOf]; omega
    · have hM : Is wr w.heap.size 151 (mats (Crc.mat 1)) := by
        have e : k = 32 := by omega
        rw [e, mats_all, mats_congr (fun i _ => (Crc.mat_one i).symm)] at hM
        exact hM
      obtain ⟨wo, rfl⟩ : ∃ wo : World, wo = wr := ⟨_, rfl⟩
      go_wp2_with fail
      go_loopw [0, 1] (fun x i wr => ∃ (q c : Nat) (y : BitVec 32), q ≤ n ∧ i = .int .i64 q ∧ x = .int .u32 (n32 y) ∧ Crc.zeros (q * c) y = Crc.zeros n v ∧ Below w.heap.size w wr ∧ w.heap.size < wr.heap.size ∧ Is wr w.heap.size 151 (mats (Crc.mat c)))
        (fun _ i _ => (intOf i).toNat)
      case atStart => exact ⟨n, 1, v, Nat.le_refl _, rfl, rfl, by rw [Nat.mul_one], hB, hsz, hM⟩
      case round =>
        obtain ⟨q, c, y, hq, rfl, rfl, hz, hB, hsz, hM⟩ := hrel
        have HZ := Lib.hid hz
        clear hz
        by_cases h0 : 0 < q
        · have hcr : ∀ i, i < 32 → wr.cell? ⟨w.heap.size, i, none⟩ = some (.int .u32 (n32 (Crc.mat c i))) := fun i hi => by rw [hM.cell, mats_at _ i hi]
          have HR := Lib.hid hcr
          clear hcr
          have ha := i64_and1 q (by omega)
          have sq := mats_congr (m := fun i => Crc.app (Crc.mat c) (Crc.mat c i) 32) (m' := Crc.mat (c + c)) (fun i _ => Crc.mat_square c i)
          have SQ := Lib.hid sq
          clear sq
          by_cases hodd : q % 2 = 1
          · rw [hodd] at ha
            have HO := Lib.hid hodd
            clear hodd
            go_wp2_with (first
              | (go_at_call 95; refine (times_any _ (Crc.mat c) _ _ HR.out).mono ?_; rintro e w' ⟨rfl, rfl⟩)
              | (go_at_call 96; refine (square_any _ (Crc.mat c) _ hsz HR.out).mono ?_; rintro e w' ⟨rfl, hb2⟩; have hM2 := hM.below hb2 hsz; rw [SQ.out])
              | (refine wpList_store_row rfl 151 (.tmp 5) (.tmp 25) rfl w.heap.size (mats _) rfl rfl _ _ hM2 (size51.trans (by rw [mats_size])) (by rw [mats_size, mats_size]) (mats_one _) ?_))
            go_roundw
            case rel => exact ⟨q / 2, c + c, Crc.zeros c y, by omega, by go_num, by rw [Crc.app_mat], (Crc.zeros_odd q c y HO.out).trans HZ.out, below_setRow (hB.trans (hb2.mono (by omega))) (Nat.le_refl _) _, by have := hb2.size; simp; omega, hM2.row _⟩
            case measure => simp [intOf]; omega
          · have he : q % 2 = 0 := by omega
            rw [he] at ha
            have HO := Lib.hid he
            clear hodd he
            go_wp2_with (first
              | (go_at_call 96; refine (square_any _ (Crc.mat c) _ hsz HR.out).mono ?_; rintro e w' ⟨rfl, hb2⟩; have hM2 := hM.below hb2 hsz; rw [SQ.out])
              | (refine wpList_store_row rfl 151 (.tmp 5) (.tmp 25) rfl w.heap.size (mats _) rfl rfl _ _ hM2 (size51.trans (by rw [mats_size])) (by rw [mats_size, mats_size]) (mats_one _) ?_))
            go_roundw
            case rel => exact ⟨q / 2, c + c, y, by omega, by go_num, rfl, (Crc.zeros_even q c y HO.out).trans HZ.out, below_setRow (hB.trans (hb2.mono (by omega))) (Nat.le_refl _) _, by have := hb2.size; simp; omega, hM2.row _⟩
            case measure => simp [intOf]; omega
        · obtain rfl : q = 0 := by omega
          go_wp2_with fail
          go_ret
          have hz := HZ.out
          rw [Nat.zero_mul] at hz
          exact ⟨ret_int (by rw [← hz]; rfl), hB⟩

set_option maxHeartbeats 400000 in
theorem join_ok (a b : BitVec 32) (n : Nat) (w : World) (hw : HalfAt w) (hn : n ≤ 1099511627776) :
    Calls Tryd.prog 69 #[.int .u32 (n32 a), .int .u32 (n32 b), .int .i64 (n : Int)] w fun e w' =>
      e = .returned (.tuple #[.int .u32 (n32 (Crc.zeros n a ^^^ b)), .int .i64 0]) ∧ Below w.heap.size w w' := by
  have HW := Lib.hid hw
  clear hw
  have h1 : ¬ (n : Int) < 0 := by omega
  have h2 : ¬ 1099511627776 < (n : Int) := by omega
  go_enter Tryd.func69, Tryd.ntmps69
  go_wp2_with (go_at_call 86; refine (behind_any _ _ _ HW.out hn).mono ?_; rintro e w' ⟨rfl, hb⟩)
  go_ret2
  exact ⟨rfl, hb⟩

set_option maxHeartbeats 400000 in
theorem join_bad (a b : BitVec 32) (n : Int) (w : World) (hn : n < 0 ∨ 1099511627776 < n) :
    Calls Tryd.prog 69 #[.int .u32 (n32 a), .int .u32 (n32 b), .int .i64 n] w fun e w' =>
      e = .returned (.tuple #[.int .u32 0, .int .i64 1]) ∧ w = w' := by
  by_cases h1 : n < 0
  · clear hn
    go_enter Tryd.func69, Tryd.ntmps69
    go_wp2_with fail
    go_ret2
    exact ⟨rfl, rfl⟩
  · have h2 : 1099511627776 < n := by omega
    clear hn
    go_enter Tryd.func69, Tryd.ntmps69
    go_wp2_with fail
    go_ret2
    exact ⟨rfl, rfl⟩
end Go.Proofs.YtimddchgmocdaaaDoor
