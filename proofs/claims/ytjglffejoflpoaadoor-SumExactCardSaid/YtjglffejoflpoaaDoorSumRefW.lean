/-
  THE WALKS OF THE DOCUMENT'S OWN ANSWER (boleref01): it computes what the plain law says, bit by bit.
-/
import Derived.Test.YtjglffejoflpoaaDoorSumW
import Derived.Deep.RegionHeld3
import Derived.Deep.MidRow
set_option linter.unusedVariables false
set_option linter.unusedSimpArgs false
namespace Go.Proofs.YtjglffejoflpoaaDoor
open Go.RowKit
attribute [local go_sem] u32_wrap8 u32_wrap32 u32_xor u32_xor8 u32_max u32_signed u32_poly u32_ones

theorem u32_even (v : BitVec 32) : n32 v % 2 = ((v.getLsbD 0).toNat : Int) := by
  unfold n32
  simp [BitVec.getLsbD, Nat.testBit_zero]
  cases h : decide (v.toNat % 2 = 1) <;> simp at h <;> simp <;> omega
theorem u32_shr1 (v : BitVec 32) : n32 v / 2 = n32 (Crc.shrk v 1) := u32_shr0 v 1

set_option maxHeartbeats 400000 in
theorem one_any (v : BitVec 32) (w : World) :
    Calls Tryd.prog 21 #[.int .u32 (n32 v)] w fun e w' => e = .returned (.int .u32 (n32 (Crc.one v))) ∧ w = w' := by
  have h0 := u32_even v
  have h2 := u32_shr1 v
  have h3 := n32_lo v
  have h4 := n32_hi v
  cases hb : v.getLsbD 0
  · have e : Crc.one v = Crc.shrk v 1 := by unfold Crc.one; rw [hb]; rfl
    have E := Lib.hid e
    rw [hb] at h0
    have h0 : n32 v % 2 = 0 := h0
    clear hb e
    go_enter Tryd.func21, Tryd.ntmps21
    go_wp2_with fail
    go_ret
    exact ⟨ret_int (by rw [E.out]; try rw [h2]), rfl⟩
  · have e : Crc.one v = Crc.shrk v 1 ^^^ Crc.poly := by unfold Crc.one; rw [hb]; rfl
    have E := Lib.hid e
    rw [hb] at h0
    have h0 : n32 v % 2 = 1 := h0
    clear hb e
    go_enter Tryd.func21, Tryd.ntmps21
    go_wp2_with fail
    go_ret
    exact ⟨ret_int (by rw [E.out]; try rw [h2]), rfl⟩

set_option maxHeartbeats 800000 in
theorem ref_of_any (A : Option Addr) (cap : Nat) (l : List UInt8) (w : World) (hl : Bytes w A l) (hm : l.length ≤ 9223372036854775807) :
    Calls Tryd.prog 15 #[.slice A l.length cap] w fun e w' => e = .returned (.int .u32 (n32 (Crc.crc l))) ∧ w = w' := by
  go_enter Tryd.func15, Tryd.ntmps15
  go_wp2_with fail
  go_loop [3, 4, 5] (fun v i _ => ∃ k : Nat, k ≤ l.length ∧ i = .int .i64 k ∧ v = .int .u32 (n32 (Crc.row (Crc.start) (l.take k)))) (fun _ i _ => l.length - (intOf i).toNat)
  case atStart => exact ⟨0, Nat.zero_le _, rfl, by rw [n32_all]; rfl⟩
  case round =>
    obtain ⟨k, hk, rfl, rfl⟩ := hrel
    by_cases hlt : k < l.length
    · obtain ⟨b, off, rfl, hc⟩ := hl.at_ hlt
      go_wp2_with fail
      go_loop [3, 5] (fun v i => ∃ j : Nat, j ≤ 8 ∧ i = .int .i64 j ∧ v = .int .u32 (n32 (Crc.ones j (Crc.lay (Crc.row (Crc.start) (l.take k)) l[k])))) (fun _ i => 8 - (intOf i).toNat)
      case atStart => exact ⟨0, Nat.zero_le _, rfl, rfl⟩
      case round =>
        obtain ⟨j, hj, rfl, rfl⟩ := hrel
        by_cases hlj : j < 8
        · go_wp2_with (go_at_call 21; refine (one_any _ _).mono ?_; rintro e w' ⟨rfl, rfl⟩)
          go_round
          case rel => exact ⟨j + 1, by omega, by go_num, by rw [Crc.ones_succ']⟩
          case measure => simp [intOf]; omega
        · go_wp2_with fail
          go_round
          case rel => exact ⟨k + 1, by omega, by go_num, by rw [take_snoc l k hlt, Crc.row_snoc, show j = 8 by omega]; rfl⟩
          case measure => simp [intOf]; omega
    · go_wp2_with fail
      go_ret
      exact ⟨ret_int (by rw [List.take_of_length_le (by omega)]; rfl), rfl⟩

theorem sizeTurns : (Tryd.prog.info? 53).map (·.size) = some 32 := by kernel_rfl

set_option maxHeartbeats 800000 in
theorem turns_of_any (m : Nat → BitVec 32) (v : BitVec 32) (w : World) :
    Calls Tryd.prog 25 #[.agg (mats m), .int .u32 (n32 v)] w fun e w' => e = .returned (.int .u32 (n32 (Crc.app m v 32))) ∧ Below w.heap.size w w' := by
  go_enter Tryd.func25, Tryd.ntmps25
  go_wp2_with fail
  obtain ⟨hB, hM⟩ := one_new w (mats m) 53
  generalize w.alloc (.cells (mats m) 53) = w1 at hB hM ⊢
  have HM := Lib.hid hM
  clear hM
  go_loop [5, 6] (fun r i => ∃ k : Nat, k ≤ 32 ∧ i = .int .i64 k ∧ r = .int .u32 (n32 (Crc.app m v k))) (fun _ i => 32 - (intOf i).toNat)
  case atStart => exact ⟨0, by omega, rfl, rfl⟩
  case round =>
    obtain ⟨k, hk, rfl, rfl⟩ := hrel
    by_cases hlt : k < 32
    · have h1 := HM.out.cell k
      rw [mats_at _ k hlt] at h1
      have hs := u32_shr0 v k
      cases hb : Crc.bit v k
      · have h2 := u32_bit0 v k hb
        have HB := Lib.hid hb
        clear hb
        go_wp2_with fail
        go_round
        case rel => exact ⟨k + 1, by omega, by go_num, by rw [Crc.app_no m v k HB.out]⟩
        case measure => simp [intOf]; omega
      · have h2 := u32_bit1 v k hb
        have HB := Lib.hid hb
        clear hb
        go_wp2_with fail
        go_round
        case rel => exact ⟨k + 1, by omega, by go_num, by rw [Crc.app_yes m v k HB.out]⟩
        case measure => simp [intOf]; omega
    · go_wp2_with fail
      go_ret
      exact ⟨ret_int (by rw [show k = 32 by omega]), hB⟩

theorem step_ones (v : BitVec 32) : Crc.ones 8 v = Crc.step v 0 := (Crc.step_zero v).symm

/-- the same cells, as a list -/
def matl (m : Nat → BitVec 32) : List Value := (List.range 32).map fun i => Value.int .u32 (n32 (m i))
theorem matl_length (m : Nat → BitVec 32) : (matl m).length = 32 := by simp [matl]
theorem matl_at (m : Nat → BitVec 32) (j : Nat) (v : Value) (h : (matl m)[j]? = some v) : (mats m)[j]? = some v := by
  simpa [matl, mats] using h
theorem matl_one (m : Nat → BitVec 32) : ∀ v ∈ matl m, v.oneCell' = true := by
  intro v hv
  simp only [matl, List.mem_map] at hv
  obtain ⟨i, _, rfl⟩ := hv
  rfl
theorem Is.range {w : World} {g : Nat} {t : TypeId} {m : Nat → BitVec 32} (h : Is w g t (mats m)) : w.rangeAt g 0 (matl m) := fun j v hj => by
  rw [Nat.zero_add, h.cell]; exact matl_at m j v hj
theorem keepS {w : World} {g : Nat} {t : TypeId} {m : Nat → BitVec 32} {j : Nat} (h : Is w g t (mats m)) (hj : j < 32) :
    w.rangeAt g 0 (matl m) ∧ w.cell? ⟨g, j, none⟩ = some (.int .u32 (n32 (m j))) := ⟨h.range, by rw [h.cell, mats_at _ _ hj]⟩
theorem turns_of_l (m : Nat → BitVec 32) (v : BitVec 32) (w : World) :
    Calls Tryd.prog 25 #[.agg (matl m).toArray, .int .u32 (n32 v)] w fun e w' => e = .returned (.int .u32 (n32 (Crc.app m v 32))) ∧ Below w.heap.size w w' := turns_of_any m v w

set_option maxHeartbeats 1600000 in
theorem through_any (v : BitVec 32) (n : Nat) (w : World) (hn : n ≤ 9223372036854775807) :
    Calls Tryd.prog 22 #[.int .u32 (n32 v), .int .i64 (n : Int)] w fun e w' => e = .returned (.int .u32 (n32 (Crc.zeros n v))) ∧ Below w.heap.size w w' := by
  go_enter Tryd.func22, Tryd.ntmps22
  go_wp2_with fail
  go_loopw [6, 7, 8] (fun i _ _ wr => ∃ k : Nat, k ≤ 32 ∧ i = .int .i64 k ∧ Below w.heap.size w wr ∧ w.heap.size < wr.heap.size ∧ Is wr w.heap.size 53 (mats fun i => if i < k then Crc.step (Crc.unit i) 0 else 0#32))
    (fun i _ _ _ => 32 - (intOf i).toNat)
  case atStart =>
    have h := one_new w (mats fun _ => 0#32) 53
    exact ⟨0, by omega, rfl, h.1, by simp, by rw [mats_start]; exact h.2⟩
  case round =>
    obtain ⟨k, hk, rfl, hB, hsz, hM⟩ := hrel
    by_cases hlt : k < 32
    · have h2 := hM.cell k
      rw [mats_at _ k hlt] at h2
      have h3 := hM.free k
      have h4 := u32_one_shl k hlt
      have hd : (k : Int) < 32 := by omega
      go_wp2_with fail
      have HLT := Lib.hid hlt
      clear hlt hd
      go_loop [7, 8] (fun x i => ∃ j : Nat, j ≤ 8 ∧ i = .int .i64 j ∧ x = .int .u32 (n32 (Crc.ones j (Crc.unit k)))) (fun _ i => 8 - (intOf i).toNat)
      case atStart => exact ⟨0, Nat.zero_le _, rfl, rfl⟩
      case round =>
        obtain ⟨j, hj, rfl, rfl⟩ := hrel
        by_cases hlj : j < 8
        · go_wp2_with (go_at_call 21; refine (one_any _ _).mono ?_; rintro e w' ⟨rfl, rfl⟩)
          go_round
          case rel => exact ⟨j + 1, by omega, by go_num, by rw [Crc.ones_succ']⟩
          case measure => simp [intOf]; omega
        · have hlt := HLT.out
          go_wp2_with fail
          go_roundw
          case rel =>
            refine ⟨k + 1, by omega, by go_num, hB.setCell (Nat.le_refl _) _, by simpa using hsz, ?_⟩
            have h5 := hM.put k (.int .u32 (n32 (Crc.step (Crc.unit k) 0)))
            rw [mats_put _ _ _ HLT.out, mats_step (fun i => Crc.step (Crc.unit i) 0)] at h5
            rw [show j = 8 by omega, step_ones]
            exact h5
          case measure => simp [intOf]; omega
    · have hM : Is wr w.heap.size 53 (mats (Crc.mat 1)) := by
        have e : k = 32 := by omega
        rw [e, mats_all, mats_congr (fun i _ => (Crc.mat_one i).symm)] at hM
        exact hM
      obtain ⟨wo, rfl⟩ : ∃ wo : World, wo = wr := ⟨_, rfl⟩
      go_wp2_with fail
      go_loopw [0, 1, 9, 10] (fun x i _ _ wr => ∃ (q c : Nat) (y : BitVec 32), q ≤ n ∧ i = .int .i64 q ∧ x = .int .u32 (n32 y) ∧ Crc.zeros (q * c) y = Crc.zeros n v ∧ Below w.heap.size w wr ∧ w.heap.size < wr.heap.size ∧ Is wr w.heap.size 53 (mats (Crc.mat c)))
        (fun _ i _ _ _ => (intOf i).toNat)
      case atStart => exact ⟨n, 1, v, Nat.le_refl _, rfl, rfl, by rw [Nat.mul_one], hB, hsz, hM⟩
      case round =>
        obtain ⟨q, c, y, hq, rfl, rfl, hz, hB, hsz, hM⟩ := hrel
        have HZ := Lib.hid hz
        clear hz
        by_cases h0 : 0 < q
        · by_cases hodd : q % 2 = 1
          · have hr : (q : Int) % 2 = 1 := by omega
            have HO := Lib.hid hodd
            clear hodd
            go_wp2_with (first
              | (refine wpList_load_row rfl 53 (.tmp 5) rfl w.heap.size rfl _ _ _ _ hM Tryd.underlying53 rfl (sizeTurns.trans (by rw [mats_size])) ?_)
              | (go_at_call 25; refine (turns_of_any (Crc.mat c) _ _).mono ?_; rintro e w2 ⟨rfl, hb2⟩))
            have hB2 : Below w.heap.size w w2 := hB.trans (hb2.mono hB.size)
            have hs2 : w.heap.size < w2.heap.size := by have := hb2.size; omega
            have hM2 := hM.below hb2 hsz
            obtain ⟨hB3, hU3⟩ := one_new w2 (mats fun _ => 0#32) 53
            have hM3 := hM2.alloc (.cells (mats fun _ => 0#32) 53)
            have hb3 : Below w.heap.size w (w2.alloc (.cells (mats fun _ => 0#32) 53)) := hB2.trans (hB3.mono hB2.size)
            have hu := Tryd.underlying53
            have hi : (Tryd.prog.info? 53).map (·.size) = some (matl (Crc.mat c)).length := sizeTurns.trans (by rw [matl_length])
            have HU := Lib.hid hu
            have HI := Lib.hid hi
            clear hu hi hB3
            go_loopw [10] (fun i wr => ∃ j : Nat, j ≤ 32 ∧ i = .int .i64 j ∧ Below w.heap.size w wr ∧ w2.heap.size < wr.heap.size ∧ Is wr w.heap.size 53 (mats (Crc.mat c)) ∧ Is wr w2.heap.size 53 (mats fun i => if i < j then Crc.app (Crc.mat c) (Crc.mat c i) 32 else 0#32))
              (fun i _ => 32 - (intOf i).toNat)
            case atStart => exact ⟨0, by omega, rfl, hb3, by simp, hM3, by rw [mats_start]; exact hU3⟩
            case round =>
              obtain ⟨j, hj, rfl, hB4, hs4, hM4, hU4⟩ := hrel
              by_cases hlj : j < 32
              · have hne : w.heap.size ≠ w2.heap.size := by omega
                have hj0 : (0 : Int) ≤ (j : Int) := by omega
                have hj1 : (j : Int) < 32 := by omega
                go_wp2_with fail
                have hu := HU.out
                have hi := HI.out
                go_region_held3 (fun w' => w'.rangeAt w.heap.size 0 (matl (Crc.mat c)) ∧ w'.cell? ⟨w.heap.size, j, none⟩ = some (.int .u32 (n32 (Crc.mat c j))))
                  (first
                    | exact keepS hM4.drew hlj
                    | exact keepS hM5 hlj
                    | exact keepS (hM5.other _ hne _) hlj)
                  (first
                    | (go_at_call 25; refine (turns_of_any (Crc.mat c) _ _).mono ?_; rintro e w5 ⟨rfl, hb5⟩; have hM5 := hM4.drew.below hb5 (by simp; omega); have hU5 := hU4.drew.below hb5 (by simpa using hs4); have hz5 := hU5.cell j; rw [mats_at _ j hlj] at hz5; have hf5 := hU5.free j))
                go_wp2_with fail
                go_roundw
                case rel =>
                  have hB5 : Below w.heap.size w w5 := hB4.drew.trans (hb5.mono (by simpa using hB4.size))
                  refine ⟨j + 1, by omega, by go_num, hB5.setCell (by show w.heap.size ≤ w2.heap.size; omega) _, by have := hU5.lt; simpa using this, hM5.other _ hne _, ?_⟩
                  have h5 := hU5.put j (.int .u32 (n32 (Crc.app (Crc.mat c) (Crc.mat c j) 32)))
                  rw [mats_put _ _ _ hlj, mats_step (fun i => Crc.app (Crc.mat c) (Crc.mat c i) 32)] at h5
                  exact h5
                case measure => simp [intOf]; omega
              · have hU : Is wr w2.heap.size 53 (mats (Crc.mat (c + c))) := by
                  have e : j = 32 := by omega
                  rw [e, mats_all, mats_congr (fun i _ => Crc.mat_square c i)] at hU4
                  exact hU4
                clear hU4
                go_wp2_with (first
                  | (refine wpList_load_row rfl 53 (.tmp 9) rfl w2.heap.size rfl _ _ _ _ hU HU.out rfl (sizeTurns.trans (by rw [mats_size])) ?_)
                  | (refine wpList_store_row rfl 53 (.tmp 5) (.tmp 45) rfl w.heap.size (mats _) rfl rfl _ _ hM4 (sizeTurns.trans (by rw [mats_size])) (by rw [mats_size, mats_size]) (mats_one _) ?_))
                go_roundw
                case rel => exact ⟨q / 2, c + c, Crc.zeros c y, by omega, by go_num, by rw [Crc.app_mat], (Crc.zeros_odd q c y HO.out).trans HZ.out, below_setRow hB4 (Nat.le_refl _) _, by simp; omega, hM4.row _⟩
                case measure => simp [intOf]; omega
          · have he : q % 2 = 0 := by omega
            have hr : ((q : Int) % 2 == 1) = false := by simp; omega
            have HO := Lib.hid he
            clear hodd he
            go_wp2_with fail
            obtain ⟨w2, hw2⟩ : ∃ w2 : World, w2 = wr := ⟨_, rfl⟩
            subst hw2
            have hB2 := hB
            have hs2 := hsz
            have hM2 := hM
            obtain ⟨hB3, hU3⟩ := one_new w2 (mats fun _ => 0#32) 53
            have hM3 := hM2.alloc (.cells (mats fun _ => 0#32) 53)
            have hb3 : Below w.heap.size w (w2.alloc (.cells (mats fun _ => 0#32) 53)) := hB2.trans (hB3.mono hB2.size)
            have hu := Tryd.underlying53
            have hi : (Tryd.prog.info? 53).map (·.size) = some (matl (Crc.mat c)).length := sizeTurns.trans (by rw [matl_length])
            have HU := Lib.hid hu
            have HI := Lib.hid hi
            clear hu hi hB3
            go_loopw [10] (fun i wr => ∃ j : Nat, j ≤ 32 ∧ i = .int .i64 j ∧ Below w.heap.size w wr ∧ w2.heap.size < wr.heap.size ∧ Is wr w.heap.size 53 (mats (Crc.mat c)) ∧ Is wr w2.heap.size 53 (mats fun i => if i < j then Crc.app (Crc.mat c) (Crc.mat c i) 32 else 0#32))
              (fun i _ => 32 - (intOf i).toNat)
            case atStart => exact ⟨0, by omega, rfl, hb3, by simp, hM3, by rw [mats_start]; exact hU3⟩
            case round =>
              obtain ⟨j, hj, rfl, hB4, hs4, hM4, hU4⟩ := hrel
              by_cases hlj : j < 32
              · have hne : w.heap.size ≠ w2.heap.size := by omega
                have hj0 : (0 : Int) ≤ (j : Int) := by omega
                have hj1 : (j : Int) < 32 := by omega
                go_wp2_with fail
                have hu := HU.out
                have hi := HI.out
                go_region_held3 (fun w' => w'.rangeAt w.heap.size 0 (matl (Crc.mat c)) ∧ w'.cell? ⟨w.heap.size, j, none⟩ = some (.int .u32 (n32 (Crc.mat c j))))
                  (first
                    | exact keepS hM4.drew hlj
                    | exact keepS hM5 hlj
                    | exact keepS (hM5.other _ hne _) hlj)
                  (first
                    | (go_at_call 25; refine (turns_of_any (Crc.mat c) _ _).mono ?_; rintro e w5 ⟨rfl, hb5⟩; have hM5 := hM4.drew.below hb5 (by simp; omega); have hU5 := hU4.drew.below hb5 (by simpa using hs4); have hz5 := hU5.cell j; rw [mats_at _ j hlj] at hz5; have hf5 := hU5.free j))
                go_wp2_with fail
                go_roundw
                case rel =>
                  have hB5 : Below w.heap.size w w5 := hB4.drew.trans (hb5.mono (by simpa using hB4.size))
                  refine ⟨j + 1, by omega, by go_num, hB5.setCell (by show w.heap.size ≤ w2.heap.size; omega) _, by have := hU5.lt; simpa using this, hM5.other _ hne _, ?_⟩
                  have h5 := hU5.put j (.int .u32 (n32 (Crc.app (Crc.mat c) (Crc.mat c j) 32)))
                  rw [mats_put _ _ _ hlj, mats_step (fun i => Crc.app (Crc.mat c) (Crc.mat c i) 32)] at h5
                  exact h5
                case measure => simp [intOf]; omega
              · have hU : Is wr w2.heap.size 53 (mats (Crc.mat (c + c))) := by
                  have e : j = 32 := by omega
                  rw [e, mats_all, mats_congr (fun i _ => Crc.mat_square c i)] at hU4
                  exact hU4
                clear hU4
                go_wp2_with (first
                  | (refine wpList_load_row rfl 53 (.tmp 9) rfl w2.heap.size rfl _ _ _ _ hU HU.out rfl (sizeTurns.trans (by rw [mats_size])) ?_)
                  | (refine wpList_store_row rfl 53 (.tmp 5) (.tmp 45) rfl w.heap.size (mats _) rfl rfl _ _ hM4 (sizeTurns.trans (by rw [mats_size])) (by rw [mats_size, mats_size]) (mats_one _) ?_))
                go_roundw
                case rel => exact ⟨q / 2, c + c, y, by omega, by go_num, by rfl, (Crc.zeros_even q c y HO.out).trans HZ.out, below_setRow hB4 (Nat.le_refl _) _, by simp; omega, hM4.row _⟩
                case measure => simp [intOf]; omega
        · obtain rfl : q = 0 := by omega
          go_wp2_with fail
          go_ret
          have hz := HZ.out
          rw [Nat.zero_mul] at hz
          exact ⟨ret_int (by rw [← hz]; rfl), hB⟩
set_option maxHeartbeats 400000 in
theorem ref_join_ok (a b : BitVec 32) (n : Nat) (w : World) (hn : n ≤ 1099511627776) :
    Calls Tryd.prog 17 #[.int .u32 (n32 a), .int .u32 (n32 b), .int .i64 (n : Int)] w fun e w' =>
      e = .returned (.tuple #[.int .u32 (n32 (Crc.zeros n a ^^^ b)), .int .i64 0]) ∧ Below w.heap.size w w' := by
  have h1 : ¬ (n : Int) < 0 := by omega
  have h2 : ¬ 1099511627776 < (n : Int) := by omega
  go_enter Tryd.func17, Tryd.ntmps17
  go_wp2_with (go_at_call 22; refine (through_any _ _ _ (by omega)).mono ?_; rintro e w' ⟨rfl, hb⟩)
  go_ret2
  exact ⟨rfl, hb⟩

set_option maxHeartbeats 400000 in
theorem ref_join_bad (a b : BitVec 32) (n : Int) (w : World) (hn : n < 0 ∨ 1099511627776 < n) :
    Calls Tryd.prog 17 #[.int .u32 (n32 a), .int .u32 (n32 b), .int .i64 n] w fun e w' =>
      e = .returned (.tuple #[.int .u32 0, .int .i64 1]) ∧ w = w' := by
  by_cases h1 : n < 0
  · clear hn
    go_enter Tryd.func17, Tryd.ntmps17
    go_wp2_with fail
    go_ret2
    exact ⟨rfl, rfl⟩
  · have h2 : 1099511627776 < n := by omega
    clear hn
    go_enter Tryd.func17, Tryd.ntmps17
    go_wp2_with fail
    go_ret2
    exact ⟨rfl, rfl⟩

set_option maxHeartbeats 800000 in
theorem ref_turn_ok (s : BitVec 32) (n at_ : Nat) (A B : Option Addr) (ca cb : Nat) (was now : List UInt8) (w : World) (hA : Bytes w A was) (hB : Bytes w B now)
    (hn : n ≤ 1099511627776) (hl : was.length = now.length) (ha : at_ + was.length ≤ n) :
    Calls Tryd.prog 18 #[.int .u32 (n32 s), .int .i64 (n : Int), .int .i64 (at_ : Int), .slice A was.length ca, .slice B now.length cb] w fun e w' =>
      e = .returned (.tuple #[.int .u32 (n32 (s ^^^ Crc.zeros (n - at_ - was.length) (Crc.crc was ^^^ Crc.crc now))), .int .i64 0]) ∧ Below w.heap.size w w' := by
  have h1 : ¬ (n : Int) < 0 := by omega
  have h2 : ¬ (at_ : Int) < 0 := by omega
  have h3 : ¬ 1099511627776 < (n : Int) := by omega
  have h4 : ((was.length : Int) != (now.length : Int)) = false := by rw [hl]; simp
  have h5 : ¬ (n : Int) - (was.length : Int) < (at_ : Int) := by omega
  have h6 : (n : Int) - (at_ : Int) - (was.length : Int) = ((n - at_ - was.length : Nat) : Int) := by omega
  have H6 := Lib.hid h6
  have HL := Lib.hid hl
  clear h6 hl
  have hlw : was.length ≤ 1099511627776 := by omega
  have hln : now.length ≤ 1099511627776 := by have := HL.out; omega
  go_enter Tryd.func18, Tryd.ntmps18
  go_wp2_with fail
  refine (ref_of_any _ _ was _ hA (by omega)).mono ?_
  rintro e w' ⟨rfl, rfl⟩
  go_wp2_with fail
  refine (ref_of_any _ _ now _ hB (by omega)).mono ?_
  rintro e w' ⟨rfl, rfl⟩
  go_wp2_with (go_at_call 22; rw [H6.out]; refine (through_any _ _ _ (by omega)).mono ?_; rintro e w' ⟨rfl, hb⟩)
  go_ret2
  exact ⟨rfl, hb⟩

set_option maxHeartbeats 1600000 in
theorem ref_turn_bad (s : BitVec 32) (n at_ : Int) (A B : Option Addr) (la lb ca cb : Nat) (w : World) (h0 : -9223372036854775808 ≤ n) (hA : la ≤ 140737488355328) (hB : lb ≤ 140737488355328)
    (h : n < 0 ∨ at_ < 0 ∨ 1099511627776 < n ∨ la ≠ lb ∨ n - (la : Int) < at_) :
    Calls Tryd.prog 18 #[.int .u32 (n32 s), .int .i64 n, .int .i64 at_, .slice A la ca, .slice B lb cb] w fun e w' =>
      e = .returned (.tuple #[.int .u32 0, .int .i64 1]) ∧ w = w' := by
  by_cases h1 : n < 0
  · clear h
    go_enter Tryd.func18, Tryd.ntmps18
    go_wp2_with fail
    go_ret2
    exact ⟨rfl, rfl⟩
  by_cases h2 : at_ < 0
  · clear h
    go_enter Tryd.func18, Tryd.ntmps18
    go_wp2_with fail
    go_ret2
    exact ⟨rfl, rfl⟩
  by_cases h3 : 1099511627776 < n
  · clear h
    go_enter Tryd.func18, Tryd.ntmps18
    go_wp2_with fail
    go_ret2
    exact ⟨rfl, rfl⟩
  by_cases h4 : la = lb
  · have h5 : n - (la : Int) < at_ := by omega
    have h6 : ((la : Int) != (lb : Int)) = false := by rw [h4]; simp
    clear h h4
    by_cases h7 : n < (la : Int)
    · clear h5
      go_enter Tryd.func18, Tryd.ntmps18
      go_wp2_with fail
      go_ret2
      exact ⟨rfl, rfl⟩
    · go_enter Tryd.func18, Tryd.ntmps18
      go_wp2_with fail
      go_ret2
      exact ⟨rfl, rfl⟩
  · have h6 : ((la : Int) != (lb : Int)) = true := by simp; omega
    clear h h4
    go_enter Tryd.func18, Tryd.ntmps18
    go_wp2_with fail
    go_ret2
    exact ⟨rfl, rfl⟩
end Go.Proofs.YtjglffejoflpoaaDoor
