/-
  THE WALK OF GeoLays: regions one behind the other, every bit and every record at a place of its own.
-/
import Derived.Test.YtaijakknhmagoaaDoorGeoK
set_option linter.unusedVariables false
set_option linter.unusedSimpArgs false
namespace Go.Proofs.YtaijakknhmagoaaDoor
open Go.RowKit Rec Gp

/-- the number of blocks that a number is made -/
theorem made_num (k : Int) (h0 : -9223372036854775808 ≤ k) (h1 : k ≤ 9223372036854775807) : ∃ u m n : Nat, IntKind.u64.wrap k = (u : Int) ∧ (u : Int) % 16257 = (m : Int) ∧ (m : Int) ≤ 16256 ∧ 128 + m = n ∧ Disk n := by
  refine ⟨(k % 18446744073709551616).toNat, (k % 18446744073709551616).toNat % 16257, 128 + (k % 18446744073709551616).toNat % 16257, ?_, by omega, by omega, rfl, ?_⟩
  · by_cases h : 0 ≤ k
    · rw [IntWalk.u64_in _ (by omega)]; omega
    · rw [show IntKind.u64.wrap k = k % 18446744073709551616 from rfl]; omega
  · unfold Disk; omega

theorem geoAt {w : World} {g n : Nat} {t : TypeId} (h : Is w g t #[.int .i64 (n : Int), .int .i64 98, .int .i64 (ino n : Int), .int .i64 (dat n : Int), .int .i64 (cnt n : Int)]) : w.cell? ⟨g, 0, none⟩ = some (.int .i64 (n : Int)) ∧ w.cell? ⟨g, 1, none⟩ = some (.int .i64 98) ∧
    w.cell? ⟨g, 2, none⟩ = some (.int .i64 (ino n : Int)) ∧ w.cell? ⟨g, 3, none⟩ = some (.int .i64 (dat n : Int)) ∧ w.cell? ⟨g, 4, none⟩ = some (.int .i64 (cnt n : Int)) := ⟨h.cell 0, h.cell 1, h.cell 2, h.cell 3, h.cell 4⟩

set_option maxRecDepth 100000 in
set_option maxHeartbeats 6400000 in
theorem lays_any (k : Int) (w : World) (hw : WidthsAt w) (hh : HalfAt w) (hk0 : -9223372036854775808 ≤ k) (hk1 : k ≤ 9223372036854775807) :
    Calls Tryd.prog 7 #[.int .i64 k] w fun e w' => e = .returned (.bool true) ∧ Below w.heap.size w w' := by
  obtain ⟨u, m, n, hu, hum, hmb, hn, hd⟩ := made_num k hk0 hk1
  have hmn : 128 + (m : Int) = (n : Int) := by omega
  have hn1 : 128 ≤ (n : Int) := hd.1
  have hn2 : (n : Int) ≤ 16384 := hd.2
  have f1 : (98 : Int) < (ino n : Int) := by unfold ino; omega
  have f2 : (ino n : Int) < (dat n : Int) := by unfold dat; omega
  have f3 : (dat n : Int) + 27 ≤ (n : Int) := by unfold dat ino; omega
  have f4 : (16 : Int) ≤ (cnt n : Int) := by unfold cnt; omega
  have f5 : (n : Int) ≤ ((ino n : Int) - 98) * 4096 := by unfold ino; omega
  have f6 : ((ino n : Int) - 98 - 1) * 4096 < (n : Int) := by unfold ino; omega
  have f7 : (((dat n : Int) - (ino n : Int)) * 8 != (cnt n : Int)) = false := by rw [bne_eq_false_iff_eq]; unfold dat cnt; omega
  have f8 : ((dat n : Int) - (ino n : Int)) * 64 ≤ (n : Int) := by unfold dat; omega
  have f9 : (n : Int) < ((dat n : Int) - (ino n : Int) + 1) * 64 := by unfold dat; omega
  have b1 : (ino n : Int) ≤ 200 := by unfold ino; omega
  have b2 : (dat n : Int) ≤ 1000 := by unfold dat ino; omega
  have b3 : (cnt n : Int) ≤ 4000 := by unfold cnt; omega
  have HW := Lib.hid hw
  have HH := Lib.hid hh
  have hgw := hw.lt
  have hgh := hh.lt
  have HD := Lib.hid hd
  clear hw hh hd hn
  go_enter Tryd.func7, Tryd.ntmps7
  go_wp2_with (first
    | (go_at_call 8; refine (known_any _ HW.out HH.out).mono ?_; rintro e w1 ⟨rfl, hb1⟩; have HB1 := Lib.hid hb1)
    | (go_at_call 9; refine (geo_of_ok n _ HD.out).mono ?_; rintro e w2 ⟨rfl, hb2⟩; unfold geoCells; obtain ⟨hbn, hgn⟩ := one_new w2 #[.int .i64 (n : Int), .int .i64 98, .int .i64 (ino n : Int), .int .i64 (dat n : Int), .int .i64 (cnt n : Int)] 24; have HB3 := Lib.hid ((HB1.out.trans (hb2.mono HB1.out.size)).trans (hbn.mono (HB1.out.trans (hb2.mono HB1.out.size)).size)); have HG3 := Lib.hid hgn; have hs2 : w.heap.size ≤ w2.heap.size := (HB1.out.trans (hb2.mono HB1.out.size)).size; clear hbn hgn hb2)
    | (go_at_call 11; refine (num_any _ _).mono ?_; rintro e w' ⟨rfl, rfl⟩))
  clear f3 f4 f5 f6 f7 f8 f9 hu hum hmb hmn hk0 hk1
  go_loopw [5] (fun i wr => ∃ j : Nat, j ≤ n ∧ i = .int .i64 j ∧ Is wr w2.heap.size 24 #[.int .i64 (n : Int), .int .i64 98, .int .i64 (ino n : Int), .int .i64 (dat n : Int), .int .i64 (cnt n : Int)] ∧ Below w.heap.size w wr) (fun i _ => n - (intOf i).toNat)
  case atStart => exact ⟨0, Nat.zero_le _, rfl, HG3.out, HB3.out⟩
  case round =>
    obtain ⟨j, hj, rfl, hG, hB⟩ := hrel
    have HG := Lib.hid hG
    have HB := Lib.hid hB
    have hgl := hG.lt
    have hBs := hB.size
    obtain ⟨c0, c1, c2, c3, c4⟩ := geoAt hG
    by_cases hjn : j < n
    · have hd : (j : Int) < (n : Int) := by omega
      have hj0 : 0 ≤ (j : Int) := by omega
      obtain ⟨q, hq⟩ : ∃ q : Nat, j / 4096 = q := ⟨_, rfl⟩
      obtain ⟨r, hr⟩ : ∃ r : Nat, j % 4096 = r := ⟨_, rfl⟩
      have hqi : (j : Int) / 4096 = (q : Int) := by omega
      have hri : (j : Int) % 4096 = (r : Int) := by omega
      have t1 : 98 + (q : Int) < (ino n : Int) := by unfold ino; omega
      have t2 : (r : Int) < 4096 := by omega
      have t3 : (98 + (q : Int) - 98) * 4096 + (r : Int) = (j : Int) := by omega
      have t4 : ((98 + (q : Int) - 98) * 4096 + (r : Int) != (j : Int)) = false := by rw [bne_eq_false_iff_eq]; exact t3
      have t5 : ((q : Int) * 4096 + (r : Int) != (j : Int)) = false := by rw [bne_eq_false_iff_eq]; omega
      clear hq hr hG hB t3
      go_wp2_with (first
        | (go_at_call 16; refine (geo_bit_ok n j _ HD.out hj0 hd).mono ?_; rintro e w4 ⟨rfl, hb4⟩; rw [hqi, hri]; have HG4 := Lib.hid (HG.out.below hb4 hgl); have HB4 := Lib.hid (HB.out.trans (hb4.mono hBs)); obtain ⟨e0, e1, e2, e3, e4⟩ := geoAt HG4.out)
        | (go_at_call 11; refine (num_any _ _).mono ?_; rintro e w' ⟨rfl, rfl⟩))
      go_roundw
      case rel => exact ⟨j + 1, by omega, by go_num, HG4.out, HB4.out⟩
      case measure => simp [intOf]; omega
    · obtain ⟨w5, rfl⟩ : ∃ w5 : World, w5 = wr := ⟨_, rfl⟩
      obtain rfl : n = j := by omega
      clear hG hB
      go_wp2_with fail
      go_loopw [9] (fun i wr => ∃ j : Nat, 1 ≤ j ∧ j ≤ cnt n ∧ i = .int .i64 j ∧ Is wr w2.heap.size 24 #[.int .i64 (n : Int), .int .i64 98, .int .i64 (ino n : Int), .int .i64 (dat n : Int), .int .i64 (cnt n : Int)] ∧ Below w.heap.size w wr) (fun i _ => cnt n - (intOf i).toNat)
      case atStart => exact ⟨1, Nat.le_refl _, by omega, rfl, HG.out, HB.out⟩
      case round =>
        obtain ⟨j, hj1, hjc, rfl, hG, hB⟩ := hrel
        have HG := Lib.hid hG
        have HB := Lib.hid hB
        have hgl := hG.lt
        have hBs := hB.size
        obtain ⟨c0, c1, c2, c3, c4⟩ := geoAt hG
        by_cases hjn2 : j < cnt n
        · have hd : (j : Int) < (cnt n : Int) := by omega
          have hj0 : 1 ≤ (j : Int) := by omega
          obtain ⟨q, hq⟩ : ∃ q : Nat, j / 8 = q := ⟨_, rfl⟩
          obtain ⟨r, hr⟩ : ∃ r : Nat, j % 8 = r := ⟨_, rfl⟩
          have hqi : (j : Int) / 8 = (q : Int) := by omega
          have hri : (j : Int) % 8 = (r : Int) := by omega
          have t1 : (ino n : Int) + (q : Int) < (dat n : Int) := by unfold cnt at hjn2; unfold dat; omega
          have t2 : (r : Int) < 8 := by omega
          have t2' : (r : Int) * 64 ≤ 448 := by omega
          have t4 : (((ino n : Int) + (q : Int) - (ino n : Int)) * 512 + (r : Int) * 64 != 64 * (j : Int)) = false := by rw [bne_eq_false_iff_eq]; omega
          have t5 : ((q : Int) * 512 + (r : Int) * 64 != 64 * (j : Int)) = false := by rw [bne_eq_false_iff_eq]; omega
          clear hq hr hG hB
          go_wp2_with (first
            | (go_at_call 18; refine (geo_record_ok n j _ HD.out hj0 hd).mono ?_; rintro e w4 ⟨rfl, hb4⟩; rw [hqi, hri]; have HG4 := Lib.hid (HG.out.below hb4 hgl); have HB4 := Lib.hid (HB.out.trans (hb4.mono hBs)); obtain ⟨e0, e1, e2, e3, e4⟩ := geoAt HG4.out)
            | (go_at_call 11; refine (num_any _ _).mono ?_; rintro e w' ⟨rfl, rfl⟩))
          go_roundw
          case rel => exact ⟨j + 1, by omega, by omega, by go_num, HG4.out, HB4.out⟩
          case measure => simp [intOf]; omega
        · obtain ⟨w6, rfl⟩ : ∃ w6 : World, w6 = wr := ⟨_, rfl⟩
          have hjc2 : (cnt n : Int) ≤ (j : Int) := by omega
          clear hG hB
          go_wp2_with (first
            | (go_at_call 16; refine (geo_bit_bad n _ _ (by omega)).mono ?_; rintro e w4 ⟨rfl, hb4⟩; have HB := Lib.hid (HB.out.trans (hb4.mono hBs)); have hBs := HB.out.size; have HG := Lib.hid (HG.out.below hb4 hgl); have hgl := HG.out.lt; obtain ⟨e0, e1, e2, e3, e4⟩ := geoAt HG.out)
            | (go_at_call 18; refine (geo_record_bad n _ _ (by omega)).mono ?_; rintro e w4 ⟨rfl, hb4⟩; have HB := Lib.hid (HB.out.trans (hb4.mono hBs)); have hBs := HB.out.size; have HG := Lib.hid (HG.out.below hb4 hgl); have hgl := HG.out.lt; obtain ⟨e0, e1, e2, e3, e4⟩ := geoAt HG.out)
            | (go_at_call 11; refine (num_any _ _).mono ?_; rintro e w' ⟨rfl, rfl⟩))
          go_ret
          exact ⟨rfl, HB.out⟩
end Go.Proofs.YtaijakknhmagoaaDoor
