/-
  THE WALK OF GeoGrows, case by case: a larger disk has no less; what may not be is refused alike.
-/
import Derived.Test.YtaijakknhmagoaaDoorGeoK
set_option linter.unusedVariables false
set_option linter.unusedSimpArgs false
namespace Go.Proofs.YtaijakknhmagoaaDoor
open Go.RowKit Rec Gp

theorem grows_one (n : Nat) : n + dat (n + 1) ≤ n + 1 + dat n := by unfold dat ino; omega
theorem grows_data (a b : Nat) (h : a ≤ b) : (a : Int) - (dat a : Int) ≤ (b : Int) - (dat b : Int) := by
  obtain ⟨d, rfl⟩ := Nat.exists_eq_add_of_le h
  clear h
  induction d with
  | zero => exact Int.le_refl _
  | succ d ih =>
    have := grows_one (a + d)
    rw [show a + (d + 1) = a + d + 1 by omega]
    omega

set_option maxRecDepth 100000 in
set_option maxHeartbeats 3200000 in
theorem grows_same_ok (a : Nat) (w : World) (hw : WidthsAt w) (hh : HalfAt w) (hda : Disk a) :
    Calls Tryd.prog 3 #[.int .i64 (a : Int), .int .i64 (a : Int)] w fun e w' => e = .returned (.bool true) ∧ Below w.heap.size w w' := by
  have HW := Lib.hid hw
  have HH := Lib.hid hh
  have hgw := hw.lt
  have hgh := hh.lt
  have HDa := Lib.hid hda
  have hna1 : (128 : Int) ≤ (a : Int) := hda.1
  have hna2 : (a : Int) ≤ 16384 := hda.2
  have hdta : (dat a : Int) ≤ (a : Int) := by unfold dat ino; omega
  have hm1 : (a : Int) - (dat a : Int) ≤ (a : Int) - (dat a : Int) := by omega
  have hm2 : (cnt a : Int) ≤ (cnt a : Int) := by omega
  have hsw : (a : Int) ≤ (a : Int) := by omega
  clear hw hh hda
  go_enter Tryd.func3, Tryd.ntmps3
  go_wp2_with fail
  refine (known_any _ HW.out HH.out).mono ?_
  rintro e w1 ⟨rfl, hb⟩
  have HB1 := Lib.hid hb
  clear hb
  go_wp2_with fail
  refine (geo_of_ok a _ HDa.out).mono ?_
  rintro e w2 ⟨rfl, hb⟩
  unfold geoCells
  obtain ⟨hbn, hgn⟩ := one_new w2 #[.int .i64 (a : Int), .int .i64 98, .int .i64 (ino a : Int), .int .i64 (dat a : Int), .int .i64 (cnt a : Int)] 24
  have hbx := HB1.out.trans (hb.mono HB1.out.size)
  have HB2 := Lib.hid (hbx.trans (hbn.mono hbx.size))
  have HG1 := Lib.hid hgn
  clear hb hbn hgn hbx
  go_wp2_with fail
  refine (geo_of_ok a _ HDa.out).mono ?_
  rintro e w3 ⟨rfl, hb⟩
  unfold geoCells
  obtain ⟨hbn, hgn⟩ := one_new w3 #[.int .i64 (a : Int), .int .i64 98, .int .i64 (ino a : Int), .int .i64 (dat a : Int), .int .i64 (cnt a : Int)] 24
  have hbx := HB2.out.trans (hb.mono HB2.out.size)
  have HB3 := Lib.hid (hbx.trans (hbn.mono hbx.size))
  have HG2 := Lib.hid hgn
  have HG1 := Lib.hid ((HG1.out.below hb HG1.out.lt).alloc (.cells #[.int .i64 (a : Int), .int .i64 98, .int .i64 (ino a : Int), .int .i64 (dat a : Int), .int .i64 (cnt a : Int)] 24))
  clear hb hbn hgn hbx
  go_wp2_with fail
  refine (super_ok a _ HDa.out (HW.out.below HB3.out hgw) (HH.out.below HB3.out hgh)).mono ?_
  rintro e w4 ⟨g4, c4, rfl, hm4, hb⟩
  have HM4 := Lib.hid hm4
  have HB4 := Lib.hid (HB3.out.trans (hb.mono HB3.out.size))
  have HG1 := Lib.hid (HG1.out.below hb HG1.out.lt)
  have HG2 := Lib.hid (HG2.out.below hb HG2.out.lt)
  skip
  clear hb hm4
  go_wp2_with fail
  refine (super_ok a _ HDa.out (HW.out.below HB4.out hgw) (HH.out.below HB4.out hgh)).mono ?_
  rintro e w5 ⟨g5, c5, rfl, hm5, hb⟩
  have HM5 := Lib.hid hm5
  have HB5 := Lib.hid (HB4.out.trans (hb.mono HB4.out.size))
  have HG1 := Lib.hid (HG1.out.below hb HG1.out.lt)
  have HG2 := Lib.hid (HG2.out.below hb HG2.out.lt)
  have s1 := str_any w5 (some ⟨g4, 0, none⟩) c4 (superL a) (HM4.out.later hb).bytes 512 (superL_length a)
  have s2 := str_any w5 (some ⟨g5, 0, none⟩) c5 (superL a) HM5.out.bytes 512 (superL_length a)
  clear hb hm5
  have x0 := HG1.out.cell 0
  have x1 := HG1.out.cell 1
  have x2 := HG1.out.cell 2
  have x3 := HG1.out.cell 3
  have x4 := HG1.out.cell 4
  have y0 := HG2.out.cell 0
  have y1 := HG2.out.cell 1
  have y2 := HG2.out.cell 2
  have y3 := HG2.out.cell 3
  have y4 := HG2.out.cell 4
  go_wp2_with (go_at_call 11; refine (num_any _ _).mono ?_; rintro e w' ⟨rfl, rfl⟩)
  go_ret
  exact ⟨rfl, HB5.out⟩
set_option maxRecDepth 100000 in
set_option maxHeartbeats 3200000 in
theorem grows_same_low (a : Int) (w : World) (hw : WidthsAt w) (hh : HalfAt w) (hda : a < 128) (hra : -9223372036854775808 ≤ a) :
    Calls Tryd.prog 3 #[.int .i64 a, .int .i64 a] w fun e w' => e = .returned (.bool true) ∧ Below w.heap.size w w' := by
  have HW := Lib.hid hw
  have HH := Lib.hid hh
  have hgw := hw.lt
  have hgh := hh.lt
  have HDa := Lib.hid (show ¬ Disk a by unfold Disk; omega)
  have hsw : a ≤ a := by omega
  clear hw hh
  go_enter Tryd.func3, Tryd.ntmps3
  go_wp2_with fail
  refine (known_any _ HW.out HH.out).mono ?_
  rintro e w1 ⟨rfl, hb⟩
  have HB1 := Lib.hid hb
  clear hb
  go_wp2_with fail
  refine (geo_of_bad a _ HDa.out).mono ?_
  rintro e w2 ⟨rfl, hb⟩
  unfold noCells
  obtain ⟨hbn, hgn⟩ := one_new w2 #[.int .i64 0, .int .i64 0, .int .i64 0, .int .i64 0, .int .i64 0] 24
  have hbx := HB1.out.trans (hb.mono HB1.out.size)
  have HB2 := Lib.hid (hbx.trans (hbn.mono hbx.size))
  have HG1 := Lib.hid hgn
  clear hb hbn hgn hbx
  go_wp2_with fail
  refine (geo_of_bad a _ HDa.out).mono ?_
  rintro e w3 ⟨rfl, hb⟩
  unfold noCells
  obtain ⟨hbn, hgn⟩ := one_new w3 #[.int .i64 0, .int .i64 0, .int .i64 0, .int .i64 0, .int .i64 0] 24
  have hbx := HB2.out.trans (hb.mono HB2.out.size)
  have HB3 := Lib.hid (hbx.trans (hbn.mono hbx.size))
  have HG2 := Lib.hid hgn
  have HG1 := Lib.hid ((HG1.out.below hb HG1.out.lt).alloc (.cells #[.int .i64 0, .int .i64 0, .int .i64 0, .int .i64 0, .int .i64 0] 24))
  clear hb hbn hgn hbx
  go_wp2_with fail
  refine (super_bad a _ HDa.out).mono ?_
  rintro e w4 ⟨rfl, hb⟩
  have HB4 := Lib.hid (HB3.out.trans (hb.mono HB3.out.size))
  have HG1 := Lib.hid (HG1.out.below hb HG1.out.lt)
  have HG2 := Lib.hid (HG2.out.below hb HG2.out.lt)
  skip
  clear hb
  go_wp2_with fail
  refine (super_bad a _ HDa.out).mono ?_
  rintro e w5 ⟨rfl, hb⟩
  have HB5 := Lib.hid (HB4.out.trans (hb.mono HB4.out.size))
  have HG1 := Lib.hid (HG1.out.below hb HG1.out.lt)
  have HG2 := Lib.hid (HG2.out.below hb HG2.out.lt)
  skip
  clear hb
  have x0 := HG1.out.cell 0
  have x1 := HG1.out.cell 1
  have x2 := HG1.out.cell 2
  have x3 := HG1.out.cell 3
  have x4 := HG1.out.cell 4
  have y0 := HG2.out.cell 0
  have y1 := HG2.out.cell 1
  have y2 := HG2.out.cell 2
  have y3 := HG2.out.cell 3
  have y4 := HG2.out.cell 4
  go_wp2_with (go_at_call 11; refine (num_any _ _).mono ?_; rintro e w' ⟨rfl, rfl⟩)
  go_ret
  exact ⟨rfl, HB5.out⟩
set_option maxRecDepth 100000 in
set_option maxHeartbeats 3200000 in
theorem grows_same_high (a : Int) (w : World) (hw : WidthsAt w) (hh : HalfAt w) (hda : 16384 < a) (hra : a ≤ 9223372036854775807) :
    Calls Tryd.prog 3 #[.int .i64 a, .int .i64 a] w fun e w' => e = .returned (.bool true) ∧ Below w.heap.size w w' := by
  have HW := Lib.hid hw
  have HH := Lib.hid hh
  have hgw := hw.lt
  have hgh := hh.lt
  have HDa := Lib.hid (show ¬ Disk a by unfold Disk; omega)
  have hna1 : (128 : Int) ≤ a := by omega
  have hsw : a ≤ a := by omega
  clear hw hh
  go_enter Tryd.func3, Tryd.ntmps3
  go_wp2_with fail
  refine (known_any _ HW.out HH.out).mono ?_
  rintro e w1 ⟨rfl, hb⟩
  have HB1 := Lib.hid hb
  clear hb
  go_wp2_with fail
  refine (geo_of_bad a _ HDa.out).mono ?_
  rintro e w2 ⟨rfl, hb⟩
  unfold noCells
  obtain ⟨hbn, hgn⟩ := one_new w2 #[.int .i64 0, .int .i64 0, .int .i64 0, .int .i64 0, .int .i64 0] 24
  have hbx := HB1.out.trans (hb.mono HB1.out.size)
  have HB2 := Lib.hid (hbx.trans (hbn.mono hbx.size))
  have HG1 := Lib.hid hgn
  clear hb hbn hgn hbx
  go_wp2_with fail
  refine (geo_of_bad a _ HDa.out).mono ?_
  rintro e w3 ⟨rfl, hb⟩
  unfold noCells
  obtain ⟨hbn, hgn⟩ := one_new w3 #[.int .i64 0, .int .i64 0, .int .i64 0, .int .i64 0, .int .i64 0] 24
  have hbx := HB2.out.trans (hb.mono HB2.out.size)
  have HB3 := Lib.hid (hbx.trans (hbn.mono hbx.size))
  have HG2 := Lib.hid hgn
  have HG1 := Lib.hid ((HG1.out.below hb HG1.out.lt).alloc (.cells #[.int .i64 0, .int .i64 0, .int .i64 0, .int .i64 0, .int .i64 0] 24))
  clear hb hbn hgn hbx
  go_wp2_with fail
  refine (super_bad a _ HDa.out).mono ?_
  rintro e w4 ⟨rfl, hb⟩
  have HB4 := Lib.hid (HB3.out.trans (hb.mono HB3.out.size))
  have HG1 := Lib.hid (HG1.out.below hb HG1.out.lt)
  have HG2 := Lib.hid (HG2.out.below hb HG2.out.lt)
  skip
  clear hb
  go_wp2_with fail
  refine (super_bad a _ HDa.out).mono ?_
  rintro e w5 ⟨rfl, hb⟩
  have HB5 := Lib.hid (HB4.out.trans (hb.mono HB4.out.size))
  have HG1 := Lib.hid (HG1.out.below hb HG1.out.lt)
  have HG2 := Lib.hid (HG2.out.below hb HG2.out.lt)
  skip
  clear hb
  have x0 := HG1.out.cell 0
  have x1 := HG1.out.cell 1
  have x2 := HG1.out.cell 2
  have x3 := HG1.out.cell 3
  have x4 := HG1.out.cell 4
  have y0 := HG2.out.cell 0
  have y1 := HG2.out.cell 1
  have y2 := HG2.out.cell 2
  have y3 := HG2.out.cell 3
  have y4 := HG2.out.cell 4
  go_wp2_with (go_at_call 11; refine (num_any _ _).mono ?_; rintro e w' ⟨rfl, rfl⟩)
  go_ret
  exact ⟨rfl, HB5.out⟩
set_option maxRecDepth 100000 in
set_option maxHeartbeats 3200000 in
theorem grows_low_low (a : Int) (b : Int) (w : World) (hw : WidthsAt w) (hh : HalfAt w) (hda : a < 128) (hra : -9223372036854775808 ≤ a) (hdb : b < 128) (hrb : -9223372036854775808 ≤ b) (hab : a < b) :
    Calls Tryd.prog 3 #[.int .i64 a, .int .i64 b] w fun e w' => e = .returned (.bool true) ∧ Below w.heap.size w w' := by
  have HW := Lib.hid hw
  have HH := Lib.hid hh
  have hgw := hw.lt
  have hgh := hh.lt
  have HDa := Lib.hid (show ¬ Disk a by unfold Disk; omega)
  have HDb := Lib.hid (show ¬ Disk b by unfold Disk; omega)
  have hsw : a ≤ b := by omega
  clear hw hh hab
  go_enter Tryd.func3, Tryd.ntmps3
  go_wp2_with fail
  refine (known_any _ HW.out HH.out).mono ?_
  rintro e w1 ⟨rfl, hb⟩
  have HB1 := Lib.hid hb
  clear hb
  go_wp2_with fail
  refine (geo_of_bad a _ HDa.out).mono ?_
  rintro e w2 ⟨rfl, hb⟩
  unfold noCells
  obtain ⟨hbn, hgn⟩ := one_new w2 #[.int .i64 0, .int .i64 0, .int .i64 0, .int .i64 0, .int .i64 0] 24
  have hbx := HB1.out.trans (hb.mono HB1.out.size)
  have HB2 := Lib.hid (hbx.trans (hbn.mono hbx.size))
  have HG1 := Lib.hid hgn
  clear hb hbn hgn hbx
  go_wp2_with fail
  refine (geo_of_bad b _ HDb.out).mono ?_
  rintro e w3 ⟨rfl, hb⟩
  unfold noCells
  obtain ⟨hbn, hgn⟩ := one_new w3 #[.int .i64 0, .int .i64 0, .int .i64 0, .int .i64 0, .int .i64 0] 24
  have hbx := HB2.out.trans (hb.mono HB2.out.size)
  have HB3 := Lib.hid (hbx.trans (hbn.mono hbx.size))
  have HG2 := Lib.hid hgn
  have HG1 := Lib.hid ((HG1.out.below hb HG1.out.lt).alloc (.cells #[.int .i64 0, .int .i64 0, .int .i64 0, .int .i64 0, .int .i64 0] 24))
  clear hb hbn hgn hbx
  go_wp2_with fail
  refine (super_bad a _ HDa.out).mono ?_
  rintro e w4 ⟨rfl, hb⟩
  have HB4 := Lib.hid (HB3.out.trans (hb.mono HB3.out.size))
  have HG1 := Lib.hid (HG1.out.below hb HG1.out.lt)
  have HG2 := Lib.hid (HG2.out.below hb HG2.out.lt)
  skip
  clear hb
  go_wp2_with fail
  refine (super_bad b _ HDb.out).mono ?_
  rintro e w5 ⟨rfl, hb⟩
  have HB5 := Lib.hid (HB4.out.trans (hb.mono HB4.out.size))
  have HG1 := Lib.hid (HG1.out.below hb HG1.out.lt)
  have HG2 := Lib.hid (HG2.out.below hb HG2.out.lt)
  skip
  clear hb
  have x0 := HG1.out.cell 0
  have x1 := HG1.out.cell 1
  have x2 := HG1.out.cell 2
  have x3 := HG1.out.cell 3
  have x4 := HG1.out.cell 4
  have y0 := HG2.out.cell 0
  have y1 := HG2.out.cell 1
  have y2 := HG2.out.cell 2
  have y3 := HG2.out.cell 3
  have y4 := HG2.out.cell 4
  go_wp2_with (go_at_call 11; refine (num_any _ _).mono ?_; rintro e w' ⟨rfl, rfl⟩)
  go_ret
  exact ⟨rfl, HB5.out⟩
set_option maxRecDepth 100000 in
set_option maxHeartbeats 3200000 in
theorem grows_low_low_s (a : Int) (b : Int) (w : World) (hw : WidthsAt w) (hh : HalfAt w) (hda : a < 128) (hra : -9223372036854775808 ≤ a) (hdb : b < 128) (hrb : -9223372036854775808 ≤ b) (hab : a < b) :
    Calls Tryd.prog 3 #[.int .i64 b, .int .i64 a] w fun e w' => e = .returned (.bool true) ∧ Below w.heap.size w w' := by
  have HW := Lib.hid hw
  have HH := Lib.hid hh
  have hgw := hw.lt
  have hgh := hh.lt
  have HDa := Lib.hid (show ¬ Disk a by unfold Disk; omega)
  have HDb := Lib.hid (show ¬ Disk b by unfold Disk; omega)
  have hsw : a < b := hab
  clear hw hh
  go_enter Tryd.func3, Tryd.ntmps3
  go_wp2_with fail
  refine (known_any _ HW.out HH.out).mono ?_
  rintro e w1 ⟨rfl, hb⟩
  have HB1 := Lib.hid hb
  clear hb
  go_wp2_with fail
  refine (geo_of_bad a _ HDa.out).mono ?_
  rintro e w2 ⟨rfl, hb⟩
  unfold noCells
  obtain ⟨hbn, hgn⟩ := one_new w2 #[.int .i64 0, .int .i64 0, .int .i64 0, .int .i64 0, .int .i64 0] 24
  have hbx := HB1.out.trans (hb.mono HB1.out.size)
  have HB2 := Lib.hid (hbx.trans (hbn.mono hbx.size))
  have HG1 := Lib.hid hgn
  clear hb hbn hgn hbx
  go_wp2_with fail
  refine (geo_of_bad b _ HDb.out).mono ?_
  rintro e w3 ⟨rfl, hb⟩
  unfold noCells
  obtain ⟨hbn, hgn⟩ := one_new w3 #[.int .i64 0, .int .i64 0, .int .i64 0, .int .i64 0, .int .i64 0] 24
  have hbx := HB2.out.trans (hb.mono HB2.out.size)
  have HB3 := Lib.hid (hbx.trans (hbn.mono hbx.size))
  have HG2 := Lib.hid hgn
  have HG1 := Lib.hid ((HG1.out.below hb HG1.out.lt).alloc (.cells #[.int .i64 0, .int .i64 0, .int .i64 0, .int .i64 0, .int .i64 0] 24))
  clear hb hbn hgn hbx
  go_wp2_with fail
  refine (super_bad a _ HDa.out).mono ?_
  rintro e w4 ⟨rfl, hb⟩
  have HB4 := Lib.hid (HB3.out.trans (hb.mono HB3.out.size))
  have HG1 := Lib.hid (HG1.out.below hb HG1.out.lt)
  have HG2 := Lib.hid (HG2.out.below hb HG2.out.lt)
  skip
  clear hb
  go_wp2_with fail
  refine (super_bad b _ HDb.out).mono ?_
  rintro e w5 ⟨rfl, hb⟩
  have HB5 := Lib.hid (HB4.out.trans (hb.mono HB4.out.size))
  have HG1 := Lib.hid (HG1.out.below hb HG1.out.lt)
  have HG2 := Lib.hid (HG2.out.below hb HG2.out.lt)
  skip
  clear hb
  have x0 := HG1.out.cell 0
  have x1 := HG1.out.cell 1
  have x2 := HG1.out.cell 2
  have x3 := HG1.out.cell 3
  have x4 := HG1.out.cell 4
  have y0 := HG2.out.cell 0
  have y1 := HG2.out.cell 1
  have y2 := HG2.out.cell 2
  have y3 := HG2.out.cell 3
  have y4 := HG2.out.cell 4
  go_wp2_with (go_at_call 11; refine (num_any _ _).mono ?_; rintro e w' ⟨rfl, rfl⟩)
  go_ret
  exact ⟨rfl, HB5.out⟩
set_option maxRecDepth 100000 in
set_option maxHeartbeats 3200000 in
theorem grows_low_ok (a : Int) (b : Nat) (w : World) (hw : WidthsAt w) (hh : HalfAt w) (hda : a < 128) (hra : -9223372036854775808 ≤ a) (hdb : Disk b) (hab : a < (b : Int)) :
    Calls Tryd.prog 3 #[.int .i64 a, .int .i64 (b : Int)] w fun e w' => e = .returned (.bool true) ∧ Below w.heap.size w w' := by
  have HW := Lib.hid hw
  have HH := Lib.hid hh
  have hgw := hw.lt
  have hgh := hh.lt
  have HDa := Lib.hid (show ¬ Disk a by unfold Disk; omega)
  have HDb := Lib.hid hdb
  have hnb1 : (128 : Int) ≤ (b : Int) := hdb.1
  have hnb2 : (b : Int) ≤ 16384 := hdb.2
  have hdtb : (dat b : Int) ≤ (b : Int) := by unfold dat ino; omega
  have hsw : a ≤ (b : Int) := by omega
  clear hw hh hab hdb
  go_enter Tryd.func3, Tryd.ntmps3
  go_wp2_with fail
  refine (known_any _ HW.out HH.out).mono ?_
  rintro e w1 ⟨rfl, hb⟩
  have HB1 := Lib.hid hb
  clear hb
  go_wp2_with fail
  refine (geo_of_bad a _ HDa.out).mono ?_
  rintro e w2 ⟨rfl, hb⟩
  unfold noCells
  obtain ⟨hbn, hgn⟩ := one_new w2 #[.int .i64 0, .int .i64 0, .int .i64 0, .int .i64 0, .int .i64 0] 24
  have hbx := HB1.out.trans (hb.mono HB1.out.size)
  have HB2 := Lib.hid (hbx.trans (hbn.mono hbx.size))
  have HG1 := Lib.hid hgn
  clear hb hbn hgn hbx
  go_wp2_with fail
  refine (geo_of_ok b _ HDb.out).mono ?_
  rintro e w3 ⟨rfl, hb⟩
  unfold geoCells
  obtain ⟨hbn, hgn⟩ := one_new w3 #[.int .i64 (b : Int), .int .i64 98, .int .i64 (ino b : Int), .int .i64 (dat b : Int), .int .i64 (cnt b : Int)] 24
  have hbx := HB2.out.trans (hb.mono HB2.out.size)
  have HB3 := Lib.hid (hbx.trans (hbn.mono hbx.size))
  have HG2 := Lib.hid hgn
  have HG1 := Lib.hid ((HG1.out.below hb HG1.out.lt).alloc (.cells #[.int .i64 (b : Int), .int .i64 98, .int .i64 (ino b : Int), .int .i64 (dat b : Int), .int .i64 (cnt b : Int)] 24))
  clear hb hbn hgn hbx
  go_wp2_with fail
  refine (super_bad a _ HDa.out).mono ?_
  rintro e w4 ⟨rfl, hb⟩
  have HB4 := Lib.hid (HB3.out.trans (hb.mono HB3.out.size))
  have HG1 := Lib.hid (HG1.out.below hb HG1.out.lt)
  have HG2 := Lib.hid (HG2.out.below hb HG2.out.lt)
  skip
  clear hb
  go_wp2_with fail
  refine (super_ok b _ HDb.out (HW.out.below HB4.out hgw) (HH.out.below HB4.out hgh)).mono ?_
  rintro e w5 ⟨g5, c5, rfl, hm5, hb⟩
  have HM5 := Lib.hid hm5
  have HB5 := Lib.hid (HB4.out.trans (hb.mono HB4.out.size))
  have HG1 := Lib.hid (HG1.out.below hb HG1.out.lt)
  have HG2 := Lib.hid (HG2.out.below hb HG2.out.lt)
  skip
  clear hb hm5
  have x0 := HG1.out.cell 0
  have x1 := HG1.out.cell 1
  have x2 := HG1.out.cell 2
  have x3 := HG1.out.cell 3
  have x4 := HG1.out.cell 4
  have y0 := HG2.out.cell 0
  have y1 := HG2.out.cell 1
  have y2 := HG2.out.cell 2
  have y3 := HG2.out.cell 3
  have y4 := HG2.out.cell 4
  go_wp2_with (go_at_call 11; refine (num_any _ _).mono ?_; rintro e w' ⟨rfl, rfl⟩)
  go_ret
  exact ⟨rfl, HB5.out⟩
set_option maxRecDepth 100000 in
set_option maxHeartbeats 3200000 in
theorem grows_low_ok_s (a : Int) (b : Nat) (w : World) (hw : WidthsAt w) (hh : HalfAt w) (hda : a < 128) (hra : -9223372036854775808 ≤ a) (hdb : Disk b) (hab : a < (b : Int)) :
    Calls Tryd.prog 3 #[.int .i64 (b : Int), .int .i64 a] w fun e w' => e = .returned (.bool true) ∧ Below w.heap.size w w' := by
  have HW := Lib.hid hw
  have HH := Lib.hid hh
  have hgw := hw.lt
  have hgh := hh.lt
  have HDa := Lib.hid (show ¬ Disk a by unfold Disk; omega)
  have HDb := Lib.hid hdb
  have hnb1 : (128 : Int) ≤ (b : Int) := hdb.1
  have hnb2 : (b : Int) ≤ 16384 := hdb.2
  have hdtb : (dat b : Int) ≤ (b : Int) := by unfold dat ino; omega
  have hsw : a < (b : Int) := hab
  clear hw hh hdb
  go_enter Tryd.func3, Tryd.ntmps3
  go_wp2_with fail
  refine (known_any _ HW.out HH.out).mono ?_
  rintro e w1 ⟨rfl, hb⟩
  have HB1 := Lib.hid hb
  clear hb
  go_wp2_with fail
  refine (geo_of_bad a _ HDa.out).mono ?_
  rintro e w2 ⟨rfl, hb⟩
  unfold noCells
  obtain ⟨hbn, hgn⟩ := one_new w2 #[.int .i64 0, .int .i64 0, .int .i64 0, .int .i64 0, .int .i64 0] 24
  have hbx := HB1.out.trans (hb.mono HB1.out.size)
  have HB2 := Lib.hid (hbx.trans (hbn.mono hbx.size))
  have HG1 := Lib.hid hgn
  clear hb hbn hgn hbx
  go_wp2_with fail
  refine (geo_of_ok b _ HDb.out).mono ?_
  rintro e w3 ⟨rfl, hb⟩
  unfold geoCells
  obtain ⟨hbn, hgn⟩ := one_new w3 #[.int .i64 (b : Int), .int .i64 98, .int .i64 (ino b : Int), .int .i64 (dat b : Int), .int .i64 (cnt b : Int)] 24
  have hbx := HB2.out.trans (hb.mono HB2.out.size)
  have HB3 := Lib.hid (hbx.trans (hbn.mono hbx.size))
  have HG2 := Lib.hid hgn
  have HG1 := Lib.hid ((HG1.out.below hb HG1.out.lt).alloc (.cells #[.int .i64 (b : Int), .int .i64 98, .int .i64 (ino b : Int), .int .i64 (dat b : Int), .int .i64 (cnt b : Int)] 24))
  clear hb hbn hgn hbx
  go_wp2_with fail
  refine (super_bad a _ HDa.out).mono ?_
  rintro e w4 ⟨rfl, hb⟩
  have HB4 := Lib.hid (HB3.out.trans (hb.mono HB3.out.size))
  have HG1 := Lib.hid (HG1.out.below hb HG1.out.lt)
  have HG2 := Lib.hid (HG2.out.below hb HG2.out.lt)
  skip
  clear hb
  go_wp2_with fail
  refine (super_ok b _ HDb.out (HW.out.below HB4.out hgw) (HH.out.below HB4.out hgh)).mono ?_
  rintro e w5 ⟨g5, c5, rfl, hm5, hb⟩
  have HM5 := Lib.hid hm5
  have HB5 := Lib.hid (HB4.out.trans (hb.mono HB4.out.size))
  have HG1 := Lib.hid (HG1.out.below hb HG1.out.lt)
  have HG2 := Lib.hid (HG2.out.below hb HG2.out.lt)
  skip
  clear hb hm5
  have x0 := HG1.out.cell 0
  have x1 := HG1.out.cell 1
  have x2 := HG1.out.cell 2
  have x3 := HG1.out.cell 3
  have x4 := HG1.out.cell 4
  have y0 := HG2.out.cell 0
  have y1 := HG2.out.cell 1
  have y2 := HG2.out.cell 2
  have y3 := HG2.out.cell 3
  have y4 := HG2.out.cell 4
  go_wp2_with (go_at_call 11; refine (num_any _ _).mono ?_; rintro e w' ⟨rfl, rfl⟩)
  go_ret
  exact ⟨rfl, HB5.out⟩
set_option maxRecDepth 100000 in
set_option maxHeartbeats 3200000 in
theorem grows_low_high (a : Int) (b : Int) (w : World) (hw : WidthsAt w) (hh : HalfAt w) (hda : a < 128) (hra : -9223372036854775808 ≤ a) (hdb : 16384 < b) (hrb : b ≤ 9223372036854775807) (hab : a < b) :
    Calls Tryd.prog 3 #[.int .i64 a, .int .i64 b] w fun e w' => e = .returned (.bool true) ∧ Below w.heap.size w w' := by
  have HW := Lib.hid hw
  have HH := Lib.hid hh
  have hgw := hw.lt
  have hgh := hh.lt
  have HDa := Lib.hid (show ¬ Disk a by unfold Disk; omega)
  have HDb := Lib.hid (show ¬ Disk b by unfold Disk; omega)
  have hnb1 : (128 : Int) ≤ b := by omega
  have hsw : a ≤ b := by omega
  clear hw hh hab
  go_enter Tryd.func3, Tryd.ntmps3
  go_wp2_with fail
  refine (known_any _ HW.out HH.out).mono ?_
  rintro e w1 ⟨rfl, hb⟩
  have HB1 := Lib.hid hb
  clear hb
  go_wp2_with fail
  refine (geo_of_bad a _ HDa.out).mono ?_
  rintro e w2 ⟨rfl, hb⟩
  unfold noCells
  obtain ⟨hbn, hgn⟩ := one_new w2 #[.int .i64 0, .int .i64 0, .int .i64 0, .int .i64 0, .int .i64 0] 24
  have hbx := HB1.out.trans (hb.mono HB1.out.size)
  have HB2 := Lib.hid (hbx.trans (hbn.mono hbx.size))
  have HG1 := Lib.hid hgn
  clear hb hbn hgn hbx
  go_wp2_with fail
  refine (geo_of_bad b _ HDb.out).mono ?_
  rintro e w3 ⟨rfl, hb⟩
  unfold noCells
  obtain ⟨hbn, hgn⟩ := one_new w3 #[.int .i64 0, .int .i64 0, .int .i64 0, .int .i64 0, .int .i64 0] 24
  have hbx := HB2.out.trans (hb.mono HB2.out.size)
  have HB3 := Lib.hid (hbx.trans (hbn.mono hbx.size))
  have HG2 := Lib.hid hgn
  have HG1 := Lib.hid ((HG1.out.below hb HG1.out.lt).alloc (.cells #[.int .i64 0, .int .i64 0, .int .i64 0, .int .i64 0, .int .i64 0] 24))
  clear hb hbn hgn hbx
  go_wp2_with fail
  refine (super_bad a _ HDa.out).mono ?_
  rintro e w4 ⟨rfl, hb⟩
  have HB4 := Lib.hid (HB3.out.trans (hb.mono HB3.out.size))
  have HG1 := Lib.hid (HG1.out.below hb HG1.out.lt)
  have HG2 := Lib.hid (HG2.out.below hb HG2.out.lt)
  skip
  clear hb
  go_wp2_with fail
  refine (super_bad b _ HDb.out).mono ?_
  rintro e w5 ⟨rfl, hb⟩
  have HB5 := Lib.hid (HB4.out.trans (hb.mono HB4.out.size))
  have HG1 := Lib.hid (HG1.out.below hb HG1.out.lt)
  have HG2 := Lib.hid (HG2.out.below hb HG2.out.lt)
  skip
  clear hb
  have x0 := HG1.out.cell 0
  have x1 := HG1.out.cell 1
  have x2 := HG1.out.cell 2
  have x3 := HG1.out.cell 3
  have x4 := HG1.out.cell 4
  have y0 := HG2.out.cell 0
  have y1 := HG2.out.cell 1
  have y2 := HG2.out.cell 2
  have y3 := HG2.out.cell 3
  have y4 := HG2.out.cell 4
  go_wp2_with (go_at_call 11; refine (num_any _ _).mono ?_; rintro e w' ⟨rfl, rfl⟩)
  go_ret
  exact ⟨rfl, HB5.out⟩
set_option maxRecDepth 100000 in
set_option maxHeartbeats 3200000 in
theorem grows_low_high_s (a : Int) (b : Int) (w : World) (hw : WidthsAt w) (hh : HalfAt w) (hda : a < 128) (hra : -9223372036854775808 ≤ a) (hdb : 16384 < b) (hrb : b ≤ 9223372036854775807) (hab : a < b) :
    Calls Tryd.prog 3 #[.int .i64 b, .int .i64 a] w fun e w' => e = .returned (.bool true) ∧ Below w.heap.size w w' := by
  have HW := Lib.hid hw
  have HH := Lib.hid hh
  have hgw := hw.lt
  have hgh := hh.lt
  have HDa := Lib.hid (show ¬ Disk a by unfold Disk; omega)
  have HDb := Lib.hid (show ¬ Disk b by unfold Disk; omega)
  have hnb1 : (128 : Int) ≤ b := by omega
  have hsw : a < b := hab
  clear hw hh
  go_enter Tryd.func3, Tryd.ntmps3
  go_wp2_with fail
  refine (known_any _ HW.out HH.out).mono ?_
  rintro e w1 ⟨rfl, hb⟩
  have HB1 := Lib.hid hb
  clear hb
  go_wp2_with fail
  refine (geo_of_bad a _ HDa.out).mono ?_
  rintro e w2 ⟨rfl, hb⟩
  unfold noCells
  obtain ⟨hbn, hgn⟩ := one_new w2 #[.int .i64 0, .int .i64 0, .int .i64 0, .int .i64 0, .int .i64 0] 24
  have hbx := HB1.out.trans (hb.mono HB1.out.size)
  have HB2 := Lib.hid (hbx.trans (hbn.mono hbx.size))
  have HG1 := Lib.hid hgn
  clear hb hbn hgn hbx
  go_wp2_with fail
  refine (geo_of_bad b _ HDb.out).mono ?_
  rintro e w3 ⟨rfl, hb⟩
  unfold noCells
  obtain ⟨hbn, hgn⟩ := one_new w3 #[.int .i64 0, .int .i64 0, .int .i64 0, .int .i64 0, .int .i64 0] 24
  have hbx := HB2.out.trans (hb.mono HB2.out.size)
  have HB3 := Lib.hid (hbx.trans (hbn.mono hbx.size))
  have HG2 := Lib.hid hgn
  have HG1 := Lib.hid ((HG1.out.below hb HG1.out.lt).alloc (.cells #[.int .i64 0, .int .i64 0, .int .i64 0, .int .i64 0, .int .i64 0] 24))
  clear hb hbn hgn hbx
  go_wp2_with fail
  refine (super_bad a _ HDa.out).mono ?_
  rintro e w4 ⟨rfl, hb⟩
  have HB4 := Lib.hid (HB3.out.trans (hb.mono HB3.out.size))
  have HG1 := Lib.hid (HG1.out.below hb HG1.out.lt)
  have HG2 := Lib.hid (HG2.out.below hb HG2.out.lt)
  skip
  clear hb
  go_wp2_with fail
  refine (super_bad b _ HDb.out).mono ?_
  rintro e w5 ⟨rfl, hb⟩
  have HB5 := Lib.hid (HB4.out.trans (hb.mono HB4.out.size))
  have HG1 := Lib.hid (HG1.out.below hb HG1.out.lt)
  have HG2 := Lib.hid (HG2.out.below hb HG2.out.lt)
  skip
  clear hb
  have x0 := HG1.out.cell 0
  have x1 := HG1.out.cell 1
  have x2 := HG1.out.cell 2
  have x3 := HG1.out.cell 3
  have x4 := HG1.out.cell 4
  have y0 := HG2.out.cell 0
  have y1 := HG2.out.cell 1
  have y2 := HG2.out.cell 2
  have y3 := HG2.out.cell 3
  have y4 := HG2.out.cell 4
  go_wp2_with (go_at_call 11; refine (num_any _ _).mono ?_; rintro e w' ⟨rfl, rfl⟩)
  go_ret
  exact ⟨rfl, HB5.out⟩
set_option maxRecDepth 100000 in
set_option maxHeartbeats 3200000 in
theorem grows_ok_ok (a : Nat) (b : Nat) (w : World) (hw : WidthsAt w) (hh : HalfAt w) (hda : Disk a) (hdb : Disk b) (hab : (a : Int) < (b : Int)) :
    Calls Tryd.prog 3 #[.int .i64 (a : Int), .int .i64 (b : Int)] w fun e w' => e = .returned (.bool true) ∧ Below w.heap.size w w' := by
  have HW := Lib.hid hw
  have HH := Lib.hid hh
  have hgw := hw.lt
  have hgh := hh.lt
  have HDa := Lib.hid hda
  have hna1 : (128 : Int) ≤ (a : Int) := hda.1
  have hna2 : (a : Int) ≤ 16384 := hda.2
  have hdta : (dat a : Int) ≤ (a : Int) := by unfold dat ino; omega
  have HDb := Lib.hid hdb
  have hnb1 : (128 : Int) ≤ (b : Int) := hdb.1
  have hnb2 : (b : Int) ≤ 16384 := hdb.2
  have hdtb : (dat b : Int) ≤ (b : Int) := by unfold dat ino; omega
  have hm1 : (a : Int) - (dat a : Int) ≤ (b : Int) - (dat b : Int) := grows_data a b (by omega)
  have hm2 : (cnt a : Int) ≤ (cnt b : Int) := by unfold cnt; omega
  have hab2 : ((a : Int) == (b : Int)) = false := by rw [beq_eq_false_iff_ne]; omega
  have hst := str_other (show superL a ≠ superL b from fun e => by have := superL_inj (by omega) (by omega) e; omega)
  have hsw : (a : Int) ≤ (b : Int) := by omega
  clear hw hh hab hda hdb
  go_enter Tryd.func3, Tryd.ntmps3
  go_wp2_with fail
  refine (known_any _ HW.out HH.out).mono ?_
  rintro e w1 ⟨rfl, hb⟩
  have HB1 := Lib.hid hb
  clear hb
  go_wp2_with fail
  refine (geo_of_ok a _ HDa.out).mono ?_
  rintro e w2 ⟨rfl, hb⟩
  unfold geoCells
  obtain ⟨hbn, hgn⟩ := one_new w2 #[.int .i64 (a : Int), .int .i64 98, .int .i64 (ino a : Int), .int .i64 (dat a : Int), .int .i64 (cnt a : Int)] 24
  have hbx := HB1.out.trans (hb.mono HB1.out.size)
  have HB2 := Lib.hid (hbx.trans (hbn.mono hbx.size))
  have HG1 := Lib.hid hgn
  clear hb hbn hgn hbx
  go_wp2_with fail
  refine (geo_of_ok b _ HDb.out).mono ?_
  rintro e w3 ⟨rfl, hb⟩
  unfold geoCells
  obtain ⟨hbn, hgn⟩ := one_new w3 #[.int .i64 (b : Int), .int .i64 98, .int .i64 (ino b : Int), .int .i64 (dat b : Int), .int .i64 (cnt b : Int)] 24
  have hbx := HB2.out.trans (hb.mono HB2.out.size)
  have HB3 := Lib.hid (hbx.trans (hbn.mono hbx.size))
  have HG2 := Lib.hid hgn
  have HG1 := Lib.hid ((HG1.out.below hb HG1.out.lt).alloc (.cells #[.int .i64 (b : Int), .int .i64 98, .int .i64 (ino b : Int), .int .i64 (dat b : Int), .int .i64 (cnt b : Int)] 24))
  clear hb hbn hgn hbx
  go_wp2_with fail
  refine (super_ok a _ HDa.out (HW.out.below HB3.out hgw) (HH.out.below HB3.out hgh)).mono ?_
  rintro e w4 ⟨g4, c4, rfl, hm4, hb⟩
  have HM4 := Lib.hid hm4
  have HB4 := Lib.hid (HB3.out.trans (hb.mono HB3.out.size))
  have HG1 := Lib.hid (HG1.out.below hb HG1.out.lt)
  have HG2 := Lib.hid (HG2.out.below hb HG2.out.lt)
  skip
  clear hb hm4
  go_wp2_with fail
  refine (super_ok b _ HDb.out (HW.out.below HB4.out hgw) (HH.out.below HB4.out hgh)).mono ?_
  rintro e w5 ⟨g5, c5, rfl, hm5, hb⟩
  have HM5 := Lib.hid hm5
  have HB5 := Lib.hid (HB4.out.trans (hb.mono HB4.out.size))
  have HG1 := Lib.hid (HG1.out.below hb HG1.out.lt)
  have HG2 := Lib.hid (HG2.out.below hb HG2.out.lt)
  have s1 := str_any w5 (some ⟨g4, 0, none⟩) c4 (superL a) (HM4.out.later hb).bytes 512 (superL_length a)
  have s2 := str_any w5 (some ⟨g5, 0, none⟩) c5 (superL b) HM5.out.bytes 512 (superL_length b)
  clear hb hm5
  have x0 := HG1.out.cell 0
  have x1 := HG1.out.cell 1
  have x2 := HG1.out.cell 2
  have x3 := HG1.out.cell 3
  have x4 := HG1.out.cell 4
  have y0 := HG2.out.cell 0
  have y1 := HG2.out.cell 1
  have y2 := HG2.out.cell 2
  have y3 := HG2.out.cell 3
  have y4 := HG2.out.cell 4
  go_wp2_with (go_at_call 11; refine (num_any _ _).mono ?_; rintro e w' ⟨rfl, rfl⟩)
  go_ret
  exact ⟨rfl, HB5.out⟩
set_option maxRecDepth 100000 in
set_option maxHeartbeats 3200000 in
theorem grows_ok_ok_s (a : Nat) (b : Nat) (w : World) (hw : WidthsAt w) (hh : HalfAt w) (hda : Disk a) (hdb : Disk b) (hab : (a : Int) < (b : Int)) :
    Calls Tryd.prog 3 #[.int .i64 (b : Int), .int .i64 (a : Int)] w fun e w' => e = .returned (.bool true) ∧ Below w.heap.size w w' := by
  have HW := Lib.hid hw
  have HH := Lib.hid hh
  have hgw := hw.lt
  have hgh := hh.lt
  have HDa := Lib.hid hda
  have hna1 : (128 : Int) ≤ (a : Int) := hda.1
  have hna2 : (a : Int) ≤ 16384 := hda.2
  have hdta : (dat a : Int) ≤ (a : Int) := by unfold dat ino; omega
  have HDb := Lib.hid hdb
  have hnb1 : (128 : Int) ≤ (b : Int) := hdb.1
  have hnb2 : (b : Int) ≤ 16384 := hdb.2
  have hdtb : (dat b : Int) ≤ (b : Int) := by unfold dat ino; omega
  have hm1 : (a : Int) - (dat a : Int) ≤ (b : Int) - (dat b : Int) := grows_data a b (by omega)
  have hm2 : (cnt a : Int) ≤ (cnt b : Int) := by unfold cnt; omega
  have hab2 : ((a : Int) == (b : Int)) = false := by rw [beq_eq_false_iff_ne]; omega
  have hst := str_other (show superL a ≠ superL b from fun e => by have := superL_inj (by omega) (by omega) e; omega)
  have hsw : (a : Int) < (b : Int) := hab
  clear hw hh hda hdb
  go_enter Tryd.func3, Tryd.ntmps3
  go_wp2_with fail
  refine (known_any _ HW.out HH.out).mono ?_
  rintro e w1 ⟨rfl, hb⟩
  have HB1 := Lib.hid hb
  clear hb
  go_wp2_with fail
  refine (geo_of_ok a _ HDa.out).mono ?_
  rintro e w2 ⟨rfl, hb⟩
  unfold geoCells
  obtain ⟨hbn, hgn⟩ := one_new w2 #[.int .i64 (a : Int), .int .i64 98, .int .i64 (ino a : Int), .int .i64 (dat a : Int), .int .i64 (cnt a : Int)] 24
  have hbx := HB1.out.trans (hb.mono HB1.out.size)
  have HB2 := Lib.hid (hbx.trans (hbn.mono hbx.size))
  have HG1 := Lib.hid hgn
  clear hb hbn hgn hbx
  go_wp2_with fail
  refine (geo_of_ok b _ HDb.out).mono ?_
  rintro e w3 ⟨rfl, hb⟩
  unfold geoCells
  obtain ⟨hbn, hgn⟩ := one_new w3 #[.int .i64 (b : Int), .int .i64 98, .int .i64 (ino b : Int), .int .i64 (dat b : Int), .int .i64 (cnt b : Int)] 24
  have hbx := HB2.out.trans (hb.mono HB2.out.size)
  have HB3 := Lib.hid (hbx.trans (hbn.mono hbx.size))
  have HG2 := Lib.hid hgn
  have HG1 := Lib.hid ((HG1.out.below hb HG1.out.lt).alloc (.cells #[.int .i64 (b : Int), .int .i64 98, .int .i64 (ino b : Int), .int .i64 (dat b : Int), .int .i64 (cnt b : Int)] 24))
  clear hb hbn hgn hbx
  go_wp2_with fail
  refine (super_ok a _ HDa.out (HW.out.below HB3.out hgw) (HH.out.below HB3.out hgh)).mono ?_
  rintro e w4 ⟨g4, c4, rfl, hm4, hb⟩
  have HM4 := Lib.hid hm4
  have HB4 := Lib.hid (HB3.out.trans (hb.mono HB3.out.size))
  have HG1 := Lib.hid (HG1.out.below hb HG1.out.lt)
  have HG2 := Lib.hid (HG2.out.below hb HG2.out.lt)
  skip
  clear hb hm4
  go_wp2_with fail
  refine (super_ok b _ HDb.out (HW.out.below HB4.out hgw) (HH.out.below HB4.out hgh)).mono ?_
  rintro e w5 ⟨g5, c5, rfl, hm5, hb⟩
  have HM5 := Lib.hid hm5
  have HB5 := Lib.hid (HB4.out.trans (hb.mono HB4.out.size))
  have HG1 := Lib.hid (HG1.out.below hb HG1.out.lt)
  have HG2 := Lib.hid (HG2.out.below hb HG2.out.lt)
  have s1 := str_any w5 (some ⟨g4, 0, none⟩) c4 (superL a) (HM4.out.later hb).bytes 512 (superL_length a)
  have s2 := str_any w5 (some ⟨g5, 0, none⟩) c5 (superL b) HM5.out.bytes 512 (superL_length b)
  clear hb hm5
  have x0 := HG1.out.cell 0
  have x1 := HG1.out.cell 1
  have x2 := HG1.out.cell 2
  have x3 := HG1.out.cell 3
  have x4 := HG1.out.cell 4
  have y0 := HG2.out.cell 0
  have y1 := HG2.out.cell 1
  have y2 := HG2.out.cell 2
  have y3 := HG2.out.cell 3
  have y4 := HG2.out.cell 4
  go_wp2_with (go_at_call 11; refine (num_any _ _).mono ?_; rintro e w' ⟨rfl, rfl⟩)
  go_ret
  exact ⟨rfl, HB5.out⟩
set_option maxRecDepth 100000 in
set_option maxHeartbeats 3200000 in
theorem grows_ok_high (a : Nat) (b : Int) (w : World) (hw : WidthsAt w) (hh : HalfAt w) (hda : Disk a) (hdb : 16384 < b) (hrb : b ≤ 9223372036854775807) (hab : (a : Int) < b) :
    Calls Tryd.prog 3 #[.int .i64 (a : Int), .int .i64 b] w fun e w' => e = .returned (.bool true) ∧ Below w.heap.size w w' := by
  have HW := Lib.hid hw
  have HH := Lib.hid hh
  have hgw := hw.lt
  have hgh := hh.lt
  have HDa := Lib.hid hda
  have hna1 : (128 : Int) ≤ (a : Int) := hda.1
  have hna2 : (a : Int) ≤ 16384 := hda.2
  have hdta : (dat a : Int) ≤ (a : Int) := by unfold dat ino; omega
  have HDb := Lib.hid (show ¬ Disk b by unfold Disk; omega)
  have hnb1 : (128 : Int) ≤ b := by omega
  have hsw : (a : Int) ≤ b := by omega
  clear hw hh hab hda
  go_enter Tryd.func3, Tryd.ntmps3
  go_wp2_with fail
  refine (known_any _ HW.out HH.out).mono ?_
  rintro e w1 ⟨rfl, hb⟩
  have HB1 := Lib.hid hb
  clear hb
  go_wp2_with fail
  refine (geo_of_ok a _ HDa.out).mono ?_
  rintro e w2 ⟨rfl, hb⟩
  unfold geoCells
  obtain ⟨hbn, hgn⟩ := one_new w2 #[.int .i64 (a : Int), .int .i64 98, .int .i64 (ino a : Int), .int .i64 (dat a : Int), .int .i64 (cnt a : Int)] 24
  have hbx := HB1.out.trans (hb.mono HB1.out.size)
  have HB2 := Lib.hid (hbx.trans (hbn.mono hbx.size))
  have HG1 := Lib.hid hgn
  clear hb hbn hgn hbx
  go_wp2_with fail
  refine (geo_of_bad b _ HDb.out).mono ?_
  rintro e w3 ⟨rfl, hb⟩
  unfold noCells
  obtain ⟨hbn, hgn⟩ := one_new w3 #[.int .i64 0, .int .i64 0, .int .i64 0, .int .i64 0, .int .i64 0] 24
  have hbx := HB2.out.trans (hb.mono HB2.out.size)
  have HB3 := Lib.hid (hbx.trans (hbn.mono hbx.size))
  have HG2 := Lib.hid hgn
  have HG1 := Lib.hid ((HG1.out.below hb HG1.out.lt).alloc (.cells #[.int .i64 0, .int .i64 0, .int .i64 0, .int .i64 0, .int .i64 0] 24))
  clear hb hbn hgn hbx
  go_wp2_with fail
  refine (super_ok a _ HDa.out (HW.out.below HB3.out hgw) (HH.out.below HB3.out hgh)).mono ?_
  rintro e w4 ⟨g4, c4, rfl, hm4, hb⟩
  have HM4 := Lib.hid hm4
  have HB4 := Lib.hid (HB3.out.trans (hb.mono HB3.out.size))
  have HG1 := Lib.hid (HG1.out.below hb HG1.out.lt)
  have HG2 := Lib.hid (HG2.out.below hb HG2.out.lt)
  skip
  clear hb hm4
  go_wp2_with fail
  refine (super_bad b _ HDb.out).mono ?_
  rintro e w5 ⟨rfl, hb⟩
  have HB5 := Lib.hid (HB4.out.trans (hb.mono HB4.out.size))
  have HG1 := Lib.hid (HG1.out.below hb HG1.out.lt)
  have HG2 := Lib.hid (HG2.out.below hb HG2.out.lt)
  skip
  clear hb
  have x0 := HG1.out.cell 0
  have x1 := HG1.out.cell 1
  have x2 := HG1.out.cell 2
  have x3 := HG1.out.cell 3
  have x4 := HG1.out.cell 4
  have y0 := HG2.out.cell 0
  have y1 := HG2.out.cell 1
  have y2 := HG2.out.cell 2
  have y3 := HG2.out.cell 3
  have y4 := HG2.out.cell 4
  go_wp2_with (go_at_call 11; refine (num_any _ _).mono ?_; rintro e w' ⟨rfl, rfl⟩)
  go_ret
  exact ⟨rfl, HB5.out⟩
set_option maxRecDepth 100000 in
set_option maxHeartbeats 3200000 in
theorem grows_ok_high_s (a : Nat) (b : Int) (w : World) (hw : WidthsAt w) (hh : HalfAt w) (hda : Disk a) (hdb : 16384 < b) (hrb : b ≤ 9223372036854775807) (hab : (a : Int) < b) :
    Calls Tryd.prog 3 #[.int .i64 b, .int .i64 (a : Int)] w fun e w' => e = .returned (.bool true) ∧ Below w.heap.size w w' := by
  have HW := Lib.hid hw
  have HH := Lib.hid hh
  have hgw := hw.lt
  have hgh := hh.lt
  have HDa := Lib.hid hda
  have hna1 : (128 : Int) ≤ (a : Int) := hda.1
  have hna2 : (a : Int) ≤ 16384 := hda.2
  have hdta : (dat a : Int) ≤ (a : Int) := by unfold dat ino; omega
  have HDb := Lib.hid (show ¬ Disk b by unfold Disk; omega)
  have hnb1 : (128 : Int) ≤ b := by omega
  have hsw : (a : Int) < b := hab
  clear hw hh hda
  go_enter Tryd.func3, Tryd.ntmps3
  go_wp2_with fail
  refine (known_any _ HW.out HH.out).mono ?_
  rintro e w1 ⟨rfl, hb⟩
  have HB1 := Lib.hid hb
  clear hb
  go_wp2_with fail
  refine (geo_of_ok a _ HDa.out).mono ?_
  rintro e w2 ⟨rfl, hb⟩
  unfold geoCells
  obtain ⟨hbn, hgn⟩ := one_new w2 #[.int .i64 (a : Int), .int .i64 98, .int .i64 (ino a : Int), .int .i64 (dat a : Int), .int .i64 (cnt a : Int)] 24
  have hbx := HB1.out.trans (hb.mono HB1.out.size)
  have HB2 := Lib.hid (hbx.trans (hbn.mono hbx.size))
  have HG1 := Lib.hid hgn
  clear hb hbn hgn hbx
  go_wp2_with fail
  refine (geo_of_bad b _ HDb.out).mono ?_
  rintro e w3 ⟨rfl, hb⟩
  unfold noCells
  obtain ⟨hbn, hgn⟩ := one_new w3 #[.int .i64 0, .int .i64 0, .int .i64 0, .int .i64 0, .int .i64 0] 24
  have hbx := HB2.out.trans (hb.mono HB2.out.size)
  have HB3 := Lib.hid (hbx.trans (hbn.mono hbx.size))
  have HG2 := Lib.hid hgn
  have HG1 := Lib.hid ((HG1.out.below hb HG1.out.lt).alloc (.cells #[.int .i64 0, .int .i64 0, .int .i64 0, .int .i64 0, .int .i64 0] 24))
  clear hb hbn hgn hbx
  go_wp2_with fail
  refine (super_ok a _ HDa.out (HW.out.below HB3.out hgw) (HH.out.below HB3.out hgh)).mono ?_
  rintro e w4 ⟨g4, c4, rfl, hm4, hb⟩
  have HM4 := Lib.hid hm4
  have HB4 := Lib.hid (HB3.out.trans (hb.mono HB3.out.size))
  have HG1 := Lib.hid (HG1.out.below hb HG1.out.lt)
  have HG2 := Lib.hid (HG2.out.below hb HG2.out.lt)
  skip
  clear hb hm4
  go_wp2_with fail
  refine (super_bad b _ HDb.out).mono ?_
  rintro e w5 ⟨rfl, hb⟩
  have HB5 := Lib.hid (HB4.out.trans (hb.mono HB4.out.size))
  have HG1 := Lib.hid (HG1.out.below hb HG1.out.lt)
  have HG2 := Lib.hid (HG2.out.below hb HG2.out.lt)
  skip
  clear hb
  have x0 := HG1.out.cell 0
  have x1 := HG1.out.cell 1
  have x2 := HG1.out.cell 2
  have x3 := HG1.out.cell 3
  have x4 := HG1.out.cell 4
  have y0 := HG2.out.cell 0
  have y1 := HG2.out.cell 1
  have y2 := HG2.out.cell 2
  have y3 := HG2.out.cell 3
  have y4 := HG2.out.cell 4
  go_wp2_with (go_at_call 11; refine (num_any _ _).mono ?_; rintro e w' ⟨rfl, rfl⟩)
  go_ret
  exact ⟨rfl, HB5.out⟩
set_option maxRecDepth 100000 in
set_option maxHeartbeats 3200000 in
theorem grows_high_high (a : Int) (b : Int) (w : World) (hw : WidthsAt w) (hh : HalfAt w) (hda : 16384 < a) (hra : a ≤ 9223372036854775807) (hdb : 16384 < b) (hrb : b ≤ 9223372036854775807) (hab : a < b) :
    Calls Tryd.prog 3 #[.int .i64 a, .int .i64 b] w fun e w' => e = .returned (.bool true) ∧ Below w.heap.size w w' := by
  have HW := Lib.hid hw
  have HH := Lib.hid hh
  have hgw := hw.lt
  have hgh := hh.lt
  have HDa := Lib.hid (show ¬ Disk a by unfold Disk; omega)
  have hna1 : (128 : Int) ≤ a := by omega
  have HDb := Lib.hid (show ¬ Disk b by unfold Disk; omega)
  have hnb1 : (128 : Int) ≤ b := by omega
  have hsw : a ≤ b := by omega
  clear hw hh hab
  go_enter Tryd.func3, Tryd.ntmps3
  go_wp2_with fail
  refine (known_any _ HW.out HH.out).mono ?_
  rintro e w1 ⟨rfl, hb⟩
  have HB1 := Lib.hid hb
  clear hb
  go_wp2_with fail
  refine (geo_of_bad a _ HDa.out).mono ?_
  rintro e w2 ⟨rfl, hb⟩
  unfold noCells
  obtain ⟨hbn, hgn⟩ := one_new w2 #[.int .i64 0, .int .i64 0, .int .i64 0, .int .i64 0, .int .i64 0] 24
  have hbx := HB1.out.trans (hb.mono HB1.out.size)
  have HB2 := Lib.hid (hbx.trans (hbn.mono hbx.size))
  have HG1 := Lib.hid hgn
  clear hb hbn hgn hbx
  go_wp2_with fail
  refine (geo_of_bad b _ HDb.out).mono ?_
  rintro e w3 ⟨rfl, hb⟩
  unfold noCells
  obtain ⟨hbn, hgn⟩ := one_new w3 #[.int .i64 0, .int .i64 0, .int .i64 0, .int .i64 0, .int .i64 0] 24
  have hbx := HB2.out.trans (hb.mono HB2.out.size)
  have HB3 := Lib.hid (hbx.trans (hbn.mono hbx.size))
  have HG2 := Lib.hid hgn
  have HG1 := Lib.hid ((HG1.out.below hb HG1.out.lt).alloc (.cells #[.int .i64 0, .int .i64 0, .int .i64 0, .int .i64 0, .int .i64 0] 24))
  clear hb hbn hgn hbx
  go_wp2_with fail
  refine (super_bad a _ HDa.out).mono ?_
  rintro e w4 ⟨rfl, hb⟩
  have HB4 := Lib.hid (HB3.out.trans (hb.mono HB3.out.size))
  have HG1 := Lib.hid (HG1.out.below hb HG1.out.lt)
  have HG2 := Lib.hid (HG2.out.below hb HG2.out.lt)
  skip
  clear hb
  go_wp2_with fail
  refine (super_bad b _ HDb.out).mono ?_
  rintro e w5 ⟨rfl, hb⟩
  have HB5 := Lib.hid (HB4.out.trans (hb.mono HB4.out.size))
  have HG1 := Lib.hid (HG1.out.below hb HG1.out.lt)
  have HG2 := Lib.hid (HG2.out.below hb HG2.out.lt)
  skip
  clear hb
  have x0 := HG1.out.cell 0
  have x1 := HG1.out.cell 1
  have x2 := HG1.out.cell 2
  have x3 := HG1.out.cell 3
  have x4 := HG1.out.cell 4
  have y0 := HG2.out.cell 0
  have y1 := HG2.out.cell 1
  have y2 := HG2.out.cell 2
  have y3 := HG2.out.cell 3
  have y4 := HG2.out.cell 4
  go_wp2_with (go_at_call 11; refine (num_any _ _).mono ?_; rintro e w' ⟨rfl, rfl⟩)
  go_ret
  exact ⟨rfl, HB5.out⟩
set_option maxRecDepth 100000 in
set_option maxHeartbeats 3200000 in
theorem grows_high_high_s (a : Int) (b : Int) (w : World) (hw : WidthsAt w) (hh : HalfAt w) (hda : 16384 < a) (hra : a ≤ 9223372036854775807) (hdb : 16384 < b) (hrb : b ≤ 9223372036854775807) (hab : a < b) :
    Calls Tryd.prog 3 #[.int .i64 b, .int .i64 a] w fun e w' => e = .returned (.bool true) ∧ Below w.heap.size w w' := by
  have HW := Lib.hid hw
  have HH := Lib.hid hh
  have hgw := hw.lt
  have hgh := hh.lt
  have HDa := Lib.hid (show ¬ Disk a by unfold Disk; omega)
  have hna1 : (128 : Int) ≤ a := by omega
  have HDb := Lib.hid (show ¬ Disk b by unfold Disk; omega)
  have hnb1 : (128 : Int) ≤ b := by omega
  have hsw : a < b := hab
  clear hw hh
  go_enter Tryd.func3, Tryd.ntmps3
  go_wp2_with fail
  refine (known_any _ HW.out HH.out).mono ?_
  rintro e w1 ⟨rfl, hb⟩
  have HB1 := Lib.hid hb
  clear hb
  go_wp2_with fail
  refine (geo_of_bad a _ HDa.out).mono ?_
  rintro e w2 ⟨rfl, hb⟩
  unfold noCells
  obtain ⟨hbn, hgn⟩ := one_new w2 #[.int .i64 0, .int .i64 0, .int .i64 0, .int .i64 0, .int .i64 0] 24
  have hbx := HB1.out.trans (hb.mono HB1.out.size)
  have HB2 := Lib.hid (hbx.trans (hbn.mono hbx.size))
  have HG1 := Lib.hid hgn
  clear hb hbn hgn hbx
  go_wp2_with fail
  refine (geo_of_bad b _ HDb.out).mono ?_
  rintro e w3 ⟨rfl, hb⟩
  unfold noCells
  obtain ⟨hbn, hgn⟩ := one_new w3 #[.int .i64 0, .int .i64 0, .int .i64 0, .int .i64 0, .int .i64 0] 24
  have hbx := HB2.out.trans (hb.mono HB2.out.size)
  have HB3 := Lib.hid (hbx.trans (hbn.mono hbx.size))
  have HG2 := Lib.hid hgn
  have HG1 := Lib.hid ((HG1.out.below hb HG1.out.lt).alloc (.cells #[.int .i64 0, .int .i64 0, .int .i64 0, .int .i64 0, .int .i64 0] 24))
  clear hb hbn hgn hbx
  go_wp2_with fail
  refine (super_bad a _ HDa.out).mono ?_
  rintro e w4 ⟨rfl, hb⟩
  have HB4 := Lib.hid (HB3.out.trans (hb.mono HB3.out.size))
  have HG1 := Lib.hid (HG1.out.below hb HG1.out.lt)
  have HG2 := Lib.hid (HG2.out.below hb HG2.out.lt)
  skip
  clear hb
  go_wp2_with fail
  refine (super_bad b _ HDb.out).mono ?_
  rintro e w5 ⟨rfl, hb⟩
  have HB5 := Lib.hid (HB4.out.trans (hb.mono HB4.out.size))
  have HG1 := Lib.hid (HG1.out.below hb HG1.out.lt)
  have HG2 := Lib.hid (HG2.out.below hb HG2.out.lt)
  skip
  clear hb
  have x0 := HG1.out.cell 0
  have x1 := HG1.out.cell 1
  have x2 := HG1.out.cell 2
  have x3 := HG1.out.cell 3
  have x4 := HG1.out.cell 4
  have y0 := HG2.out.cell 0
  have y1 := HG2.out.cell 1
  have y2 := HG2.out.cell 2
  have y3 := HG2.out.cell 3
  have y4 := HG2.out.cell 4
  go_wp2_with (go_at_call 11; refine (num_any _ _).mono ?_; rintro e w' ⟨rfl, rfl⟩)
  go_ret
  exact ⟨rfl, HB5.out⟩
theorem grows_any (n m : Int) (w : World) (hw : WidthsAt w) (hh : HalfAt w) (h0 : -9223372036854775808 ≤ n) (h1 : n ≤ 9223372036854775807) (h2 : -9223372036854775808 ≤ m) (h3 : m ≤ 9223372036854775807) :
    Calls Tryd.prog 3 #[.int .i64 n, .int .i64 m] w fun e w' => e = .returned (.bool true) ∧ Below w.heap.size w w' := by
  rcases Int.lt_trichotomy n m with h | rfl | h
  · rcases (by omega : n < 128 ∨ (128 ≤ n ∧ n ≤ 16384) ∨ 16384 < n) with hx | hx | hx <;> rcases (by omega : m < 128 ∨ (128 ≤ m ∧ m ≤ 16384) ∨ 16384 < m) with hy | hy | hy
    · exact grows_low_low n m w hw hh hx h0 hy h2 h
    · obtain ⟨b, rfl⟩ := Int.eq_ofNat_of_zero_le (show 0 ≤ m by omega)
      exact grows_low_ok n b w hw hh hx h0 hy h
    · exact grows_low_high n m w hw hh hx h0 hy h3 h
    · omega
    · obtain ⟨a, rfl⟩ := Int.eq_ofNat_of_zero_le (show 0 ≤ n by omega)
      obtain ⟨b, rfl⟩ := Int.eq_ofNat_of_zero_le (show 0 ≤ m by omega)
      exact grows_ok_ok a b w hw hh hx hy h
    · obtain ⟨a, rfl⟩ := Int.eq_ofNat_of_zero_le (show 0 ≤ n by omega)
      exact grows_ok_high a m w hw hh hx hy h3 h
    · omega
    · omega
    · exact grows_high_high n m w hw hh hx h1 hy h3 h
  · rcases (by omega : n < 128 ∨ (128 ≤ n ∧ n ≤ 16384) ∨ 16384 < n) with hn | hn | hn
    · exact grows_same_low n w hw hh hn h0
    · obtain ⟨a, rfl⟩ := Int.eq_ofNat_of_zero_le (show 0 ≤ n by omega)
      exact grows_same_ok a w hw hh hn
    · exact grows_same_high n w hw hh hn h1
  · rcases (by omega : m < 128 ∨ (128 ≤ m ∧ m ≤ 16384) ∨ 16384 < m) with hx | hx | hx <;> rcases (by omega : n < 128 ∨ (128 ≤ n ∧ n ≤ 16384) ∨ 16384 < n) with hy | hy | hy
    · exact grows_low_low_s m n w hw hh hx h2 hy h0 h
    · obtain ⟨b, rfl⟩ := Int.eq_ofNat_of_zero_le (show 0 ≤ n by omega)
      exact grows_low_ok_s m b w hw hh hx h2 hy h
    · exact grows_low_high_s m n w hw hh hx h2 hy h1 h
    · omega
    · obtain ⟨a, rfl⟩ := Int.eq_ofNat_of_zero_le (show 0 ≤ m by omega)
      obtain ⟨b, rfl⟩ := Int.eq_ofNat_of_zero_le (show 0 ≤ n by omega)
      exact grows_ok_ok_s a b w hw hh hx hy h
    · obtain ⟨a, rfl⟩ := Int.eq_ofNat_of_zero_le (show 0 ≤ m by omega)
      exact grows_ok_high_s a n w hw hh hx hy h1 h
    · omega
    · omega
    · exact grows_high_high_s m n w hw hh hx h3 hy h1 h
end Go.Proofs.YtaijakknhmagoaaDoor
