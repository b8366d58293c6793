/-
  THE WALKS OF geo, FURTHER: Bit and Record, the document's too; what the document gives (known).
-/
import Derived.Test.YtaijakknhmagoaaDoorGeoX
set_option linter.unusedVariables false
set_option linter.unusedSimpArgs false
namespace Go.Proofs.YtaijakknhmagoaaDoor
open Go.RowKit Rec Gp

theorem geo_bit_ok (n : Nat) (i : Int) (w : World) (hn : Disk n) (h0 : 0 ≤ i) (h1 : i < n) :
    Calls Tryd.prog 16 #[.agg #[.int .i64 (n : Int), .int .i64 98, .int .i64 (ino n : Int), .int .i64 (dat n : Int), .int .i64 (cnt n : Int)], .int .i64 i] w fun e w' => e = .returned (.tuple #[.int .i64 (98 + i / 4096), .int .i64 (i % 4096), .int .i64 0]) ∧ Below w.heap.size w w' := by
  have hd : (n : Int) ≤ 16384 := hn.2
  obtain ⟨I, hI⟩ : ∃ I, ino n = I := ⟨_, rfl⟩
  obtain ⟨D, hD⟩ : ∃ D, dat n = D := ⟨_, rfl⟩
  obtain ⟨C, hC⟩ : ∃ C, cnt n = C := ⟨_, rfl⟩
  rw [hI, hD, hC]
  clear hI hD hC
  go_enter Tryd.func16, Tryd.ntmps16
  go_wp2_with fail
  go_ret3
  exact ⟨rfl, below_new _ _⟩
theorem geo_bit_bad (n : Nat) (i : Int) (w : World) (h : i < 0 ∨ (n : Int) ≤ i) :
    Calls Tryd.prog 16 #[.agg #[.int .i64 (n : Int), .int .i64 98, .int .i64 (ino n : Int), .int .i64 (dat n : Int), .int .i64 (cnt n : Int)], .int .i64 i] w fun e w' => e = .returned (.tuple #[.int .i64 0, .int .i64 0, .int .i64 31]) ∧ Below w.heap.size w w' := by
  obtain ⟨I, hI⟩ : ∃ I, ino n = I := ⟨_, rfl⟩
  obtain ⟨D, hD⟩ : ∃ D, dat n = D := ⟨_, rfl⟩
  obtain ⟨C, hC⟩ : ∃ C, cnt n = C := ⟨_, rfl⟩
  rw [hI, hD, hC]
  clear hI hD hC
  by_cases h0 : i < 0
  · clear h
    go_enter Tryd.func16, Tryd.ntmps16
    go_wp2_with fail
    go_ret3
    exact ⟨rfl, below_new _ _⟩
  · have h1 : (n : Int) ≤ i := by omega
    have h0 : 0 ≤ i := by omega
    clear h
    go_enter Tryd.func16, Tryd.ntmps16
    go_wp2_with fail
    go_ret3
    exact ⟨rfl, below_new _ _⟩
theorem geo_record_ok (n : Nat) (i : Int) (w : World) (hn : Disk n) (h0 : 1 ≤ i) (h1 : i < cnt n) :
    Calls Tryd.prog 18 #[.agg #[.int .i64 (n : Int), .int .i64 98, .int .i64 (ino n : Int), .int .i64 (dat n : Int), .int .i64 (cnt n : Int)], .int .i64 i] w fun e w' => e = .returned (.tuple #[.int .i64 ((ino n : Int) + i / 8), .int .i64 (i % 8 * 64), .int .i64 0]) ∧ Below w.heap.size w w' := by
  have hd : (n : Int) ≤ 16384 := hn.2
  have hI2 : ino n ≤ 200 := by unfold ino; omega
  have hC2 : cnt n ≤ 4000 := by unfold cnt; omega
  obtain ⟨I, hI⟩ : ∃ I, ino n = I := ⟨_, rfl⟩
  obtain ⟨D, hD⟩ : ∃ D, dat n = D := ⟨_, rfl⟩
  obtain ⟨C, hC⟩ : ∃ C, cnt n = C := ⟨_, rfl⟩
  rw [hC] at h1 hC2
  rw [hI] at hI2
  rw [hI, hD, hC]
  clear hI hD hC
  go_enter Tryd.func18, Tryd.ntmps18
  go_wp2_with fail
  go_ret3
  exact ⟨rfl, below_new _ _⟩
theorem geo_record_bad (n : Nat) (i : Int) (w : World) (h : i < 1 ∨ (cnt n : Int) ≤ i) :
    Calls Tryd.prog 18 #[.agg #[.int .i64 (n : Int), .int .i64 98, .int .i64 (ino n : Int), .int .i64 (dat n : Int), .int .i64 (cnt n : Int)], .int .i64 i] w fun e w' => e = .returned (.tuple #[.int .i64 0, .int .i64 0, .int .i64 110]) ∧ Below w.heap.size w w' := by
  obtain ⟨I, hI⟩ : ∃ I, ino n = I := ⟨_, rfl⟩
  obtain ⟨D, hD⟩ : ∃ D, dat n = D := ⟨_, rfl⟩
  obtain ⟨C, hC⟩ : ∃ C, cnt n = C := ⟨_, rfl⟩
  rw [hC] at h
  rw [hI, hD, hC]
  clear hI hD hC
  by_cases h0 : i < 1
  · clear h
    go_enter Tryd.func18, Tryd.ntmps18
    go_wp2_with fail
    go_ret3
    exact ⟨rfl, below_new _ _⟩
  · have h1 : (C : Int) ≤ i := by omega
    have h0 : 1 ≤ i := by omega
    clear h
    go_enter Tryd.func18, Tryd.ntmps18
    go_wp2_with fail
    go_ret3
    exact ⟨rfl, below_new _ _⟩
theorem ref_bit_ok (n : Nat) (i : Int) (w : World) (hn : Disk n) (h0 : 0 ≤ i) (h1 : i < n) :
    Calls Tryd.prog 17 #[.agg #[.int .i64 (n : Int), .int .i64 98, .int .i64 (ino n : Int), .int .i64 (dat n : Int), .int .i64 (cnt n : Int)], .int .i64 i] w fun e w' => e = .returned (.tuple #[.int .i64 (98 + i / 4096), .int .i64 (i % 4096), .int .i64 0]) ∧ Below w.heap.size w w' := by
  have hd : (n : Int) ≤ 16384 := hn.2
  obtain ⟨I, hI⟩ : ∃ I, ino n = I := ⟨_, rfl⟩
  obtain ⟨D, hD⟩ : ∃ D, dat n = D := ⟨_, rfl⟩
  obtain ⟨C, hC⟩ : ∃ C, cnt n = C := ⟨_, rfl⟩
  rw [hI, hD, hC]
  clear hI hD hC
  go_enter Tryd.func17, Tryd.ntmps17
  go_wp2_with fail
  go_ret3
  exact ⟨rfl, below_new _ _⟩
theorem ref_bit_bad (n : Nat) (i : Int) (w : World) (h : i < 0 ∨ (n : Int) ≤ i) :
    Calls Tryd.prog 17 #[.agg #[.int .i64 (n : Int), .int .i64 98, .int .i64 (ino n : Int), .int .i64 (dat n : Int), .int .i64 (cnt n : Int)], .int .i64 i] w fun e w' => e = .returned (.tuple #[.int .i64 0, .int .i64 0, .int .i64 31]) ∧ Below w.heap.size w w' := by
  obtain ⟨I, hI⟩ : ∃ I, ino n = I := ⟨_, rfl⟩
  obtain ⟨D, hD⟩ : ∃ D, dat n = D := ⟨_, rfl⟩
  obtain ⟨C, hC⟩ : ∃ C, cnt n = C := ⟨_, rfl⟩
  rw [hI, hD, hC]
  clear hI hD hC
  by_cases h0 : i < 0
  · clear h
    go_enter Tryd.func17, Tryd.ntmps17
    go_wp2_with fail
    go_ret3
    exact ⟨rfl, below_new _ _⟩
  · have h1 : (n : Int) ≤ i := by omega
    have h0 : 0 ≤ i := by omega
    clear h
    go_enter Tryd.func17, Tryd.ntmps17
    go_wp2_with fail
    go_ret3
    exact ⟨rfl, below_new _ _⟩
theorem ref_record_ok (n : Nat) (i : Int) (w : World) (hn : Disk n) (h0 : 1 ≤ i) (h1 : i < cnt n) :
    Calls Tryd.prog 19 #[.agg #[.int .i64 (n : Int), .int .i64 98, .int .i64 (ino n : Int), .int .i64 (dat n : Int), .int .i64 (cnt n : Int)], .int .i64 i] w fun e w' => e = .returned (.tuple #[.int .i64 ((ino n : Int) + i / 8), .int .i64 (i % 8 * 64), .int .i64 0]) ∧ Below w.heap.size w w' := by
  have hd : (n : Int) ≤ 16384 := hn.2
  have hI2 : ino n ≤ 200 := by unfold ino; omega
  have hC2 : cnt n ≤ 4000 := by unfold cnt; omega
  obtain ⟨I, hI⟩ : ∃ I, ino n = I := ⟨_, rfl⟩
  obtain ⟨D, hD⟩ : ∃ D, dat n = D := ⟨_, rfl⟩
  obtain ⟨C, hC⟩ : ∃ C, cnt n = C := ⟨_, rfl⟩
  rw [hC] at h1 hC2
  rw [hI] at hI2
  rw [hI, hD, hC]
  clear hI hD hC
  go_enter Tryd.func19, Tryd.ntmps19
  go_wp2_with fail
  go_ret3
  exact ⟨rfl, below_new _ _⟩
theorem ref_record_bad (n : Nat) (i : Int) (w : World) (h : i < 1 ∨ (cnt n : Int) ≤ i) :
    Calls Tryd.prog 19 #[.agg #[.int .i64 (n : Int), .int .i64 98, .int .i64 (ino n : Int), .int .i64 (dat n : Int), .int .i64 (cnt n : Int)], .int .i64 i] w fun e w' => e = .returned (.tuple #[.int .i64 0, .int .i64 0, .int .i64 110]) ∧ Below w.heap.size w w' := by
  obtain ⟨I, hI⟩ : ∃ I, ino n = I := ⟨_, rfl⟩
  obtain ⟨D, hD⟩ : ∃ D, dat n = D := ⟨_, rfl⟩
  obtain ⟨C, hC⟩ : ∃ C, cnt n = C := ⟨_, rfl⟩
  rw [hC] at h
  rw [hI, hD, hC]
  clear hI hD hC
  by_cases h0 : i < 1
  · clear h
    go_enter Tryd.func19, Tryd.ntmps19
    go_wp2_with fail
    go_ret3
    exact ⟨rfl, below_new _ _⟩
  · have h1 : (C : Int) ≤ i := by omega
    have h0 : 1 ≤ i := by omega
    clear h
    go_enter Tryd.func19, Tryd.ntmps19
    go_wp2_with fail
    go_ret3
    exact ⟨rfl, below_new _ _⟩

set_option maxHeartbeats 1600000 in
theorem known_any (w : World) (hw : WidthsAt w) (hh : HalfAt w) : Calls Tryd.prog 8 #[] w fun e w' => e = .returned (.bool true) ∧ Below w.heap.size w w' := by
  have HW := Lib.hid hw
  have HH := Lib.hid hh
  have hgw := hw.lt
  have hgh := hh.lt
  have HR := Lib.hid (read_super 128 (by decide))
  have HT := Lib.hid (show (superL 128).take 9 = [66, 79, 76, 69, 70, 83, 48, 49, 128] by
    unfold superL; rw [List.append_assoc, List.take_append_of_le_length (by rw [head12_length]; decide)]; rfl)
  clear hw hh
  go_enter Tryd.func8, Tryd.ntmps8
  go_wp2_with (first
    | (go_at_call 9; refine (geo_of_ok 4097 _ (by decide)).mono ?_; rintro e w1 ⟨rfl, hb1⟩; rw [show geoCells 4097 = #[.int .i64 4097, .int .i64 98, .int .i64 100, .int .i64 164, .int .i64 512] from rfl]; have HB1 := Lib.hid (hb1.alloc hb1.size (.cells #[.int .i64 4097, .int .i64 98, .int .i64 100, .int .i64 164, .int .i64 512] 24)); have HC := Lib.hid (Is.new w1 24 #[.int .i64 4097, .int .i64 98, .int .i64 100, .int .i64 164, .int .i64 512]))
    | (go_at_call 10; refine (super_ok 128 _ (by decide) (HW.out.below HB1.out hgw) (HH.out.below HB1.out hgh)).mono ?_; rintro e w2 ⟨g, ck, rfl, hm2, hb2⟩; have hle9 : 9 ≤ ck := (by have := hm2.cap_le.1; rw [superL_length] at this; omega); have HM2 := Lib.hid hm2; have HB2 := Lib.hid (HB1.out.trans (hb2.mono HB1.out.size)); have hs2 := HB2.out.size; have HC2 := HC.out.below hb2 HC.out.lt; obtain ⟨b, hb⟩ : ∃ b, w1.heap.size = b := ⟨_, rfl⟩; rw [hb] at HC2; have HC2' := Lib.hid HC2)
    | (go_at_call 12; refine (geo_read_any _ _ (superL 128) 512 (superL_length 128) _ (HW.out.below HB2.out hgw) (HH.out.below HB2.out hgh) HM2.out.bytes (by decide)).mono ?_; rintro e w3 ⟨rfl, hb3⟩; rw [HR.out.1, HR.out.2]; have HB3 := Lib.hid (HB2.out.trans (hb3.mono hs2)); have c0 := (HC2'.out.below hb3 HC2'.out.lt).cell 0; have c1 := (HC2'.out.below hb3 HC2'.out.lt).cell 1; have c2 := (HC2'.out.below hb3 HC2'.out.lt).cell 2; have c3 := (HC2'.out.below hb3 HC2'.out.lt).cell 3; have c4 := (HC2'.out.below hb3 HC2'.out.lt).cell 4; have hst := str_any w3 (some ⟨g, 0, none⟩) ck _ ((HM2.out.later hb3).bytes.take 9) 9 (by rw [HT.out]; rfl); rw [HT.out] at hst)
    | (go_at_call 11; refine (num_any _ _).mono ?_; rintro e w' ⟨rfl, rfl⟩))
  go_ret
  exact ⟨rfl, HB3.out⟩
end Go.Proofs.YtaijakknhmagoaaDoor
