/-
  THE WALKS OF geo, FURTHER: bytes.Equal, Read, Bit, Record; what the document gives.
-/
import Derived.Test.YtaijakknhmagoaaDoorGeoW
set_option linter.unusedVariables false
set_option linter.unusedSimpArgs false
namespace Go.Proofs.YtaijakknhmagoaaDoor
open Go.RowKit Rec Gp

theorem str_other {l m : List UInt8} (h : l ≠ m) : (l == m) = false := by rw [beq_eq_false_iff_ne]; exact h
theorem str_other' {l m : List UInt8} (h : l ≠ m) : (l != m) = true := by rw [bne_iff_ne]; exact h

theorem equal_yes (A B : Option Addr) (ca cb : Nat) (l : List UInt8) (n1 n2 : Nat) (h1 : l.length = n1) (h2 : l.length = n2) (w : World) (hA : Bytes w A l) (hB : Bytes w B l) :
    Calls Tryd.prog 25 #[.slice A n1 ca, .slice B n2 cb] w fun e w' => e = .returned (.bool true) ∧ w = w' := by
  have s1 := str_any w A ca l hA n1 h1
  have s2 := str_any w B cb l hB n2 h2
  clear h1 h2 hA hB
  go_enter Tryd.func25, Tryd.ntmps25
  go_wp2_with fail
  go_ret
  exact ⟨rfl, rfl⟩
theorem equal_no (A B : Option Addr) (ca cb : Nat) (l m : List UInt8) (n1 n2 : Nat) (h1 : l.length = n1) (h2 : m.length = n2) (hne : l ≠ m) (w : World) (hA : Bytes w A l) (hB : Bytes w B m) :
    Calls Tryd.prog 25 #[.slice A n1 ca, .slice B n2 cb] w fun e w' => e = .returned (.bool false) ∧ w = w' := by
  have s1 := str_any w A ca l hA n1 h1
  have s2 := str_any w B cb m hB n2 h2
  have he := str_other hne
  clear h1 h2 hA hB hne
  go_enter Tryd.func25, Tryd.ntmps25
  go_wp2_with fail
  go_ret
  exact ⟨rfl, rfl⟩
theorem num_any (e : Int) (w : World) : Calls Tryd.prog 11 #[.int .i64 e] w fun r w' => r = .returned (.int .i64 e) ∧ w = w' := by
  go_enter Tryd.func11, Tryd.ntmps11
  go_wp2_with fail
  go_ret
  exact ⟨rfl, rfl⟩

theorem get8 (l : List UInt8) (h : l.length = 512) : getV l 8 4 = numOf l ∧ getE l.length 8 4 = 0 := by
  unfold getV getE
  rw [h]
  exact ⟨rfl, rfl⟩
theorem read_bad (l : List UInt8) (h : l.length = 512) (hg : good l = false) : readV l = 0 ∧ readE l = 71 := by
  unfold readV readE; rw [if_pos h, if_neg (by rw [hg]; simp), if_pos h, if_neg (by rw [hg]; simp)]; exact ⟨rfl, rfl⟩
theorem read_good (l : List UInt8) (h : l.length = 512) (hg : good l = true) : readV l = numOf l ∧ readE l = 0 := by
  unfold readV readE; rw [if_pos h, if_pos hg, if_pos h, if_pos hg]; exact ⟨rfl, rfl⟩

set_option maxHeartbeats 1600000 in
theorem geo_read_any (A : Option Addr) (cap : Nat) (l : List UInt8) (len : Nat) (hlen : l.length = len) (w : World) (hw : WidthsAt w) (hh : HalfAt w) (hl : Bytes w A l) (hm : len ≤ 140737488355328) :
    Calls Tryd.prog 12 #[.slice A len cap] w fun e w' => e = .returned (.tuple #[.int .i64 (readV l : Int), .int .i64 (readE l)]) ∧ Below w.heap.size w w' := by
  by_cases h512 : len = 512
  · subst h512
    have HG := Lib.hid (get8 l hlen)
    have HW := Lib.hid hw
    have HH := Lib.hid hh
    have HL := Lib.hid hl
    have HLen := Lib.hid hlen
    have hx := numOf_lt l
    obtain ⟨x, hxe⟩ : ∃ x, numOf l = x := ⟨_, rfl⟩
    rw [hxe] at HG hx
    have hci : (x : Int) ≤ 4294967295 := by omega
    by_cases hd : Disk x
    · by_cases hs : superL x = l
      · have hr := read_good l hlen (by unfold good; rw [hxe]; simp [hd, hs])
        rw [hr.1, hr.2, hxe]
        have HD := Lib.hid hd
        have HS := Lib.hid hs
        clear hw hh hl hlen hxe hd hs hr
        go_enter Tryd.func12, Tryd.ntmps12
        go_wp2_with (first
          | (go_at_call 24; refine (get_to A cap l 512 HLen.out 8 4 x 0 HG.out.1 HG.out.2 _ HW.out HL.out (by decide) (by decide) (by decide)).mono ?_; rintro e w' ⟨rfl, rfl⟩)
          | (go_at_call 10; refine (super_ok x _ HD.out HW.out HH.out).mono ?_; rintro e w1 ⟨g, c1, rfl, hm1, hb1⟩; have HM1 := Lib.hid hm1; have HB1 := Lib.hid hb1)
          | (go_at_call 25; refine (equal_yes _ _ _ _ l 512 512 HLen.out HLen.out _ (by rw [← HS.out]; exact HM1.out.bytes) (HL.out.later HB1.out)).mono ?_; rintro e w' ⟨rfl, rfl⟩))
        go_ret2
        exact ⟨rfl, HB1.out⟩
      · have hr := read_bad l hlen (by unfold good; rw [hxe]; simp [hs])
        rw [hr.1, hr.2]
        have HD := Lib.hid hd
        have HS := Lib.hid hs
        clear hw hh hl hlen hxe hd hs hr
        go_enter Tryd.func12, Tryd.ntmps12
        go_wp2_with (first
          | (go_at_call 24; refine (get_to A cap l 512 HLen.out 8 4 x 0 HG.out.1 HG.out.2 _ HW.out HL.out (by decide) (by decide) (by decide)).mono ?_; rintro e w' ⟨rfl, rfl⟩)
          | (go_at_call 10; refine (super_ok x _ HD.out HW.out HH.out).mono ?_; rintro e w1 ⟨g, c1, rfl, hm1, hb1⟩; have HM1 := Lib.hid hm1; have HB1 := Lib.hid hb1)
          | (go_at_call 25; refine (equal_no _ _ _ _ (superL x) l 512 512 (superL_length x) HLen.out HS.out _ HM1.out.bytes (HL.out.later HB1.out)).mono ?_; rintro e w' ⟨rfl, rfl⟩))
        go_ret2
        exact ⟨rfl, HB1.out⟩
    · have hr := read_bad l hlen (by unfold good; rw [hxe]; simp [hd])
      rw [hr.1, hr.2]
      have HD := Lib.hid hd
      clear hw hh hl hlen hxe hd hr
      go_enter Tryd.func12, Tryd.ntmps12
      go_wp2_with (first
        | (go_at_call 24; refine (get_to A cap l 512 HLen.out 8 4 x 0 HG.out.1 HG.out.2 _ HW.out HL.out (by decide) (by decide) (by decide)).mono ?_; rintro e w' ⟨rfl, rfl⟩)
        | (go_at_call 10; refine (super_bad x _ HD.out).mono ?_; rintro e w1 ⟨rfl, hb1⟩; have HB1 := Lib.hid hb1))
      go_ret2
      exact ⟨rfl, HB1.out⟩
  · have hr : readV l = 0 ∧ readE l = 32 := by unfold readV readE; rw [if_neg (by omega), if_neg (by omega)]; exact ⟨rfl, rfl⟩
    rw [hr.1, hr.2]
    have hne : ((len : Int) != 512) = true := by rw [bne_iff_ne]; omega
    clear hr hw hh hl hlen
    go_enter Tryd.func12, Tryd.ntmps12
    go_wp2_with fail
    go_ret2
    exact ⟨rfl, Below.refl _ _⟩
end Go.Proofs.YtaijakknhmagoaaDoor
