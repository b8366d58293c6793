/-
  THE WALK OF SumPieces: it answers true where all pieces together are no more than Join takes.
-/
import Derived.Test.YtjglffejoflpoaaDoorSumKnown
import Derived.Test.YtjglffejoflpoaaDoorRow
import Derived.WalkLawsBesides
set_option linter.unusedVariables false
set_option linter.unusedSimpArgs false
namespace Go.Proofs.YtjglffejoflpoaaDoor
open Go.RowKit
attribute [local go_sem] u32_wrap8 u32_wrap32 u32_xor u32_max u32_signed u32_not

theorem of_len (A : Option Addr) (cap : Nat) (l : List UInt8) (len : Nat) (hlen : l.length = len) (w : World) (hw : HalfAt w) (hl : Bytes w A l) (hm : len ≤ 9223372036854775807) :
    Calls Tryd.prog 10 #[.slice A len cap] w fun e w' => e = .returned (.int .u32 (n32 (Crc.crc l))) ∧ w = w' := by
  subst hlen; exact of_any A cap l w hw hl hm
/-- Of(nil) -/
theorem of_nil (w : World) (hw : HalfAt w) : Calls Tryd.prog 10 #[.slice none 0 0] w fun e w' => e = .returned (.int .u32 (n32 (Crc.crc []))) ∧ w = w' :=
  of_any none 0 [] w hw (.inl rfl) (by decide)

/-- Join at two rows -/
theorem join_rows (x y : List UInt8) (n : Nat) (hn : y.length = n) (w : World) (hw : HalfAt w) (h : n ≤ 1099511627776) :
    Calls Tryd.prog 11 #[.int .u32 (n32 (Crc.crc x)), .int .u32 (n32 (Crc.crc y)), .int .i64 (n : Int)] w fun e w' =>
      e = .returned (.tuple #[.int .u32 (n32 (Crc.crc (x ++ y))), .int .i64 0]) ∧ Below w.heap.size w w' := by
  subst hn
  rw [Crc.crc_join]
  exact join_ok _ _ _ w hw h

set_option maxRecDepth 100000 in
set_option maxHeartbeats 2000000 in
theorem pieces_any (P : Option Addr) (cp : Nat) (ps : List Piece) (w : World) (hw : HalfAt w) (hP : Pieces w P ps) (hm : (cat ps).length ≤ 1099511627776) (hcp : ps.length ≤ 140737488355328) :
    Calls Tryd.prog 4 #[.slice P ps.length cp] w fun e w' => e = .returned (.bool true) ∧ Below w.heap.size w w' := by
  have hG := hw.lt
  have HW := Lib.hid hw
  have HP := Lib.hid hP
  clear hw hP
  go_enter Tryd.func4, Tryd.ntmps4
  go_wp2_with fail
  refine (known_any _ HW.out).mono ?_
  rintro e w1 ⟨rfl, hb1⟩
  have hs1 := hb1.size
  have HW1 := Lib.hid (HW.out.below hb1 hG)
  go_wp2_with (go_at_call 10; refine (of_nil _ HW1.out).mono ?_; rintro e w' ⟨rfl, rfl⟩)
  go_loopw [3, 4, 23] (fun v s i wr => ∃ (k : Nat) (A2 : Option Addr) (cap2 : Nat), k ≤ ps.length ∧ i = .int .i64 k ∧ s = .int .u32 (n32 (Crc.crc (cat (ps.take k)))) ∧ v = .slice A2 (cat (ps.take k)).length cap2 ∧ Mine wr w.heap.size A2 cap2 (cat (ps.take k)) ∧ Below w.heap.size w wr) (fun _ _ i _ => ps.length - (intOf i).toNat)
  case atStart => exact ⟨0, none, 0, by omega, rfl, rfl, rfl, Mine.nil _ _, hb1⟩
  case round =>
    obtain ⟨k, A2, cap2, hk, rfl, rfl, rfl, hM, hBr⟩ := hrel
    have hsz := hBr.size
    by_cases hlt : k < ps.length
    · obtain ⟨b, off, B, c, news, rfl, hpk, hcell, hB, hnil⟩ := (HP.out.later hBr).at_ hlt
      have hcat := cat_snoc ps k hlt
      have htot := cat_le ps (k + 1)
      rw [hcat, hpk] at htot
      rw [hpk] at hcat
      simp only [List.length_append] at htot
      have hBw : Bytes w B news := by have := (HP.out.2 _ (List.getElem_mem hlt)).1; rw [hpk] at this; exact this
      have HCAT := Lib.hid hcat
      have HB := Lib.hid hBw
      have HN := Lib.hid hnil
      have HPK := Lib.hid hpk
      clear hcat hB hnil hpk hBw
      generalize hl2 : cat (ps.take k) = l2 at *
      have HL2 := Lib.hid hl2
      clear hl2
      go_wp2_with (at_builtin; refine wpList_append_u8 rfl (.tmp 27) (.tmp 28) rfl w.heap.size A2 cap2 l2 rfl hM B c news rfl HN.out (HB.out.later hBr) (by omega) hsz ?_; intro A3 cap3 w3 hm3 hg3 hb3)
      have hb4 := hBr.trans hb3
      refine (of_len B c news _ rfl _ (HW.out.below hb4 hG) (HB.out.later hb4) (by omega)).mono ?_
      rintro e w4 ⟨rfl, rfl⟩
      go_wp2_with fail
      refine (join_rows l2 news _ rfl _ (HW.out.below hb4 hG) (by omega)).mono ?_
      rintro e w5 ⟨rfl, hb5⟩
      have hm5 := hm3.later hb5
      have hb6 := hb4.trans (hb5.mono hb4.size)
      go_wp2_with (go_at_call 12; refine (num_any _ _).mono ?_; rintro e w' ⟨rfl, rfl⟩)
      go_roundw
      case rel => exact ⟨k + 1, A3, cap3, by omega, by go_num, by rw [HCAT.out], by rw [HCAT.out]; simp, by rw [HCAT.out]; exact hm5, hb6⟩
      case measure => simp [intOf]; omega
    · have hall : cat (ps.take k) = cat ps := by rw [List.take_of_length_le (by omega)]
      rw [hall] at hM ⊢
      obtain ⟨wo, rfl⟩ : ∃ wo : World, wo = wr := ⟨_, rfl⟩
      have HWo := Lib.hid (HW.out.below hBr hG)
      go_wp2_with (go_at_call 10; refine (of_nil _ HWo.out).mono ?_; rintro e w' ⟨rfl, rfl⟩)
      go_loopw [9, 10, 11] (fun s v i wr => ∃ j : Nat, j ≤ ps.length ∧ i = .int .i64 ((j : Int) - 1) ∧ s = .int .u32 (n32 (Crc.crc (cat (ps.drop j)))) ∧ v = .int .i64 ((cat (ps.drop j)).length : Int) ∧ Below w.heap.size w wr ∧ Mine wr w.heap.size A2 cap2 (cat ps)) (fun _ _ i _ => (intOf i + 1).toNat)
      case atStart => exact ⟨ps.length, by omega, rfl, by rw [List.drop_length]; rfl, by rw [List.drop_length]; rfl, hBr, hM⟩
      case round =>
        obtain ⟨j, hj, rfl, rfl, rfl, hBr, hM⟩ := hrel
        have hsz := hBr.size
        by_cases h0 : 0 < j
        · obtain ⟨q, rfl⟩ : ∃ q, j = q + 1 := ⟨j - 1, by omega⟩
          rw [show ((q + 1 : Nat) : Int) - 1 = (q : Int) by omega]
          obtain ⟨b, off, B, c, news, rfl, hpk, hcell, hB, hnil⟩ := (HP.out.later hBr).at_ (show q < ps.length by omega)
          have hcat := cat_drop ps q (by omega)
          have htot := cat_drop_le ps q
          rw [hcat, hpk] at htot
          rw [hpk] at hcat
          simp only [List.length_append] at htot
          have HCAT := Lib.hid hcat
          have HB := Lib.hid hB
          clear hcat hB hnil hpk
          generalize hl2 : cat (ps.drop (q + 1)) = l2 at *
          have HL2 := Lib.hid hl2
          clear hl2
          go_wp2_with fail
          refine (of_len B c news _ rfl _ (HW.out.below hBr hG) HB.out (by omega)).mono ?_
          rintro e w4 ⟨rfl, rfl⟩
          go_wp2_with fail
          refine (join_rows news l2 _ rfl _ (HW.out.below hBr hG) (by omega)).mono ?_
          rintro e w5 ⟨rfl, hb5⟩
          have hm5 := hM.later hb5
          have hb6 := hBr.trans (hb5.mono hBr.size)
          have hc5 := (hb5.cell (p := ⟨b, off + q, none⟩) (block_lt_of_cell hcell)).trans hcell
          have hwr : IntKind.i64.wrap ((l2.length : Int) + (news.length : Int)) = (l2.length : Int) + (news.length : Int) := IntWalk.i64_in _ (by omega)
          have hq1 : (q : Int) < (ps.length : Int) := by omega
          clear hb5
          go_wp2_with (go_at_call 12; refine (num_any _ _).mono ?_; rintro e w' ⟨rfl, rfl⟩)
          go_quiet (fail)
          go_wp2_with fail
          go_roundw
          case rel => exact ⟨q, by omega, by go_num, by rw [HCAT.out], by rw [HCAT.out]; simp; omega, below_drewN hb6 _, hm5.drewN _⟩
          case measure => simp [intOf]
        · obtain rfl : j = 0 := by omega
          rw [List.drop_zero]
          generalize hall : cat ps = all at *
          obtain ⟨h, hh, hhl⟩ : ∃ h : Nat, (all.length : Int) / 2 = (h : Int) ∧ h ≤ all.length := ⟨all.length / 2, by omega, by omega⟩
          have hcap := hM.cap_le.1
          have hcut := hM.bytes.cut (k := h) hcap
          obtain ⟨A3, hA3⟩ : ∃ A3, (if cap2 = h then A2 else Option.map (fun x => x.add h) A2) = A3 := ⟨_, rfl⟩
          rw [hA3] at hcut
          have HC1 := Lib.hid hcut.drew
          have HC2 := Lib.hid (hM.bytes.take h).drew
          have HWr := Lib.hid (HW.out.below hBr.drew hG)
          have hw1 : IntKind.i64.wrap ((all.length : Int) - (h : Int)) = ((all.length - h : Nat) : Int) := by rw [IntWalk.i64_in _ (by omega)]; omega
          have hw2 : (h : Int) ≤ (all.length : Int) := by omega
          have hw3 : (h : Int) ≤ (cap2 : Int) := by omega
          have ht1 : (all.take h).length = h := by simp; omega
          have ht2 : (all.drop h).length = all.length - h := by simp
          have HT1 := Lib.hid ht1
          have HT2 := Lib.hid ht2
          have hj := join_rows (all.take h) (all.drop h) (all.length - h) ht2
          rw [List.take_append_drop] at hj
          have HJ := Lib.hid hj
          clear hcut ht1 ht2 hj
          go_wp2_with fail
          go_region_with (first
            | (go_at_call 10; (with_reducible refine (of_len A2 _ (all.take h) h HT1.out _ HWr.out HC2.out (by omega)).mono ?_); rintro e w' ⟨rfl, rfl⟩)
            | (go_at_call 10; (with_reducible refine (of_len A3 _ (all.drop h) (all.length - h) HT2.out _ HWr.out HC1.out (by omega)).mono ?_); rintro e w' ⟨rfl, rfl⟩)
            | (go_at_call 11; refine (HJ.out _ HWr.out (by omega)).mono ?_; rintro e w6 ⟨rfl, hb6⟩))
          have hb7 := hBr.drew.trans (hb6.mono hBr.size)
          have hm7 := (hM.drew.later hb6).bytes
          go_wp2_with fail
          refine (of_len A2 _ all _ rfl _ (HW.out.below hb7 hG) hm7 (by omega)).mono ?_
          rintro e w8 ⟨rfl, rfl⟩
          go_wp2_with (go_at_call 12; refine (num_any _ _).mono ?_; rintro e w' ⟨rfl, rfl⟩)
          go_ret
          exact ⟨rfl, hb7⟩
end Go.Proofs.YtjglffejoflpoaaDoor
