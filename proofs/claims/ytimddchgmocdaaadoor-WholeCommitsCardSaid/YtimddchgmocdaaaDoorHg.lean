/-
  THE WALKS OF head (3): Make.
  THE WALKS OF head (4): Nums, Good.
  THE WALKS OF head (5): Good.
-/
import Derived.Test.YtimddchgmocdaaaDoorHw2
set_option linter.unusedVariables false
set_option linter.unusedSimpArgs false
namespace Go.Proofs.YtimddchgmocdaaaDoor
open Go.RowKit Rec

theorem put_num2 (n : Nat) (nums : List Nat) (k : Nat) (v : Nat) (hk : nums.length = k) (hk2 : k < 96) (hv : v < 4294967296) :
    putE (Hd.st n nums).length (16 + 4 * (k : Int)) 4 v = 0 ∧ putL (Hd.st n nums) (16 + 4 * (k : Int)) 4 v = Hd.st n (nums ++ [v]) := by
  subst hk
  have e : (16 + 4 * (nums.length : Int)) = ((16 + 4 * nums.length : Nat) : Int) := by omega
  rw [e]
  exact Hd.put_num n nums v hk2 hv
theorem u64_n32 (s : BitVec 32) : IntKind.u64.wrap (n32 s) = (s.toNat : Int) := by
  have h := s.isLt
  unfold n32
  rw [show IntKind.u64.wrap (s.toNat : Int) = (s.toNat : Int) % 18446744073709551616 from rfl]
  omega
theorem zero_len : (Tx.zero).length = 512 := by unfold Tx.zero; exact List.length_replicate
set_option maxRecDepth 100000 in
set_option maxHeartbeats 3200000 in
theorem make_any (base a db nb : Nat) (An : Option Addr) (cn : Nat) (nums : List Nat) (A : Option Addr) (cap : Nat) (data : List (List UInt8)) (n : Nat) (w : World) (h : DataRow w base a db A cap data) (hn : data.length = n) (hN : Nums w nb An cn (ints nums)) (hnn : nums.length = n)
    (hr : RiseN 16384 nums) (hw : WidthsAt w) (hh : HalfAt w) :
    Calls Tryd.prog 35 #[.slice An n cn, .slice A n cap] w fun e w' => (∃ B, e = .returned (.tuple #[.slice B 512 512, .int .i64 0]) ∧ Mine w' w.heap.size B 512 (Hd.made nums data)) ∧ Below w.heap.size w w' := by
  subst hnn
  have hone := hr.one
  have hfew := hr.few
  have HD := Lib.hid h
  have HN := Lib.hid hN
  have HNN := Lib.hid hn
  have HR := Lib.hid hr
  have HW := Lib.hid hw
  have HH := Lib.hid hh
  clear h hN hn hr hw hh
  go_enter Tryd.func35, Tryd.ntmps35
  go_wp2_with (first
    | (go_at_call 46
       refine (hmay_any nb 16384 An cn nums w HN.out HR.out).mono ?_
       rintro e w1 ⟨rfl, hb1⟩
       have HB1 := Lib.hid hb1
       clear hb1)
    | (go_at_call 47
       refine (are_any base a db A cap data nums.length w1 (HD.out.later HB1.out) HNN.out (by omega)).mono ?_
       rintro e w2 ⟨rfl, rfl⟩)
    | (go_at_call 48
       refine (empty_any w1).mono ?_
       rintro e w3 ⟨⟨B, rfl, hM⟩, hb3⟩
       have HM3 := Lib.hid (Mine.base_le hM HB1.out.size)
       have HB3 := Lib.hid (HB1.out.trans (hb3.mono HB1.out.size))
       clear hM hb3)
    | (go_at_call 49
       refine (putText_to w.heap.size B 512 Tx.zero 512 zero_len 0 8 Hd.magic 0 _ Hd.put_magic.1 Hd.put_magic.2 w3 HM3.out HB3.out.size (by decide) (by decide) (by decide) (by decide)).mono ?_
       rintro e w4 ⟨rfl, hM4, hk4⟩
       have HM4 := Lib.hid hM4
       have HB4 := Lib.hid (HB3.out.trans (hk4.below HB3.out.size (fun i hi => HM3.out.of_ge i hi)))
       clear hM4 hk4)
    | (go_at_call 50
       refine (put_to w.heap.size B 512 _ 512 (by simp [Hd.magic]) 8 2 nums.length 0 _ (Hd.put_many nums.length (by omega)).1 (Hd.put_many nums.length (by omega)).2 w4 (HW.out.below HB4.out HW.out.lt) HM4.out (by decide) (by decide) (by decide) (by omega)).mono ?_
       rintro e w5 ⟨rfl, hM5, hk5⟩
       have HM5 := Lib.hid hM5
       have HB5 := Lib.hid (HB4.out.trans (hk5.below HB4.out.size (fun i hi => HM4.out.of_ge i hi)))
       clear hM5 hk5))
  go_loopw [29] (fun u wr => ∃ k : Nat, k ≤ nums.length ∧ u = .int .i64 k ∧ Mine wr w.heap.size B 512 (Hd.st nums.length (nums.take k)) ∧ Below w.heap.size w wr) (fun u _ => nums.length - (intOf u).toNat)
  case atStart => exact ⟨0, Nat.zero_le _, rfl, HM5.out, HB5.out⟩
  case round =>
    obtain ⟨k, hk, rfl, hMr, hb⟩ := hrel
    have HMr := Lib.hid hMr
    have HB := Lib.hid hb
    clear hb hMr
    by_cases hlt : k < nums.length
    · have hk0 : (k : Int) < (nums.length : Int) := by omega
      have hk1 : (0 : Int) ≤ (k : Int) := by omega
      obtain ⟨g, rfl, c1⟩ := nums_at (HN.out.later HB.out) hlt
      have hl := (HR.out.low k hlt).2
      have hkl : (nums.take k).length = k := by rw [List.length_take]; omega
      have hpn := put_num2 nums.length (nums.take k) k nums[k] hkl (by omega) (by omega)
      have hst : (Hd.st nums.length (nums.take k)).length = 512 := Hd.st_length (by omega) _
      rw [← take_snoc nums k hlt] at hpn
      obtain ⟨x, hx⟩ : ∃ x, nums[k] = x := ⟨_, rfl⟩
      rw [hx] at c1 hl hpn
      have HPN := Lib.hid hpn
      have HST := Lib.hid hst
      clear hx hpn hst
      go_wp2_with (go_at_call 50
                   refine (put_to w.heap.size B 512 _ 512 HST.out (16 + 4 * (k : Int)) 4 x 0 _ HPN.out.1 HPN.out.2 wr (HW.out.below HB.out HW.out.lt) HMr.out (by decide) (by omega) (by omega) (by omega)).mono ?_
                   rintro e w6 ⟨rfl, hM6, hk6⟩
                   have HM6 := Lib.hid hM6
                   have HB6 := Lib.hid (HB.out.trans (hk6.below HB.out.size (fun i hi => HMr.out.of_ge i hi)))
                   clear hM6 hk6)
      go_roundw
      case rel => exact ⟨k + 1, by omega, by go_num, HM6.out, HB6.out⟩
      case measure => simp [intOf]; omega
    · obtain rfl : nums.length = k := by omega
      have hall : nums.take nums.length = nums := List.take_length
      rw [hall, Hd.st_hd] at HMr
      have hhl : (Hd.hd nums 0).length = 512 := Hd.hd_length hfew _
      have HHL := Lib.hid hhl
      have HPS := Lib.hid (Hd.put_sum nums 0 0 (by decide))
      obtain ⟨s, hs⟩ : ∃ s, Hd.sumS (Hd.hd nums 0) data = s := ⟨_, rfl⟩
      have hsl : s.toNat < 4294967296 := s.isLt
      have HPT := Lib.hid (Hd.put_sum nums 0 s.toNat hsl)
      have HMD := Lib.hid (show Hd.made nums data = Hd.hd nums s.toNat from by unfold Hd.made; rw [hs])
      have HS := Lib.hid hs
      clear hhl hs hall
      go_wp2_with (first
        | (go_at_call 51
           refine (sumOf_any base a db B 512 (Hd.hd nums 0) (Hd.hd nums 0) A cap data nums.length wr (HD.out.later HB.out) HNN.out (by omega) (HW.out.below HB.out HW.out.lt) (HH.out.below HB.out HH.out.lt) HHL.out HMr.out.bytes HPS.out HHL.out).mono ?_
           rw [HS.out]
           rintro e w7 ⟨rfl, hb7⟩
           have HB7 := Lib.hid (HB.out.trans (hb7.mono HB.out.size))
           have HM7 := Lib.hid (HMr.out.later hb7)
           clear hb7)
        | (go_at_call 50
           rw [u64_n32]
           refine (put_to w.heap.size B 512 _ 512 HHL.out 12 4 s.toNat 0 _ HPT.out.1 HPT.out.2 w7 (HW.out.below HB7.out HW.out.lt) HM7.out (by decide) (by decide) (by decide) (by omega)).mono ?_
           rintro e w8 ⟨rfl, hM8, hk8⟩
           have HM8 := Lib.hid hM8
           have HB8 := Lib.hid (HB7.out.trans (hk8.below HB7.out.size (fun i hi => HM7.out.of_ge i hi)))
           clear hM8 hk8))
      go_ret2
      exact ⟨⟨B, rfl, by rw [HMD.out]; exact HM8.out⟩, HB8.out⟩
end Go.Proofs.YtimddchgmocdaaaDoor
set_option linter.unusedVariables false
set_option linter.unusedSimpArgs false
namespace Go.Proofs.YtimddchgmocdaaaDoor
open Go.RowKit Rec

set_option maxRecDepth 100000 in
set_option maxHeartbeats 1600000 in
theorem nums_zero (A : Option Addr) (cap n : Nat) (w : World) (hb : Bytes w A Tx.zero) (hc : 512 ≤ cap) :
    Calls Tryd.prog 58 #[.slice A 512 cap, .int .i64 (n : Int)] w fun e w' => e = .returned (.tuple #[.slice none 0 0, .int .i64 0]) ∧ w = w' := by
  have HB := Lib.hid hb
  clear hb
  go_enter Tryd.func58, Tryd.ntmps58
  go_wp2_with (go_at_call 72
               refine (zero_to2 A cap Tx.zero 512 zero_len 0 512 true 0 Hd.zero_none.1 Hd.zero_none.2 w HB.out hc (by decide) (by decide) (by decide)).mono ?_
               rintro e w1 ⟨rfl, rfl⟩)
  go_ret2
  exact ⟨rfl, rfl⟩
theorem get_num2 (nums : List Nat) (s k : Nat) (hk : k < nums.length) (hv : nums[k] < 4294967296) : getV (Hd.hd nums s) (16 + 4 * (k : Int)) 4 = nums[k] ∧ getE (Hd.hd nums s).length (16 + 4 * (k : Int)) 4 = 0 := by
  have e : (16 + 4 * (k : Int)) = ((16 + 4 * k : Nat) : Int) := by omega
  rw [e]
  exact Hd.get_num nums s k hk hv
theorem zero_rest2 {nums : List Nat} (hn : nums.length ≤ 96) (s : Nat) : zeroV (Hd.hd nums s) (16 + 4 * (nums.length : Int)) (512 - (16 + 4 * (nums.length : Int))) = true ∧ zeroE (Hd.hd nums s).length (16 + 4 * (nums.length : Int)) (512 - (16 + 4 * (nums.length : Int))) = 0 := by
  have e : (16 + 4 * (nums.length : Int)) = ((16 + 4 * nums.length : Nat) : Int) := by omega
  have e2 : (512 - (16 + 4 * (nums.length : Int))) = ((496 - 4 * nums.length : Nat) : Int) := by omega
  rw [e2, e]
  exact Hd.zero_rest hn s
theorem ints_snoc (nums : List Nat) (k : Nat) (hk : k < nums.length) : ints (nums.take (k + 1)) = ints (nums.take k) ++ [((nums[k] : Nat) : Int)] := by
  rw [take_snoc nums k hk]; unfold ints; rw [List.map_append]; rfl
set_option maxRecDepth 100000 in
set_option maxHeartbeats 3200000 in
theorem nums_hd (A : Option Addr) (cap n : Nat) (nums : List Nat) (s len : Nat) (hlen : nums.length = len) (w : World) (hb : Bytes w A (Hd.hd nums s)) (hc : 512 ≤ cap) (hw : WidthsAt w) (hr : RiseN n nums) (hn : n ≤ 16384) :
    Calls Tryd.prog 58 #[.slice A 512 cap, .int .i64 (n : Int)] w fun e w' => (∃ B c, e = .returned (.tuple #[.slice B len c, .int .i64 0]) ∧ Nums w' w.heap.size B c (ints nums)) ∧ Below w.heap.size w w' := by
  subst hlen
  have hone := hr.one
  have hfew := hr.few
  have HB := Lib.hid hb
  have HR := Lib.hid hr
  have HW := Lib.hid hw
  have HL := Lib.hid (Hd.hd_length hfew s)
  have hA : A ≠ none := by
    obtain ⟨b, off, rfl, _⟩ := hb.at_ (k := 0) (by rw [Hd.hd_length hfew s]; decide)
    simp
  obtain ⟨ad, rfl⟩ := Option.ne_none_iff_exists'.1 hA
  have hm8 : Bytes w (some ad) Hd.magic := by have := hb.take 8; rw [Hd.take_magic] at this; exact this
  have hstr : ∀ c, (convert 42 9 (.slice (some ad) 8 c)).run Tryd.prog w = .ok (.string ⟨#[66, 79, 76, 69, 76, 79, 71, 49]⟩) w := fun c => str_any w (some ad) c Hd.magic hm8 8 rfl
  have HZ := Lib.hid (Hd.zero_some hfew s)
  have HG := Lib.hid (Hd.get_many nums s (by omega))
  have HS1 := Lib.hid (Hd.zero_still nums s)
  have HS2 := Lib.hid (zero_rest2 hfew s)
  clear hb hr hw hA hm8
  go_enter Tryd.func58, Tryd.ntmps58
  go_wp2_with (first
    | (go_at_call 72
       refine (zero_to2 (some ad) cap _ 512 HL.out 0 512 false 0 HZ.out.1 HZ.out.2 w HB.out hc (by decide) (by decide) (by decide)).mono ?_
       rintro e w1 ⟨rfl, rfl⟩)
    | (go_at_call 73
       refine (get_to (some ad) cap _ 512 HL.out 8 2 nums.length 0 HG.out.1 HG.out.2 w HW.out HB.out (by decide) (by decide) (by decide)).mono ?_
       rintro e w1 ⟨rfl, rfl⟩))
  go_loopw [10, 43] (fun v u wr => ∃ (k : Nat) (B : Option Addr) (c : Nat), k ≤ nums.length ∧ u = .int .i64 k ∧ v = .slice B k c ∧ Nums wr w.heap.size B c (ints (nums.take k)) ∧ Below w.heap.size w wr) (fun v u _ => nums.length - (intOf u).toNat)
  case atStart => exact ⟨0, none, 0, Nat.zero_le _, rfl, rfl, Nums.nil _ _, Below.refl _ _⟩
  case round =>
    obtain ⟨k, B, c, hk, rfl, rfl, hN, hb⟩ := hrel
    have HNr := Lib.hid hN
    have HBr := Lib.hid hb
    clear hN hb
    have hkl : (ints (nums.take k)).length = k := by rw [ints_len, List.length_take]; omega
    have HKL := Lib.hid hkl
    by_cases hlt : k < nums.length
    · have hk0 : (k : Int) < (nums.length : Int) := by omega
      have hk1 : (0 : Int) ≤ (k : Int) := by omega
      have hl := (HR.out.low k hlt).2
      have hgn := get_num2 nums s k hlt (by omega)
      have hsn := ints_snoc nums k hlt
      obtain ⟨x, hx⟩ : ∃ x, nums[k] = x := ⟨_, rfl⟩
      rw [hx] at hl hgn hsn
      have HGN := Lib.hid hgn
      have HSN := Lib.hid hsn
      have hx16 : (x : Int) < 16384 := by omega
      have hbz := HBr.out.size
      clear hx hgn hsn hkl
      go_wp2_with (first
        | (go_at_call 73
           refine (get_to (some ad) cap _ 512 HL.out (16 + 4 * (k : Int)) 4 x 0 HGN.out.1 HGN.out.2 wr (HW.out.below HBr.out HW.out.lt) (HB.out.later HBr.out) (by decide) (by omega) (by omega)).mono ?_
           rintro e w1 ⟨rfl, rfl⟩)
        | (at_builtin
           refine wpList_append_num rfl _ _ (by rfl) w.heap.size B c (ints (nums.take k)) (by rw [HKL.out]; rfl) (HNr.out.later (below_new _ _)) wr.heap.size 1 (x : Int) (by rfl) (by have := (Is.new wr 3 #[.int .i64 (x : Int)]).cell 0; exact this) (by rw [HKL.out]; omega) (by rw [World.size_alloc]; omega) ?_
           intro A' cap' w' hN' hK' hOf'
           rw [← HSN.out] at hN' ⊢
           have HN' := Lib.hid hN'
           have HB' := Lib.hid (show Below w.heap.size w w' from (HBr.out.trans ((below_new wr (.cells #[.int .i64 (x : Int)] 3)).mono HBr.out.size)).trans (hK'.below (by rw [World.size_alloc]; omega) (fun i hi => HNr.out.ge i hi)))
           have hl9 : (ints (nums.take (k + 1))).length = k + 1 := by rw [ints_len, List.length_take]; omega
           rw [hl9]
           clear hN' hK' hOf' hl9))
      go_roundw
      case rel => exact ⟨k + 1, A', cap', by omega, by go_num, rfl, HN'.out, HB'.out⟩
      case measure => simp [intOf]; omega
    · obtain rfl : nums.length = k := by omega
      have hall : nums.take nums.length = nums := List.take_length
      rw [hall] at HNr
      go_wp2_with (first
        | (go_at_call 72
           first
           | (with_reducible refine (zero_to2 (some ad) cap _ 512 HL.out 10 2 true 0 HS1.out.1 HS1.out.2 wr (HB.out.later HBr.out) hc (by decide) (by decide) (by decide)).mono ?_
              rintro e w1 ⟨rfl, rfl⟩)
           | (with_reducible refine (zero_to2 (some ad) cap _ 512 HL.out (16 + 4 * (nums.length : Int)) (512 - (16 + 4 * (nums.length : Int))) true 0 HS2.out.1 HS2.out.2 wr (HB.out.later HBr.out) hc (by decide) (by omega) (by omega)).mono ?_
              rintro e w1 ⟨rfl, rfl⟩))
        | (go_at_call 46
           refine (hmay_any w.heap.size n B c nums wr HNr.out HR.out).mono ?_
           rintro e w2 ⟨rfl, hb2⟩
           have HB2 := Lib.hid hb2
           clear hb2))
      go_ret2
      exact ⟨⟨B, c, rfl, HNr.out.later HB2.out⟩, HBr.out.trans (HB2.out.mono HBr.out.size)⟩
end Go.Proofs.YtimddchgmocdaaaDoor
set_option linter.unusedVariables false
set_option linter.unusedSimpArgs false
namespace Go.Proofs.YtimddchgmocdaaaDoor
open Go.RowKit Rec

set_option maxRecDepth 100000 in
set_option maxHeartbeats 3200000 in
theorem good_any (base a db : Nat) (H0 : Option Addr) (hc : Nat) (n : Nat) (nums : List Nat) (A : Option Addr) (cap : Nat) (data : List (List UInt8)) (m : Nat) (w : World) (h : DataRow w base a db A cap data) (hm : data.length = m) (hnn : nums.length = m)
    (hb : Bytes w H0 (Hd.made nums data)) (hcc : 512 ≤ hc) (hr : RiseN n nums) (hn : n ≤ 16384) (hw : WidthsAt w) (hh : HalfAt w) :
    Calls Tryd.prog 59 #[.slice H0 512 hc, .int .i64 (n : Int), .slice A m cap] w fun e w' => e = .returned (.bool true) ∧ Below w.heap.size w w' := by
  obtain ⟨s, hs⟩ : ∃ s, Hd.sumS (Hd.hd nums 0) data = s := ⟨_, rfl⟩
  have hsl : s.toNat < 4294967296 := s.isLt
  have hmd : Hd.made nums data = Hd.hd nums s.toNat := by unfold Hd.made; rw [hs]
  rw [hmd] at hb
  have hone := hr.one
  have hfew := hr.few
  have hm1 : (1 : Int) ≤ (m : Int) := by omega
  have hm2 : (m : Int) ≤ 96 := by omega
  have hm0 : ((m : Int) == 0) = false := by rw [beq_eq_false_iff_ne]; omega
  have HD := Lib.hid h
  have HB := Lib.hid hb
  have HR := Lib.hid hr
  have HW := Lib.hid hw
  have HH := Lib.hid hh
  have HM := Lib.hid hm
  have HNN := Lib.hid hnn
  have HL := Lib.hid (Hd.hd_length hfew s.toNat)
  have HL0 := Lib.hid (Hd.hd_length hfew 0)
  have HG := Lib.hid (Hd.get_sum nums s.toNat hsl)
  have HPS := Lib.hid (Hd.put_sum nums s.toNat 0 (by decide))
  have HS := Lib.hid hs
  have hw32 := wrap32_nat s
  clear h hb hr hw hh hm hnn hmd hs hone hfew
  go_enter Tryd.func59, Tryd.ntmps59
  go_wp2_with (first
    | (go_at_call 58
       refine (nums_hd H0 hc n nums s.toNat m HNN.out w HB.out hcc HW.out HR.out hn).mono ?_
       rintro e w1 ⟨⟨B, c, rfl, hN⟩, hb1⟩
       have HB1 := Lib.hid hb1
       clear hN hb1)
    | (go_at_call 47
       refine (are_any base a db A cap data m w1 (HD.out.later HB1.out) HM.out (by omega)).mono ?_
       rintro e w2 ⟨rfl, rfl⟩)
    | (go_at_call 73
       refine (get_to H0 hc _ 512 HL.out 12 4 s.toNat 0 HG.out.1 HG.out.2 w1 (HW.out.below HB1.out HW.out.lt) (HB.out.later HB1.out) (by decide) (by decide) (by decide)).mono ?_
       rintro e w2 ⟨rfl, rfl⟩)
    | (go_at_call 51
       refine (sumOf_any base a db H0 hc (Hd.hd nums s.toNat) (Hd.hd nums 0) A cap data m w1 (HD.out.later HB1.out) HM.out (by omega) (HW.out.below HB1.out HW.out.lt) (HH.out.below HB1.out HH.out.lt) HL.out (HB.out.later HB1.out) HPS.out HL0.out).mono ?_
       rw [HS.out]
       rintro e w3 ⟨rfl, hb3⟩
       have HB3 := Lib.hid hb3
       clear hb3))
  go_ret
  exact ⟨by first | rfl | simp, HB1.out.trans (HB3.out.mono HB1.out.size)⟩
end Go.Proofs.YtimddchgmocdaaaDoor
