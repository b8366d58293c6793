/-
  THE WALK OF SumTurns: it answers true where the bytes are no more than Turn takes.
-/
import Derived.Test.YtjglffejoflpoaaDoorSumKnown
import Derived.Test.YtjglffejoflpoaaDoorRow
import Derived.WalkLawsBesides
set_option linter.unusedVariables false
set_option linter.unusedSimpArgs false
namespace Go.Proofs.YtjglffejoflpoaaDoor
open Go.RowKit
attribute [local go_sem] u32_wrap8 u32_wrap32 u32_xor u32_max u32_signed u32_not

theorem turns_step (l news : List UInt8) (at_ : Nat) (h : at_ + news.length ≤ l.length) :
    Crc.crc l ^^^ Crc.zeros (l.length - at_ - ((l.drop at_).take news.length).length) (Crc.crc ((l.drop at_).take news.length) ^^^ Crc.crc news) = Crc.crc (spliced l at_ news) := by
  have hw : ((l.drop at_).take news.length).length = news.length := by simp; omega
  have h1 := Crc.crc_middle (l.take at_) ((l.drop at_).take news.length) news (l.drop (at_ + news.length)) hw
  have h2 : l.take at_ ++ (l.drop at_).take news.length ++ l.drop (at_ + news.length) = l := by
    rw [List.append_assoc, ← List.drop_drop, List.take_append_drop, List.take_append_drop]
  rw [h2] at h1
  have h3 : (l.drop (at_ + news.length)).length = l.length - at_ - news.length := by simp; omega
  rw [h3] at h1
  rw [hw]
  exact h1

theorem slen (l : List UInt8) (at_ n : Nat) (h : at_ + n ≤ l.length) : ((l.drop at_).take n).length = n := by simp; omega
theorem tlen (l : List UInt8) (n : Nat) (h : n ≤ l.length) : (l.take n).length = n := by simp; omega

/-- one call of Turn at pieces of two rows -/
theorem turn_piece (l now : List UInt8) (len : Nat) (hlen : l.length = len) (at_ many : Nat) (A B : Option Addr) (ca cb : Nat) (w : World) (hw : HalfAt w) (hA : Bytes w A ((l.drop at_).take many)) (hB : Bytes w B (now.take many))
    (hn : len ≤ 1099511627776) (ha : at_ + many ≤ len) (hm : many ≤ now.length) :
    Calls Tryd.prog 13 #[.int .u32 (n32 (Crc.crc l)), .int .i64 (len : Int), .int .i64 (at_ : Int), .slice A many ca, .slice B many cb] w fun e w' =>
      e = .returned (.tuple #[.int .u32 (n32 (Crc.crc (spliced l at_ (now.take many)))), .int .i64 0]) ∧ Below w.heap.size w w' := by
  subst hlen
  have e1 := slen l at_ many ha
  have e2 := tlen now many hm
  have := turn_ok (Crc.crc l) l.length at_ A B ca cb ((l.drop at_).take many) (now.take many) w hw hA hB hn (by omega) (by omega)
  rw [e1, e2] at this
  have hs := turns_step l (now.take many) at_ (by omega)
  rw [e2, e1] at hs
  rw [hs] at this
  exact this

/-- the place that the statement makes of a number -/
theorem place_of (z : Int) (len : Nat) : ∃ n : Nat, n ≤ len ∧ (z.tmod ((len : Int) + 1) = (n : Int) ∨ (z.tmod ((len : Int) + 1) = -(n : Int) ∧ 0 < n)) := by
  have h1 := Int.lt_tmod_of_pos z (b := (len : Int) + 1) (by omega)
  have h2 := Int.tmod_lt_of_pos z (b := (len : Int) + 1) (by omega)
  generalize z.tmod ((len : Int) + 1) = q at h1 h2
  by_cases h : 0 ≤ q
  · obtain ⟨n, rfl⟩ := Int.eq_ofNat_of_zero_le h
    exact ⟨n, by omega, .inl rfl⟩
  · obtain ⟨n, hn⟩ := Int.eq_ofNat_of_zero_le (a := -q) (by omega)
    exact ⟨n, by omega, .inr ⟨by omega, by omega⟩⟩
/-- the least of three, as the walk spells it -/
theorem min_three (x : Int) (y z : Nat) (hx : 0 ≤ x) : ∃ m : Nat, (if (z : Int) < (if (y : Int) < x then (y : Int) else x) then (z : Int) else (if (y : Int) < x then (y : Int) else x)) = (m : Int) ∧ (m : Int) ≤ x ∧ m ≤ y ∧ m ≤ z := by
  obtain ⟨x, rfl⟩ := Int.eq_ofNat_of_zero_le hx
  by_cases h1 : y < x
  · have e : (if (y : Int) < (x : Int) then (y : Int) else (x : Int)) = y := if_pos (by omega)
    rw [e]
    by_cases h2 : z < y
    · exact ⟨z, if_pos (by omega), by omega, by omega, by omega⟩
    · exact ⟨y, if_neg (by omega), by omega, by omega, by omega⟩
  · have e : (if (y : Int) < (x : Int) then (y : Int) else (x : Int)) = x := if_neg (by omega)
    rw [e]
    by_cases h2 : z < x
    · exact ⟨z, if_pos (by omega), by omega, by omega, by omega⟩
    · exact ⟨x, if_neg (by omega), by omega, by omega, by omega⟩

set_option maxRecDepth 100000 in
set_option maxHeartbeats 2000000 in
theorem turns_any (A B : Option Addr) (P : Option Addr) (ca cb cp : Nat) (l now : List UInt8) (places : List Int) (w : World) (hw : HalfAt w) (hA : Bytes w A l) (hB : Bytes w B now) (hP : Ints w P places) (hc : A = none → ca = 0)
    (hm : l.length ≤ 1099511627776) (hcn : now.length ≤ cb) (hcb : cb ≤ 140737488355328) (hcp : places.length ≤ cp) (hcp2 : cp ≤ 140737488355328) (hwf : ∀ z ∈ places, -9223372036854775808 ≤ z ∧ z ≤ 9223372036854775807) :
    Calls Tryd.prog 6 #[.slice A l.length ca, .slice P places.length cp, .slice B now.length cb] w fun e w' => e = .returned (.bool true) ∧ Below w.heap.size w w' := by
  have hG := hw.lt
  have HW := Lib.hid hw
  have HA := Lib.hid hA
  have HB := Lib.hid hB
  have HP := Lib.hid hP
  have HC := Lib.hid hc
  have HWF := Lib.hid hwf
  clear hw hA hB hP hc hwf
  go_enter Tryd.func6, Tryd.ntmps6
  go_wp2_with fail
  refine (known_any _ HW.out).mono ?_
  rintro e w1 ⟨rfl, hb1⟩
  have hs1 := hb1.size
  have HA1 := Lib.hid (HA.out.later hb1)
  go_wp2_with (at_builtin; refine wpList_append_u8 rfl (.tmp 19) (.tmp 20) rfl w.heap.size (some ⟨w1.heap.size, 0, none⟩) 0 [] rfl (Mine.empty w1 hs1) A ca l rfl HC.out (HA1.out.later (below_new w1 _)) (by simp; omega) (by simp; omega) ?_; intro A2 cap2 w2 hm2 hg2 hb2)
  have hm2 : Mine w2 w.heap.size A2 cap2 l := hm2
  obtain ⟨hb3, hs2⟩ := below_over hb1 hs1 hb2
  have HW2 := Lib.hid (HW.out.below hb3 hG)
  refine (of_b _ _ l _ HW2.out hm2.bytes (by omega)).mono ?_
  rintro e w3 ⟨rfl, hb4⟩
  have hm3 := hm2.later hb4
  have hb5 := hb3.trans (hb4.mono hb3.size)
  have hlt3 := hm3.lt
  clear HA1 hg2 hb1 hb2 hb3 hb4 hm2 HW2
  obtain ⟨m, hmm, hml, hm300⟩ := min_two places.length 300
  have HMM := Lib.hid hmm
  clear hmm
  go_wp2_with (refine wpList_min2 rfl (.tmp 26) (.const (.int .i64 300)) _ rfl _ _ rfl rfl _ HMM.out ?_)
  go_loopw [8, 30] (fun s i wr => ∃ (k : Nat) (l2 : List UInt8), k ≤ m ∧ i = .int .i64 k ∧ l2.length = l.length ∧ s = .int .u32 (n32 (Crc.crc l2)) ∧ Mine wr w.heap.size A2 cap2 l2 ∧ Below w.heap.size w wr) (fun _ i _ => m - (intOf i).toNat)
  case atStart => exact ⟨0, l, by omega, rfl, rfl, rfl, hm3, hb5⟩
  case round =>
    obtain ⟨k, l2, hk, rfl, hl2, rfl, hM, hBr⟩ := hrel
    have hsz := hBr.size
    by_cases hlt1 : k < m
    · obtain ⟨pb, po, rfl, hpc⟩ := (HP.out.later hBr).at_ (show k < places.length by omega)
      have hz := HWF.out places[k] (List.getElem_mem (show k < places.length by omega))
      obtain ⟨n, hn, hq⟩ := place_of places[k] l.length
      generalize places[k] = z at hpc hq hz
      rcases hq with hq | ⟨hq, hpos⟩
      · have HQ := hq
        obtain ⟨many, hmn, hm1, hm2, hm9⟩ := min_three ((l.length : Int) - (n : Int)) now.length (k % 9) (by omega)
        have HMN := Lib.hid hmn
        clear hmn
        go_wp2_with (refine wpList_min3 rfl (.tmp 47) (.tmp 49) (.tmp 51) _ rfl _ _ _ rfl rfl rfl _ HMN.out ?_)
        have HWr := Lib.hid (HW.out.below hBr hG)
        have HBr := Lib.hid (HB.out.later hBr)
        have hcut := hM.bytes.cut (k := n) hM.cap_le.1
        have hcap2 : l.length ≤ cap2 := by have := hM.cap_le.1; omega
        obtain ⟨A3, hA3⟩ : ∃ A3, (if cap2 = n then A2 else Option.map (fun x => x.add n) A2) = A3 := ⟨_, rfl⟩
        rw [hA3] at hcut
        have HMr := Lib.hid hcut
        clear hcut
        have hw1 : IntKind.i64.wrap ((n : Int) + (many : Int)) = (n : Int) + (many : Int) := IntWalk.i64_in _ (by omega)
        have hw2 : (0 : Int) ≤ (n : Int) + (many : Int) := by omega
        have hw3 : (n : Int) + (many : Int) ≤ (cap2 : Int) := by omega
        have hw4 : ((n : Int) + (many : Int)).toNat = n + many := by omega
        have hw5 : many ≤ cb := by omega
        go_region_with (go_at_call 13; refine (turn_piece l2 now _ hl2 n many _ _ _ _ _ (by exact HWr.out) (by exact HMr.out.take _) (by exact HBr.out.take _) (by omega) (by omega) (by omega)).mono ?_; rintro e w6 ⟨rfl, hb6⟩)
        have hM6 := hM.drew.later hb6
        have hb7 : Below w.heap.size w w6 := hBr.drew.trans (hb6.mono (by simpa using hsz))
        have HB6 := Lib.hid (HB.out.later hb7)
        have HM6 := Lib.hid hM6
        clear HWr HBr HMr hM6
        go_wp2_with fail
        go_region_law (refine step_copy_u8 rfl (.tmp 72) (.tmp 75) rfl w.heap.size A2 cap2 l2 l.length hl2 (by exact HM6.out) n A3 (cap2 - n) (by simp [Act.eval, Act.put]) hA3 B cb (now.take many) many (by simp; omega) (by simp [Act.eval, Act.put]) (by exact HB6.out.take _) (by omega) ?_; intro w7 hM7 hg7 hs7)
        have hb8 : Below w.heap.size w w7 := hb7.drew.trans (grown_below (w := w6.drew) (base := w.heap.size) (l := l2) (cap := cap2) (A := A2) (by exact HM6.out) hb7.size (by rw [hl2]; exact hg7))
        have hl7 := spliced_length l2 n (now.take many) (by rw [tlen now many (by omega)]; omega)
        have HW7 := Lib.hid (HW.out.below hb8 hG)
        have HM7 := Lib.hid hM7
        have hB7 := hM7.bytes
        have hlen7 : (spliced l2 n (now.take many)).length = l.length := by omega
        have hof := of_b A2 cap2 (spliced l2 n (now.take many)) w7 HW7.out hB7 (by omega)
        rw [hlen7] at hof
        have hof' := Lib.hid hof
        clear hM7 hg7 hs7 HB6 HM6 hb6 hb7 hB7 hof
        generalize hc7 : Crc.crc (spliced l2 n (now.take many)) = c7 at hof'
        have HC7 := Lib.hid hc7
        clear hc7
        go_wp2_with (first
          | (go_at_call 12; refine (num_any _ _).mono ?_; rintro e w' ⟨rfl, rfl⟩)
          | (go_at_call 10; refine hof'.out.mono ?_; rintro e w9 ⟨rfl, hb9⟩))
        go_roundw
        case rel => exact ⟨k + 1, spliced l2 n (now.take many), by omega, by go_num, hlen7, by rw [HC7.out], HM7.out.later hb9, hb8.trans (hb9.mono hb8.size)⟩
        case measure => simp [intOf]; omega
      · have HQ := hq
        obtain ⟨many, hmn, hm1, hm2, hm9⟩ := min_three ((l.length : Int) - (n : Int)) now.length (k % 9) (by omega)
        have HMN := Lib.hid hmn
        clear hmn
        go_wp2_with (refine wpList_min3 rfl (.tmp 47) (.tmp 49) (.tmp 51) _ rfl _ _ _ rfl rfl rfl _ HMN.out ?_)
        have HWr := Lib.hid (HW.out.below hBr hG)
        have HBr := Lib.hid (HB.out.later hBr)
        have hcut := hM.bytes.cut (k := n) hM.cap_le.1
        have hcap2 : l.length ≤ cap2 := by have := hM.cap_le.1; omega
        obtain ⟨A3, hA3⟩ : ∃ A3, (if cap2 = n then A2 else Option.map (fun x => x.add n) A2) = A3 := ⟨_, rfl⟩
        rw [hA3] at hcut
        have HMr := Lib.hid hcut
        clear hcut
        have hw1 : IntKind.i64.wrap ((n : Int) + (many : Int)) = (n : Int) + (many : Int) := IntWalk.i64_in _ (by omega)
        have hw2 : (0 : Int) ≤ (n : Int) + (many : Int) := by omega
        have hw3 : (n : Int) + (many : Int) ≤ (cap2 : Int) := by omega
        have hw4 : ((n : Int) + (many : Int)).toNat = n + many := by omega
        have hw5 : many ≤ cb := by omega
        go_region_with (go_at_call 13; refine (turn_piece l2 now _ hl2 n many _ _ _ _ _ (by exact HWr.out) (by exact HMr.out.take _) (by exact HBr.out.take _) (by omega) (by omega) (by omega)).mono ?_; rintro e w6 ⟨rfl, hb6⟩)
        have hM6 := hM.drew.later hb6
        have hb7 : Below w.heap.size w w6 := hBr.drew.trans (hb6.mono (by simpa using hsz))
        have HB6 := Lib.hid (HB.out.later hb7)
        have HM6 := Lib.hid hM6
        clear HWr HBr HMr hM6
        go_wp2_with fail
        go_region_law (refine step_copy_u8 rfl (.tmp 72) (.tmp 75) rfl w.heap.size A2 cap2 l2 l.length hl2 (by exact HM6.out) n A3 (cap2 - n) (by simp [Act.eval, Act.put]) hA3 B cb (now.take many) many (by simp; omega) (by simp [Act.eval, Act.put]) (by exact HB6.out.take _) (by omega) ?_; intro w7 hM7 hg7 hs7)
        have hb8 : Below w.heap.size w w7 := hb7.drew.trans (grown_below (w := w6.drew) (base := w.heap.size) (l := l2) (cap := cap2) (A := A2) (by exact HM6.out) hb7.size (by rw [hl2]; exact hg7))
        have hl7 := spliced_length l2 n (now.take many) (by rw [tlen now many (by omega)]; omega)
        have HW7 := Lib.hid (HW.out.below hb8 hG)
        have HM7 := Lib.hid hM7
        have hB7 := hM7.bytes
        have hlen7 : (spliced l2 n (now.take many)).length = l.length := by omega
        have hof := of_b A2 cap2 (spliced l2 n (now.take many)) w7 HW7.out hB7 (by omega)
        rw [hlen7] at hof
        have hof' := Lib.hid hof
        clear hM7 hg7 hs7 HB6 HM6 hb6 hb7 hB7 hof
        generalize hc7 : Crc.crc (spliced l2 n (now.take many)) = c7 at hof'
        have HC7 := Lib.hid hc7
        clear hc7
        go_wp2_with (first
          | (go_at_call 12; refine (num_any _ _).mono ?_; rintro e w' ⟨rfl, rfl⟩)
          | (go_at_call 10; refine hof'.out.mono ?_; rintro e w9 ⟨rfl, hb9⟩))
        go_roundw
        case rel => exact ⟨k + 1, spliced l2 n (now.take many), by omega, by go_num, hlen7, by rw [HC7.out], HM7.out.later hb9, hb8.trans (hb9.mono hb8.size)⟩
        case measure => simp [intOf]; omega
    · have hbad := turn_bad
      have kc := fun (w : World) (C : Array Value) (n c : Nat) => Lib.run_convert_bytes_const (P := Tryd.prog) w 25 5 C n c Tryd.underlying25 Tryd.underlying5
      have kc2 := const2
      have HBAD := Lib.hid hbad
      clear hbad
      go_wp2_with fail
      refine (HBAD.out (Crc.crc l2) l.length l.length _ _ 1 1 _ _ _ (by omega) (by omega) (by omega) (.inr (.inr (.inr (.inr (by omega)))))).mono ?_
      rintro e w5 ⟨rfl, rfl⟩
      clear kc kc2
      go_wp2_with (go_at_call 12; refine (num_any _ _).mono ?_; rintro e w' ⟨rfl, rfl⟩)
      go_ret
      exact ⟨rfl, (hBr.alloc hBr.size _).alloc (by simp; omega) _⟩
end Go.Proofs.YtjglffejoflpoaaDoor
