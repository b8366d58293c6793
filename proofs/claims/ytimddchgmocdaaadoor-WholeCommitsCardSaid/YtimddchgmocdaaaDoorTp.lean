/-
  THE LAW's OWN HELPERS: mod, filled, same.
  THE LAW's OWN HELPERS (2): filled, same.
  THE LAW's OWN HELPERS (3): holds.
  THE LAW's OWN HELPERS (4): put.
-/
import Derived.Test.YtimddchgmocdaaaDoorTc2
import Derived.Test.YtimddchgmocdaaaDoorTx3
set_option linter.unusedVariables false
set_option linter.unusedSimpArgs false
namespace Go.Proofs.YtimddchgmocdaaaDoor
open Go.RowKit Rec

theorem mod_eq (v n : Int) (hn : 0 < n) : (if v.tmod n < 0 then v.tmod n + n else v.tmod n) = v % n := by
  have h := Int.tmod_eq_emod (a := v) (b := n)
  have h0 := Int.emod_nonneg v (show n ≠ 0 by omega)
  have h1 := Int.emod_lt_of_pos v hn
  rw [h]
  by_cases c : 0 ≤ v ∨ n ∣ v
  · rw [if_pos c]
    rw [if_neg (by omega)]
    omega
  · rw [if_neg c]
    rw [if_pos (by omega)]
    omega
theorem mod_any (v n : Int) (w : World) (hn : 0 < n) (hn2 : n ≤ 1000000) (h0 : -9223372036854775808 ≤ v) (h1 : v ≤ 9223372036854775807) :
    Calls Tryd.prog 4 #[.int .i64 v, .int .i64 n] w fun e w' => e = .returned (.int .i64 (v % n)) ∧ w = w' := by
  have hm := mod_eq v n hn
  have hne : ¬ n = 0 := by omega
  have hb1 : v.tmod n < n := Int.tmod_lt_of_pos v hn
  have hb2 : -n < v.tmod n := by have := Int.lt_tmod_of_pos v hn; omega
  obtain ⟨r, hr⟩ : ∃ r, v.tmod n = r := ⟨_, rfl⟩
  rw [hr] at hm hb1 hb2
  have hw : IntKind.i64.wrap r = r := IntWalk.i64_in _ (by omega)
  by_cases hs : r < 0
  · rw [if_pos hs] at hm
    go_enter Tryd.func4, Tryd.ntmps4
    go_wp2_with fail
    go_ret
    exact ⟨by first | (rw [← hm]; rfl) | (rw [← hm]; simp), rfl⟩
  · rw [if_neg hs] at hm
    go_enter Tryd.func4, Tryd.ntmps4
    go_wp2_with fail
    go_ret
    exact ⟨by first | (rw [← hm]; rfl) | (rw [← hm]; simp), rfl⟩
end Go.Proofs.YtimddchgmocdaaaDoor
set_option linter.unusedVariables false
set_option linter.unusedSimpArgs false
namespace Go.Proofs.YtimddchgmocdaaaDoor
open Go.RowKit Rec

def fb (v i : Nat) : UInt8 := UInt8.ofNat (v + i * (1 + v % 7))
def fl (v k : Nat) : List UInt8 := (List.range 512).map fun i => if i < k then fb v i else 0
/-- a block of bytes that are made of a number -/
def filledB (v : Nat) : List UInt8 := (List.range 512).map (fb v)
theorem fl_length (v k : Nat) : (fl v k).length = 512 := by simp [fl]
theorem filledB_length (v : Nat) : (filledB v).length = 512 := by simp [filledB]
theorem fl_zero (v : Nat) : fl v 0 = List.replicate 512 0 := by
  unfold fl
  refine List.ext_getElem (by rw [List.length_map, List.length_range, List.length_replicate]) fun i h1 h2 => ?_
  rw [List.getElem_map, List.getElem_replicate, if_neg (by omega)]
theorem fl_all (v : Nat) : fl v 512 = filledB v := by
  unfold fl filledB
  refine List.map_congr_left fun i hi => ?_
  rw [if_pos (List.mem_range.1 hi)]
theorem fl_get (v k i : Nat) (h : i < (fl v k).length) : (fl v k)[i] = if i < k then fb v i else 0 := by simp [fl]
theorem fl_set (v k : Nat) (hk : k < 512) : (fl v k).set k (fb v k) = fl v (k + 1) := by
  refine List.ext_getElem (by rw [List.length_set, fl_length, fl_length]) fun i h1 h2 => ?_
  rw [List.getElem_set, fl_get, fl_get]
  by_cases e : k = i
  · subst e; rw [if_pos rfl, if_pos (by omega)]
  · rw [if_neg e]
    by_cases h : i < k
    · rw [if_pos h, if_pos (by omega)]
    · rw [if_neg h, if_neg (by omega)]
theorem u8_fb (v k q : Nat) (hq : k * (1 + v % 7) = q) : IntKind.u8.wrap ((v : Int) + (q : Int)) = n8 (fb v k) := by
  rw [show IntKind.u8.wrap ((v : Int) + (q : Int)) = ((v : Int) + (q : Int)) % 256 from rfl]
  unfold n8 fb
  rw [hq]
  show _ = ((UInt8.ofNat (v + q)).toNat : Int)
  rw [UInt8.toNat_ofNat']
  omega
set_option maxRecDepth 100000 in
set_option maxHeartbeats 1600000 in
theorem filled_any (v : Nat) (hv : v < 1000) (w : World) : Calls Tryd.prog 8 #[.int .i64 (v : Int)] w fun e w' => (∃ g, e = .returned (.slice (some ⟨g, 0, none⟩) 512 512) ∧ Mine w' w.heap.size (some ⟨g, 0, none⟩) 512 (filledB v)) ∧ Below w.heap.size w w' := by
  obtain ⟨m, hm, hm7⟩ : ∃ m : Nat, (v : Int) % 7 = (m : Int) ∧ v % 7 = m := ⟨v % 7, by omega, rfl⟩
  have hm8 : m < 7 := by omega
  have HM := Lib.hid hm
  have HM7 := Lib.hid hm7
  clear hm hm7
  go_enter Tryd.func8, Tryd.ntmps8
  go_wp2_with (refine wpList_make_u8 rfl _ _ rfl w.heap.size 512 rfl rfl (by decide) (Nat.le_refl _) ?_; intro w1 hm1 hg1; have HM1 := Lib.hid hm1; have HB1 := Lib.hid (grown_below_none (Nat.le_refl _) hg1); clear hm1 hg1)
  go_loopw [4] (fun u wr => ∃ k : Nat, k ≤ 512 ∧ u = .int .i64 k ∧ Mine wr w.heap.size (some ⟨w.heap.size, 0, none⟩) 512 (fl v k) ∧ Below w.heap.size w wr) (fun u _ => 512 - (intOf u).toNat)
  case atStart => exact ⟨0, Nat.zero_le _, rfl, by rw [fl_zero]; exact HM1.out, HB1.out⟩
  case round =>
    obtain ⟨k, hk, rfl, hMr, hb⟩ := hrel
    have HMr := Lib.hid hMr
    have HBr := Lib.hid hb
    clear hb
    by_cases hlt : k < 512
    · have hk0 : (k : Int) < 512 := by omega
      have hk1 : (0 : Int) ≤ (k : Int) := by omega
      obtain ⟨q, hq⟩ : ∃ q, k * (1 + m) = q := ⟨_, rfl⟩
      have hq2 : q ≤ 4000 := by rw [← hq]; have : k * (1 + m) ≤ 512 * 7 := Nat.mul_le_mul (by omega) (by omega); omega
      have hqi : (k : Int) * (1 + (m : Int)) = (q : Int) := by rw [← hq]; simp
      have hu := u8_fb v k q (by rw [HM7.out]; exact hq)
      have hcell := hMr.cell (k := k) (by rw [fl_length]; exact hlt)
      have hfree := hMr.free k
      have HQ := Lib.hid hq
      clear hMr hq
      go_wp2_with (go_at_call 4
                   refine (mod_any (v : Int) 7 _ (by decide) (by decide) (by omega) (by omega)).mono ?_
                   rw [HM.out]
                   rintro e w5 ⟨rfl, rfl⟩)
      go_roundw
      case rel =>
        refine ⟨k + 1, by omega, by go_num, ?_, HBr.out.setCell (p := ⟨w.heap.size, k, none⟩) (Nat.le_refl _) _⟩
        rw [← fl_set v k hlt]
        exact HMr.out.put k (fb v k)
      case measure => simp [intOf]; omega
    · obtain rfl : k = 512 := by omega
      rw [fl_all] at HMr
      go_wp2_with fail
      go_ret
      exact ⟨⟨_, rfl, HMr.out⟩, HBr.out⟩
theorem same_any (A B : Option Addr) (c c2 : Nat) (l l2 : List UInt8) (w : World) (hA : Bytes w A l) (hB : Bytes w B l2) (h1 : l.length = 512) (h2 : l2.length = 512) :
    Calls Tryd.prog 11 #[.slice A 512 c, .slice B 512 c2] w fun e w' => e = .returned (.bool (decide (l = l2))) ∧ w = w' := by
  have s1 := str_any w A c l hA 512 h1
  have s2 := str_any w B c2 l2 hB 512 h2
  go_enter Tryd.func11, Tryd.ntmps11
  go_wp2_with fail
  go_ret
  have e : (l == l2) = decide (l = l2) := by by_cases e : l = l2 <;> simp [e]
  exact ⟨by rw [← e]; rfl, rfl⟩
end Go.Proofs.YtimddchgmocdaaaDoor
set_option linter.unusedVariables false
set_option linter.unusedSimpArgs false
namespace Go.Proofs.YtimddchgmocdaaaDoor
open Go.RowKit Rec

/-- what a block must be, by its number -/
def blk (v : Int) : List UInt8 := if 0 ≤ v then filledB v.toNat else Tx.zero
theorem blk_length (v : Int) : (blk v).length = 512 := by unfold blk; split; exact filledB_length _; exact zero_len
def Fits (is : List Int) : Prop := ∀ v ∈ is, -1 ≤ v ∧ v < 1000
def Holds (is : List Int) (D : Dk) : Prop := ∀ k (h : k < is.length), D.read (98 + k) = blk is[k]
theorem nums_cell {w : World} {nb cap : Nat} {A : Option Addr} {is : List Int} (h : Nums w nb A cap is) {k : Nat} (hk : k < is.length) : ∃ g, A = some ⟨g, 0, none⟩ ∧ w.cell? ⟨g, k, none⟩ = some (.int .i64 is[k]) := h.cell hk
set_option maxRecDepth 100000 in
set_option maxHeartbeats 3200000 in
theorem holds_any (base a d nb : Nat) (D : Dk) (IA : Option Addr) (ic : Nat) (is : List Int) (m : Nat) (w : World) (h : DiskAt w base a d D) (hdn : D.down = false) (hI : Nums w nb IA ic is) (hm : is.length = m) (hN : 98 + m ≤ D.lasts.length) (hf : Fits is) :
    Calls Tryd.prog 14 #[.slice IA m ic, .pointer (some ⟨d, 0, none⟩)] w fun e w' => ((e = .returned (.bool true) ∧ Holds is D) ∨ (e = .returned (.bool false) ∧ ¬ Holds is D)) ∧ Below w.heap.size w w' := by
  have hlN : D.lasts.length ≤ 16384 := h.1.2.1
  have HD := Lib.hid h
  have HDN := Lib.hid hdn
  have HI := Lib.hid hI
  have HM := Lib.hid hm
  have HF := Lib.hid hf
  have HNL := Lib.hid hN
  have hm2 : m ≤ 16384 := by omega
  clear h hdn hI hm hf hN
  go_enter Tryd.func14, Tryd.ntmps14
  go_wp2_with fail
  go_loopw [5] (fun u wr => ∃ k : Nat, k ≤ m ∧ u = .int .i64 k ∧ (∀ j (hj : j < is.length), j < k → D.read (98 + j) = blk is[j]) ∧ Below w.heap.size w wr) (fun u _ => m - (intOf u).toNat)
  case atStart => exact ⟨0, Nat.zero_le _, rfl, fun j _ hj => by omega, Below.refl _ _⟩
  case round =>
    obtain ⟨k, hk, rfl, hall, hb⟩ := hrel
    have HALL := Lib.hid hall
    have HBr := Lib.hid hb
    clear hall hb
    by_cases hlt : k < m
    · have hk0 : (k : Int) < (m : Int) := by omega
      have hk1 : (0 : Int) ≤ (k : Int) := by omega
      have hkl : k < is.length := by rw [HM.out]; exact hlt
      obtain ⟨g, rfl, ci⟩ := nums_cell (HI.out.later HBr.out) hkl
      have hfv := HF.out _ (List.getElem_mem hkl)
      have hnext : ∀ b, D.read (98 + k) = b → b = blk is[k] → ∀ j (hj : j < is.length), j < k + 1 → D.read (98 + j) = blk is[j] := fun b e1 e2 j hj hjk => by
        by_cases e : j = k
        · subst e; rw [e1, e2]
        · exact HALL.out j hj (by omega)
      have hnot : ∀ b, D.read (98 + k) = b → b ≠ blk is[k] → ¬ Holds is D := fun b e1 e2 hh => e2 (by rw [← e1]; exact hh k hkl)
      obtain ⟨v, hv⟩ : ∃ v, is[k] = v := ⟨_, rfl⟩
      rw [hv] at ci hfv hnext hnot
      have HNX := Lib.hid hnext
      have HNT := Lib.hid hnot
      have HE := Lib.hid (show (98 + (k : Int)) = ((98 + k : Nat) : Int) by omega)
      have HKL := Lib.hid (show 98 + k < D.lasts.length by have := HNL.out; omega)
      obtain ⟨b, hbr⟩ : ∃ b, D.read (98 + k) = b := ⟨_, rfl⟩
      have HBR := Lib.hid hbr
      have HB5 := Lib.hid (show b.length = 512 by rw [← hbr]; exact Dk.read_length HD.out.1 HKL.out)
      clear hnext hnot hv hbr hkl
      by_cases hpos : 0 ≤ v
      · obtain ⟨f, hf⟩ : ∃ f : Nat, v = (f : Int) := ⟨v.toNat, by omega⟩
        subst hf
        have hf1 : f < 1000 := by omega
        have HBK := Lib.hid (show blk (f : Int) = filledB f by unfold blk; rw [if_pos hpos]; rfl)
        rcases (show decide (b = filledB f) = true ∨ decide (b = filledB f) = false from by cases decide (b = filledB f) <;> simp) with hq | hq
        · have HQ := Lib.hid (of_decide_eq_true hq)
          have HQD := Lib.hid hq
          clear hq
          go_wp2_with (first
            | (go_at_call 23
               rw [HE.out]
               refine (dread_ok base a d D (98 + k) _ (HD.out.later HBr.out) HDN.out HKL.out).mono ?_
               rw [HBR.out]
               rintro e w2 ⟨⟨g2, rfl, hg2, hIg⟩, hb2⟩
               have HB2 := Lib.hid (HBr.out.trans (hb2.mono HBr.out.size))
               have HBY := Lib.hid (Own.bytes_sec hIg)
               have ci2 : w2.cell? ⟨g, k, none⟩ = some (.int .i64 (f : Int)) := (hb2.cell (p := ⟨g, k, none⟩) (block_lt_of_cell ci)).trans ci
               clear hb2 hIg)
            | (refine wpList_make_u8 rfl _ _ rfl w2.heap.size 512 rfl rfl (by decide) (Nat.le_refl _) ?_
               intro w3 hm3 hg3
               have hb3 := grown_below_none (Nat.le_refl w2.heap.size) hg3
               have HB3 := Lib.hid hb3
               have ci3 : w3.cell? ⟨g, k, none⟩ = some (.int .i64 (f : Int)) := (hb3.cell (p := ⟨g, k, none⟩) (block_lt_of_cell ci2)).trans ci2
               clear hm3 hg3 hb3)
            | (go_at_call 8
               refine (filled_any f hf1 w3).mono ?_
               rintro e w4 ⟨⟨g4, rfl, hM4⟩, hb4⟩
               have HM4 := Lib.hid hM4
               have HB4 := Lib.hid hb4
               clear hM4 hb4)
            | (go_at_call 11
               refine (same_any _ _ 512 512 b (filledB f) w4 ((HBY.out.later HB3.out).later HB4.out) HM4.out.bytes HB5.out (filledB_length f)).mono ?_
               rw [HQD.out]
               rintro e w5 ⟨rfl, rfl⟩))
          go_roundw
          case rel => exact ⟨k + 1, by omega, by go_num, HNX.out b HBR.out (by rw [HBK.out]; exact HQ.out), HB2.out.trans ((HB3.out.mono HB2.out.size).trans (HB4.out.mono (by have := HB2.out.size; have := HB3.out.size; omega)))⟩
          case measure => simp [intOf]; omega
        · have HQ := Lib.hid (of_decide_eq_false hq)
          have HQD := Lib.hid hq
          clear hq
          go_wp2_with (first
            | (go_at_call 23
               rw [HE.out]
               refine (dread_ok base a d D (98 + k) _ (HD.out.later HBr.out) HDN.out HKL.out).mono ?_
               rw [HBR.out]
               rintro e w2 ⟨⟨g2, rfl, hg2, hIg⟩, hb2⟩
               have HB2 := Lib.hid (HBr.out.trans (hb2.mono HBr.out.size))
               have HBY := Lib.hid (Own.bytes_sec hIg)
               have ci2 : w2.cell? ⟨g, k, none⟩ = some (.int .i64 (f : Int)) := (hb2.cell (p := ⟨g, k, none⟩) (block_lt_of_cell ci)).trans ci
               clear hb2 hIg)
            | (refine wpList_make_u8 rfl _ _ rfl w2.heap.size 512 rfl rfl (by decide) (Nat.le_refl _) ?_
               intro w3 hm3 hg3
               have hb3 := grown_below_none (Nat.le_refl w2.heap.size) hg3
               have HB3 := Lib.hid hb3
               have ci3 : w3.cell? ⟨g, k, none⟩ = some (.int .i64 (f : Int)) := (hb3.cell (p := ⟨g, k, none⟩) (block_lt_of_cell ci2)).trans ci2
               clear hm3 hg3 hb3)
            | (go_at_call 8
               refine (filled_any f hf1 w3).mono ?_
               rintro e w4 ⟨⟨g4, rfl, hM4⟩, hb4⟩
               have HM4 := Lib.hid hM4
               have HB4 := Lib.hid hb4
               clear hM4 hb4)
            | (go_at_call 11
               refine (same_any _ _ 512 512 b (filledB f) w4 ((HBY.out.later HB3.out).later HB4.out) HM4.out.bytes HB5.out (filledB_length f)).mono ?_
               rw [HQD.out]
               rintro e w5 ⟨rfl, rfl⟩))
          go_ret
          exact ⟨.inr ⟨rfl, HNT.out b HBR.out (by rw [HBK.out]; exact HQ.out)⟩, HB2.out.trans ((HB3.out.mono HB2.out.size).trans (HB4.out.mono (by have := HB2.out.size; have := HB3.out.size; omega)))⟩
      · have HBK := Lib.hid (show blk v = Tx.zero by unfold blk; rw [if_neg hpos])
        have hneg : v < 0 := by omega
        rcases (show decide (b = Tx.zero) = true ∨ decide (b = Tx.zero) = false from by cases decide (b = Tx.zero) <;> simp) with hq | hq
        · have HQ := Lib.hid (of_decide_eq_true hq)
          have HQD := Lib.hid hq
          clear hq hpos
          go_wp2_with (first
            | (go_at_call 23
               rw [HE.out]
               refine (dread_ok base a d D (98 + k) _ (HD.out.later HBr.out) HDN.out HKL.out).mono ?_
               rw [HBR.out]
               rintro e w2 ⟨⟨g2, rfl, hg2, hIg⟩, hb2⟩
               have HB2 := Lib.hid (HBr.out.trans (hb2.mono HBr.out.size))
               have HBY := Lib.hid (Own.bytes_sec hIg)
               have ci2 : w2.cell? ⟨g, k, none⟩ = some (.int .i64 v) := (hb2.cell (p := ⟨g, k, none⟩) (block_lt_of_cell ci)).trans ci
               clear hb2 hIg)
            | (refine wpList_make_u8 rfl _ _ rfl w2.heap.size 512 rfl rfl (by decide) (Nat.le_refl _) ?_
               intro w3 hm3 hg3
               have hb3 := grown_below_none (Nat.le_refl w2.heap.size) hg3
               have HB3 := Lib.hid hb3
               have HM3 := Lib.hid hm3
               have ci3 : w3.cell? ⟨g, k, none⟩ = some (.int .i64 v) := (hb3.cell (p := ⟨g, k, none⟩) (block_lt_of_cell ci2)).trans ci2
               clear hm3 hg3 hb3)
            | (go_at_call 11
               refine (same_any _ _ 512 512 b Tx.zero w3 (HBY.out.later HB3.out) (Mine.bytes HM3.out) HB5.out zero_len).mono ?_
               rw [HQD.out]
               rintro e w5 ⟨rfl, rfl⟩))
          go_roundw
          case rel => exact ⟨k + 1, by omega, by go_num, HNX.out b HBR.out (by rw [HBK.out]; exact HQ.out), HB2.out.trans (HB3.out.mono HB2.out.size)⟩
          case measure => simp [intOf]; omega
        · have HQ := Lib.hid (of_decide_eq_false hq)
          have HQD := Lib.hid hq
          clear hq hpos
          go_wp2_with (first
            | (go_at_call 23
               rw [HE.out]
               refine (dread_ok base a d D (98 + k) _ (HD.out.later HBr.out) HDN.out HKL.out).mono ?_
               rw [HBR.out]
               rintro e w2 ⟨⟨g2, rfl, hg2, hIg⟩, hb2⟩
               have HB2 := Lib.hid (HBr.out.trans (hb2.mono HBr.out.size))
               have HBY := Lib.hid (Own.bytes_sec hIg)
               have ci2 : w2.cell? ⟨g, k, none⟩ = some (.int .i64 v) := (hb2.cell (p := ⟨g, k, none⟩) (block_lt_of_cell ci)).trans ci
               clear hb2 hIg)
            | (refine wpList_make_u8 rfl _ _ rfl w2.heap.size 512 rfl rfl (by decide) (Nat.le_refl _) ?_
               intro w3 hm3 hg3
               have hb3 := grown_below_none (Nat.le_refl w2.heap.size) hg3
               have HB3 := Lib.hid hb3
               have HM3 := Lib.hid hm3
               have ci3 : w3.cell? ⟨g, k, none⟩ = some (.int .i64 v) := (hb3.cell (p := ⟨g, k, none⟩) (block_lt_of_cell ci2)).trans ci2
               clear hm3 hg3 hb3)
            | (go_at_call 11
               refine (same_any _ _ 512 512 b Tx.zero w3 (HBY.out.later HB3.out) (Mine.bytes HM3.out) HB5.out zero_len).mono ?_
               rw [HQD.out]
               rintro e w5 ⟨rfl, rfl⟩))
          go_ret
          exact ⟨.inr ⟨rfl, HNT.out b HBR.out (by rw [HBK.out]; exact HQ.out)⟩, HB2.out.trans (HB3.out.mono HB2.out.size)⟩
    · obtain rfl : m = k := by omega
      go_wp2_with fail
      go_ret
      exact ⟨.inl ⟨rfl, fun j hj => HALL.out j hj (by rw [HM.out] at hj; exact hj)⟩, HBr.out⟩
end Go.Proofs.YtimddchgmocdaaaDoor
set_option linter.unusedVariables false
set_option linter.unusedSimpArgs false
namespace Go.Proofs.YtimddchgmocdaaaDoor
open Go.RowKit Rec

/-- puts that are read: their numbers -/
def PutsAt (w : World) (A : Option Addr) (ps : List (Int × Int)) : Prop :=
  ps = [] ∨ ∃ g off, A = some ⟨g, off, none⟩ ∧ ∀ k (h : k < ps.length), w.cell? ⟨g, off + k * 2, none⟩ = some (.int .i64 ps[k].1) ∧ w.cell? ⟨g, off + k * 2 + 1, none⟩ = some (.int .i64 ps[k].2)
def PutsOk (ps : List (Int × Int)) : Prop := ∀ p ∈ ps, (-9223372036854775808 ≤ p.1 ∧ p.1 ≤ 9223372036854775807) ∧ (-9223372036854775808 ≤ p.2 ∧ p.2 ≤ 9223372036854775807)
theorem PutsAt.later {w w2 : World} {A : Option Addr} {ps : List (Int × Int)} (h : PutsAt w A ps) (hb : Below w.heap.size w w2) : PutsAt w2 A ps := by
  rcases h with h | ⟨g, off, rfl, hc⟩
  · exact .inl h
  · refine .inr ⟨g, off, rfl, fun k hk => ?_⟩
    obtain ⟨h1, h2⟩ := hc k hk
    exact ⟨(hb.cell (p := ⟨g, off + k * 2, none⟩) (block_lt_of_cell h1)).trans h1, (hb.cell (p := ⟨g, off + k * 2 + 1, none⟩) (block_lt_of_cell h2)).trans h2⟩
theorem PutsAt.at_ {w : World} {A : Option Addr} {ps : List (Int × Int)} (h : PutsAt w A ps) {k : Nat} (hk : k < ps.length) : ∃ g off, A = some ⟨g, off, none⟩ ∧ w.cell? ⟨g, off + k * 2, none⟩ = some (.int .i64 ps[k].1) ∧ w.cell? ⟨g, off + k * 2 + 1, none⟩ = some (.int .i64 ps[k].2) := by
  rcases h with rfl | ⟨g, off, rfl, hc⟩
  · simp at hk
  · exact ⟨g, off, rfl, (hc k hk).1, (hc k hk).2⟩
def putS (m : Nat) (is : List Int) (ps : List (Int × Int)) : List Int := ps.foldl (fun l p => l.set (p.1 % (m : Int)).toNat (p.2 % 1000)) is
theorem putS_snoc (m : Nat) (is : List Int) (ps : List (Int × Int)) (p : Int × Int) : putS m is (ps ++ [p]) = (putS m is ps).set (p.1 % (m : Int)).toNat (p.2 % 1000) := by unfold putS; rw [List.foldl_append]; rfl
theorem putS_length (m : Nat) (ps : List (Int × Int)) : ∀ is : List Int, (putS m is ps).length = is.length := by
  induction ps with
  | nil => intro is; rfl
  | cons p ps ih => intro is; show (putS m (is.set _ _) ps).length = _; rw [ih, List.length_set]
theorem putS_fits (m : Nat) (ps : List (Int × Int)) : ∀ is : List Int, Fits is → Fits (putS m is ps) := by
  induction ps with
  | nil => intro is h; exact h
  | cons p ps ih =>
    intro is h
    refine ih _ fun v hv => ?_
    rcases List.mem_or_eq_of_mem_set hv with h1 | h1
    · exact h v h1
    · rw [h1]; omega
theorem Nums.put {w : World} {nb g cap : Nat} {ts : List Int} (h : Nums w nb (some ⟨g, 0, none⟩) cap ts) (j : Nat) (x : Int) : Nums (w.setCell ⟨g, j, none⟩ (.int .i64 x)) nb (some ⟨g, 0, none⟩) cap (ts.set j x) := by
  have := (show Own w nb 3 1 (some ⟨g, 0, none⟩) ts.length cap (numCells ts) from h).put j (.int .i64 x)
  unfold Nums
  rw [List.length_set]
  have e : numCells (ts.set j x) = (numCells ts).set j (.int .i64 x) := by unfold numCells; rw [List.map_set]
  rw [e]
  exact this
theorem Nums.free {w : World} {nb g cap : Nat} {ts : List Int} (h : Nums w nb (some ⟨g, 0, none⟩) cap ts) (j : Nat) : w.frozen? ⟨g, j, none⟩ = false :=
  Own.free (show Own w nb 3 1 (some ⟨g, 0, none⟩) ts.length cap (numCells ts) from h) j
set_option maxRecDepth 100000 in
set_option maxHeartbeats 3200000 in
theorem put_any2 (nb : Nat) (IA : Option Addr) (ic : Nat) (is : List Int) (m : Nat) (LA : Option Addr) (lc : Nat) (ps : List (Int × Int)) (pl : Nat) (w : World) (hI : Nums w nb IA ic is) (hm : is.length = m) (hm1 : 1 ≤ m) (hm2 : m ≤ 1000) (hP : PutsAt w LA ps) (hpl : ps.length = pl) (hok : PutsOk ps) (hpm : pl ≤ 140737488355328) :
    Calls Tryd.prog 9 #[.slice IA m ic, .slice LA pl lc, .int .i64 90] w fun e w' => (∃ g c, e = .returned (.slice (some ⟨g, 0, none⟩) m c) ∧ Nums w' w.heap.size (some ⟨g, 0, none⟩) c (putS m is (ps.take 90))) ∧ Below w.heap.size w w' := by
  obtain ⟨i0, hi, hz0, hz1, hz2⟩ := info_parts infoNum
  obtain ⟨gi, hIA, _, _⟩ := (show Own w nb 3 1 IA is.length ic (numCells is) from hI).form (by omega)
  subst hIA
  have HNW := Lib.hid (show ∀ j u, (numCells is)[j]? = some u → (w.alloc (.cells #[] 3)).cell? ((⟨gi, 0, none⟩ : Addr).add j) = some u from fun j u hu => by
    have hj := (List.getElem?_eq_some_iff.1 hu).1
    have e1 := (show Own w nb 3 1 (some ⟨gi, 0, none⟩) is.length ic (numCells is) from hI).cell j (by rw [numCells_length] at hj; omega)
    rw [hu] at e1
    have hadd : (⟨gi, 0, none⟩ : Addr).add j = ⟨gi, j, none⟩ := by unfold Addr.add; split <;> simp_all
    rw [hadd]
    exact ((below_new w (.cells #[] 3)).cell (p := ⟨gi, j, none⟩) (block_lt_of_cell e1)).trans e1)
  have HM0 := Lib.hid (show (w.alloc (.cells #[] 3)).ownsRow w.heap.size 3 1 (.slice (some ⟨w.heap.size, 0, none⟩) 0 0) 0 [] from World.ownsRow_lit w #[] 0 (Nat.le_refl _) (by simp [maxLen]) (by simp))
  have Hi := Lib.hid hi
  have Hz0 := Lib.hid hz0
  have Hz1 := Lib.hid hz1
  have Hz2 := Lib.hid hz2
  have HM := Lib.hid hm
  have HP := Lib.hid hP
  have HPL := Lib.hid hpl
  have HOK := Lib.hid hok
  have hone : ∀ u ∈ numCells is, u.oneCell' = true := fun u hu => by obtain ⟨x, _, rfl⟩ := List.mem_map.1 hu; rfl
  have HONE := Lib.hid hone
  clear hI hm hP hpl hok hi hz0 hz1 hz2 hone
  go_enter Tryd.func9, Tryd.ntmps9
  go_wp2_with (at_builtin
               refine wpList_append_own_at (w.alloc (.cells #[] 3)) rfl (.tmp 9) (.tmp 10) _ rfl w.heap.size 3 i0 (.int .i64 0) 1 8 Tryd.underlying29 Hi.out Hz0.out Hz1.out Hz2.out rfl (by decide) (.slice (some ⟨w.heap.size, 0, none⟩) 0 0) 0 [] (by rfl) HM0.out ⟨gi, 0, none⟩ m ic (numCells is) (by rfl) (by rw [numCells_length, HM.out, Nat.mul_one]) HNW.out HONE.out (by simp only [maxLen]; omega) (by omega) (by simp) ?_
               intro v' w1 hown1 hg1 _ hat1
               rw [Nat.zero_add, List.nil_append] at hown1
               obtain ⟨A1, c1, rfl, hO1⟩ := own_form hown1
               obtain ⟨g1, rfl, _, _⟩ := hO1.form (by omega)
               have HN1 := Lib.hid (show Nums w1 w.heap.size (some ⟨g1, 0, none⟩) c1 is by unfold Nums; rw [HM.out]; exact hO1)
               have HB1 := Lib.hid ((below_new w (.cells #[] 3)).trans ((Below.refl _ _).grown hg1 (by simp) (fun k hk => Nat.le_of_eq (Option.some.inj hk))))
               clear hown1 hg1 hat1 hO1)
  obtain ⟨cm, hcm⟩ : ∃ cm, min pl 90 = cm := ⟨_, rfl⟩
  have hcm1 : cm ≤ pl := by omega
  have hcm2 : cm ≤ 90 := by omega
  have hcm3 : cm = pl ∨ cm = 90 := by omega
  have hcmt : ps.take cm = ps.take 90 := by
    rcases hcm3 with h | h
    · rw [h, List.take_of_length_le (by have := HPL.out; omega), List.take_of_length_le (by have := HPL.out; omega)]
    · rw [h]
  have HCM := Lib.hid hcmt
  clear hcmt
  clear hcm
  go_loopw [8] (fun u wr => ∃ k : Nat, k ≤ cm ∧ u = .int .i64 k ∧ Nums wr w.heap.size (some ⟨g1, 0, none⟩) c1 (putS m is (ps.take k)) ∧ Below w.heap.size w wr) (fun u _ => cm - (intOf u).toNat)
  case atStart => exact ⟨0, Nat.zero_le _, rfl, HN1.out, HB1.out⟩
  case round =>
    obtain ⟨k, hk, rfl, hNr, hb⟩ := hrel
    have HNr := Lib.hid hNr
    have HBr := Lib.hid hb
    clear hNr hb
    by_cases hlt : k < cm
    · have hk0 : (k : Int) < (pl : Int) := by omega
      have hk2 : (k : Int) < 90 := by omega
      have hk1 : (0 : Int) ≤ (k : Int) := by omega
      have hkp : k < ps.length := by rw [HPL.out]; omega
      obtain ⟨gp, off, rfl, cw1, cw2⟩ := HP.out.at_ hkp
      have hgp : gp ≠ g1 := fun e => by have q1 : gp < w.heap.size := block_lt_of_cell cw1; have q2 := HN1.out.ge g1 rfl; omega
      have cp1 := (HBr.out.cell (p := ⟨gp, off + k * 2, none⟩) (block_lt_of_cell cw1)).trans cw1
      have cp2 := (HBr.out.cell (p := ⟨gp, off + k * 2 + 1, none⟩) (block_lt_of_cell cw2)).trans cw2
      clear cw1 cw2
      have hok := HOK.out _ (List.getElem_mem hkp)
      have hsn : putS m is (ps.take (k + 1)) = (putS m is (ps.take k)).set (ps[k].1 % (m : Int)).toNat (ps[k].2 % 1000) := by rw [take_snoc ps k hkp, putS_snoc]
      have hsl : (putS m is (ps.take k)).length = m := by rw [putS_length, HM.out]
      obtain ⟨x, hx⟩ : ∃ x, ps[k].1 = x := ⟨_, rfl⟩
      obtain ⟨y, hy⟩ : ∃ y, ps[k].2 = y := ⟨_, rfl⟩
      rw [hx] at cp1 hok hsn
      rw [hy] at cp2 hok hsn
      obtain ⟨j, hj⟩ : ∃ j : Nat, x % (m : Int) = (j : Int) := ⟨(x % (m : Int)).toNat, by have := Int.emod_nonneg x (show (m : Int) ≠ 0 by omega); omega⟩
      have hjm : j < m := by have := Int.emod_lt_of_pos x (show (0 : Int) < (m : Int) by omega); omega
      rw [hj, Int.toNat_natCast] at hsn
      obtain ⟨z, hz⟩ : ∃ z, y % 1000 = z := ⟨_, rfl⟩
      rw [hz] at hsn
      have HJ := Lib.hid hj
      have HZ := Lib.hid hz
      have HSN := Lib.hid hsn
      obtain ⟨⟨hx0, hx1⟩, hy0, hy1⟩ := hok
      have hj0 : (0 : Int) ≤ (j : Int) := by omega
      have hj1 : (j : Int) < (m : Int) := by omega
      obtain ⟨cv, cj⟩ : ∃ cv, wr.cell? ⟨g1, j, none⟩ = some (.int .i64 cv) := by
        obtain ⟨_, hg, cj⟩ := nums_cell HNr.out (k := j) (by rw [hsl]; exact hjm)
        injection hg with hg
        injection hg with hg
        subst hg
        exact ⟨_, cj⟩
      have fj := HNr.out.free j
      clear hx hy hj hz hsn hkp hsl
      go_wp2_with fail
      go_region_held3 (fun w' => w'.cell? ⟨gp, off + k * 2, none⟩ = some (.int .i64 x) ∧ w'.cell? ⟨gp, off + k * 2 + 1, none⟩ = some (.int .i64 y)) (first | exact ⟨cp1, cp2⟩ | exact ⟨(World.cell?_of_block (a := ⟨gp, off + k * 2, none⟩) (heap_setCell_other wr ⟨g1, j, none⟩ gp _ hgp)).trans cp1, (World.cell?_of_block (a := ⟨gp, off + k * 2 + 1, none⟩) (heap_setCell_other wr ⟨g1, j, none⟩ gp _ hgp)).trans cp2⟩)
        (first
          | (go_at_call 4; with_reducible refine (mod_any x (m : Int) _ (by omega) (by omega) hx0 hx1).mono ?_; rw [HJ.out]; rintro e w5 ⟨rfl, rfl⟩)
          | (go_at_call 4; with_reducible refine (mod_any y 1000 _ (by decide) (by decide) hy0 hy1).mono ?_; rw [HZ.out]; rintro e w5 ⟨rfl, rfl⟩))
      go_wp2_with fail
      go_roundw
      case rel => exact ⟨k + 1, by omega, by go_num, by rw [HSN.out]; exact HNr.out.put j z, (HBr.out.setCell (p := ⟨g1, j, none⟩) (HN1.out.ge g1 rfl) _).drew⟩
      case measure => simp [intOf]; omega
    · obtain rfl : cm = k := by omega
      rw [HCM.out] at HNr
      by_cases hp : cm < pl
      · have hp0 : (cm : Int) < (pl : Int) := by omega
        have h90 : ¬ (cm : Int) < 90 := by omega
        go_wp2_with fail
        go_ret
        exact ⟨⟨g1, c1, rfl, HNr.out⟩, HBr.out⟩
      · have hp0 : ¬ (cm : Int) < (pl : Int) := by omega
        go_wp2_with fail
        go_ret
        exact ⟨⟨g1, c1, rfl, HNr.out⟩, HBr.out⟩
end Go.Proofs.YtimddchgmocdaaaDoor
