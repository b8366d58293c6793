/-
  THE WALKS OF THE DOCUMENT's BITS: one, Get, Put, Lowest, Count.
-/
import Derived.Test.YtlpochabgdcidaaBtW
set_option linter.unusedVariables false
set_option linter.unusedSimpArgs false
namespace Go.Proofs.Ytlpochabgdcidaa
open Go.RowKit Bt

/-- a bit as a number -/
def one (b : Bool) : Nat := if b = true then 1 else 0
theorem one_of (y : Nat) : one (y % 2 == 1) = y % 2 := by
  unfold one
  by_cases h : y % 2 = 1
  · rw [if_pos (by rw [h]; rfl), h]
  · rw [if_neg (by simp [h])]; omega

theorem ref_one_any (A : Option Addr) (len cap : Nat) (l : List UInt8) (hlen : l.length = len) (i : Nat) (w : World) (hb : Bytes w A l) (hi : i < 8 * len) (hm : len ≤ 140737488355328) :
    Calls Try.prog 26 #[.slice A len cap, .int .i64 (i : Int)] w fun e w' => e = .returned (.int .i64 (one (bit l i) : Int)) ∧ w = w' := by
  obtain ⟨q, hqe⟩ : ∃ q, i / 8 = q := ⟨_, rfl⟩
  obtain ⟨r, hre⟩ : ∃ r, i % 8 = r := ⟨_, rfl⟩
  have hq : q < l.length := by omega
  obtain ⟨b, off, rfl, hc⟩ := hb.at_ hq
  rw [bit_of l i q r hq hqe hre]
  generalize l[q] = x at hc
  have hqi : (i : Int) / 8 = (q : Int) := by omega
  have hri : (i : Int) % 8 = (r : Int) := by omega
  have hq0 : (q : Int) < (len : Int) := by omega
  have hr8 : r < 8 := by omega
  have hx := x.toNat_lt
  have hn : n8 x = ((x.toNat : Nat) : Int) := rfl
  rw [hn] at hc
  unfold bit8
  rw [one_of]
  generalize x.toNat = z at hc hx ⊢
  obtain ⟨ans, hans⟩ : ∃ ans, z / 2 ^ r % 2 = ans := ⟨_, rfl⟩
  rw [hans]
  have HAN := Lib.hid hans
  clear hqe hre hlen hn hb hans
  go_enter Try.func26, Try.ntmps26
  go_wp2_with fail
  go_loop [5, 6] (fun v n => ∃ k : Nat, k ≤ r ∧ n = .int .i64 k ∧ v = .int .i64 ((z / 2 ^ k : Nat) : Int)) (fun v n => r - (intOf n).toNat)
  case atStart => exact ⟨0, Nat.zero_le _, rfl, by simp⟩
  case round =>
    obtain ⟨k, hk, rfl, rfl⟩ := hrel
    have hz : z / 2 ^ k ≤ z := Nat.div_le_self _ _
    have hs := Lib.hid (show z / 2 ^ (k + 1) = z / 2 ^ k / 2 by rw [Nat.pow_succ, Nat.div_div_eq_div_mul])
    obtain ⟨y, hy⟩ : ∃ y, z / 2 ^ k = y := ⟨_, rfl⟩
    rw [hy] at hz hs ⊢
    have HY := Lib.hid hy
    obtain ⟨d, hd⟩ : ∃ d, y / 2 = d := ⟨_, rfl⟩
    obtain ⟨m, hm2⟩ : ∃ m, y % 2 = m := ⟨_, rfl⟩
    rw [hd] at hs
    have h2 : (y : Int) / 2 = (d : Int) := by omega
    have h3 : (y : Int) % 2 = (m : Int) := by omega
    have HM := Lib.hid hm2
    clear hy hd hm2
    by_cases hkr : k < r
    · go_wp2_with fail
      go_round
      case rel => exact ⟨k + 1, by omega, by go_num, by rw [hs.out]⟩
      case measure => simp [intOf]; omega
    · obtain rfl : k = r := by omega
      go_wp2_with fail
      go_ret
      exact ⟨by have := HAN.out; rw [HY.out, HM.out] at this; subst this; rfl, rfl⟩

theorem ref_get_any (A : Option Addr) (len cap : Nat) (l : List UInt8) (hlen : l.length = len) (i : Int) (w : World) (hb : Bytes w A l) (hm : len ≤ 140737488355328) :
    Calls Try.prog 18 #[.slice A len cap, .int .i64 i] w fun e w' => e = .returned (.tuple #[.bool (getV l i), .int .i64 (getE l i)]) ∧ w = w' := by
  cases h : has l i with
  | true =>
    have h2 := (has_iff _ _).1 h
    rw [hlen] at h2
    obtain ⟨k, rfl⟩ := Int.eq_ofNat_of_zero_le h2.1
    have hk : k < 8 * len := by omega
    rw [show getV l (k : Int) = bit l k by unfold getV; rw [h, Int.toNat_natCast]; rfl, show getE l (k : Int) = 0 by unfold getE; rw [if_pos h]]
    have HB := Lib.hid hb
    have HL := Lib.hid hlen
    have h1 : (((one (bit l k) : Nat) : Int) == 1) = bit l k := by cases bit l k <;> rfl
    generalize hbt : bit l k = t at h1 ⊢
    have HT := Lib.hid hbt
    have hk1 : (k : Int) < 8 * (len : Int) := h2.2
    clear hb hlen h h2 hbt
    go_enter Try.func18, Try.ntmps18
    go_wp2_with (go_at_call 26; refine (ref_one_any A len cap l HL.out k _ HB.out hk hm).mono ?_; rintro e w' ⟨rfl, rfl⟩; rw [HT.out])
    go_ret2
    exact ⟨rfl, rfl⟩
  | false =>
    rw [show getV l i = false by unfold getV; rw [h]; rfl, show getE l i = 80 by unfold getE; rw [if_neg (by rw [h]; simp)]]
    have h2 : i < 0 ∨ 8 * (len : Int) ≤ i := by
      by_cases h0 : i < 0
      · exact .inl h0
      · refine .inr (Classical.byContradiction fun h1 => ?_)
        rw [(has_iff l i).2 ⟨by omega, by rw [hlen]; omega⟩] at h
        cases h
    clear hb hlen h
    by_cases h0 : i < 0
    · clear h2
      go_enter Try.func18, Try.ntmps18
      go_wp2_with fail
      go_ret2
      exact ⟨rfl, rfl⟩
    · have h1 : 8 * (len : Int) ≤ i := by omega
      have h0 : 0 ≤ i := by omega
      clear h2
      go_enter Try.func18, Try.ntmps18
      go_wp2_with fail
      go_ret2
      exact ⟨rfl, rfl⟩

set_option maxHeartbeats 1600000 in
theorem ref_lowest_any (A : Option Addr) (len cap : Nat) (l : List UInt8) (hlen : l.length = len) (i : Int) (w : World) (hb : Bytes w A l) (hm : len ≤ 140737488355328) (hi0 : -9223372036854775808 ≤ i) (hi1 : i ≤ 9223372036854775807) :
    Calls Try.prog 20 #[.slice A len cap, .int .i64 i] w fun e w' => (∃ r, e = .returned (.int .i64 r) ∧ IsLow l i r) ∧ w = w' := by
  have HL := Lib.hid hlen
  have HB := Lib.hid hb
  clear hlen hb
  obtain ⟨s, hse⟩ : ∃ s : Nat, (s : Int) = 0 ∧ i < 0 ∨ (s : Int) = i := by
    by_cases h : i < 0
    · exact ⟨0, .inl ⟨rfl, h⟩⟩
    · exact ⟨i.toNat, .inr (by omega)⟩
  have HSE := Lib.hid hse
  have hs9 : s ≤ 9223372036854775807 := by omega
  have key : ∀ a1 : Int, a1 = (s : Int) → True := fun _ _ => trivial
  rcases hse with ⟨hs0, hneg⟩ | hs0
  · obtain rfl : s = 0 := by omega
    clear hs0
    go_enter Try.func20, Try.ntmps20
    go_wp2_with fail
    go_loop [5] (fun v => ∃ k : Nat, v = .int .i64 k ∧ k ≤ 8 * len ∧ ∀ j, j < k → bit l j = true) (fun v => 8 * len - (intOf v).toNat)
    case atStart => exact ⟨0, rfl, by omega, fun j h1 => by omega⟩
    case round =>
      obtain ⟨k, rfl, hk8, hall⟩ := hrel
      have HA := Lib.hid hall
      clear hall
      by_cases hk : k < 8 * len
      · have hk1 : (k : Int) < 8 * (len : Int) := by omega
        cases hbit : bit l k with
        | true =>
          have HBT := Lib.hid hbit
          clear hbit
          go_wp2_with (go_at_call 26; refine (ref_one_any A len cap l HL.out k _ HB.out hk hm).mono ?_; rintro e w' ⟨rfl, rfl⟩; rw [HBT.out, show ((one true : Nat) : Int) = 1 from rfl])
          go_round
          case rel =>
            refine ⟨k + 1, by go_num, by omega, fun j h2 => ?_⟩
            by_cases hj : j < k
            · exact HA.out j hj
            · obtain rfl : j = k := by omega
              exact HBT.out
          case measure => simp [intOf]; omega
        | false =>
          have HBT := Lib.hid hbit
          clear hbit
          go_wp2_with (go_at_call 26; refine (ref_one_any A len cap l HL.out k _ HB.out hk hm).mono ?_; rintro e w' ⟨rfl, rfl⟩; rw [HBT.out, show ((one false : Nat) : Int) = 0 from rfl])
          go_ret
          exact ⟨⟨_, rfl, .inr ⟨k, rfl, by omega, by rw [HL.out]; exact hk, HBT.out, fun j h1 h2 => HA.out j h2⟩⟩, rfl⟩
      · go_wp2_with fail
        go_ret
        exact ⟨⟨_, rfl, .inl ⟨rfl, fun j h1 h2 => HA.out j (by rw [HL.out] at h2; omega)⟩⟩, rfl⟩
  · subst hs0
    go_enter Try.func20, Try.ntmps20
    go_wp2_with fail
    go_loop [5] (fun v => ∃ k : Nat, v = .int .i64 k ∧ s ≤ k ∧ (k ≤ 8 * len ∨ k = s) ∧ ∀ j, s ≤ j → j < k → bit l j = true) (fun v => 8 * len - (intOf v).toNat)
    case atStart => exact ⟨s, rfl, Nat.le_refl _, .inr rfl, fun j h1 h2 => by omega⟩
    case round =>
      obtain ⟨k, rfl, hsk, hk8, hall⟩ := hrel
      have HA := Lib.hid hall
      clear hall
      by_cases hk : k < 8 * len
      · have hk1 : (k : Int) < 8 * (len : Int) := by omega
        cases hbit : bit l k with
        | true =>
          have HBT := Lib.hid hbit
          clear hbit
          go_wp2_with (go_at_call 26; refine (ref_one_any A len cap l HL.out k _ HB.out hk hm).mono ?_; rintro e w' ⟨rfl, rfl⟩; rw [HBT.out, show ((one true : Nat) : Int) = 1 from rfl])
          go_round
          case rel =>
            refine ⟨k + 1, by go_num, by omega, .inl (by omega), fun j h1 h2 => ?_⟩
            by_cases hj : j < k
            · exact HA.out j h1 hj
            · obtain rfl : j = k := by omega
              exact HBT.out
          case measure => simp [intOf]; omega
        | false =>
          have HBT := Lib.hid hbit
          clear hbit
          go_wp2_with (go_at_call 26; refine (ref_one_any A len cap l HL.out k _ HB.out hk hm).mono ?_; rintro e w' ⟨rfl, rfl⟩; rw [HBT.out, show ((one false : Nat) : Int) = 0 from rfl])
          go_ret
          exact ⟨⟨_, rfl, .inr ⟨k, rfl, by omega, by rw [HL.out]; exact hk, HBT.out, fun j h1 h2 => HA.out j (by omega) h2⟩⟩, rfl⟩
      · have hk1 : 8 * (len : Int) ≤ (k : Int) := by omega
        go_wp2_with fail
        go_ret
        exact ⟨⟨_, rfl, .inl ⟨rfl, fun j h1 h2 => HA.out j (by omega) (by rw [HL.out] at h2; omega)⟩⟩, rfl⟩

set_option maxHeartbeats 1600000 in
theorem ref_count_any (A : Option Addr) (len cap : Nat) (l : List UInt8) (hlen : l.length = len) (i j : Int) (w : World) (hb : Bytes w A l) (hm : len ≤ 140737488355328) :
    Calls Try.prog 21 #[.slice A len cap, .int .i64 i, .int .i64 j] w fun e w' => e = .returned (.tuple #[.int .i64 (cntV l i j : Int), .int .i64 (cntE l i j)]) ∧ w = w' := by
  by_cases h : 0 ≤ i ∧ j ≤ 8 * (len : Int) ∧ i ≤ j
  · obtain ⟨h0, h1, h2⟩ := h
    obtain ⟨a, rfl⟩ := Int.eq_ofNat_of_zero_le h0
    obtain ⟨d, hd⟩ : ∃ d : Nat, j = ((a + d : Nat) : Int) := ⟨(j - a).toNat, by omega⟩
    subst hd
    have hok : cntOk l (a : Int) ((a + d : Nat) : Int) = true := by unfold cntOk; rw [hlen]; simp; omega
    rw [show cntV l (a : Int) ((a + d : Nat) : Int) = cnt l a d by unfold cntV; rw [if_pos hok, Int.toNat_natCast, show (((a + d : Nat) : Int) - (a : Int)).toNat = d by omega], show cntE l (a : Int) ((a + d : Nat) : Int) = 0 by unfold cntE; rw [if_pos hok]]
    have HL := Lib.hid hlen
    have HB := Lib.hid hb
    have hj1 : ((a + d : Nat) : Int) ≤ 8 * (len : Int) := h1
    have hj2 : (a : Int) ≤ ((a + d : Nat) : Int) := h2
    obtain ⟨z, hz⟩ : ∃ z, a + d = z := ⟨_, rfl⟩
    rw [hz] at hj1 hj2 ⊢
    have n1 : ¬ (a : Int) < 0 := by omega
    have n2 : ¬ 8 * (len : Int) < (z : Int) := by omega
    have n3 : ¬ z < a := by omega
    clear hlen hb hok h1 h2 h0
    go_enter Try.func21, Try.ntmps21
    go_wp2_with fail
    go_loop [8, 9] (fun n v => ∃ k : Nat, k ≤ d ∧ v = .int .i64 ((a + k : Nat) : Int) ∧ n = .int .i64 (cnt l a k : Int)) (fun n v => z - (intOf v).toNat)
    case atStart => exact ⟨0, Nat.zero_le _, rfl, rfl⟩
    case round =>
      obtain ⟨k, hk, rfl, rfl⟩ := hrel
      have HZ := Lib.hid hz
      clear hz
      have hc := cnt_le l a k
      have HC := Lib.hid (cnt_succ l a k)
      obtain ⟨c, hce⟩ : ∃ c, cnt l a k = c := ⟨_, rfl⟩
      rw [hce] at hc HC ⊢
      have HCE := Lib.hid hce
      obtain ⟨v, hv⟩ : ∃ v, a + k = v := ⟨_, rfl⟩
      rw [hv] at HC ⊢
      have HV := Lib.hid hv
      clear hce hv
      by_cases hkd : k < d
      · have hvz : v < z := by have := HZ.out; have := HV.out; omega
        have hv8 : v < 8 * len := by omega
        have hcb : (c : Int) ≤ 1125899906842624 := by have := HZ.out; omega
        cases hbit : bit l v with
        | true =>
          have HBT := Lib.hid hbit
          clear hbit
          go_wp2_with (go_at_call 26; refine (ref_one_any A len cap l HL.out v _ HB.out hv8 hm).mono ?_; rintro e w' ⟨rfl, rfl⟩; rw [HBT.out, show ((one true : Nat) : Int) = 1 from rfl])
          go_round
          case rel => exact ⟨k + 1, by omega, by rw [← HV.out]; go_num, by rw [HC.out, if_pos HBT.out]; go_num⟩
          case measure => simp [intOf]; omega
        | false =>
          have HBT := Lib.hid hbit
          clear hbit
          go_wp2_with (go_at_call 26; refine (ref_one_any A len cap l HL.out v _ HB.out hv8 hm).mono ?_; rintro e w' ⟨rfl, rfl⟩; rw [HBT.out, show ((one false : Nat) : Int) = 0 from rfl])
          go_round
          case rel => exact ⟨k + 1, by omega, by rw [← HV.out]; go_num, by rw [HC.out, if_neg (by rw [HBT.out]; simp)]; go_num⟩
          case measure => simp [intOf]; omega
      · obtain rfl : k = d := by omega
        obtain rfl : v = z := by rw [← HV.out, HZ.out]
        go_wp2_with fail
        go_ret2
        exact ⟨by rw [HCE.out]; rfl, rfl⟩
  · have hok : cntOk l i j = false := by unfold cntOk; rw [hlen]; simp; omega
    rw [show cntV l i j = 0 by unfold cntV; rw [if_neg (by rw [hok]; simp)], show cntE l i j = 80 by unfold cntE; rw [if_neg (by rw [hok]; simp)]]
    clear hok hlen hb
    by_cases h0 : i < 0
    · clear h
      go_enter Try.func21, Try.ntmps21
      go_wp2_with fail
      go_ret2
      exact ⟨rfl, rfl⟩
    · have h00 : 0 ≤ i := by omega
      by_cases h1 : 8 * (len : Int) < j
      · clear h
        go_enter Try.func21, Try.ntmps21
        go_wp2_with fail
        go_ret2
        exact ⟨rfl, rfl⟩
      · have h10 : j ≤ 8 * (len : Int) := by omega
        have h2 : j < i := by omega
        clear h
        go_enter Try.func21, Try.ntmps21
        go_wp2_with fail
        go_ret2
        exact ⟨rfl, rfl⟩

theorem keeps_put0 (w : World) (g k : Nat) (v : Value) : Keeps (Of (some ⟨g, 0, none⟩)) w (w.setCell ⟨g, k, none⟩ v) :=
  have h := (Below.refl 0 w).setCell (p := ⟨g, k, none⟩) (Nat.zero_le _) v
  ⟨h.os, h.tape, h.output, h.size, fun i hi hn => heap_setCell_other w ⟨g, k, none⟩ i v (fun e => hn (by rw [Of, e]))⟩

set_option maxHeartbeats 3200000 in
theorem ref_put_any (base : Nat) (A : Option Addr) (len cap : Nat) (l m : List UInt8) (hlen : l.length = len) (i : Int) (on : Bool) (w : World) (hM : Mine w base A cap (l ++ m)) (hm : len ≤ 140737488355328) :
    Calls Try.prog 19 #[.slice A len cap, .int .i64 i, .bool on] w fun e w' => e = .returned (.int .i64 (getE l i)) ∧ Mine w' base A cap (putL l i on ++ m) ∧ Keeps (Of A) w w' := by
  cases h : has l i with
  | true =>
    have h2 := (has_iff _ _).1 h
    rw [hlen] at h2
    obtain ⟨k, rfl⟩ := Int.eq_ofNat_of_zero_le h2.1
    have hk : k < 8 * len := by omega
    have hk1 : (k : Int) < 8 * (len : Int) := h2.2
    have n1 : ¬ (k : Int) < 0 := by omega
    have n2 : ¬ 8 * (len : Int) ≤ (k : Int) := by omega
    obtain ⟨q, hqe⟩ : ∃ q, k / 8 = q := ⟨_, rfl⟩
    obtain ⟨r, hre⟩ : ∃ r, k % 8 = r := ⟨_, rfl⟩
    have hql : q < l.length := by omega
    have hr : r < 8 := by omega
    rw [show getE l (k : Int) = 0 by unfold getE; rw [if_pos h], putL_of l k q r on hql hqe hre]
    have hbe := bit_of l k q r hql hqe hre
    obtain ⟨g, rfl, hg, hgl⟩ := hM.form (by simp; omega)
    have hx : w.cell? ⟨g, q, none⟩ = some (.int .u8 (n8 l[q])) := by
      rw [hM.cell (k := q) (by simp; omega), List.getElem_append_left hql]
    have hf := hM.free q
    have hput := fun b => hM.put q b
    have hset : ∀ b, (l ++ m).set q b = l.set q b ++ m := fun b => List.set_append_left _ _ hql
    have hself : l.set q l[q] = l := List.set_getElem_self _
    have hb := hM.head
    obtain ⟨x, hxe⟩ : ∃ x, l[q] = x := ⟨_, rfl⟩
    rw [hxe] at hx hbe hself ⊢
    have hqi : (k : Int) / 8 = (q : Int) := by omega
    have hri : (k : Int) % 8 = (r : Int) := by omega
    have hq0 : (q : Int) < (len : Int) := by omega
    have HL := Lib.hid hlen
    have HB := Lib.hid hb
    have HP := Lib.hid hput
    have HS := Lib.hid hset
    have HSE := Lib.hid hself
    have HM := Lib.hid hM
    have HBE := Lib.hid hbe
    obtain ⟨t, ht⟩ : ∃ t, bit8 x r = t := ⟨_, rfl⟩
    have hpl := plus_bit x r hr
    have hle := less_bit x r hr
    have hsm := set8_same x r on
    have hW : 2 ^ r ≤ 128 := by have := Nat.pow_le_pow_right (n := 2) (by decide) (show r ≤ 7 by omega); exact this
    obtain ⟨W, hWe⟩ : ∃ W, 2 ^ r = W := ⟨_, rfl⟩
    rw [hWe] at hpl hle hW
    rw [ht] at hpl hle hsm
    have HT := Lib.hid (show bit l k = t from hbe.trans ht)
    have HPL := Lib.hid hpl
    have HLE := Lib.hid hle
    have HSM := Lib.hid hsm
    have HWE := Lib.hid hWe
    clear hlen h h2 hM hqe hre hput hset hself hql hbe ht hpl hle hsm hb hxe hWe
    go_enter Try.func19, Try.ntmps19
    go_wp2_with fail
    go_loop [7, 8] (fun v n => ∃ j : Nat, j ≤ r ∧ n = .int .i64 j ∧ v = .int .i64 ((2 ^ j : Nat) : Int)) (fun v n => r - (intOf n).toNat)
    case atStart => exact ⟨0, Nat.zero_le _, rfl, rfl⟩
    case round =>
      obtain ⟨j, hj, rfl, rfl⟩ := hrel
      have hV : 2 ^ j ≤ 128 := by have := Nat.pow_le_pow_right (n := 2) (by decide) (show j ≤ 7 by omega); exact this
      have HV2 := Lib.hid (show 2 ^ (j + 1) = 2 * 2 ^ j by rw [Nat.pow_succ, Nat.mul_comm])
      obtain ⟨V, hVe⟩ : ∃ V, 2 ^ j = V := ⟨_, rfl⟩
      rw [hVe] at hV HV2 ⊢
      have HVE := Lib.hid hVe
      clear hVe
      by_cases hjr : j < r
      · go_wp2_with fail
        go_round
        case rel => exact ⟨j + 1, by omega, by go_num, by rw [HV2.out]; go_num⟩
        case measure => simp [intOf]; omega
      · obtain rfl : j = r := by omega
        obtain rfl : V = W := by rw [← HVE.out, ← HWE.out]
        cases t with
        | true =>
          cases on with
          | true =>
            have hsm := HSM.out rfl
            have HSM2 := Lib.hid hsm
            clear hsm
            go_wp2_with (go_at_call 26; refine (ref_one_any (some ⟨g, 0, none⟩) len cap l HL.out k _ HB.out hk hm).mono ?_; rintro e w' ⟨rfl, rfl⟩; rw [HT.out, show ((one true : Nat) : Int) = 1 from rfl])
            go_ret
            exact ⟨rfl, by rw [HSM2.out, HSE.out]; exact HM.out, Keeps.refl _ _⟩
          | false =>
            have hle : (n8 x - (V : Int)) % 256 = n8 (set8 x j false) := HLE.out rfl
            have hx0 := n8_lo x
            have hx1 := n8_hi x
            go_wp2_with (go_at_call 26; refine (ref_one_any (some ⟨g, 0, none⟩) len cap l HL.out k _ HB.out hk hm).mono ?_; rintro e w' ⟨rfl, rfl⟩; rw [HT.out, show ((one true : Nat) : Int) = 1 from rfl])
            go_ret
            refine ⟨rfl, ?_, keeps_put0 _ _ _ _⟩
            rw [← HS.out]
            exact HP.out _
        | false =>
          cases on with
          | true =>
            have hpl : (n8 x + (V : Int)) % 256 = n8 (set8 x j true) := HPL.out rfl
            have hx0 := n8_lo x
            have hx1 := n8_hi x
            go_wp2_with (go_at_call 26; refine (ref_one_any (some ⟨g, 0, none⟩) len cap l HL.out k _ HB.out hk hm).mono ?_; rintro e w' ⟨rfl, rfl⟩; rw [HT.out, show ((one false : Nat) : Int) = 0 from rfl])
            go_ret
            refine ⟨rfl, ?_, keeps_put0 _ _ _ _⟩
            rw [← HS.out]
            exact HP.out _
          | false =>
            have hsm := HSM.out rfl
            have HSM2 := Lib.hid hsm
            clear hsm
            go_wp2_with (go_at_call 26; refine (ref_one_any (some ⟨g, 0, none⟩) len cap l HL.out k _ HB.out hk hm).mono ?_; rintro e w' ⟨rfl, rfl⟩; rw [HT.out, show ((one false : Nat) : Int) = 0 from rfl])
            go_ret
            exact ⟨rfl, by rw [HSM2.out, HSE.out]; exact HM.out, Keeps.refl _ _⟩
  | false =>
    rw [putL_out l i on h, show getE l i = 80 by unfold getE; rw [if_neg (by rw [h]; simp)]]
    have h2 : i < 0 ∨ 8 * (len : Int) ≤ i := by
      by_cases h0 : i < 0
      · exact .inl h0
      · refine .inr (Classical.byContradiction fun h1 => ?_)
        rw [(has_iff l i).2 ⟨by omega, by rw [hlen]; omega⟩] at h
        cases h
    have HM := Lib.hid hM
    clear hlen h hM
    by_cases h0 : i < 0
    · clear h2
      go_enter Try.func19, Try.ntmps19
      go_wp2_with fail
      go_ret
      exact ⟨rfl, HM.out, Keeps.refl _ _⟩
    · have h1 : 8 * (len : Int) ≤ i := by omega
      have h0 : 0 ≤ i := by omega
      clear h2
      go_enter Try.func19, Try.ntmps19
      go_wp2_with fail
      go_ret
      exact ⟨rfl, HM.out, Keeps.refl _ _⟩
end Go.Proofs.Ytlpochabgdcidaa
