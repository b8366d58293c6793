/-
  THE WALKS OF bits: has, on, Get, Lowest, Count, Put.
-/
import Derived.Test.YtlpochabgdcidaaProg
import Derived.Test.YtlpochabgdcidaaBtQ
import Derived.Test.YtlpochabgdcidaaKeeps
import Derived.Outline
set_option linter.unusedVariables false
set_option linter.unusedSimpArgs false
namespace Go.Proofs.Ytlpochabgdcidaa
open Go.RowKit Bt

theorem has_any (A : Option Addr) (len cap : Nat) (l : List UInt8) (hlen : l.length = len) (i : Int) (w : World) (hm : len ≤ 140737488355328) :
    Calls Try.prog 24 #[.slice A len cap, .int .i64 i] w fun e w' => e = .returned (.bool (has l i)) ∧ w = w' := by
  by_cases h0 : 0 ≤ i
  · by_cases h1 : i < 8 * (len : Int)
    · rw [show has l i = true from (has_iff _ _).2 ⟨h0, by rw [hlen]; exact h1⟩]
      clear hlen
      go_enter Try.func24, Try.ntmps24
      go_wp2_with fail
      go_ret
      exact ⟨rfl, rfl⟩
    · have hb : has l i = false := by rw [Bool.eq_false_iff]; intro h; have := (has_iff _ _).1 h; rw [hlen] at this; omega
      rw [hb]
      have h1 : 8 * (len : Int) ≤ i := by omega
      clear hlen hb
      go_enter Try.func24, Try.ntmps24
      go_wp2_with fail
      go_ret
      exact ⟨rfl, rfl⟩
  · have hb : has l i = false := by rw [Bool.eq_false_iff]; intro h; have := (has_iff _ _).1 h; omega
    rw [hb]
    have h0 : i < 0 := by omega
    clear hlen hb
    go_enter Try.func24, Try.ntmps24
    go_wp2_with fail
    go_ret
    exact ⟨rfl, rfl⟩

theorem and1_beq (x : Nat) (h : x < 256) : (bits .and .u8 (x : Int) 1 == 1) = (x % 2 == 1) := by
  have := bits_mask .u8 8 (by decide) (fun n h0 h1 => IntWalk.u8_in n (by omega)) 1 (by decide) (x : Int) (by omega) (by omega)
  rw [show ((2 : Int) ^ 1 - 1) = 1 by decide] at this
  rw [this]
  rw [Bool.eq_iff_iff]
  simp
  omega
/-- a byte shifted -/
theorem n8_shr (b : UInt8) (k : Nat) : n8 b / 2 ^ k = ((b.toNat / 2 ^ k : Nat) : Int) := by unfold n8; simp

theorem on_any (A : Option Addr) (len cap : Nat) (l : List UInt8) (hlen : l.length = len) (i : Nat) (w : World) (hb : Bytes w A l) (hi : i < 8 * len) (hm : len ≤ 140737488355328) :
    Calls Try.prog 25 #[.slice A len cap, .int .i64 (i : Int)] w fun e w' => e = .returned (.bool (bit l i)) ∧ w = w' := by
  have hq : i / 8 < l.length := by omega
  obtain ⟨b, off, rfl, hc⟩ := hb.at_ hq
  have he : bit l i = bit8 l[i / 8] (i % 8) := by unfold bit; rw [List.getD_eq_getElem?_getD, List.getElem?_eq_getElem hq]; rfl
  rw [he]
  generalize l[i / 8] = x at hc
  obtain ⟨q, hqe⟩ : ∃ q, i / 8 = q := ⟨_, rfl⟩
  obtain ⟨r, hre⟩ : ∃ r, i % 8 = r := ⟨_, rfl⟩
  rw [hqe] at hc hq
  rw [hre]
  have hqi : (i : Int) / 8 = (q : Int) := by omega
  have hri : (i : Int) % 8 = (r : Int) := by omega
  have hq0 : (q : Int) < (len : Int) := by omega
  have hr8 : (r : Int) < 8 := by omega
  have hs := n8_shr x r
  have hx := x.toNat_lt
  have hlt : x.toNat / 2 ^ r < 256 := Nat.lt_of_le_of_lt (Nat.div_le_self _ _) hx
  have ha := and1_beq _ hlt
  unfold bit8
  generalize x.toNat / 2 ^ r = y at hs ha hlt
  clear hqe hre hlen hx
  go_enter Try.func25, Try.ntmps25
  go_wp2_with fail

  go_ret
  exact ⟨rfl, rfl⟩

theorem get_any (A : Option Addr) (len cap : Nat) (l : List UInt8) (hlen : l.length = len) (i : Int) (w : World) (hb : Bytes w A l) (hm : len ≤ 140737488355328) :
    Calls Try.prog 14 #[.slice A len cap, .int .i64 i] w fun e w' => e = .returned (.tuple #[.bool (getV l i), .int .i64 (getE l i)]) ∧ w = w' := by
  cases h : has l i with
  | true =>
    have h2 := (has_iff _ _).1 h
    rw [hlen] at h2
    obtain ⟨k, rfl⟩ := Int.eq_ofNat_of_zero_le h2.1
    have hk : k < 8 * len := by omega
    rw [show getV l (k : Int) = bit l k by unfold getV; rw [h, Int.toNat_natCast]; rfl, show getE l (k : Int) = 0 by unfold getE; rw [if_pos h]]
    have HB := Lib.hid hb
    have HL := Lib.hid hlen
    have HH := Lib.hid h
    clear hb hlen h h2
    go_enter Try.func14, Try.ntmps14
    go_wp2_with (first
      | (go_at_call 24; refine (has_any A len cap l HL.out _ _ hm).mono ?_; rintro e w' ⟨rfl, rfl⟩; rw [HH.out])
      | (go_at_call 25; refine (on_any A len cap l HL.out k _ HB.out hk hm).mono ?_; rintro e w' ⟨rfl, rfl⟩))
    go_ret2
    exact ⟨rfl, rfl⟩
  | false =>
    rw [show getV l i = false by unfold getV; rw [h]; rfl, show getE l i = 80 by unfold getE; rw [if_neg (by rw [h]; simp)]]
    have HL := Lib.hid hlen
    have HH := Lib.hid h
    clear hb hlen h
    go_enter Try.func14, Try.ntmps14
    go_wp2_with (go_at_call 24; refine (has_any A len cap l HL.out _ _ hm).mono ?_; rintro e w' ⟨rfl, rfl⟩; rw [HH.out])
    go_ret2
    exact ⟨rfl, rfl⟩

theorem keeps_put (w : World) (g k : Nat) (v : Value) : Keeps (Of (some ⟨g, 0, none⟩)) w (w.setCell ⟨g, k, none⟩ v).drew :=
  have h := ((Below.refl 0 w).setCell (p := ⟨g, k, none⟩) (Nat.zero_le _) v).drew
  ⟨h.os, h.tape, h.output, h.size, fun i hi hn => heap_setCell_other w ⟨g, k, none⟩ i v (fun e => hn (by rw [Of, e]))⟩
set_option maxHeartbeats 1600000 in
theorem put_any (base : Nat) (A : Option Addr) (len cap : Nat) (l m : List UInt8) (hlen : l.length = len) (i : Int) (on : Bool) (w : World) (hM : Mine w base A cap (l ++ m)) (hm : len ≤ 140737488355328) :
    Calls Try.prog 16 #[.slice A len cap, .int .i64 i, .bool on] w fun e w' => e = .returned (.int .i64 (getE l i)) ∧ Mine w' base A cap (putL l i on ++ m) ∧ Keeps (Of A) w w' := by
  cases h : has l i with
  | true =>
    have h2 := (has_iff _ _).1 h
    rw [hlen] at h2
    obtain ⟨k, rfl⟩ := Int.eq_ofNat_of_zero_le h2.1
    have hk : k < 8 * len := by omega
    obtain ⟨q, hqe⟩ : ∃ q, k / 8 = q := ⟨_, rfl⟩
    obtain ⟨r, hre⟩ : ∃ r, k % 8 = r := ⟨_, rfl⟩
    have hql : q < l.length := by omega
    have hr : r < 8 := by omega
    rw [show getE l (k : Int) = 0 by unfold getE; rw [if_pos h], putL_of l k q r on hql hqe hre]
    obtain ⟨g, rfl, hg, hgl⟩ := hM.form (by simp; omega)
    have hx : w.cell? ⟨g, q, none⟩ = some (.int .u8 (n8 l[q])) := by
      rw [hM.cell (k := q) (by simp; omega), List.getElem_append_left hql]
    have hf := hM.free q
    have hput := fun b => hM.put q b
    have hset : ∀ b, (l ++ m).set q b = l.set q b ++ m := fun b => List.set_append_left _ _ hql
    generalize l[q] = x at hx ⊢
    have ho := or_bit x r hr
    have ha := andNot_bit x r hr
    have hp := u8_pow r hr
    have hqi : (k : Int) / 8 = (q : Int) := by omega
    have hri : (k : Int) % 8 = (r : Int) := by omega
    have hq0 : (q : Int) < (len : Int) := by omega
    have HL := Lib.hid hlen
    have HH := Lib.hid h
    have HP := Lib.hid hput
    have HS := Lib.hid hset
    clear hlen h h2 hM hqe hre hput hset hql
    cases on with
    | true =>
      go_enter Try.func16, Try.ntmps16
      go_wp2_with (go_at_call 24; refine (has_any (some ⟨g, 0, none⟩) len cap l HL.out _ _ hm).mono ?_; rintro e w' ⟨rfl, rfl⟩; rw [HH.out])
      go_region
      go_wp2_with fail
      go_ret
      refine ⟨rfl, ?_, keeps_put _ _ _ _⟩
      rw [← HS.out]
      exact (HP.out _).drew
    | false =>
      go_enter Try.func16, Try.ntmps16
      go_wp2_with (go_at_call 24; refine (has_any (some ⟨g, 0, none⟩) len cap l HL.out _ _ hm).mono ?_; rintro e w' ⟨rfl, rfl⟩; rw [HH.out])
      go_region
      go_wp2_with fail
      go_ret
      refine ⟨rfl, ?_, keeps_put _ _ _ _⟩
      rw [← HS.out]
      exact (HP.out _).drew
  | false =>
    rw [putL_out l i on h, show getE l i = 80 by unfold getE; rw [if_neg (by rw [h]; simp)]]
    have HL := Lib.hid hlen
    have HH := Lib.hid h
    have HM := Lib.hid hM
    clear hlen h hM
    go_enter Try.func16, Try.ntmps16
    go_wp2_with (go_at_call 24; refine (has_any A len cap l HL.out _ _ hm).mono ?_; rintro e w' ⟨rfl, rfl⟩; rw [HH.out])
    go_ret
    exact ⟨rfl, HM.out, Keeps.refl _ _⟩

/-- max of two numbers, its value named -/
theorem wpList_max2 {P : Program} {ops : Array Oper} {rest : List Oper} {o : Oper} {a : Act} {w : World} {Q : Exit → Act → World → Prop} (hgd : o.guard = none) (x y : Operand) (ts : Array TypeId)
    (ho : o.op = .call { callee := .builtin .max, args := #[x, y], argTypes := ts }) (p q : Int) (hx : a.eval x = .int .i64 p) (hy : a.eval y = .int .i64 q)
    (m : Int) (hm : (if p < q then q else p) = m) (h : wpList P ops Q rest (a.put o.dst (.int .i64 m)) w) : wpList P ops Q (o :: rest) a w := by
  refine wpList_plain hgd fun K hK => ?_
  have hrun : (Builtin.max_ ts o.type #[.int .i64 p, .int .i64 q]).run P w = .ok (.int .i64 m) w := by
    rw [← hm]; simp [Builtin.max_, Builtin.max2]
  unfold Oper.wp
  simp [execOp, ho, resolve, invoke, builtin, hx, hy, hrun, Result.andThen]
  exact hK _ _ h

set_option maxHeartbeats 1600000 in
theorem lowest_any (A : Option Addr) (len cap : Nat) (l : List UInt8) (hlen : l.length = len) (i : Int) (w : World) (hb : Bytes w A l) (hm : len ≤ 140737488355328) (hi0 : -9223372036854775808 ≤ i) (hi1 : i ≤ 9223372036854775807) :
    Calls Try.prog 15 #[.slice A len cap, .int .i64 i] w fun e w' => (∃ r, e = .returned (.int .i64 r) ∧ IsLow l i r) ∧ w = w' := by
  obtain ⟨s, hs⟩ : ∃ s : Nat, (if i < 0 then 0 else i) = (s : Int) := ⟨(if i < 0 then 0 else i).toNat, by split <;> omega⟩
  have hse : (s : Int) = 0 ∧ i < 0 ∨ (s : Int) = i := by
    by_cases h : i < 0
    · rw [if_pos h] at hs; exact .inl ⟨hs.symm, h⟩
    · rw [if_neg h] at hs; exact .inr hs.symm
  have HL := Lib.hid hlen
  have HB := Lib.hid hb
  have HSE := Lib.hid hse
  have hs9 : s ≤ 9223372036854775807 := by omega
  clear hlen hb hse
  go_enter Try.func15, Try.ntmps15
  go_wp2_with (refine wpList_max2 rfl _ _ _ rfl i 0 rfl rfl (s : Int) hs ?_)
  go_loop [5] (fun v => ∃ k : Nat, v = .int .i64 k ∧ s ≤ k ∧ (k ≤ 8 * len ∨ k = s) ∧ ∀ j, s ≤ j → j < k → bit l j = true) (fun v => 8 * len - (intOf v).toNat)
  case atStart => exact ⟨s, rfl, Nat.le_refl _, .inr rfl, fun j h1 h2 => by omega⟩
  case round =>
    obtain ⟨k, rfl, hsk, hk8, hall⟩ := hrel
    have HA := Lib.hid hall
    clear hall
    by_cases hk : k < 8 * len
    · have hh : has l (k : Int) = true := (has_iff _ _).2 ⟨by omega, by rw [HL.out]; omega⟩
      have HH := Lib.hid hh
      obtain ⟨q, hqe⟩ : ∃ q, k / 8 = q := ⟨_, rfl⟩
      obtain ⟨r, hre⟩ : ∃ r, k % 8 = r := ⟨_, rfl⟩
      have hql : q < l.length := by rw [HL.out]; omega
      obtain ⟨b, off, rfl, hc⟩ := HB.out.at_ hql
      have hqi : (k : Int) / 8 = (q : Int) := by omega
      have hri : (k : Int) % 8 = (r : Int) := by omega
      have hq0 : (q : Int) < (len : Int) := by omega
      have HF := Lib.hid (full_byte l q)
      obtain ⟨x, hx⟩ : ∃ x, l[q] = x := ⟨_, rfl⟩
      rw [hx] at hc
      have HQE := Lib.hid hqe
      have HRE := Lib.hid hre
      have HFX := Lib.hid (fun (e : x = 255) j (hj : j / 8 = q) => full_byte l q j hql (by rw [hx]; exact e) hj)
      have hk1 : (k : Int) < 8 * (len : Int) := by omega
      clear hh hqe hre hx HF
      by_cases hr0 : r = 0
      · subst hr0
        by_cases h255 : x = 255
        · subst h255
          have h255 : (n8 255 == 255) = true := by decide
          go_wp2_with (go_at_call 24; refine (has_any (some ⟨b, off, none⟩) len cap l HL.out _ _ hm).mono ?_; rintro e w' ⟨rfl, rfl⟩; rw [HH.out])
          go_round
          case rel =>
            refine ⟨k + 8, by go_num, by omega, .inl (by have := HQE.out; have := HRE.out; omega), fun j h1 h2 => ?_⟩
            by_cases hj : j < k
            · exact HA.out j h1 hj
            · exact HFX.out trivial j (by have := HQE.out; have := HRE.out; omega)
          case measure => simp [intOf]; omega
        · have h255 : (n8 x == 255) = false := by rw [show (255 : Int) = n8 255 from rfl, n8_beq]; simp [h255]
          cases hbit : bit l k with
          | true =>
            have HBT := Lib.hid hbit
            clear hbit
            go_wp2_with (first
              | (go_at_call 24; refine (has_any (some ⟨b, off, none⟩) len cap l HL.out _ _ hm).mono ?_; rintro e w' ⟨rfl, rfl⟩; rw [HH.out])
              | (go_at_call 25; refine (on_any (some ⟨b, off, none⟩) len cap l HL.out k _ HB.out hk hm).mono ?_; rintro e w' ⟨rfl, rfl⟩; rw [HBT.out]))
            go_round
            case rel =>
              refine ⟨k + 1, by go_num, by omega, .inl (by omega), fun j h1 h2 => ?_⟩
              by_cases hj : j < k
              · exact HA.out j h1 hj
              · obtain rfl : j = k := by omega
                exact HBT.out
            case measure => simp [intOf]; omega
          | false =>
            have HBT := Lib.hid hbit
            clear hbit
            go_wp2_with (first
              | (go_at_call 24; refine (has_any (some ⟨b, off, none⟩) len cap l HL.out _ _ hm).mono ?_; rintro e w' ⟨rfl, rfl⟩; rw [HH.out])
              | (go_at_call 25; refine (on_any (some ⟨b, off, none⟩) len cap l HL.out k _ HB.out hk hm).mono ?_; rintro e w' ⟨rfl, rfl⟩; rw [HBT.out]))
            go_ret
            exact ⟨⟨_, rfl, .inr ⟨k, rfl, by have := HSE.out; omega, by rw [HL.out]; exact hk, HBT.out, fun j h1 h2 => HA.out j (by have := HSE.out; omega) h2⟩⟩, rfl⟩
      · have hr0 : ((r : Int) == 0) = false := by rw [beq_eq_false_iff_ne]; omega
        cases hbit : bit l k with
        | true =>
          have HBT := Lib.hid hbit
          clear hbit
          go_wp2_with (first
            | (go_at_call 24; refine (has_any (some ⟨b, off, none⟩) len cap l HL.out _ _ hm).mono ?_; rintro e w' ⟨rfl, rfl⟩; rw [HH.out])
            | (go_at_call 25; refine (on_any (some ⟨b, off, none⟩) len cap l HL.out k _ HB.out hk hm).mono ?_; rintro e w' ⟨rfl, rfl⟩; rw [HBT.out]))
          go_round
          case rel =>
            refine ⟨k + 1, by go_num, by omega, .inl (by omega), fun j h1 h2 => ?_⟩
            by_cases hj : j < k
            · exact HA.out j h1 hj
            · obtain rfl : j = k := by omega
              exact HBT.out
          case measure => simp [intOf]; omega
        | false =>
          have HBT := Lib.hid hbit
          clear hbit
          go_wp2_with (first
            | (go_at_call 24; refine (has_any (some ⟨b, off, none⟩) len cap l HL.out _ _ hm).mono ?_; rintro e w' ⟨rfl, rfl⟩; rw [HH.out])
            | (go_at_call 25; refine (on_any (some ⟨b, off, none⟩) len cap l HL.out k _ HB.out hk hm).mono ?_; rintro e w' ⟨rfl, rfl⟩; rw [HBT.out]))
          go_ret
          exact ⟨⟨_, rfl, .inr ⟨k, rfl, by have := HSE.out; omega, by rw [HL.out]; exact hk, HBT.out, fun j h1 h2 => HA.out j (by have := HSE.out; omega) h2⟩⟩, rfl⟩
    · have hh : has l (k : Int) = false := by rw [Bool.eq_false_iff]; intro h; have := (has_iff _ _).1 h; rw [HL.out] at this; omega
      have HH := Lib.hid hh
      clear hh
      go_wp2_with (go_at_call 24; refine (has_any A len cap l HL.out _ _ hm).mono ?_; rintro e w' ⟨rfl, rfl⟩; rw [HH.out])
      go_ret
      exact ⟨⟨_, rfl, .inl ⟨rfl, fun j h1 h2 => HA.out j (by have := HSE.out; omega) (by rw [HL.out] at h2; omega)⟩⟩, rfl⟩

set_option maxHeartbeats 1600000 in
theorem count_any (A : Option Addr) (len cap : Nat) (l : List UInt8) (hlen : l.length = len) (i j : Int) (w : World) (hb : Bytes w A l) (hm : len ≤ 140737488355328) :
    Calls Try.prog 13 #[.slice A len cap, .int .i64 i, .int .i64 j] w fun e w' => e = .returned (.tuple #[.int .i64 (cntV l i j : Int), .int .i64 (cntE l i j)]) ∧ w = w' := by
  by_cases h : 0 ≤ i ∧ j ≤ 8 * (len : Int) ∧ i ≤ j
  · obtain ⟨h0, h1, h2⟩ := h
    obtain ⟨a, rfl⟩ := Int.eq_ofNat_of_zero_le h0
    obtain ⟨d, hd⟩ : ∃ d : Nat, j = ((a + d : Nat) : Int) := ⟨(j - a).toNat, by omega⟩
    subst hd
    have hok : cntOk l (a : Int) ((a + d : Nat) : Int) = true := by unfold cntOk; rw [hlen]; simp; omega
    rw [show cntV l (a : Int) ((a + d : Nat) : Int) = cnt l a d by unfold cntV; rw [if_pos hok, Int.toNat_natCast, show (((a + d : Nat) : Int) - (a : Int)).toNat = d by omega], show cntE l (a : Int) ((a + d : Nat) : Int) = 0 by unfold cntE; rw [if_pos hok]]
    have HL := Lib.hid hlen
    have HB := Lib.hid hb
    have hj1 : ((a + d : Nat) : Int) ≤ 8 * (len : Int) := h1
    have hj2 : (a : Int) ≤ ((a + d : Nat) : Int) := h2
    obtain ⟨z, hz⟩ : ∃ z, a + d = z := ⟨_, rfl⟩
    rw [hz] at hj1 hj2 ⊢
    have n1 : ¬ (a : Int) < 0 := by omega
    have n2 : ¬ 8 * (len : Int) < (z : Int) := by omega
    have n3 : ¬ z < a := by omega
    clear hlen hb hok h1 h2 h0
    go_enter Try.func13, Try.ntmps13
    go_wp2_with fail
    go_loop [8, 9] (fun n v => ∃ k : Nat, k ≤ d ∧ v = .int .i64 ((a + k : Nat) : Int) ∧ n = .int .i64 (cnt l a k : Int)) (fun n v => z - (intOf v).toNat)
    case atStart => exact ⟨0, Nat.zero_le _, rfl, rfl⟩
    case round =>
      obtain ⟨k, hk, rfl, rfl⟩ := hrel
      have HZ := Lib.hid hz
      clear hz
      have hc := cnt_le l a k
      have HC := Lib.hid (cnt_succ l a k)
      obtain ⟨c, hce⟩ : ∃ c, cnt l a k = c := ⟨_, rfl⟩
      rw [hce] at hc HC ⊢
      have HCE := Lib.hid hce
      obtain ⟨v, hv⟩ : ∃ v, a + k = v := ⟨_, rfl⟩
      rw [hv] at HC ⊢
      have HV := Lib.hid hv
      clear hce hv
      by_cases hkd : k < d
      · have hvz : v < z := by have := HZ.out; have := HV.out; omega
        have hv8 : v < 8 * len := by omega
        have hcb : (c : Int) ≤ 1125899906842624 := by have := HZ.out; omega
        cases hbit : bit l v with
        | true =>
          have HBT := Lib.hid hbit
          clear hbit
          go_wp2_with (go_at_call 25; refine (on_any A len cap l HL.out v _ HB.out hv8 hm).mono ?_; rintro e w' ⟨rfl, rfl⟩; rw [HBT.out])
          go_round
          case rel => exact ⟨k + 1, by omega, by rw [← HV.out]; go_num, by rw [HC.out, if_pos HBT.out]; go_num⟩
          case measure => simp [intOf]; omega
        | false =>
          have HBT := Lib.hid hbit
          clear hbit
          go_wp2_with (go_at_call 25; refine (on_any A len cap l HL.out v _ HB.out hv8 hm).mono ?_; rintro e w' ⟨rfl, rfl⟩; rw [HBT.out])
          go_round
          case rel => exact ⟨k + 1, by omega, by rw [← HV.out]; go_num, by rw [HC.out, if_neg (by rw [HBT.out]; simp)]; go_num⟩
          case measure => simp [intOf]; omega
      · obtain rfl : k = d := by omega
        obtain rfl : v = z := by rw [← HV.out, HZ.out]
        go_wp2_with fail
        go_ret2
        exact ⟨by rw [HCE.out]; rfl, rfl⟩
  · have hok : cntOk l i j = false := by unfold cntOk; rw [hlen]; simp; omega
    rw [show cntV l i j = 0 by unfold cntV; rw [if_neg (by rw [hok]; simp)], show cntE l i j = 80 by unfold cntE; rw [if_neg (by rw [hok]; simp)]]
    clear hok hlen hb
    by_cases h0 : i < 0
    · clear h
      go_enter Try.func13, Try.ntmps13
      go_wp2_with fail
      go_ret2
      exact ⟨rfl, rfl⟩
    · have h00 : 0 ≤ i := by omega
      by_cases h1 : 8 * (len : Int) < j
      · clear h
        go_enter Try.func13, Try.ntmps13
        go_wp2_with fail
        go_ret2
        exact ⟨rfl, rfl⟩
      · have h10 : j ≤ 8 * (len : Int) := by omega
        have h2 : j < i := by omega
        clear h
        go_enter Try.func13, Try.ntmps13
        go_wp2_with fail
        go_ret2
        exact ⟨rfl, rfl⟩
end Go.Proofs.Ytlpochabgdcidaa
