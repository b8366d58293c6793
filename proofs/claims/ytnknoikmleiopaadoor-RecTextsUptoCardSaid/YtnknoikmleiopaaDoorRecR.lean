/-
  THE WALKS OF THE DOCUMENT'S OWN ANSWER (boleref02).
-/
import Derived.Test.YtnknoikmleiopaaDoorRecW
import Derived.Test.YtnknoikmleiopaaDoorRow3
set_option linter.unusedVariables false
set_option linter.unusedSimpArgs false
namespace Go.Proofs.YtnknoikmleiopaaDoor
open Go.RowKit Rec

theorem ref_lie_any (len : Nat) (at_ n : Int) (w : World) (hl : len ≤ 140737488355328) (h0 : -9223372036854775808 ≤ at_) (h1 : at_ ≤ 9223372036854775807) (hn : 0 ≤ n) :
    Calls Tryd.prog 24 #[.int .i64 (len : Int), .int .i64 at_, .int .i64 n] w fun e w' => e = .returned (.bool (lies len at_ n)) ∧ w = w' := by
  by_cases a0 : 0 ≤ at_
  · by_cases a2 : at_ ≤ (len : Int)
    · by_cases a3 : n ≤ (len : Int) - at_
      · have e : lies len at_ n = true := by simp [lies]; omega
        rw [e]
        clear e
        go_enter Tryd.func24, Tryd.ntmps24
        go_wp2_with fail
        go_ret
        exact ⟨rfl, rfl⟩
      · have e : lies len at_ n = false := by simp [lies]; omega
        rw [e]
        clear e
        go_enter Tryd.func24, Tryd.ntmps24
        go_wp2_with fail
        go_ret
        exact ⟨rfl, rfl⟩
    · have e : lies len at_ n = false := by simp [lies]; omega
      rw [e]
      clear e
      go_enter Tryd.func24, Tryd.ntmps24
      go_wp2_with fail
      go_ret
      exact ⟨rfl, rfl⟩
  · have e : lies len at_ n = false := by simp [lies]; omega
    rw [e]
    clear e
    go_enter Tryd.func24, Tryd.ntmps24
    go_wp2_with fail
    go_ret
    exact ⟨rfl, rfl⟩

theorem ref_width_any (n : Int) (w : World) :
    Calls Tryd.prog 26 #[.int .i64 n] w fun e w' => e = .returned (.bool (isW n)) ∧ w = w' := by
  by_cases a1 : n = 1
  · subst a1
    go_enter Tryd.func26, Tryd.ntmps26
    go_wp2_with fail
    go_ret
    exact ⟨rfl, rfl⟩
  by_cases a2 : n = 2
  · subst a2
    go_enter Tryd.func26, Tryd.ntmps26
    go_wp2_with fail
    go_ret
    exact ⟨rfl, rfl⟩
  by_cases a3 : n = 4
  · subst a3
    go_enter Tryd.func26, Tryd.ntmps26
    go_wp2_with fail
    go_ret
    exact ⟨rfl, rfl⟩
  have b1 : (n == 1) = false := by simpa using a1
  have b2 : (n == 2) = false := by simpa using a2
  have b3 : (n == 4) = false := by simpa using a3
  have e : isW n = (n == 8) := by unfold isW; rw [b1, b2, b3]; rfl
  rw [e]
  clear e a1 a2 a3
  go_enter Tryd.func26, Tryd.ntmps26
  go_wp2_with fail
  go_ret
  exact ⟨rfl, rfl⟩

def p256 (k : Nat) : Nat := 256 ^ k
theorem p256_lt (k : Nat) (hk : k ≤ 7) : p256 k ≤ 72057594037927936 := Nat.le_trans (Nat.pow_le_pow_right (by decide) hk) (by decide)
theorem p256_succ (k : Nat) : p256 (k + 1) = p256 k * 256 := Nat.pow_succ ..
theorem p256_pos (k : Nat) : 0 < p256 k := Nat.pow_pos (by decide)
theorem power_any (k : Nat) (hk : k ≤ 7) (w : World) :
    Calls Tryd.prog 27 #[.int .i64 (k : Int)] w fun e w' => e = .returned (.int .u64 (p256 k : Int)) ∧ w = w' := by
  go_enter Tryd.func27, Tryd.ntmps27
  go_wp2_with fail
  go_loop [3, 4] (fun v i => ∃ j : Nat, j ≤ k ∧ i = .int .i64 j ∧ v = .int .u64 (p256 j : Int)) (fun _ i => k - (intOf i).toNat)
  case atStart => exact ⟨0, Nat.zero_le _, rfl, rfl⟩
  case round =>
    obtain ⟨j, hj, rfl, rfl⟩ := hrel
    by_cases hlt : j < k
    · have hp := p256_lt (j + 1) (by omega)
      have hmul : IntKind.u64.wrap ((p256 j : Int) * 256) = (p256 (j + 1) : Int) := by
        rw [p256_succ] at hp ⊢
        rw [IntWalk.u64_in _ (by omega)]; omega
      clear hp
      go_wp2_with fail
      go_round
      case rel => exact ⟨j + 1, by omega, by go_num, rfl⟩
      case measure => simp [intOf]; omega
    · go_wp2_with fail
      go_ret
      obtain rfl : j = k := by omega
      exact ⟨rfl, rfl⟩

/-- has a number that width? -/
def has (v : Nat) (n : Int) : Bool := !decide (n < 8 ∧ v / 2 ^ (8 * n.toNat) ≠ 0)
theorem has_lt (v n : Nat) (hn : n < 8) : has v n = decide (v < p256 n) := by
  unfold has p256
  rw [show (256 : Nat) ^ n = 2 ^ (8 * n) by rw [Nat.pow_mul], Int.toNat_natCast]
  have hp : 0 < 2 ^ (8 * n) := Nat.pow_pos (by decide)
  by_cases h : v < 2 ^ (8 * n)
  · rw [Nat.div_eq_of_lt h]; simp [h]
  · have : 0 < v / 2 ^ (8 * n) := Nat.div_pos (by omega) hp
    have h2 : v / 2 ^ (8 * n) ≠ 0 := by omega
    rw [decide_eq_true (show ((n : Int) < 8 ∧ v / 2 ^ (8 * n) ≠ 0) from ⟨by omega, h2⟩)]
    simp [h]
theorem has_any (v : Nat) (n : Nat) (hn : n ≤ 8) (w : World) :
    Calls Tryd.prog 28 #[.int .u64 (v : Int), .int .i64 (n : Int)] w fun e w' => e = .returned (.bool (has v n)) ∧ w = w' := by
  by_cases h8 : n = 8
  · subst h8
    have e : has v 8 = true := by simp [has]
    rw [show (((8 : Nat) : Int)) = 8 from rfl, e]
    clear e
    go_enter Tryd.func28, Tryd.ntmps28
    go_wp2_with fail
    go_ret
    exact ⟨rfl, rfl⟩
  · have e := has_lt v n (by omega)
    have hb : ((n : Int) == 8) = false := by simp; omega
    rw [e]
    clear e
    go_enter Tryd.func28, Tryd.ntmps28
    go_wp2_with (go_at_call 27; refine (power_any n (by omega) _).mono ?_; rintro e w' ⟨rfl, rfl⟩)
    go_ret
    exact ⟨rfl, rfl⟩

theorem part_at (l : List UInt8) (a m j : Nat) (h : a + m ≤ l.length) (hj : j < (Rec.part l a m).length) : (Rec.part l a m)[j] = l[a + j]'(by rw [part_length l a m h] at hj; omega) := by
  unfold Rec.part
  simp

set_option maxHeartbeats 800000 in
theorem ref_zero_any (A : Option Addr) (cap : Nat) (l : List UInt8) (at_ n : Int) (w : World) (hl : Bytes w A l) (hm : l.length ≤ 140737488355328) (h0 : -9223372036854775808 ≤ at_) (h1 : at_ ≤ 9223372036854775807) :
    Calls Tryd.prog 20 #[.slice A l.length cap, .int .i64 at_, .int .i64 n] w fun e w' => e = .returned (.tuple #[.bool (zeroV l at_ n), .int .i64 (zeroE l.length at_ n)]) ∧ w = w' := by
  unfold zeroV zeroE
  by_cases hn : n < 0
  · rw [if_pos hn, if_pos hn]
    go_enter Tryd.func20, Tryd.ntmps20
    go_wp2_with fail
    go_ret2
    exact ⟨rfl, rfl⟩
  · rw [if_neg hn, if_neg hn]
    have li := ref_lie_any l.length at_ n w hm h0 h1 (by omega)
    cases hL : lies l.length at_ n
    · rw [hL] at li
      have LI := Lib.hid li
      clear li
      go_enter Tryd.func20, Tryd.ntmps20
      go_wp2_with (go_at_call 24; refine LI.out.mono ?_; rintro e w' ⟨rfl, rfl⟩)
      go_ret2
      exact ⟨rfl, rfl⟩
    · rw [hL] at li
      have LI := Lib.hid li
      clear li
      have hl9 : 0 ≤ at_ ∧ 0 ≤ n ∧ at_ + n ≤ l.length := of_decide_eq_true hL
      obtain ⟨a, rfl⟩ := Int.eq_ofNat_of_zero_le hl9.1
      obtain ⟨m, rfl⟩ := Int.eq_ofNat_of_zero_le hl9.2.1
      have ham : a + m ≤ l.length := by omega
      have hpl := part_length l a m ham
      clear hl9 h0 h1 hn
      go_enter Tryd.func20, Tryd.ntmps20
      go_wp2_with (go_at_call 24; refine LI.out.mono ?_; rintro e w' ⟨rfl, rfl⟩)
      go_loop [8] (fun i => ∃ k : Nat, k ≤ m ∧ i = .int .i64 k ∧ ∀ j (hj : j < k) (hj2 : j < (Rec.part l a m).length), (Rec.part l a m)[j] = 0) (fun i => m - (intOf i).toNat)
      case atStart => exact ⟨0, Nat.zero_le _, rfl, fun j hj => by omega⟩
      case round =>
        obtain ⟨k, hk, rfl, hno⟩ := hrel
        have HN := Lib.hid hno
        clear hno
        by_cases hlt : k < m
        · obtain ⟨b, off, rfl, hc⟩ := hl.at_ (k := a + k) (by omega)
          have hpa := part_at l a m k ham (by omega)
          by_cases hz : l[a + k] = 0
          · have hb := n8_zero' _ hz
            have HZ := Lib.hid (hpa.trans hz)
            clear hz hpa
            go_wp2_with fail
            go_round
            case rel =>
              refine ⟨k + 1, by omega, by go_num, fun j hj hj2 => ?_⟩
              by_cases e : j = k
              · subst e; exact HZ.out
              · exact HN.out j (by omega) hj2
            case measure => simp [intOf]; omega
          · have hb := n8_some' _ hz
            have HZ := Lib.hid (show (Rec.part l a m)[k]'(by omega) ≠ 0 from fun e => hz (hpa.symm.trans e))
            clear hz hpa
            go_wp2_with fail
            go_ret2
            exact ⟨by rw [zeros_not (Rec.part l a m) k (by omega) HZ.out]; rfl, rfl⟩
        · go_wp2_with fail
          go_ret2
          exact ⟨by rw [zeros_all (Rec.part l a m) (fun j hj => HN.out j (by omega) hj)]; rfl, rfl⟩
end Go.Proofs.YtnknoikmleiopaaDoor
