/-
  PLAIN LAW: bits of a row of bytes that are turned over, within 32 that follow one another: the sum tells.
-/
import Derived.Test.YtjglffejoflpoaaDoorCrc
set_option linter.unusedVariables false
set_option linter.unusedSimpArgs false
namespace Go.Proofs.YtjglffejoflpoaaDoor.Crc

/-- a byte with its bit k turned over -/
def turn8 (b : UInt8) (k : Nat) : UInt8 := ⟨b.toBitVec ^^^ (1#8 <<< k)⟩
/-- the bit j of a row -/
def bitOf (l : List UInt8) (j : Nat) : Bool := (l.getD (j / 8) 0).toBitVec.getLsbD (j % 8)
/-- a row with its bit k turned over -/
def turnBit (l : List UInt8) (k : Nat) : List UInt8 := l.set (k / 8) (turn8 (l.getD (k / 8) 0) (k % 8))

theorem turnBit_length (l : List UInt8) (k : Nat) : (turnBit l k).length = l.length := by simp [turnBit]

theorem turn8_bit (b : UInt8) (k j : Nat) (hk : k < 8) (hj : j < 8) : (turn8 b k).toBitVec.getLsbD j = (b.toBitVec.getLsbD j ^^ decide (j = k)) := by
  unfold turn8
  simp only [BitVec.getLsbD_xor]
  congr 1
  rw [← BitVec.twoPow_eq, BitVec.getLsbD_twoPow]
  by_cases h : k = j
  · subst h; simp [hk]
  · simp [h]; exact fun e => h e.symm

theorem turnBit_bit (l : List UInt8) (k j : Nat) (hk : k < 8 * l.length) : bitOf (turnBit l k) j = (bitOf l j ^^ decide (j = k)) := by
  unfold bitOf turnBit
  rw [List.getD_eq_getElem?_getD, List.getElem?_set]
  by_cases h : k / 8 = j / 8
  · rw [if_pos h, if_pos (by omega)]
    simp only [Option.getD_some]
    rw [turn8_bit _ _ _ (Nat.mod_lt _ (by decide)) (Nat.mod_lt _ (by decide)), h]
    congr 1
    by_cases e : j = k
    · subst e; simp
    · have : j % 8 ≠ k % 8 := by omega
      simp [e, this]
  · rw [if_neg h, ← List.getD_eq_getElem?_getD]
    have : j ≠ k := fun e => h (by rw [e])
    simp [this]

/-- what the loop of the statement has done behind i rounds -/
def bursts (l : List UInt8) (at_ : Nat) (mask : BitVec 32) : Nat → List UInt8
  | 0 => l
  | i + 1 => if at_ + i < 8 * l.length ∧ bit mask i = true then turnBit (bursts l at_ mask i) (at_ + i) else bursts l at_ mask i
/-- has it turned one? -/
def burstAny (l : List UInt8) (at_ : Nat) (mask : BitVec 32) : Nat → Bool
  | 0 => false
  | i + 1 => if at_ + i < 8 * l.length ∧ bit mask i = true then true else burstAny l at_ mask i

theorem bursts_yes (l : List UInt8) (at_ : Nat) (mask : BitVec 32) (i : Nat) (h : at_ + i < 8 * l.length) (hb : bit mask i = true) : bursts l at_ mask (i + 1) = turnBit (bursts l at_ mask i) (at_ + i) := if_pos ⟨h, hb⟩
theorem bursts_no (l : List UInt8) (at_ : Nat) (mask : BitVec 32) (i : Nat) (h : ¬ (at_ + i < 8 * l.length ∧ bit mask i = true)) : bursts l at_ mask (i + 1) = bursts l at_ mask i := if_neg h
theorem burstAny_yes (l : List UInt8) (at_ : Nat) (mask : BitVec 32) (i : Nat) (h : at_ + i < 8 * l.length) (hb : bit mask i = true) : burstAny l at_ mask (i + 1) = true := if_pos ⟨h, hb⟩
theorem burstAny_no (l : List UInt8) (at_ : Nat) (mask : BitVec 32) (i : Nat) (h : ¬ (at_ + i < 8 * l.length ∧ bit mask i = true)) : burstAny l at_ mask (i + 1) = burstAny l at_ mask i := if_neg h

theorem bursts_length (l : List UInt8) (at_ : Nat) (mask : BitVec 32) (i : Nat) : (bursts l at_ mask i).length = l.length := by
  induction i with
  | zero => rfl
  | succ i ih =>
    unfold bursts
    split
    · rw [turnBit_length, ih]
    · exact ih

theorem bursts_bit (l : List UInt8) (at_ : Nat) (mask : BitVec 32) (i j : Nat) :
    bitOf (bursts l at_ mask i) j = (bitOf l j ^^ (decide (at_ ≤ j ∧ j < at_ + i ∧ j < 8 * l.length) && bit mask (j - at_))) := by
  induction i with
  | zero =>
    have : ¬ (at_ ≤ j ∧ j < at_ + 0 ∧ j < 8 * l.length) := by omega
    rw [decide_eq_false this]; simp [bursts]
  | succ i ih =>
    by_cases h : at_ + i < 8 * l.length ∧ bit mask i = true
    · rw [bursts_yes l at_ mask i h.1 h.2, turnBit_bit _ _ _ (by rw [bursts_length]; exact h.1), ih]
      by_cases e : j = at_ + i
      · subst e
        have h1 : ¬ (at_ ≤ at_ + i ∧ at_ + i < at_ + i ∧ at_ + i < 8 * l.length) := by omega
        have h2 : at_ ≤ at_ + i ∧ at_ + i < at_ + (i + 1) ∧ at_ + i < 8 * l.length := ⟨by omega, by omega, h.1⟩
        rw [Nat.add_sub_cancel_left, h.2]
        simp only [decide_eq_true h2, decide_eq_false h1]
        simp
      · have h1 : (at_ ≤ j ∧ j < at_ + i ∧ j < 8 * l.length) ↔ (at_ ≤ j ∧ j < at_ + (i + 1) ∧ j < 8 * l.length) := by omega
        simp only [h1, e]
        simp
    · rw [bursts_no l at_ mask i h, ih]
      by_cases e : j = at_ + i
      · subst e
        have h1 : ¬ (at_ ≤ at_ + i ∧ at_ + i < at_ + i ∧ at_ + i < 8 * l.length) := by omega
        rw [Nat.add_sub_cancel_left]
        simp only [decide_eq_false h1]
        by_cases h2 : at_ + i < 8 * l.length
        · have : bit mask i = false := by
            cases hb : bit mask i with
            | false => rfl
            | true => exact absurd ⟨h2, hb⟩ h
          simp [this]
        · have h3 : ¬ (at_ ≤ at_ + i ∧ at_ + i < at_ + (i + 1) ∧ at_ + i < 8 * l.length) := by omega
          simp only [decide_eq_false h3]
      · have h1 : (at_ ≤ j ∧ j < at_ + i ∧ j < 8 * l.length) ↔ (at_ ≤ j ∧ j < at_ + (i + 1) ∧ j < 8 * l.length) := by omega
        simp only [h1]

theorem burstAny_iff (l : List UInt8) (at_ : Nat) (mask : BitVec 32) (i : Nat) : burstAny l at_ mask i = true ↔ ∃ k, k < i ∧ at_ + k < 8 * l.length ∧ bit mask k = true := by
  induction i with
  | zero => simp [burstAny]
  | succ i ih =>
    by_cases h : at_ + i < 8 * l.length ∧ bit mask i = true
    · rw [burstAny_yes l at_ mask i h.1 h.2]
      exact ⟨fun _ => ⟨i, by omega, h.1, h.2⟩, fun _ => rfl⟩
    · rw [burstAny_no l at_ mask i h, ih]
      constructor
      · rintro ⟨k, hk, h1, h2⟩; exact ⟨k, by omega, h1, h2⟩
      · rintro ⟨k, hk, h1, h2⟩
        refine ⟨k, ?_, h1, h2⟩
        rcases Nat.lt_or_ge k i with h3 | h3
        · exact h3
        · have : k = i := by omega
          subst this
          exact absurd ⟨h1, h2⟩ h

theorem bursts_same (l : List UInt8) (at_ : Nat) (mask : BitVec 32) (i : Nat) (h : burstAny l at_ mask i = false) : bursts l at_ mask i = l := by
  induction i with
  | zero => rfl
  | succ i ih =>
    by_cases hc : at_ + i < 8 * l.length ∧ bit mask i = true
    · rw [burstAny_yes l at_ mask i hc.1 hc.2] at h; cases h
    · rw [burstAny_no l at_ mask i hc] at h
      rw [bursts_no l at_ mask i hc, ih h]

/- the bits of a row, one by one -/
theorem bits_getD (l : List UInt8) (j : Nat) : (l.flatMap bitsOf).getD j false = bitOf l j := by
  induction l generalizing j with
  | nil => simp [bitOf]
  | cons b l ih =>
    have h8 : (bitsOf b).length = 8 := by simp [bitsOf]
    rw [List.flatMap_cons, List.getD_eq_getElem?_getD]
    by_cases hj : j < 8
    · rw [List.getElem?_append_left (by omega)]
      have e1 : j / 8 = 0 := by omega
      have e2 : j % 8 = j := by omega
      simp [bitOf, e1, e2, bitsOf, hj]
    · rw [List.getElem?_append_right (by omega), h8, ← List.getD_eq_getElem?_getD, ih]
      unfold bitOf
      have e1 : j / 8 = (j - 8) / 8 + 1 := by omega
      have e2 : j % 8 = (j - 8) % 8 := by omega
      rw [e1, e2]
      simp

theorem diff_length (l m : List UInt8) (h : l.length = m.length) : (diff l m).length = l.length := by
  induction l generalizing m with
  | nil => cases m <;> rfl
  | cons a l ih => cases m with
    | nil => simp at h
    | cons b m => simp only [List.length_cons, Nat.add_right_cancel_iff] at h; simp [diff, ih m h]
theorem diff_getD (l m : List UInt8) (h : l.length = m.length) (k : Nat) : (diff l m).getD k 0 = l.getD k 0 ^^^ m.getD k 0 := by
  induction l generalizing m k with
  | nil => cases m with
    | nil => simp [diff]
    | cons b m => simp at h
  | cons a l ih => cases m with
    | nil => simp at h
    | cons b m =>
      simp only [List.length_cons, Nat.add_right_cancel_iff] at h
      cases k with
      | zero => simp [diff]
      | succ k => have := ih m h k; simpa [diff] using this
theorem diff_bit (l m : List UInt8) (h : l.length = m.length) (j : Nat) : bitOf (diff l m) j = (bitOf l j ^^ bitOf m j) := by
  unfold bitOf
  rw [diff_getD l m h]
  simp

/-- P1.6 as the statement asks it -/
theorem burst_told (l : List UInt8) (at_ : Nat) (mask : BitVec 32) : (crc (bursts l at_ mask 32) = crc l) ↔ burstAny l at_ mask 32 = false := by
  constructor
  · intro h
    have hd := crc_diff (bursts l at_ mask 32) l (bursts_length _ _ _ _)
    rw [h, BitVec.xor_self, row_bits] at hd
    have hb : ∀ j, ((diff (bursts l at_ mask 32) l).flatMap bitsOf).getD j false = (decide (at_ ≤ j ∧ j < at_ + 32 ∧ j < 8 * l.length) && bit mask (j - at_)) := by
      intro j
      rw [bits_getD, diff_bit _ _ (bursts_length _ _ _ _), bursts_bit]
      cases bitOf l j <;> simp
    have hz := burst _ at_ (fun i hi => by
      rw [hb] at hi
      simp at hi
      exact ⟨hi.1.1, hi.1.2.1⟩) hd.symm
    cases hc : burstAny l at_ mask 32 with
    | false => rfl
    | true =>
      obtain ⟨k, hk, h1, h2⟩ := (burstAny_iff _ _ _ _).1 hc
      have := hz (at_ + k)
      rw [hb, Nat.add_sub_cancel_left, h2] at this
      simp at this
      omega
  · intro h; rw [bursts_same l at_ mask 32 h]
end Go.Proofs.YtjglffejoflpoaaDoor.Crc
