/-
  THE PLAIN LAW OF BITS IN BYTES: a bit, what setting one leaves, the lowest that is off, how many are on, the rows of those that are off.
-/
import Derived.Test.YtlpochabgdcidaaCrc
import Derived.WalkKit
set_option linter.unusedVariables false
set_option linter.unusedSimpArgs false
namespace Go.Proofs.Ytlpochabgdcidaa.Bt

/-- the bit at place k of a byte -/
def bit8 (b : UInt8) (k : Nat) : Bool := b.toNat / 2 ^ k % 2 == 1
/-- bit i of bytes -/
def bit (l : List UInt8) (i : Nat) : Bool := bit8 (l.getD (i / 8) 0) (i % 8)
/-- does l have a bit of that number? -/
def has (l : List UInt8) (i : Int) : Bool := decide (0 ≤ i) && decide (i < 8 * (l.length : Int))
theorem has_iff (l : List UInt8) (i : Int) : has l i = true ↔ 0 ≤ i ∧ i < 8 * (l.length : Int) := by simp [has]
def getV (l : List UInt8) (i : Int) : Bool := has l i && bit l i.toNat
def getE (l : List UInt8) (i : Int) : Int := if has l i = true then 0 else 80
/-- a byte with its bit at k set -/
def set8 (b : UInt8) (k : Nat) (on : Bool) : UInt8 := if bit8 b k = on then b else if on = true then UInt8.ofNat (b.toNat + 2 ^ k) else UInt8.ofNat (b.toNat - 2 ^ k)
def putL (l : List UInt8) (i : Int) (on : Bool) : List UInt8 := if has l i = true then l.set (i.toNat / 8) (set8 (l.getD (i.toNat / 8) 0) (i.toNat % 8) on) else l
theorem putL_length (l : List UInt8) (i : Int) (on : Bool) : (putL l i on).length = l.length := by unfold putL; split <;> simp
theorem set8_bit : ∀ (b : Fin 256) (k j : Fin 8) (on : Bool), bit8 (set8 (UInt8.ofNat b.val) k.val on) j.val = if j.val = k.val then on else bit8 (UInt8.ofNat b.val) j.val := by decide +kernel
theorem byte_eta (b : UInt8) : b = UInt8.ofNat (⟨b.toNat, b.toNat_lt⟩ : Fin 256).val := by simp
theorem set8_at (b : UInt8) (k j : Nat) (on : Bool) (hk : k < 8) (hj : j < 8) : bit8 (set8 b k on) j = if j = k then on else bit8 b j := by
  have := set8_bit ⟨b.toNat, b.toNat_lt⟩ ⟨k, hk⟩ ⟨j, hj⟩ on
  rw [← byte_eta] at this
  exact this
theorem put_bit (l : List UInt8) (i j : Nat) (on : Bool) (hi : i < 8 * l.length) : bit (putL l i on) j = if j = i then on else bit l j := by
  unfold putL
  rw [if_pos ((has_iff _ _).2 ⟨by omega, by omega⟩), Int.toNat_natCast]
  unfold bit
  by_cases h8 : j / 8 = i / 8
  · rw [h8, List.getD_eq_getElem?_getD, List.getElem?_set_self (by omega), Option.getD_some, set8_at _ _ _ _ (by omega) (by omega)]
    by_cases hj : j = i
    · rw [if_pos hj, if_pos (by rw [hj])]
    · rw [if_neg hj, if_neg (by omega)]
  · rw [if_neg (by intro h; exact h8 (by rw [h])), List.getD_eq_getElem?_getD, List.getElem?_set_ne (by omega), ← List.getD_eq_getElem?_getD]

/-- the lowest bit that is off, from i on -/
def IsLow (l : List UInt8) (i : Int) (r : Int) : Prop :=
  (r = -1 ∧ ∀ j : Nat, i ≤ j → j < 8 * l.length → bit l j = true) ∨ (∃ k : Nat, r = k ∧ i ≤ k ∧ k < 8 * l.length ∧ bit l k = false ∧ ∀ j : Nat, i ≤ j → j < k → bit l j = true)
theorem IsLow.eq {l : List UInt8} {i r s : Int} (h : IsLow l i r) (k : IsLow l i s) : r = s := by
  rcases h with ⟨rfl, h⟩ | ⟨a, rfl, h1, h2, h3, h4⟩ <;> rcases k with ⟨rfl, k⟩ | ⟨b, rfl, k1, k2, k3, k4⟩
  · rfl
  · rw [h b k1 k2] at k3; cases k3
  · rw [k a h1 h2] at h3; cases h3
  · rcases Nat.lt_trichotomy a b with hl | hl | hl
    · rw [k4 a h1 hl] at h3; cases h3
    · rw [hl]
    · rw [h4 b k1 hl] at k3; cases k3
/-- how many bits are on in the k from i on -/
def cnt (l : List UInt8) (i : Nat) : Nat → Nat
  | 0 => 0
  | k + 1 => cnt l i k + if bit l (i + k) = true then 1 else 0
theorem cnt_succ (l : List UInt8) (i k : Nat) : cnt l i (k + 1) = cnt l i k + if bit l (i + k) = true then 1 else 0 := rfl
theorem cnt_le (l : List UInt8) (i k : Nat) : cnt l i k ≤ k := by
  induction k with
  | zero => exact Nat.le_refl _
  | succ k ih => unfold cnt; split <;> omega
theorem cnt_add (l : List UInt8) (i a b : Nat) : cnt l i (a + b) = cnt l i a + cnt l (i + a) b := by
  induction b with
  | zero => rfl
  | succ b ih => rw [← Nat.add_assoc, cnt_succ, cnt_succ, ih, Nat.add_assoc i a b]; omega
theorem cnt_on (l : List UInt8) (i k : Nat) (h : ∀ j, i ≤ j → j < i + k → bit l j = true) : cnt l i k = k := by
  induction k with
  | zero => rfl
  | succ k ih => unfold cnt; rw [ih (fun j h1 h2 => h j h1 (by omega)), if_pos (h _ (by omega) (by omega))]
theorem cnt_off (l : List UInt8) (i k : Nat) (h : ∀ j, i ≤ j → j < i + k → bit l j = false) : cnt l i k = 0 := by
  induction k with
  | zero => rfl
  | succ k ih => unfold cnt; rw [ih (fun j h1 h2 => h j h1 (by omega)), if_neg (by rw [h _ (by omega) (by omega)]; simp)]
def cntOk (l : List UInt8) (i j : Int) : Bool := decide (0 ≤ i) && decide (j ≤ 8 * (l.length : Int)) && decide (i ≤ j)
def cntV (l : List UInt8) (i j : Int) : Nat := if cntOk l i j = true then cnt l i.toNat (j - i).toNat else 0
def cntE (l : List UInt8) (i j : Int) : Int := if cntOk l i j = true then 0 else 80

/- THE ROWS -/
/-- the last row grows by one -/
def bump : List (Nat × Nat) → List (Nat × Nat)
  | [] => []
  | [(a, n)] => [(a, n + 1)]
  | x :: r => x :: bump r
theorem bump_snoc (p : List (Nat × Nat)) (a n : Nat) : bump (p ++ [(a, n)]) = p ++ [(a, n + 1)] := by
  induction p with
  | nil => rfl
  | cons x r ih =>
    cases r with
    | nil => rfl
    | cons y r => show x :: bump (y :: r ++ [(a, n)]) = _; rw [ih]; rfl
/-- the rows of the first k bits -/
def rows (l : List UInt8) : Nat → List (Nat × Nat)
  | 0 => []
  | k + 1 => if bit l k = true then rows l k else if k ≠ 0 ∧ bit l (k - 1) = false then bump (rows l k) else rows l k ++ [(k, 1)]
theorem rows_on (l : List UInt8) (k : Nat) (h : bit l k = true) : rows l (k + 1) = rows l k := if_pos h
theorem rows_new (l : List UInt8) (k : Nat) (h : bit l k = false) (h1 : k = 0 ∨ bit l (k - 1) = true) : rows l (k + 1) = rows l k ++ [(k, 1)] := by
  show (if bit l k = true then _ else if k ≠ 0 ∧ bit l (k - 1) = false then _ else _) = _
  rw [if_neg (by rw [h]; simp), if_neg]
  rintro ⟨h2, h3⟩
  rcases h1 with h1 | h1
  · exact h2 h1
  · rw [h1] at h3; cases h3
theorem rows_more (l : List UInt8) (k : Nat) (h : bit l (k + 1) = false) (h1 : bit l k = false) : rows l (k + 2) = bump (rows l (k + 1)) := by
  show (if bit l (k + 1) = true then _ else if k + 1 ≠ 0 ∧ bit l (k + 1 - 1) = false then _ else _) = _
  rw [if_neg (by rw [h]; simp), if_pos ⟨by omega, h1⟩]
/-- bits that are on add no row -/
theorem rows_skip (l : List UInt8) (i d : Nat) (h : ∀ j, i ≤ j → j < i + d → bit l j = true) : rows l (i + d) = rows l i := by
  induction d with
  | zero => rfl
  | succ d ih => rw [← Nat.add_assoc, rows_on _ _ (h _ (by omega) (by omega)), ih (fun j h1 h2 => h j h1 (by omega))]
/-- bits that are off, from end to end, are one row more -/
theorem rows_row (l : List UInt8) (i d : Nat) (h0 : i = 0 ∨ bit l (i - 1) = true) (h : ∀ j, i ≤ j → j < i + (d + 1) → bit l j = false) : rows l (i + (d + 1)) = rows l i ++ [(i, d + 1)] := by
  induction d with
  | zero => exact rows_new l i (h i (by omega) (by omega)) h0
  | succ d ih =>
    have e := ih (fun j h1 h2 => h j h1 (by omega))
    rw [show i + (d + 1 + 1) = (i + d) + 2 by omega, rows_more l (i + d) (h _ (by omega) (by omega)) (h _ (by omega) (by omega)), show i + d + 1 = i + (d + 1) by omega, e, bump_snoc]
/-- all rows -/
def runs (l : List UInt8) : List (Nat × Nat) := rows l (8 * l.length)
theorem rows_length (l : List UInt8) (k : Nat) : (rows l k).length ≤ k := by
  induction k with
  | zero => exact Nat.le_refl _
  | succ k ih =>
    have hb : ∀ p : List (Nat × Nat), (bump p).length = p.length := by
      intro p
      induction p with
      | nil => rfl
      | cons x r ih => cases r with
        | nil => rfl
        | cons y r => show (bump (y :: r)).length + 1 = _; rw [ih]; rfl
    show (if bit l k = true then rows l k else if k ≠ 0 ∧ bit l (k - 1) = false then bump (rows l k) else rows l k ++ [(k, 1)]).length ≤ _
    split
    · omega
    · split
      · rw [hb]; omega
      · simp; omega
end Go.Proofs.Ytlpochabgdcidaa.Bt
