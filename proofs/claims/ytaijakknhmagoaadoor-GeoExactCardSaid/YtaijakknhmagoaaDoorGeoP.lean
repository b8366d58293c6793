/-
  THE PLAIN LAW OF THE SUPER BLOCK: the regions of a disk of n blocks, the bytes of its super block, what is read of bytes.
-/
import Derived.Test.YtaijakknhmagoaaDoorCrc
import Derived.Test.YtaijakknhmagoaaDoorRecP
set_option linter.unusedVariables false
set_option linter.unusedSimpArgs false
namespace Go.Proofs.YtaijakknhmagoaaDoor.Gp
open Rec

/-- where the table of inodes begins -/
def ino (n : Nat) : Nat := 98 + (n + 4095) / 4096
/-- where the data begins -/
def dat (n : Nat) : Nat := ino n + n / 64
/-- how many inodes -/
def cnt (n : Nat) : Nat := n / 64 * 8
/-- the mark -/
def mag : List UInt8 := [66, 79, 76, 69, 70, 83, 48, 49]
def head12 (n : Nat) : List UInt8 := mag ++ les n 4
/-- the check's number -/
def chk (n : Nat) : Nat := (Crc.crc (head12 n)).toNat
/-- so many zeros -/
def zs (k : Nat) : List UInt8 := List.replicate k 0
theorem zs_length (k : Nat) : (zs k).length = k := List.length_replicate ..
def superL (n : Nat) : List UInt8 := head12 n ++ les (chk n) 4 ++ zs 496
theorem head12_length (n : Nat) : (head12 n).length = 12 := by simp [head12, mag, les_length]
theorem superL_length (n : Nat) : (superL n).length = 512 := by unfold superL; rw [List.length_append, List.length_append, head12_length, les_length, zs_length]
theorem chk_lt (n : Nat) : chk n < 4294967296 := (Crc.crc (head12 n)).isLt
/-- the four bytes in which the number of blocks stands -/
def numOf (l : List UInt8) : Nat := le ((l.drop 8).take 4)
theorem numOf_lt (l : List UInt8) : numOf l < 4294967296 := by
  have h := le_lt ((l.drop 8).take 4)
  have h2 : ((l.drop 8).take 4).length ≤ 4 := List.length_take_le _ _
  exact Nat.lt_of_lt_of_le h (Nat.le_trans (Nat.pow_le_pow_right (by decide) h2) (by decide))
theorem superL_cut (n : Nat) : ((superL n).drop 8).take 4 = les n 4 := by
  have e : superL n = mag ++ (les n 4 ++ (les (chk n) 4 ++ zs 496)) := by unfold superL head12; rw [List.append_assoc, List.append_assoc]
  rw [e, show (8 : Nat) = mag.length from rfl, List.drop_left]
  have : (les n 4).length = 4 := les_length _ _
  rw [List.take_append_of_le_length (by omega), List.take_of_length_le (by omega)]
theorem numOf_super (n : Nat) (h : n < 4294967296) : numOf (superL n) = n := by
  unfold numOf; rw [superL_cut, le_les]; exact Nat.mod_eq_of_lt h
theorem superL_inj {n m : Nat} (hn : n < 4294967296) (hm : m < 4294967296) (h : superL n = superL m) : n = m := by
  rw [← numOf_super n hn, h, numOf_super m hm]
/-- may a disk have so many blocks? -/
def Disk (n : Int) : Prop := 128 ≤ n ∧ n ≤ 16384
instance (n : Int) : Decidable (Disk n) := by unfold Disk; infer_instance
/-- is it a super block? -/
def good (l : List UInt8) : Bool := decide (Disk (numOf l)) && decide (superL (numOf l) = l)
def readE (l : List UInt8) : Int := if l.length = 512 then (if good l = true then 0 else 71) else 32
def readV (l : List UInt8) : Nat := if l.length = 512 then (if good l = true then numOf l else 0) else 0
theorem good_super (n : Nat) (h : Disk n) : good (superL n) = true := by
  unfold good
  rw [numOf_super n (by unfold Disk at h; omega)]
  simp [h]
theorem read_super (n : Nat) (h : Disk n) : readE (superL n) = 0 ∧ readV (superL n) = n := by
  unfold readE readV
  rw [if_pos (superL_length n), if_pos (good_super n h), if_pos (superL_length n), if_pos (good_super n h)]
  exact ⟨rfl, numOf_super n (by unfold Disk at h; omega)⟩

/- ONE BYTE THAT IS ANOTHER ONE -/
theorem crc_one (a c : List UInt8) (x y : UInt8) (h : Crc.crc (a ++ [x] ++ c) = Crc.crc (a ++ [y] ++ c)) : x = y := by
  have h1 := Crc.crc_middle a [x] [y] c rfl
  rw [← h] at h1
  have h2 : Crc.zeros c.length (Crc.crc [x] ^^^ Crc.crc [y]) = 0#32 := by
    generalize Crc.zeros c.length (Crc.crc [x] ^^^ Crc.crc [y]) = z at h1
    generalize Crc.crc (a ++ [x] ++ c) = A at h1
    have : A ^^^ (A ^^^ z) = A ^^^ A := by rw [h1]
    rw [← BitVec.xor_assoc, BitVec.xor_self, BitVec.zero_xor] at this
    exact this
  have h3 := Crc.ones_inj0 _ _ h2
  rw [Crc.crc_diff [x] [y] rfl] at h3
  have h4 : Crc.step 0#32 (x ^^^ y) = 0#32 := h3
  have h5 := Crc.ones_inj0 _ _ (show Crc.ones 8 (0#32 ^^^ (x ^^^ y).toBitVec.setWidth 32) = 0#32 from h4)
  rw [BitVec.zero_xor] at h5
  have h6 : (x ^^^ y).toBitVec.toNat = 0 := by
    have := congrArg BitVec.toNat h5
    rw [BitVec.toNat_setWidth] at this
    have hl := (x ^^^ y).toBitVec.isLt
    rw [show (0#32).toNat = 0 from rfl] at this
    generalize (x ^^^ y).toBitVec.toNat = t at this hl ⊢
    omega
  have h7 : x ^^^ y = 0 := by
    apply UInt8.toNat_inj.1
    exact h6
  have h8 : x ^^^ y ^^^ y = 0 ^^^ y := by rw [h7]
  rw [UInt8.xor_assoc, UInt8.xor_self, UInt8.xor_zero, UInt8.zero_xor] at h8
  exact h8
/-- lists of one length that agree but at one place -/
theorem one_place {l m : List UInt8} {k : Nat} (hl : l.length = m.length) (hk : k < l.length) (h : ∀ j, j ≠ k → l[j]? = m[j]?) : l = l.take k ++ [l[k]] ++ l.drop (k + 1) ∧ m = l.take k ++ [m[k]'(by omega)] ++ l.drop (k + 1) := by
  constructor
  · rw [List.append_assoc]; simp
  · apply List.ext_getElem?
    intro j
    rcases Nat.lt_trichotomy j k with hj | hj | hj
    · rw [← h j (by omega), List.append_assoc, List.getElem?_append_left (by simp; omega), List.getElem?_take, if_pos hj]
    · subst hj
      rw [List.append_assoc, List.getElem?_append_right (by simp; omega)]
      simp [Nat.min_eq_left (Nat.le_of_lt hk), List.getElem?_eq_getElem (show j < m.length by omega)]
    · rw [← h j (by omega), List.getElem?_append_right (by simp; omega)]
      simp
      congr 1
      omega
theorem turned_bad (n : Nat) (hn : Disk n) (at_ : Nat) (ha : at_ < 512) (x : UInt8) (hx : (superL n)[at_]'(by rw [superL_length]; exact ha) ≠ x) : good ((superL n).set at_ x) = false := by
  have hal : at_ < (superL n).length := by rw [superL_length]; exact ha
  obtain ⟨l, hl⟩ : ∃ l, (superL n).set at_ x = l := ⟨_, rfl⟩
  have hdiff : ∀ j, j ≠ at_ → l[j]? = (superL n)[j]? := fun j hj => by rw [← hl, List.getElem?_set_ne (by omega)]
  have hat : l[at_]? = some x := by rw [← hl]; simp [hal]
  rw [hl]
  cases hg : good l with
  | false => rfl
  | true =>
    exfalso
    unfold good at hg
    simp only [Bool.and_eq_true, decide_eq_true_eq] at hg
    obtain ⟨hd, he⟩ := hg
    have hm32 := numOf_lt l
    have hn32 : n < 4294967296 := by unfold Disk at hn; omega
    generalize numOf l = m at hd he hm32
    by_cases hmn : m = n
    · subst hmn
      have : (superL m)[at_]? = some x := by rw [he]; exact hat
      rw [List.getElem?_eq_getElem hal] at this
      exact hx (Option.some.inj this)
    · -- the two differ at a place of the number
      have hagree : ∀ j, j ≠ at_ → (superL m)[j]? = (superL n)[j]? := fun j hj => by rw [he]; exact hdiff j hj
      have hne : ¬ (8 ≤ at_ ∧ at_ < 12) → False := fun hout => hmn (by
        have hcut : ((superL m).drop 8).take 4 = ((superL n).drop 8).take 4 := by
          apply List.ext_getElem?
          intro j
          by_cases hj : j < 4
          · rw [List.getElem?_take, if_pos hj, List.getElem?_take, if_pos hj, List.getElem?_drop, List.getElem?_drop]
            exact hagree _ (by omega)
          · rw [List.getElem?_take, if_neg hj, List.getElem?_take, if_neg hj]
        rw [← numOf_super m hm32, ← numOf_super n hn32]
        unfold numOf; rw [hcut])
      have hin : 8 ≤ at_ ∧ at_ < 12 := by
        rcases Decidable.em (8 ≤ at_ ∧ at_ < 12) with h | h
        · exact h
        · exact (hne h).elim
      have htk : ∀ q, (superL q).take 12 = head12 q := fun q => by
        unfold superL
        rw [List.append_assoc, List.take_append_of_le_length (by rw [head12_length]; exact Nat.le_refl _), List.take_of_length_le (by rw [head12_length]; exact Nat.le_refl _)]
      have hck : ∀ q, ((superL q).drop 12).take 4 = les (chk q) 4 := fun q => by
        unfold superL
        rw [List.append_assoc, show (12 : Nat) = (head12 q).length from (head12_length q).symm, List.drop_left]
        have : (les (chk q) 4).length = 4 := les_length _ _
        rw [List.take_append_of_le_length (by omega), List.take_of_length_le (by omega)]
      have hchk : chk m = chk n := by
        have hcut : ((superL m).drop 12).take 4 = ((superL n).drop 12).take 4 := by
          apply List.ext_getElem?
          intro j
          by_cases hj : j < 4
          · rw [List.getElem?_take, if_pos hj, List.getElem?_take, if_pos hj, List.getElem?_drop, List.getElem?_drop]
            exact hagree _ (by omega)
          · rw [List.getElem?_take, if_neg hj, List.getElem?_take, if_neg hj]
        rw [hck, hck] at hcut
        have := congrArg le hcut
        rw [le_les, le_les, Nat.mod_eq_of_lt (by have := chk_lt m; omega), Nat.mod_eq_of_lt (by have := chk_lt n; omega)] at this
        exact this
      have hcrc : Crc.crc (head12 m) = Crc.crc (head12 n) := BitVec.eq_of_toNat_eq hchk
      have hh : ∀ j, j ≠ at_ → (head12 m)[j]? = (head12 n)[j]? := fun j hj => by
        by_cases h12 : j < 12
        · have h := hagree j hj
          rw [← htk m, ← htk n, List.getElem?_take, if_pos h12, List.getElem?_take, if_pos h12]
          exact h
        · rw [List.getElem?_eq_none (by rw [head12_length]; omega), List.getElem?_eq_none (by rw [head12_length]; omega)]
      obtain ⟨e1, e2⟩ := one_place (l := head12 m) (m := head12 n) (k := at_) (by rw [head12_length, head12_length]) (by rw [head12_length]; exact hin.2) hh
      have hsame : head12 m = head12 n := by
        have h := hcrc
        rw [e1, e2] at h
        have hxy := crc_one _ _ _ _ h
        rw [e1]
        conv => rhs; rw [e2]
        rw [hxy]
      have : les m 4 = les n 4 := List.append_cancel_left hsame
      have := congrArg le this
      rw [le_les, le_les, Nat.mod_eq_of_lt (by omega), Nat.mod_eq_of_lt (by omega)] at this
      exact hmn this
end Go.Proofs.YtaijakknhmagoaaDoor.Gp
