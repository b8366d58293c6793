/-
  WORDS OF 32 BITS AS THE WALK SPELLS THEM: the operations on numbers of the kind u32, on words (BitVec 32) and bytes (UInt8), behind names that the walk does not take apart.
-/
import Derived.Test.YtimddchgmocdaaaDoorCrc
import Derived.WalkKit
set_option linter.unusedVariables false
set_option linter.unusedSimpArgs false
namespace Go.Proofs.YtimddchgmocdaaaDoor

/-- a word's number -/
def n32 (v : BitVec 32) : Int := (v.toNat : Int)
/-- a byte's number -/
def n8 (b : UInt8) : Int := (b.toNat : Int)

theorem n32_lo (v : BitVec 32) : 0 ≤ n32 v := by unfold n32; omega
theorem n32_hi (v : BitVec 32) : n32 v < 4294967296 := by have := v.isLt; unfold n32; omega
theorem i64_and1 (q : Nat) (h : q < 9223372036854775808) : bits .and .i64 (q : Int) 1 = ((q % 2 : Nat) : Int) := by
  have := bits_mask .i64 63 (by decide) (fun n h0 h1 => IntWalk.i64_in n (by omega)) 1 (by decide) (q : Int) (by omega) (by omega)
  simpa using this
theorem n8_lo (v : UInt8) : 0 ≤ n8 v := by unfold n8; omega
theorem n8_hi (v : UInt8) : n8 v < 256 := by have := v.toNat_lt; unfold n8; omega
theorem n32_inj {a b : BitVec 32} (h : n32 a = n32 b) : a = b := by
  unfold n32 at h; exact BitVec.eq_of_toNat_eq (by omega)
theorem n8_inj {a b : UInt8} (h : n8 a = n8 b) : a = b := by
  unfold n8 at h; exact UInt8.toNat_inj.1 (by omega)
theorem n32_beq (a b : BitVec 32) : (n32 a == n32 b) = decide (a = b) := by
  by_cases h : a = b
  · subst h; simp
  · simp [h]; exact fun e => h (n32_inj e)
theorem n32_bne (a b : BitVec 32) : (n32 a != n32 b) = !decide (a = b) := by rw [bne, n32_beq]
theorem n8_beq (a b : UInt8) : (n8 a == n8 b) = decide (a = b) := by
  by_cases h : a = b
  · subst h; simp
  · simp [h]; exact fun e => h (n8_inj e)
theorem n8_bne (a b : UInt8) : (n8 a != n8 b) = !decide (a = b) := by rw [bne, n8_beq]
theorem n32_of (n : Int) (h0 : 0 ≤ n) (h1 : n < 4294967296) : n = n32 (BitVec.ofInt 32 n) := by
  obtain ⟨m, rfl⟩ := Int.eq_ofNat_of_zero_le h0
  unfold n32
  rw [BitVec.ofInt_natCast, BitVec.toNat_ofNat]
  omega
theorem n8_of (n : Int) (h0 : 0 ≤ n) (h1 : n < 256) : n = n8 (UInt8.ofNat n.toNat) := by
  obtain ⟨m, rfl⟩ := Int.eq_ofNat_of_zero_le h0
  unfold n8
  rw [Int.toNat_natCast, UInt8.toNat_ofNat']
  omega

theorem ofInt32 (a : BitVec 32) : BitVec.ofInt 32 (n32 a) = a := by
  unfold n32; rw [BitVec.ofInt_natCast, BitVec.ofNat_toNat, BitVec.setWidth_eq]
theorem ofInt32_byte (b : UInt8) : BitVec.ofInt 32 (n8 b) = b.toBitVec.setWidth 32 := by
  unfold n8; rw [BitVec.ofInt_natCast]; apply BitVec.eq_of_toNat_eq; simp
theorem wrap32_nat (a : BitVec 32) : IntKind.u32.wrap (a.toNat : Int) = n32 a := by
  have := a.isLt
  exact IntWalk.u32_in _ (by omega)
theorem u32_wrap32 (a : BitVec 32) : IntKind.u32.wrap (n32 a) = n32 a := wrap32_nat a
theorem u32_wrap8 (a : UInt8) : IntKind.u32.wrap (n8 a) = n8 a := IntWalk.u32_in _ (by have := n8_lo a; have := n8_hi a; omega)

theorem u32_xor (a b : BitVec 32) : bits .xor .u32 (n32 a) (n32 b) = n32 (a ^^^ b) := by
  show IntKind.u32.wrap ((BitVec.ofInt 32 (n32 a) ^^^ BitVec.ofInt 32 (n32 b)).toNat : Int) = _
  rw [ofInt32, ofInt32, wrap32_nat]
theorem u32_and (a b : BitVec 32) : bits .and .u32 (n32 a) (n32 b) = n32 (a &&& b) := by
  show IntKind.u32.wrap ((BitVec.ofInt 32 (n32 a) &&& BitVec.ofInt 32 (n32 b)).toNat : Int) = _
  rw [ofInt32, ofInt32, wrap32_nat]
theorem u32_xor8 (a : BitVec 32) (b : UInt8) : bits .xor .u32 (n32 a) (n8 b) = n32 (Crc.lay a b) := by
  show IntKind.u32.wrap ((BitVec.ofInt 32 (n32 a) ^^^ BitVec.ofInt 32 (n8 b)).toNat : Int) = _
  rw [ofInt32, ofInt32_byte, wrap32_nat]; rfl
theorem u32_and15 (a : BitVec 32) : bits .and .u32 (n32 a) 15 = (Crc.low4 a : Int) := by
  rw [show (15 : Int) = n32 15#32 by decide, u32_and]; rfl
theorem u32_and1 (a : BitVec 32) : bits .and .u32 (n32 a) 1 = ((a.getLsbD 0).toNat : Int) := by
  rw [show (1 : Int) = n32 1#32 by decide, u32_and]
  unfold n32
  rw [BitVec.toNat_and]
  show ((a.toNat &&& 1 : Nat) : Int) = _
  rw [Nat.and_one_is_mod]
  simp [BitVec.getLsbD, Nat.testBit_zero]
  cases h : decide (a.toNat % 2 = 1) <;> simp at h <;> simp <;> omega
theorem u32_not (a : BitVec 32) : bits .xor .u32 4294967295 (n32 a) = n32 (Crc.turned a) := by
  rw [show (4294967295 : Int) = n32 4294967295#32 by decide, u32_xor]
  have h1 : ∀ b : BitVec 32, 4294967295#32 ^^^ b = ~~~b := by
    intro b
    apply BitVec.eq_of_getLsbD_eq
    intro i hi
    rw [BitVec.getLsbD_xor, BitVec.getLsbD_not, show 4294967295#32 = BitVec.allOnes 32 by decide, BitVec.getLsbD_allOnes]
    simp [hi]
  rw [h1]; rfl
theorem u32_ones (a : BitVec 32) : bits .xor .u32 (n32 a) 4294967295 = n32 (Crc.turned a) := by
  rw [← u32_not]
  show IntKind.u32.wrap ((BitVec.ofInt 32 (n32 a) ^^^ BitVec.ofInt 32 4294967295).toNat : Int) = IntKind.u32.wrap ((BitVec.ofInt 32 4294967295 ^^^ BitVec.ofInt 32 (n32 a)).toNat : Int)
  rw [BitVec.xor_comm]
theorem u32_max : IntKind.u32.max = 4294967295 := by decide
theorem u32_signed : IntKind.u32.signed = false := rfl
theorem u32_poly (a : BitVec 32) : bits .xor .u32 (n32 a) 3988292384 = n32 (a ^^^ Crc.poly) := u32_xor a Crc.poly
theorem u32_shr (a : BitVec 32) (k : Nat) : (n32 a / 2 ^ k) = n32 (a >>> k) := by
  unfold n32; rw [BitVec.toNat_ushiftRight, Nat.shiftRight_eq_div_pow]; simp
theorem u32_shrk (v : BitVec 32) (k : Nat) : n32 (Crc.shrk v k) / 2 = n32 (Crc.shrk v (k + 1)) := by rw [← Crc.shrk_succ]; exact u32_shr _ 1
theorem u32_bit1 (v : BitVec 32) (k : Nat) (h : Crc.bit v k = true) : bits .and .u32 (n32 (Crc.shrk v k)) 1 = 1 := by rw [u32_and1, Crc.shrk_bit, h]; rfl
theorem u32_bit0 (v : BitVec 32) (k : Nat) (h : Crc.bit v k = false) : bits .and .u32 (n32 (Crc.shrk v k)) 1 = 0 := by rw [u32_and1, Crc.shrk_bit, h]; rfl
theorem u32_shr0 (v : BitVec 32) (k : Nat) : n32 v / 2 ^ k = n32 (Crc.shrk v k) := u32_shr v k
theorem n32_ne0 (v : BitVec 32) (h : v ≠ 0#32) : (n32 v != 0) = true := by
  rw [show (0 : Int) = n32 0#32 by decide, n32_bne]; simp [h]
theorem n32_eq0 (v : BitVec 32) (h : v = 0#32) : (n32 v != 0) = false := by subst h; decide
theorem u32_one_shl (k : Nat) (h : k < 32) : IntKind.u32.wrap (2 ^ k) = n32 (Crc.unit k) := by
  unfold n32 Crc.unit
  rw [BitVec.toNat_shiftLeft, Nat.shiftLeft_eq]
  have h1 : (2 : Nat) ^ k < 2 ^ 32 := Nat.pow_lt_pow_right (by decide) h
  have e : (((1#32).toNat * 2 ^ k % 2 ^ 32 : Nat) : Int) = (2 : Int) ^ k := by
    rw [Nat.mod_eq_of_lt (by simpa using h1)]; simp
  rw [e]
  apply IntWalk.u32_in
  have h2 : (2 : Int) ^ k < 2 ^ 32 := by exact_mod_cast h1
  have h3 : (0 : Int) < 2 ^ k := Int.pow_pos (by decide)
  omega
theorem u32_half (a : BitVec 32) : n32 a / 2 = n32 (a >>> 1) := u32_shr a 1
theorem u32_quart (a : BitVec 32) : n32 a / 16 = n32 (Crc.shr4 a) := u32_shr a 4
/- bytes -/
theorem u8_xor (a b : UInt8) : bits .xor .u8 (n8 a) (n8 b) = n8 (a ^^^ b) := by
  show IntKind.u8.wrap ((BitVec.ofInt 8 (n8 a) ^^^ BitVec.ofInt 8 (n8 b)).toNat : Int) = _
  have h : ∀ c : UInt8, BitVec.ofInt 8 (n8 c) = c.toBitVec := fun c => by
    unfold n8; rw [BitVec.ofInt_natCast]; apply BitVec.eq_of_toNat_eq; simp
  rw [h, h]
  have := (a.toBitVec ^^^ b.toBitVec).isLt
  rw [IntWalk.u8_in _ (by omega)]
  unfold n8
  simp
theorem u8_pow (k : Nat) (h : k < 8) : IntKind.u8.wrap (2 ^ k) = n8 (Crc.bit8 k) := by
  have hk : k = 0 ∨ k = 1 ∨ k = 2 ∨ k = 3 ∨ k = 4 ∨ k = 5 ∨ k = 6 ∨ k = 7 := by omega
  rcases hk with rfl | rfl | rfl | rfl | rfl | rfl | rfl | rfl <;> decide
end Go.Proofs.YtimddchgmocdaaaDoor
