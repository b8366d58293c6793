/-
  BITS IN BYTES AS THE WORDS OF THE MACHINE HAVE THEM.
-/
import Derived.Test.YtlpochabgdcidaaBtP
import Derived.Test.YtlpochabgdcidaaBits
set_option linter.unusedVariables false
set_option linter.unusedSimpArgs false
namespace Go.Proofs.Ytlpochabgdcidaa.Bt

theorem or_fin : ∀ (b : Fin 256) (k : Fin 8), bits .or .u8 (b.val : Int) (n8 (Crc.bit8 k.val)) = ((set8 (UInt8.ofNat b.val) k.val true).toNat : Int) := by decide +kernel
theorem andNot_fin : ∀ (b : Fin 256) (k : Fin 8), bits .andNot .u8 (b.val : Int) (n8 (Crc.bit8 k.val)) = ((set8 (UInt8.ofNat b.val) k.val false).toNat : Int) := by decide +kernel
theorem or_bit (b : UInt8) (k : Nat) (h : k < 8) : bits .or .u8 (n8 b) (n8 (Crc.bit8 k)) = n8 (set8 b k true) := by
  have := or_fin ⟨b.toNat, b.toNat_lt⟩ ⟨k, h⟩
  rw [← byte_eta] at this
  exact this
theorem andNot_bit (b : UInt8) (k : Nat) (h : k < 8) : bits .andNot .u8 (n8 b) (n8 (Crc.bit8 k)) = n8 (set8 b k false) := by
  have := andNot_fin ⟨b.toNat, b.toNat_lt⟩ ⟨k, h⟩
  rw [← byte_eta] at this
  exact this
theorem plus_fin : ∀ (b : Fin 256) (k : Fin 8), bit8 (UInt8.ofNat b.val) k.val = false → IntKind.u8.wrap ((b.val : Int) + (2 ^ k.val : Nat)) = ((set8 (UInt8.ofNat b.val) k.val true).toNat : Int) := by decide +kernel
theorem less_fin : ∀ (b : Fin 256) (k : Fin 8), bit8 (UInt8.ofNat b.val) k.val = true → IntKind.u8.wrap ((b.val : Int) - (2 ^ k.val : Nat)) = ((set8 (UInt8.ofNat b.val) k.val false).toNat : Int) := by decide +kernel
theorem plus_bit (b : UInt8) (k : Nat) (h : k < 8) (hb : bit8 b k = false) : IntKind.u8.wrap (n8 b + (2 ^ k : Nat)) = n8 (set8 b k true) := by
  have := plus_fin ⟨b.toNat, b.toNat_lt⟩ ⟨k, h⟩
  rw [← byte_eta] at this
  exact this hb
theorem less_bit (b : UInt8) (k : Nat) (h : k < 8) (hb : bit8 b k = true) : IntKind.u8.wrap (n8 b - (2 ^ k : Nat)) = n8 (set8 b k false) := by
  have := less_fin ⟨b.toNat, b.toNat_lt⟩ ⟨k, h⟩
  rw [← byte_eta] at this
  exact this hb
theorem set8_same (b : UInt8) (k : Nat) (on : Bool) (h : bit8 b k = on) : set8 b k on = b := by unfold set8; rw [if_pos h]
theorem full_fin : ∀ k : Fin 8, bit8 255 k.val = true := by decide +kernel
/-- bytes whose byte is full: eight bits that are on -/
theorem full_byte (l : List UInt8) (q j : Nat) (hq : q < l.length) (h : l[q] = 255) (hj : j / 8 = q) : bit l j = true := by
  unfold bit
  rw [hj, List.getD_eq_getElem?_getD, List.getElem?_eq_getElem hq, Option.getD_some, h]
  exact full_fin ⟨j % 8, by omega⟩
theorem bit_of (l : List UInt8) (j q r : Nat) (hq : q < l.length) (h1 : j / 8 = q) (h2 : j % 8 = r) : bit l j = bit8 l[q] r := by
  unfold bit
  rw [h1, h2, List.getD_eq_getElem?_getD, List.getElem?_eq_getElem hq, Option.getD_some]
theorem putL_of (l : List UInt8) (i q r : Nat) (on : Bool) (hq : q < l.length) (h1 : i / 8 = q) (h2 : i % 8 = r) : putL l (i : Int) on = l.set q (set8 l[q] r on) := by
  unfold putL
  rw [if_pos ((has_iff _ _).2 ⟨by omega, by omega⟩), Int.toNat_natCast, h1, h2, List.getD_eq_getElem?_getD, List.getElem?_eq_getElem hq, Option.getD_some]
theorem putL_out (l : List UInt8) (i : Int) (on : Bool) (h : has l i = false) : putL l i on = l := by unfold putL; rw [if_neg (by rw [h]; simp)]
end Go.Proofs.Ytlpochabgdcidaa.Bt
