/-
  A LOG's HEADER AS BYTES: how it is put together; what is read of it.
-/
import Derived.Test.YtimddchgmocdaaaDoorRecTo
import Derived.Test.YtimddchgmocdaaaDoorCrc
set_option linter.unusedVariables false
set_option linter.unusedSimpArgs false
namespace Go.Proofs.YtimddchgmocdaaaDoor
open Go.RowKit Rec

namespace Hd
def magic : List UInt8 := [66, 79, 76, 69, 76, 79, 71, 49]
def pre (n : Nat) : List UInt8 := magic ++ les n 2 ++ [0, 0]
def mid (nums : List Nat) : List UInt8 := nums.flatMap fun i => les i 4
def rest (nums : List Nat) : List UInt8 := mid nums ++ List.replicate (496 - 4 * nums.length) 0
/-- the header of these numbers with the sum s -/
def hd (nums : List Nat) (s : Nat) : List UInt8 := pre nums.length ++ les s 4 ++ rest nums
/-- while it is made: n numbers are told, some of them stand -/
def st (n : Nat) (nums : List Nat) : List UInt8 := pre n ++ [0, 0, 0, 0] ++ rest nums
theorem pre_length (n : Nat) : (pre n).length = 12 := by simp [pre, magic, les_length]
theorem mid_length (nums : List Nat) : (mid nums).length = 4 * nums.length := by
  induction nums with
  | nil => rfl
  | cons i nums ih => show (les i 4 ++ mid nums).length = _; rw [List.length_append, les_length, ih, List.length_cons]; omega
theorem rest_length {nums : List Nat} (h : nums.length ≤ 96) : (rest nums).length = 496 := by simp [rest, mid_length]; omega
theorem hd_length {nums : List Nat} (h : nums.length ≤ 96) (s : Nat) : (hd nums s).length = 512 := by simp [hd, pre_length, les_length, rest_length h]
theorem st_length {nums : List Nat} (h : nums.length ≤ 96) (n : Nat) : (st n nums).length = 512 := by simp [st, pre_length, rest_length h]
theorem les_zero (n : Nat) : les 0 n = List.replicate n 0 := by
  unfold les
  refine List.ext_getElem (by simp) fun i h1 h2 => ?_
  simp [byteAt]
theorem st_hd (nums : List Nat) : st nums.length nums = hd nums 0 := by
  unfold st hd
  rw [les_zero]
  rfl
theorem zero_is : (List.replicate 512 0 : List UInt8) = ([] ++ List.replicate 8 0) ++ List.replicate 504 0 := by rw [List.nil_append, List.replicate_append_replicate]
theorem put_magic : putTextE (List.replicate 512 0 : List UInt8).length 0 8 magic = 0 ∧ putTextL (List.replicate 512 0) 0 8 magic = magic ++ List.replicate 504 0 := by
  have h := putText_mid [] (List.replicate 8 0) magic (List.replicate 504 0) 0 0 8 (by unfold Go.Proofs.YtimddchgmocdaaaDoor.Full; decide) rfl rfl rfl
  have z : ([] : List UInt8) ++ List.replicate 8 0 ++ List.replicate 504 0 = List.replicate 512 0 := zero_is.symm
  rw [z] at h
  exact ⟨h.1, h.2.trans (by rw [List.nil_append, List.replicate_zero, List.append_nil])⟩
theorem put_many (n : Nat) (hn : n < 65536) : putE (magic ++ List.replicate 504 0).length 8 2 n = 0 ∧ putL (magic ++ List.replicate 504 0) 8 2 n = st n [] := by
  have h := put_mid magic (List.replicate 502 0) 2 n (by decide) (.inr (by show n < 65536; exact hn)) (List.replicate 2 0) (by simp)
  have e : magic ++ List.replicate 2 0 ++ List.replicate 502 0 = magic ++ List.replicate 504 0 := by rw [List.append_assoc, List.replicate_append_replicate]
  rw [e] at h
  refine ⟨h.1, h.2.trans ?_⟩
  have e2 : (List.replicate 502 0 : List UInt8) = [0, 0] ++ [0, 0, 0, 0] ++ List.replicate 496 0 := by
    rw [show (502 : Nat) = 2 + 4 + 496 from rfl, ← List.replicate_append_replicate, ← List.replicate_append_replicate]
    rfl
  rw [e2]
  unfold st pre rest
  simp only [List.append_assoc, mid, List.flatMap_nil, List.nil_append, List.length_nil, Nat.mul_zero, Nat.sub_zero]
theorem put_num (n : Nat) (nums : List Nat) (v : Nat) (hk : nums.length < 96) (hv : v < 4294967296) :
    putE (st n nums).length ((16 + 4 * nums.length : Nat) : Int) 4 v = 0 ∧ putL (st n nums) ((16 + 4 * nums.length : Nat) : Int) 4 v = st n (nums ++ [v]) := by
  have h := put_mid (pre n ++ [0, 0, 0, 0] ++ mid nums) (List.replicate (492 - 4 * nums.length) 0) 4 v (by decide) (.inr hv) (List.replicate 4 0) (by simp)
  have hl : (pre n ++ [0, 0, 0, 0] ++ mid nums).length = 16 + 4 * nums.length := by simp [pre_length, mid_length]; omega
  have e : pre n ++ [0, 0, 0, 0] ++ mid nums ++ List.replicate 4 0 ++ List.replicate (492 - 4 * nums.length) 0 = st n nums := by
    unfold st rest
    rw [List.append_assoc _ (List.replicate 4 0), List.replicate_append_replicate, show 4 + (492 - 4 * nums.length) = 496 - 4 * nums.length by omega]
    simp only [List.append_assoc]
  rw [e, hl] at h
  refine ⟨h.1, h.2.trans ?_⟩
  unfold st rest mid
  rw [List.flatMap_append, List.length_append, show 496 - 4 * (nums.length + [v].length) = 492 - 4 * nums.length by simp only [List.length_singleton]; omega]
  simp only [List.append_assoc, List.flatMap_cons, List.flatMap_nil, List.append_nil]
theorem put_sum (nums : List Nat) (t s : Nat) (hs : s < 4294967296) : putE (hd nums t).length 12 4 s = 0 ∧ putL (hd nums t) 12 4 s = hd nums s := by
  have h := put_mid (pre nums.length) (rest nums) 4 s (by decide) (.inr hs) (les t 4) (les_length _ _)
  rw [pre_length] at h
  exact h
theorem get_many (nums : List Nat) (s : Nat) (hn : nums.length < 65536) : getV (hd nums s) 8 2 = nums.length ∧ getE (hd nums s).length 8 2 = 0 := by
  have h := get_mid magic (les nums.length 2) ([0, 0] ++ les s 4 ++ rest nums) 2 (by decide) (les_length _ _)
  have e : magic ++ les nums.length 2 ++ ([0, 0] ++ les s 4 ++ rest nums) = hd nums s := by unfold hd pre; simp only [List.append_assoc]
  rw [e, le_les, Nat.mod_eq_of_lt (show nums.length < 256 ^ 2 from hn)] at h
  exact h
theorem get_sum (nums : List Nat) (s : Nat) (hs : s < 4294967296) : getV (hd nums s) 12 4 = s ∧ getE (hd nums s).length 12 4 = 0 := by
  have h := get_mid (pre nums.length) (les s 4) (rest nums) 4 (by decide) (les_length _ _)
  rw [pre_length, le_les, Nat.mod_eq_of_lt (show s < 256 ^ 4 from hs)] at h
  exact h
theorem mid_split (nums : List Nat) (k : Nat) (hk : k < nums.length) : mid nums = mid (nums.take k) ++ les nums[k] 4 ++ mid (nums.drop (k + 1)) := by
  have e : nums = nums.take k ++ nums[k] :: nums.drop (k + 1) := by rw [← List.drop_eq_getElem_cons hk, List.take_append_drop]
  conv => lhs; rw [e]
  unfold mid
  rw [List.flatMap_append, List.flatMap_cons]
  simp only [List.append_assoc]
theorem get_num (nums : List Nat) (s k : Nat) (hk : k < nums.length) (hv : nums[k] < 4294967296) : getV (hd nums s) ((16 + 4 * k : Nat) : Int) 4 = nums[k] ∧ getE (hd nums s).length ((16 + 4 * k : Nat) : Int) 4 = 0 := by
  have h := get_mid (pre nums.length ++ les s 4 ++ mid (nums.take k)) (les nums[k] 4) (mid (nums.drop (k + 1)) ++ List.replicate (496 - 4 * nums.length) 0) 4 (by decide) (les_length _ _)
  have hl : (pre nums.length ++ les s 4 ++ mid (nums.take k)).length = 16 + 4 * k := by simp [pre_length, mid_length, les_length, Nat.min_eq_left (Nat.le_of_lt hk)]; omega
  have e : pre nums.length ++ les s 4 ++ mid (nums.take k) ++ les nums[k] 4 ++ (mid (nums.drop (k + 1)) ++ List.replicate (496 - 4 * nums.length) 0) = hd nums s := by
    unfold hd rest
    rw [mid_split nums k hk]
    simp only [List.append_assoc]
  rw [e, hl, le_les, Nat.mod_eq_of_lt (show nums[k] < 256 ^ 4 from hv)] at h
  exact h
theorem zeros_rep (n : Nat) : Rec.zeros (List.replicate n 0) = true := by simp [Rec.zeros]
theorem zero_none : zeroV (List.replicate 512 0) 0 512 = true ∧ zeroE (List.replicate 512 0 : List UInt8).length 0 512 = 0 := by
  have h1 : lies 512 0 512 = true := by decide
  unfold zeroV zeroE
  rw [List.length_replicate, h1]
  refine ⟨?_, rfl⟩
  show Rec.zeros (((List.replicate 512 (0 : UInt8)).drop 0).take 512) = true
  rw [List.drop_zero, List.take_of_length_le (by rw [List.length_replicate]; exact Nat.le_refl _)]
  exact zeros_rep 512
theorem zero_some {nums : List Nat} (hn : nums.length ≤ 96) (s : Nat) : zeroV (hd nums s) 0 512 = false ∧ zeroE (hd nums s).length 0 512 = 0 := by
  have h1 : lies 512 0 512 = true := by decide
  unfold zeroV zeroE
  rw [hd_length hn, h1]
  refine ⟨?_, rfl⟩
  show Rec.zeros (((hd nums s).drop 0).take 512) = false
  rw [List.drop_zero, List.take_of_length_le (by rw [hd_length hn]; exact Nat.le_refl _)]
  refine zeros_not _ 0 (by rw [hd_length hn]; decide) ?_
  have e : (hd nums s)[0]? = some 66 := by unfold hd pre magic; rfl
  rw [List.getElem?_eq_getElem (by rw [hd_length hn]; decide)] at e
  injection e with e
  rw [e]; decide
theorem zero_part (a m z : List UInt8) (hm : Rec.zeros m = true) : zeroV (a ++ m ++ z) a.length m.length = true ∧ zeroE (a ++ m ++ z).length a.length m.length = 0 := by
  unfold zeroV zeroE
  have h0 : ¬ ((m.length : Nat) : Int) < 0 := by omega
  rw [lies_mid, part_mid, if_neg h0, if_neg h0]
  exact ⟨hm, rfl⟩
theorem zero_still (nums : List Nat) (s : Nat) : zeroV (hd nums s) 10 2 = true ∧ zeroE (hd nums s).length 10 2 = 0 := by
  have h := zero_part (magic ++ les nums.length 2) [0, 0] (les s 4 ++ rest nums) rfl
  have hl : (magic ++ les nums.length 2).length = 10 := by simp [magic, les_length]
  have e : magic ++ les nums.length 2 ++ [0, 0] ++ (les s 4 ++ rest nums) = hd nums s := by unfold hd pre; simp only [List.append_assoc]
  rw [e, hl] at h
  exact h
theorem zero_rest {nums : List Nat} (hn : nums.length ≤ 96) (s : Nat) : zeroV (hd nums s) ((16 + 4 * nums.length : Nat) : Int) ((496 - 4 * nums.length : Nat) : Int) = true ∧ zeroE (hd nums s).length ((16 + 4 * nums.length : Nat) : Int) ((496 - 4 * nums.length : Nat) : Int) = 0 := by
  have h := zero_part (pre nums.length ++ les s 4 ++ mid nums) (List.replicate (496 - 4 * nums.length) 0) [] (zeros_rep _)
  have hl : (pre nums.length ++ les s 4 ++ mid nums).length = 16 + 4 * nums.length := by simp [pre_length, mid_length, les_length]; omega
  have e : pre nums.length ++ les s 4 ++ mid nums ++ List.replicate (496 - 4 * nums.length) 0 ++ [] = hd nums s := by unfold hd rest; simp only [List.append_assoc, List.append_nil]
  rw [e, hl, List.length_replicate] at h
  exact h
theorem take_magic (nums : List Nat) (s : Nat) : (hd nums s).take 8 = magic := by unfold hd pre; rfl
/-- the sum of a header and of the pieces behind it -/
def sumS (h : List UInt8) (data : List (List UInt8)) : BitVec 32 := data.foldl (fun s p => Crc.zeros p.length s ^^^ Crc.crc p) (Crc.crc h)
/-- the header as it is made -/
def made (nums : List Nat) (data : List (List UInt8)) : List UInt8 := hd nums (sumS (hd nums 0) data).toNat
theorem made_length {nums : List Nat} (h : nums.length ≤ 96) (data : List (List UInt8)) : (made nums data).length = 512 := hd_length h _
end Hd
/-- Zero, its answer named -/
theorem zero_to2 (A : Option Addr) (cap : Nat) (l : List UInt8) (len : Nat) (hl : l.length = len) (at_ n : Int) (V : Bool) (E : Int) (hV : zeroV l at_ n = V) (hE : zeroE l.length at_ n = E)
    (w : World) (hb : Bytes w A l) (hcl : len ≤ cap) (hm : len ≤ 140737488355328) (h0 : -9223372036854775808 ≤ at_) (h1 : at_ ≤ 9223372036854775807) :
    Calls Tryd.prog 72 #[.slice A len cap, .int .i64 at_, .int .i64 n] w fun e w' => e = .returned (.tuple #[.bool V, .int .i64 E]) ∧ w = w' := by
  subst hl
  subst hE
  subst hV
  exact zero_any A cap l at_ n w hb hcl hm h0 h1
end Go.Proofs.YtimddchgmocdaaaDoor
