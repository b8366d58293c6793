/-
  THE WALKS OF PACKAGE rec: what its functions compute.
-/
import Derived.Test.YtimddchgmocdaaaDoorProg
import Derived.Test.YtimddchgmocdaaaDoorRecP
import Derived.Test.YtimddchgmocdaaaDoorRow2
import Derived.WalkLawsBesides
set_option linter.unusedVariables false
set_option linter.unusedSimpArgs false
namespace Go.Proofs.YtimddchgmocdaaaDoor
open Go.RowKit Rec

/-- the table of widths lies in its variable -/
def WidthsAt (w : World) : Prop := ∀ i, i < 9 → w.cell? ⟨0, i, none⟩ = some (.bool (isW i))
theorem WidthsAt.lt {w : World} (h : WidthsAt w) : 0 < w.heap.size := block_lt_of_cell (h 0 (by decide))
theorem WidthsAt.below {B : Nat} {w w' : World} (h : WidthsAt w) (hb : Below B w w') (hB : 0 < B) : WidthsAt w' := fun i hi => (hb.cell (p := ⟨0, i, none⟩) hB).trans (h i hi)

theorem isWidth_any (n : Int) (w : World) (hw : WidthsAt w) :
    Calls Tryd.prog 66 #[.int .i64 n] w fun e w' => e = .returned (.bool (isW n)) ∧ w = w' := by
  by_cases h0 : 0 ≤ n
  · by_cases h1 : n < 9
    · obtain ⟨i, rfl⟩ := Int.eq_ofNat_of_zero_le h0
      have hc := hw i (by omega)
      clear hw
      go_enter Tryd.func66, Tryd.ntmps66
      go_wp2_with fail
      go_ret
      exact ⟨rfl, rfl⟩
    · have e : isW n = false := by simp [isW]; omega
      rw [e]
      clear hw e
      go_enter Tryd.func66, Tryd.ntmps66
      go_wp2_with fail
      go_ret
      exact ⟨rfl, rfl⟩
  · have e : isW n = false := by simp [isW]; omega
    rw [e]
    clear hw e
    go_enter Tryd.func66, Tryd.ntmps66
    go_wp2_with fail
    go_ret
    exact ⟨rfl, rfl⟩

theorem lie_any (A : Option Addr) (len cap : Nat) (at_ n : Int) (w : World) (hl : len ≤ 140737488355328) (h0 : -9223372036854775808 ≤ at_) (h1 : at_ ≤ 9223372036854775807) :
    Calls Tryd.prog 65 #[.slice A len cap, .int .i64 at_, .int .i64 n] w fun e w' => e = .returned (.bool (lies len at_ n)) ∧ w = w' := by
  by_cases a0 : 0 ≤ at_
  · by_cases a1 : 0 ≤ n
    · by_cases a2 : at_ ≤ (len : Int)
      · by_cases a3 : n ≤ (len : Int) - at_
        · have e : lies len at_ n = true := by simp [lies]; omega
          rw [e]
          clear e
          go_enter Tryd.func65, Tryd.ntmps65
          go_wp2_with fail
          go_ret
          exact ⟨rfl, rfl⟩
        · have e : lies len at_ n = false := by simp [lies]; omega
          rw [e]
          clear e
          go_enter Tryd.func65, Tryd.ntmps65
          go_wp2_with fail
          go_ret
          exact ⟨rfl, rfl⟩
      · have e : lies len at_ n = false := by simp [lies]; omega
        rw [e]
        clear e
        go_enter Tryd.func65, Tryd.ntmps65
        go_wp2_with fail
        go_ret
        exact ⟨rfl, rfl⟩
    · have e : lies len at_ n = false := by simp [lies]; omega
      rw [e]
      clear e
      go_enter Tryd.func65, Tryd.ntmps65
      go_wp2_with fail
      go_ret
      exact ⟨rfl, rfl⟩
  · have e : lies len at_ n = false := by simp [lies]; omega
    rw [e]
    clear e
    go_enter Tryd.func65, Tryd.ntmps65
    go_wp2_with fail
    go_ret
    exact ⟨rfl, rfl⟩

theorem u64_or (v k : Nat) (b : UInt8) (hk : k < 8) (hv : v < 256 ^ k) : bits .or .u64 (v : Int) (IntKind.u64.wrap (IntKind.u64.wrap (n8 b) * 2 ^ (8 * k))) = ((v + 256 ^ k * b.toNat : Nat) : Int) := by
  have hb := b.toNat_lt
  have e8 : (256 : Nat) ^ k = 2 ^ (8 * k) := by rw [Nat.pow_mul]
  have hp : (2 : Nat) ^ (8 * k) * 256 ≤ 2 ^ 64 := by
    rw [show (256 : Nat) = 2 ^ 8 by rfl, ← Nat.pow_add]
    exact Nat.pow_le_pow_right (by decide) (by omega)
  have hlt : 2 ^ (8 * k) * b.toNat < 2 ^ 64 := by
    have h1 : 2 ^ (8 * k) * b.toNat < 2 ^ (8 * k) * 256 := Nat.mul_lt_mul_of_pos_left hb (Nat.pow_pos (by decide))
    omega
  have w1 : IntKind.u64.wrap (n8 b) = n8 b := IntWalk.u64_in _ (by have := n8_lo b; have := n8_hi b; omega)
  have e1 : n8 b * 2 ^ (8 * k) = ((2 ^ (8 * k) * b.toNat : Nat) : Int) := by unfold n8; push_cast; rw [Int.mul_comm]
  have w2 : IntKind.u64.wrap ((2 ^ (8 * k) * b.toNat : Nat) : Int) = ((2 ^ (8 * k) * b.toNat : Nat) : Int) := IntWalk.u64_in _ (by omega)
  rw [w1, e1, w2]
  rw [e8] at hv ⊢
  have hor : v ||| 2 ^ (8 * k) * b.toNat = v + 2 ^ (8 * k) * b.toNat := by rw [Nat.or_comm, ← Nat.two_pow_add_eq_or_of_lt hv, Nat.add_comm]
  show IntKind.u64.wrap ((BitVec.ofInt 64 (v : Int) ||| BitVec.ofInt 64 ((2 ^ (8 * k) * b.toNat : Nat) : Int)).toNat : Int) = _
  rw [BitVec.ofInt_natCast, BitVec.ofInt_natCast, BitVec.toNat_or, BitVec.toNat_ofNat, BitVec.toNat_ofNat, Nat.mod_eq_of_lt (show v < 2 ^ 64 by omega), Nat.mod_eq_of_lt hlt, hor]
  apply IntWalk.u64_in
  have h2 : v + 2 ^ (8 * k) * b.toNat < 2 ^ (8 * k) * 256 := by
    have : 2 ^ (8 * k) * (b.toNat + 1) ≤ 2 ^ (8 * k) * 256 := Nat.mul_le_mul_left _ (by omega)
    rw [Nat.mul_add, Nat.mul_one] at this
    omega
  omega
theorem n8_zero (b : UInt8) (h : b = 0) : (n8 b == 0) = true := by subst h; rfl
theorem n8_some (b : UInt8) (h : b ≠ 0) : (n8 b == 0) = false := by rw [show (0 : Int) = n8 0 by decide, n8_beq]; simp [h]
theorem n8_zero' (b : UInt8) (h : b = 0) : (n8 b != 0) = false := by subst h; rfl
theorem n8_some' (b : UInt8) (h : b ≠ 0) : (n8 b != 0) = true := by rw [bne, n8_some b h]; rfl

set_option maxHeartbeats 400000 in
theorem ahead_any (A : Option Addr) (cap : Nat) (l : List UInt8) (w : World) (hl : Bytes w A l) (hm : l.length ≤ 140737488355328) :
    Calls Tryd.prog 64 #[.slice A l.length cap] w fun e w' => e = .returned (.int .i64 (Rec.ahead l : Int)) ∧ w = w' := by
  go_enter Tryd.func64, Tryd.ntmps64
  go_wp2_with fail
  go_loop [3, 4, 7] (fun _ _ i => ∃ k : Nat, k ≤ l.length ∧ i = .int .i64 k ∧ ∀ j (hj : j < k) (hj2 : j < l.length), l[j] ≠ 0) (fun _ _ i => l.length - (intOf i).toNat)
  case atStart => exact ⟨0, Nat.zero_le _, rfl, fun j hj => by omega⟩
  case round =>
    obtain ⟨k, hk, rfl, hno⟩ := hrel
    have HN := Lib.hid hno
    clear hno
    by_cases hlt : k < l.length
    · obtain ⟨b, off, rfl, hc⟩ := hl.at_ hlt
      by_cases hz : l[k] = 0
      · have hb := n8_zero _ hz
        have HZ := Lib.hid hz
        clear hz
        go_wp2_with fail
        go_ret
        exact ⟨ret_int (by rw [ahead_at l k hlt (fun j hj => HN.out j hj _) HZ.out]), rfl⟩
      · have hb := n8_some _ hz
        have HZ := Lib.hid hz
        clear hz
        go_wp2_with fail
        go_round
        case rel =>
          refine ⟨k + 1, by omega, by go_num, fun j hj hj2 => ?_⟩
          by_cases e : j = k
          · subst e; exact HZ.out
          · exact HN.out j (by omega) hj2
        case measure => simp [intOf]; omega
    · go_wp2_with fail
      go_ret
      exact ⟨ret_int (by rw [ahead_all l (fun j hj => HN.out j (by omega) hj)]), rfl⟩

set_option maxHeartbeats 400000 in
theorem zeros_any (A : Option Addr) (cap : Nat) (l : List UInt8) (w : World) (hl : Bytes w A l) (hm : l.length ≤ 140737488355328) :
    Calls Tryd.prog 88 #[.slice A l.length cap] w fun e w' => e = .returned (.bool (Rec.zeros l)) ∧ w = w' := by
  go_enter Tryd.func88, Tryd.ntmps88
  go_wp2_with fail
  go_loop [4, 7] (fun _ i => ∃ k : Nat, k ≤ l.length ∧ i = .int .i64 k ∧ ∀ j (hj : j < k) (hj2 : j < l.length), l[j] = 0) (fun _ i => l.length - (intOf i).toNat)
  case atStart => exact ⟨0, Nat.zero_le _, rfl, fun j hj => by omega⟩
  case round =>
    obtain ⟨k, hk, rfl, hno⟩ := hrel
    have HN := Lib.hid hno
    clear hno
    by_cases hlt : k < l.length
    · obtain ⟨b, off, rfl, hc⟩ := hl.at_ hlt
      by_cases hz : l[k] = 0
      · have hb := n8_zero' _ hz
        have HZ := Lib.hid hz
        clear hz
        go_wp2_with fail
        go_round
        case rel =>
          refine ⟨k + 1, by omega, by go_num, fun j hj hj2 => ?_⟩
          by_cases e : j = k
          · subst e; exact HZ.out
          · exact HN.out j (by omega) hj2
        case measure => simp [intOf]; omega
      · have hb := n8_some' _ hz
        have HZ := Lib.hid hz
        clear hz
        go_wp2_with fail
        go_ret
        exact ⟨ret_bool (by rw [zeros_not l k hlt HZ.out]), rfl⟩
    · go_wp2_with fail
      go_ret
      exact ⟨ret_bool (by rw [zeros_all l (fun j hj => HN.out j (by omega) hj)]), rfl⟩


set_option maxHeartbeats 800000 in
theorem get_any (A : Option Addr) (cap : Nat) (l : List UInt8) (at_ n : Int) (w : World) (hw : WidthsAt w) (hl : Bytes w A l) (hm : l.length ≤ 140737488355328) (h0 : -9223372036854775808 ≤ at_) (h1 : at_ ≤ 9223372036854775807) :
    Calls Tryd.prog 73 #[.slice A l.length cap, .int .i64 at_, .int .i64 n] w fun e w' => e = .returned (.tuple #[.int .u64 (getV l at_ n : Int), .int .i64 (getE l.length at_ n)]) ∧ w = w' := by
  have HW := Lib.hid hw
  clear hw
  have iw := isWidth_any n w HW.out
  have li := lie_any A l.length cap at_ n w hm h0 h1
  unfold getV getE
  cases hW : isW n
  · rw [hW] at iw
    have IW := Lib.hid iw
    clear iw li
    go_enter Tryd.func73, Tryd.ntmps73
    go_wp2_with (go_at_call 66; refine IW.out.mono ?_; rintro e w' ⟨rfl, rfl⟩)
    go_ret2
    exact ⟨rfl, rfl⟩
  · rw [hW] at iw
    have IW := Lib.hid iw
    cases hL : lies l.length at_ n
    · rw [hL] at li
      have LI := Lib.hid li
      clear iw li
      go_enter Tryd.func73, Tryd.ntmps73
      go_wp2_with (first
        | (go_at_call 66; refine IW.out.mono ?_; rintro e w' ⟨rfl, rfl⟩)
        | (go_at_call 65; refine LI.out.mono ?_; rintro e w' ⟨rfl, rfl⟩))
      go_ret2
      exact ⟨rfl, rfl⟩
    · rw [hL] at li
      have LI := Lib.hid li
      clear iw li
      have hl9 : 0 ≤ at_ ∧ 0 ≤ n ∧ at_ + n ≤ l.length := of_decide_eq_true hL
      have hw9 : n = 1 ∨ n = 2 ∨ n = 4 ∨ n = 8 := by simp [isW] at hW; omega
      obtain ⟨a, rfl⟩ := Int.eq_ofNat_of_zero_le hl9.1
      obtain ⟨m, rfl⟩ := Int.eq_ofNat_of_zero_le hl9.2.1
      have hmm : m ≤ 8 := by omega
      have ham : a + m ≤ l.length := by omega
      clear hl9 hw9 h0 h1
      go_enter Tryd.func73, Tryd.ntmps73
      go_wp2_with (first
        | (go_at_call 66; refine IW.out.mono ?_; rintro e w' ⟨rfl, rfl⟩)
        | (go_at_call 65; refine LI.out.mono ?_; rintro e w' ⟨rfl, rfl⟩))
      go_loop [8, 9, 21] (fun v _ i => ∃ k : Nat, k ≤ m ∧ i = .int .i64 k ∧ v = .int .u64 (le ((l.drop a).take k) : Int)) (fun _ _ i => m - (intOf i).toNat)
      case atStart => exact ⟨0, Nat.zero_le _, rfl, rfl⟩
      case round =>
        obtain ⟨k, hk, rfl, rfl⟩ := hrel
        by_cases hlt : k < m
        · obtain ⟨b, off, rfl, hc⟩ := hl.at_ (k := a + k) (by omega)
          have hv := le_lt ((l.drop a).take k)
          have hle : ((l.drop a).take k).length = k := by simp; omega
          rw [hle] at hv
          have hor := u64_or _ k l[a + k] (by omega) hv
          have HOR := Lib.hid hor
          clear hv hor
          go_wp2_with fail
          go_round
          case rel =>
            refine ⟨k + 1, by omega, by go_num, ?_⟩
            have hlt2 : k < (l.drop a).length := by simp; omega
            rw [HOR.out, take_snoc (l.drop a) k hlt2, le_snoc, hle, List.getElem_drop]
          case measure => simp [intOf]; omega
        · go_wp2_with fail
          go_ret2
          obtain rfl : k = m := by omega
          exact ⟨rfl, rfl⟩

theorem part_cut {w : World} {A : Option Addr} {cap : Nat} {l : List UInt8} (h : Bytes w A l) (hc : l.length ≤ cap) (a m : Nat) : Bytes w (if cap = a then A else A.map (·.add a)) (Rec.part l a m) := (h.cut hc).take m
theorem part_length (l : List UInt8) (a m : Nat) (h : a + m ≤ l.length) : (Rec.part l a m).length = m := by simp [Rec.part]; omega
theorem zeros_part (A : Option Addr) (cap : Nat) (l : List UInt8) (a m : Nat) (w : World) (hl : Bytes w A l) (hc : l.length ≤ cap) (h : a + m ≤ l.length) (hm : l.length ≤ 140737488355328) (c : Nat) :
    Calls Tryd.prog 88 #[.slice (if cap = a then A else A.map (·.add a)) m c] w fun e w' => e = .returned (.bool (Rec.zeros (Rec.part l a m))) ∧ w = w' := by
  have := zeros_any _ c (Rec.part l a m) w (part_cut hl hc a m) (by rw [part_length l a m h]; omega)
  rwa [part_length l a m h] at this

set_option maxHeartbeats 800000 in
theorem zero_any (A : Option Addr) (cap : Nat) (l : List UInt8) (at_ n : Int) (w : World) (hl : Bytes w A l) (hc : l.length ≤ cap) (hm : l.length ≤ 140737488355328) (h0 : -9223372036854775808 ≤ at_) (h1 : at_ ≤ 9223372036854775807) :
    Calls Tryd.prog 72 #[.slice A l.length cap, .int .i64 at_, .int .i64 n] w fun e w' => e = .returned (.tuple #[.bool (zeroV l at_ n), .int .i64 (zeroE l.length at_ n)]) ∧ w = w' := by
  have li := lie_any A l.length cap at_ n w hm h0 h1
  unfold zeroV zeroE
  by_cases hn : n < 0
  · rw [if_pos hn, if_pos hn]
    clear li
    go_enter Tryd.func72, Tryd.ntmps72
    go_wp2_with fail
    go_ret2
    exact ⟨rfl, rfl⟩
  · rw [if_neg hn, if_neg hn]
    cases hL : lies l.length at_ n
    · rw [hL] at li
      have LI := Lib.hid li
      clear li
      go_enter Tryd.func72, Tryd.ntmps72
      go_wp2_with (go_at_call 65; refine LI.out.mono ?_; rintro e w' ⟨rfl, rfl⟩)
      go_ret2
      exact ⟨rfl, rfl⟩
    · rw [hL] at li
      have LI := Lib.hid li
      clear li
      have hl9 : 0 ≤ at_ ∧ 0 ≤ n ∧ at_ + n ≤ l.length := of_decide_eq_true hL
      obtain ⟨a, rfl⟩ := Int.eq_ofNat_of_zero_le hl9.1
      obtain ⟨m, rfl⟩ := Int.eq_ofNat_of_zero_le hl9.2.1
      have ham : a + m ≤ l.length := by omega
      have zp := zeros_part A cap l a m w hl hc ham hm
      obtain ⟨A3, hA3⟩ : ∃ A3, (if cap = a then A else Option.map (fun x => x.add a) A) = A3 := ⟨_, rfl⟩
      rw [hA3] at zp
      have ZP := Lib.hid zp
      clear hl9 h0 h1 zp hn
      go_enter Tryd.func72, Tryd.ntmps72
      go_wp2_with (first
        | (go_at_call 65; refine LI.out.mono ?_; rintro e w' ⟨rfl, rfl⟩)
        | (go_at_call 88; refine (ZP.out _).mono ?_; rintro e w' ⟨rfl, rfl⟩))
      go_ret2
      exact ⟨rfl, rfl⟩

/-- what Put leaves -/
def putL (l : List UInt8) (at_ n : Int) (v : Nat) : List UInt8 := if putE l.length at_ n v = 0 then spliced l at_.toNat (les v n.toNat) else l
theorem spliced_snoc (l : List UInt8) (a : Nat) (s : List UInt8) (b : UInt8) (h : a + s.length < l.length) : spliced l a (s ++ [b]) = (spliced l a s).set (a + s.length) b := by
  unfold spliced
  have h1 : (l.take a ++ s).length = a + s.length := by simp; omega
  have h2 : l.drop (a + s.length) = l[a + s.length] :: l.drop (a + (s ++ [b]).length) := by
    rw [List.drop_eq_getElem_cons h]; simp [Nat.add_assoc]
  rw [h2, List.set_append_right _ _ (by omega), h1]
  simp
theorem putL_length (l : List UInt8) (at_ n : Int) (v : Nat) : (putL l at_ n v).length = l.length := by
  unfold putL
  split
  · rename_i h
    unfold putE at h
    split at h
    · omega
    · split at h
      · omega
      · rename_i h2
        have h3 : lies l.length at_ n = true := by simpa using h2
        have h4 : 0 ≤ at_ ∧ 0 ≤ n ∧ at_ + n ≤ l.length := of_decide_eq_true h3
        exact spliced_length _ _ _ (by rw [les_length]; omega)
  · rfl
theorem u8_byteAt (v k : Nat) : IntKind.u8.wrap ((v : Int) / 2 ^ (8 * k)) = n8 (byteAt v k) := by
  have e : ((v : Int) / 2 ^ (8 * k)) = ((v / 256 ^ k : Nat) : Int) := by
    rw [show (256 : Nat) ^ k = 2 ^ (8 * k) by rw [Nat.pow_mul]]
    push_cast; rfl
  rw [e]
  unfold byteAt n8
  rw [UInt8.toNat_ofNat']
  generalize v / 256 ^ k = x
  show (x : Int) % 256 = _
  omega

set_option maxHeartbeats 1600000 in
theorem put_any (base : Nat) (A : Option Addr) (cap : Nat) (l m : List UInt8) (at_ n : Int) (v : Nat) (w : World) (hw : WidthsAt w) (hM : Mine w base A cap (l ++ m)) (hm : l.length ≤ 140737488355328) (h0 : -9223372036854775808 ≤ at_) (h1 : at_ ≤ 9223372036854775807)
    (hv : v < 18446744073709551616) :
    Calls Tryd.prog 50 #[.slice A l.length cap, .int .i64 at_, .int .i64 n, .int .u64 (v : Int)] w fun e w' =>
      e = .returned (.int .i64 (putE l.length at_ n v)) ∧ Mine w' base A cap (putL l at_ n v ++ m) ∧ w.grownBy w' (Value.slice A l.length cap).ownBlock := by
  have HW := Lib.hid hw
  have HM := Lib.hid hM
  clear hw hM
  have iw := isWidth_any n w HW.out
  have li := lie_any A l.length cap at_ n w hm h0 h1
  cases hW : isW n
  · have e : putE l.length at_ n v = 1 := by simp [putE, hW]
    have e2 : putL l at_ n v = l := by unfold putL; rw [e]; rfl
    rw [e, e2]
    rw [hW] at iw
    have IW := Lib.hid iw
    clear iw li e e2
    go_enter Tryd.func50, Tryd.ntmps50
    go_wp2_with (go_at_call 66; refine IW.out.mono ?_; rintro e w' ⟨rfl, rfl⟩)
    go_ret
    exact ⟨rfl, HM.out, World.grownBy.refl _ _⟩
  · rw [hW] at iw
    have IW := Lib.hid iw
    have hw9 : n = 1 ∨ n = 2 ∨ n = 4 ∨ n = 8 := by simp [isW] at hW; omega
    obtain ⟨k9, rfl⟩ := Int.eq_ofNat_of_zero_le (a := n) (by omega)
    have h8 : k9 ≤ 8 := by omega
    have hpos : 0 < k9 := by omega
    clear hw9
    by_cases hq : (k9 : Int) < 8 ∧ v / 2 ^ (8 * k9) ≠ 0
    · have e : putE l.length at_ k9 v = 1 := by unfold putE; rw [if_pos (.inr (by simpa using hq))]
      have e2 : putL l at_ k9 v = l := by unfold putL; rw [e]; rfl
      rw [e, e2]
      clear iw li e e2
      obtain ⟨q1, q2⟩ := hq
      have hq3 : ((v : Int) / 2 ^ (8 * k9) != 0) = true := by
        have : ((v : Int) / 2 ^ (8 * k9)) = ((v / 2 ^ (8 * k9) : Nat) : Int) := by push_cast; rfl
        rw [this]
        simp only [bne_iff_ne, ne_eq]
        omega
      clear q2
      go_enter Tryd.func50, Tryd.ntmps50
      go_wp2_with (go_at_call 66; refine IW.out.mono ?_; rintro e w' ⟨rfl, rfl⟩)
      go_ret
      exact ⟨rfl, HM.out, World.grownBy.refl _ _⟩
    · by_cases h88 : (k9 : Int) < 8
      · have hq0 : v / 2 ^ (8 * k9) = 0 := by by_cases h : v / 2 ^ (8 * k9) = 0; exact h; exact absurd ⟨h88, h⟩ hq
        have hq3 : ((v : Int) / 2 ^ (8 * k9) != 0) = false := by
          have : ((v : Int) / 2 ^ (8 * k9)) = ((v / 2 ^ (8 * k9) : Nat) : Int) := by push_cast; rfl
          rw [this, hq0]; rfl
        clear hq0
        cases hL : lies l.length at_ k9
        · have e : putE l.length at_ k9 v = 20 := by unfold putE; rw [if_neg (by simpa [hW] using hq), if_pos hL]
          have e2 : putL l at_ k9 v = l := by unfold putL; rw [e]; rfl
          rw [e, e2]
          rw [hL] at li
          have LI := Lib.hid li
          clear iw li e e2 hq hL
          skip
          go_enter Tryd.func50, Tryd.ntmps50
          go_wp2_with (first
            | (go_at_call 66; refine IW.out.mono ?_; rintro e w' ⟨rfl, rfl⟩)
            | (go_at_call 65; refine LI.out.mono ?_; rintro e w' ⟨rfl, rfl⟩))
          go_ret
          exact ⟨rfl, HM.out, World.grownBy.refl _ _⟩
        · have e : putE l.length at_ k9 v = 0 := by unfold putE; rw [if_neg (by simpa [hW] using hq), if_neg (by simp [hL])]
          have hl9 : 0 ≤ at_ ∧ 0 ≤ (k9 : Int) ∧ at_ + k9 ≤ l.length := of_decide_eq_true hL
          have e2 : putL l at_ k9 v = spliced l at_.toNat (les v k9) := by unfold putL; rw [e]; rfl
          rw [e, e2]
          rw [hL] at li
          have LI := Lib.hid li
          obtain ⟨a, rfl⟩ := Int.eq_ofNat_of_zero_le hl9.1
          have ham : a + k9 ≤ l.length := by omega
          obtain ⟨g, rfl, hbg, hgl⟩ := HM.out.form (by simp; omega)
          clear iw li e e2 hq hL hl9 h0 h1
          skip
          go_enter Tryd.func50, Tryd.ntmps50
          go_wp2_with (first
            | (go_at_call 66; refine IW.out.mono ?_; rintro e w' ⟨rfl, rfl⟩)
            | (go_at_call 65; refine LI.out.mono ?_; rintro e w' ⟨rfl, rfl⟩))
          go_loopw [9, 32] (fun _ i wr => ∃ k : Nat, k ≤ k9 ∧ i = .int .i64 k ∧ Mine wr base (some ⟨g, 0, none⟩) cap (spliced l a (les v k) ++ m) ∧ w.grownBy wr (some g)) (fun _ i _ => k9 - (intOf i).toNat)
          case atStart => exact ⟨0, Nat.zero_le _, rfl, by rw [show les v 0 = [] from rfl, spliced_nil]; exact HM.out, World.grownBy.refl _ _⟩
          case round =>
            obtain ⟨k, hk, rfl, hM, hG⟩ := hrel
            by_cases hlt : k < k9
            · have hsl : (spliced l a (les v k)).length = l.length := spliced_length _ _ _ (by rw [les_length]; omega)
              have hc := hM.cell (k := a + k) (by simp; omega)
              have hf := hM.free (a + k)
              have hb := u8_byteAt v k
              have hML := Lib.hid hM
              clear hM
              go_wp2_with fail
              go_roundw
              case rel =>
                refine ⟨k + 1, by omega, by go_num, ?_, grown_trans hG (grown_setCell _ _ _ _)⟩
                have := hML.out.put (a + k) (byteAt v k)
                rw [List.set_append_left _ _ (by omega)] at this
                rw [les_succ, spliced_snoc _ _ _ _ (by rw [les_length]; omega), les_length]
                exact this
              case measure => simp [intOf]; omega
            · go_wp2_with fail
              go_ret
              obtain rfl : k = k9 := by omega
              exact ⟨rfl, hM, hG⟩
      · skip
        cases hL : lies l.length at_ k9
        · have e : putE l.length at_ k9 v = 20 := by unfold putE; rw [if_neg (by simpa [hW] using hq), if_pos hL]
          have e2 : putL l at_ k9 v = l := by unfold putL; rw [e]; rfl
          rw [e, e2]
          rw [hL] at li
          have LI := Lib.hid li
          clear iw li e e2 hq hL
          skip
          go_enter Tryd.func50, Tryd.ntmps50
          go_wp2_with (first
            | (go_at_call 66; refine IW.out.mono ?_; rintro e w' ⟨rfl, rfl⟩)
            | (go_at_call 65; refine LI.out.mono ?_; rintro e w' ⟨rfl, rfl⟩))
          go_ret
          exact ⟨rfl, HM.out, World.grownBy.refl _ _⟩
        · have e : putE l.length at_ k9 v = 0 := by unfold putE; rw [if_neg (by simpa [hW] using hq), if_neg (by simp [hL])]
          have hl9 : 0 ≤ at_ ∧ 0 ≤ (k9 : Int) ∧ at_ + k9 ≤ l.length := of_decide_eq_true hL
          have e2 : putL l at_ k9 v = spliced l at_.toNat (les v k9) := by unfold putL; rw [e]; rfl
          rw [e, e2]
          rw [hL] at li
          have LI := Lib.hid li
          obtain ⟨a, rfl⟩ := Int.eq_ofNat_of_zero_le hl9.1
          have ham : a + k9 ≤ l.length := by omega
          obtain ⟨g, rfl, hbg, hgl⟩ := HM.out.form (by simp; omega)
          clear iw li e e2 hq hL hl9 h0 h1
          skip
          go_enter Tryd.func50, Tryd.ntmps50
          go_wp2_with (first
            | (go_at_call 66; refine IW.out.mono ?_; rintro e w' ⟨rfl, rfl⟩)
            | (go_at_call 65; refine LI.out.mono ?_; rintro e w' ⟨rfl, rfl⟩))
          go_loopw [9, 32] (fun _ i wr => ∃ k : Nat, k ≤ k9 ∧ i = .int .i64 k ∧ Mine wr base (some ⟨g, 0, none⟩) cap (spliced l a (les v k) ++ m) ∧ w.grownBy wr (some g)) (fun _ i _ => k9 - (intOf i).toNat)
          case atStart => exact ⟨0, Nat.zero_le _, rfl, by rw [show les v 0 = [] from rfl, spliced_nil]; exact HM.out, World.grownBy.refl _ _⟩
          case round =>
            obtain ⟨k, hk, rfl, hM, hG⟩ := hrel
            by_cases hlt : k < k9
            · have hsl : (spliced l a (les v k)).length = l.length := spliced_length _ _ _ (by rw [les_length]; omega)
              have hc := hM.cell (k := a + k) (by simp; omega)
              have hf := hM.free (a + k)
              have hb := u8_byteAt v k
              have hML := Lib.hid hM
              clear hM
              go_wp2_with fail
              go_roundw
              case rel =>
                refine ⟨k + 1, by omega, by go_num, ?_, grown_trans hG (grown_setCell _ _ _ _)⟩
                have := hML.out.put (a + k) (byteAt v k)
                rw [List.set_append_left _ _ (by omega)] at this
                rw [les_succ, spliced_snoc _ _ _ _ (by rw [les_length]; omega), les_length]
                exact this
              case measure => simp [intOf]; omega
            · go_wp2_with fail
              go_ret
              obtain rfl : k = k9 := by omega
              exact ⟨rfl, hM, hG⟩
end Go.Proofs.YtimddchgmocdaaaDoor
