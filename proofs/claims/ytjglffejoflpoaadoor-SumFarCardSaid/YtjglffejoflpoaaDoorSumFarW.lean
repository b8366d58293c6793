/-
  THE WALK OF SumFar: the statement's function answers true for every input, in every world that holds the table.
-/
import Derived.Test.YtjglffejoflpoaaDoorSumKnown
set_option linter.unusedVariables false
set_option linter.unusedSimpArgs false
namespace Go.Proofs.YtjglffejoflpoaaDoor
open Go.RowKit
attribute [local go_sem] u32_wrap8 u32_wrap32 u32_xor u32_max u32_signed u32_not

theorem join0_ok (a : BitVec 32) (n : Nat) (w : World) (hw : HalfAt w) (hn : n ≤ 1099511627776) :
    Calls Tryd.prog 11 #[.int .u32 (n32 a), .int .u32 0, .int .i64 (n : Int)] w fun e w' =>
      e = .returned (.tuple #[.int .u32 (n32 (Crc.zeros n a)), .int .i64 0]) ∧ Below w.heap.size w w' :=
  (join_ok a 0#32 n w hw hn).mono fun _ _ ⟨he, hb⟩ => ⟨by rw [he, BitVec.xor_zero], hb⟩
theorem join0_bad (a : BitVec 32) (n : Int) (w : World) (hn : n < 0 ∨ 1099511627776 < n) :
    Calls Tryd.prog 11 #[.int .u32 (n32 a), .int .u32 0, .int .i64 n] w fun e w' =>
      e = .returned (.tuple #[.int .u32 0, .int .i64 1]) ∧ w = w' := join_bad a 0#32 n w hn

/-- what the walk wants of a world that came behind another one -/
theorem HalfAt.step {B : Nat} {w w1 w2 : World} (h : HalfAt w) (hb : Below B w w1) (hG : 0 < B) (hB : B ≤ w1.heap.size) (h2 : Below w1.heap.size w1 w2) :
    HalfAt w2 ∧ Below B w w2 ∧ B ≤ w2.heap.size :=
  ⟨(h.below hb hG).below h2 (by omega), hb.trans (h2.mono hB), Nat.le_trans hB h2.size⟩

theorem boxed_two (w w' : World) (t : TypeId) (x y : Value) (h : Below (w.alloc (.cells #[x, y] t)).heap.size (w.alloc (.cells #[x, y] t)) w') :
    w'.cell? ⟨w.heap.size, 0, none⟩ = some x ∧ w'.cell? ⟨w.heap.size, 1, none⟩ = some y ∧ Below w.heap.size w w' := by
  have hi := (Is.new w t #[x, y]).below h (by simp)
  exact ⟨hi.cell 0, hi.cell 1, (below_new w _).trans (h.mono (by simp))⟩

set_option maxHeartbeats 1000000 in
theorem far_bad (a b : BitVec 32) (n m : Int) (w : World) (hw : HalfAt w) (hn : n < 0 ∨ 1099511627776 < n) :
    Calls Tryd.prog 5 #[.int .u32 (n32 a), .int .u32 (n32 b), .agg #[.int .i64 n, .int .i64 m]] w fun e w' => e = .returned (.bool true) ∧ Below w.heap.size w w' := by
  have hG := hw.lt
  have HW := Lib.hid hw
  clear hw
  go_enter Tryd.func5, Tryd.ntmps5
  go_wp2_with fail
  refine (known_any _ (HW.out.below (below_new _ _) hG)).mono ?_
  rintro e w1 ⟨rfl, hk1⟩
  obtain ⟨c0, c1, hb⟩ := boxed_two w w1 _ _ _ hk1
  have hs := hb.size
  have HW1 := Lib.hid (HW.out.below hb hG)
  clear hk1
  go_wp2_with fail
  go_quiet (fail)
  go_wp2_with fail
  refine (join0_bad _ _ _ hn).mono ?_
  rintro e w2 ⟨rfl, rfl⟩
  by_cases hneg : n < 0
  · go_wp2_with (go_at_call 12; refine (num_any _ _).mono ?_; rintro e w' ⟨rfl, rfl⟩)
    go_ret
    exact ⟨rfl, below_drewN hb _⟩
  · have hgt : 1099511627776 < n := by omega
    go_wp2_with (go_at_call 12; refine (num_any _ _).mono ?_; rintro e w' ⟨rfl, rfl⟩)
    go_ret
    exact ⟨rfl, below_drewN hb _⟩

/-- what stands ahead of the second Join, in every case where the first number may be -/
theorem far_mid {a b : BitVec 32} {n : Nat} : (n32 (Crc.zeros n (a ^^^ b)) != n32 (Crc.zeros n a ^^^ Crc.zeros n b)) = false := by rw [Crc.zeros_xor]; simp

set_option maxHeartbeats 2000000 in
theorem far_bad2 (a b : BitVec 32) (n : Nat) (m : Int) (w : World) (hw : HalfAt w) (hn : n ≤ 1099511627776) (hm : m < 0 ∨ 1099511627776 < m) :
    Calls Tryd.prog 5 #[.int .u32 (n32 a), .int .u32 (n32 b), .agg #[.int .i64 (n : Int), .int .i64 m]] w fun e w' => e = .returned (.bool true) ∧ Below w.heap.size w w' := by
  have hG := hw.lt
  have HW := Lib.hid hw
  clear hw
  go_enter Tryd.func5, Tryd.ntmps5
  go_wp2_with fail
  refine (known_any _ (HW.out.below (below_new _ _) hG)).mono ?_
  rintro e w1 ⟨rfl, hk1⟩
  obtain ⟨c0, c1, hb⟩ := boxed_two w w1 _ _ _ hk1
  have hs := hb.size
  have HW1 := Lib.hid (HW.out.below hb hG)
  clear hk1
  go_wp2_with fail
  go_quiet (fail)
  go_wp2_with fail
  have HW2 := Lib.hid (show HalfAt (w1.drewN nq) from HW1.out)
  have hb := below_drewN hb nq
  refine (join0_ok _ _ _ HW2.out hn).mono ?_
  rintro e w2 ⟨rfl, h2⟩
  obtain ⟨hw2, hb2, hs2⟩ := HW.out.step hb hG hb.size h2
  have HW3 := Lib.hid hw2
  clear hw2 h2 HW1 HW2 hb c0 c1 hs
  go_wp2_with fail
  refine (join_ok _ _ _ _ HW3.out hn).mono ?_
  rintro e w3 ⟨rfl, h3⟩
  obtain ⟨hw3, hb3, hs3⟩ := HW.out.step hb2 hG hs2 h3
  have HW4 := Lib.hid hw3
  clear hw3 h3 HW3 hb2 hs2
  go_wp2_with fail
  refine (join0_ok _ _ _ HW4.out hn).mono ?_
  rintro e w4 ⟨rfl, h4⟩
  obtain ⟨hw4, hb4, hs4⟩ := HW.out.step hb3 hG hs3 h4
  have HW5 := Lib.hid hw4
  clear hw4 h4 HW4 hb3 hs3
  go_wp2_with fail
  refine (join0_ok _ _ _ HW5.out hn).mono ?_
  rintro e w5 ⟨rfl, h5⟩
  obtain ⟨hw5, hb5, hs5⟩ := HW.out.step hb4 hG hs4 h5
  have HW6 := Lib.hid hw5
  clear hw5 h5 HW5 hb4 hs4
  have hmid := @far_mid a b n
  have h1 : ¬ (n : Int) < 0 := by omega
  have h1' : ¬ 1099511627776 < (n : Int) := by omega
  go_wp2_with (go_at_call 12; refine (num_any _ _).mono ?_; rintro e w' ⟨rfl, rfl⟩)
  refine (join0_bad _ _ _ hm).mono ?_
  rintro e w6 ⟨rfl, rfl⟩
  by_cases hneg : m < 0
  · go_wp2_with (go_at_call 12; refine (num_any _ _).mono ?_; rintro e w' ⟨rfl, rfl⟩)
    go_ret
    exact ⟨rfl, hb5⟩
  · have hgt : 1099511627776 < m := by omega
    go_wp2_with (go_at_call 12; refine (num_any _ _).mono ?_; rintro e w' ⟨rfl, rfl⟩)
    go_ret
    exact ⟨rfl, hb5⟩

set_option maxHeartbeats 2000000 in
theorem far_over (a b : BitVec 32) (n m : Nat) (w : World) (hw : HalfAt w) (hn : n ≤ 1099511627776) (hm : m ≤ 1099511627776) (hnm : 1099511627776 < n + m) :
    Calls Tryd.prog 5 #[.int .u32 (n32 a), .int .u32 (n32 b), .agg #[.int .i64 (n : Int), .int .i64 (m : Int)]] w fun e w' => e = .returned (.bool true) ∧ Below w.heap.size w w' := by
  have hG := hw.lt
  have HW := Lib.hid hw
  clear hw
  go_enter Tryd.func5, Tryd.ntmps5
  go_wp2_with fail
  refine (known_any _ (HW.out.below (below_new _ _) hG)).mono ?_
  rintro e w1 ⟨rfl, hk1⟩
  obtain ⟨c0, c1, hb⟩ := boxed_two w w1 _ _ _ hk1
  have hs := hb.size
  have HW1 := Lib.hid (HW.out.below hb hG)
  clear hk1
  go_wp2_with fail
  go_quiet (fail)
  go_wp2_with fail
  have HW2 := Lib.hid (show HalfAt (w1.drewN nq) from HW1.out)
  have hb := below_drewN hb nq
  refine (join0_ok _ _ _ HW2.out hn).mono ?_
  rintro e w2 ⟨rfl, h2⟩
  obtain ⟨hw2, hb2, hs2⟩ := HW.out.step hb hG hb.size h2
  have HW3 := Lib.hid hw2
  clear hw2 h2 HW1 HW2 hb c0 c1 hs
  go_wp2_with fail
  refine (join_ok _ _ _ _ HW3.out hn).mono ?_
  rintro e w3 ⟨rfl, h3⟩
  obtain ⟨hw3, hb3, hs3⟩ := HW.out.step hb2 hG hs2 h3
  have HW4 := Lib.hid hw3
  clear hw3 h3 HW3 hb2 hs2
  go_wp2_with fail
  refine (join0_ok _ _ _ HW4.out hn).mono ?_
  rintro e w4 ⟨rfl, h4⟩
  obtain ⟨hw4, hb4, hs4⟩ := HW.out.step hb3 hG hs3 h4
  have HW5 := Lib.hid hw4
  clear hw4 h4 HW4 hb3 hs3
  go_wp2_with fail
  refine (join0_ok _ _ _ HW5.out hn).mono ?_
  rintro e w5 ⟨rfl, h5⟩
  obtain ⟨hw5, hb5, hs5⟩ := HW.out.step hb4 hG hs4 h5
  have HW6 := Lib.hid hw5
  clear hw5 h5 HW5 hb4 hs4
  have hmid := @far_mid a b n
  have h1 : ¬ (n : Int) < 0 := by omega
  have h1' : ¬ 1099511627776 < (n : Int) := by omega
  go_wp2_with (go_at_call 12; refine (num_any _ _).mono ?_; rintro e w' ⟨rfl, rfl⟩)
  refine (join0_ok _ _ _ HW6.out hm).mono ?_
  rintro e w6 ⟨rfl, h6⟩
  obtain ⟨hw6, hb6, hs6⟩ := HW.out.step hb5 hG hs5 h6
  have h2 : ¬ (m : Int) < 0 := by omega
  have h2' : ¬ 1099511627776 < (m : Int) := by omega
  go_wp2_with fail
  refine (join0_bad _ _ _ (.inr (by omega))).mono ?_
  rintro e w7 ⟨rfl, rfl⟩
  go_wp2_with (go_at_call 12; refine (num_any _ _).mono ?_; rintro e w' ⟨rfl, rfl⟩)
  go_ret
  exact ⟨rfl, hb6⟩

set_option maxHeartbeats 2000000 in
theorem far_ok (a b : BitVec 32) (n m : Nat) (w : World) (hw : HalfAt w) (hn : n ≤ 1099511627776) (hm : m ≤ 1099511627776) (hnm : n + m ≤ 1099511627776) :
    Calls Tryd.prog 5 #[.int .u32 (n32 a), .int .u32 (n32 b), .agg #[.int .i64 (n : Int), .int .i64 (m : Int)]] w fun e w' => e = .returned (.bool true) ∧ Below w.heap.size w w' := by
  have hG := hw.lt
  have HW := Lib.hid hw
  clear hw
  go_enter Tryd.func5, Tryd.ntmps5
  go_wp2_with fail
  refine (known_any _ (HW.out.below (below_new _ _) hG)).mono ?_
  rintro e w1 ⟨rfl, hk1⟩
  obtain ⟨c0, c1, hb⟩ := boxed_two w w1 _ _ _ hk1
  have hs := hb.size
  have HW1 := Lib.hid (HW.out.below hb hG)
  clear hk1
  go_wp2_with fail
  go_quiet (fail)
  go_wp2_with fail
  have HW2 := Lib.hid (show HalfAt (w1.drewN nq) from HW1.out)
  have hb := below_drewN hb nq
  refine (join0_ok _ _ _ HW2.out hn).mono ?_
  rintro e w2 ⟨rfl, h2⟩
  obtain ⟨hw2, hb2, hs2⟩ := HW.out.step hb hG hb.size h2
  have HW3 := Lib.hid hw2
  clear hw2 h2 HW1 HW2 hb c0 c1 hs
  go_wp2_with fail
  refine (join_ok _ _ _ _ HW3.out hn).mono ?_
  rintro e w3 ⟨rfl, h3⟩
  obtain ⟨hw3, hb3, hs3⟩ := HW.out.step hb2 hG hs2 h3
  have HW4 := Lib.hid hw3
  clear hw3 h3 HW3 hb2 hs2
  go_wp2_with fail
  refine (join0_ok _ _ _ HW4.out hn).mono ?_
  rintro e w4 ⟨rfl, h4⟩
  obtain ⟨hw4, hb4, hs4⟩ := HW.out.step hb3 hG hs3 h4
  have HW5 := Lib.hid hw4
  clear hw4 h4 HW4 hb3 hs3
  go_wp2_with fail
  refine (join0_ok _ _ _ HW5.out hn).mono ?_
  rintro e w5 ⟨rfl, h5⟩
  obtain ⟨hw5, hb5, hs5⟩ := HW.out.step hb4 hG hs4 h5
  have HW6 := Lib.hid hw5
  clear hw5 h5 HW5 hb4 hs4
  have hmid := @far_mid a b n
  have h1 : ¬ (n : Int) < 0 := by omega
  have h1' : ¬ 1099511627776 < (n : Int) := by omega
  go_wp2_with (go_at_call 12; refine (num_any _ _).mono ?_; rintro e w' ⟨rfl, rfl⟩)
  refine (join0_ok _ _ _ HW6.out hm).mono ?_
  rintro e w6 ⟨rfl, h6⟩
  obtain ⟨hw6, hb6, hs6⟩ := HW.out.step hb5 hG hs5 h6
  have HW7 := Lib.hid hw6
  have h2 : ¬ (m : Int) < 0 := by omega
  have h2' : ¬ 1099511627776 < (m : Int) := by omega
  clear hw6 h6 HW6 hb5 hs5
  go_wp2_with fail
  rw [show (n : Int) + (m : Int) = ((n + m : Nat) : Int) by omega]
  refine (join0_ok _ _ _ HW7.out hnm).mono ?_
  rintro e w7 ⟨rfl, h7⟩
  obtain ⟨hw7, hb7, hs7⟩ := HW.out.step hb6 hG hs6 h7
  have h8 : (n32 (Crc.zeros (n + m) a) == n32 (Crc.zeros m (Crc.zeros n a))) = true := by rw [Crc.zeros_add]; simp
  go_wp2_with (go_at_call 12; refine (num_any _ _).mono ?_; rintro e w' ⟨rfl, rfl⟩)
  go_ret
  exact ⟨rfl, hb7⟩

theorem far_any (a b : BitVec 32) (n m : Int) (w : World) (hw : HalfAt w) :
    Calls Tryd.prog 5 #[.int .u32 (n32 a), .int .u32 (n32 b), .agg #[.int .i64 n, .int .i64 m]] w fun e w' => e = .returned (.bool true) ∧ Below w.heap.size w w' := by
  by_cases hn : n < 0 ∨ 1099511627776 < n
  · exact far_bad a b n m w hw hn
  obtain ⟨n, rfl⟩ := Int.eq_ofNat_of_zero_le (a := n) (by omega)
  by_cases hm : m < 0 ∨ 1099511627776 < m
  · exact far_bad2 a b n m w hw (by omega) hm
  obtain ⟨m, rfl⟩ := Int.eq_ofNat_of_zero_le (a := m) (by omega)
  by_cases hnm : n + m ≤ 1099511627776
  · exact far_ok a b n m w hw (by omega) (by omega) hnm
  · exact far_over a b n m w hw (by omega) (by omega) (by omega)
end Go.Proofs.YtjglffejoflpoaaDoor
