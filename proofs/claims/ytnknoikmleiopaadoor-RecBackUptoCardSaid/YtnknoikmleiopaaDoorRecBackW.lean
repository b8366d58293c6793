/-
  THE WALK OF RecBack: a number that is put is read back, byte by byte.
-/
import Derived.Test.YtnknoikmleiopaaDoorRecBackL
set_option linter.unusedVariables false
set_option linter.unusedSimpArgs false
namespace Go.Proofs.YtnknoikmleiopaaDoor
open Go.RowKit Rec

theorem Mine.head2 {w : World} {base cap : Nat} {A : Option Addr} {a m z : List UInt8} (h : Mine w base A cap (a ++ m ++ z)) : Bytes w A a := by
  rw [List.append_assoc] at h
  exact h.head
theorem Mine.tail_at {w : World} {base cap c : Nat} {A : Option Addr} {a m z : List UInt8} (h : Mine w base A cap (a ++ m ++ z)) (hc : (a ++ m).length = c) : Bytes w (if cap = c then A else A.map (·.add c)) z := by
  have := h.bytes.cut (k := c) h.cap_le.1
  rw [← hc, List.drop_left] at this
  rw [← hc]
  exact this
def numCells (k : Int) (V : Nat) : Array Value := #[.int .i64 k, .int .u64 (V : Int)]

theorem numAt {w : World} {g : Nat} {t : TypeId} {k : Int} {V : Nat} (h : Is w g t (numCells k V)) : w.cell? ⟨g, 0, none⟩ = some (.int .i64 k) ∧ w.cell? ⟨g, 1, none⟩ = some (.int .u64 (V : Int)) := ⟨h.cell 0, h.cell 1⟩

set_option maxRecDepth 100000 in
set_option maxHeartbeats 3200000 in
theorem back_any (A0 B0 : Option Addr) (ca0 cb0 : Nat) (a z : List UInt8) (k : Int) (V : Nat) (w : World) (hw : WidthsAt w) (hA : Bytes w A0 a) (hB : Bytes w B0 z) (hC : A0 = none → ca0 = 0) (hD : B0 = none → cb0 = 0)
    (ha : a.length ≤ 1048576) (hz : z.length ≤ 1048576) (hk : -9223372036854775808 ≤ k) (hk2 : k ≤ 9223372036854775807) (hV : V < 18446744073709551616) :
    Calls Tryd.prog 5 #[.slice A0 a.length ca0, .slice B0 z.length cb0, .agg (numCells k V)] w fun e w' => e = .returned (.bool true) ∧ Below w.heap.size w w' := by
  have hgw := hw.lt
  obtain ⟨hbn, hin⟩ := one_new w (numCells k V) 39
  have HWn := Lib.hid (hw.below hbn hgw)
  have HIn := Lib.hid hin
  have HW := Lib.hid hw
  have HA0 := Lib.hid hA
  have HA1 := Lib.hid hB
  have HC0 := Lib.hid hC
  have HC1 := Lib.hid hD
  have hmod : k % 4 = 0 ∨ k % 4 = 1 ∨ k % 4 = 2 ∨ k % 4 = 3 := by omega
  clear hw hA hB hC hD hin
  rcases hmod with hm4 | hm4 | hm4 | hm4
  · have HK := Lib.hid (show k % ((4 : Nat) : Int) = 0 from hm4)
    clear hm4
    obtain ⟨v, hv⟩ : ∃ v, V % 256 = v := ⟨_, rfl⟩
    have hvP : v < 256 ^ 1 := by have : (256 : Nat) ^ 1 = 256 := rfl
                                 omega
    have hv64 : v < 18446744073709551616 := by omega
    have hmv : (V : Int).tmod 256 = (v : Int) := by rw [Int.tmod_eq_emod_of_nonneg (by omega)]; omega
    have hvo : (1 : Nat) = 8 ∨ v < 256 ^ 1 := .inr hvP
    clear hv
    have HP1 := Lib.hid (put_mid a z 1 v rfl hvo (List.replicate 1 0) (by simp))
    have hg := get_mid a (les v 1) z 1 rfl (les_length _ _)
    rw [le_les, Nat.mod_eq_of_lt hvP] at hg
    have HG1 := Lib.hid (show getV (a ++ les v 1 ++ z) (a.length : Int) 1 = v ∧ getE (a ++ les v 1 ++ z).length (a.length : Int) 1 = 0 from hg)
    clear hg
    obtain ⟨c, hc⟩ : ∃ c, a.length + 1 = c := ⟨_, rfl⟩
    have hwr : IntKind.i64.wrap ((a.length : Int) + 1) = (c : Int) := by rw [IntWalk.i64_in _ (by omega)]; omega
    have HC := Lib.hid (show (a ++ les v 1).length = c by rw [List.length_append, les_length]; exact hc)
    have HCC := Lib.hid hc
    have hc2 : c ≤ a.length + 1 := by omega
    clear hc

    go_enter Tryd.func5, Tryd.ntmps5
    go_wp2_with (first
      | (go_at_call 7; refine (fixed_any _ HWn.out).mono ?_; rintro e w1 ⟨rfl, hb1⟩; have hB1 := hbn.trans (hb1.mono hbn.size); have hs1 := hB1.size; have HI1 := Lib.hid (HIn.out.below hb1 HIn.out.lt); obtain ⟨i0, i1⟩ := numAt HI1.out)
      | (go_at_call 12; refine (mod_any k 4 (by decide) (by decide) hk hk2 _).mono ?_; rintro e w' ⟨rfl, rfl⟩; rw [HK.out])
      | (at_builtin; refine wpList_append_u8 rfl (.tmp 34) (.tmp 35) rfl w.heap.size (some ⟨w1.heap.size, 0, none⟩) 0 [] rfl (Mine.empty w1 hs1) A0 ca0 a rfl HC0.out ((HA0.out.later hB1).later (below_new w1 _)) (by simp; omega) (by simp; omega) ?_; intro A2 c2 w2 hm2 hg2 hb2; have HM2 := Lib.hid (show Mine w2 w.heap.size A2 c2 a from hm2); have hB2 := hB1.trans (((below_new w1 (.cells #[] 5)).mono hs1).trans hb2); have hs2 := hB2.size)
      | (at_builtin; refine wpList_append_zeros rfl (.tmp 36) (.tmp 37) rfl w.heap.size A2 c2 a rfl HM2.out 1 rfl (by decide) (by omega) hs2 ?_; intro A3 c3 w3 hm3 hg3 hb3; obtain ⟨l1, hl1⟩ : ∃ l1, a ++ List.replicate 1 0 = l1 := ⟨_, rfl⟩; rw [hl1] at hm3 ⊢; have HL1 := Lib.hid hl1; have hll1 : l1.length ≤ 1048600 := (by rw [← hl1]; simp; omega); clear hl1; have HM3 := Lib.hid hm3; have hB3 := hB2.trans hb3; have hs3 := hB3.size)
      | (at_builtin; refine wpList_append_u8 rfl (.tmp 38) (.tmp 39) rfl w.heap.size A3 c3 l1 rfl HM3.out B0 cb0 z rfl HC1.out (HA1.out.later hB3) (by omega) hs3 ?_; intro A4 c4 w4 hm4 hg4 hb4; obtain ⟨l2, hl2⟩ : ∃ l2, l1 ++ z = l2 := ⟨_, rfl⟩; rw [hl2] at hm4 ⊢; have hll2 : l2.length = a.length + 1 + z.length := (by rw [← hl2, ← HL1.out]; simp; try omega); have HLB := Lib.hid (show (a ++ les v 1 ++ z).length = l2.length by rw [hll2]; simp [les_length]; try omega); have HE2 := Lib.hid (show putE l2.length a.length 1 v = 0 ∧ putL l2 a.length 1 v = a ++ les v 1 ++ z by rw [← hl2, ← HL1.out]; exact HP1.out); have HLC := Lib.hid hll2; have hq3 : l2.length ≤ c4 := hm4.cap_le.1; have hq1 : a.length ≤ c4 := (by omega); have hq2 : c ≤ l2.length := (by have := HCC.out; omega); have hlk : l2.length ≤ 2097200 := (by omega); clear hl2 hll2; have HM4 := Lib.hid hm4; have hB4 := hB3.trans hb4; have hs4 := hB4.size)
      | (go_at_call 13; with_reducible refine (put_to w.heap.size A4 c4 l2 l2.length rfl (a.length : Int) 1 v 0 (a ++ les v 1 ++ z) HE2.out.1 HE2.out.2 _ (HW.out.below hB4 hgw) HM4.out (by omega) (by omega) (by omega) hv64).mono ?_; rintro e w5 ⟨rfl, hm5, hk5⟩; have HM5 := Lib.hid hm5; have hB5 := hB4.trans (hk5.below hs4 HM4.out.of_ge); have hs5 := hB5.size; have HW5 := Lib.hid (HW.out.below hB5 hgw))
      | (go_at_call 14; with_reducible refine (get_to A4 c4 (a ++ les v 1 ++ z) l2.length HLB.out (a.length : Int) 1 v 0 HG1.out.1 HG1.out.2 _ HW5.out HM5.out.bytes (by omega) (by omega) (by omega)).mono ?_; rintro e w' ⟨rfl, rfl⟩)
      | (go_at_call 9; with_reducible refine (same_eq A4 A0 c4 ca0 a a.length rfl _ HM5.out.head2 (HA0.out.later hB5) (by omega)).mono ?_; rintro e w6 ⟨rfl, hb6⟩; have hB6 := hB5.trans (hb6.mono hs5); have hs6 := hB6.size; have HM6 := Lib.hid (HM5.out.later hb6); obtain ⟨A5, hA5⟩ : ∃ A5, (if c4 = c then A4 else Option.map (fun x => x.add c) A4) = A5 := ⟨_, rfl⟩; have hb5t := HM6.out.tail_at HC.out; rw [hA5] at hb5t)
      | (go_at_call 9; with_reducible refine (same_eq3 A5 B0 (c4 - c) cb0 z (l2.length - c) z.length (by have := HLC.out; have := HCC.out; omega) rfl _ hb5t (HA1.out.later hB6) (by omega)).mono ?_; rintro e w7 ⟨rfl, hb7⟩; have hB7 := hB6.trans (hb7.mono hs6); have hs7 := hB7.size; have HM7 := Lib.hid (HM6.out.later hb7); have HW7 := Lib.hid (HW.out.below hB7 hgw)))

    clear HM2 HM3 HM4 HM5 HM6 HE2 hb5t hb1 hb2 hb3 hb4 hb6 hb7 hm2 hm3 hm4 hm5 hg2 hg3 hg4
    have hB7s : w.heap.size ≤ w7.heap.size := hB7.size
    go_loop [13, 14] (fun s i => ∃ j : Nat, j ≤ 1 ∧ i = .int .i64 ((j : Int) - 1) ∧ s = .int .u64 (le ((les v 1).drop j) : Int)) (fun _ i => (intOf i + 1).toNat)
    case atStart => exact ⟨1, Nat.le_refl _, rfl, by rw [List.drop_eq_nil_of_le (by rw [les_length]; omega)]; rfl⟩
    case round =>
      obtain ⟨j, hj, rfl, rfl⟩ := hrel
      by_cases h0 : 0 < j
      · obtain ⟨q, rfl⟩ : ∃ q, j = q + 1 := ⟨j - 1, by omega⟩
        rw [show ((q + 1 : Nat) : Int) - 1 = (q : Int) by omega]
        have hql : q < (les v 1).length := by rw [les_length]; omega
        have ho := get_one a (les v 1) z q hql
        have hd := List.drop_eq_getElem_cons hql
        have hx := (les v 1)[q].toNat_lt
        have hsum : le ((les v 1).drop q) = (les v 1)[q].toNat + 256 * le ((les v 1).drop (q + 1)) := by rw [hd]; rfl
        have hlt2 := le_lt ((les v 1).drop (q + 1))
        have hlt3 : le ((les v 1).drop (q + 1)) < 72057594037927936 := Nat.lt_of_lt_of_le hlt2 (Nat.le_trans (Nat.pow_le_pow_right (by decide) (show ((les v 1).drop (q + 1)).length ≤ 7 by rw [List.length_drop, les_length]; omega)) (by decide))
        generalize (les v 1)[q].toNat = x at ho hx hsum
        have HO := Lib.hid ho
        have HS := Lib.hid hsum
        generalize le ((les v 1).drop (q + 1)) = S at HS hlt3
        have hsh : IntKind.u64.wrap ((S : Int) * 256) = (S : Int) * 256 := IntWalk.u64_in _ (by omega)
        have hsa : IntKind.u64.wrap ((S : Int) * 256 + (x : Int)) = (S : Int) * 256 + (x : Int) := IntWalk.u64_in _ (by omega)
        have hx2 : (x : Int) ≤ 255 := by omega
        have hwq : IntKind.i64.wrap ((a.length : Int) + (q : Int)) = ((a.length + q : Nat) : Int) := by rw [IntWalk.i64_in _ (by omega)]; omega
        have hq0 : (0 : Int) ≤ (q : Int) := by omega
        clear ho hd hsum hlt2 hql
        go_wp2_with (go_at_call 14; refine (get_to A4 c4 (a ++ les v 1 ++ z) l2.length HLB.out ((a.length + q : Nat) : Int) 1 x 0 HO.out.1 HO.out.2 _ HW7.out HM7.out.bytes (by omega) (by omega) (by omega)).mono ?_; rintro e w' ⟨rfl, rfl⟩)
        go_round
        case rel => exact ⟨q, by omega, by go_num, by rw [HS.out]; congr 1; omega⟩
        case measure => simp [intOf]
      · obtain rfl : j = 0 := by omega
        have hle : le ((les v 1).drop 0) = v := by rw [List.drop_zero, le_les]; exact Nat.mod_eq_of_lt hvP
        rw [hle]
        obtain ⟨bv, hbe⟩ : ∃ bv, 256 + v = bv := ⟨_, rfl⟩
        have hbv : IntKind.u64.wrap (256 + (v : Int)) = (bv : Int) := by rw [IntWalk.u64_in _ (by omega)]; omega
        have hbm : bv ≤ 8589934592 := by omega
        have hnl : 1 ≤ l2.length := by have := HLC.out; omega
        obtain ⟨d1, hd1⟩ : ∃ d1, l2.length - 1 = d1 := ⟨_, rfl⟩
        obtain ⟨d2, hd2⟩ : ∃ d2, d1 + 1 = d2 := ⟨_, rfl⟩
        have hw1 : IntKind.i64.wrap ((l2.length : Int) - 1) = (d1 : Int) := by rw [IntWalk.i64_in _ (by omega)]; omega
        have hw2 : IntKind.i64.wrap ((d1 : Int) + 1) = (d2 : Int) := by rw [IntWalk.i64_in _ (by omega)]; omega
        have hd3 : d2 ≤ 2097200 := by omega
        have hL1 : lies (a ++ les v 1 ++ z).length (d2 : Int) 1 = false := by rw [HLB.out]; simp [lies]; omega
        have hL2 : lies (a ++ les v 1 ++ z).length (-1) 1 = false := by simp [lies]
        have hE1 : putE (a ++ les v 1 ++ z).length (d2 : Int) 1 v = 20 := putE_lie _ _ 1 v rfl hvo hL1
        have hE2 : putE (a ++ les v 1 ++ z).length (-1) 1 v = 20 := putE_lie _ _ 1 v rfl hvo hL2
        have hE0 : putE (a ++ les v 1 ++ z).length (a.length : Int) 1 bv = 1 := putE_big _ _ 1 bv (by decide) (by have h9 : (256 : Nat) ^ 1 = 256 := rfl; omega)
        have HE0 := Lib.hid hE0
        clear hE0
        have HE1 := Lib.hid hE1
        have HE2 := Lib.hid hE2
        have HWb := Lib.hid hgw
        clear hle hL1 hL2 hE1 hE2 hd1 hd2
        go_wp2_with (first
          | (at_builtin; refine wpList_append_u8 rfl (.tmp 111) (.tmp 112) rfl w7.heap.size (some ⟨w7.heap.size, 0, none⟩) 0 [] rfl (Mine.empty w7 (Nat.le_refl _)) A4 c4 (a ++ les v 1 ++ z) (by rw [HLB.out]; rfl) (fun h => by subst h; exact HM7.out.none_cap.1) (HM7.out.later (below_new w7 _)).bytes (by rw [HLB.out]; simp; omega) (by simp) ?_; intro AW cW w8 hm8 hg8 hb8; rw [show (([] : List UInt8) ++ (a ++ les v 1 ++ z)).length = l2.length from HLB.out]; have HR8 := Lib.hid (show Mine w8 w7.heap.size AW cW (a ++ les v 1 ++ z) from hm8); have hB78 := (below_new w7 (.cells #[] 5)).trans hb8; have HM8 := Lib.hid (HM7.out.later hB78); have hB8 := hB7.trans (hB78.mono hB7s); have hs8 := hB8.size; have hap := apart_new HM7.out.lt HR8.out.of_ge; have HW8 := Lib.hid (HW.out.below hB8 hgw))
          | (go_at_call 13; with_reducible refine (put_to w.heap.size A4 c4 (a ++ les v 1 ++ z) l2.length HLB.out (a.length : Int) 1 bv 1 (a ++ les v 1 ++ z) HE0.out (putL_same _ _ _ _ (by rw [HE0.out]; decide)) _ HW8.out HM8.out (by omega) (by omega) (by omega) (by omega)).mono ?_; rintro e w9 ⟨rfl, hm9, hk9⟩; have HM9 := Lib.hid hm9; have hB9 := hB8.trans (hk9.below hs8 HM8.out.of_ge); have hs9 := hB9.size; have HW9 := Lib.hid (HW.out.below hB9 hgw); have HR9 := Lib.hid (HR8.out.keeps_of hk9 hap.symm))
          | (go_at_call 13; with_reducible refine (put_to w.heap.size A4 c4 (a ++ les v 1 ++ z) l2.length HLB.out (d2 : Int) 1 v 20 (a ++ les v 1 ++ z) HE1.out (putL_same _ _ _ _ (by rw [HE1.out]; decide)) _ HW9.out HM9.out (by omega) (by omega) (by omega) hv64).mono ?_; rintro e w10 ⟨rfl, hm10, hk10⟩; have HM10 := Lib.hid hm10; have hB10 := hB9.trans (hk10.below hs9 HM9.out.of_ge); have hs10 := hB10.size; have HW10 := Lib.hid (HW.out.below hB10 hgw); have HR10 := Lib.hid (HR9.out.keeps_of hk10 hap.symm))
          | (go_at_call 13; with_reducible refine (put_to w.heap.size A4 c4 (a ++ les v 1 ++ z) l2.length HLB.out (-1) 1 v 20 (a ++ les v 1 ++ z) HE2.out (putL_same _ _ _ _ (by rw [HE2.out]; decide)) _ HW10.out HM10.out (by omega) (by omega) (by omega) hv64).mono ?_; rintro e w11 ⟨rfl, hm11, hk11⟩; have HM11 := Lib.hid hm11; have hB11 := hB10.trans (hk11.below hs10 HM10.out.of_ge); have hs11 := hB11.size; have HR11 := Lib.hid (HR10.out.keeps_of hk11 hap.symm))
          | (go_at_call 9; refine (same_eq3 A4 AW c4 cW (a ++ les v 1 ++ z) l2.length l2.length HLB.out HLB.out _ HM11.out.bytes HR11.out.bytes (by omega)).mono ?_; rintro e w12 ⟨rfl, hb12⟩))
        go_ret
        exact ⟨rfl, hB11.trans (hb12.mono hs11)⟩
  · have HK := Lib.hid (show k % ((4 : Nat) : Int) = 1 from hm4)
    clear hm4
    obtain ⟨v, hv⟩ : ∃ v, V % 65536 = v := ⟨_, rfl⟩
    have hvP : v < 256 ^ 2 := by have : (256 : Nat) ^ 2 = 65536 := rfl
                                 omega
    have hv64 : v < 18446744073709551616 := by omega
    have hmv : (V : Int).tmod 65536 = (v : Int) := by rw [Int.tmod_eq_emod_of_nonneg (by omega)]; omega
    have hvo : (2 : Nat) = 8 ∨ v < 256 ^ 2 := .inr hvP
    clear hv
    have HP1 := Lib.hid (put_mid a z 2 v rfl hvo (List.replicate 2 0) (by simp))
    have hg := get_mid a (les v 2) z 2 rfl (les_length _ _)
    rw [le_les, Nat.mod_eq_of_lt hvP] at hg
    have HG1 := Lib.hid (show getV (a ++ les v 2 ++ z) (a.length : Int) 2 = v ∧ getE (a ++ les v 2 ++ z).length (a.length : Int) 2 = 0 from hg)
    clear hg
    obtain ⟨c, hc⟩ : ∃ c, a.length + 2 = c := ⟨_, rfl⟩
    have hwr : IntKind.i64.wrap ((a.length : Int) + 2) = (c : Int) := by rw [IntWalk.i64_in _ (by omega)]; omega
    have HC := Lib.hid (show (a ++ les v 2).length = c by rw [List.length_append, les_length]; exact hc)
    have HCC := Lib.hid hc
    have hc2 : c ≤ a.length + 2 := by omega
    clear hc

    go_enter Tryd.func5, Tryd.ntmps5
    go_wp2_with (first
      | (go_at_call 7; refine (fixed_any _ HWn.out).mono ?_; rintro e w1 ⟨rfl, hb1⟩; have hB1 := hbn.trans (hb1.mono hbn.size); have hs1 := hB1.size; have HI1 := Lib.hid (HIn.out.below hb1 HIn.out.lt); obtain ⟨i0, i1⟩ := numAt HI1.out)
      | (go_at_call 12; refine (mod_any k 4 (by decide) (by decide) hk hk2 _).mono ?_; rintro e w' ⟨rfl, rfl⟩; rw [HK.out])
      | (at_builtin; refine wpList_append_u8 rfl (.tmp 34) (.tmp 35) rfl w.heap.size (some ⟨w1.heap.size, 0, none⟩) 0 [] rfl (Mine.empty w1 hs1) A0 ca0 a rfl HC0.out ((HA0.out.later hB1).later (below_new w1 _)) (by simp; omega) (by simp; omega) ?_; intro A2 c2 w2 hm2 hg2 hb2; have HM2 := Lib.hid (show Mine w2 w.heap.size A2 c2 a from hm2); have hB2 := hB1.trans (((below_new w1 (.cells #[] 5)).mono hs1).trans hb2); have hs2 := hB2.size)
      | (at_builtin; refine wpList_append_zeros rfl (.tmp 36) (.tmp 37) rfl w.heap.size A2 c2 a rfl HM2.out 2 rfl (by decide) (by omega) hs2 ?_; intro A3 c3 w3 hm3 hg3 hb3; obtain ⟨l1, hl1⟩ : ∃ l1, a ++ List.replicate 2 0 = l1 := ⟨_, rfl⟩; rw [hl1] at hm3 ⊢; have HL1 := Lib.hid hl1; have hll1 : l1.length ≤ 1048600 := (by rw [← hl1]; simp; omega); clear hl1; have HM3 := Lib.hid hm3; have hB3 := hB2.trans hb3; have hs3 := hB3.size)
      | (at_builtin; refine wpList_append_u8 rfl (.tmp 38) (.tmp 39) rfl w.heap.size A3 c3 l1 rfl HM3.out B0 cb0 z rfl HC1.out (HA1.out.later hB3) (by omega) hs3 ?_; intro A4 c4 w4 hm4 hg4 hb4; obtain ⟨l2, hl2⟩ : ∃ l2, l1 ++ z = l2 := ⟨_, rfl⟩; rw [hl2] at hm4 ⊢; have hll2 : l2.length = a.length + 2 + z.length := (by rw [← hl2, ← HL1.out]; simp; try omega); have HLB := Lib.hid (show (a ++ les v 2 ++ z).length = l2.length by rw [hll2]; simp [les_length]; try omega); have HE2 := Lib.hid (show putE l2.length a.length 2 v = 0 ∧ putL l2 a.length 2 v = a ++ les v 2 ++ z by rw [← hl2, ← HL1.out]; exact HP1.out); have HLC := Lib.hid hll2; have hq3 : l2.length ≤ c4 := hm4.cap_le.1; have hq1 : a.length ≤ c4 := (by omega); have hq2 : c ≤ l2.length := (by have := HCC.out; omega); have hlk : l2.length ≤ 2097200 := (by omega); clear hl2 hll2; have HM4 := Lib.hid hm4; have hB4 := hB3.trans hb4; have hs4 := hB4.size)
      | (go_at_call 13; with_reducible refine (put_to w.heap.size A4 c4 l2 l2.length rfl (a.length : Int) 2 v 0 (a ++ les v 2 ++ z) HE2.out.1 HE2.out.2 _ (HW.out.below hB4 hgw) HM4.out (by omega) (by omega) (by omega) hv64).mono ?_; rintro e w5 ⟨rfl, hm5, hk5⟩; have HM5 := Lib.hid hm5; have hB5 := hB4.trans (hk5.below hs4 HM4.out.of_ge); have hs5 := hB5.size; have HW5 := Lib.hid (HW.out.below hB5 hgw))
      | (go_at_call 14; with_reducible refine (get_to A4 c4 (a ++ les v 2 ++ z) l2.length HLB.out (a.length : Int) 2 v 0 HG1.out.1 HG1.out.2 _ HW5.out HM5.out.bytes (by omega) (by omega) (by omega)).mono ?_; rintro e w' ⟨rfl, rfl⟩)
      | (go_at_call 9; with_reducible refine (same_eq A4 A0 c4 ca0 a a.length rfl _ HM5.out.head2 (HA0.out.later hB5) (by omega)).mono ?_; rintro e w6 ⟨rfl, hb6⟩; have hB6 := hB5.trans (hb6.mono hs5); have hs6 := hB6.size; have HM6 := Lib.hid (HM5.out.later hb6); obtain ⟨A5, hA5⟩ : ∃ A5, (if c4 = c then A4 else Option.map (fun x => x.add c) A4) = A5 := ⟨_, rfl⟩; have hb5t := HM6.out.tail_at HC.out; rw [hA5] at hb5t)
      | (go_at_call 9; with_reducible refine (same_eq3 A5 B0 (c4 - c) cb0 z (l2.length - c) z.length (by have := HLC.out; have := HCC.out; omega) rfl _ hb5t (HA1.out.later hB6) (by omega)).mono ?_; rintro e w7 ⟨rfl, hb7⟩; have hB7 := hB6.trans (hb7.mono hs6); have hs7 := hB7.size; have HM7 := Lib.hid (HM6.out.later hb7); have HW7 := Lib.hid (HW.out.below hB7 hgw)))

    clear HM2 HM3 HM4 HM5 HM6 HE2 hb5t hb1 hb2 hb3 hb4 hb6 hb7 hm2 hm3 hm4 hm5 hg2 hg3 hg4
    have hB7s : w.heap.size ≤ w7.heap.size := hB7.size
    go_loop [13, 14] (fun s i => ∃ j : Nat, j ≤ 2 ∧ i = .int .i64 ((j : Int) - 1) ∧ s = .int .u64 (le ((les v 2).drop j) : Int)) (fun _ i => (intOf i + 1).toNat)
    case atStart => exact ⟨2, Nat.le_refl _, rfl, by rw [List.drop_eq_nil_of_le (by rw [les_length]; omega)]; rfl⟩
    case round =>
      obtain ⟨j, hj, rfl, rfl⟩ := hrel
      by_cases h0 : 0 < j
      · obtain ⟨q, rfl⟩ : ∃ q, j = q + 1 := ⟨j - 1, by omega⟩
        rw [show ((q + 1 : Nat) : Int) - 1 = (q : Int) by omega]
        have hql : q < (les v 2).length := by rw [les_length]; omega
        have ho := get_one a (les v 2) z q hql
        have hd := List.drop_eq_getElem_cons hql
        have hx := (les v 2)[q].toNat_lt
        have hsum : le ((les v 2).drop q) = (les v 2)[q].toNat + 256 * le ((les v 2).drop (q + 1)) := by rw [hd]; rfl
        have hlt2 := le_lt ((les v 2).drop (q + 1))
        have hlt3 : le ((les v 2).drop (q + 1)) < 72057594037927936 := Nat.lt_of_lt_of_le hlt2 (Nat.le_trans (Nat.pow_le_pow_right (by decide) (show ((les v 2).drop (q + 1)).length ≤ 7 by rw [List.length_drop, les_length]; omega)) (by decide))
        generalize (les v 2)[q].toNat = x at ho hx hsum
        have HO := Lib.hid ho
        have HS := Lib.hid hsum
        generalize le ((les v 2).drop (q + 1)) = S at HS hlt3
        have hsh : IntKind.u64.wrap ((S : Int) * 256) = (S : Int) * 256 := IntWalk.u64_in _ (by omega)
        have hsa : IntKind.u64.wrap ((S : Int) * 256 + (x : Int)) = (S : Int) * 256 + (x : Int) := IntWalk.u64_in _ (by omega)
        have hx2 : (x : Int) ≤ 255 := by omega
        have hwq : IntKind.i64.wrap ((a.length : Int) + (q : Int)) = ((a.length + q : Nat) : Int) := by rw [IntWalk.i64_in _ (by omega)]; omega
        have hq0 : (0 : Int) ≤ (q : Int) := by omega
        clear ho hd hsum hlt2 hql
        go_wp2_with (go_at_call 14; refine (get_to A4 c4 (a ++ les v 2 ++ z) l2.length HLB.out ((a.length + q : Nat) : Int) 1 x 0 HO.out.1 HO.out.2 _ HW7.out HM7.out.bytes (by omega) (by omega) (by omega)).mono ?_; rintro e w' ⟨rfl, rfl⟩)
        go_round
        case rel => exact ⟨q, by omega, by go_num, by rw [HS.out]; congr 1; omega⟩
        case measure => simp [intOf]
      · obtain rfl : j = 0 := by omega
        have hle : le ((les v 2).drop 0) = v := by rw [List.drop_zero, le_les]; exact Nat.mod_eq_of_lt hvP
        rw [hle]
        obtain ⟨bv, hbe⟩ : ∃ bv, 65536 + v = bv := ⟨_, rfl⟩
        have hbv : IntKind.u64.wrap (65536 + (v : Int)) = (bv : Int) := by rw [IntWalk.u64_in _ (by omega)]; omega
        have hbm : bv ≤ 8589934592 := by omega
        have hnl : 2 ≤ l2.length := by have := HLC.out; omega
        obtain ⟨d1, hd1⟩ : ∃ d1, l2.length - 2 = d1 := ⟨_, rfl⟩
        obtain ⟨d2, hd2⟩ : ∃ d2, d1 + 1 = d2 := ⟨_, rfl⟩
        have hw1 : IntKind.i64.wrap ((l2.length : Int) - 2) = (d1 : Int) := by rw [IntWalk.i64_in _ (by omega)]; omega
        have hw2 : IntKind.i64.wrap ((d1 : Int) + 1) = (d2 : Int) := by rw [IntWalk.i64_in _ (by omega)]; omega
        have hd3 : d2 ≤ 2097200 := by omega
        have hL1 : lies (a ++ les v 2 ++ z).length (d2 : Int) 2 = false := by rw [HLB.out]; simp [lies]; omega
        have hL2 : lies (a ++ les v 2 ++ z).length (-1) 2 = false := by simp [lies]
        have hE1 : putE (a ++ les v 2 ++ z).length (d2 : Int) 2 v = 20 := putE_lie _ _ 2 v rfl hvo hL1
        have hE2 : putE (a ++ les v 2 ++ z).length (-1) 2 v = 20 := putE_lie _ _ 2 v rfl hvo hL2
        have hE0 : putE (a ++ les v 2 ++ z).length (a.length : Int) 2 bv = 1 := putE_big _ _ 2 bv (by decide) (by have h9 : (256 : Nat) ^ 2 = 65536 := rfl; omega)
        have HE0 := Lib.hid hE0
        clear hE0
        have HE1 := Lib.hid hE1
        have HE2 := Lib.hid hE2
        have HWb := Lib.hid hgw
        clear hle hL1 hL2 hE1 hE2 hd1 hd2
        go_wp2_with (first
          | (at_builtin; refine wpList_append_u8 rfl (.tmp 111) (.tmp 112) rfl w7.heap.size (some ⟨w7.heap.size, 0, none⟩) 0 [] rfl (Mine.empty w7 (Nat.le_refl _)) A4 c4 (a ++ les v 2 ++ z) (by rw [HLB.out]; rfl) (fun h => by subst h; exact HM7.out.none_cap.1) (HM7.out.later (below_new w7 _)).bytes (by rw [HLB.out]; simp; omega) (by simp) ?_; intro AW cW w8 hm8 hg8 hb8; rw [show (([] : List UInt8) ++ (a ++ les v 2 ++ z)).length = l2.length from HLB.out]; have HR8 := Lib.hid (show Mine w8 w7.heap.size AW cW (a ++ les v 2 ++ z) from hm8); have hB78 := (below_new w7 (.cells #[] 5)).trans hb8; have HM8 := Lib.hid (HM7.out.later hB78); have hB8 := hB7.trans (hB78.mono hB7s); have hs8 := hB8.size; have hap := apart_new HM7.out.lt HR8.out.of_ge; have HW8 := Lib.hid (HW.out.below hB8 hgw))
          | (go_at_call 13; with_reducible refine (put_to w.heap.size A4 c4 (a ++ les v 2 ++ z) l2.length HLB.out (a.length : Int) 2 bv 1 (a ++ les v 2 ++ z) HE0.out (putL_same _ _ _ _ (by rw [HE0.out]; decide)) _ HW8.out HM8.out (by omega) (by omega) (by omega) (by omega)).mono ?_; rintro e w9 ⟨rfl, hm9, hk9⟩; have HM9 := Lib.hid hm9; have hB9 := hB8.trans (hk9.below hs8 HM8.out.of_ge); have hs9 := hB9.size; have HW9 := Lib.hid (HW.out.below hB9 hgw); have HR9 := Lib.hid (HR8.out.keeps_of hk9 hap.symm))
          | (go_at_call 13; with_reducible refine (put_to w.heap.size A4 c4 (a ++ les v 2 ++ z) l2.length HLB.out (d2 : Int) 2 v 20 (a ++ les v 2 ++ z) HE1.out (putL_same _ _ _ _ (by rw [HE1.out]; decide)) _ HW9.out HM9.out (by omega) (by omega) (by omega) hv64).mono ?_; rintro e w10 ⟨rfl, hm10, hk10⟩; have HM10 := Lib.hid hm10; have hB10 := hB9.trans (hk10.below hs9 HM9.out.of_ge); have hs10 := hB10.size; have HW10 := Lib.hid (HW.out.below hB10 hgw); have HR10 := Lib.hid (HR9.out.keeps_of hk10 hap.symm))
          | (go_at_call 13; with_reducible refine (put_to w.heap.size A4 c4 (a ++ les v 2 ++ z) l2.length HLB.out (-1) 2 v 20 (a ++ les v 2 ++ z) HE2.out (putL_same _ _ _ _ (by rw [HE2.out]; decide)) _ HW10.out HM10.out (by omega) (by omega) (by omega) hv64).mono ?_; rintro e w11 ⟨rfl, hm11, hk11⟩; have HM11 := Lib.hid hm11; have hB11 := hB10.trans (hk11.below hs10 HM10.out.of_ge); have hs11 := hB11.size; have HR11 := Lib.hid (HR10.out.keeps_of hk11 hap.symm))
          | (go_at_call 9; refine (same_eq3 A4 AW c4 cW (a ++ les v 2 ++ z) l2.length l2.length HLB.out HLB.out _ HM11.out.bytes HR11.out.bytes (by omega)).mono ?_; rintro e w12 ⟨rfl, hb12⟩))
        go_ret
        exact ⟨rfl, hB11.trans (hb12.mono hs11)⟩
  · have HK := Lib.hid (show k % ((4 : Nat) : Int) = 2 from hm4)
    clear hm4
    obtain ⟨v, hv⟩ : ∃ v, V % 4294967296 = v := ⟨_, rfl⟩
    have hvP : v < 256 ^ 4 := by have : (256 : Nat) ^ 4 = 4294967296 := rfl
                                 omega
    have hv64 : v < 18446744073709551616 := by omega
    have hmv : (V : Int).tmod 4294967296 = (v : Int) := by rw [Int.tmod_eq_emod_of_nonneg (by omega)]; omega
    have hvo : (4 : Nat) = 8 ∨ v < 256 ^ 4 := .inr hvP
    clear hv
    have HP1 := Lib.hid (put_mid a z 4 v rfl hvo (List.replicate 4 0) (by simp))
    have hg := get_mid a (les v 4) z 4 rfl (les_length _ _)
    rw [le_les, Nat.mod_eq_of_lt hvP] at hg
    have HG1 := Lib.hid (show getV (a ++ les v 4 ++ z) (a.length : Int) 4 = v ∧ getE (a ++ les v 4 ++ z).length (a.length : Int) 4 = 0 from hg)
    clear hg
    obtain ⟨c, hc⟩ : ∃ c, a.length + 4 = c := ⟨_, rfl⟩
    have hwr : IntKind.i64.wrap ((a.length : Int) + 4) = (c : Int) := by rw [IntWalk.i64_in _ (by omega)]; omega
    have HC := Lib.hid (show (a ++ les v 4).length = c by rw [List.length_append, les_length]; exact hc)
    have HCC := Lib.hid hc
    have hc2 : c ≤ a.length + 4 := by omega
    clear hc

    go_enter Tryd.func5, Tryd.ntmps5
    go_wp2_with (first
      | (go_at_call 7; refine (fixed_any _ HWn.out).mono ?_; rintro e w1 ⟨rfl, hb1⟩; have hB1 := hbn.trans (hb1.mono hbn.size); have hs1 := hB1.size; have HI1 := Lib.hid (HIn.out.below hb1 HIn.out.lt); obtain ⟨i0, i1⟩ := numAt HI1.out)
      | (go_at_call 12; refine (mod_any k 4 (by decide) (by decide) hk hk2 _).mono ?_; rintro e w' ⟨rfl, rfl⟩; rw [HK.out])
      | (at_builtin; refine wpList_append_u8 rfl (.tmp 34) (.tmp 35) rfl w.heap.size (some ⟨w1.heap.size, 0, none⟩) 0 [] rfl (Mine.empty w1 hs1) A0 ca0 a rfl HC0.out ((HA0.out.later hB1).later (below_new w1 _)) (by simp; omega) (by simp; omega) ?_; intro A2 c2 w2 hm2 hg2 hb2; have HM2 := Lib.hid (show Mine w2 w.heap.size A2 c2 a from hm2); have hB2 := hB1.trans (((below_new w1 (.cells #[] 5)).mono hs1).trans hb2); have hs2 := hB2.size)
      | (at_builtin; refine wpList_append_zeros rfl (.tmp 36) (.tmp 37) rfl w.heap.size A2 c2 a rfl HM2.out 4 rfl (by decide) (by omega) hs2 ?_; intro A3 c3 w3 hm3 hg3 hb3; obtain ⟨l1, hl1⟩ : ∃ l1, a ++ List.replicate 4 0 = l1 := ⟨_, rfl⟩; rw [hl1] at hm3 ⊢; have HL1 := Lib.hid hl1; have hll1 : l1.length ≤ 1048600 := (by rw [← hl1]; simp; omega); clear hl1; have HM3 := Lib.hid hm3; have hB3 := hB2.trans hb3; have hs3 := hB3.size)
      | (at_builtin; refine wpList_append_u8 rfl (.tmp 38) (.tmp 39) rfl w.heap.size A3 c3 l1 rfl HM3.out B0 cb0 z rfl HC1.out (HA1.out.later hB3) (by omega) hs3 ?_; intro A4 c4 w4 hm4 hg4 hb4; obtain ⟨l2, hl2⟩ : ∃ l2, l1 ++ z = l2 := ⟨_, rfl⟩; rw [hl2] at hm4 ⊢; have hll2 : l2.length = a.length + 4 + z.length := (by rw [← hl2, ← HL1.out]; simp; try omega); have HLB := Lib.hid (show (a ++ les v 4 ++ z).length = l2.length by rw [hll2]; simp [les_length]; try omega); have HE2 := Lib.hid (show putE l2.length a.length 4 v = 0 ∧ putL l2 a.length 4 v = a ++ les v 4 ++ z by rw [← hl2, ← HL1.out]; exact HP1.out); have HLC := Lib.hid hll2; have hq3 : l2.length ≤ c4 := hm4.cap_le.1; have hq1 : a.length ≤ c4 := (by omega); have hq2 : c ≤ l2.length := (by have := HCC.out; omega); have hlk : l2.length ≤ 2097200 := (by omega); clear hl2 hll2; have HM4 := Lib.hid hm4; have hB4 := hB3.trans hb4; have hs4 := hB4.size)
      | (go_at_call 13; with_reducible refine (put_to w.heap.size A4 c4 l2 l2.length rfl (a.length : Int) 4 v 0 (a ++ les v 4 ++ z) HE2.out.1 HE2.out.2 _ (HW.out.below hB4 hgw) HM4.out (by omega) (by omega) (by omega) hv64).mono ?_; rintro e w5 ⟨rfl, hm5, hk5⟩; have HM5 := Lib.hid hm5; have hB5 := hB4.trans (hk5.below hs4 HM4.out.of_ge); have hs5 := hB5.size; have HW5 := Lib.hid (HW.out.below hB5 hgw))
      | (go_at_call 14; with_reducible refine (get_to A4 c4 (a ++ les v 4 ++ z) l2.length HLB.out (a.length : Int) 4 v 0 HG1.out.1 HG1.out.2 _ HW5.out HM5.out.bytes (by omega) (by omega) (by omega)).mono ?_; rintro e w' ⟨rfl, rfl⟩)
      | (go_at_call 9; with_reducible refine (same_eq A4 A0 c4 ca0 a a.length rfl _ HM5.out.head2 (HA0.out.later hB5) (by omega)).mono ?_; rintro e w6 ⟨rfl, hb6⟩; have hB6 := hB5.trans (hb6.mono hs5); have hs6 := hB6.size; have HM6 := Lib.hid (HM5.out.later hb6); obtain ⟨A5, hA5⟩ : ∃ A5, (if c4 = c then A4 else Option.map (fun x => x.add c) A4) = A5 := ⟨_, rfl⟩; have hb5t := HM6.out.tail_at HC.out; rw [hA5] at hb5t)
      | (go_at_call 9; with_reducible refine (same_eq3 A5 B0 (c4 - c) cb0 z (l2.length - c) z.length (by have := HLC.out; have := HCC.out; omega) rfl _ hb5t (HA1.out.later hB6) (by omega)).mono ?_; rintro e w7 ⟨rfl, hb7⟩; have hB7 := hB6.trans (hb7.mono hs6); have hs7 := hB7.size; have HM7 := Lib.hid (HM6.out.later hb7); have HW7 := Lib.hid (HW.out.below hB7 hgw)))

    clear HM2 HM3 HM4 HM5 HM6 HE2 hb5t hb1 hb2 hb3 hb4 hb6 hb7 hm2 hm3 hm4 hm5 hg2 hg3 hg4
    have hB7s : w.heap.size ≤ w7.heap.size := hB7.size
    go_loop [13, 14] (fun s i => ∃ j : Nat, j ≤ 4 ∧ i = .int .i64 ((j : Int) - 1) ∧ s = .int .u64 (le ((les v 4).drop j) : Int)) (fun _ i => (intOf i + 1).toNat)
    case atStart => exact ⟨4, Nat.le_refl _, rfl, by rw [List.drop_eq_nil_of_le (by rw [les_length]; omega)]; rfl⟩
    case round =>
      obtain ⟨j, hj, rfl, rfl⟩ := hrel
      by_cases h0 : 0 < j
      · obtain ⟨q, rfl⟩ : ∃ q, j = q + 1 := ⟨j - 1, by omega⟩
        rw [show ((q + 1 : Nat) : Int) - 1 = (q : Int) by omega]
        have hql : q < (les v 4).length := by rw [les_length]; omega
        have ho := get_one a (les v 4) z q hql
        have hd := List.drop_eq_getElem_cons hql
        have hx := (les v 4)[q].toNat_lt
        have hsum : le ((les v 4).drop q) = (les v 4)[q].toNat + 256 * le ((les v 4).drop (q + 1)) := by rw [hd]; rfl
        have hlt2 := le_lt ((les v 4).drop (q + 1))
        have hlt3 : le ((les v 4).drop (q + 1)) < 72057594037927936 := Nat.lt_of_lt_of_le hlt2 (Nat.le_trans (Nat.pow_le_pow_right (by decide) (show ((les v 4).drop (q + 1)).length ≤ 7 by rw [List.length_drop, les_length]; omega)) (by decide))
        generalize (les v 4)[q].toNat = x at ho hx hsum
        have HO := Lib.hid ho
        have HS := Lib.hid hsum
        generalize le ((les v 4).drop (q + 1)) = S at HS hlt3
        have hsh : IntKind.u64.wrap ((S : Int) * 256) = (S : Int) * 256 := IntWalk.u64_in _ (by omega)
        have hsa : IntKind.u64.wrap ((S : Int) * 256 + (x : Int)) = (S : Int) * 256 + (x : Int) := IntWalk.u64_in _ (by omega)
        have hx2 : (x : Int) ≤ 255 := by omega
        have hwq : IntKind.i64.wrap ((a.length : Int) + (q : Int)) = ((a.length + q : Nat) : Int) := by rw [IntWalk.i64_in _ (by omega)]; omega
        have hq0 : (0 : Int) ≤ (q : Int) := by omega
        clear ho hd hsum hlt2 hql
        go_wp2_with (go_at_call 14; refine (get_to A4 c4 (a ++ les v 4 ++ z) l2.length HLB.out ((a.length + q : Nat) : Int) 1 x 0 HO.out.1 HO.out.2 _ HW7.out HM7.out.bytes (by omega) (by omega) (by omega)).mono ?_; rintro e w' ⟨rfl, rfl⟩)
        go_round
        case rel => exact ⟨q, by omega, by go_num, by rw [HS.out]; congr 1; omega⟩
        case measure => simp [intOf]
      · obtain rfl : j = 0 := by omega
        have hle : le ((les v 4).drop 0) = v := by rw [List.drop_zero, le_les]; exact Nat.mod_eq_of_lt hvP
        rw [hle]
        obtain ⟨bv, hbe⟩ : ∃ bv, 4294967296 + v = bv := ⟨_, rfl⟩
        have hbv : IntKind.u64.wrap (4294967296 + (v : Int)) = (bv : Int) := by rw [IntWalk.u64_in _ (by omega)]; omega
        have hbm : bv ≤ 8589934592 := by omega
        have hnl : 4 ≤ l2.length := by have := HLC.out; omega
        obtain ⟨d1, hd1⟩ : ∃ d1, l2.length - 4 = d1 := ⟨_, rfl⟩
        obtain ⟨d2, hd2⟩ : ∃ d2, d1 + 1 = d2 := ⟨_, rfl⟩
        have hw1 : IntKind.i64.wrap ((l2.length : Int) - 4) = (d1 : Int) := by rw [IntWalk.i64_in _ (by omega)]; omega
        have hw2 : IntKind.i64.wrap ((d1 : Int) + 1) = (d2 : Int) := by rw [IntWalk.i64_in _ (by omega)]; omega
        have hd3 : d2 ≤ 2097200 := by omega
        have hL1 : lies (a ++ les v 4 ++ z).length (d2 : Int) 4 = false := by rw [HLB.out]; simp [lies]; omega
        have hL2 : lies (a ++ les v 4 ++ z).length (-1) 4 = false := by simp [lies]
        have hE1 : putE (a ++ les v 4 ++ z).length (d2 : Int) 4 v = 20 := putE_lie _ _ 4 v rfl hvo hL1
        have hE2 : putE (a ++ les v 4 ++ z).length (-1) 4 v = 20 := putE_lie _ _ 4 v rfl hvo hL2
        have hE0 : putE (a ++ les v 4 ++ z).length (a.length : Int) 4 bv = 1 := putE_big _ _ 4 bv (by decide) (by have h9 : (256 : Nat) ^ 4 = 4294967296 := rfl; omega)
        have HE0 := Lib.hid hE0
        clear hE0
        have HE1 := Lib.hid hE1
        have HE2 := Lib.hid hE2
        have HWb := Lib.hid hgw
        clear hle hL1 hL2 hE1 hE2 hd1 hd2
        go_wp2_with (first
          | (at_builtin; refine wpList_append_u8 rfl (.tmp 111) (.tmp 112) rfl w7.heap.size (some ⟨w7.heap.size, 0, none⟩) 0 [] rfl (Mine.empty w7 (Nat.le_refl _)) A4 c4 (a ++ les v 4 ++ z) (by rw [HLB.out]; rfl) (fun h => by subst h; exact HM7.out.none_cap.1) (HM7.out.later (below_new w7 _)).bytes (by rw [HLB.out]; simp; omega) (by simp) ?_; intro AW cW w8 hm8 hg8 hb8; rw [show (([] : List UInt8) ++ (a ++ les v 4 ++ z)).length = l2.length from HLB.out]; have HR8 := Lib.hid (show Mine w8 w7.heap.size AW cW (a ++ les v 4 ++ z) from hm8); have hB78 := (below_new w7 (.cells #[] 5)).trans hb8; have HM8 := Lib.hid (HM7.out.later hB78); have hB8 := hB7.trans (hB78.mono hB7s); have hs8 := hB8.size; have hap := apart_new HM7.out.lt HR8.out.of_ge; have HW8 := Lib.hid (HW.out.below hB8 hgw))
          | (go_at_call 13; with_reducible refine (put_to w.heap.size A4 c4 (a ++ les v 4 ++ z) l2.length HLB.out (a.length : Int) 4 bv 1 (a ++ les v 4 ++ z) HE0.out (putL_same _ _ _ _ (by rw [HE0.out]; decide)) _ HW8.out HM8.out (by omega) (by omega) (by omega) (by omega)).mono ?_; rintro e w9 ⟨rfl, hm9, hk9⟩; have HM9 := Lib.hid hm9; have hB9 := hB8.trans (hk9.below hs8 HM8.out.of_ge); have hs9 := hB9.size; have HW9 := Lib.hid (HW.out.below hB9 hgw); have HR9 := Lib.hid (HR8.out.keeps_of hk9 hap.symm))
          | (go_at_call 13; with_reducible refine (put_to w.heap.size A4 c4 (a ++ les v 4 ++ z) l2.length HLB.out (d2 : Int) 4 v 20 (a ++ les v 4 ++ z) HE1.out (putL_same _ _ _ _ (by rw [HE1.out]; decide)) _ HW9.out HM9.out (by omega) (by omega) (by omega) hv64).mono ?_; rintro e w10 ⟨rfl, hm10, hk10⟩; have HM10 := Lib.hid hm10; have hB10 := hB9.trans (hk10.below hs9 HM9.out.of_ge); have hs10 := hB10.size; have HW10 := Lib.hid (HW.out.below hB10 hgw); have HR10 := Lib.hid (HR9.out.keeps_of hk10 hap.symm))
          | (go_at_call 13; with_reducible refine (put_to w.heap.size A4 c4 (a ++ les v 4 ++ z) l2.length HLB.out (-1) 4 v 20 (a ++ les v 4 ++ z) HE2.out (putL_same _ _ _ _ (by rw [HE2.out]; decide)) _ HW10.out HM10.out (by omega) (by omega) (by omega) hv64).mono ?_; rintro e w11 ⟨rfl, hm11, hk11⟩; have HM11 := Lib.hid hm11; have hB11 := hB10.trans (hk11.below hs10 HM10.out.of_ge); have hs11 := hB11.size; have HR11 := Lib.hid (HR10.out.keeps_of hk11 hap.symm))
          | (go_at_call 9; refine (same_eq3 A4 AW c4 cW (a ++ les v 4 ++ z) l2.length l2.length HLB.out HLB.out _ HM11.out.bytes HR11.out.bytes (by omega)).mono ?_; rintro e w12 ⟨rfl, hb12⟩))
        go_ret
        exact ⟨rfl, hB11.trans (hb12.mono hs11)⟩
  · have HK := Lib.hid (show k % ((4 : Nat) : Int) = 3 from hm4)
    clear hm4
    obtain ⟨v, rfl⟩ : ∃ v, v = V := ⟨_, rfl⟩
    have hv64 := hV
    have hvo : (8 : Nat) = 8 ∨ v < 256 ^ 8 := .inl rfl
    have hvP : v < 256 ^ 8 := hV
    have HP1 := Lib.hid (put_mid a z 8 v rfl hvo (List.replicate 8 0) (by simp))
    have hg := get_mid a (les v 8) z 8 rfl (les_length _ _)
    rw [le_les, Nat.mod_eq_of_lt hvP] at hg
    have HG1 := Lib.hid (show getV (a ++ les v 8 ++ z) (a.length : Int) 8 = v ∧ getE (a ++ les v 8 ++ z).length (a.length : Int) 8 = 0 from hg)
    clear hg
    obtain ⟨c, hc⟩ : ∃ c, a.length + 8 = c := ⟨_, rfl⟩
    have hwr : IntKind.i64.wrap ((a.length : Int) + 8) = (c : Int) := by rw [IntWalk.i64_in _ (by omega)]; omega
    have HC := Lib.hid (show (a ++ les v 8).length = c by rw [List.length_append, les_length]; exact hc)
    have HCC := Lib.hid hc
    have hc2 : c ≤ a.length + 8 := by omega
    clear hc

    go_enter Tryd.func5, Tryd.ntmps5
    go_wp2_with (first
      | (go_at_call 7; refine (fixed_any _ HWn.out).mono ?_; rintro e w1 ⟨rfl, hb1⟩; have hB1 := hbn.trans (hb1.mono hbn.size); have hs1 := hB1.size; have HI1 := Lib.hid (HIn.out.below hb1 HIn.out.lt); obtain ⟨i0, i1⟩ := numAt HI1.out)
      | (go_at_call 12; refine (mod_any k 4 (by decide) (by decide) hk hk2 _).mono ?_; rintro e w' ⟨rfl, rfl⟩; rw [HK.out])
      | (at_builtin; refine wpList_append_u8 rfl (.tmp 34) (.tmp 35) rfl w.heap.size (some ⟨w1.heap.size, 0, none⟩) 0 [] rfl (Mine.empty w1 hs1) A0 ca0 a rfl HC0.out ((HA0.out.later hB1).later (below_new w1 _)) (by simp; omega) (by simp; omega) ?_; intro A2 c2 w2 hm2 hg2 hb2; have HM2 := Lib.hid (show Mine w2 w.heap.size A2 c2 a from hm2); have hB2 := hB1.trans (((below_new w1 (.cells #[] 5)).mono hs1).trans hb2); have hs2 := hB2.size)
      | (at_builtin; refine wpList_append_zeros rfl (.tmp 36) (.tmp 37) rfl w.heap.size A2 c2 a rfl HM2.out 8 rfl (by decide) (by omega) hs2 ?_; intro A3 c3 w3 hm3 hg3 hb3; obtain ⟨l1, hl1⟩ : ∃ l1, a ++ List.replicate 8 0 = l1 := ⟨_, rfl⟩; rw [hl1] at hm3 ⊢; have HL1 := Lib.hid hl1; have hll1 : l1.length ≤ 1048600 := (by rw [← hl1]; simp; omega); clear hl1; have HM3 := Lib.hid hm3; have hB3 := hB2.trans hb3; have hs3 := hB3.size)
      | (at_builtin; refine wpList_append_u8 rfl (.tmp 38) (.tmp 39) rfl w.heap.size A3 c3 l1 rfl HM3.out B0 cb0 z rfl HC1.out (HA1.out.later hB3) (by omega) hs3 ?_; intro A4 c4 w4 hm4 hg4 hb4; obtain ⟨l2, hl2⟩ : ∃ l2, l1 ++ z = l2 := ⟨_, rfl⟩; rw [hl2] at hm4 ⊢; have hll2 : l2.length = a.length + 8 + z.length := (by rw [← hl2, ← HL1.out]; simp; try omega); have HLB := Lib.hid (show (a ++ les v 8 ++ z).length = l2.length by rw [hll2]; simp [les_length]; try omega); have HE2 := Lib.hid (show putE l2.length a.length 8 v = 0 ∧ putL l2 a.length 8 v = a ++ les v 8 ++ z by rw [← hl2, ← HL1.out]; exact HP1.out); have HLC := Lib.hid hll2; have hq3 : l2.length ≤ c4 := hm4.cap_le.1; have hq1 : a.length ≤ c4 := (by omega); have hq2 : c ≤ l2.length := (by have := HCC.out; omega); have hlk : l2.length ≤ 2097200 := (by omega); clear hl2 hll2; have HM4 := Lib.hid hm4; have hB4 := hB3.trans hb4; have hs4 := hB4.size)
      | (go_at_call 13; with_reducible refine (put_to w.heap.size A4 c4 l2 l2.length rfl (a.length : Int) 8 v 0 (a ++ les v 8 ++ z) HE2.out.1 HE2.out.2 _ (HW.out.below hB4 hgw) HM4.out (by omega) (by omega) (by omega) hv64).mono ?_; rintro e w5 ⟨rfl, hm5, hk5⟩; have HM5 := Lib.hid hm5; have hB5 := hB4.trans (hk5.below hs4 HM4.out.of_ge); have hs5 := hB5.size; have HW5 := Lib.hid (HW.out.below hB5 hgw))
      | (go_at_call 14; with_reducible refine (get_to A4 c4 (a ++ les v 8 ++ z) l2.length HLB.out (a.length : Int) 8 v 0 HG1.out.1 HG1.out.2 _ HW5.out HM5.out.bytes (by omega) (by omega) (by omega)).mono ?_; rintro e w' ⟨rfl, rfl⟩)
      | (go_at_call 9; with_reducible refine (same_eq A4 A0 c4 ca0 a a.length rfl _ HM5.out.head2 (HA0.out.later hB5) (by omega)).mono ?_; rintro e w6 ⟨rfl, hb6⟩; have hB6 := hB5.trans (hb6.mono hs5); have hs6 := hB6.size; have HM6 := Lib.hid (HM5.out.later hb6); obtain ⟨A5, hA5⟩ : ∃ A5, (if c4 = c then A4 else Option.map (fun x => x.add c) A4) = A5 := ⟨_, rfl⟩; have hb5t := HM6.out.tail_at HC.out; rw [hA5] at hb5t)
      | (go_at_call 9; with_reducible refine (same_eq3 A5 B0 (c4 - c) cb0 z (l2.length - c) z.length (by have := HLC.out; have := HCC.out; omega) rfl _ hb5t (HA1.out.later hB6) (by omega)).mono ?_; rintro e w7 ⟨rfl, hb7⟩; have hB7 := hB6.trans (hb7.mono hs6); have hs7 := hB7.size; have HM7 := Lib.hid (HM6.out.later hb7); have HW7 := Lib.hid (HW.out.below hB7 hgw)))

    clear HM2 HM3 HM4 HM5 HM6 HE2 hb5t hb1 hb2 hb3 hb4 hb6 hb7 hm2 hm3 hm4 hm5 hg2 hg3 hg4
    have hB7s : w.heap.size ≤ w7.heap.size := hB7.size
    go_loop [13, 14] (fun s i => ∃ j : Nat, j ≤ 8 ∧ i = .int .i64 ((j : Int) - 1) ∧ s = .int .u64 (le ((les v 8).drop j) : Int)) (fun _ i => (intOf i + 1).toNat)
    case atStart => exact ⟨8, Nat.le_refl _, rfl, by rw [List.drop_eq_nil_of_le (by rw [les_length]; omega)]; rfl⟩
    case round =>
      obtain ⟨j, hj, rfl, rfl⟩ := hrel
      by_cases h0 : 0 < j
      · obtain ⟨q, rfl⟩ : ∃ q, j = q + 1 := ⟨j - 1, by omega⟩
        rw [show ((q + 1 : Nat) : Int) - 1 = (q : Int) by omega]
        have hql : q < (les v 8).length := by rw [les_length]; omega
        have ho := get_one a (les v 8) z q hql
        have hd := List.drop_eq_getElem_cons hql
        have hx := (les v 8)[q].toNat_lt
        have hsum : le ((les v 8).drop q) = (les v 8)[q].toNat + 256 * le ((les v 8).drop (q + 1)) := by rw [hd]; rfl
        have hlt2 := le_lt ((les v 8).drop (q + 1))
        have hlt3 : le ((les v 8).drop (q + 1)) < 72057594037927936 := Nat.lt_of_lt_of_le hlt2 (Nat.le_trans (Nat.pow_le_pow_right (by decide) (show ((les v 8).drop (q + 1)).length ≤ 7 by rw [List.length_drop, les_length]; omega)) (by decide))
        generalize (les v 8)[q].toNat = x at ho hx hsum
        have HO := Lib.hid ho
        have HS := Lib.hid hsum
        generalize le ((les v 8).drop (q + 1)) = S at HS hlt3
        have hsh : IntKind.u64.wrap ((S : Int) * 256) = (S : Int) * 256 := IntWalk.u64_in _ (by omega)
        have hsa : IntKind.u64.wrap ((S : Int) * 256 + (x : Int)) = (S : Int) * 256 + (x : Int) := IntWalk.u64_in _ (by omega)
        have hx2 : (x : Int) ≤ 255 := by omega
        have hwq : IntKind.i64.wrap ((a.length : Int) + (q : Int)) = ((a.length + q : Nat) : Int) := by rw [IntWalk.i64_in _ (by omega)]; omega
        have hq0 : (0 : Int) ≤ (q : Int) := by omega
        clear ho hd hsum hlt2 hql
        go_wp2_with (go_at_call 14; refine (get_to A4 c4 (a ++ les v 8 ++ z) l2.length HLB.out ((a.length + q : Nat) : Int) 1 x 0 HO.out.1 HO.out.2 _ HW7.out HM7.out.bytes (by omega) (by omega) (by omega)).mono ?_; rintro e w' ⟨rfl, rfl⟩)
        go_round
        case rel => exact ⟨q, by omega, by go_num, by rw [HS.out]; congr 1; omega⟩
        case measure => simp [intOf]
      · obtain rfl : j = 0 := by omega
        have hle : le ((les v 8).drop 0) = v := by rw [List.drop_zero, le_les]; exact Nat.mod_eq_of_lt hvP
        rw [hle]
        have hnl : 8 ≤ l2.length := by have := HLC.out; omega
        obtain ⟨d1, hd1⟩ : ∃ d1, l2.length - 8 = d1 := ⟨_, rfl⟩
        obtain ⟨d2, hd2⟩ : ∃ d2, d1 + 1 = d2 := ⟨_, rfl⟩
        have hw1 : IntKind.i64.wrap ((l2.length : Int) - 8) = (d1 : Int) := by rw [IntWalk.i64_in _ (by omega)]; omega
        have hw2 : IntKind.i64.wrap ((d1 : Int) + 1) = (d2 : Int) := by rw [IntWalk.i64_in _ (by omega)]; omega
        have hd3 : d2 ≤ 2097200 := by omega
        have hL1 : lies (a ++ les v 8 ++ z).length (d2 : Int) 8 = false := by rw [HLB.out]; simp [lies]; omega
        have hL2 : lies (a ++ les v 8 ++ z).length (-1) 8 = false := by simp [lies]
        have hE1 : putE (a ++ les v 8 ++ z).length (d2 : Int) 8 v = 20 := putE_lie _ _ 8 v rfl (.inl rfl) hL1
        have hE2 : putE (a ++ les v 8 ++ z).length (-1) 8 v = 20 := putE_lie _ _ 8 v rfl (.inl rfl) hL2
        have HE1 := Lib.hid hE1
        have HE2 := Lib.hid hE2
        have HWb := Lib.hid hgw
        clear hle hL1 hL2 hE1 hE2 hd1 hd2
        go_wp2_with (first
          | (at_builtin; refine wpList_append_u8 rfl (.tmp 111) (.tmp 112) rfl w7.heap.size (some ⟨w7.heap.size, 0, none⟩) 0 [] rfl (Mine.empty w7 (Nat.le_refl _)) A4 c4 (a ++ les v 8 ++ z) (by rw [HLB.out]; rfl) (fun h => by subst h; exact HM7.out.none_cap.1) (HM7.out.later (below_new w7 _)).bytes (by rw [HLB.out]; simp; omega) (by simp) ?_; intro AW cW w8 hm8 hg8 hb8; rw [show (([] : List UInt8) ++ (a ++ les v 8 ++ z)).length = l2.length from HLB.out]; have HR8 := Lib.hid (show Mine w8 w7.heap.size AW cW (a ++ les v 8 ++ z) from hm8); have hB78 := (below_new w7 (.cells #[] 5)).trans hb8; have HM8 := Lib.hid (HM7.out.later hB78); have hB8 := hB7.trans (hB78.mono hB7s); have hs8 := hB8.size; have hap := apart_new HM7.out.lt HR8.out.of_ge; have HW8 := Lib.hid (HW.out.below hB8 hgw); have HM9 := HM8; have hB9 := hB8; have hs9 := hs8; have HW9 := HW8; have HR9 := HR8)
          | (go_at_call 13; with_reducible refine (put_to w.heap.size A4 c4 (a ++ les v 8 ++ z) l2.length HLB.out (d2 : Int) 8 v 20 (a ++ les v 8 ++ z) HE1.out (putL_same _ _ _ _ (by rw [HE1.out]; decide)) _ HW9.out HM9.out (by omega) (by omega) (by omega) hv64).mono ?_; rintro e w10 ⟨rfl, hm10, hk10⟩; have HM10 := Lib.hid hm10; have hB10 := hB9.trans (hk10.below hs9 HM9.out.of_ge); have hs10 := hB10.size; have HW10 := Lib.hid (HW.out.below hB10 hgw); have HR10 := Lib.hid (HR9.out.keeps_of hk10 hap.symm))
          | (go_at_call 13; with_reducible refine (put_to w.heap.size A4 c4 (a ++ les v 8 ++ z) l2.length HLB.out (-1) 8 v 20 (a ++ les v 8 ++ z) HE2.out (putL_same _ _ _ _ (by rw [HE2.out]; decide)) _ HW10.out HM10.out (by omega) (by omega) (by omega) hv64).mono ?_; rintro e w11 ⟨rfl, hm11, hk11⟩; have HM11 := Lib.hid hm11; have hB11 := hB10.trans (hk11.below hs10 HM10.out.of_ge); have hs11 := hB11.size; have HR11 := Lib.hid (HR10.out.keeps_of hk11 hap.symm))
          | (go_at_call 9; refine (same_eq3 A4 AW c4 cW (a ++ les v 8 ++ z) l2.length l2.length HLB.out HLB.out _ HM11.out.bytes HR11.out.bytes (by omega)).mono ?_; rintro e w12 ⟨rfl, hb12⟩))
        go_ret
        exact ⟨rfl, hB11.trans (hb12.mono hs11)⟩
end Go.Proofs.YtnknoikmleiopaaDoor
