/-
  THE WALK OF RecCuts: all five calls at every place, in every width, of a copy each time.
-/
import Derived.Test.YtnknoikmleiopaaDoorRecF
set_option linter.unusedVariables false
set_option linter.unusedSimpArgs false
namespace Go.Proofs.YtnknoikmleiopaaDoor
open Go.RowKit Rec

theorem same_eq (A B : Option Addr) (ca cb : Nat) (l : List UInt8) (len : Nat) (hlen : l.length = len) (w : World) (hl : Bytes w A l) (hm : Bytes w B l) (hs : len ≤ 140737488355328 + 64) :
    Calls Tryd.prog 9 #[.slice A len ca, .slice B len cb] w fun e w' => e = .returned (.bool true) ∧ Below w.heap.size w w' := by
  subst hlen
  have h := same_any A B ca cb l l w hl hm hs hs
  rw [decide_eq_true rfl] at h
  exact h
theorem of2_ge {w : World} {base ca cb : Nat} {A B : Option Addr} {l m : List UInt8} (hA : Mine w base A ca l) (hB : Mine w base B cb m) (i : Nat) (h : Of2 A B i) : base ≤ i := by
  rcases h with h | h
  · exact hA.ge i h
  · exact hB.ge i h

set_option maxHeartbeats 3200000 in
theorem cuts_any (A : Option Addr) (ca : Nat) (l0 : List UInt8) (v : Nat) (s : List UInt8) (w : World) (hw : WidthsAt w) (hA : Bytes w A l0) (hC : A = none → ca = 0) (hcl : l0.length ≤ ca) (hm : l0.length ≤ 140737488355328)
    (hv : v < 18446744073709551616) (hs : s.length ≤ 140737488355328) :
    Calls Tryd.prog 4 #[.slice A l0.length ca, .int .u64 (v : Int), .string ⟨s.toArray⟩] w fun e w' => e = .returned (.bool true) ∧ Below w.heap.size w w' := by
  have hgw := hw.lt
  have HW := Lib.hid hw
  have HC := Lib.hid hC
  clear hw hC
  by_cases h24 : 24 < l0.length
  · have HA := Lib.hid (hA.take 24)
    have hll : (l0.take 24).length = 24 := by simp; omega
    have h24i : (24 : Int) < (l0.length : Int) := by omega
    clear hA
    go_enter Tryd.func4, Tryd.ntmps4
    go_wp2_with (go_at_call 7; refine (fixed_any _ HW.out).mono ?_; rintro e w1 ⟨rfl, hb1⟩)
    generalize l0.take 24 = l at HA hll
    have hl24 : l.length ≤ 24 := by omega
    have HLL := Lib.hid hll
    clear hll h24
    go_loopw [7] (fun i wr => ∃ z : Int, -1 ≤ z ∧ z ≤ (24 : Int) + 2 ∧ i = .int .i64 z ∧ Below w.heap.size w wr) (fun i _ => ((24 : Int) + 2 - intOf i).toNat)
    case atStart => exact ⟨-1, by omega, by omega, rfl, hb1⟩
    case round =>
      obtain ⟨z, hz0, hz1, rfl, hBz⟩ := hrel
      have hwz : IntKind.i64.wrap (z + 1) = z + 1 := IntWalk.i64_in _ (by omega)
      by_cases hzl : z ≤ (24 : Int) + 1
      · have hzc : z ≤ 25 := by omega
        obtain ⟨wz, rfl⟩ : ∃ wz : World, wz = wr := ⟨_, rfl⟩
        go_wp2_with fail
        go_loopw [8] (fun i wr => ∃ x : Int, -1 ≤ x ∧ x ≤ 10 ∧ i = .int .i64 x ∧ Below w.heap.size w wr) (fun i _ => (10 - intOf i).toNat)
        case atStart => exact ⟨-1, by omega, by omega, rfl, hBz⟩
        case round =>
          obtain ⟨x, hx0, hx1, rfl, hBx⟩ := hrel
          have hwx : IntKind.i64.wrap (x + 1) = x + 1 := IntWalk.i64_in _ (by omega)
          by_cases hxl : x ≤ 9
          · obtain ⟨wx, rfl⟩ : ∃ wx : World, wx = wr := ⟨_, rfl⟩
            go_wp2_with fail
            go_loopw [9] (fun i wr => ∃ k : Nat, k ≤ 5 ∧ i = .int .i64 (k : Int) ∧ Below w.heap.size w wr) (fun i _ => 5 - (intOf i).toNat)
            case atStart => exact ⟨0, by omega, rfl, hBx⟩
            case round =>
              obtain ⟨k, hk, rfl, hB⟩ := hrel
              by_cases hlt : k < 5
              · have HB := Lib.hid hB
                have hBs := hB.size
                have hd : (k : Int) < 5 := by omega
                clear hB
                go_wp2_with (first
                  | (at_builtin; refine wpList_append_u8 rfl (.tmp 34) (.tmp 35) rfl w.heap.size (some ⟨wr.heap.size, 0, none⟩) 0 [] rfl (Mine.empty wr HB.out.size) A ca l (by first | rfl | (rw [HLL.out]; rfl)) HC.out ((HA.out.later HB.out).later (below_new wr _)) (by simp; omega) (by simp; omega) ?_; intro A2 c2 w2 hm2 hg2 hb2; have HM2 := Lib.hid (show Mine w2 w.heap.size A2 c2 l from hm2); have HB2 := Lib.hid (HB.out.trans (((below_new wr _).mono HB.out.size).trans hb2)); have hBs2 := HB2.out.size)
                  | (at_builtin; refine wpList_append_u8 rfl (.tmp 37) (.tmp 38) rfl w2.heap.size (some ⟨w2.heap.size, 0, none⟩) 0 [] rfl (Mine.empty w2 (Nat.le_refl _)) A ca l (by first | rfl | (rw [HLL.out]; rfl)) HC.out ((HA.out.later HB2.out).later (below_new w2 _)) (by simp; omega) (by simp) ?_; intro B3 c3 w3 hm3 hg3 hb3; have HM3 := Lib.hid (show Mine w3 w2.heap.size B3 c3 l from hm3); have HB23 := Lib.hid ((below_new w2 (.cells #[] 5)).trans hb3); have HM2' := Lib.hid (HM2.out.later HB23.out); have HB3 := Lib.hid (HB2.out.trans (HB23.out.mono HB2.out.size)); have hBs3 := HB3.out.size; have HAP := Lib.hid (apart_new HM2.out.lt HM3.out.of_ge))
                  | (go_at_call 8; refine (plays_any w.heap.size A2 B3 c2 c3 l [] [] ⟨k, z, x, v, s⟩ _ (HW.out.below HB3.out hgw) (by rw [List.append_nil]; exact HM2'.out) (by rw [List.append_nil]; exact HM3.out.base_le hBs2) HAP.out hgw hBs3 (by omega) ⟨by show _ ≤ (k : Int); omega, by show (k : Int) ≤ _; omega, by show _ ≤ z; omega, by show z ≤ _; omega, by show _ ≤ x; omega, by show x ≤ _; omega, hv, hs⟩).mono ?_; rintro e w4 ⟨rfl, hm4, hn4, hk4⟩; have HM4 := Lib.hid hm4; have HN4 := Lib.hid hn4; have HB4 := Lib.hid (HB3.out.trans (hk4.below hBs3 (of2_ge HM2'.out (HM3.out.base_le hBs2)))); have hnl := Play.next_length ⟨k, z, x, v, s⟩ l; have HNL := Lib.hid hnl)
                  | (go_at_call 9; refine (same_eq A2 B3 c2 c3 (Play.next ⟨k, z, x, v, s⟩ l) l.length HNL.out _ HM4.out.head HN4.out.head (by omega)).mono ?_; rintro e w5 ⟨rfl, hb5⟩; have HB5 := Lib.hid (HB4.out.trans (hb5.mono HB4.out.size))))
                go_roundw
                case rel => exact ⟨k + 1, by omega, by go_num, HB5.out⟩
                case measure => simp [intOf]; omega
              · go_wp2_with fail
                go_roundw
                case rel => exact ⟨x + 1, by omega, by omega, by go_num, hB⟩
                case measure => simp [intOf]; omega
          · go_wp2_with fail
            go_roundw
            case rel => exact ⟨z + 1, by omega, by omega, by go_num, hBx⟩
            case measure => simp [intOf]; omega
      · go_wp2_with fail
        go_ret
        exact ⟨rfl, hBz⟩

  · have HA := Lib.hid hA
    have hl24 : l0.length ≤ 24 := by omega
    obtain ⟨l, rfl⟩ : ∃ l, l = l0 := ⟨_, rfl⟩
    have HLL := Lib.hid (rfl : l.length = l.length)
    clear hA
    go_enter Tryd.func4, Tryd.ntmps4
    go_wp2_with (go_at_call 7; refine (fixed_any _ HW.out).mono ?_; rintro e w1 ⟨rfl, hb1⟩)
    go_loopw [7] (fun i wr => ∃ z : Int, -1 ≤ z ∧ z ≤ (l.length : Int) + 2 ∧ i = .int .i64 z ∧ Below w.heap.size w wr) (fun i _ => ((l.length : Int) + 2 - intOf i).toNat)
    case atStart => exact ⟨-1, by omega, by omega, rfl, hb1⟩
    case round =>
      obtain ⟨z, hz0, hz1, rfl, hBz⟩ := hrel
      have hwz : IntKind.i64.wrap (z + 1) = z + 1 := IntWalk.i64_in _ (by omega)
      by_cases hzl : z ≤ (l.length : Int) + 1
      · have hzc : z ≤ (l.length : Int) + 1 := by omega
        obtain ⟨wz, rfl⟩ : ∃ wz : World, wz = wr := ⟨_, rfl⟩
        go_wp2_with fail
        go_loopw [8] (fun i wr => ∃ x : Int, -1 ≤ x ∧ x ≤ 10 ∧ i = .int .i64 x ∧ Below w.heap.size w wr) (fun i _ => (10 - intOf i).toNat)
        case atStart => exact ⟨-1, by omega, by omega, rfl, hBz⟩
        case round =>
          obtain ⟨x, hx0, hx1, rfl, hBx⟩ := hrel
          have hwx : IntKind.i64.wrap (x + 1) = x + 1 := IntWalk.i64_in _ (by omega)
          by_cases hxl : x ≤ 9
          · obtain ⟨wx, rfl⟩ : ∃ wx : World, wx = wr := ⟨_, rfl⟩
            go_wp2_with fail
            go_loopw [9] (fun i wr => ∃ k : Nat, k ≤ 5 ∧ i = .int .i64 (k : Int) ∧ Below w.heap.size w wr) (fun i _ => 5 - (intOf i).toNat)
            case atStart => exact ⟨0, by omega, rfl, hBx⟩
            case round =>
              obtain ⟨k, hk, rfl, hB⟩ := hrel
              by_cases hlt : k < 5
              · have HB := Lib.hid hB
                have hBs := hB.size
                have hd : (k : Int) < 5 := by omega
                clear hB
                go_wp2_with (first
                  | (at_builtin; refine wpList_append_u8 rfl (.tmp 34) (.tmp 35) rfl w.heap.size (some ⟨wr.heap.size, 0, none⟩) 0 [] rfl (Mine.empty wr HB.out.size) A ca l (by first | rfl | (rw [HLL.out]; rfl)) HC.out ((HA.out.later HB.out).later (below_new wr _)) (by simp; omega) (by simp; omega) ?_; intro A2 c2 w2 hm2 hg2 hb2; have HM2 := Lib.hid (show Mine w2 w.heap.size A2 c2 l from hm2); have HB2 := Lib.hid (HB.out.trans (((below_new wr _).mono HB.out.size).trans hb2)); have hBs2 := HB2.out.size)
                  | (at_builtin; refine wpList_append_u8 rfl (.tmp 37) (.tmp 38) rfl w2.heap.size (some ⟨w2.heap.size, 0, none⟩) 0 [] rfl (Mine.empty w2 (Nat.le_refl _)) A ca l (by first | rfl | (rw [HLL.out]; rfl)) HC.out ((HA.out.later HB2.out).later (below_new w2 _)) (by simp; omega) (by simp) ?_; intro B3 c3 w3 hm3 hg3 hb3; have HM3 := Lib.hid (show Mine w3 w2.heap.size B3 c3 l from hm3); have HB23 := Lib.hid ((below_new w2 (.cells #[] 5)).trans hb3); have HM2' := Lib.hid (HM2.out.later HB23.out); have HB3 := Lib.hid (HB2.out.trans (HB23.out.mono HB2.out.size)); have hBs3 := HB3.out.size; have HAP := Lib.hid (apart_new HM2.out.lt HM3.out.of_ge))
                  | (go_at_call 8; refine (plays_any w.heap.size A2 B3 c2 c3 l [] [] ⟨k, z, x, v, s⟩ _ (HW.out.below HB3.out hgw) (by rw [List.append_nil]; exact HM2'.out) (by rw [List.append_nil]; exact HM3.out.base_le hBs2) HAP.out hgw hBs3 (by omega) ⟨by show _ ≤ (k : Int); omega, by show (k : Int) ≤ _; omega, by show _ ≤ z; omega, by show z ≤ _; omega, by show _ ≤ x; omega, by show x ≤ _; omega, hv, hs⟩).mono ?_; rintro e w4 ⟨rfl, hm4, hn4, hk4⟩; have HM4 := Lib.hid hm4; have HN4 := Lib.hid hn4; have HB4 := Lib.hid (HB3.out.trans (hk4.below hBs3 (of2_ge HM2'.out (HM3.out.base_le hBs2)))); have hnl := Play.next_length ⟨k, z, x, v, s⟩ l; have HNL := Lib.hid hnl)
                  | (go_at_call 9; refine (same_eq A2 B3 c2 c3 (Play.next ⟨k, z, x, v, s⟩ l) l.length HNL.out _ HM4.out.head HN4.out.head (by omega)).mono ?_; rintro e w5 ⟨rfl, hb5⟩; have HB5 := Lib.hid (HB4.out.trans (hb5.mono HB4.out.size))))
                go_roundw
                case rel => exact ⟨k + 1, by omega, by go_num, HB5.out⟩
                case measure => simp [intOf]; omega
              · go_wp2_with fail
                go_roundw
                case rel => exact ⟨x + 1, by omega, by omega, by go_num, hB⟩
                case measure => simp [intOf]; omega
          · go_wp2_with fail
            go_roundw
            case rel => exact ⟨z + 1, by omega, by omega, by go_num, hBx⟩
            case measure => simp [intOf]; omega
      · go_wp2_with fail
        go_ret
        exact ⟨rfl, hBz⟩
end Go.Proofs.YtnknoikmleiopaaDoor
