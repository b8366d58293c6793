/-
  THE WALKS OF THE STATEMENTS' OWN FUNCTIONS (bolelaw02): same, mod, plays.
-/
import Derived.Test.YtnknoikmleiopaaDoorRecR2
import Derived.Test.YtnknoikmleiopaaDoorRecR4
import Derived.Test.YtnknoikmleiopaaDoorKeeps
import Derived.Deep.CutRange
set_option linter.unusedVariables false
set_option linter.unusedSimpArgs false
namespace Go.Proofs.YtnknoikmleiopaaDoor
open Go.RowKit Rec

theorem n8_ne (a b : UInt8) (h : a = b) : (n8 a != n8 b) = false := by subst h; simp
theorem n8_ne' (a b : UInt8) (h : a ≠ b) : (n8 a != n8 b) = true := by rw [bne, n8_beq]; simp [h]
theorem take_eq_snoc (l m : List UInt8) (k : Nat) (h1 : k < l.length) (h2 : k < m.length) (h : l.take k = m.take k) (e : l[k] = m[k]) : l.take (k + 1) = m.take (k + 1) := by rw [take_snoc l k h1, take_snoc m k h2, h, e]

set_option maxHeartbeats 800000 in
theorem same_any (A B : Option Addr) (ca cb : Nat) (l m : List UInt8) (w : World) (hl : Bytes w A l) (hm : Bytes w B m) (hs : l.length ≤ 140737488355328 + 64) (hs2 : m.length ≤ 140737488355328 + 64) :
    Calls Tryd.prog 9 #[.slice A l.length ca, .slice B m.length cb] w fun e w' => e = .returned (.bool (decide (l = m))) ∧ Below w.heap.size w w' := by
  have HL := Lib.hid hl
  have HM := Lib.hid hm
  clear hl hm
  by_cases hlen : l.length = m.length
  · have HLEN := Lib.hid hlen
    rw [← hlen]
    rw [← hlen] at hs2
    clear hlen
    go_enter Tryd.func9, Tryd.ntmps9
    go_wp2_with fail
    have hB0 : Below w.heap.size w w := Below.refl _ _
    go_loopw [5] (fun i wr => ∃ k : Nat, k ≤ l.length ∧ i = .int .i64 k ∧ l.take k = m.take k ∧ Below w.heap.size w wr) (fun i _ => l.length - (intOf i).toNat)
    case atStart => exact ⟨0, Nat.zero_le _, rfl, by simp, hB0⟩
    case round =>
      obtain ⟨k, hk, rfl, ht, hB⟩ := hrel
      have HTK := Lib.hid ht
      clear ht
      by_cases hlt : k < l.length
      · have hk2 : k < m.length := by rw [← HLEN.out]; exact hlt
        obtain ⟨b, off, rfl, hc⟩ := (HL.out.later hB).at_ hlt
        obtain ⟨b2, off2, rfl, hc2⟩ := (HM.out.later hB).at_ hk2
        have c0 : (0 : Int) ≤ (k : Int) := by omega
        have c1 : (k : Int) < (l.length : Int) := by omega
        have HK2 := Lib.hid hk2
        by_cases he : l[k] = m[k]
        · have hb := n8_ne _ _ he
          have HE := Lib.hid he
          clear he
          go_wp2_with fail
          go_quiet (fail)
          go_wp2_with fail
          go_roundw
          case rel => exact ⟨k + 1, by omega, by go_num, take_eq_snoc l m k hlt HK2.out HTK.out HE.out, below_drewN hB _⟩
          case measure => simp [intOf]; omega
        · have hb := n8_ne' _ _ he
          have hne : decide (l = m) = false := by
            refine decide_eq_false fun e => he ?_
            subst e; rfl
          have HNE := Lib.hid hne
          clear he hne
          go_wp2_with fail
          go_quiet (fail)
          go_wp2_with fail
          go_ret
          exact ⟨ret_bool (by rw [HNE.out]), below_drewN hB _⟩
      · go_wp2_with fail
        go_ret
        have e : l = m := by
          have h1 := HTK.out
          have h2 := HLEN.out
          rwa [List.take_of_length_le (by omega), List.take_of_length_le (by omega)] at h1
        exact ⟨ret_bool (by rw [decide_eq_true e]), hB⟩
  · have hne : decide (l = m) = false := decide_eq_false fun e => hlen (by rw [e])
    have hb : ((l.length : Int) != (m.length : Int)) = true := by simp only [bne_iff_ne, ne_eq]; omega
    rw [hne]
    clear hlen hne
    go_enter Tryd.func9, Tryd.ntmps9
    go_wp2_with fail
    go_ret
    exact ⟨rfl, Below.refl _ _⟩

/-- a call on bytes -/
structure Play where
  kind : Int
  at_ : Int
  n : Int
  v : Nat
  s : List UInt8
def Play.cells (q : Play) : Array Value := #[.int .i64 q.kind, .int .i64 q.at_, .int .i64 q.n, .int .u64 (q.v : Int), .string ⟨q.s.toArray⟩]
/-- what the bytes are behind it -/
def Play.next (q : Play) (l : List UInt8) : List UInt8 := if q.kind = 1 then putL l q.at_ q.n q.v else if q.kind = 3 then putTextL l q.at_ q.n q.s else l
theorem putTextL_length (l : List UInt8) (at_ n : Int) (s : List UInt8) : (putTextL l at_ n s).length = l.length := by
  unfold putTextL
  split
  · rename_i h
    unfold putTextE at h
    split at h
    · omega
    · split at h
      · omega
      · rename_i h1 h2
        have h3 : lies l.length at_ n = true := by simpa using h2
        have h4 : 0 ≤ at_ ∧ 0 ≤ n ∧ at_ + n ≤ l.length := of_decide_eq_true h3
        exact spliced_length _ _ _ (by simp; omega)
  · rfl
theorem Play.next_length (q : Play) (l : List UInt8) : (q.next l).length = l.length := by
  unfold Play.next
  split
  · exact putL_length _ _ _ _
  · split
    · exact putTextL_length _ _ _ _
    · rfl
theorem playAt {w : World} {g : Nat} {q : Play} (h : Is w g 28 q.cells) :
    w.cell? ⟨g, 0, none⟩ = some (.int .i64 q.kind) ∧ w.cell? ⟨g, 1, none⟩ = some (.int .i64 q.at_) ∧ w.cell? ⟨g, 2, none⟩ = some (.int .i64 q.n) ∧ w.cell? ⟨g, 3, none⟩ = some (.int .u64 (q.v : Int)) ∧
    w.cell? ⟨g, 4, none⟩ = some (.string ⟨q.s.toArray⟩) := ⟨h.cell 0, h.cell 1, h.cell 2, h.cell 3, h.cell 4⟩
/-- its numbers are numbers of Go -/
def Play.Ok (q : Play) : Prop := -9223372036854775808 ≤ q.kind ∧ q.kind ≤ 9223372036854775807 ∧ -9223372036854775808 ≤ q.at_ ∧ q.at_ ≤ 9223372036854775807 ∧ -9223372036854775808 ≤ q.n ∧ q.n ≤ 9223372036854775807 ∧ q.v < 18446744073709551616 ∧ q.s.length ≤ 140737488355328

set_option maxHeartbeats 3200000 in
theorem plays_any (base : Nat) (A B : Option Addr) (ca cb : Nat) (l m1 m2 : List UInt8) (q : Play) (w : World) (hw : WidthsAt w) (hA : Mine w base A ca (l ++ m1)) (hB : Mine w base B cb (l ++ m2)) (hab : Apart A B)
    (hgw : 0 < base) (hbw : base ≤ w.heap.size) (hm : l.length ≤ 140737488355328) (hq : q.Ok) :
    Calls Tryd.prog 8 #[.slice A l.length ca, .slice B l.length cb, .agg q.cells] w fun e w' => e = .returned (.bool true) ∧ Mine w' base A ca (q.next l ++ m1) ∧ Mine w' base B cb (q.next l ++ m2) ∧ Keeps (Of2 A B) w w' := by
  obtain ⟨_, _, q2, q3, _, _, q6, q7⟩ := hq
  obtain ⟨hB0, hI0⟩ := one_new w q.cells 28
  have hK0 : Keeps (Of2 A B) w _ := Keeps.of_below hB0
  have hW1 := hw.below hB0 hw.lt
  have hA1 := hA.later hB0
  have hB1 := hB.later hB0
  have hgA : ¬ Of A w.heap.size := fun h => by have := hA.lt _ h; omega
  have hgB : ¬ Of B w.heap.size := fun h => by have := hB.lt _ h; omega
  have hsA := hA.shape
  have hsB := hB.shape
  have hs0 : base ≤ (w.alloc (.cells q.cells 28)).heap.size := by have := hB0.size; omega
  have HAB := Lib.hid hab
  go_enter Tryd.func8, Tryd.ntmps8
  go_upto_region 1 with fail
  generalize w.alloc (.cells q.cells 28) = w1 at hK0 hI0 hW1 hA1 hB1 hs0 ⊢
  obtain ⟨k0, k1, k2, k3, k4⟩ := playAt hI0
  have HW1 := Lib.hid hW1
  have HA1 := Lib.hid hA1
  have HB1 := Lib.hid hB1
  have HI0 := Lib.hid hI0
  have HK0 := Lib.hid hK0
  have HgA := Lib.hid hgA
  have HgB := Lib.hid hgB
  have HsA := Lib.hid hsA
  have HsB := Lib.hid hsB
  clear hw hA hB hab hB0 hI0 hK0 hW1 hA1 hB1 hgA hgB hsA hsB
  by_cases e0 : q.kind = 0
  · have hn : q.next l = l := by unfold Play.next; rw [if_neg (by omega), if_neg (by omega)]
    have HN := Lib.hid hn
    rw [e0] at k0
    clear hn e0
    go_wp2_with (first
      | (go_at_call 17; refine (ref_get_any B cb l q.at_ q.n _ HB1.out.head hm q2 q3).mono ?_; rintro e w2 ⟨rfl, hb2⟩; have HI2 := Lib.hid (HI0.out.below hb2 HI0.out.lt); obtain ⟨j0, j1, j2, j3, j4⟩ := playAt HI2.out; have HA2 := Lib.hid (HA1.out.later hb2); have HB2 := Lib.hid (HB1.out.later hb2); have HW2 := Lib.hid (HW1.out.below hb2 HW1.out.lt); have HK2 := Lib.hid (HK0.out.trans (Keeps.of_below hb2)))
      | (go_at_call 14; refine (get_any A ca l q.at_ q.n _ HW2.out HA2.out.head hm q2 q3).mono ?_; rintro e w3 ⟨rfl, rfl⟩))
    go_ret
    exact ⟨rfl, by rw [HN.out]; exact HA2.out, by rw [HN.out]; exact HB2.out, HK2.out⟩
  by_cases e1 : q.kind = 1
  · have hn : q.next l = putL l q.at_ q.n q.v := by unfold Play.next; rw [if_pos e1]
    have HN := Lib.hid hn
    rw [e1] at k0
    clear hn e0 e1
    go_wp2_with (first
      | (go_at_call 18; refine (ref_put_any base B cb l m2 q.at_ q.n q.v _ HB1.out hm q2 q3 q6).mono ?_; rintro e w2 ⟨rfl, hM2, hg2⟩; have hk2 := Keeps.of_grown HsB.out hg2; have HI2 := Lib.hid (HI0.out.keeps hk2 HgB.out); obtain ⟨j0, j1, j2, j3, j4⟩ := playAt HI2.out; have HA2 := Lib.hid (HA1.out.keeps_of hk2 HAB.out); have HB2 := Lib.hid hM2; have HW2 := Lib.hid (HW1.out.below (hk2.below hs0 HB1.out.of_ge) hgw); have HK2 := Lib.hid (HK0.out.trans hk2.right))
      | (go_at_call 13; refine (put_any base A ca l m1 q.at_ q.n q.v _ HW2.out HA2.out hm q2 q3 q6).mono ?_; rintro e w3 ⟨rfl, hM3, hg3⟩; have hk3 := Keeps.of_grown HsA.out hg3; have HB3 := Lib.hid (HB2.out.keeps_of hk3 HAB.out.symm); have HA3 := Lib.hid hM3; have HK3 := Lib.hid (HK2.out.trans hk3.left)))
    go_ret
    exact ⟨rfl, by rw [HN.out]; exact HA3.out, by rw [HN.out]; exact HB3.out, HK3.out⟩
  by_cases e2 : q.kind = 2
  · have hn : q.next l = l := by unfold Play.next; rw [if_neg (by omega), if_neg (by omega)]
    have HN := Lib.hid hn
    rw [e2] at k0
    clear hn e0 e1 e2
    go_wp2_with (first
      | (go_at_call 11; refine (ref_text_any B cb l q.at_ q.n _ HB1.out.head HB1.out.head_cap hm q2 q3).mono ?_; rintro e w2 ⟨rfl, rfl⟩)
      | (go_at_call 10; refine (text_any A ca l q.at_ q.n _ HA1.out.head HA1.out.head_cap hm q2 q3).mono ?_; rintro e w3 ⟨rfl, hb2⟩; have HA2 := Lib.hid (HA1.out.later hb2); have HB2 := Lib.hid (HB1.out.later hb2); have HK2 := Lib.hid (HK0.out.trans (Keeps.of_below hb2))))
    go_ret
    exact ⟨rfl, by rw [HN.out]; exact HA2.out, by rw [HN.out]; exact HB2.out, HK2.out⟩
  by_cases e3 : q.kind = 3
  · have hn : q.next l = putTextL l q.at_ q.n q.s := by unfold Play.next; rw [if_neg (by omega), if_pos e3]
    have HN := Lib.hid hn
    rw [e3] at k0
    clear hn e0 e1 e2 e3
    go_wp2_with (first
      | (go_at_call 19; refine (ref_putText_any base B cb l m2 q.at_ q.n q.s _ HB1.out hs0 hm q7 q2 q3).mono ?_; rintro e w2 ⟨rfl, hM2, hg2⟩; have hk2 := Keeps.of_grown HsB.out hg2; have hs2 := Nat.le_trans hs0 hk2.size; have HI2 := Lib.hid (HI0.out.keeps hk2 HgB.out); obtain ⟨j0, j1, j2, j3, j4⟩ := playAt HI2.out; have HA2 := Lib.hid (HA1.out.keeps_of hk2 HAB.out); have HB2 := Lib.hid hM2; have HK2 := Lib.hid (HK0.out.trans hk2.right))
      | (go_at_call 15; refine (putText_any base A ca l m1 q.at_ q.n q.s _ HA2.out hs2 hm q7 q2 q3).mono ?_; rintro e w3 ⟨rfl, hM3, hg3⟩; have hk3 := Keeps.of_grown HsA.out hg3; have HB3 := Lib.hid (HB2.out.keeps_of hk3 HAB.out.symm); have HA3 := Lib.hid hM3; have HK3 := Lib.hid (HK2.out.trans hk3.left)))
    go_ret
    exact ⟨rfl, by rw [HN.out]; exact HA3.out, by rw [HN.out]; exact HB3.out, HK3.out⟩
  have hn : q.next l = l := by unfold Play.next; rw [if_neg e1, if_neg e3]
  have HN := Lib.hid hn
  by_cases e4 : q.kind = 4
  · rw [e4] at k0
    clear hn e0 e1 e2 e3 e4
    go_wp2_with (first
      | (go_at_call 20; refine (ref_zero_any B cb l q.at_ q.n _ HB1.out.head hm q2 q3).mono ?_; rintro e w2 ⟨rfl, rfl⟩)
      | (go_at_call 16; refine (zero_any A ca l q.at_ q.n _ HA1.out.head HA1.out.head_cap hm q2 q3).mono ?_; rintro e w3 ⟨rfl, rfl⟩))
    go_ret
    exact ⟨rfl, by rw [HN.out]; exact HA1.out, by rw [HN.out]; exact HB1.out, HK0.out⟩
  · have b0 : (q.kind == 0) = false := by simpa using e0
    have b1 : (q.kind == 1) = false := by simpa using e1
    have b2 : (q.kind == 2) = false := by simpa using e2
    have b3 : (q.kind == 3) = false := by simpa using e3
    have b4 : (q.kind == 4) = false := by simpa using e4
    clear hn e0 e1 e2 e3 e4
    go_wp2_with fail
    go_ret
    exact ⟨rfl, by rw [HN.out]; exact HA1.out, by rw [HN.out]; exact HB1.out, HK0.out⟩
end Go.Proofs.YtnknoikmleiopaaDoor
