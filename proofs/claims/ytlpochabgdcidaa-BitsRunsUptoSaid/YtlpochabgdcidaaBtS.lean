/-
  THE WALKS OF THE STATEMENTS' OWN FUNCTIONS (bolelaw08): same, plays.
-/
import Derived.Test.YtlpochabgdcidaaBtR
import Derived.Deep.CutRange
set_option linter.unusedVariables false
set_option linter.unusedSimpArgs false
namespace Go.Proofs.Ytlpochabgdcidaa
open Go.RowKit Bt

theorem n8_ne (a b : UInt8) (h : a = b) : (n8 a != n8 b) = false := by subst h; simp
theorem n8_ne' (a b : UInt8) (h : a ≠ b) : (n8 a != n8 b) = true := by rw [bne, n8_beq]; simp [h]
theorem take_eq_snoc (l m : List UInt8) (k : Nat) (h1 : k < l.length) (h2 : k < m.length) (h : l.take k = m.take k) (e : l[k] = m[k]) : l.take (k + 1) = m.take (k + 1) := by rw [take_snoc l k h1, take_snoc m k h2, h, e]

set_option maxHeartbeats 800000 in
theorem same_any (A B : Option Addr) (ca cb : Nat) (l m : List UInt8) (w : World) (hl : Bytes w A l) (hm : Bytes w B m) (hs : l.length ≤ 140737488355328 + 64) (hs2 : m.length ≤ 140737488355328 + 64) :
    Calls Try.prog 9 #[.slice A l.length ca, .slice B m.length cb] w fun e w' => e = .returned (.bool (decide (l = m))) ∧ Below w.heap.size w w' := by
  have HL := Lib.hid hl
  have HM := Lib.hid hm
  clear hl hm
  by_cases hlen : l.length = m.length
  · have HLEN := Lib.hid hlen
    rw [← hlen]
    rw [← hlen] at hs2
    clear hlen
    go_enter Try.func9, Try.ntmps9
    go_wp2_with fail
    have hB0 : Below w.heap.size w w := Below.refl _ _
    go_loopw [5] (fun i wr => ∃ k : Nat, k ≤ l.length ∧ i = .int .i64 k ∧ l.take k = m.take k ∧ Below w.heap.size w wr) (fun i _ => l.length - (intOf i).toNat)
    case atStart => exact ⟨0, Nat.zero_le _, rfl, by simp, hB0⟩
    case round =>
      obtain ⟨k, hk, rfl, ht, hB⟩ := hrel
      have HTK := Lib.hid ht
      clear ht
      by_cases hlt : k < l.length
      · have hk2 : k < m.length := by rw [← HLEN.out]; exact hlt
        obtain ⟨b, off, rfl, hc⟩ := (HL.out.later hB).at_ hlt
        obtain ⟨b2, off2, rfl, hc2⟩ := (HM.out.later hB).at_ hk2
        have c0 : (0 : Int) ≤ (k : Int) := by omega
        have c1 : (k : Int) < (l.length : Int) := by omega
        have HK2 := Lib.hid hk2
        by_cases he : l[k] = m[k]
        · have hb := n8_ne _ _ he
          have HE := Lib.hid he
          clear he
          go_wp2_with fail
          go_quiet (fail)
          go_wp2_with fail
          go_roundw
          case rel => exact ⟨k + 1, by omega, by go_num, take_eq_snoc l m k hlt HK2.out HTK.out HE.out, below_drewN hB _⟩
          case measure => simp [intOf]; omega
        · have hb := n8_ne' _ _ he
          have hne : decide (l = m) = false := by
            refine decide_eq_false fun e => he ?_
            subst e; rfl
          have HNE := Lib.hid hne
          clear he hne
          go_wp2_with fail
          go_quiet (fail)
          go_wp2_with fail
          go_ret
          exact ⟨ret_bool (by rw [HNE.out]), below_drewN hB _⟩
      · go_wp2_with fail
        go_ret
        have e : l = m := by
          have h1 := HTK.out
          have h2 := HLEN.out
          rwa [List.take_of_length_le (by omega), List.take_of_length_le (by omega)] at h1
        exact ⟨ret_bool (by rw [decide_eq_true e]), hB⟩
  · have hne : decide (l = m) = false := decide_eq_false fun e => hlen (by rw [e])
    have hb : ((l.length : Int) != (m.length : Int)) = true := by simp only [bne_iff_ne, ne_eq]; omega
    rw [hne]
    clear hlen hne
    go_enter Try.func9, Try.ntmps9
    go_wp2_with fail
    go_ret
    exact ⟨rfl, Below.refl _ _⟩

theorem same_eq (A B : Option Addr) (ca cb : Nat) (l : List UInt8) (n1 n2 : Nat) (h1 : l.length = n1) (h2 : l.length = n2) (w : World) (hl : Bytes w A l) (hm : Bytes w B l) (hs : n1 ≤ 140737488355328 + 64) :
    Calls Try.prog 9 #[.slice A n1 ca, .slice B n2 cb] w fun e w' => e = .returned (.bool true) ∧ Below w.heap.size w w' := by
  subst h1
  rw [← h2]
  refine (same_any A B ca cb l l w hl hm hs hs).mono fun e w' h => ?_
  rw [decide_eq_true rfl] at h
  exact h

/-- there is a lowest bit that is off, or none -/
theorem low_ex (l : List UInt8) (i : Int) : ∃ r, IsLow l i r := by
  have key : ∀ n s : Nat, 8 * l.length - s ≤ n → ∃ r, IsLow l s r := by
    intro n
    induction n with
    | zero => exact fun s h => ⟨-1, .inl ⟨rfl, fun j h1 h2 => by omega⟩⟩
    | succ n ih =>
      intro s h
      by_cases hs : s < 8 * l.length
      · cases hb : bit l s with
        | false => exact ⟨s, .inr ⟨s, rfl, Int.le_refl _, hs, hb, fun j h1 h2 => by omega⟩⟩
        | true =>
          have step : ∀ j : Nat, (s : Int) ≤ j → (((s + 1 : Nat) : Int) ≤ j → bit l j = true) → bit l j = true := fun j h1 h2 => by
            rcases Nat.eq_or_lt_of_le (show s ≤ j by omega) with h3 | h3
            · rw [← h3]; exact hb
            · exact h2 (by omega)
          obtain ⟨r, ⟨e, hr⟩ | ⟨k, e, h1, h2, h3, h4⟩⟩ := ih (s + 1) (by omega)
          · exact ⟨r, .inl ⟨e, fun j h5 h6 => step j h5 (fun h7 => hr j h7 h6)⟩⟩
          · exact ⟨r, .inr ⟨k, e, by omega, h2, h3, fun j h5 h6 => step j h5 (fun h7 => h4 j h7 h6)⟩⟩
      · exact ⟨-1, .inl ⟨rfl, fun j h1 h2 => by omega⟩⟩
  by_cases h : i < 0
  · obtain ⟨r, ⟨e, hr⟩ | ⟨k, e, h1, h2, h3, h4⟩⟩ := key _ 0 (Nat.le_refl _)
    · exact ⟨r, .inl ⟨e, fun j _ h6 => hr j (by omega) h6⟩⟩
    · exact ⟨r, .inr ⟨k, e, by omega, h2, h3, fun j _ h6 => h4 j (by omega) h6⟩⟩
  · obtain ⟨s, rfl⟩ := Int.eq_ofNat_of_zero_le (show 0 ≤ i by omega)
    exact key _ s (Nat.le_refl _)
theorem lowest_r (A : Option Addr) (len cap : Nat) (l : List UInt8) (hlen : l.length = len) (i r : Int) (hr : IsLow l i r) (w : World) (hb : Bytes w A l) (hm : len ≤ 140737488355328) (hi0 : -9223372036854775808 ≤ i) (hi1 : i ≤ 9223372036854775807) :
    Calls Try.prog 15 #[.slice A len cap, .int .i64 i] w fun e w' => e = .returned (.int .i64 r) ∧ w' = w :=
  (lowest_any A len cap l hlen i w hb hm hi0 hi1).mono fun e w' ⟨⟨s, h1, h2⟩, h3⟩ => ⟨by rw [h1, h2.eq hr], h3.symm⟩
theorem ref_lowest_r (A : Option Addr) (len cap : Nat) (l : List UInt8) (hlen : l.length = len) (i r : Int) (hr : IsLow l i r) (w : World) (hb : Bytes w A l) (hm : len ≤ 140737488355328) (hi0 : -9223372036854775808 ≤ i) (hi1 : i ≤ 9223372036854775807) :
    Calls Try.prog 20 #[.slice A len cap, .int .i64 i] w fun e w' => e = .returned (.int .i64 r) ∧ w' = w :=
  (ref_lowest_any A len cap l hlen i w hb hm hi0 hi1).mono fun e w' ⟨⟨s, h1, h2⟩, h3⟩ => ⟨by rw [h1, h2.eq hr], h3.symm⟩

/-- a call on bytes -/
structure Deed where
  kind : Int
  i : Int
  till : Int
  on : Bool
def Deed.cells (q : Deed) : Array Value := #[.int .i64 q.kind, .int .i64 q.i, .int .i64 q.till, .bool q.on]
/-- what the bytes are behind it -/
def Deed.next (q : Deed) (l : List UInt8) : List UInt8 := if q.kind = 1 then putL l q.i q.on else l
theorem Deed.next_length (q : Deed) (l : List UInt8) : (q.next l).length = l.length := by
  unfold Deed.next
  split
  · exact putL_length _ _ _
  · rfl
theorem deedAt {w : World} {g : Nat} {q : Deed} (h : Is w g 27 q.cells) :
    w.cell? ⟨g, 0, none⟩ = some (.int .i64 q.kind) ∧ w.cell? ⟨g, 1, none⟩ = some (.int .i64 q.i) ∧ w.cell? ⟨g, 2, none⟩ = some (.int .i64 q.till) ∧ w.cell? ⟨g, 3, none⟩ = some (.bool q.on) := ⟨h.cell 0, h.cell 1, h.cell 2, h.cell 3⟩
/-- its numbers are numbers of Go -/
def Deed.Ok (q : Deed) : Prop := -9223372036854775808 ≤ q.i ∧ q.i ≤ 9223372036854775807

set_option maxHeartbeats 3200000 in
theorem plays_any (base : Nat) (A B : Option Addr) (ca cb len : Nat) (l m1 m2 : List UInt8) (hlen : l.length = len) (q : Deed) (w : World) (hA : Mine w base A ca (l ++ m1)) (hB : Mine w base B cb (l ++ m2)) (hab : Apart A B)
    (hm : len ≤ 140737488355328) (hq : q.Ok) :
    Calls Try.prog 8 #[.slice A len ca, .slice B len cb, .agg q.cells] w fun e w' => e = .returned (.bool true) ∧ Mine w' base A ca (q.next l ++ m1) ∧ Mine w' base B cb (q.next l ++ m2) ∧ Keeps (Of2 A B) w w' := by
  obtain ⟨q0, q1⟩ := hq
  obtain ⟨hB0, hI0⟩ := one_new w q.cells 27
  have hK0 : Keeps (Of2 A B) w _ := Keeps.of_below hB0
  have hA1 := hA.later hB0
  have hB1 := hB.later hB0
  have hgB : ¬ Of B w.heap.size := fun h => by have := hB.lt _ h; omega
  have HAB := Lib.hid hab
  have HL := Lib.hid hlen
  clear hlen
  go_enter Try.func8, Try.ntmps8
  go_upto_region 1 with fail
  generalize w.alloc (.cells q.cells 27) = w1 at hK0 hI0 hA1 hB1 ⊢
  obtain ⟨k0, k1, k2, k3⟩ := deedAt hI0
  have HA1 := Lib.hid hA1
  have HB1 := Lib.hid hB1
  have HI0 := Lib.hid hI0
  have HK0 := Lib.hid hK0
  have HgB := Lib.hid hgB
  clear hA hB hab hB0 hI0 hK0 hA1 hB1 hgB
  by_cases e0 : q.kind = 0
  · have hn : q.next l = l := by unfold Deed.next; rw [if_neg (by omega)]
    have HN := Lib.hid hn
    rw [e0] at k0
    clear hn e0
    go_wp2_with (first
      | (go_at_call 18; refine (ref_get_any B len cb l HL.out q.i _ HB1.out.head hm).mono ?_; rintro e w2 ⟨rfl, rfl⟩)
      | (go_at_call 14; refine (get_any A len ca l HL.out q.i _ HA1.out.head hm).mono ?_; rintro e w3 ⟨rfl, rfl⟩))
    go_ret
    exact ⟨rfl, by rw [HN.out]; exact HA1.out, by rw [HN.out]; exact HB1.out, HK0.out⟩
  by_cases e1 : q.kind = 1
  · have hn : q.next l = putL l q.i q.on := by unfold Deed.next; rw [if_pos e1]
    have HN := Lib.hid hn
    rw [e1] at k0
    clear hn e0 e1
    go_wp2_with (first
      | (go_at_call 19; refine (ref_put_any base B len cb l m2 HL.out q.i q.on _ HB1.out hm).mono ?_; rintro e w2 ⟨rfl, hM2, hk2⟩; have HI2 := Lib.hid (HI0.out.keeps hk2 HgB.out); obtain ⟨j0, j1, j2, j3⟩ := deedAt HI2.out; have HA2 := Lib.hid (HA1.out.keeps_of hk2 HAB.out); have HB2 := Lib.hid hM2; have HK2 := Lib.hid (HK0.out.trans hk2.right))
      | (go_at_call 16; refine (put_any base A len ca l m1 HL.out q.i q.on _ HA2.out hm).mono ?_; rintro e w3 ⟨rfl, hM3, hk3⟩; have HB3 := Lib.hid (HB2.out.keeps_of hk3 HAB.out.symm); have HA3 := Lib.hid hM3; have HK3 := Lib.hid (HK2.out.trans hk3.left)))
    go_ret
    exact ⟨rfl, by rw [HN.out]; exact HA3.out, by rw [HN.out]; exact HB3.out, HK3.out⟩
  have hn : q.next l = l := by unfold Deed.next; rw [if_neg e1]
  have HN := Lib.hid hn
  by_cases e2 : q.kind = 2
  · obtain ⟨r, hr⟩ := low_ex l q.i
    have HR := Lib.hid hr
    rw [e2] at k0
    clear hn e0 e1 e2 hr
    go_wp2_with fail
    go_quiet (first
      | (go_at_call 15; refine Calls.quiet_of_same (lowest_r A len ca l HL.out q.i r HR.out _ (HA1.out.drewN _).head hm q0 q1))
      | (go_at_call 20; refine Calls.quiet_of_same (ref_lowest_r B len cb l HL.out q.i r HR.out _ (HB1.out.drewN _).head hm q0 q1)))
    go_wp2_with fail
    go_ret
    exact ⟨rfl, by rw [HN.out]; exact HA1.out.drewN _, by rw [HN.out]; exact HB1.out.drewN _, ⟨HK0.out.os, HK0.out.tape, HK0.out.output, HK0.out.size, HK0.out.block⟩⟩
  by_cases e3 : q.kind = 3
  · rw [e3] at k0
    clear hn e0 e1 e2 e3
    go_wp2_with (first
      | (go_at_call 21; refine (ref_count_any B len cb l HL.out q.i q.till _ HB1.out.head hm).mono ?_; rintro e w2 ⟨rfl, rfl⟩)
      | (go_at_call 13; refine (count_any A len ca l HL.out q.i q.till _ HA1.out.head hm).mono ?_; rintro e w3 ⟨rfl, rfl⟩))
    go_ret
    exact ⟨rfl, by rw [HN.out]; exact HA1.out, by rw [HN.out]; exact HB1.out, HK0.out⟩
  · have b0 : (q.kind == 0) = false := by simpa using e0
    have b1 : (q.kind == 1) = false := by simpa using e1
    have b2 : (q.kind == 2) = false := by simpa using e2
    have b3 : (q.kind == 3) = false := by simpa using e3
    clear hn e0 e1 e2 e3
    go_wp2_with fail
    go_ret
    exact ⟨rfl, by rw [HN.out]; exact HA1.out, by rw [HN.out]; exact HB1.out, HK0.out⟩
end Go.Proofs.Ytlpochabgdcidaa
