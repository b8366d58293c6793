/-
  THE WALK OF THE DOCUMENT's Read.
-/
import Derived.Test.YtaijakknhmagoaaDoorGeoR2
set_option linter.unusedVariables false
set_option linter.unusedSimpArgs false
namespace Go.Proofs.YtaijakknhmagoaaDoor
open Go.RowKit Rec Gp

theorem four_at (l : List UInt8) (h : l.length = 512) : (l.drop 8).take 4 = [l[8]'(by omega), l[9]'(by omega), l[10]'(by omega), l[11]'(by omega)] := by
  rw [List.drop_eq_getElem_cons (by omega), List.drop_eq_getElem_cons (i := 8 + 1) (by omega), List.drop_eq_getElem_cons (i := 8 + 1 + 1) (by omega), List.drop_eq_getElem_cons (i := 8 + 1 + 1 + 1) (by omega)]
  rfl
theorem num_two (l : List UInt8) (h : l.length = 512) (N : Nat) (hN : (l[8]'(by omega)).toNat + 256 * (l[9]'(by omega)).toNat = N) : (Disk N ∧ superL N = l ↔ good l = true) ∧ (good l = true → numOf l = N) := by
  have hx := (l[8]'(by omega)).toNat_lt
  have hy := (l[9]'(by omega)).toNat_lt
  have hn : numOf l = N + 65536 * ((l[10]'(by omega)).toNat + 256 * (l[11]'(by omega)).toNat) := by
    unfold numOf
    rw [four_at l h]
    simp only [le]
    omega
  have key : good l = true → numOf l = N := by
    intro hg
    unfold good at hg
    simp only [Bool.and_eq_true, decide_eq_true_eq] at hg
    have hd : (numOf l : Int) ≤ 16384 := hg.1.2
    omega
  refine ⟨⟨fun ⟨h1, h2⟩ => ?_, fun hg => ?_⟩, key⟩
  · have hd : (N : Int) ≤ 16384 := h1.2
    have e : numOf l = N := by rw [← h2]; exact numOf_super N (by omega)
    unfold good
    rw [e]
    simp [h1, h2]
  · have e := key hg
    unfold good at hg
    simp only [Bool.and_eq_true, decide_eq_true_eq] at hg
    rw [e] at hg
    exact hg

set_option maxHeartbeats 1600000 in
theorem ref_read_any (A : Option Addr) (cap : Nat) (l : List UInt8) (len : Nat) (hlen : l.length = len) (w : World) (hl : Bytes w A l) (hm : len ≤ 140737488355328) :
    Calls Tryd.prog 15 #[.slice A len cap] w fun e w' => e = .returned (.tuple #[.int .i64 (readV l : Int), .int .i64 (readE l)]) ∧ Below w.heap.size w w' := by
  by_cases h512 : len = 512
  · subst h512
    rcases hl with rfl | ⟨b, off, rfl, hc⟩
    · cases hlen
    have hb : Bytes w (some ⟨b, off, none⟩) l := .inr ⟨b, off, rfl, hc⟩
    have c8 := hc 8 (by omega)
    have c9 := hc 9 (by omega)
    obtain ⟨N, hN⟩ : ∃ N, (l[8]'(by omega)).toNat + 256 * (l[9]'(by omega)).toNat = N := ⟨_, rfl⟩
    obtain ⟨k1, k2⟩ := num_two l hlen N hN
    generalize l[8]'(by omega) = x at c8 hN
    generalize l[9]'(by omega) = y at c9 hN
    have hx := x.toNat_lt
    have hy := y.toNat_lt
    have hw1 : IntKind.i64.wrap (n8 y * 256) = n8 y * 256 := IntWalk.i64_in _ (by unfold n8; omega)
    have hw2 : IntKind.i64.wrap (n8 x + n8 y * 256) = (N : Int) := by rw [IntWalk.i64_in _ (by unfold n8; omega)]; unfold n8; omega
    have hw3 : IntKind.i64.wrap (n8 x) = n8 x := IntWalk.i64_in _ (by unfold n8; omega)
    have hw4 : IntKind.i64.wrap (n8 y) = n8 y := IntWalk.i64_in _ (by unfold n8; omega)
    have HLen := Lib.hid hlen
    have HB := Lib.hid hb
    have hNi : (N : Int) ≤ 70000 := by omega
    by_cases hd : Disk N
    · by_cases hs : superL N = l
      · have hg := k1.1 ⟨hd, hs⟩
        have hr := read_good l hlen hg
        rw [hr.1, hr.2, k2 hg]
        have HD := Lib.hid hd
        have HS := Lib.hid hs
        clear hlen hd hs hr hg k1 k2 hN hx hy hc hb
        go_enter Tryd.func15, Tryd.ntmps15
        go_wp2_with fail
        go_quiet (fail)
        go_wp2_with (go_at_call 14; refine (ref_super_ok N _ HD.out).mono ?_; rintro e w1 ⟨g, c1, rfl, hm1, hb1⟩; rw [HS.out] at hm1; have s1 := str_any w1 (some ⟨g, 0, none⟩) c1 l hm1.bytes 512 HLen.out; have s2 := str_any w1 (some ⟨b, off, none⟩) cap l ((HB.out.drewN nq).later hb1) 512 HLen.out; have HB1 := Lib.hid hb1; clear hm1)
        go_ret2
        exact ⟨rfl, (below_drewN (Below.refl w.heap.size w) nq).trans HB1.out⟩
      · have hg : good l = false := by rw [Bool.eq_false_iff]; intro hg; exact hs (k1.2 hg).2
        have hr := read_bad l hlen hg
        rw [hr.1, hr.2]
        have HD := Lib.hid hd
        have HS := Lib.hid hs
        clear hlen hd hs hr hg k1 k2 hN hx hy hc hb
        go_enter Tryd.func15, Tryd.ntmps15
        go_wp2_with fail
        go_quiet (fail)
        go_wp2_with (go_at_call 14; refine (ref_super_ok N _ HD.out).mono ?_; rintro e w1 ⟨g, c1, rfl, hm1, hb1⟩; have s1 := str_any w1 (some ⟨g, 0, none⟩) c1 (superL N) hm1.bytes 512 (superL_length N); have s2 := str_any w1 (some ⟨b, off, none⟩) cap l ((HB.out.drewN nq).later hb1) 512 HLen.out; have HB1 := Lib.hid hb1; have hne := str_other HS.out; clear hm1)
        go_ret2
        exact ⟨rfl, (below_drewN (Below.refl w.heap.size w) nq).trans HB1.out⟩
    · have hg : good l = false := by rw [Bool.eq_false_iff]; intro hg; exact hd (k1.2 hg).1
      have hr := read_bad l hlen hg
      rw [hr.1, hr.2]
      have HD := Lib.hid hd
      clear hlen hd hr hg k1 k2 hN hx hy hc hb
      go_enter Tryd.func15, Tryd.ntmps15
      go_wp2_with fail
      go_quiet (fail)
      go_wp2_with (go_at_call 14; refine (ref_super_bad N _ HD.out).mono ?_; rintro e w1 ⟨rfl, hb1⟩; have HB1 := Lib.hid hb1)
      go_ret2
      exact ⟨rfl, (below_drewN (Below.refl w.heap.size w) nq).trans HB1.out⟩
  · have hr : readV l = 0 ∧ readE l = 32 := by unfold readV readE; rw [if_neg (by omega), if_neg (by omega)]; exact ⟨rfl, rfl⟩
    rw [hr.1, hr.2]
    have hne : ((len : Int) != 512) = true := by rw [bne_iff_ne]; omega
    clear hr hl hlen
    go_enter Tryd.func15, Tryd.ntmps15
    go_wp2_with fail
    go_ret2
    exact ⟨rfl, Below.refl _ _⟩
end Go.Proofs.YtaijakknhmagoaaDoor
