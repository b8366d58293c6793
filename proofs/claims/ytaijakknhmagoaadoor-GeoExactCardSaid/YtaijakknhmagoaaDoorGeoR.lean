/-
  THE WALKS OF THE DOCUMENT's geo: Of, Super, Read.
-/
import Derived.Test.YtaijakknhmagoaaDoorGeoX
import Derived.Test.YtaijakknhmagoaaDoorRefO
set_option linter.unusedVariables false
set_option linter.unusedSimpArgs false
namespace Go.Proofs.YtaijakknhmagoaaDoor
open Go.RowKit Rec Gp

theorem ref_of_bad (n : Int) (w : World) (h : ¬ Disk n) :
    Calls Tryd.prog 13 #[.int .i64 n] w fun e w' => e = .returned (.tuple #[.agg noCells, .int .i64 70]) ∧ Below w.heap.size w w' := by
  unfold Disk at h
  obtain ⟨hb0, i0⟩ := one_new w noCells 24
  by_cases h1 : n < 128
  · clear h
    go_enter Tryd.func13, Tryd.ntmps13
    go_wp2_with fail
    exact bodyPost_ret (v := .tuple #[.agg noCells, .int .i64 70]) (by simp [results, Tryd.results13, noCells, go_sem]) rfl ⟨rfl, hb0⟩
  · have h2 : 16384 < n := by omega
    have h1 : 128 ≤ n := by omega
    clear h
    go_enter Tryd.func13, Tryd.ntmps13
    go_wp2_with fail
    exact bodyPost_ret (v := .tuple #[.agg noCells, .int .i64 70]) (by simp [results, Tryd.results13, noCells, go_sem]) rfl ⟨rfl, hb0⟩

set_option maxHeartbeats 1600000 in
theorem ref_of_ok (n : Nat) (w : World) (h : Disk n) :
    Calls Tryd.prog 13 #[.int .i64 (n : Int)] w fun e w' => e = .returned (.tuple #[.agg (geoCells n), .int .i64 0]) ∧ Below w.heap.size w w' := by
  unfold Disk at h
  obtain ⟨h1, h2⟩ := h
  obtain ⟨hb0, i0, i1⟩ := two_new w noCells #[.int .i64 (n : Int), .int .i64 98, .int .i64 98, .int .i64 0, .int .i64 0] 24 24
  have HI0 := Lib.hid i0
  have HI1 := Lib.hid i1
  have HB0 := Lib.hid hb0
  clear hb0 i0 i1
  go_enter Tryd.func13, Tryd.ntmps13
  go_wp2_with fail
  go_loopw [5] (fun i wr => ∃ k : Nat, 4096 * k ≤ n + 4095 ∧ i = .int .i64 ((4096 * k : Nat) : Int) ∧ Is wr w.heap.size 24 noCells ∧ Is wr (w.heap.size + 1) 24 #[.int .i64 (n : Int), .int .i64 98, .int .i64 ((98 + k : Nat) : Int), .int .i64 0, .int .i64 0] ∧ Below w.heap.size w wr) (fun i _ => n + 4096 - (intOf i).toNat)
  case atStart => exact ⟨0, by omega, rfl, HI0.out, HI1.out, HB0.out⟩
  case round =>
    obtain ⟨k, hk, rfl, hI0, hI1, hB⟩ := hrel
    have c2 := hI1.cell 2
    have f2 := hI1.free 2
    have HI0 := Lib.hid hI0
    have HI1 := Lib.hid hI1
    have HB := Lib.hid hB
    obtain ⟨t, ht⟩ : ∃ t, 4096 * k = t := ⟨_, rfl⟩
    obtain ⟨q, hq⟩ : ∃ q, 98 + k = q := ⟨_, rfl⟩
    replace c2 : wr.cell? ⟨w.heap.size + 1, 2, none⟩ = some (.int .i64 ((98 + k : Nat) : Int)) := c2
    rw [hq] at c2
    rw [ht] at hk ⊢
    have hqb : (q : Int) ≤ 200 := by omega
    have HT := Lib.hid ht
    have HQ := Lib.hid hq
    clear hI0 hI1 hB ht hq
    by_cases hlt : t < n
    · go_wp2_with fail
      go_roundw
      case rel =>
        have hb := HB.out.setCell (p := ⟨w.heap.size + 1, 2, none⟩) (by show w.heap.size ≤ w.heap.size + 1; omega) (.int .i64 ((98 + (k + 1) : Nat) : Int))
        have hp := HI1.out.put 2 (.int .i64 ((98 + (k + 1) : Nat) : Int))
        have ho := HI0.out.other ⟨w.heap.size + 1, 2, none⟩ (by show w.heap.size ≠ w.heap.size + 1; omega) (.int .i64 ((98 + (k + 1) : Nat) : Int))
        have e : ((98 + (k + 1) : Nat) : Int) = (q : Int) + 1 := by have := HQ.out; omega
        rw [e] at hb hp ho
        refine ⟨k + 1, by have := HT.out; omega, by have := HT.out; go_num, ho, ?_, hb⟩
        rw [e]
        exact hp
      case measure => simp [intOf]; omega
    · obtain ⟨I, hI⟩ : ∃ I, ino n = I := ⟨_, rfl⟩
      have hqI : q = I := by rw [← hI]; unfold ino; have := HT.out; have := HQ.out; omega
      subst hqI
      have HIE := Lib.hid hI
      have c3 := HI1.out.cell 3
      have f3 := HI1.out.free 3
      rw [HQ.out] at HI1
      obtain ⟨wa, rfl⟩ : ∃ wa : World, wa = wr := ⟨_, rfl⟩
      clear hI
      go_wp2_with fail
      have hb := HB.out.setCell (p := ⟨w.heap.size + 1, 3, none⟩) (by show w.heap.size ≤ w.heap.size + 1; omega) (.int .i64 (q : Int))
      have hp := HI1.out.put 3 (.int .i64 (q : Int))
      have ho := HI0.out.other ⟨w.heap.size + 1, 3, none⟩ (by show w.heap.size ≠ w.heap.size + 1; omega) (.int .i64 (q : Int))
      obtain ⟨wb, hwb⟩ : ∃ wb, wa.setCell ⟨w.heap.size + 1, 3, none⟩ (.int .i64 (q : Int)) = wb := ⟨_, rfl⟩
      rw [hwb] at hb hp ho ⊢
      have hp : Is wb (w.heap.size + 1) 24 #[.int .i64 (n : Int), .int .i64 98, .int .i64 (q : Int), .int .i64 (q : Int), .int .i64 0] := hp
      have HBb := Lib.hid hb
      have HPb := Lib.hid hp
      have HOb := Lib.hid ho
      clear hb hp ho hwb c2 c3 f2 f3
      go_loopw [6] (fun i wr => ∃ k : Nat, 64 * k ≤ n ∧ i = .int .i64 ((64 * (k + 1) : Nat) : Int) ∧ Is wr w.heap.size 24 noCells ∧ Is wr (w.heap.size + 1) 24 #[.int .i64 (n : Int), .int .i64 98, .int .i64 (q : Int), .int .i64 ((q + k : Nat) : Int), .int .i64 ((8 * k : Nat) : Int)] ∧ Below w.heap.size w wr) (fun i _ => n + 64 - (intOf i).toNat)
      case atStart => exact ⟨0, by omega, rfl, HOb.out, HPb.out, HBb.out⟩
      case round =>
        obtain ⟨k2, hk2, rfl, hI0, hI1, hB⟩ := hrel
        have c0 := hI1.cell 0
        have c1 := hI1.cell 1
        have c2 := hI1.cell 2
        have c3 := hI1.cell 3
        have c4 := hI1.cell 4
        have f3 := hI1.free 3
        have f4 := hI1.free 4
        have HI0 := Lib.hid hI0
        have HI1 := Lib.hid hI1
        have HB := Lib.hid hB
        obtain ⟨t2, ht2⟩ : ∃ t2, 64 * (k2 + 1) = t2 := ⟨_, rfl⟩
        obtain ⟨d, hd⟩ : ∃ d, q + k2 = d := ⟨_, rfl⟩
        obtain ⟨m, hm⟩ : ∃ m, 8 * k2 = m := ⟨_, rfl⟩
        replace c3 : wr.cell? ⟨w.heap.size + 1, 3, none⟩ = some (.int .i64 ((q + k2 : Nat) : Int)) := c3
        replace c4 : wr.cell? ⟨w.heap.size + 1, 4, none⟩ = some (.int .i64 ((8 * k2 : Nat) : Int)) := c4
        rw [hd] at c3
        rw [hm] at c4
        rw [ht2]
        have hdb : (d : Int) ≤ 1000 := by omega
        have hmb : (m : Int) ≤ 4000 := by omega
        have HT2 := Lib.hid ht2
        have HD := Lib.hid hd
        have HM := Lib.hid hm
        clear hI0 hI1 hB ht2 hd hm
        by_cases hlt2 : t2 ≤ n
        · go_wp2_with fail
          go_roundw
          case rel =>
            have hb := (HB.out.setCell (p := ⟨w.heap.size + 1, 3, none⟩) (by show w.heap.size ≤ w.heap.size + 1; omega) (.int .i64 ((d : Int) + 1))).setCell (p := ⟨w.heap.size + 1, 4, none⟩) (by show w.heap.size ≤ w.heap.size + 1; omega) (.int .i64 ((m : Int) + 8))
            have hp := (HI1.out.put 3 (.int .i64 ((d : Int) + 1))).put 4 (.int .i64 ((m : Int) + 8))
            have ho := (HI0.out.other ⟨w.heap.size + 1, 3, none⟩ (by show w.heap.size ≠ w.heap.size + 1; omega) (.int .i64 ((d : Int) + 1))).other ⟨w.heap.size + 1, 4, none⟩ (by show w.heap.size ≠ w.heap.size + 1; omega) (.int .i64 ((m : Int) + 8))
            have e1 : ((q + (k2 + 1) : Nat) : Int) = (d : Int) + 1 := by have := HD.out; omega
            have e2 : ((8 * (k2 + 1) : Nat) : Int) = (m : Int) + 8 := by have := HM.out; omega
            refine ⟨k2 + 1, by have := HT2.out; omega, by have := HT2.out; go_num, ho, ?_, hb⟩
            rw [e1, e2]
            exact hp
          case measure => simp [intOf]; omega
        · have hdd : dat n = d := by unfold dat; rw [HIE.out]; have := HD.out; have := HT2.out; omega
          have hmm : cnt n = m := by unfold cnt; have := HM.out; have := HT2.out; omega
          have HG := Lib.hid (show geoCells n = #[.int .i64 (n : Int), .int .i64 98, .int .i64 (q : Int), .int .i64 (d : Int), .int .i64 (m : Int)] by unfold geoCells; rw [HIE.out, hdd, hmm])
          have f5 : ∀ i, wr.frozen? ⟨w.heap.size, i, none⟩ = false := fun i => HI0.out.free i
          have d0 : wr.cell? ⟨w.heap.size, 0, none⟩ = some (.int .i64 0) := HI0.out.cell 0
          have d1 : wr.cell? ⟨w.heap.size, 1, none⟩ = some (.int .i64 0) := HI0.out.cell 1
          have d2 : wr.cell? ⟨w.heap.size, 2, none⟩ = some (.int .i64 0) := HI0.out.cell 2
          have d3 : wr.cell? ⟨w.heap.size, 3, none⟩ = some (.int .i64 0) := HI0.out.cell 3
          have d4 : wr.cell? ⟨w.heap.size, 4, none⟩ = some (.int .i64 0) := HI0.out.cell 4
          clear hdd hmm
          go_wp2_with fail
          rw [HG.out]
          refine bodyPost_ret (v := .tuple #[.agg #[.int .i64 (n : Int), .int .i64 98, .int .i64 (q : Int), .int .i64 (d : Int), .int .i64 (m : Int)], .int .i64 0]) (by simp [results, Tryd.results13, go_sem, d0, d1, d2, d3, d4]) rfl ⟨rfl, ?_⟩
          exact ((((HB.out.setCell (p := ⟨w.heap.size, 0, none⟩) (Nat.le_refl _) _).setCell (p := ⟨w.heap.size, 1, none⟩) (Nat.le_refl _) _).setCell (p := ⟨w.heap.size, 2, none⟩) (Nat.le_refl _) _).setCell (p := ⟨w.heap.size, 3, none⟩) (Nat.le_refl _) _).setCell (p := ⟨w.heap.size, 4, none⟩) (Nat.le_refl _) _
end Go.Proofs.YtaijakknhmagoaaDoor
