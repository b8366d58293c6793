/-
  THE WALK OF SumExact: each question's answer is the document's; what is handed in stays.
-/
import Derived.Test.YtjglffejoflpoaaDoorSumKnown
import Derived.Test.YtjglffejoflpoaaDoorSumRefW
import Derived.Test.YtjglffejoflpoaaDoorRow
import Derived.Deep.CutRange
set_option linter.unusedVariables false
set_option linter.unusedSimpArgs false
namespace Go.Proofs.YtjglffejoflpoaaDoor
open Go.RowKit
attribute [local go_sem] u32_wrap8 u32_wrap32 u32_xor u32_max u32_signed u32_not

def marks : List UInt8 := [209, 210, 211]

set_option maxHeartbeats 800000 in
theorem roomy_any (A : Option Addr) (ca : Nat) (l : List UInt8) (w : World) (hA : Bytes w A l) (hc : A = none → ca = 0) (hm : l.length + 3 ≤ 140737488355328) :
    Calls Tryd.prog 14 #[.slice A l.length ca] w fun e w' => ∃ g cap, e = .returned (.slice (some ⟨g, 0, none⟩) l.length cap) ∧ l.length + 3 ≤ cap ∧ cap ≤ maxLen ∧ Bytes w' (some ⟨g, 0, none⟩) (l ++ marks) ∧ Below w.heap.size w w' := by
  have HA := Lib.hid hA
  have HC := Lib.hid hc
  clear hA hc
  go_enter Tryd.func14, Tryd.ntmps14
  go_wp2_with (at_builtin; first
    | (refine wpList_append_u8 rfl (.tmp 4) (.tmp 5) rfl w.heap.size (some ⟨w.heap.size, 0, none⟩) 0 [] rfl (Mine.empty w (Nat.le_refl _)) A ca l rfl HC.out (HA.out.later (below_new w _)) (by simp; omega) (by simp) ?_; intro A2 cap2 w2 hm2 hg2 hb2; have hb3 := ((below_new w _).trans (hb2.mono (Nat.le_refl _))); have hs3 := hb3.size)
    | (refine wpList_append_u8 rfl (.tmp 7) (.tmp 8) rfl w.heap.size A2 cap2 l rfl ((show Mine w2 w.heap.size A2 cap2 l from hm2).later (below_new w2 _)) (some ⟨w2.heap.size, 0, none⟩) 3 marks rfl (by simp) (bytes_new w2 _ _ marks) (by show l.length + 3 ≤ _; omega) (by simp; omega) ?_; intro A4 cap4 w4 hm4 hg4 hb4; obtain ⟨g, hA4, hge, hlt⟩ := hm4.form (by simp [marks]); subst hA4; have hcl : l.length ≤ cap4 := by have := hm4.cap_le.1; simp at this; omega))
  go_ret
  have hcl := hm4.cap_le
  refine ⟨g, cap4, ret_val ?_, by simpa [marks] using hcl.1, hcl.2, hm4.bytes, hb3.trans ((below_new w2 _).mono hs3 |>.trans (hb4.mono (Nat.le_refl _)))⟩
  rfl
/-- string(..) of bytes that lie somewhere -/
theorem str_of (w : World) (A : Option Addr) (cap : Nat) (l : List UInt8) (h : Bytes w A l) (len : Nat) (hl : l.length = len) : (convert 25 9 (.slice A len cap)).run Tryd.prog w = .ok (.string ⟨l.toArray⟩) w := by
  subst hl
  cases A with
  | none =>
    have : l = [] := by rcases h with rfl | ⟨b, off, hb, _⟩; exact rfl; cases hb
    subst this
    exact run_convert_bytes_nil (P := Tryd.prog) w 25 5 Tryd.underlying25 Tryd.underlying5 0 cap 9 Tryd.underlying9
  | some a => exact run_convert_bytes_back w 25 9 5 a cap l Tryd.underlying25 Tryd.underlying5 Tryd.underlying9 (fun j hj => h.cells j _ (cellsOf8_at l j hj))

set_option maxHeartbeats 800000 in
theorem kept_any (A : Option Addr) (g ca cap : Nat) (l : List UInt8) (w : World) (hA : Bytes w A l) (hB : Bytes w (some ⟨g, 0, none⟩) (l ++ marks)) (hm : l.length + 3 ≤ cap) (hm2 : cap ≤ maxLen) (hm3 : l.length ≤ 140737488355328) :
    Calls Tryd.prog 16 #[.slice (some ⟨g, 0, none⟩) l.length cap, .slice A l.length ca] w fun e w' => e = .returned (.bool true) ∧ Below w.heap.size w w' := by
  have hB0 : Bytes w (some ⟨g, 0, none⟩) l := by have := hB.take l.length; simpa using this
  have s1 := fun n : Nat => str_of (w.drewN n) A ca l (hA.drewN n) l.length rfl
  have s2 := fun n : Nat => str_of (w.drewN n) (some ⟨g, 0, none⟩) cap l (hB0.drewN n) l.length rfl
  obtain ⟨b0, o0, e0, c0⟩ := hB.at_ (k := l.length) (by simp [marks])
  obtain ⟨b1, o1, e1, c1⟩ := hB.at_ (k := l.length + 1) (by simp [marks])
  obtain ⟨b2, o2, e2, c2⟩ := hB.at_ (k := l.length + 2) (by simp [marks])
  injection e0 with e0; injection e0 with e0 f0; subst e0; subst f0
  injection e1 with e1; injection e1 with e1 f1; subst e1; subst f1
  injection e2 with e2; injection e2 with e2 f2; subst e2; subst f2
  simp [marks] at c0 c1 c2
  rw [show n8 209 = 209 by rfl] at c0
  rw [show n8 210 = 210 by rfl] at c1
  rw [show n8 211 = 211 by rfl] at c2
  have w1 : IntKind.i64.wrap ((l.length : Int) + 1) = ((l.length + 1 : Nat) : Int) := IntWalk.i64_in _ (by omega)
  have w2 : IntKind.i64.wrap ((l.length : Int) + 2) = ((l.length + 2 : Nat) : Int) := IntWalk.i64_in _ (by omega)
  have b0 : (0 : Int) ≤ (l.length : Int) := by omega
  have b1 : (0 : Int) ≤ ((l.length + 1 : Nat) : Int) := by omega
  have b2 : (0 : Int) ≤ ((l.length + 2 : Nat) : Int) := by omega
  have b3 : (l.length : Int) < ((l.length + 3 : Nat) : Int) := by omega
  have b4 : ((l.length + 1 : Nat) : Int) < ((l.length + 3 : Nat) : Int) := by omega
  have b5 : ((l.length + 2 : Nat) : Int) < ((l.length + 3 : Nat) : Int) := by omega
  have b6 : (l.length : Int) ≤ (cap : Int) := by omega
  clear hA hB hB0
  go_enter Tryd.func16, Tryd.ntmps16
  go_wp2_with fail
  go_quiet (fail)
  go_wp2_with fail
  go_ret
  exact ⟨rfl, below_drewN (Below.refl _ _) _⟩
/-- a question -/
structure Ask where
  kind : Int
  a : BitVec 32
  b : BitVec 32
  n : Int
  at_ : Int
  was : Piece
  now : Piece
/-- its cells -/
def Ask.cells (q : Ask) : Array Value := #[.int .i64 q.kind, .int .u32 (n32 q.a), .int .u32 (n32 q.b), .int .i64 q.n, .int .i64 q.at_, .slice q.was.A q.was.l.length q.was.cap, .slice q.now.A q.now.l.length q.now.cap]

theorem keep56 {w : World} {g : Nat} {q : Ask} (h : Is w g 27 q.cells) :
    w.cell? ⟨g, 5, none⟩ = some (.slice q.was.A q.was.l.length q.was.cap) ∧ w.cell? ⟨g, 6, none⟩ = some (.slice q.now.A q.now.l.length q.now.cap) := ⟨h.cell 5, h.cell 6⟩

theorem askAt {w : World} {g : Nat} {q : Ask} (h : Is w g 27 q.cells) :
    w.cell? ⟨g, 0, none⟩ = some (.int .i64 q.kind) ∧ w.cell? ⟨g, 1, none⟩ = some (.int .u32 (n32 q.a)) ∧ w.cell? ⟨g, 2, none⟩ = some (.int .u32 (n32 q.b)) ∧ w.cell? ⟨g, 3, none⟩ = some (.int .i64 q.n) ∧ w.cell? ⟨g, 4, none⟩ = some (.int .i64 q.at_) ∧
    w.cell? ⟨g, 5, none⟩ = some (.slice q.was.A q.was.l.length q.was.cap) ∧ w.cell? ⟨g, 6, none⟩ = some (.slice q.now.A q.now.l.length q.now.cap) := ⟨h.cell 0, h.cell 1, h.cell 2, h.cell 3, h.cell 4, h.cell 5, h.cell 6⟩

set_option maxHeartbeats 1600000 in
theorem answers_any (q : Ask) (w : World) (hw : HalfAt w) (h1 : Bytes w q.was.A q.was.l) (h2 : Bytes w q.now.A q.now.l) (h3 : q.was.A = none → q.was.cap = 0) (h4 : q.now.A = none → q.now.cap = 0)
    (h5 : q.was.l.length + 3 ≤ 140737488355328) (h6 : q.now.l.length + 3 ≤ 140737488355328) (hn1 : -9223372036854775808 ≤ q.n) (hn2 : q.n ≤ 9223372036854775807) (ha1 : -9223372036854775808 ≤ q.at_) (ha2 : q.at_ ≤ 9223372036854775807) :
    Calls Tryd.prog 9 #[.agg q.cells] w fun e w' => e = .returned (.bool true) ∧ Below w.heap.size w w' := by
  have hG := hw.lt
  have HW := Lib.hid hw
  have H1 := Lib.hid h1
  have H2 := Lib.hid h2
  have H3 := Lib.hid h3
  have H4 := Lib.hid h4
  clear hw h1 h2 h3 h4
  go_enter Tryd.func9, Tryd.ntmps9
  obtain ⟨hB0, hI0⟩ := one_new w q.cells 27
  go_upto_region 1 with fail
  generalize w.alloc (.cells q.cells 27) = w1 at hB0 hI0 ⊢
  go_cut [3, 4] from 14 to 19 (fun s3 s4 wx => ∃ g1 c1 g2 c2, s3 = .slice (some ⟨g1, 0, none⟩) q.was.l.length c1 ∧ s4 = .slice (some ⟨g2, 0, none⟩) q.now.l.length c2 ∧ q.was.l.length + 3 ≤ c1 ∧ c1 ≤ maxLen ∧ q.now.l.length + 3 ≤ c2 ∧ c2 ≤ maxLen ∧
    Bytes wx (some ⟨g1, 0, none⟩) (q.was.l ++ marks) ∧ Bytes wx (some ⟨g2, 0, none⟩) (q.now.l ++ marks) ∧ Is wx w.heap.size 27 q.cells ∧ Below w.heap.size w wx)
  case first =>
    go_region_held3 (fun w' => w'.cell? ⟨w.heap.size, 5, none⟩ = some (.slice q.was.A q.was.l.length q.was.cap) ∧ w'.cell? ⟨w.heap.size, 6, none⟩ = some (.slice q.now.A q.now.l.length q.now.cap))
      (first
        | exact keep56 hIA
        | exact keep56 hIB
        | exact keep56 hI0.drew)
      (first
        | (go_at_call 14; with_reducible refine (roomy_any q.was.A q.was.cap q.was.l _ (by first | exact H1.out.later hBB | exact (H1.out.later hB0).drew) H3.out (by omega)).mono ?_; rintro e wA ⟨g1, c1, rfl, hc1, hm1, hyA, hbA⟩; have hIA : Is wA w.heap.size 27 q.cells := (by first | exact hIB.below hbA hIB.lt | exact hI0.drew.below hbA hI0.drew.lt); have hBA : Below w.heap.size w wA := (by first | exact hBB.trans (hbA.mono hBB.size) | exact hB0.drew.trans (hbA.mono hB0.drew.size)))
        | (go_at_call 14; with_reducible refine (roomy_any q.now.A q.now.cap q.now.l _ (by first | exact H2.out.later hBA | exact (H2.out.later hB0).drew) H4.out (by omega)).mono ?_; rintro e wB ⟨g2, c2, rfl, hc2, hm2, hyB, hbB⟩; have hIB : Is wB w.heap.size 27 q.cells := (by first | exact hIA.below hbB hIA.lt | exact hI0.drew.below hbB hI0.drew.lt); have hBB : Below w.heap.size w wB := (by first | exact hBA.trans (hbB.mono hBA.size) | exact hB0.drew.trans (hbB.mono hB0.drew.size))))
    all_goals go_wp2_with fail
    all_goals go_meet
    all_goals exact ⟨g1, c1, g2, c2, rfl, rfl, hc1, hm1, hc2, hm2, (by first | exact hyA | exact hyA.later hbB), (by first | exact hyB | exact hyB.later hbA), (by first | exact hIA | exact hIB), (by first | exact hBA | exact hBB)⟩
  case rest =>
    obtain ⟨g1, c1, g2, c2, rfl, rfl, hc1, hm1, hc2, hm2, hyA, hyB, hIc, hBc⟩ := hcut
    have HWc := Lib.hid (HW.out.below hBc hG)
    have HA := Lib.hid hyA
    have HB := Lib.hid hyB
    have hA0 : Bytes wc (some ⟨g1, 0, none⟩) q.was.l := by have := hyA.take q.was.l.length; simpa using this
    have hB0 : Bytes wc (some ⟨g2, 0, none⟩) q.now.l := by have := hyB.take q.now.l.length; simpa using this
    have HA0 := Lib.hid hA0
    have HB0 := Lib.hid hB0
    have h1c := Lib.hid (H1.out.later hBc)
    have h2c := Lib.hid (H2.out.later hBc)
    obtain ⟨k0, k1, k2, k3, k4, k5, k6⟩ := askAt hIc
    clear hyA hyB hA0 hB0
    by_cases hk0 : q.kind = 0
    · have hk : (q.kind == 0) = true := by simp [hk0]
      go_wp2_with (first
        | (go_at_call 10; refine (of_any _ _ q.was.l _ HWc.out HA0.out (by omega)).mono ?_; rintro e w' ⟨rfl, rfl⟩)
        | (go_at_call 15; refine (ref_of_any _ _ q.was.l _ h1c.out (by omega)).mono ?_; rintro e w' ⟨rfl, rfl⟩)
        | (go_at_call 16; refine (kept_any _ _ _ _ q.was.l _ h1c.out HA.out hc1 hm1 (by omega)).mono ?_; rintro e wD ⟨rfl, hbD⟩))
      go_ret
      exact ⟨rfl, hBc.trans (hbD.mono hBc.size)⟩
    have hk0' : (q.kind == 0) = false := by simp [hk0]
    by_cases hk1 : q.kind = 1
    · have hk1' : (q.kind == 1) = true := by simp [hk1]
      clear hk0 hk1
      by_cases hn : q.n < 0 ∨ 1099511627776 < q.n
      · go_wp2_with (first
          | (go_at_call 11; refine (join_bad _ _ _ _ hn).mono ?_; rintro e w' ⟨rfl, rfl⟩)
          | (go_at_call 17; refine (ref_join_bad _ _ _ _ hn).mono ?_; rintro e w' ⟨rfl, rfl⟩))
        go_ret
        exact ⟨rfl, hBc⟩
      · obtain ⟨n, hq⟩ := Int.eq_ofNat_of_zero_le (a := q.n) (by omega)
        rw [hq] at k3
        have hn' : n ≤ 1099511627776 := by omega
        clear hn
        go_wp2_with (first
          | (go_at_call 11; refine (join_ok _ _ _ _ HWc.out hn').mono ?_; rintro e wD ⟨rfl, hbD⟩; have hID := hIc.below hbD hIc.lt; have hBD := hBc.trans (hbD.mono hBc.size); obtain ⟨j0, j1, j2, j3, j4, j5, j6⟩ := askAt hID; rw [hq] at j3)
          | (go_at_call 17; refine (ref_join_ok _ _ _ _ hn').mono ?_; rintro e wE ⟨rfl, hbE⟩; have hBE := hBD.trans (hbE.mono hBD.size)))
        go_ret
        exact ⟨rfl, hBE⟩
    have hk1' : (q.kind == 1) = false := by simp [hk1]
    clear hk0 hk1
    by_cases hbad : q.n < 0 ∨ q.at_ < 0 ∨ 1099511627776 < q.n ∨ q.was.l.length ≠ q.now.l.length ∨ q.n - (q.was.l.length : Int) < q.at_
    · have hBAD := Lib.hid hbad
      clear hbad
      have hX1 := h1c
      have hX2 := h2c
      have hXA := HA
      have hXB := HB
      have hIX := hIc
      have hBX := hBc
      go_wp2_with (first
          | (go_at_call 13; refine (turn_bad _ _ _ _ _ _ _ _ _ _ hn1 (by omega) (by omega) hBAD.out).mono ?_; rintro e w' ⟨rfl, rfl⟩)
          | (go_at_call 18; refine (ref_turn_bad _ _ _ _ _ _ _ _ _ _ hn1 (by omega) (by omega) hBAD.out).mono ?_; rintro e w' ⟨rfl, rfl⟩)
          | (go_at_call 16; with_reducible refine (kept_any q.was.A g1 q.was.cap c1 q.was.l _ hX1.out hXA.out hc1 hm1 (by omega)).mono ?_; rintro e wK ⟨rfl, hbK⟩; have hIK := hIX.below hbK hIX.lt; have hBK := hBX.trans (hbK.mono hBX.size); obtain ⟨i0, i1, i2, i3, i4, i5, i6⟩ := askAt hIK; have hK2 := Lib.hid (hX2.out.later hbK); have hKB := Lib.hid (hXB.out.later hbK))
          | (go_at_call 16; with_reducible refine (kept_any q.now.A g2 q.now.cap c2 q.now.l _ hK2.out hKB.out hc2 hm2 (by omega)).mono ?_; rintro e wL ⟨rfl, hbL⟩))
      go_ret
      exact ⟨rfl, hBK.trans (hbL.mono hBK.size)⟩
    · obtain ⟨n, hq⟩ := Int.eq_ofNat_of_zero_le (a := q.n) (by omega)
      obtain ⟨at_, hqa⟩ := Int.eq_ofNat_of_zero_le (a := q.at_) (by omega)
      have hn' : n ≤ 1099511627776 := by omega
      have hll : q.was.l.length = q.now.l.length := by omega
      have hat : at_ + q.was.l.length ≤ n := by omega
      have HLL := Lib.hid hll
      rw [hq] at k3
      rw [hqa] at k4
      clear hbad hll
      go_wp2_with (first
          | (go_at_call 13; refine (turn_ok _ n at_ _ _ _ _ q.was.l q.now.l _ HWc.out HA0.out HB0.out hn' HLL.out hat).mono ?_; rintro e wD ⟨rfl, hbD⟩; have hID := hIc.below hbD hIc.lt; have hBD := hBc.trans (hbD.mono hBc.size); obtain ⟨j0, j1, j2, j3, j4, j5, j6⟩ := askAt hID; rw [hq] at j3; rw [hqa] at j4; have h1D := Lib.hid (h1c.out.later hbD); have h2D := Lib.hid (h2c.out.later hbD); have HAD := Lib.hid (HA.out.later hbD); have HBD := Lib.hid (HB.out.later hbD))
          | (go_at_call 18; refine (ref_turn_ok _ n at_ _ _ _ _ q.was.l q.now.l _ h1D.out h2D.out hn' HLL.out hat).mono ?_; rintro e wX ⟨rfl, hbX⟩; have hIX := hID.below hbX hID.lt; have hBX := hBD.trans (hbX.mono hBD.size); obtain ⟨l0, l1, l2, l3, l4, l5, l6⟩ := askAt hIX; have hX1 := Lib.hid (h1D.out.later hbX); have hX2 := Lib.hid (h2D.out.later hbX); have hXA := Lib.hid (HAD.out.later hbX); have hXB := Lib.hid (HBD.out.later hbX))
          | (go_at_call 16; with_reducible refine (kept_any q.was.A g1 q.was.cap c1 q.was.l _ hX1.out hXA.out hc1 hm1 (by omega)).mono ?_; rintro e wK ⟨rfl, hbK⟩; have hIK := hIX.below hbK hIX.lt; have hBK := hBX.trans (hbK.mono hBX.size); obtain ⟨i0, i1, i2, i3, i4, i5, i6⟩ := askAt hIK; have hK2 := Lib.hid (hX2.out.later hbK); have hKB := Lib.hid (hXB.out.later hbK))
          | (go_at_call 16; with_reducible refine (kept_any q.now.A g2 q.now.cap c2 q.now.l _ hK2.out hKB.out hc2 hm2 (by omega)).mono ?_; rintro e wL ⟨rfl, hbL⟩))
      go_ret
      exact ⟨rfl, hBK.trans (hbL.mono hBK.size)⟩
end Go.Proofs.YtjglffejoflpoaaDoor
