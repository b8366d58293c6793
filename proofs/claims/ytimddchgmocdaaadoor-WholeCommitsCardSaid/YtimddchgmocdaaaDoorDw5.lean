/-
  THE WALKS OF A DISK's CALLS (5): step, Write, Flush, Arm.
-/
import Derived.Test.YtimddchgmocdaaaDoorDw4
import Derived.Laws.EntriesVeiled
set_option linter.unusedVariables false
set_option linter.unusedSimpArgs false
namespace Go.Proofs.YtimddchgmocdaaaDoor
open Go.RowKit

theorem underFn : ∃ p r v, Tryd.prog.underlying 1 = some (.func p r v) := ⟨#[], #[], false, by kernel_rfl⟩
theorem run_fneq_in (w : World) (d : Nat) (f : Fn) (r c : Array Value) : (Op.equalIn (d + 1) 1 (.func f r c) .nilFunc).run Tryd.prog w = .ok false w := by
  obtain ⟨p, r', v, hu⟩ := underFn
  simp [Op.equalIn, hu]
theorem run_fneq_in0 (w : World) (d : Nat) : (Op.equalIn (d + 1) 1 .nilFunc .nilFunc).run Tryd.prog w = .ok true w := by
  obtain ⟨p, r', v, hu⟩ := underFn
  simp [Op.equalIn, hu]
theorem run_fneq (w : World) (f : Fn) (r c : Array Value) : (binOp .neq 1 (.func f r c) .nilFunc).run Tryd.prog w = .ok (.bool true) w := by
  have h := run_fneq_in w 9999 f r c
  show (do pure (.bool (!(← Op.equal 1 (.func f r c) .nilFunc))) : Sem Value).run Tryd.prog w = _
  rw [Sem.run_bind]
  show ((Op.equalIn (9999 + 1) 1 (.func f r c) .nilFunc).run Tryd.prog w).andThen _ = _
  rw [h]
  rfl
theorem run_fneq0 (w : World) : (binOp .neq 1 .nilFunc .nilFunc).run Tryd.prog w = .ok (.bool false) w := by
  have h := run_fneq_in0 w 9999
  show (do pure (.bool (!(← Op.equal 1 .nilFunc .nilFunc))) : Sem Value).run Tryd.prog w = _
  rw [Sem.run_bind]
  show ((Op.equalIn (9999 + 1) 1 .nilFunc .nilFunc).run Tryd.prog w).andThen _ = _
  rw [h]
  rfl
attribute [local go_sem] run_fneq run_fneq0
def Dk.less (D : Dk) : Dk := { D with left := D.left - 1 }
theorem Dk.Ok.less {D : Dk} (h : D.Ok) : D.less.Ok := ⟨h.1, h.2.1, h.2.2.1, h.2.2.2.1, h.2.2.2.2.1, by show D.left - 1 ≤ _; have := h.2.2.2.2.2.1; omega, h.2.2.2.2.2.2⟩
/-- one cell of the disk is written -/
theorem diskAt_put {w : World} {base a d : Nat} {D : Dk} (hd : base ≤ d) {cs : Array Value} (hI : Is w d 60 cs) (i : Nat) (u : Value) :
    KT (some a) base diskT w (w.setCell ⟨d, i, none⟩ u) ∧ Is (w.setCell ⟨d, i, none⟩ u) d 60 (cs.setIfInBounds i u) :=
  ⟨KT.setCell hI hd (.inr (by simp [diskT])) u, hI.put i u⟩
/-- rows of other types than the disk's own are as they were where a cell of the disk is written -/
theorem Own.putD {w : World} {base k n cap d : Nat} {t : TypeId} {A : Option Addr} {cs : List Value} {ds : Array Value} (h : Own w base t k A n cap cs) (hI : Is w d 60 ds) (ht : t ≠ 60) (i : Nat) (u : Value) : Own (w.setCell ⟨d, i, none⟩ u) base t k A n cap cs :=
  h.kept fun g hg => heap_setCell_other w ⟨d, i, none⟩ g u (fun e => by
    have e : g = d := e
    subst e
    obtain ⟨_, cur, hi⟩ := h.typed g hg
    have h6 := hi.symm.trans hI
    injection h6 with h6
    injection h6 with _ h6
    exact ht h6)
theorem KeepAt.putD {w : World} {base d : Nat} {K : Option Addr} {l : List Bool} {ds : Array Value} (h : KeepAt w base K l) (hI : Is w d 60 ds) (hd : base ≤ d) (i : Nat) (u : Value) : KeepAt (w.setCell ⟨d, i, none⟩ u) base K l :=
  h.kt (KT.setCell (a := some d) (Ts := []) hI hd (.inl rfl) u) (by simp) (fun b e ⟨cs, t, f, h1, h2⟩ => by
    injection e with e
    subst e
    rw [show w.heap[d]? = _ from hI] at h1
    injection h1 with h1
    injection h1 with _ h1
    simp at h2
    rw [h2] at h1
    exact absurd h1 (by decide))
theorem left_stored {w : World} {base a d : Nat} {D : Dk} (h : DiskAt w base a d D) (v : Nat) (hv : v ≤ 9223372036854775807) : DiskAt (w.setCell ⟨d, 2, none⟩ (.int .i64 (v : Int))) base a d { D with left := v } := by
  obtain ⟨hO, hd, cA, P, cp, K, ck, wrt, flt, T, tn, ct, tc, hI, hA, hP, hK, hT, hn⟩ := h
  exact ⟨⟨hO.1, hO.2.1, hO.2.2.1, hO.2.2.2.1, hO.2.2.2.2.1, hv, hO.2.2.2.2.2.2⟩, hd, cA, P, cp, K, ck, wrt, flt, T, tn, ct, tc, hI.put 2 (.int .i64 (v : Int)), hA.putD hI (by decide) _ _, hP.putD hI (by decide) _ _, hK.putD hI hd _ _, hT.putD hI (by decide) _ _, hn⟩
theorem DiskAt.kt1 {w : World} {base a d : Nat} {D : Dk} (h : DiskAt w base a d D) (i : Nat) (u : Value) : KT (some a) base diskT w (w.setCell ⟨d, i, none⟩ u) := by
  obtain ⟨hO, hd, cA, P, cp, K, ck, wrt, flt, T, tn, ct, tc, hI, hA, hP, hK, hT, hn⟩ := h
  exact (diskAt_put (D := D) hd hI i u).1

theorem Dk.less_zero {D : Dk} (h : D.left = 0) : D.less = D := by cases D; simp only [Dk.less] at *; simp [h]
theorem DiskAt.ok {w : World} {base a d : Nat} {D : Dk} (h : DiskAt w base a d D) : D.Ok := h.1
/-- the keep list of the cut that is armed -/
theorem DiskAt.keeps {w : World} {base a d : Nat} {D : Dk} (h : DiskAt w base a d D) : ∃ K ck, w.cell? ⟨d, 3, none⟩ = some (.slice K D.keep.length ck) ∧ KeepAt w base K D.keep := by
  obtain ⟨hO, hd, cA, P, cp, K, ck, wrt, flt, T, tn, ct, tc, hI, hA, hP, hK, hT, hn⟩ := h
  exact ⟨K, ck, hI.cell 3, hK⟩
theorem DiskAt.cell2 {w : World} {base a d : Nat} {D : Dk} (h : DiskAt w base a d D) : w.cell? ⟨d, 2, none⟩ = some (.int .i64 (D.left : Int)) ∧ w.frozen? ⟨d, 2, none⟩ = false := by
  obtain ⟨hO, hd, cA, P, cp, K, ck, wrt, flt, T, tn, ct, tc, hI, hA, hP, hK, hT, hn⟩ := h
  exact ⟨hI.cell 2, hI.free 2⟩

set_option maxHeartbeats 1600000 in
set_option maxRecDepth 100000 in
theorem dstep_cut (base a d : Nat) (D : Dk) (done : Value) (w : World) (h : DiskAt w base a d D) (h1 : D.left = 1) :
    Calls Tryd.prog 70 #[.pointer (some ⟨d, 0, none⟩), done] w fun e w' => e = .returned (.int .i64 30) ∧ DiskAt w' base a d (D.cut D.keep) ∧ KT (some a) base diskT w w' := by
  obtain ⟨c2, f2⟩ := h.cell2
  rw [h1, show ((1 : Nat) : Int) = 1 from rfl] at c2
  have hl := left_stored h 0 (by decide)
  obtain ⟨K, ck, c3, hK⟩ := hl.keeps
  have HL := Lib.hid hl
  have HK := Lib.hid hK
  have HKT := Lib.hid (h.kt1 2 (.int .i64 ((0 : Nat) : Int)))
  have HO := Lib.hid h.1
  rw [show ((0 : Nat) : Int) = 0 from rfl] at c3 HL HK HKT
  have c2' : (w.setCell ⟨d, 2, none⟩ (.int .i64 0)).cell? ⟨d, 2, none⟩ = some (.int .i64 0) := World.cell?_setCell_same' _ _ _ (by rw [c2]; rfl)
  clear h hl hK h1
  go_enter Tryd.func70, Tryd.ntmps70
  go_wp2_with (go_at_call 87; refine (dcut_any base a d _ K ck D.keep _ HL.out HK.out HO.out.2.2.2.2.2.2).mono ?_; rintro e w2 ⟨rfl, hD2, hk2⟩; have HD2 := Lib.hid hD2; have HK2 := Lib.hid hk2; clear hD2 hk2)
  go_ret
  exact ⟨rfl, HD2.out, HKT.out.trans HK2.out⟩

set_option maxHeartbeats 1600000 in
set_option maxRecDepth 100000 in
theorem dstep_nil (base a d : Nat) (D : Dk) (w : World) (h : DiskAt w base a d D) (h1 : D.left ≠ 1) :
    Calls Tryd.prog 70 #[.pointer (some ⟨d, 0, none⟩), .nilFunc] w fun e w' => e = .returned (.int .i64 0) ∧ DiskAt w' base a d D.less ∧ KT (some a) base diskT w w' := by
  obtain ⟨c2, f2⟩ := h.cell2
  have hlm := h.1.2.2.2.2.2.1
  by_cases h0 : D.left = 0
  · have HF := Lib.hid (show DiskAt w base a d D.less by rw [Dk.less_zero h0]; exact h)
    rw [h0, show ((0 : Nat) : Int) = 0 from rfl] at c2
    clear h h0 h1 hlm
    go_enter Tryd.func70, Tryd.ntmps70
    go_wp2_with fail
    go_ret
    exact ⟨rfl, HF.out, KT.refl _ _ _ _⟩
  · obtain ⟨v, hv⟩ : ∃ v, D.left = v + 1 := ⟨D.left - 1, by omega⟩
    have HF := Lib.hid (show DiskAt (w.setCell ⟨d, 2, none⟩ (.int .i64 (v : Int))) base a d D.less by have := left_stored h v (by omega); rw [show D.less = { D with left := v } by unfold Dk.less; rw [hv]; rfl]; exact this)
    have HKT := Lib.hid (h.kt1 2 (.int .i64 (v : Int)))
    have hv0 : (v : Int) ≤ 9223372036854775806 := by omega
    have hv1 : ((v : Int) == 0) = false := by rw [beq_eq_false_iff_ne]; omega
    rw [hv, show ((v + 1 : Nat) : Int) = (v : Int) + 1 by omega] at c2
    have c2' : (w.setCell ⟨d, 2, none⟩ (.int .i64 (v : Int))).cell? ⟨d, 2, none⟩ = some (.int .i64 (v : Int)) := World.cell?_setCell_same' _ _ _ (by rw [c2]; rfl)
    have hpos : (0 : Int) < (v : Int) + 1 := by omega
    clear h h0 h1 hlm hv
    go_enter Tryd.func70, Tryd.ntmps70
    go_wp2_with fail
    go_ret
    exact ⟨rfl, HF.out, HKT.out⟩

set_option maxHeartbeats 1600000 in
set_option maxRecDepth 100000 in
theorem dstep_fn (base a d bx : Nat) (D : Dk) (w : World) (h : DiskAt w base a d D) (h1 : D.left ≠ 1) (R : World → Prop)
    (hf : ∀ W, DiskAt W base a d D.less → KT (some a) base diskT w W → Calls Tryd.prog 71 #[.pointer (some ⟨bx, 0, none⟩)] W fun e W' => e = .returned (.tuple #[]) ∧ R W') :
    Calls Tryd.prog 70 #[.pointer (some ⟨d, 0, none⟩), .func (.func 71) #[] #[.pointer (some ⟨bx, 0, none⟩)]] w fun e w' => e = .returned (.int .i64 0) ∧ R w' := by
  obtain ⟨c2, f2⟩ := h.cell2
  have hlm := h.1.2.2.2.2.2.1
  by_cases h0 : D.left = 0
  · have HF := Lib.hid (hf w (by rw [Dk.less_zero h0]; exact h) (KT.refl _ _ _ _))
    rw [h0, show ((0 : Nat) : Int) = 0 from rfl] at c2
    clear h h0 h1 hlm hf
    go_enter Tryd.func70, Tryd.ntmps70
    go_wp2_with (go_at_call 71; refine HF.out.mono ?_; rintro e w2 ⟨rfl, hr⟩; have HR := Lib.hid hr; clear hr)
    go_ret
    exact ⟨rfl, HR.out⟩
  · obtain ⟨v, hv⟩ : ∃ v, D.left = v + 1 := ⟨D.left - 1, by omega⟩
    have HF := Lib.hid (hf (w.setCell ⟨d, 2, none⟩ (.int .i64 (v : Int))) (by have := left_stored h v (by omega); rw [show D.less = { D with left := v } by unfold Dk.less; rw [hv]; rfl]; exact this) (h.kt1 2 (.int .i64 (v : Int))))
    have hv0 : (v : Int) ≤ 9223372036854775806 := by omega
    have hv1 : ((v : Int) == 0) = false := by rw [beq_eq_false_iff_ne]; omega
    rw [hv, show ((v + 1 : Nat) : Int) = (v : Int) + 1 by omega] at c2
    have c2' : (w.setCell ⟨d, 2, none⟩ (.int .i64 (v : Int))).cell? ⟨d, 2, none⟩ = some (.int .i64 (v : Int)) := World.cell?_setCell_same' _ _ _ (by rw [c2]; rfl)
    have hpos : (0 : Int) < (v : Int) + 1 := by omega
    clear h h0 h1 hlm hv hf
    go_enter Tryd.func70, Tryd.ntmps70
    go_wp2_with (go_at_call 71; refine HF.out.mono ?_; rintro e w2 ⟨rfl, hr⟩; have HR := Lib.hid hr; clear hr)
    go_ret
    exact ⟨rfl, HR.out⟩
end Go.Proofs.YtimddchgmocdaaaDoor
