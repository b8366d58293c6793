/-
  THE WALK OF wal.Recover.
-/
import Derived.Test.YtimddchgmocdaaaDoorRv
set_option linter.unusedVariables false
set_option linter.unusedSimpArgs false
namespace Go.Proofs.YtimddchgmocdaaaDoor
open Go.RowKit Rec

set_option maxRecDepth 100000 in
set_option maxHeartbeats 1600000 in
theorem recover_zero (base a d : Nat) (D : Dk) (w : World) (h : DiskAt w base a d D) (hdn : D.down = false) (hp : D.pend = []) (hl : 98 ≤ D.lasts.length) (h1 : D.lasts.getD 1 [] = Tx.zero) :
    Calls Tryd.prog 30 #[.pointer (some ⟨d, 0, none⟩)] w fun e w' => e = .returned (.tuple #[.int .i64 0, .int .i64 0]) ∧ Below w.heap.size w w' := by
  have hmf : ∀ (fn : Fn) (first cap : Array Value) (w : World), (Instr.makeFunc fn first cap).run Tryd.prog w = .ok (.func fn first cap) w := fun _ _ _ _ => rfl
  have hb1 := below_new w (.cells #[.int .i64 0] 25)
  have HB1 := Lib.hid hb1
  have HD := Lib.hid (h.later hb1)
  have hbx : Is (w.alloc (.cells #[.int .i64 0] 25)) w.heap.size 25 #[.int .i64 0] := Is.new w _ _
  have HBX := Lib.hid hbx
  have HDN := Lib.hid hdn
  have HP := Lib.hid hp
  have HL := Lib.hid hl
  have HH := Lib.hid h1
  clear h hdn hp hl h1 hb1 hbx
  go_enter_defers Tryd.func30, Tryd.ntmps30
  go_wp2_with (go_at_call 42
               refine (held_zero base a d D _ HD.out HDN.out HP.out HL.out HH.out).mono ?_
               rintro e w2 ⟨rfl, hb2⟩
               have hbx2 := HBX.out.below hb2 HBX.out.lt
               have c2 : w2.cell? ⟨w.heap.size, 0, none⟩ = some (.int .i64 0) := hbx2.cell 0
               have f2 := hbx2.free 0
               have HB2 := Lib.hid hb2
               clear hbx2 hb2)
  have c3 : (w2.setCell ⟨w.heap.size, 0, none⟩ (.int .i64 0)).cell? ⟨w.heap.size, 0, none⟩ = some (.int .i64 0) := World.cell?_setCell_same' _ _ _ (by rw [c2]; rfl)
  refine leaves_cons (f := 40) (args := #[.pointer (some ⟨w.heap.size, 0, none⟩)]) (by simp) (by simp [go_sem]) ?_
  refine (recover1_idle ⟨w.heap.size, 0, none⟩ 0 _ c3 (by simp [go_sem, f2])).mono ?_
  rintro e u' w'' ⟨rfl, rfl, rfl⟩
  have c4 : ((w2.setCell ⟨w.heap.size, 0, none⟩ (.int .i64 0)).drew.setCell ⟨w.heap.size, 0, none⟩ (.int .i64 0)).cell? ⟨w.heap.size, 0, none⟩ = some (.int .i64 0) := World.cell?_setCell_same' _ _ _ (by rw [show (w2.setCell ⟨w.heap.size, 0, none⟩ (.int .i64 0)).drew.cell? ⟨w.heap.size, 0, none⟩ = _ from c3]; rfl)
  have hB : Below w.heap.size w ((w2.setCell ⟨w.heap.size, 0, none⟩ (.int .i64 0)).drew.setCell ⟨w.heap.size, 0, none⟩ (.int .i64 0)) :=
    (((HB1.out.trans (HB2.out.mono HB1.out.size)).setCell (p := ⟨w.heap.size, 0, none⟩) (Nat.le_refl _) _).drew).setCell (p := ⟨w.heap.size, 0, none⟩) (Nat.le_refl _) _
  simp [Leaves, settle, results, Tryd.results30, go_sem, c2]
  exact hB
theorem KT.set_new {a : Option Nat} {base : Nat} {Ts : List TypeId} {w w5 : World} {g i : Nat} (h : KT a base Ts w w5) (hg : w.heap.size ≤ g) (v : Value) : KT a base Ts w (w5.setCell ⟨g, i, none⟩ v) :=
  ⟨h.os, h.tape, h.output, by rw [World.size_setCell]; exact h.size, fun k hk hs => (heap_setCell_other w5 ⟨g, i, none⟩ k v (by show k ≠ g; omega)).trans (h.block k hk hs)⟩
theorem KT.set_newd {a : Option Nat} {base : Nat} {Ts : List TypeId} {w w5 : World} {g i : Nat} (h : KT a base Ts w w5) (hg : w.heap.size ≤ g) (v u : Value) : KT a base Ts w ((w5.setCell ⟨g, i, none⟩ v).drew.setCell ⟨g, i, none⟩ u) :=
  KT.set_new (w5 := (w5.setCell ⟨g, i, none⟩ v).drew) ⟨(h.set_new (i := i) hg v).os, (h.set_new (i := i) hg v).tape, (h.set_new (i := i) hg v).output, (h.set_new (i := i) hg v).size, (h.set_new (i := i) hg v).block⟩ hg u
theorem DiskAt.set_box {w : World} {base a d g : Nat} {D : Dk} {t : TypeId} {cs : Array Value} (h : DiskAt w base a d D) (hI : Is w g t cs) (hg : base ≤ g) (ht : t ∉ [60, 74, 76, 4, 121]) (i : Nat) (v : Value) : DiskAt (w.setCell ⟨g, i, none⟩ v) base a d D :=
  h.kt (Ts := []) (KT.setCell (a := some g) (i := i) hI hg (.inl rfl) v) (by simp) (by simp) (by simp) (by simp) (by simp) (fun b e ⟨cs', t', f, q1, q2⟩ => by
    injection e with e
    subst e
    rw [show w.heap[g]? = _ from hI] at q1
    injection q1 with q1
    injection q1 with _ q1
    subst q1
    exact ht q2)
set_option maxRecDepth 100000 in
set_option maxHeartbeats 3200000 in
theorem recover_full (base a d : Nat) (D : Dk) (ws : List (Nat × List UInt8)) (w : World) (h : DiskAt w base a d D) (hdn : D.down = false) (hp : D.pend = []) (hl : 98 ≤ D.lasts.length) (hr : Rise D.lasts.length ws) (hw1 : 1 ≤ ws.length) (h512 : ∀ x ∈ ws, x.2.length = 512)
    (h1 : D.lasts.getD 1 [] = Hd.made (ws.map (·.1)) (ws.map (·.2))) (h2 : ∀ k (hk : k < ws.length), D.lasts.getD (2 + k) [] = ws[k].2) (hw : WidthsAt w) (hh : HalfAt w) (hbw : base ≤ w.heap.size) (hn : D.n ≤ 500000) :
    Calls Tryd.prog 30 #[.pointer (some ⟨d, 0, none⟩)] w fun e w' => (∃ k : Int, e = .returned (.tuple #[.int .i64 k, .int .i64 (D.does (Tx.home ws)).2])) ∧ DiskAt w' base a d (D.does (Tx.home ws)).1 ∧ KT (some a) base diskT w w' := by
  have hmf : ∀ (fn : Fn) (first cap : Array Value) (w : World), (Instr.makeFunc fn first cap).run Tryd.prog w = .ok (.func fn first cap) w := fun _ _ _ _ => rfl
  have hb1 := below_new w (.cells #[.int .i64 0] 25)
  have HB1 := Lib.hid hb1
  have HD := Lib.hid (h.later hb1)
  have hbx : Is (w.alloc (.cells #[.int .i64 0] 25)) w.heap.size 25 #[.int .i64 0] := Is.new w _ _
  have HBX := Lib.hid hbx
  obtain ⟨_, _, hisA⟩ := (h.later hb1).a_ne
  have hal : a < w.heap.size := by obtain ⟨_, _, cur, hi⟩ := h.a_ne; exact hi.lt
  have HIA := Lib.hid hisA
  have HDN := Lib.hid hdn
  have HP := Lib.hid hp
  have HL := Lib.hid hl
  have HR := Lib.hid hr
  have H512 := Lib.hid h512
  have HH1 := Lib.hid h1
  have HH2 := Lib.hid h2
  have HW := Lib.hid (hw.below hb1 hw.lt)
  have HH := Lib.hid (hh.below hb1 hh.lt)
  have hfew := hr.few
  have hn0 : ((ws.length : Int) == 0) = false := by rw [beq_eq_false_iff_ne]; omega
  have HM := Lib.hid (fun x hx => home_mem hr hl x hx)
  obtain ⟨ev, hev⟩ : ∃ ev, (D.does (Tx.home ws)).2 = ev := ⟨_, rfl⟩
  rw [hev]
  have HEV := Lib.hid hev
  have hsW : (w.alloc (.cells #[.int .i64 0] 25)).heap.size = w.heap.size + 1 := World.size_alloc _ _
  clear h hdn hp hl h1 hb1 hbx hr h512 h2 hw hh hisA hev
  rcases (show ev = 0 ∨ ev ≠ 0 from by omega) with h0 | h0
  all_goals (first | subst h0 | (have hne : (ev != 0) = true := by (rw [bne_iff_ne]; exact h0)))
  all_goals go_enter_defers Tryd.func30, Tryd.ntmps30
  all_goals go_wp2_with (first
    | (go_at_call 42
       refine (held_full base a d D ws _ HD.out HDN.out HP.out HL.out HR.out hw1 H512.out HH1.out HH2.out HW.out HH.out (by rw [hsW]; omega)).mono ?_
       rintro e w3 ⟨⟨A, c, rfl, hBl⟩, hb3⟩
       have HB3 := Lib.hid hb3
       have HBl := Lib.hid hBl
       have hs3 := hb3.size
       have HA3 := Lib.hid (show ∃ cur, Is w3 a 74 cur by obtain ⟨cur, hi⟩ := HIA.out; exact ⟨cur, hi.below hb3 hi.lt⟩)
       have hlt3 : a < w3.heap.size := by rw [hsW] at hs3; omega
       have hbs3 : base ≤ w3.heap.size := by rw [hsW] at hs3; omega
       have hnew := steps_none w3 base a w3.heap.size
       have HN3 := Lib.hid hnew
       have hb4 := below_new w3 (.cells #[.slice none 0 0] 90)
       have HB4 := Lib.hid hb4
       have HSP := Lib.hid (Is.new w3 90 #[.slice none 0 0])
       have HBX4 := Lib.hid ((HBX.out.below hb3 HBX.out.lt).below hb4 (HBX.out.below hb3 HBX.out.lt).lt)
       have HD4 := Lib.hid ((HD.out.later hb3).later hb4)
       clear hb3 hBl hnew hb4)
    | (go_at_call 38
       refine (shome_any base a _ w3.heap.size w3.heap.size [] A c ws _ (HBl.out.later HB4.out) HN3.out (by obtain ⟨cur, hi⟩ := HA3.out; exact ⟨cur, hi.below HB4.out hi.lt⟩) hbs3 (Nat.le_refl _) (by rw [World.size_alloc]; omega) (by simp) (by omega) hlt3).mono ?_
       rw [List.nil_append]
       rintro e w5 ⟨rfl, hS5, hk5⟩
       obtain ⟨SA, sc, hsI, hsR⟩ := hS5
       have cS : w5.cell? ⟨w3.heap.size, 0, none⟩ = some (.slice SA (Tx.home ws).length sc) := hsI.cell 0
       have HSR := Lib.hid hsR
       have HK5 := Lib.hid hk5
       have hs5 : w3.heap.size + 1 ≤ w5.heap.size := by have := hk5.size; rw [World.size_alloc] at this; exact this
       clear hsI hsR hk5)
    | (go_at_call 39
       refine (sdo_any base a d w3.heap.size D (Tx.home ws) SA sc w5 (HD4.out.ktS HSP.out HK5.out hbs3) HDN.out HSR.out HM.out (by omega) (by rw [home_len]; omega)).mono ?_
       rw [HEV.out]
       rintro e w6 ⟨rfl, hD6, hk6⟩
       have HD6 := Lib.hid hD6
       have HK6 := Lib.hid hk6
       have hbx5 := HBX4.out.kt HK5.out (.inl (by rw [hsW] at hs3; omega))
       have hbx6 := hbx5.kt hk6 (.inr ⟨fun e => by injection e with e; omega, by simp [diskT]⟩)
       have c6 : w6.cell? ⟨w.heap.size, 0, none⟩ = some (.int .i64 0) := hbx6.cell 0
       have f6 := hbx6.free 0
       have HBX6 := Lib.hid hbx6
       clear hD6 hk6 hbx5 hbx6))
  · have c7 : (w6.setCell ⟨w.heap.size, 0, none⟩ (.int .i64 0)).cell? ⟨w.heap.size, 0, none⟩ = some (.int .i64 0) := World.cell?_setCell_same' _ _ _ (by rw [c6]; rfl)
    refine leaves_cons (f := 40) (args := #[.pointer (some ⟨w.heap.size, 0, none⟩)]) (by simp) (by simp [go_sem]) ?_
    refine (recover1_idle ⟨w.heap.size, 0, none⟩ 0 _ c7 (by simp [go_sem, f6])).mono ?_
    rintro e u' w'' ⟨rfl, rfl, rfl⟩
    have k6 : KT (some a) base diskT w w6 := ((KT.of_below (HB1.out.trans (HB3.out.mono HB1.out.size)) (Nat.le_refl _)).trans ((KT.of_below (HB4.out.trans ((HK5.out.below (by rw [World.size_alloc]; omega)).mono (Nat.le_refl _))) (Nat.le_refl _)))).trans HK6.out
    have hD7 := HD6.out.set_box HBX6.out (by omega) (by simp) 0 (.int .i64 0)
    have hD8 := DiskAt.set_box (w := (w6.setCell ⟨w.heap.size, 0, none⟩ (.int .i64 0)).drew) hD7 (HBX6.out.put 0 (.int .i64 0)) (by omega) (by simp) 0 (.int .i64 0)
    have hK8 := k6.set_newd (g := w.heap.size) (i := 0) (Nat.le_refl _) (.int .i64 0) (.int .i64 0)
    simp [Leaves, settle, results, Tryd.results30, go_sem, c6]
    exact ⟨hD8, hK8⟩
  · have c7 : (w6.setCell ⟨w.heap.size, 0, none⟩ (.int .i64 ev)).cell? ⟨w.heap.size, 0, none⟩ = some (.int .i64 ev) := World.cell?_setCell_same' _ _ _ (by rw [c6]; rfl)
    refine leaves_cons (f := 40) (args := #[.pointer (some ⟨w.heap.size, 0, none⟩)]) (by simp) (by simp [go_sem]) ?_
    refine (recover1_idle ⟨w.heap.size, 0, none⟩ ev _ c7 (by simp [go_sem, f6])).mono ?_
    rintro e u' w'' ⟨rfl, rfl, rfl⟩
    have k6 : KT (some a) base diskT w w6 := ((KT.of_below (HB1.out.trans (HB3.out.mono HB1.out.size)) (Nat.le_refl _)).trans ((KT.of_below (HB4.out.trans ((HK5.out.below (by rw [World.size_alloc]; omega)).mono (Nat.le_refl _))) (Nat.le_refl _)))).trans HK6.out
    have hD7 := HD6.out.set_box HBX6.out (by omega) (by simp) 0 (.int .i64 ev)
    have hD8 := DiskAt.set_box (w := (w6.setCell ⟨w.heap.size, 0, none⟩ (.int .i64 ev)).drew) hD7 (HBX6.out.put 0 (.int .i64 ev)) (by omega) (by simp) 0 (.int .i64 ev)
    have hK8 := k6.set_newd (g := w.heap.size) (i := 0) (Nat.le_refl _) (.int .i64 ev) (.int .i64 ev)
    simp [Leaves, settle, results, Tryd.results30, go_sem, c6]
    exact ⟨hD8, hK8⟩
end Go.Proofs.YtimddchgmocdaaaDoor
