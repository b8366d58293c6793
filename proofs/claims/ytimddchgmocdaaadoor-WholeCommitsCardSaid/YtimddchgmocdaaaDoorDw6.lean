/-
  THE WALKS OF A DISK's CALLS (6): Write.
-/
import Derived.Test.YtimddchgmocdaaaDoorCl
import Derived.Deep.CutRange
set_option linter.unusedVariables false
set_option linter.unusedSimpArgs false
namespace Go.Proofs.YtimddchgmocdaaaDoor
open Go.RowKit

/-- bytes that lie where no call on the disk writes -/
def Buf (w : World) (base : Nat) (a : Option Nat) (A : Option Addr) (l : List UInt8) : Prop :=
  l = [] ∨ ∃ g off cs t f, A = some ⟨g, off, none⟩ ∧ w.heap[g]? = some (.cells cs t f) ∧ (g < base ∨ (some g ≠ a ∧ t ∈ [5, 74])) ∧ ∀ k (h : k < l.length), w.cell? ⟨g, off + k, none⟩ = some (.int .u8 (n8 l[k]))
theorem Buf.bytes {w : World} {base : Nat} {a : Option Nat} {A : Option Addr} {l : List UInt8} (h : Buf w base a A l) : Bytes w A l := by
  rcases h with h | ⟨g, off, cs, t, f, rfl, _, _, hc⟩
  · exact .inl h
  · exact .inr ⟨g, off, rfl, hc⟩
theorem Buf.kt {w w2 : World} {base : Nat} {a : Option Nat} {A : Option Addr} {l : List UInt8} {Ts : List TypeId} (h : Buf w base a A l) (k : KT a base Ts w w2) (h1 : 5 ∉ Ts) (h2 : 74 ∉ Ts) : Buf w2 base a A l := by
  rcases h with h | ⟨g, off, cs, t, f, rfl, hg, hs, hc⟩
  · exact .inl h
  · have hlt : g < w.heap.size := (Array.getElem?_eq_some_iff.1 hg).1
    have e : w2.heap[g]? = w.heap[g]? := k.block g hlt (hs.imp id fun ⟨h3, h4⟩ => ⟨h3, fun ⟨cs', t', f', h5, h6⟩ => by
      rw [hg] at h5
      injection h5 with h5
      injection h5 with _ h5
      subst h5
      simp at h4
      rcases h4 with h4 | h4
      · rw [h4] at h6; exact h1 h6
      · rw [h4] at h6; exact h2 h6⟩)
    exact .inr ⟨g, off, cs, t, f, rfl, e.trans hg, hs, fun i hi => (World.cell?_of_block (a := ⟨g, off + i, none⟩) e).trans (hc i hi)⟩
/-- the disk but for what its steps tell -/
def DiskRaw (w : World) (base a d : Nat) (D : Dk) : Prop :=
  base ≤ d ∧ ∃ (cA : Nat) (P : Option Addr) (cp : Nat) (K : Option Addr) (ck : Nat) (wr fl : Int) (T : Option Addr) (tn ct : Nat) (tc : List Value),
    Is w d 60 #[.slice (some ⟨a, 0, none⟩) D.lasts.length cA, .slice P D.pend.length cp, .int .i64 (D.left : Int), .slice K D.keep.length ck, .bool D.down, .int .i64 wr, .int .i64 fl, .slice T tn ct] ∧
    Own w base 74 512 (some ⟨a, 0, none⟩) D.lasts.length cA (secC D.lasts) ∧ Own w base 76 513 P D.pend.length cp (penC D.pend) ∧ KeepAt w base K D.keep ∧
    Own w base 121 3 T tn ct tc ∧ tn ≤ D.n
theorem DiskRaw.at_ {w : World} {base a d : Nat} {D : Dk} (h : DiskRaw w base a d D) (hO : D.Ok) : DiskAt w base a d D := ⟨hO, h⟩
theorem diskT_ne {t : TypeId} (h : t ∈ [74, 4, 5]) : t ∉ diskT := by
  simp at h
  rcases h with h | h | h <;> subst h <;> simp [diskT]
/-- a row of one of the disk's types has grown, from some world that lies behind this one on -/
theorem grown_kt {w W w1 : World} {base k n cap : Nat} {t : TypeId} {A : Option Addr} {cs : List Value} (s : Option Nat) (hb : Below w.heap.size w W) (h : Own W base t k A n cap cs) (hg : W.grownBy w1 (Value.slice A n cap).ownBlock) : KT s base [t] w w1 :=
  (KT.of_below hb (Nat.le_refl _)).trans (KT.of_grown h (Nat.le_refl _) (by simp) hg)
theorem KeepAt.kt0 {w w2 : World} {base : Nat} {K : Option Addr} {l : List Bool} {Ts : List TypeId} (h : KeepAt w base K l) (k : KT none base Ts w w2) (ht : 4 ∉ Ts) : KeepAt w2 base K l := h.kt k ht (fun b e => by cases e)
theorem Own.kt0 {w w2 : World} {base k n cap : Nat} {t : TypeId} {A : Option Addr} {cs : List Value} {Ts : List TypeId} (h : Own w base t k A n cap cs) (q : KT none base Ts w w2) (ht : t ∉ Ts) : Own w2 base t k A n cap cs := h.kt q ht (fun g _ e => by cases e)
theorem Is.kt0 {w w2 : World} {base g : Nat} {t : TypeId} {cs : Array Value} {Ts : List TypeId} (h : Is w g t cs) (q : KT none base Ts w w2) (ht : t ∉ Ts) : Is w2 g t cs := h.kt q (.inr ⟨(fun e => by cases e), ht⟩)
theorem pended_at {w W w1 : World} {base a d i gg cap2 cp : Nat} {D : Dk} {P : Option Addr} {b : List UInt8} (hb : Below w.heap.size w W) (h : DiskRaw w base a d D) (hc1 : w.cell? ⟨d, 1, none⟩ = some (.slice P D.pend.length cp))
    (hown1 : w1.ownsRow base 76 513 (.slice (some ⟨gg, 0, none⟩) (D.pend.length + 1) cap2) (D.pend.length + 1) (penC D.pend ++ penCell (i, b))) (hgrow : W.grownBy w1 (Value.slice P D.pend.length cp).ownBlock) :
    DiskRaw (w1.setCell ⟨d, 1, none⟩ (.slice (some ⟨gg, 0, none⟩) (D.pend.length + 1) cap2)) base a d { D with pend := D.pend ++ [(i, b)] } ∧ KT (some a) base diskT w (w1.setCell ⟨d, 1, none⟩ (.slice (some ⟨gg, 0, none⟩) (D.pend.length + 1) cap2)) := by
  obtain ⟨hd, cA, P', cp', K, ck, wr, fl, T, tn, ct, tc, hI, hA, hP, hK, hT, hn⟩ := h
  have e := hI.cell 1
  rw [hc1] at e
  simp at e
  obtain ⟨rfl, rfl⟩ := e
  have hPW := hP.later hb
  have k0 := grown_kt none hb hPW hgrow
  have ka := grown_kt (some a) hb hPW hgrow
  have hI1 := hI.kt0 k0 (by simp)
  have hl : (D.pend ++ [(i, b)]).length = D.pend.length + 1 := by simp
  have hpc : penC (D.pend ++ [(i, b)]) = penC D.pend ++ penCell (i, b) := by unfold penC; rw [List.flatMap_append]; simp
  refine ⟨⟨hd, cA, some ⟨gg, 0, none⟩, cap2, K, ck, wr, fl, T, tn, ct, tc, ?_, ?_, ?_, ?_, ?_, hn⟩, (ka.mono (fun t ht => by simp at ht; subst ht; simp [diskT])).trans (KT.setCell hI1 hd (.inr (by simp [diskT])) _)⟩
  · show Is _ d _ #[_, .slice (some ⟨gg, 0, none⟩) (D.pend ++ [(i, b)]).length cap2, _, _, _, _, _, _]
    rw [hl]
    exact hI1.put 1 _
  · exact (hA.kt0 k0 (by simp)).putD hI1 (by decide) _ _
  · show Own _ base _ 513 _ (D.pend ++ [(i, b)]).length cap2 (penC (D.pend ++ [(i, b)]))
    rw [hl, hpc]
    exact (show Own w1 base _ 513 _ _ cap2 _ from hown1).putD hI1 (by decide) _ _
  · exact (hK.kt0 k0 (by simp)).putD hI1 hd _ _
  · exact (hT.kt0 k0 (by simp)).putD hI1 (by decide) _ _
theorem taped_at {w W w1 : World} {base a d gg cap2 tn ct : Nat} {D : Dk} {T : Option Addr} {tc news : List Value} (hb : Below w.heap.size w W) (h : DiskRaw w base a d D) (hc7 : w.cell? ⟨d, 7, none⟩ = some (.slice T tn ct)) (hT0 : Own w base 121 3 T tn ct tc) (htn : tn ≤ D.n)
    (hown1 : w1.ownsRow base 121 3 (.slice (some ⟨gg, 0, none⟩) (tn + 1) cap2) (tn + 1) news) (hgrow : W.grownBy w1 (Value.slice T tn ct).ownBlock) :
    DiskRaw (w1.setCell ⟨d, 7, none⟩ (.slice (some ⟨gg, 0, none⟩) (tn + 1) cap2)) base a d { D with n := D.n + 1 } ∧ KT (some a) base diskT w (w1.setCell ⟨d, 7, none⟩ (.slice (some ⟨gg, 0, none⟩) (tn + 1) cap2)) := by
  obtain ⟨hd, cA, P, cp, K, ck, wr, fl, T', tn', ct', tc', hI, hA, hP, hK, hT, hn⟩ := h
  have k0 := grown_kt none hb (hT0.later hb) hgrow
  have ka := grown_kt (some a) hb (hT0.later hb) hgrow
  have hI1 := hI.kt0 k0 (by simp)
  refine ⟨⟨hd, cA, P, cp, K, ck, wr, fl, some ⟨gg, 0, none⟩, tn + 1, cap2, news, hI1.put 7 _, ?_, ?_, ?_, ?_, by show tn + 1 ≤ D.n + 1; omega⟩, (ka.mono (fun t ht => by simp at ht; subst ht; simp [diskT])).trans (KT.setCell hI1 hd (.inr (by simp [diskT])) _)⟩
  · exact (hA.kt0 k0 (by simp)).putD hI1 (by decide) _ _
  · exact (hP.kt0 k0 (by simp)).putD hI1 (by decide) _ _
  · exact (hK.kt0 k0 (by simp)).putD hI1 hd _ _
  · exact (show Own w1 base _ 3 _ _ cap2 _ from hown1).putD hI1 (by decide) _ _
theorem wr_stored {w : World} {base a d : Nat} {D : Dk} (h : DiskAt w base a d D) (v : Int) : DiskAt (w.setCell ⟨d, 5, none⟩ (.int .i64 v)) base a d D := by
  obtain ⟨hO, hd, cA, P, cp, K, ck, wrt, flt, T, tn, ct, tc, hI, hA, hP, hK, hT, hn⟩ := h
  exact ⟨hO, hd, cA, P, cp, K, ck, v, flt, T, tn, ct, tc, hI.put 5 (.int .i64 v), hA.putD hI (by decide) _ _, hP.putD hI (by decide) _ _, hK.putD hI hd _ _, hT.putD hI (by decide) _ _, hn⟩
theorem fl_stored {w : World} {base a d : Nat} {D : Dk} (h : DiskAt w base a d D) (v : Int) : DiskAt (w.setCell ⟨d, 6, none⟩ (.int .i64 v)) base a d D := by
  obtain ⟨hO, hd, cA, P, cp, K, ck, wrt, flt, T, tn, ct, tc, hI, hA, hP, hK, hT, hn⟩ := h
  exact ⟨hO, hd, cA, P, cp, K, ck, wrt, v, T, tn, ct, tc, hI.put 6 (.int .i64 v), hA.putD hI (by decide) _ _, hP.putD hI (by decide) _ _, hK.putD hI hd _ _, hT.putD hI (by decide) _ _, hn⟩
theorem infoAct : (Tryd.prog.info? 121).map (fun i => (i.zero, i.size, i.bytes)) = some (some (.agg #[.int .i64 0, .int .i64 0, .slice none 0 0]), 3, 40) := by kernel_rfl
theorem run_arrayAt512 (w : World) (b o c : Nat) : (Instr.arrayAt 74 (.slice (some ⟨b, o, none⟩) 512 c)).run Tryd.prog w = .ok (.pointer (some ⟨b, o, none⟩)) w := by
  simp [Instr.arrayAt, run_underlying Tryd.underlying74, Sem.run_bind]
attribute [local go_sem] run_arrayAt512
def secLoad (p : Value) : Sem Next := do let r ← Instr.loadAt 74 p; pure (.value r)
theorem exec_secLoad (ρ : Operand → Value) d (x : Operand) ty pos af g :
    execOp ρ { dst := d, op := .load 74 x, type := ty, pos := pos, after := af, guard := g } = secLoad (ρ x) := by
  simp [execOp, secLoad]
theorem secLoad_run {w : World} {b o : Nat} {cs : List Value} (h : w.rangeAt b o cs) (hl : cs.length = 512) : (secLoad (.pointer (some ⟨b, o, none⟩))).run Tryd.prog w = .ok (.value (.agg cs.toArray)) w := by
  unfold secLoad
  rw [Sem.run_bind, run_loadAt_mid w b o 74 cs _ h Tryd.underlying74 rfl (by rw [hl]; exact infoSec)]
  rfl
theorem ex_at_zero {o : Oper} {l : List Oper} {h : 0 < (o :: l).toArray.size} {ρ : Operand → Value} : execOp ρ ((o :: l).toArray[0]'h) = execOp ρ o := rfl
theorem ex_at_succ {o : Oper} {l : List Oper} {n : Nat} {h : n + 1 < (o :: l).toArray.size} {ρ : Operand → Value} : execOp ρ ((o :: l).toArray[n + 1]'h) = execOp ρ (l.toArray[n]'(by simpa using h)) := rfl
attribute [local go_sem ↓] ex_at_zero ex_at_succ exec_pen exec_bsl exec_secLoad
set_option maxRecDepth 100000 in
set_option maxHeartbeats 1600000 in
theorem dwrite_any (base a d : Nat) (D : Dk) (i : Nat) (Bp : Option Addr) (bc : Nat) (b : List UInt8) (w : World) (h : DiskAt w base a d D) (hdn : D.down = false) (hi : i < D.lasts.length) (hb5 : b.length = 512) (hb : Buf w base (some a) Bp b) (hbw : base ≤ w.heap.size)
    (hn0 : D.n ≤ 1000000) :
    Calls Tryd.prog 53 #[.pointer (some ⟨d, 0, none⟩), .int .i64 (i : Int), .slice Bp 512 bc] w fun e w' => e = .returned (.int .i64 D.err) ∧ DiskAt w' base a d (D.write i b) ∧ KT (some a) base diskT w w' := by
  have HD := Lib.hid h
  obtain ⟨hane, hab, hisA⟩ := h.a_ne
  obtain ⟨hO, hd, cA, P, cp, K, ck, wrt, flt, T, tn, ct, tc, hI, hA, hP, hK, hT, hn⟩ := h
  obtain ⟨c0, c1, c2, c3, c4, c5, c6, c7⟩ := dcells hI
  obtain ⟨i0, z0, hi0, hz0, hz1, hz2, hz3⟩ := infoPenZ
  have hp0 : D.pend.length ≤ 1000000 := by have := hO.2.2.2.2.1; omega
  rcases hb with rfl | ⟨bb, bo, bcs, bt, bf, rfl, hbg, hbs, hbc⟩
  · simp at hb5
  have hrange : w.rangeAt bb bo (cellsOf8 b) := fun j v hv => by
    have hj := (List.getElem?_eq_some_iff.1 hv).1
    rw [cellsOf8_length] at hj
    rw [hbc j hj, ← hv, cellsOf8_at b j hj]
  have f1 := hI.free 1
  have HBC := Lib.hid hbc
  have hl0 : (cellsOf8 b).length = 512 := by rw [cellsOf8_length]; exact hb5
  have HO := Lib.hid hO
  have HP := Lib.hid hP
  have HI := Lib.hid hI
  have HA := Lib.hid hA
  have HK := Lib.hid hK
  have HT := Lib.hid hT
  have HIx := Lib.hid hi
  have HL0 := Lib.hid hl0
  have HB5 := Lib.hid hb5
  have hi1 : (0 : Int) ≤ (i : Int) := by omega
  have hi2 : (i : Int) < (D.lasts.length : Int) := by omega
  rw [hdn] at c4
  have H0 := Lib.hid hi0
  have HZ0 := Lib.hid hz0
  have HZ1 := Lib.hid hz1
  have HZ2 := Lib.hid hz2
  have HZ3 := Lib.hid hz3
  have r1 := hrange
  clear hO hA hP hK hT hI hi hi0 hz0 hz1 hz2 hz3 hl0 hb5 hbc c0 c2 c3 c5 c6 hdn hisA hrange
  go_enter Tryd.func53, Tryd.ntmps53
  go_upto_region 7 with (go_at_call 31; refine (dhas_any base a d D i _ HD.out).mono ?_; rintro e w' ⟨rfl, rfl⟩; rw [decide_eq_true ⟨hi1, hi2⟩])
  go_cut [6] from 21 to 34 (fun s6 wx => s6 = .int .i64 0 ∧ (w.heap.size ≤ wx.heap.size ∧ DiskRaw wx base a d { D with pend := D.pend ++ [(i, b)] }) ∧ KT (some a) base diskT w wx)
  case first =>
    have hcl : (cellsOf8 b).length = 512 := HL0.out
    have hld : (secLoad (.pointer (some ⟨bb, bo, none⟩))).run Tryd.prog w = .ok (.value (.agg (cellsOf8 b).toArray)) w := secLoad_run r1 hcl
    have hld2 : (secLoad (.pointer (some ⟨bb, bo, none⟩))).run Tryd.prog w.drew = .ok (.value (.agg (cellsOf8 b).toArray)) w.drew := secLoad_run (w := w.drew) r1 hcl
    obtain ⟨pc, hpc⟩ : ∃ pc, penCell (i, b) = pc := ⟨_, rfl⟩
    have hpen : ∀ w, (penSem (.int .i64 (i : Int)) (.agg (cellsOf8 b).toArray)).run Tryd.prog w = .ok (.value (.agg pc.toArray)) w := fun w => by rw [← hpc]; exact pen_run w i _ hcl
    have hpl : pc.length = 513 := by rw [← hpc]; simp [penCell, hcl]
    have hbsl : ∀ w, (bslSem (.agg pc.toArray)).run Tryd.prog w = .ok (.value (.slice (some ⟨w.heap.size, 0, none⟩) 1 1)) (w.alloc (.cells pc.toArray 76)) := fun w => bsl_run w pc hpl
    have HPC := Lib.hid hpc
    have H1P := Lib.hid (show ∀ u ∈ pc, u.oneCell' = true by rw [← hpc]; exact penCell_one (i, b))
    have HOA := Lib.hid (HP.out.later (below_new w (.cells pc.toArray 76)))
    have HDP := Lib.hid (show some d ≠ (Value.slice P D.pend.length cp).ownBlock from fun e => by
      rcases HP.out.shape with h0 | ⟨g, h0⟩
      · rw [h0] at e; cases e
      · obtain ⟨_, cur, hi5⟩ := HP.out.typed g h0
        rw [h0] at e
        injection e with e
        have e : d = g := e
        subst e
        have h6 := hi5.symm.trans HI.out
        injection h6 with h6
        injection h6 with _ h6
        exact absurd h6 (by decide))
    have HPL := Lib.hid hpl
    clear hpc hpl
    have c1a : (w.alloc (.cells pc.toArray 76)).cell? ⟨d, 1, none⟩ = some (.slice P D.pend.length cp) := ((below_new w (.cells pc.toArray 76)).cell (p := ⟨d, 1, none⟩) HI.out.lt).trans c1
    clear hcl r1
    go_region_law (refine step_append_lies _ (by rfl) _ _ _ (by rfl) base 76 i0 z0 513 520 Tryd.underlying57 H0.out HZ0.out HZ1.out HZ2.out HZ3.out (by omega) (.slice P D.pend.length cp) D.pend.length (penC D.pend) (by simp [Act.eval, Act.put]) (show World.ownsRow (w.alloc (.cells pc.toArray 76)).drew base 76 513 (.slice P D.pend.length cp) D.pend.length (penC D.pend) from HOA.out) ⟨w.heap.size, 0, none⟩ 1 1 pc (by simp [Act.eval, Act.put]) (by rw [HPL.out]) (by have := World.news_of_block (w := w.alloc (.cells pc.toArray 76)) (B := w.heap.size) (cs := pc.toArray) (t := 76) (fr := (0, 0)) (heap_alloc_new w _); exact this) H1P.out (by omega) (by simp only [maxLen]; omega) (by omega) (by simp; omega) (w.heap.size + 1) (by simp) ?_
                   intro gg cap2 w1 hown1 hgrow hat hlt
                   have hd1 : d < (w.alloc (.cells pc.toArray 76)).heap.size := by simp; have := HI.out.lt; omega
                   have c1' : w1.cell? ⟨d, 1, none⟩ = some (.slice P D.pend.length cp) := (hgrow.cell_far ⟨d, 1, none⟩ hd1 HDP.out).trans ((below_new w _).cell (p := ⟨d, 1, none⟩) HI.out.lt |>.trans c1)
                   have f1' : w1.frozen? ⟨d, 1, none⟩ = false := (hgrow.frozen_far ⟨d, 1, none⟩ hd1 HDP.out).trans (((below_new w _).frozen (p := ⟨d, 1, none⟩) HI.out.lt).trans f1))
    all_goals (have hgrow' : World.grownBy (w.alloc (.cells pc.toArray 76)).drew w1 (Value.slice P D.pend.length cp).ownBlock := hgrow)
    all_goals (have hown1' : World.ownsRow w1 base 76 513 (.slice (some ⟨gg, 0, none⟩) (D.pend.length + 1) cap2) (D.pend.length + 1) (penC D.pend ++ penCell (i, b)) := by rw [HPC.out]; exact hown1)
    all_goals (obtain ⟨fin1, fin2⟩ := pended_at (below_new w (.cells pc.toArray 76)).drew HD.out.2 c1 hown1' hgrow')
    all_goals go_wp2_with fail
    all_goals go_meet
    all_goals exact ⟨rfl, ⟨fin2.size, fin1⟩, fin2⟩
  case rest =>
    obtain ⟨rfl, ⟨hsz, hraw⟩, hkt⟩ := hcut
    have HRAW := Lib.hid hraw
    have HKT := Lib.hid hkt
    obtain ⟨hd', cA', P', cp', K', ck', wr', fl', T', tn', ct', tc', hI', hA', hP', hK', hT', hn'⟩ := hraw
    have c7' := hI'.cell 7
    have f7' := hI'.free 7
    have HIc := Lib.hid hI'
    have HTc := Lib.hid hT'
    have hn0' : tn' ≤ 1000000 := by have hn' : tn' ≤ D.n := hn'; omega
    have HNc := Lib.hid (show tn' ≤ D.n from hn')
    have HBB := Lib.hid (show Buf w base (some a) (some ⟨bb, bo, none⟩) b from .inr ⟨bb, bo, bcs, bt, bf, rfl, hbg, hbs, HBC.out⟩)
    have HBw := Lib.hid ((HBB.out.kt HKT.out (diskT_ne (by simp)) (diskT_ne (by simp))).bytes)
    clear hI' hA' hP' hK' hT' hn' hkt hbg
    go_upto_region 8 with fail
    go_cut [6] from 35 to 47 (fun s6 wx => s6 = .int .i64 0 ∧ DiskRaw wx base a d { D with pend := D.pend ++ [(i, b)], n := D.n + 1 } ∧ KT (some a) base diskT wc wx)
    case first =>
      obtain ⟨i1, hi1', hy0, hy1, hy2⟩ := info_parts infoAct
      have HI1 := Lib.hid hi1'
      have HY0 := Lib.hid hy0
      have HY1 := Lib.hid hy1
      have HY2 := Lib.hid hy2
      have HDT := Lib.hid (show some d ≠ (Value.slice T' tn' ct').ownBlock from fun e => by
        rcases HTc.out.shape with h0 | ⟨g, h0⟩
        · rw [h0] at e; cases e
        · obtain ⟨_, cur, hi5⟩ := HTc.out.typed g h0
          rw [h0] at e
          injection e with e
          have e : d = g := e
          subst e
          have h6 := hi5.symm.trans HIc.out
          injection h6 with h6
          injection h6 with _ h6
          exact absurd h6 (by decide))
      clear hi1' hy0 hy1 hy2 hbs
      go_region_law (first
        | (go_simp; go_at_call 22
           refine (clone8_any (some ⟨bb, bo, none⟩) 512 bc b HB5.out _ (by exact HBw.out) (fun h => by cases h) (by simp) (by decide)).mono ?_
           rintro e w5 ⟨⟨A5, c5, rfl, hM5⟩, hb5'⟩
           have hbc5 : Below wc.heap.size wc w5 := ⟨hb5'.os, hb5'.tape, hb5'.output, hb5'.size, hb5'.block⟩
           have c75 : w5.cell? ⟨d, 7, none⟩ = some (.slice T' tn' ct') := (hbc5.cell (p := ⟨d, 7, none⟩) HIc.out.lt).trans c7'
           have c76 : (w5.alloc (.cells #[.int .i64 1, .int .i64 (i : Int), .slice A5 512 c5] 121)).cell? ⟨d, 7, none⟩ = some (.slice T' tn' ct') := ((below_new w5 (.cells #[.int .i64 1, .int .i64 (i : Int), .slice A5 512 c5] 121)).cell (p := ⟨d, 7, none⟩) (block_lt_of_cell c75)).trans c75)
        | (refine step_append_lies _ (by rfl) _ _ _ (by rfl) base 121 i1 (.agg #[.int .i64 0, .int .i64 0, .slice none 0 0]) 3 40 Tryd.underlying58 HI1.out HY0.out HY1.out HY2.out rfl (by omega) (.slice T' tn' ct') tn' tc' (by simp [Act.eval, Act.put]) (by exact (HTc.out.later hbc5).later (below_new w5 (.cells #[.int .i64 1, .int .i64 (i : Int), .slice A5 512 c5] 121))) ⟨w5.heap.size, 0, none⟩ 1 1 [.int .i64 1, .int .i64 (i : Int), .slice A5 512 c5] (by simp [Act.eval, Act.put]) (by rfl) (by have := World.news_of_block (w := w5.alloc (.cells #[.int .i64 1, .int .i64 (i : Int), .slice A5 512 c5] 121)) (B := w5.heap.size) (cs := #[.int .i64 1, .int .i64 (i : Int), .slice A5 512 c5]) (t := 121) (fr := (0, 0)) (heap_alloc_new w5 _); exact this) (by simp [Value.oneCell']) (by omega) (by simp only [maxLen]; omega) (by omega) (by simp; have := hbc5.size; omega) (w5.heap.size + 1) (by simp) ?_
           intro gg cap2 w1 hown1 hgrow hat hlt
           have hdl : d < (w5.alloc (.cells #[.int .i64 1, .int .i64 (i : Int), .slice A5 512 c5] 121)).heap.size := by rw [World.size_alloc]; have q : d < w5.heap.size := block_lt_of_cell c75; omega
           have c1' : w1.cell? ⟨d, 7, none⟩ = some (.slice T' tn' ct') := (hgrow.cell_far ⟨d, 7, none⟩ hdl HDT.out).trans c76
           have f1' : w1.frozen? ⟨d, 7, none⟩ = false := (hgrow.frozen_far ⟨d, 7, none⟩ hdl HDT.out).trans (((below_new w5 _).frozen (p := ⟨d, 7, none⟩) (block_lt_of_cell c75)).trans ((hbc5.frozen (p := ⟨d, 7, none⟩) HIc.out.lt).trans f7'))))
      all_goals (have hgrow' : World.grownBy (w5.alloc (.cells #[.int .i64 1, .int .i64 (i : Int), .slice A5 512 c5] 121)) w1 (Value.slice T' tn' ct').ownBlock := hgrow)
      all_goals (obtain ⟨fin1, fin2⟩ := taped_at (hbc5.trans ((below_new w5 (.cells #[.int .i64 1, .int .i64 (i : Int), .slice A5 512 c5] 121)).mono hbc5.size)) HRAW.out c7' HTc.out HNc.out hown1 hgrow')
      all_goals go_wp2_with fail
      all_goals go_meet
      all_goals exact ⟨rfl, fin1, fin2⟩
    case rest =>
      obtain ⟨rfl, hraw, hkt⟩ := hcut
      have HOK := Lib.hid (HO.out.pended HIx.out HB5.out)
      have HDc := Lib.hid (hraw.at_ HOK.out)
      have HK2 := Lib.hid hkt
      obtain ⟨_, cA2, P2, cp2, K2, ck2, wr2, fl2, T2, tn2, ct2, tc2, hI2, _⟩ := hraw
      have c5 := hI2.cell 5
      have f5 := hI2.free 5
      clear hI2 hkt
      obtain ⟨lf, hlf⟩ : ∃ lf, D.left = lf := ⟨_, rfl⟩
      by_cases h1 : lf = 1
      · have HW := Lib.hid (show D.write i b = ({ D with pend := D.pend ++ [(i, b)], n := D.n + 1 } : Dk).cut D.keep from by unfold Dk.write; rw [if_pos (by rw [hlf]; exact h1)])
        have HE := Lib.hid (show D.err = 30 from by unfold Dk.err; rw [if_pos (by rw [hlf]; exact h1)])
        have HL1 := Lib.hid (show ({ D with pend := D.pend ++ [(i, b)], n := D.n + 1 } : Dk).left = 1 from by show D.left = 1; rw [hlf]; exact h1)
        clear h1 hlf
        go_wp2_with (go_at_call 70
                     refine (dstep_cut base a d _ .nilFunc _ (wr_stored HDc.out _) HL1.out).mono ?_
                     rintro e w9 ⟨rfl, hD9, hk9⟩
                     have HD9 := Lib.hid hD9
                     have HK9 := Lib.hid hk9
                     clear hD9 hk9)
        go_ret
        exact ⟨by rw [HE.out]; rfl, by rw [HW.out]; exact HD9.out, ((HKT.out.trans HK2.out).trans (DiskAt.kt1 HDc.out 5 _)).trans HK9.out⟩
      · have HW := Lib.hid (show D.write i b = ({ D with pend := D.pend ++ [(i, b)], n := D.n + 1 } : Dk).less from by unfold Dk.write; rw [if_neg (by rw [hlf]; exact h1)]; rfl)
        have HE := Lib.hid (show D.err = 0 from by unfold Dk.err; rw [if_neg (by rw [hlf]; exact h1)])
        have HL1 := Lib.hid (show ({ D with pend := D.pend ++ [(i, b)], n := D.n + 1 } : Dk).left ≠ 1 from by show D.left ≠ 1; rw [hlf]; exact h1)
        clear h1 hlf
        go_wp2_with (go_at_call 70
                     refine (dstep_nil base a d _ _ (wr_stored HDc.out _) HL1.out).mono ?_
                     rintro e w9 ⟨rfl, hD9, hk9⟩
                     have HD9 := Lib.hid hD9
                     have HK9 := Lib.hid hk9
                     clear hD9 hk9)
        go_ret
        exact ⟨by rw [HE.out]; rfl, by rw [HW.out]; exact HD9.out, ((HKT.out.trans HK2.out).trans (DiskAt.kt1 HDc.out 5 _)).trans HK9.out⟩
end Go.Proofs.YtimddchgmocdaaaDoor
