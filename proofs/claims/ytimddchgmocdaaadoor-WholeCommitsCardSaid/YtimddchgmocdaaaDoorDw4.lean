/-
  THE WALKS OF A DISK's CALLS (4): cut, step.
-/
import Derived.Test.YtimddchgmocdaaaDoorDw3
import Derived.Deep.RegionHeld3
set_option linter.unusedVariables false
set_option linter.unusedSimpArgs false
namespace Go.Proofs.YtimddchgmocdaaaDoor
open Go.RowKit

theorem KeepAt.at_ {w : World} {base : Nat} {K : Option Addr} {l : List Bool} (h : KeepAt w base K l) {k : Nat} (hk : k < l.length) : ∃ b off, K = some ⟨b, off, none⟩ ∧ w.cell? ⟨b, off + k, none⟩ = some (.bool l[k]) := by
  rcases h with rfl | ⟨b, off, rfl, _, hc⟩
  · simp at hk
  · exact ⟨b, off, rfl, hc k hk⟩
theorem DiskAt.a_ne {w : World} {base a d : Nat} {D : Dk} (h : DiskAt w base a d D) : a ≠ d ∧ base ≤ a ∧ ∃ cur, Is w a 74 cur := by
  obtain ⟨hO, hd, cA, P, cp, K, ck, wr, fl, T, tn, ct, tc, hI, hA, hP, hK, hT, hn⟩ := h
  obtain ⟨hb, cur, hi⟩ := hA.typed a rfl
  refine ⟨fun e => ?_, hb, cur, hi⟩
  rw [← e] at hI
  have h6 := hi.symm.trans hI
  injection h6 with h6
  injection h6 with _ h6
  exact absurd h6 (by decide)
theorem ne_a {w : World} {a : Nat} (hA : ∃ cur, Is w a 74 cur) {t : TypeId} {g : Nat} (ht : t ≠ 74) (hg : ∃ cur, Is w g t cur) : some g ≠ some a := fun e => by
  injection e with e
  subst e
  obtain ⟨cur, hi⟩ := hA
  obtain ⟨cur2, hi2⟩ := hg
  have h6 := hi2.symm.trans hi
  injection h6 with h6
  injection h6 with _ h6
  exact ht h6

theorem setC_cell (w : World) (g o : Nat) (vs : List Value) (b i : Nat) (h : b ≠ g) : (w.setCells g o vs).cell? ⟨b, i, none⟩ = w.cell? ⟨b, i, none⟩ := World.cell?_of_block (a := ⟨b, i, none⟩) (heap_setCells_other g vs w o b h)
set_option maxRecDepth 100000 in
set_option maxHeartbeats 3200000 in
theorem dcut_any (base a d : Nat) (D : Dk) (Kp : Option Addr) (kc : Nat) (l : List Bool) (w : World) (h : DiskAt w base a d D) (hk : KeepAt w base Kp l) (hl : l.length ≤ 9223372036854775807) :
    Calls Tryd.prog 87 #[.pointer (some ⟨d, 0, none⟩), .slice Kp l.length kc] w fun e w' => e = .returned (.tuple #[]) ∧ DiskAt w' base a d (D.cut l) ∧ KT (some a) base diskT w w' := by
  obtain ⟨hane, hab, hisA⟩ := h.a_ne
  have HNE := Lib.hid hane
  have HIA := Lib.hid hisA
  have HKp := Lib.hid hk
  obtain ⟨hO, hd, cA, P, cp, K, ck, wrt, flt, T, tn, ct, tc, hI, hA, hP, hK, hT, hn⟩ := h
  obtain ⟨c0, c1, c2, c3, c4, c5, c6, c7⟩ := dcells hI
  have HO := Lib.hid hO
  have HP := Lib.hid hP
  have HI := Lib.hid hI
  have HA := Lib.hid hA
  have HK := Lib.hid hK
  have HT := Lib.hid hT
  have hN : D.lasts.length ≤ 16384 := hO.2.1
  have hpl : D.pend.length ≤ 9223372036854775807 := by have := hP.cap_le; simp only [maxLen] at this; omega
  obtain ⟨m, hm, hml, hmp⟩ := min_two l.length D.pend.length
  have hmm : m = min l.length D.pend.length := by
    split at hm <;> omega
  have HMM := Lib.hid hmm
  clear hO hA hP hK hT hI hk hane hisA hmm
  go_enter Tryd.func87, Tryd.ntmps87
  go_wp2_with (refine wpList_min2 rfl _ _ _ rfl (l.length : Int) (D.pend.length : Int) rfl rfl (m : Int) hm ?_)
  clear hm
  go_loopw [14] (fun i' wr => ∃ k : Nat, k ≤ m ∧ i' = .int .i64 k ∧ Own wr base 74 512 (some ⟨a, 0, none⟩) D.lasts.length cA (secC (Dk.kept D.lasts D.pend l k)) ∧ KT (some a) base [] w wr) (fun i' _ => m - (intOf i').toNat)
  case atStart => exact ⟨0, Nat.zero_le _, rfl, HA.out, KT.refl _ _ _ _⟩
  case round =>
    obtain ⟨k, hk, rfl, hOw, hKT⟩ := hrel
    have HOw := Lib.hid hOw
    have HKT := Lib.hid hKT
    have hIr := HI.out.kt hKT (.inr ⟨ne_a HIA.out (by decide) ⟨_, HI.out⟩, by simp⟩)
    have hPr := HP.out.kt hKT (by simp) (fun g hg => ne_a HIA.out (by decide) (HP.out.typed g hg).2)
    have hKr := HKp.out.kt hKT (by simp) (fun b e ⟨cs, t, f, q1, q2⟩ => by
      injection e with e
      subst e
      obtain ⟨cur, hi⟩ := HIA.out
      rw [show w.heap[a]? = _ from hi] at q1
      injection q1 with q1
      injection q1 with _ q1
      simp at q2
      rw [q2] at q1
      exact absurd q1 (by decide))
    obtain ⟨r0, r1, r2, r3, r4, r5, r6, r7⟩ := dcells hIr
    have HIr := Lib.hid hIr
    have HPr := Lib.hid hPr
    have HKr := Lib.hid hKr
    have hsr := hKT.size
    clear hOw hKT hIr hPr hKr r2 r3 r4 r5 r6 r7
    by_cases hlt : k < m
    · have hk0 : (k : Int) < (m : Int) := by omega
      have hk1 : (0 : Int) ≤ (k : Int) := by omega
      have hkp : k < D.pend.length := by omega
      have hkl : k < l.length := by omega
      have hkp0 : (k : Int) < (D.pend.length : Int) := by omega
      have hkl0 : (k : Int) < (l.length : Int) := by omega
      obtain ⟨gp, hgp, _, _⟩ := HPr.out.form (by omega)
      subst hgp
      obtain ⟨bk, bo, rfl, hcb⟩ := HKr.out.at_ hkl
      obtain ⟨hrg, hl513⟩ := pen_range HO.out HPr.out hkp
      have hx := HO.out.2.2.2.1 _ (List.getElem_mem hkp)
      have harm : ∀ w8, Is w8 wr.heap.size 76 (penCell D.pend[k]).toArray → w8.cell? ⟨wr.heap.size, 0, none⟩ = some (.int .i64 (D.pend[k].1 : Int)) ∧ w8.rangeAt wr.heap.size 1 (cellsOf8 D.pend[k].2) := fun w8 h1 => ⟨h1.cell 0, fun j v hv => by rw [h1.cell (1 + j)]; simp [penCell, Nat.add_comm 1 j]; exact hv⟩
      have h1c : (penCell D.pend[k]).toArray.all (·.oneCell') = true := all_oneCell_toArray (penCell_one _)
      have hget : l.getD k false = l[k] := by rw [List.getD_eq_getElem?_getD, List.getElem?_eq_getElem hkl]; rfl
      have hyes := Dk.kept_yes (l := D.lasts) (p := D.pend) (keep := l) (k := k) hkp
      have hno := Dk.kept_no (l := D.lasts) (p := D.pend) (keep := l) (k := k)
      rw [hget] at hyes hno
      obtain ⟨pc, hpe⟩ : ∃ pc, penCell D.pend[k] = pc := ⟨_, rfl⟩
      obtain ⟨xi, hxi⟩ : ∃ xi, D.pend[k].1 = xi := ⟨_, rfl⟩
      obtain ⟨xb, hxb⟩ : ∃ xb, D.pend[k].2 = xb := ⟨_, rfl⟩
      obtain ⟨lk, hlk⟩ : ∃ lk, l[k] = lk := ⟨_, rfl⟩
      rw [hpe] at hrg hl513 harm h1c
      rw [hxi, hxb] at harm hyes hx
      rw [hlk] at hcb hyes hno
      have H1C := Lib.hid h1c
      have HARM := Lib.hid harm
      have HRG := Lib.hid hrg
      have HL := Lib.hid hl513
      have HY := Lib.hid hyes
      have HN := Lib.hid hno
      have HX := Lib.hid hx
      have hcbb := block_lt_of_cell hcb
      have r0b := block_lt_of_cell r0
      clear hrg hl513 hpe harm h1c hlt hxi hxb hlk hyes hno hx hget hkp hkl
      cases lk with
      | false =>
        go_wp2_with (first
          | (refine wpList_load_mid rfl 76 (.tmp 22) (by rfl) gp (k * 513) (by rfl) _ _ HRG.out Tryd.underlying76 rfl (by rw [HL.out]; exact infoPen) ?_)
          | (refine wpList_store_row rfl 76 (.tmp 5) (.tmp 23) rfl wr.heap.size pc.toArray (by rfl) (by rfl) 76 _ (Is.new wr _ _) (by rw [List.size_toArray, HL.out]; exact infoPen) (Tryd.zeroCells76_size.trans (show 513 = pc.toArray.size by rw [List.size_toArray, HL.out])) H1C.out ?_
             have q3 := below_setRow (below_new wr (.cells Tryd.zeroCells76 76)) (Nat.le_refl _) pc.toArray
             generalize (World.setRow (wr.alloc (.cells Tryd.zeroCells76 76)) wr.heap.size pc.toArray) = w8 at q3 ⊢
             have Q3 := Lib.hid q3
             have hcb8 : w8.cell? ⟨bk, bo + k, none⟩ = some (.bool false) := (q3.cell (p := ⟨bk, bo + k, none⟩) hcbb).trans hcb
             clear q3))
        go_roundw
        case rel => exact ⟨k + 1, by omega, by go_num, by rw [HN.out (by trivial)]; exact HOw.out.later Q3.out, HKT.out.trans (KT.of_below Q3.out (Nat.le_refl _))⟩
        case measure => simp [intOf]; omega
      | true =>
        go_wp2_with (first
          | (refine wpList_load_mid rfl 76 (.tmp 22) (by rfl) gp (k * 513) (by rfl) _ _ HRG.out Tryd.underlying76 rfl (by rw [HL.out]; exact infoPen) ?_)
          | (refine wpList_store_row rfl 76 (.tmp 5) (.tmp 23) rfl wr.heap.size pc.toArray (by rfl) (by rfl) 76 _ (Is.new wr _ _) (by rw [List.size_toArray, HL.out]; exact infoPen) (Tryd.zeroCells76_size.trans (show 513 = pc.toArray.size by rw [List.size_toArray, HL.out])) H1C.out ?_
             obtain ⟨q1, q2⟩ := HARM.out _ ((Is.new wr 76 Tryd.zeroCells76).row pc.toArray)
             have q3 := below_setRow (below_new wr (.cells Tryd.zeroCells76 76)) (Nat.le_refl _) pc.toArray
             generalize (World.setRow (wr.alloc (.cells Tryd.zeroCells76 76)) wr.heap.size pc.toArray) = w8 at q1 q2 q3 ⊢
             have Q2 := Lib.hid q2
             have Q3 := Lib.hid q3
             have hcb8 : w8.cell? ⟨bk, bo + k, none⟩ = some (.bool true) := (q3.cell (p := ⟨bk, bo + k, none⟩) hcbb).trans hcb
             have r08 : w8.cell? ⟨d, 0, none⟩ = some (.slice (some ⟨a, 0, none⟩) D.lasts.length cA) := (q3.cell (p := ⟨d, 0, none⟩) r0b).trans r0
             clear q2 q3))
        have hxi0 : (0 : Int) ≤ (xi : Int) := by omega
        have hxi1 : (xi : Int) < (D.lasts.length : Int) := by have := HX.out.1; omega
        have q2 := Q2.out
        have hOw8 := HOw.out.later Q3.out
        have hth : w8.there a (xi * 512) 512 := hOw8.there _ _ (by have := HX.out.1; omega)
        have hu := Tryd.underlying74
        have hcl : (cellsOf8 xb).length = 512 := by rw [cellsOf8_length]; exact HX.out.2
        have hi : (Tryd.prog.info? 74).map (·.size) = some (cellsOf8 xb).length := by rw [hcl]; exact infoSec
        have h1 := cellsOf8_one xb
        have HOw8 := Lib.hid hOw8
        have hda : d ≠ a := fun e => HNE.out e.symm
        have hga : wr.heap.size ≠ a := by have := HOw.out.lt a rfl; omega
        clear hOw8
        go_region_held3 (fun w' => w'.cell? ⟨d, 0, none⟩ = some (.slice (some ⟨a, 0, none⟩) D.lasts.length cA) ∧ w'.cell? ⟨wr.heap.size, 0, none⟩ = some (.int .i64 (xi : Int)) ∧ w'.rangeAt wr.heap.size 1 (cellsOf8 xb) ∧ w'.there a (xi * 512) 512) (first | go_keep_ranges | (go_split_ands; refine ⟨?_, ?_, ?_, ?_⟩; exact (setC_cell _ _ _ _ _ _ hda).trans (by assumption); exact (setC_cell _ _ _ _ _ _ hga).trans (by assumption); exact World.rangeAt_setCells_apart (by assumption) _ _ _ (.inl hga); exact World.there_setCells (by assumption) _ _ _)) (fail)
        have HOq := Lib.hid (show Own (w8.drew.setCells a (xi * 512) (cellsOf8 xb)) base 74 512 (some ⟨a, 0, none⟩) D.lasts.length cA (secC (Dk.kept D.lasts D.pend l (k + 1))) from by
          rw [HY.out (by trivial)]
          have := (show Own w8.drew base 74 512 (some ⟨a, 0, none⟩) D.lasts.length cA (secC (Dk.kept D.lasts D.pend l k)) from HOw8.out).puts (cellsOf8 xb) (xi * 512)
          have e : setList (secC (Dk.kept D.lasts D.pend l k)) (xi * 512) (cellsOf8 xb) = secC ((Dk.kept D.lasts D.pend l k).set xi xb) :=
            flat_set cellsOf8 512 _ (cell8_512 (Dk.kept_512 _ _ _ HO.out.2.2.1 (fun x hx => (HO.out.2.2.2.1 x hx).2) k)) xi (by rw [Dk.kept_length]; exact HX.out.1) xb (by rw [cellsOf8_length]; exact HX.out.2)
          rw [e] at this
          exact this)
        have HKq := Lib.hid (show KT (some a) base [] w (w8.drew.setCells a (xi * 512) (cellsOf8 xb)) from by
          obtain ⟨_, cur, hi8⟩ := HOw8.out.typed a rfl
          exact (HKT.out.trans (KT.of_below Q3.out (Nat.le_refl _))).trans ((KT.drew w8).trans (KT.setCells (w := w8.drew) hi8 hab (.inl rfl) (cellsOf8 xb))))
        clear hu hi h1 hcl q2 hth
        go_wp2_with fail
        go_roundw
        case rel => exact ⟨k + 1, by omega, by go_num, HOq.out, HKq.out⟩
        case measure => simp [intOf]; omega
    · obtain rfl : m = k := by omega
      have e1 := HIr.out.cell 1
      have e2 := HIr.out.cell 2
      have e3 := HIr.out.cell 3
      have e4 := HIr.out.cell 4
      have f1 := HIr.out.free 1
      have f2 := HIr.out.free 2
      have f3 := HIr.out.free 3
      have f4 := HIr.out.free 4
      go_wp2_with fail
      go_end0
      have h1 := HIr.out.put 1 (.slice none 0 0)
      have h2 := h1.put 3 (.slice none 0 0)
      have h3 := h2.put 2 (.int .i64 0)
      have h4 := h3.put 4 (.bool true)
      have k1 := KT.setCell (a := some a) (i := 1) HIr.out hd (.inr (show 60 ∈ diskT by simp [diskT])) (.slice none 0 0)
      have k2 := KT.setCell (a := some a) (i := 3) h1 hd (.inr (show 60 ∈ diskT by simp [diskT])) (.slice none 0 0)
      have k3 := KT.setCell (a := some a) (i := 2) h2 hd (.inr (show 60 ∈ diskT by simp [diskT])) (.int .i64 0)
      have k4 := KT.setCell (a := some a) (i := 4) h3 hd (.inr (show 60 ∈ diskT by simp [diskT])) (.bool true)
      have hK4 := ((k1.trans k2).trans k3).trans k4
      have hcutl : (D.cut l).lasts.length = D.lasts.length := Dk.kept_length _ _ _ _
      refine ⟨rfl, ⟨HO.out.cut l, hd, cA, none, 0, none, 0, wrt, flt, T, tn, ct, tc, ?_, ?_, Own.nil _ _ _ _, .inl rfl, ?_, hn⟩, (HKT.out.mono (fun t ht => by cases ht)).trans hK4⟩
      · rw [hcutl]; exact h4
      · rw [hcutl]
        have e : secC (D.cut l).lasts = secC (Dk.kept D.lasts D.pend l m) := by rw [HMM.out]; rfl
        rw [e]
        have o1 := HOw.out.keeps (S := fun i => i = d) (w2 := (((wr.setCell ⟨d, 1, none⟩ (.slice none 0 0)).setCell ⟨d, 3, none⟩ (.slice none 0 0)).setCell ⟨d, 2, none⟩ (.int .i64 0)).setCell ⟨d, 4, none⟩ (.bool true))
          ⟨rfl, rfl, rfl, hK4.size, fun i _ hi => (heap_setCell_other _ ⟨d, 4, none⟩ i _ hi).trans ((heap_setCell_other _ ⟨d, 2, none⟩ i _ hi).trans ((heap_setCell_other _ ⟨d, 3, none⟩ i _ hi).trans (heap_setCell_other _ ⟨d, 1, none⟩ i _ hi)))⟩
          (fun i hi e => HNE.out (by injection hi with hi; injection hi with hi; omega))
        exact o1
      · exact (HT.out.kt HKT.out (by simp) (fun g hg => ne_a HIA.out (by decide) (HT.out.typed g hg).2)).keeps (S := fun i => i = d)
          ⟨rfl, rfl, rfl, hK4.size, fun i _ hi => (heap_setCell_other _ ⟨d, 4, none⟩ i _ hi).trans ((heap_setCell_other _ ⟨d, 2, none⟩ i _ hi).trans ((heap_setCell_other _ ⟨d, 3, none⟩ i _ hi).trans (heap_setCell_other _ ⟨d, 1, none⟩ i _ hi)))⟩
          (fun i hi e => by
            obtain ⟨_, cur, h5⟩ := HT.out.typed i hi
            rw [e] at h5
            have h6 := h5.symm.trans HI.out
            injection h6 with h6
            injection h6 with _ h6
            exact absurd h6 (by decide))
end Go.Proofs.YtimddchgmocdaaaDoor
