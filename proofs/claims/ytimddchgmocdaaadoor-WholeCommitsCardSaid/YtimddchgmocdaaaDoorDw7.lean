/-
  THE WALKS OF A DISK's CALLS (7): Flush.
-/
import Derived.Test.YtimddchgmocdaaaDoorDw6
set_option linter.unusedVariables false
set_option linter.unusedSimpArgs false
namespace Go.Proofs.YtimddchgmocdaaaDoor
open Go.RowKit

attribute [local go_sem ↓] ex_at_zero ex_at_succ exec_pen exec_bsl exec_secLoad
def Dk.flushed (D : Dk) : Dk := { D with lasts := Dk.puts D.lasts D.pend, pend := [], n := D.n + 1 }
theorem puts_next (D : Dk) (k : Nat) (hk : k < D.pend.length) : Dk.puts D.lasts (D.pend.take (k + 1)) = (Dk.puts D.lasts (D.pend.take k)).set D.pend[k].1 D.pend[k].2 := by
  rw [take_snoc D.pend k hk, Dk.puts_snoc]
theorem puts_take_512 {D : Dk} (h : D.Ok) (k : Nat) : (∀ b ∈ Dk.puts D.lasts (D.pend.take k), b.length = 512) ∧ (Dk.puts D.lasts (D.pend.take k)).length = D.lasts.length :=
  ⟨Dk.puts_512 _ _ h.2.2.1 (fun x hx => (h.2.2.2.1 x (List.mem_of_mem_take hx)).2), Dk.puts_length _ _⟩
theorem Dk.Ok.flushed {D : Dk} (h : D.Ok) : D.flushed.Ok := by
  obtain ⟨h1, h2, h3, h4, h5, h6⟩ := h
  refine ⟨?_, ?_, Dk.puts_512 _ _ h3 (fun x hx => (h4 x hx).2), (fun x hx => by cases hx), Nat.zero_le _, h6⟩
  · show 1 ≤ (Dk.puts D.lasts D.pend).length; rw [Dk.puts_length]; exact h1
  · show (Dk.puts D.lasts D.pend).length ≤ _; rw [Dk.puts_length]; exact h2
theorem is_ne {w : World} {g h : Nat} {t u : TypeId} {cs ds : Array Value} (hg : Is w g t cs) (hh : Is w h u ds) (hn : t ≠ u) : g ≠ h := fun e => by
  subst e
  have h6 := hg.symm.trans hh
  injection h6 with h6
  injection h6 with _ h6
  exact hn h6

set_option maxRecDepth 100000 in
set_option maxHeartbeats 3200000 in
theorem dflush1_any (base a d bx : Nat) (D : Dk) (w : World) (h : DiskAt w base a d D) (hbx : Is w bx 24 #[.pointer (some ⟨d, 0, none⟩)]) (hn0 : D.n ≤ 1000000) :
    Calls Tryd.prog 71 #[.pointer (some ⟨bx, 0, none⟩)] w fun e w' => e = .returned (.tuple #[]) ∧ DiskAt w' base a d D.flushed ∧ KT (some a) base diskT w w' := by
  obtain ⟨hane, hab, hisA⟩ := h.a_ne
  have HNE := Lib.hid hane
  have HIA := Lib.hid hisA
  have HB := Lib.hid hbx
  have HN0 := Lib.hid hn0
  have HD := Lib.hid h
  obtain ⟨hO, hd, cA, P, cp, K, ck, wrt, flt, T, tn, ct, tc, hI, hA, hP, hK, hT, hn⟩ := h
  obtain ⟨c0, c1, c2, c3, c4, c5, c6, c7⟩ := dcells hI
  have hbd : bx ≠ d := is_ne hbx hI (by decide)
  have hba : bx ≠ a := by obtain ⟨cur, hi⟩ := hisA; exact is_ne hbx hi (by decide)
  have HBD := Lib.hid hbd
  have HBA := Lib.hid hba
  have b0 := hbx.cell 0
  have HO := Lib.hid hO
  have HP := Lib.hid hP
  have HI := Lib.hid hI
  have HA := Lib.hid hA
  have HK := Lib.hid hK
  have HT := Lib.hid hT
  have HTN := Lib.hid hn
  have hpl : D.pend.length ≤ 1000000 := by have := hO.2.2.2.2.1; omega
  clear hO hA hP hK hT hI hane hisA hn hbd hba hbx hn0 c2 c3 c4 c5 c6
  go_enter Tryd.func71, Tryd.ntmps71
  go_wp2_with fail
  go_loopw [8] (fun i' wr => ∃ k : Nat, k ≤ D.pend.length ∧ i' = .int .i64 k ∧ Own wr base 74 512 (some ⟨a, 0, none⟩) D.lasts.length cA (secC (Dk.puts D.lasts (D.pend.take k))) ∧ KT (some a) base [] w wr) (fun i' _ => D.pend.length - (intOf i').toNat)
  case atStart => exact ⟨0, Nat.zero_le _, rfl, HA.out, KT.refl _ _ _ _⟩
  case round =>
    obtain ⟨k, hk, rfl, hOw, hKT⟩ := hrel
    have HOw := Lib.hid hOw
    have HKT := Lib.hid hKT
    have hIr := HI.out.kt hKT (.inr ⟨ne_a HIA.out (by decide) ⟨_, HI.out⟩, by simp⟩)
    have hBr := HB.out.kt hKT (.inr ⟨ne_a HIA.out (by decide) ⟨_, HB.out⟩, by simp⟩)
    have hPr := HP.out.kt hKT (by simp) (fun g hg => ne_a HIA.out (by decide) (HP.out.typed g hg).2)
    obtain ⟨r0, r1, r2, r3, r4, r5, r6, r7⟩ := dcells hIr
    have rb := hBr.cell 0
    have HIr := Lib.hid hIr
    have HPr := Lib.hid hPr
    have HBr := Lib.hid hBr
    have hsr := hKT.size
    by_cases hlt : k < D.pend.length
    · clear hOw hKT hIr hPr hBr r2 r3 r4 r5 r6 r7
      have hk0 : (k : Int) < (D.pend.length : Int) := by omega
      have hk1 : (0 : Int) ≤ (k : Int) := by omega
      obtain ⟨gp, hgp, _, _⟩ := HPr.out.form (by omega)
      subst hgp
      obtain ⟨hrg, hl513⟩ := pen_range HO.out HPr.out hlt
      have hx := HO.out.2.2.2.1 _ (List.getElem_mem hlt)
      have harm : ∀ w8, Is w8 wr.heap.size 76 (penCell D.pend[k]).toArray → w8.cell? ⟨wr.heap.size, 0, none⟩ = some (.int .i64 (D.pend[k].1 : Int)) ∧ w8.rangeAt wr.heap.size 1 (cellsOf8 D.pend[k].2) := fun w8 h1 => ⟨h1.cell 0, fun j v hv => by rw [h1.cell (1 + j)]; simp [penCell, Nat.add_comm 1 j]; exact hv⟩
      have h1c : (penCell D.pend[k]).toArray.all (·.oneCell') = true := all_oneCell_toArray (penCell_one _)
      have hyes := puts_next D k hlt
      obtain ⟨pc, hpe⟩ : ∃ pc, penCell D.pend[k] = pc := ⟨_, rfl⟩
      obtain ⟨xi, hxi⟩ : ∃ xi, D.pend[k].1 = xi := ⟨_, rfl⟩
      obtain ⟨xb, hxb⟩ : ∃ xb, D.pend[k].2 = xb := ⟨_, rfl⟩
      rw [hpe] at hrg hl513 harm h1c
      rw [hxi, hxb] at harm hyes hx
      have H1C := Lib.hid h1c
      have HARM := Lib.hid harm
      have HRG := Lib.hid hrg
      have HL := Lib.hid hl513
      have HY := Lib.hid hyes
      have HX := Lib.hid hx
      have r0b := block_lt_of_cell r0
      have rbb := block_lt_of_cell rb
      clear hrg hl513 hpe harm h1c hlt hxi hxb hyes hx
      go_wp2_with (first
          | (refine wpList_load_mid rfl 76 (.tmp 10) (by rfl) gp (k * 513) (by rfl) _ _ HRG.out Tryd.underlying76 rfl (by rw [HL.out]; exact infoPen) ?_)
          | (refine wpList_store_row rfl 76 (.tmp 2) (.tmp 11) rfl wr.heap.size pc.toArray (by rfl) (by rfl) 76 _ (Is.new wr _ _) (by rw [List.size_toArray, HL.out]; exact infoPen) (Tryd.zeroCells76_size.trans (show 513 = pc.toArray.size by rw [List.size_toArray, HL.out])) H1C.out ?_
             obtain ⟨q1, q2⟩ := HARM.out _ ((Is.new wr 76 Tryd.zeroCells76).row pc.toArray)
             have q3 := below_setRow (below_new wr (.cells Tryd.zeroCells76 76)) (Nat.le_refl _) pc.toArray
             generalize (World.setRow (wr.alloc (.cells Tryd.zeroCells76 76)) wr.heap.size pc.toArray) = w8 at q1 q2 q3 ⊢
             have Q2 := Lib.hid q2
             have Q3 := Lib.hid q3
             have rb8 : w8.cell? ⟨bx, 0, none⟩ = some (.pointer (some ⟨d, 0, none⟩)) := (q3.cell (p := ⟨bx, 0, none⟩) rbb).trans rb
             have r08 : w8.cell? ⟨d, 0, none⟩ = some (.slice (some ⟨a, 0, none⟩) D.lasts.length cA) := (q3.cell (p := ⟨d, 0, none⟩) r0b).trans r0
             clear q2 q3))
      have hxi0 : (0 : Int) ≤ (xi : Int) := by omega
      have hxi1 : (xi : Int) < (D.lasts.length : Int) := by have := HX.out.1; omega
      have q2 := Q2.out
      have hOw8 := HOw.out.later Q3.out
      have hth : w8.there a (xi * 512) 512 := hOw8.there _ _ (by have := HX.out.1; omega)
      have hu := Tryd.underlying74
      have hcl : (cellsOf8 xb).length = 512 := by rw [cellsOf8_length]; exact HX.out.2
      have hi : (Tryd.prog.info? 74).map (·.size) = some (cellsOf8 xb).length := by rw [hcl]; exact infoSec
      have h1 := cellsOf8_one xb
      have HOw8 := Lib.hid hOw8
      have hda : d ≠ a := fun e => HNE.out e.symm
      have hba : bx ≠ a := HBA.out
      have hga : wr.heap.size ≠ a := by have := HOw.out.lt a rfl; omega
      clear hOw8
      go_region_held3 (fun w' => w'.cell? ⟨d, 0, none⟩ = some (.slice (some ⟨a, 0, none⟩) D.lasts.length cA) ∧ w'.cell? ⟨bx, 0, none⟩ = some (.pointer (some ⟨d, 0, none⟩)) ∧ w'.cell? ⟨wr.heap.size, 0, none⟩ = some (.int .i64 (xi : Int)) ∧ w'.rangeAt wr.heap.size 1 (cellsOf8 xb) ∧ w'.there a (xi * 512) 512) (first | go_keep_ranges | (go_split_ands; refine ⟨?_, ?_, ?_, ?_, ?_⟩; exact (setC_cell _ _ _ _ _ _ hda).trans (by assumption); exact (setC_cell _ _ _ _ _ _ hba).trans (by assumption); exact (setC_cell _ _ _ _ _ _ hga).trans (by assumption); exact World.rangeAt_setCells_apart (by assumption) _ _ _ (.inl hga); exact World.there_setCells (by assumption) _ _ _)) (fail)
      have HOq := Lib.hid (show Own (w8.drew.setCells a (xi * 512) (cellsOf8 xb)) base 74 512 (some ⟨a, 0, none⟩) D.lasts.length cA (secC (Dk.puts D.lasts (D.pend.take (k + 1)))) from by
        rw [HY.out]
        have := (show Own w8.drew base 74 512 (some ⟨a, 0, none⟩) D.lasts.length cA (secC (Dk.puts D.lasts (D.pend.take k))) from HOw8.out).puts (cellsOf8 xb) (xi * 512)
        have e : setList (secC (Dk.puts D.lasts (D.pend.take k))) (xi * 512) (cellsOf8 xb) = secC ((Dk.puts D.lasts (D.pend.take k)).set xi xb) :=
          flat_set cellsOf8 512 _ (cell8_512 (puts_take_512 HO.out k).1) xi (by rw [(puts_take_512 HO.out k).2]; exact HX.out.1) xb (by rw [cellsOf8_length]; exact HX.out.2)
        rw [e] at this
        exact this)
      have HKq := Lib.hid (show KT (some a) base [] w (w8.drew.setCells a (xi * 512) (cellsOf8 xb)) from by
        obtain ⟨_, cur, hi8⟩ := HOw8.out.typed a rfl
        exact (HKT.out.trans (KT.of_below Q3.out (Nat.le_refl _))).trans ((KT.drew w8).trans (KT.setCells (w := w8.drew) hi8 hab (.inl rfl) (cellsOf8 xb))))
      clear hu hi h1 hcl q2 hth
      go_wp2_with fail
      go_roundw
      case rel => exact ⟨k + 1, by omega, by go_num, HOq.out, HKq.out⟩
      case measure => simp [intOf]; omega
    · obtain rfl : D.pend.length = k := by omega
      have hKr := HK.out.kt hKT (by simp) (fun b e ⟨cs, t, f, q1, q2⟩ => by
        injection e with e
        subst e
        obtain ⟨cur, hi⟩ := HIA.out
        rw [show w.heap[a]? = _ from hi] at q1
        injection q1 with q1
        injection q1 with _ q1
        simp at q2
        rw [q2] at q1
        exact absurd q1 (by decide))
      have hTr := HT.out.kt hKT (by simp) (fun g hg => ne_a HIA.out (by decide) (HT.out.typed g hg).2)
      have e1 := hIr.free 1
      have hall : D.pend.take D.pend.length = D.pend := List.take_length
      rw [hall] at hOw
      have hI1 := hIr.put 1 (.slice none 0 0)
      have k1 := KT.setCell (a := some a) (i := 1) hIr hd (.inr (show 60 ∈ diskT by simp [diskT])) (.slice none 0 0)
      have hraw : DiskRaw (wr.setCell ⟨d, 1, none⟩ (.slice none 0 0)) base a d { D with lasts := Dk.puts D.lasts D.pend, pend := [] } := by
        refine ⟨hd, cA, none, 0, K, ck, wrt, flt, T, tn, ct, tc, ?_, ?_, Own.nil _ _ _ _, hKr.putD hIr hd _ _, hTr.putD hIr (by decide) _ _, HTN.out⟩
        · show Is _ d _ #[.slice (some ⟨a, 0, none⟩) (Dk.puts D.lasts D.pend).length cA, _, _, _, _, _, _, _]
          rw [Dk.puts_length]; exact hI1
        · show Own _ base _ 512 _ (Dk.puts D.lasts D.pend).length cA _
          rw [Dk.puts_length]; exact hOw.putD hIr (by decide) _ _
      have hk2 : KT (some a) base diskT w (wr.setCell ⟨d, 1, none⟩ (.slice none 0 0)) := (hKT.mono (fun t ht => by cases ht)).trans k1
      have hB2 := hBr.kt (KT.setCell (a := some d) (i := 1) (Ts := []) hIr hd (.inl rfl) (.slice none 0 0)) (.inr ⟨(fun e => HBD.out (by injection e)), by simp⟩)
      have HRAW := Lib.hid hraw
      have HK2 := Lib.hid hk2
      have HB2 := Lib.hid hB2
      have rb2 := hB2.cell 0
      have c7' := hI1.cell 7
      have f7' := hI1.free 7
      have HI1 := Lib.hid hI1
      have HT1 := Lib.hid (hTr.putD hIr (by decide) 1 (.slice none 0 0))
      clear hOw hKT hIr hPr hBr hKr hTr hI1 k1 hraw hk2 hB2 r2 r3 r4 r5 r6 r7 r0
      go_upto_region 6 with fail
      generalize (wr.setCell ⟨d, 1, none⟩ (.slice none 0 0)) = wd at *
      obtain ⟨i1, hi1', hy0, hy1, hy2⟩ := info_parts infoAct
      have HI1' := Lib.hid hi1'
      have HY0 := Lib.hid hy0
      have HY1 := Lib.hid hy1
      have HY2 := Lib.hid hy2
      have HDT := Lib.hid (show some d ≠ (Value.slice T tn ct).ownBlock from fun e => by
        rcases HT1.out.shape with h0 | ⟨g, h0⟩
        · rw [h0] at e; cases e
        · obtain ⟨_, cur, hi5⟩ := HT1.out.typed g h0
          rw [h0] at e
          injection e with e
          have e : d = g := e
          subst e
          have h6 := hi5.symm.trans HI1.out
          injection h6 with h6
          injection h6 with _ h6
          exact absurd h6 (by decide))
      have HBT := Lib.hid (show some bx ≠ (Value.slice T tn ct).ownBlock from fun e => by
        rcases HT1.out.shape with h0 | ⟨g, h0⟩
        · rw [h0] at e; cases e
        · obtain ⟨_, cur, hi5⟩ := HT1.out.typed g h0
          rw [h0] at e
          injection e with e
          have e : bx = g := e
          subst e
          exact is_ne hi5 HB2.out (by decide) rfl)
      have htn : tn ≤ 1000000 := by have := HTN.out; have := HN0.out; omega
      have c76 : (wd.alloc (.cells #[.int .i64 2, .int .i64 0, .slice none 0 0] 121)).cell? ⟨d, 7, none⟩ = some (.slice T tn ct) := ((below_new wd (.cells #[.int .i64 2, .int .i64 0, .slice none 0 0] 121)).cell (p := ⟨d, 7, none⟩) HI1.out.lt).trans c7'
      have cb6 : (wd.alloc (.cells #[.int .i64 2, .int .i64 0, .slice none 0 0] 121)).cell? ⟨bx, 0, none⟩ = some (.pointer (some ⟨d, 0, none⟩)) := ((below_new wd (.cells #[.int .i64 2, .int .i64 0, .slice none 0 0] 121)).cell (p := ⟨bx, 0, none⟩) HB2.out.lt).trans rb2
      have HOA := Lib.hid (HT1.out.later (below_new wd (.cells #[.int .i64 2, .int .i64 0, .slice none 0 0] 121)))
      have hbs : base ≤ wd.heap.size := by have q : d < wd.heap.size := HI1.out.lt; omega
      clear hi1' hy0 hy1 hy2
      go_region_law (
           refine step_append_lies _ (by rfl) _ _ _ (by rfl) base 121 i1 (.agg #[.int .i64 0, .int .i64 0, .slice none 0 0]) 3 40 Tryd.underlying58 HI1'.out HY0.out HY1.out HY2.out rfl (by omega) (.slice T tn ct) tn tc (by simp [Act.eval, Act.put]) (show World.ownsRow (wd.alloc (.cells #[.int .i64 2, .int .i64 0, .slice none 0 0] 121)).drew base 121 3 (.slice T tn ct) tn tc from HOA.out) ⟨wd.heap.size, 0, none⟩ 1 1 [.int .i64 2, .int .i64 0, .slice none 0 0] (by simp [Act.eval, Act.put]) (by rfl) (by have := World.news_of_block (w := wd.alloc (.cells #[.int .i64 2, .int .i64 0, .slice none 0 0] 121)) (B := wd.heap.size) (cs := #[.int .i64 2, .int .i64 0, .slice none 0 0]) (t := 121) (fr := (0, 0)) (heap_alloc_new wd _); exact this) (by simp [Value.oneCell']) (by omega) (by simp only [maxLen]; omega) (by omega) (by simp; omega) (wd.heap.size + 1) (by simp) ?_
           intro gg cap2 w1 hown1 hgrow hat hlt
           have hdl : d < (wd.alloc (.cells #[.int .i64 2, .int .i64 0, .slice none 0 0] 121)).heap.size := by rw [World.size_alloc]; have q : d < wd.heap.size := HI1.out.lt; omega
           have hbl : bx < (wd.alloc (.cells #[.int .i64 2, .int .i64 0, .slice none 0 0] 121)).heap.size := by rw [World.size_alloc]; have q : bx < wd.heap.size := HB2.out.lt; omega
           have c1' : w1.cell? ⟨d, 7, none⟩ = some (.slice T tn ct) := (hgrow.cell_far ⟨d, 7, none⟩ hdl HDT.out).trans c76
           have cb' : w1.cell? ⟨bx, 0, none⟩ = some (.pointer (some ⟨d, 0, none⟩)) := (hgrow.cell_far ⟨bx, 0, none⟩ hbl HBT.out).trans cb6
           have f1' : w1.frozen? ⟨d, 7, none⟩ = false := (hgrow.frozen_far ⟨d, 7, none⟩ hdl HDT.out).trans (((below_new wd _).frozen (p := ⟨d, 7, none⟩) HI1.out.lt).trans f7'))
      all_goals (have hgrow' : World.grownBy (wd.alloc (.cells #[.int .i64 2, .int .i64 0, .slice none 0 0] 121)).drew w1 (Value.slice T tn ct).ownBlock := hgrow)
      all_goals (obtain ⟨fin1, fin2⟩ := taped_at (below_new wd (.cells #[.int .i64 2, .int .i64 0, .slice none 0 0] 121)).drew HRAW.out c7' HT1.out HTN.out hown1 hgrow')
      all_goals go_wp2_with fail
      all_goals go_end0
      all_goals exact ⟨rfl, fin1.at_ HO.out.flushed, HK2.out.trans fin2⟩
end Go.Proofs.YtimddchgmocdaaaDoor
