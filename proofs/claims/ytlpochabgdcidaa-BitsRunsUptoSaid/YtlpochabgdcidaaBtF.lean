/-
  WHAT THE DOCUMENT TELLS OF THREE BYTES: fixed.
-/
import Derived.Test.YtlpochabgdcidaaBtI
import Derived.Test.YtlpochabgdcidaaBtS
import Derived.RangeFuncFrom
set_option linter.unusedVariables false
set_option linter.unusedSimpArgs false
namespace Go.Proofs.Ytlpochabgdcidaa
open Go.RowKit Go.Shelf Bt
attribute [local go_sem] Oper.semAt_some run_fnil

def fix3 : List UInt8 := [247, 255, 1]
theorem fix_get : getV fix3 4 = true ∧ getE fix3 4 = 0 := by decide +kernel
theorem fix_cnt : cntV fix3 0 24 = 16 ∧ cntE fix3 0 24 = 0 := by decide +kernel
theorem fix_low : IsLow fix3 0 3 := .inr ⟨3, rfl, by decide, by decide, by decide +kernel, fun j h1 h2 => by
  have : ∀ j : Fin 3, bit fix3 j.val = true := by decide +kernel
  exact this ⟨j, h2⟩⟩
theorem fix_runs : runs fix3 = [(3, 1), (17, 7)] := by decide +kernel
theorem fix_put : putL fix3 3 true = [255, 255, 1] ∧ getE fix3 3 = 0 := by decide +kernel
/-- the number that the loop makes of the rows -/
def fold3 (p : List (Nat × Nat)) : Int := p.foldl (fun s x => wrap64 (wrap64 (wrap64 (100 * s) + (x.1 : Int)) + (x.2 : Int))) 0
theorem fold3_snoc (p : List (Nat × Nat)) (x : Nat × Nat) : fold3 (p ++ [x]) = wrap64 (wrap64 (wrap64 (100 * fold3 p) + (x.1 : Int)) + (x.2 : Int)) := by unfold fold3; rw [List.foldl_append]; rfl

theorem mine_of_is {w : World} {g base : Nat} {l : List UInt8} (h : Is w g 5 (u8s l)) (hg : base ≤ g) (hm : l.length ≤ maxLen) : Mine w base (some ⟨g, 0, none⟩) l.length (l ++ []) := by
  rw [List.append_nil]
  exact ⟨by rw [cellsOf8_length, Nat.mul_one], .inr ⟨g, l.length, u8s l, rfl, hg, h, Nat.le_refl _, hm, by simp [u8s], by rw [Nat.mul_one]; exact List.take_of_length_le (by simp [u8s])⟩⟩

set_option maxRecDepth 100000 in
set_option maxHeartbeats 3200000 in
theorem fixed_any (w : World) : Calls Try.prog 7 #[] w fun e w' => e = .returned (.bool true) ∧ Below w.heap.size w w' := by
  refine (callsIn_wide (n := 4)).1 ?_
  refine callsIn_of_wp_marks Try.func7 rfl trivial ?_ rfl
  simp only [Try.ntmps7, List.size_toArray, List.length_cons, List.length_nil, Nat.reduceAdd, Nat.reduceSub, Array.replicate_succ, Array.replicate_zero, List.push_toArray, List.append_toArray, List.nil_append, List.cons_append]
  obtain ⟨hbn, hin⟩ := one_new w (u8s fix3) 5
  have HI := Lib.hid hin
  have HBn := Lib.hid hbn
  clear hbn hin
  gi_wp2_with (first
    | (refine ⟨trivial, ?_⟩; gi_at_call 14; refine (callsIn_wide.2 (get_any (some ⟨w.heap.size, 0, none⟩) 3 3 fix3 rfl 4 _ (Bytes.of_is HI.out) (by decide))).mono ?_; rintro e w' ⟨rfl, rfl⟩; rw [fix_get.1, fix_get.2])
    | (refine ⟨trivial, ?_⟩; gi_at_call 13; refine (callsIn_wide.2 (count_any (some ⟨w.heap.size, 0, none⟩) 3 3 fix3 rfl 0 24 _ (Bytes.of_is HI.out) (by decide))).mono ?_; rintro e w' ⟨rfl, rfl⟩; rw [fix_cnt.1, fix_cnt.2])
    | (refine ⟨trivial, ?_⟩; gi_at_call 15; refine (callsIn_wide.2 (lowest_r (some ⟨w.heap.size, 0, none⟩) 3 3 fix3 rfl 0 3 fix_low _ (Bytes.of_is HI.out) (by decide) (by decide) (by decide))).mono ?_; rintro e w' ⟨rfl, rfl⟩)
    | (refine ⟨trivial, ?_⟩; gi_at_call 11; refine (callsIn_wide.2 (runs_any (some ⟨w.heap.size, 0, none⟩) 3 3 fix3 rfl _ (Bytes.of_is HI.out) (fun h => by cases h) (by decide))).mono ?_; rintro e w2 ⟨⟨v, rfl, B, A, cap, rfl, hc2, hm2, hB2⟩, hb2⟩))
  have HB := Lib.hid (HBn.out.trans (hb2.mono HBn.out.size))
  have hBlt : B < w2.heap.size := block_lt_of_cell hc2
  have HM := Lib.hid hm2
  have hs2 : w.heap.size < w2.heap.size := by have := hb2.size; have := HI.out.lt; omega
  have HI2 := Lib.hid (HI.out.below hb2 HI.out.lt)
  have hin := Is.new w2 3 #[.int .i64 0]
  have hcn : (w2.alloc (.cells #[.int .i64 0] 3)).cell? ⟨w2.heap.size, 0, none⟩ = some (.int .i64 0) ∧ (w2.alloc (.cells #[.int .i64 0] 3)).frozen? ⟨w2.heap.size, 0, none⟩ = false := ⟨hin.cell 0, hin.free 0⟩
  have hA : ∀ b off, A = some ⟨b, off, none⟩ → b < w2.heap.size := fun b off e => by
    obtain ⟨g, hg, _, h1⟩ := HM.out.form (by decide)
    rw [hg] at e
    injection e with e
    injection e with e
    rw [← e]; exact h1
  refine wpIn_rangeFunc_ownF (n := 4) rfl (by decide) (gf := 23) (lb := #[.pointer (some ⟨B, 0, none⟩)]) rfl trivial (enters_of Try.func23 (by kernel_rfl) rfl)
    (runs_stops 3 (by decide) B w2.heap.size 3 cap A fix3 rfl (by decide) hBlt hA _ (by simp) (((below_new w2 _).cell (p := ⟨B, 0, none⟩) hBlt).trans hc2) (HM.out.later (below_new w2 _)).bytes) belowK_t (belowK_b (by simp)) (Below.refl _ _) (fun _ => rfl)
    (fun pre W => (W.cell? ⟨w2.heap.size, 0, none⟩ = some (.int .i64 (fold3 (pre.map (·.1)))) ∧ W.frozen? ⟨w2.heap.size, 0, none⟩ = false) ∧ Below w2.heap.size w2 W)
    (fun _ _ _ => False)
    (OwnFrom.and (Own.from (fun s A B row hs hg hr => ⟨cell_kept hs.1 hg hr, (frozen_kept hs.1 hg hr).trans hs.2⟩) _) (ownFrom_below (Nat.le_refl _) (by simp)))
    (fun _ _ _ _ _ hs _ _ => hs)
    ⟨⟨hcn.1, hcn.2⟩, below_new w2 _⟩
    ?a₁ ?assign ?body ?done ?stop
  case assign =>
    intro l x W K hK
    unfold rowArgs
    gi_wp2
    exact hK
  case body =>
    rintro l pre x W ⟨⟨hc, hf⟩, hB⟩ _
    gi_wp2
    refine ⟨KeepsOthers.setCell _ _ _, (Below.refl w2.heap.size W).setCell (p := ⟨w2.heap.size, 0, none⟩) (Nat.le_refl _) _, ⟨?_, by rw [World.frozen?_setCell]; exact hf⟩, hB.setCell (p := ⟨w2.heap.size, 0, none⟩) (Nat.le_refl _) _⟩
    rw [List.map_append, List.map_cons, List.map_nil, fold3_snoc]
    exact World.cell?_setCell_same' _ _ _ (by rw [hc]; rfl)
  case done =>
    rintro D ys W hD hys ⟨⟨hc, _⟩, hB⟩ hK
    rw [hys, fix_runs] at hc
    rw [show fold3 [(3, 1), (17, 7)] = 424 by decide +kernel] at hc
    have hM3 : Mine W w.heap.size (some ⟨w.heap.size, 0, none⟩) 3 (fix3 ++ []) := mine_of_is (HI2.out.below hB (by omega)) (Nat.le_refl _) (by decide)
    have hD2 : w2.heap.size + 1 ≤ D := by simp at hD; exact hD
    have HK := Lib.hid hK
    have HM3 := Lib.hid hM3
    have HBW := Lib.hid hB
    clear hK hM3 hB hys
    gi_wp2
    refine ⟨trivial, ?_⟩
    refine (callsIn_wide.2 (put_any w.heap.size (some ⟨w.heap.size, 0, none⟩) 3 3 fix3 [] rfl 3 true _ HM3.out (by decide))).mono ?_
    rintro e w4 ⟨rfl, hM4, hk4⟩
    rw [fix_put.2]
    rw [fix_put.1] at hM4
    have hof : ∀ i, Of (some ⟨w.heap.size, 0, none⟩) i → i = w.heap.size := fun i h => by
      injection h with h
      injection h with h
      exact h.symm
    have hc4 : w4.cell? ⟨w2.heap.size, 0, none⟩ = some (.int .i64 424) := ((World.cell?_of_block (a := ⟨w2.heap.size, 0, none⟩) (hk4.block w2.heap.size (block_lt_of_cell hc) (fun h => by have := hof _ h; omega))).trans hc)
    have hc5 : w4.cell? ⟨w.heap.size, 0, none⟩ = some (.int .u8 (n8 255)) := hM4.cell (k := 0) (by decide)
    have HD4 := Lib.hid ((hk4.block D (Array.getElem?_eq_some_iff.1 HK.out).1 (fun h => by have := hof _ h; omega)).trans HK.out)
    have HB4 := Lib.hid (((HB.out.trans (HBW.out.mono (Nat.le_of_lt hs2)))).trans (hk4.below (by have := HBW.out.size; omega) (fun i h => by have := hof _ h; omega)))
    have h255 : (n8 255 == 255) = true := by decide
    clear hM4 hk4 hof
    gi_wp2
    refine ⟨by simp, .inl ⟨_, _, rfl, run_takeDeferred HD4.out, ?_⟩⟩
    exact ⟨_, results_tmp rfl _ _ _, rfl, HB4.out.trans (belowK_b (w := w) (Nat.le_refl _) w4 D _ _ (by omega) HD4.out rfl rfl)⟩
  case stop =>
    rintro D c pre W _ _ h _
    exact h.elim
end Go.Proofs.Ytlpochabgdcidaa
