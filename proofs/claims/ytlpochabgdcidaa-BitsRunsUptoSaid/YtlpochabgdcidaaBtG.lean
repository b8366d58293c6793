/-
  THE WALK OF goes: an iterator gone through, up to so many rows.
-/
import Derived.Test.YtlpochabgdcidaaBtF
import Derived.Test.YtlpochabgdcidaaBtO
import Derived.ChangeKeysEq
set_option linter.unusedVariables false
set_option linter.unusedSimpArgs false
namespace Go.Proofs.Ytlpochabgdcidaa
open Go.RowKit Go.Shelf Bt
attribute [local go_sem] Oper.semAt_some run_fnil

theorem run_equal_int (w : World) (d : Nat) (a b : Int) : (Op.equalIn (d + 1) 3 (.int .i64 a) (.int .i64 b)).run Try.prog w = .ok (a == b) w := by
  simp [Op.equalIn, go_sem, run_underlying Try.underlying3]
theorem part_pair (w : World) (a b : Int) : (part 3 #[.int .i64 a, .int .i64 b] 0).run Try.prog w = .ok (.int .i64 a) w ∧ (part 3 #[.int .i64 a, .int .i64 b] 1).run Try.prog w = .ok (.int .i64 b) w := by
  constructor <;> simp [part, go_sem]
theorem cellsInt1 : Try.prog.cellsOf 3 = 1 := by kernel_rfl
theorem run_equal_pair (w : World) (a b c e : Int) : (Op.equalIn 10000 36 (.agg #[.int .i64 a, .int .i64 b]) (.agg #[.int .i64 c, .int .i64 e])).run Try.prog w = .ok (a == c && b == e) w := by
  obtain ⟨i, hi, _⟩ := info_parts infoNum
  show (Op.equalIn (9999 + 1) 36 _ _).run Try.prog w = _
  rw [run_equalIn_array w 9999 _ _ Try.underlying36 hi, cellsInt1]
  have e1 := run_equal_int w 9998 a c
  have e2 := run_equal_int w 9998 b e
  simp [Op.eqItems, part_pair, List.range, List.range.loop, e1, e2]
  by_cases h1 : a = c <;> by_cases h2 : b = e <;> simp [h1, h2]
/-- the cells of goes -/
def Gc (w : World) (P : Option Addr) (rl cp : Nat) (most nn : Int) (W : World) : Prop :=
  (W.cell? ⟨w.heap.size, 0, none⟩ = some (.slice P rl cp) ∧ W.cell? ⟨w.heap.size + 1, 0, none⟩ = some (.int .i64 most) ∧ W.cell? ⟨w.heap.size + 1 + 1, 0, none⟩ = some (.bool false) ∧ W.cell? ⟨w.heap.size + 1 + 1 + 1, 0, none⟩ = some (.int .i64 nn)) ∧
    (W.frozen? ⟨w.heap.size + 1 + 1, 0, none⟩ = false ∧ W.frozen? ⟨w.heap.size + 1 + 1 + 1, 0, none⟩ = false) ∧ Below w.heap.size w W
theorem gc_own {β : Type} {w : World} {P : Option Addr} {rl cp B : Nat} {most : Int} (f : β → Int) (hB : w.heap.size ≤ B) : OwnFrom B (fun (s : β) W => Gc w P rl cp most (f s) W) := by
  rintro s X Y row ⟨⟨h1, h2, h3, h4⟩, ⟨f1, f2⟩, hb⟩ hg hr
  have hr' : ∀ r, row = some r → ∃ o : Obj, X.heap[r]? = some o ∧ o.isCells = false := fun r e => (hr r e).2
  exact ⟨⟨cell_kept h1 hg hr', cell_kept h2 hg hr', cell_kept h3 hg hr', cell_kept h4 hg hr'⟩, ⟨(frozen_kept h3 hg hr').trans f1, (frozen_kept h4 hg hr').trans f2⟩,
    (ownFrom_below (β := Unit) (Nat.le_refl _) hB) () X Y row hb hg hr⟩
theorem gset_other (W : World) (p : Addr) (v : Value) (q : Addr) (h : q.block ≠ p.block) : (W.setCell p v).cell? q = W.cell? q := World.cell?_of_block (heap_setCell_other W p q.block v h)
theorem gc_put {w W : World} {P : Option Addr} {rl cp : Nat} {most nn : Int} (h : Gc w P rl cp most nn W) (v : Int) : Gc w P rl cp most v (W.setCell ⟨w.heap.size + 1 + 1 + 1, 0, none⟩ (.int .i64 v)) := by
  obtain ⟨⟨h1, h2, h3, h4⟩, ⟨f1, f2⟩, hb⟩ := h
  refine ⟨⟨(gset_other W _ _ _ (by show w.heap.size ≠ w.heap.size + 1 + 1 + 1; omega)).trans h1, (gset_other W _ _ _ (by show w.heap.size + 1 ≠ w.heap.size + 1 + 1 + 1; omega)).trans h2, (gset_other W _ _ _ (by show w.heap.size + 1 + 1 ≠ w.heap.size + 1 + 1 + 1; omega)).trans h3, World.cell?_setCell_same' _ _ _ (by rw [h4]; rfl)⟩, ⟨?_, ?_⟩, hb.setCell (p := ⟨w.heap.size + 1 + 1 + 1, 0, none⟩) (by show w.heap.size ≤ w.heap.size + 1 + 1 + 1; omega) _⟩ <;> rw [World.frozen?_setCell] <;> assumption
theorem prefix_at {α : Type} {p r : List α} {x : α} (h : p ++ [x] <+: r) (hk : p.length < r.length) : r[p.length] = x := by
  obtain ⟨q, rfl⟩ := h
  simp

set_option maxRecDepth 100000 in
set_option maxHeartbeats 4000000 in
theorem goes_any (most : Int) (B len cap : Nat) (A : Option Addr) (l : List UInt8) (hlen : l.length = len) (base : Nat) (P : Option Addr) (cp rl : Nat) (hrl : (runs l).length = rl) (w : World) (hm : len ≤ 1048576)
    (hcB : w.cell? ⟨B, 0, none⟩ = some (.slice A len cap)) (hb : Bytes w A l) (hA : ∀ b off, A = some ⟨b, off, none⟩ → b < w.heap.size) (hP : Prs w base P cp (runs l)) :
    Calls Try.prog 12 #[.func (.func 23) #[] #[.pointer (some ⟨B, 0, none⟩)], .slice P rl cp, .int .i64 most] w fun e w' => e = .returned (.bool true) ∧ Below w.heap.size w w' := by
  have hrl8 : rl ≤ 8388608 := by rw [← hrl]; have := rows_length l (8 * l.length); unfold runs; omega
  have HL := Lib.hid hlen
  have HRL := Lib.hid hrl
  have HB := Lib.hid hb
  have HAd := Lib.hid hA
  have HP := Lib.hid hP
  have hBlt : B < w.heap.size := block_lt_of_cell hcB
  have HcB := Lib.hid hcB
  clear hlen hrl hb hA hP hcB
  refine (callsIn_wide (n := 6)).1 ?_
  refine callsIn_of_wp_marks Try.func12 rfl trivial ?_ rfl
  simp only [Try.ntmps12, List.size_toArray, List.length_cons, List.length_nil, Nat.reduceAdd, Nat.reduceSub, Array.replicate_succ, Array.replicate_zero, List.push_toArray, List.append_toArray, List.nil_append, List.cons_append]
  obtain ⟨hb2, i0, i1⟩ := two_new w #[.slice P rl cp] #[.int .i64 most] 30 3
  obtain ⟨hb4, i2, i3⟩ := two_new ((w.alloc (.cells #[.slice P rl cp] 30)).alloc (.cells #[.int .i64 most] 3)) #[.bool false] #[.int .i64 0] 4 3
  have j0 := (i0.alloc (.cells #[.bool false] 4)).alloc (.cells #[.int .i64 0] 3)
  have j1 := (i1.alloc (.cells #[.bool false] 4)).alloc (.cells #[.int .i64 0] 3)
  rw [World.size_alloc, World.size_alloc] at i2 i3
  have hb : Below w.heap.size w ((((w.alloc (.cells #[.slice P rl cp] 30)).alloc (.cells #[.int .i64 most] 3)).alloc (.cells #[.bool false] 4)).alloc (.cells #[.int .i64 0] 3)) := hb2.trans (hb4.mono hb2.size)
  have hsz : w.heap.size + 4 = ((((w.alloc (.cells #[.slice P rl cp] 30)).alloc (.cells #[.int .i64 most] 3)).alloc (.cells #[.bool false] 4)).alloc (.cells #[.int .i64 0] 3)).heap.size := by simp
  have hG : Gc w P rl cp most 0 ((((w.alloc (.cells #[.slice P rl cp] 30)).alloc (.cells #[.int .i64 most] 3)).alloc (.cells #[.bool false] 4)).alloc (.cells #[.int .i64 0] 3)) :=
    ⟨⟨j0.cell 0, j1.cell 0, i2.cell 0, i3.cell 0⟩, ⟨i2.free 0, i3.free 0⟩, hb⟩
  have HG := Lib.hid hG
  have HBB := Lib.hid hb
  clear hb2 hb4 i0 i1 i2 i3 j0 j1 hG hb
  gi_wp2
  generalize ((((w.alloc (.cells #[.slice P rl cp] 30)).alloc (.cells #[.int .i64 most] 3)).alloc (.cells #[.bool false] 4)).alloc (.cells #[.int .i64 0] 3)) = W0 at HG HBB hsz ⊢
  refine wpIn_rangeFunc_ownF (n := 6) (w0 := W0) rfl (by decide) (gf := 23) (lb := #[.pointer (some ⟨B, 0, none⟩)]) rfl trivial (enters_of Try.func23 (by kernel_rfl) rfl)
    (runs_stops 5 (by decide) B w.heap.size len cap A l HL.out (by omega) hBlt HAd.out W0 (by omega) ((HBB.out.cell (p := ⟨B, 0, none⟩) hBlt).trans HcB.out) (HB.out.later HBB.out)) belowK_t (belowK_b (by omega)) (Below.refl _ _) (fun _ => rfl)
    (fun pre W => Gc w P rl cp most ((pre.length : Nat) : Int) W) (fun c pre W => (c = .ret ∧ ¬ (pre.map (·.1) <+: runs l)) ∨ (c = .exit 0 ∧ Gc w P rl cp most most W)) (gc_own (fun pre : List (RowOf l) => ((pre.length : Nat) : Int)) (by omega)) ?hIx HG.out
    ?a₁ ?assign ?body ?done ?stop
  case hIx =>
    intro c s X Y row hs hg hr
    rcases hs with hs | ⟨hs, hG⟩
    · exact .inl hs
    · exact .inr ⟨hs, gc_own (β := Unit) (fun _ => most) (by omega) () X Y row hG hg hr⟩
  case assign =>
    intro r x W K hK
    unfold rowArgs
    gi_wp2
    exact hK
  case body =>
    rintro r pre ⟨⟨a, k⟩, hrow⟩ W hG hlt
    rw [HRL.out] at hlt
    have HG := Lib.hid hG
    obtain ⟨⟨c0, c1, c2, c3⟩, ⟨f2, f3⟩, hB⟩ := hG
    obtain ⟨q, hq⟩ : ∃ q, pre.length = q := ⟨_, rfl⟩
    rw [hq] at hlt c3
    have hql : q < (runs l).length := by rw [HRL.out]; exact hlt
    obtain ⟨gp, rfl, p0, p1, _⟩ := (HP.out.later HBB.out |> fun h => HP.out.later hB).cell hql
    obtain ⟨xa, hxa⟩ : ∃ xa, (runs l)[q].1 = xa := ⟨_, rfl⟩
    obtain ⟨xk, hxk⟩ : ∃ xk, (runs l)[q].2 = xk := ⟨_, rfl⟩
    rw [hxa] at p0
    rw [hxk] at p1
    have HX := Lib.hid (show ((pre ++ [(⟨(a, k), hrow⟩ : RowOf l)]).map (·.1) <+: runs l) → xa = a ∧ xk = k from fun h => by
      rw [List.map_append] at h
      have := prefix_at h (by rw [List.length_map, hq]; exact hql)
      simp only [List.length_map, hq] at this
      rw [← hxa, ← hxk, this]
      exact ⟨rfl, rfl⟩)
    have hq0 : (q : Int) < (rl : Int) := by omega
    have hq1 : (0 : Int) ≤ (q : Int) := by omega
    have HQ := Lib.hid hq
    clear hB hq hql hxa hxk hlt
    by_cases hmost : (q : Int) = most
    · subst hmost
      have hbq : ((q : Int) == (q : Int)) = true := by simp
      gi_wp2
      exact ⟨KeepsOthers.refl _, .inr ⟨rfl, by have := HG.out; rw [HQ.out] at this; exact this⟩⟩
    · have hbm : ((q : Int) == most) = false := by rw [beq_eq_false_iff_ne]; exact hmost
      by_cases hx : xa = a ∧ xk = k
      · obtain ⟨rfl, rfl⟩ := hx
        have heq := run_equal_pair W xa xk xa xk
        rw [show (((xa : Int) == (xa : Int)) && ((xk : Int) == (xk : Int))) = true by simp] at heq
        gi_wp2
        have hg := HG.out
        rw [HQ.out] at hg
        refine ⟨KeepsOthers.setCell _ _ _, (Below.refl w.heap.size W).setCell (p := ⟨w.heap.size + 1 + 1 + 1, 0, none⟩) (by show w.heap.size ≤ w.heap.size + 1 + 1 + 1; omega) _, ?_⟩
        have e : (((pre ++ [(⟨(xa, xk), hrow⟩ : RowOf l)]).length : Nat) : Int) = (q : Int) + 1 := by rw [List.length_append, HQ.out]; rfl
        show Gc w _ rl cp most _ _
        rw [e]
        exact gc_put hg _
      · have heq := run_equal_pair W xa xk a k
        rw [show (((xa : Int) == (a : Int)) && ((xk : Int) == (k : Int))) = false by
          rw [Bool.and_eq_false_iff]
          by_cases h1 : xa = a
          · exact .inr (by rw [beq_eq_false_iff_ne]; intro h2; exact hx ⟨h1, by omega⟩)
          · exact .inl (by rw [beq_eq_false_iff_ne]; omega)] at heq
        have HBad := Lib.hid (fun h => hx (HX.out h))
        clear hx
        gi_wp2
        exact ⟨KeepsOthers.setCell _ _ _, .inl ⟨rfl, HBad.out⟩⟩
  case done =>
    rintro D ys W hD hys ⟨⟨c0, c1, c2, c3⟩, ⟨f2, f3⟩, hB⟩ hK
    have hyl : ys.length = rl := by rw [← HRL.out, ← hys, List.length_map]
    rw [hyl] at c3
    have hrr : ((rl : Int) == (rl : Int)) = true := by simp
    clear hys hyl
    gi_wp2
    have hK' := (KeepsOthers.setCell W ⟨w.heap.size + 1 + 1, 0, none⟩ (.bool true)).same D _ hK rfl
    refine ⟨by simp, .inl ⟨_, _, rfl, run_takeDeferred hK', ?_⟩⟩
    have hc5 := cell_kept (World.cell?_setCell_same' W ⟨w.heap.size + 1 + 1, 0, none⟩ (.bool true) (by rw [c2]; rfl)) (grownBy_putObj' _ D (.deferred none)) (fun r e => by cases e; exact ⟨_, hK', rfl⟩)
    refine ⟨.bool true, ?_, rfl, (hB.setCell (p := ⟨w.heap.size + 1 + 1, 0, none⟩) (by show w.heap.size ≤ w.heap.size + 1 + 1; omega) _).trans (belowK_b (w := w) (Nat.le_refl _) _ D _ _ (by omega) hK' rfl rfl)⟩
    simp [results, Try.f12, go_sem, hc5]
  case stop =>
    rintro D c pre W hD hp (⟨_, h⟩ | ⟨rfl, ⟨⟨c0, c1, c2, c3⟩, ⟨f2, f3⟩, hB⟩⟩) hK
    · exact (h hp).elim
    · have hmm : (most == most) = true := by simp
      by_cases hrm : most = (rl : Int)
      · subst hrm
        gi_wp2
        have hK' := (KeepsOthers.setCell W ⟨w.heap.size + 1 + 1, 0, none⟩ (.bool true)).same D _ hK rfl
        refine ⟨by simp, .inl ⟨_, _, rfl, run_takeDeferred hK', ?_⟩⟩
        have hc5 := cell_kept (World.cell?_setCell_same' W ⟨w.heap.size + 1 + 1, 0, none⟩ (.bool true) (by rw [c2]; rfl)) (grownBy_putObj' _ D (.deferred none)) (fun r e => by cases e; exact ⟨_, hK', rfl⟩)
        refine ⟨.bool true, ?_, rfl, (hB.setCell (p := ⟨w.heap.size + 1 + 1, 0, none⟩) (by show w.heap.size ≤ w.heap.size + 1 + 1; omega) _).trans (belowK_b (w := w) (Nat.le_refl _) _ D _ _ (by omega) hK' rfl rfl)⟩
        simp [results, Try.f12, go_sem, hc5]
      · have hrf : (most == (rl : Int)) = false := by rw [beq_eq_false_iff_ne]; exact hrm
        gi_wp2
        have hK' := (KeepsOthers.setCell W ⟨w.heap.size + 1 + 1, 0, none⟩ (.bool true)).same D _ hK rfl
        refine ⟨by simp, .inl ⟨_, _, rfl, run_takeDeferred hK', ?_⟩⟩
        have hc5 := cell_kept (World.cell?_setCell_same' W ⟨w.heap.size + 1 + 1, 0, none⟩ (.bool true) (by rw [c2]; rfl)) (grownBy_putObj' _ D (.deferred none)) (fun r e => by cases e; exact ⟨_, hK', rfl⟩)
        refine ⟨.bool true, ?_, rfl, (hB.setCell (p := ⟨w.heap.size + 1 + 1, 0, none⟩) (by show w.heap.size ≤ w.heap.size + 1 + 1; omega) _).trans (belowK_b (w := w) (Nat.le_refl _) _ D _ _ (by omega) hK' rfl rfl)⟩
        simp [results, Try.f12, go_sem, hc5]
end Go.Proofs.Ytlpochabgdcidaa
