/-
  THE WALK OF BitsWhole.
-/
import Derived.Test.YtlpochabgdcidaaBtF
import Derived.Test.YtlpochabgdcidaaBtM
set_option linter.unusedVariables false
set_option linter.unusedSimpArgs false
namespace Go.Proofs.Ytlpochabgdcidaa
open Go.RowKit Go.Shelf Bt
attribute [local go_sem] Oper.semAt_some run_fnil

/-- what lay below n₀ and is none of S lies as it lay -/
def KeepB (n₀ : Nat) (S : Nat → Prop) (W W' : World) : Prop := ∀ k, k < n₀ → ¬ S k → W'.heap[k]? = W.heap[k]?
theorem keepB_t {n₀ : Nat} {S : Nat → Prop} {A B C : World} (h : KeepB n₀ S A B) (k : KeepB n₀ S B C) : KeepB n₀ S A C := fun i hi hs => (k i hi hs).trans (h i hi hs)
theorem keepB_b {n₀ : Nat} {S : Nat → Prop} {w : World} (hn : n₀ ≤ w.heap.size) (W : World) (l : Nat) (o o' : Obj) (hl : w.heap.size ≤ l) (h : W.heap[l]? = some o) (_ : o.isCells = false) (_ : o.isWalk = false) : KeepB n₀ S W (W.putObj l o') :=
  fun k hk _ => World.putObj_heap_other (by omega)
theorem keepB_set {n₀ : Nat} {S : Nat → Prop} (W : World) (g k : Nat) (v : Value) (hS : S g) : KeepB n₀ S W (W.setCell ⟨g, k, none⟩ v) :=
  fun i _ hs => heap_setCell_other W ⟨g, k, none⟩ i v (fun e => hs (by rw [e]; exact hS))
theorem keepB_refl {n₀ : Nat} {S : Nat → Prop} (W : World) : KeepB n₀ S W W := fun _ _ _ => rfl

/-- the loop's own cells -/
def Cells (w : World) (E : Nat) (A : Option Addr) (len ca : Nat) (e o f : Int) (W : World) : Prop :=
  (W.cell? ⟨E, 0, none⟩ = some (.int .i64 e) ∧ W.cell? ⟨E + 1, 0, none⟩ = some (.int .i64 o) ∧ W.cell? ⟨E + 1 + 1, 0, none⟩ = some (.int .i64 f) ∧ W.cell? ⟨w.heap.size + 1, 0, none⟩ = some (.bool false) ∧ W.cell? ⟨w.heap.size, 0, none⟩ = some (.slice A len ca)) ∧
    (W.frozen? ⟨E, 0, none⟩ = false ∧ W.frozen? ⟨E + 1, 0, none⟩ = false ∧ W.frozen? ⟨E + 1 + 1, 0, none⟩ = false ∧ W.frozen? ⟨w.heap.size + 1, 0, none⟩ = false) ∧ Below w.heap.size w W
theorem cell_set_other (W : World) (p : Addr) (v : Value) (q : Addr) (h : q.block ≠ p.block) : (W.setCell p v).cell? q = W.cell? q := World.cell?_of_block (heap_setCell_other W p q.block v h)
section
variable {w W : World} {E len ca : Nat} {A : Option Addr} {e o f : Int}
theorem Cells.putE (h : Cells w E A len ca e o f W) (hE : w.heap.size + 2 ≤ E) (v : Int) : Cells w E A len ca v o f (W.setCell ⟨E, 0, none⟩ (.int .i64 v)) := by
  obtain ⟨⟨h1, h2, h3, h4, h5⟩, ⟨f1, f2, f3, f4⟩, hb⟩ := h
  refine ⟨⟨World.cell?_setCell_same' _ _ _ (by rw [h1]; rfl), (cell_set_other W _ _ _ (by show E + 1 ≠ E; omega)).trans h2, (cell_set_other W _ _ _ (by show E + 1 + 1 ≠ E; omega)).trans h3, (cell_set_other W _ _ _ (by show w.heap.size + 1 ≠ E; omega)).trans h4, (cell_set_other W _ _ _ (by show w.heap.size ≠ E; omega)).trans h5⟩, ⟨?_, ?_, ?_, ?_⟩, hb.setCell (p := ⟨E, 0, none⟩) (by show w.heap.size ≤ E; omega) _⟩ <;> rw [World.frozen?_setCell] <;> assumption
theorem Cells.putO (h : Cells w E A len ca e o f W) (hE : w.heap.size + 2 ≤ E) (v : Int) : Cells w E A len ca e v f (W.setCell ⟨E + 1, 0, none⟩ (.int .i64 v)) := by
  obtain ⟨⟨h1, h2, h3, h4, h5⟩, ⟨f1, f2, f3, f4⟩, hb⟩ := h
  refine ⟨⟨(cell_set_other W _ _ _ (by show E ≠ E + 1; omega)).trans h1, World.cell?_setCell_same' _ _ _ (by rw [h2]; rfl), (cell_set_other W _ _ _ (by show E + 1 + 1 ≠ E + 1; omega)).trans h3, (cell_set_other W _ _ _ (by show w.heap.size + 1 ≠ E + 1; omega)).trans h4, (cell_set_other W _ _ _ (by show w.heap.size ≠ E + 1; omega)).trans h5⟩, ⟨?_, ?_, ?_, ?_⟩, hb.setCell (p := ⟨E + 1, 0, none⟩) (by show w.heap.size ≤ E + 1; omega) _⟩ <;> rw [World.frozen?_setCell] <;> assumption
theorem Cells.putF (h : Cells w E A len ca e o f W) (hE : w.heap.size + 2 ≤ E) (v : Int) : Cells w E A len ca e o v (W.setCell ⟨E + 1 + 1, 0, none⟩ (.int .i64 v)) := by
  obtain ⟨⟨h1, h2, h3, h4, h5⟩, ⟨f1, f2, f3, f4⟩, hb⟩ := h
  refine ⟨⟨(cell_set_other W _ _ _ (by show E ≠ E + 1 + 1; omega)).trans h1, (cell_set_other W _ _ _ (by show E + 1 ≠ E + 1 + 1; omega)).trans h2, World.cell?_setCell_same' _ _ _ (by rw [h3]; rfl), (cell_set_other W _ _ _ (by show w.heap.size + 1 ≠ E + 1 + 1; omega)).trans h4, (cell_set_other W _ _ _ (by show w.heap.size ≠ E + 1 + 1; omega)).trans h5⟩, ⟨?_, ?_, ?_, ?_⟩, hb.setCell (p := ⟨E + 1 + 1, 0, none⟩) (by show w.heap.size ≤ E + 1 + 1; omega) _⟩ <;> rw [World.frozen?_setCell] <;> assumption
end
/-- .. and what they hold where what has come is what should have come -/
def Hold (w : World) (E : Nat) (A : Option Addr) (len ca : Nat) (l : List UInt8) (pre : List (RowOf l)) (W : World) : Prop :=
  ∃ e o f : Int, Cells w E A len ca e o f W ∧ (pre.map (·.1) <+: runs l → e = endOf (pre.map (·.1)) ∧ o = offOf (pre.map (·.1)) ∧ f = firstOf (pre.map (·.1)))
theorem hold_own {w : World} {E : Nat} {A : Option Addr} {len ca : Nat} {l : List UInt8} {B : Nat} (hB : w.heap.size ≤ B) : OwnFrom B (Hold w E A len ca l) := by
  rintro s X Y row ⟨e, o, f, ⟨⟨h1, h2, h3, h4, h5⟩, ⟨f1, f2, f3, f4⟩, hb⟩, hv⟩ hg hr
  have hr' : ∀ r, row = some r → ∃ o : Obj, X.heap[r]? = some o ∧ o.isCells = false := fun r e => (hr r e).2
  exact ⟨e, o, f, ⟨⟨cell_kept h1 hg hr', cell_kept h2 hg hr', cell_kept h3 hg hr', cell_kept h4 hg hr', cell_kept h5 hg hr'⟩,
    ⟨(frozen_kept h1 hg hr').trans f1, (frozen_kept h2 hg hr').trans f2, (frozen_kept h3 hg hr').trans f3, (frozen_kept h4 hg hr').trans f4⟩,
    (ownFrom_below (β := Unit) (Nat.le_refl _) hB) () X Y row hb hg hr⟩, hv⟩
/-- one row more, as the body has laid it -/
theorem hold_next {w W : World} {E : Nat} {A : Option Addr} {len ca : Nat} {l : List UInt8} {pre : List (RowOf l)} {x : RowOf l} {e o f f' : Int} (hc : Cells w E A len ca e o f' W) (hE : w.heap.size + 2 ≤ E)
    (hv : pre.map (·.1) <+: runs l → e = endOf (pre.map (·.1)) ∧ o = offOf (pre.map (·.1)) ∧ f = firstOf (pre.map (·.1))) (hf : f' = if f < 0 then (x.1.1 : Int) else f) (hm : 8 * l.length ≤ 1125899906842624) (z : Int) (hz : z = ((x.1.1 + x.1.2 : Nat) : Int)) :
    Hold w E A len ca l (pre ++ [x]) ((W.setCell ⟨E, 0, none⟩ (.int .i64 z)).setCell ⟨E + 1, 0, none⟩ (.int .i64 (wrap64 (o + (x.1.2 : Int))))) := by
  refine ⟨_, _, _, (hc.putE hE _).putO hE _, fun hp => ?_⟩
  obtain ⟨h1, h2, h3⟩ := hv (by rw [List.map_append] at hp; exact (List.prefix_append _ _).trans hp)
  obtain ⟨q, hq⟩ := hp
  have hle : offOf ((pre ++ [x]).map (·.1)) ≤ 8 * l.length := by
    have h4 := whole_sum l
    rw [← hq] at h4
    have h5 : offOf ((pre ++ [x]).map (·.1) ++ q) = offOf ((pre ++ [x]).map (·.1)) + offOf q := by unfold offOf; rw [List.map_append, List.sum_append]
    omega
  rw [List.map_append, List.map_cons, List.map_nil] at hle ⊢
  rw [offOf_snoc] at hle
  rw [endOf_snoc, offOf_snoc, firstOf_snoc]
  refine ⟨hz, ?_, by rw [hf, h3]⟩
  rw [h2]
  have : wrap64 (((offOf (pre.map (·.1)) : Nat) : Int) + (x.1.2 : Int)) = ((offOf (pre.map (·.1)) : Nat) : Int) + (x.1.2 : Int) := IntWalk.wrap64_in _ ⟨by omega, by omega⟩
  rw [this]
  omega
theorem pre_of {l : List UInt8} {pre : List (RowOf l)} {x : RowOf l} (h : (pre ++ [x]).map (·.1) <+: runs l) : pre.map (·.1) <+: runs l := by
  rw [List.map_append] at h
  exact (List.prefix_append _ _).trans h
theorem next_of {l : List UInt8} {pre : List (RowOf l)} {x : RowOf l} (h : (pre ++ [x]).map (·.1) <+: runs l) : endOf (pre.map (·.1)) ≤ x.1.1 ∧ (endOf (pre.map (·.1)) = x.1.1 → x.1.1 = 0) := by
  rw [List.map_append] at h
  exact next_row l _ _ h

theorem Is.later {w w2 : World} {g : Nat} {t : TypeId} {cs : Array Value} (h : Is w g t cs) (hb : Below w.heap.size w w2) : Is w2 g t cs := h.below hb h.lt

set_option maxRecDepth 100000 in
set_option maxHeartbeats 16000000 in
theorem whole_any (A : Option Addr) (ca : Nat) (l : List UInt8) (w : World) (hA : Bytes w A l) (hC : A = none → ca = 0) (hm : l.length ≤ 140737488355328) :
    Calls Try.prog 5 #[.slice A l.length ca] w fun e w' => e = .returned (.bool true) ∧ Below w.heap.size w w' := by
  obtain ⟨len, hlen⟩ : ∃ len, l.length = len := ⟨_, rfl⟩
  rw [hlen] at hm ⊢
  obtain ⟨hbn, hi0, hi1⟩ := two_new w #[.slice A len ca] #[.bool false] 22 4
  have HA := Lib.hid (hA.later hbn)
  have HA0 := Lib.hid hA
  have HC := Lib.hid hC
  have HL := Lib.hid hlen
  have HI0 := Lib.hid hi0
  have HI1 := Lib.hid hi1
  have HBn := Lib.hid hbn
  clear hA hC hlen hbn hi0 hi1
  refine (callsIn_wide (n := 6)).1 ?_
  refine callsIn_of_wp_marks Try.func5 rfl trivial ?_ rfl
  simp only [Try.ntmps5, List.size_toArray, List.length_cons, List.length_nil, Nat.reduceAdd, Nat.reduceSub, Array.replicate_succ, Array.replicate_zero, List.push_toArray, List.append_toArray, List.nil_append, List.cons_append]
  gi_wp2_with (refine ⟨trivial, ?_⟩; gi_at_call 7; refine (callsIn_wide.2 (fixed_any _)).mono ?_; rintro e w1 ⟨rfl, hb1⟩; have c0 : (((w1.alloc (.cells #[.int .i64 0] 3)).alloc (.cells #[.int .i64 0] 3)).alloc (.cells #[.int .i64 (-1)] 3)).cell? ⟨w.heap.size, 0, none⟩ = some (.slice A len ca) := ((((HI0.out.below hb1 HI0.out.lt).alloc _).alloc _).alloc _).cell 0)
  have hE0 : w.heap.size + 2 ≤ w1.heap.size := by have := hb1.size; simp at this; omega
  have HB1 := Lib.hid (HBn.out.trans (hb1.mono HBn.out.size))
  have k0 := (HI0.out.below hb1 HI0.out.lt)
  have k1 := (HI1.out.below hb1 HI1.out.lt)
  have hbx := (below_new w1 (.cells #[.int .i64 0] 3))
  obtain ⟨hbe, je, jo⟩ := two_new w1 #[.int .i64 0] #[.int .i64 0] 3 3
  have hbf := below_new ((w1.alloc (.cells #[.int .i64 0] 3)).alloc (.cells #[.int .i64 0] 3)) (.cells #[.int .i64 (-1)] 3)
  have jf := Is.new ((w1.alloc (.cells #[.int .i64 0] 3)).alloc (.cells #[.int .i64 0] 3)) 3 #[.int .i64 (-1)]
  rw [World.size_alloc, World.size_alloc] at jf
  replace je := je.alloc (.cells #[.int .i64 (-1)] 3)
  replace jo := jo.alloc (.cells #[.int .i64 (-1)] 3)
  have hb3 : Below w1.heap.size w1 (((w1.alloc (.cells #[.int .i64 0] 3)).alloc (.cells #[.int .i64 0] 3)).alloc (.cells #[.int .i64 (-1)] 3)) := hbe.trans (hbf.mono (by simp; omega))
  have hs3 : (((w1.alloc (.cells #[.int .i64 0] 3)).alloc (.cells #[.int .i64 0] 3)).alloc (.cells #[.int .i64 (-1)] 3)).heap.size = w1.heap.size + 3 := by simp
  obtain ⟨w3, hw3⟩ : ∃ w3, (((w1.alloc (.cells #[.int .i64 0] 3)).alloc (.cells #[.int .i64 0] 3)).alloc (.cells #[.int .i64 (-1)] 3)) = w3 := ⟨_, rfl⟩
  rw [hw3] at je jo jf hb3 hs3
  replace k0 := k0.later hb3
  replace k1 := k1.later hb3
  have HB3 := Lib.hid (HB1.out.trans (hb3.mono (by omega)))
  obtain ⟨E, hE⟩ : ∃ E, w1.heap.size = E := ⟨_, rfl⟩
  rw [hw3, hE]
  rw [hE] at je jo jf hs3 hE0
  refine ⟨trivial, ?_⟩
  refine (callsIn_wide.2 (runs_any A len ca l HL.out w3 ((HA.out.later hb1).later hb3) HC.out hm)).mono ?_
  rintro e w4 ⟨⟨v, rfl, B, A2, c2, rfl, hcB, hm2, hB2⟩, hb4⟩
  rw [HL.out] at hcB
  clear hbx hbe hbf hw3 hb1 hb3 hE
  have HE := Lib.hid (je.later hb4)
  have HO := Lib.hid (jo.later hb4)
  have HF := Lib.hid (jf.later hb4)
  have HK0 := Lib.hid (k0.later hb4)
  have HK1 := Lib.hid (k1.later hb4)
  have HB4 := Lib.hid (HB3.out.trans (hb4.mono HB3.out.size))
  have hBlt : B < w4.heap.size := block_lt_of_cell hcB
  have hs4 : E + 3 ≤ w4.heap.size := by have := hb4.size; omega
  have HM := Lib.hid hm2
  have hw3B : w3.heap.size ≤ B := hB2
  clear je jo jf k0 k1 c0 hb4 hm2
  have HE0 := Lib.hid hE0
  gi_wp2
  refine wpIn_rangeFunc_ownF (n := 6) (w0 := w4) (Kp := KeepB w4.heap.size (fun i => i = E ∨ i = E + 1 ∨ i = E + 1 + 1 ∨ i = w.heap.size + 1)) rfl (by decide) (gf := 23) (lb := #[.pointer (some ⟨B, 0, none⟩)]) rfl trivial (enters_of Try.func23 (by kernel_rfl) rfl)
    (runs_stopsK 5 (by decide) B len c2 A2 l HL.out hm (KeepB w4.heap.size (fun i => i = E ∨ i = E + 1 ∨ i = E + 1 + 1 ∨ i = w.heap.size + 1)) ?keeps w4 hcB HM.out.bytes) (fun h k => keepB_t h k) (keepB_b (Nat.le_refl _)) (Below.refl _ _) (fun _ => rfl)
    (Hold w E A len ca l) (fun _ pre _ => ¬ (pre.map (·.1) <+: runs l)) (hold_own (by omega)) (fun _ => ownFrom_pure _ (fun pre : List (RowOf l) => ¬ (pre.map (·.1) <+: runs l)))
    ⟨0, 0, -1, ⟨⟨HE.out.cell 0, HO.out.cell 0, HF.out.cell 0, HK1.out.cell 0, HK0.out.cell 0⟩, ⟨HE.out.free 0, HO.out.free 0, HF.out.free 0, HK1.out.free 0⟩, HB4.out⟩, fun _ => ⟨rfl, rfl, rfl⟩⟩
    ?a₁ ?assign ?body ?done ?stop
  case keeps =>
    intro W1 W2 hk h1 h2
    have key : ∀ i, w3.heap.size ≤ i → i < w4.heap.size → W2.heap[i]? = W1.heap[i]? := fun i h3 h4 => hk i h4 (by omega)
    refine ⟨(World.cell?_of_block (a := ⟨B, 0, none⟩) (key B hw3B hBlt)).trans h1, ?_⟩
    rcases HM.out.shape with hA2 | ⟨g2, hA2⟩
    · rcases h2 with h2 | ⟨b, off, hb, _⟩
      · exact .inl h2
      · rw [hA2] at hb; cases hb
    · have g1 := HM.out.ge g2 hA2
      have g3 := HM.out.lt g2 hA2
      rcases h2 with h2 | ⟨b, off, hb, hc⟩
      · exact .inl h2
      · rw [hA2] at hb
        injection hb with hb
        injection hb with hb1 hb2
        subst hb1 hb2
        exact .inr ⟨g2, 0, hA2, fun k hk2 => (World.cell?_of_block (a := ⟨g2, 0 + k, none⟩) (key g2 g1 g3)).trans (hc k hk2)⟩
  case assign =>
    intro r x W K hK
    unfold rowArgs
    gi_wp2
    exact hK
  case body =>
    rintro r pre ⟨⟨a, k⟩, hrow⟩ W ⟨e, o, f, hcs, hv⟩ _
    have HCS := Lib.hid hcs
    obtain ⟨⟨ce, co, cf, cr, c0⟩, ⟨fe, fo, ff, fr⟩, hB⟩ := hcs
    obtain ⟨N, hN⟩ : ∃ N : Nat, 8 * len = N := ⟨_, rfl⟩
    have hNi : 8 * (len : Int) = (N : Int) := by omega
    have hNb : N ≤ 1125899906842624 := by omega
    obtain ⟨z, hz⟩ : ∃ z : Nat, a + k = z := ⟨_, rfl⟩
    have HNx := Lib.hid (fun h => next_of (x := (⟨(a, k), hrow⟩ : RowOf l)) (pre := pre) h)
    have hrow2 := hrow
    obtain ⟨hk1, hzN, hoff, hlo, hhi⟩ := hrow2
    have hk1 : 1 ≤ k := hk1
    have hzN : a + k ≤ 8 * l.length := hzN
    rw [HL.out, hN, hz] at hzN
    have hoff : ∀ j, a ≤ j → j < a + k → bit l j = false := hoff
    have hlo : a = 0 ∨ bit l (a - 1) = true := hlo
    have hhi : a + k = 8 * l.length ∨ bit l (a + k) = true := hhi
    rw [HL.out, hN, hz] at hhi
    have hzi : (a : Int) + (k : Int) = (z : Int) := by omega
    have hkz : (1 : Int) ≤ (k : Int) := by omega
    have hzNi : (z : Int) ≤ (N : Int) := by omega
    have hbW := HA0.out.later hB
    have HBW := Lib.hid hbW
    have hok : cntOk l (a : Int) (z : Int) = true := by unfold cntOk; rw [HL.out, hNi]; simp; omega
    have HCV := Lib.hid (show cntV l (a : Int) (z : Int) = 0 by unfold cntV; rw [if_pos hok, Int.toNat_natCast, show ((z : Int) - (a : Int)).toNat = k by omega]; exact cnt_off l a k hoff)
    have HCE := Lib.hid (show cntE l (a : Int) (z : Int) = 0 by unfold cntE; rw [if_pos hok])
    have HHI := Lib.hid hhi
    have HLO := Lib.hid hlo
    have HV := Lib.hid hv
    have HBb := Lib.hid hB
    have hs8 : w.heap.size ≤ E := by omega
    have hhas : ∀ j : Nat, j < N → has l (j : Int) = true := fun j hj => (has_iff l (j : Int)).2 ⟨by omega, by rw [HL.out]; omega⟩
    have HH := Lib.hid hhas
    have HZ := Lib.hid hz
    clear hoff hlo hhi hv hB hbW hok hhas hN hz
    by_cases h1 : (a : Int) < e
    · have hbad : ¬ ((pre ++ [(⟨(a, k), hrow⟩ : RowOf l)]).map (·.1) <+: runs l) := by
        intro hp
        have h2 := (HV.out (pre_of hp)).1
        have h3 := (HNx.out hp).1
        have h3 : endOf (pre.map (·.1)) ≤ a := h3
        omega
      have HBD := Lib.hid hbad
      clear hbad
      gi_wp2
      exact ⟨KeepsOthers.setCell _ _ _, HBD.out⟩
    · by_cases h2 : (a : Int) = e ∧ 0 < a
      · obtain ⟨h2, h3⟩ := h2
        subst h2
        have hbad : ¬ ((pre ++ [(⟨(a, k), hrow⟩ : RowOf l)]).map (·.1) <+: runs l) := by
          intro hp
          have h4 := (HV.out (pre_of hp)).1
          have h5 := (HNx.out hp).2
          have h5 : endOf (pre.map (·.1)) = a → a = 0 := h5
          have := h5 (by omega)
          omega
        have HBD := Lib.hid hbad
        have h30 : 0 < (a : Int) := by omega
        clear hbad
        gi_wp2
        exact ⟨KeepsOthers.setCell _ _ _, HBD.out⟩
      · have h10 : e ≤ (a : Int) := by omega
        by_cases h3 : (a : Int) = e
        · have hb3 : ((a : Int) == e) = true := by rw [beq_iff_eq]; exact h3
          have ha0 : decide (0 < a) = false := decide_eq_false (by omega)
          clear h1 h2 h3
          by_cases hf : f < 0
          · by_cases hzl : z < N
            · have HG2 := Lib.hid (show getV l (z : Int) = true ∧ getE l (z : Int) = 0 from ⟨by unfold getV; rw [HH.out z hzl, Int.toNat_natCast]; rcases HHI.out with h | h; omega; exact h, by unfold getE; rw [if_pos (HH.out z hzl)]⟩)
              have hzl0 : (z : Int) < (N : Int) := by omega
              clear hzl
              have HBW2 := Lib.hid (show Bytes (W.setCell ⟨E + 1 + 1, 0, none⟩ (.int .i64 (a : Int))) A l from HA0.out.later (HBb.out.setCell (p := ⟨E + 1 + 1, 0, none⟩) (by show w.heap.size ≤ E + 1 + 1; omega) _))
              gi_wp2_with (first
                | (refine ⟨trivial, ?_⟩; gi_at_call 13; refine (CallsIn.inRound r (callsIn_wide.2 (count_any A len ca l HL.out a z _ HBW2.out hm))).mono ?_; rintro e' w' ⟨rfl, rfl⟩; rw [HCV.out, HCE.out])
                | (refine ⟨trivial, ?_⟩; gi_at_call 14; with_reducible refine (CallsIn.inRound r (callsIn_wide.2 (get_any A len ca l HL.out (z : Int) _ HBW2.out hm))).mono ?_; rintro e' w' ⟨rfl, rfl⟩; rw [HG2.out.1, HG2.out.2]))
              exact ⟨((KeepsOthers.setCell _ _ _).trans (KeepsOthers.setCell _ _ _)).trans (KeepsOthers.setCell _ _ _), keepB_t (keepB_t (keepB_set _ _ _ _ (.inr (.inr (.inl rfl)))) (keepB_set _ _ _ _ (.inl rfl))) (keepB_set _ _ _ _ (.inr (.inl rfl))), hold_next (x := ⟨(a, k), hrow⟩) (HCS.out.putF HE0.out (a : Int)) HE0.out HV.out (if_pos hf).symm (by rw [HL.out]; omega) (z : Int) (by rw [← HZ.out])⟩
            · have hzl0 : (N : Int) ≤ (z : Int) := by omega
              clear hzl
              have HBW2 := Lib.hid (show Bytes (W.setCell ⟨E + 1 + 1, 0, none⟩ (.int .i64 (a : Int))) A l from HA0.out.later (HBb.out.setCell (p := ⟨E + 1 + 1, 0, none⟩) (by show w.heap.size ≤ E + 1 + 1; omega) _))
              gi_wp2_with (refine ⟨trivial, ?_⟩; gi_at_call 13; refine (CallsIn.inRound r (callsIn_wide.2 (count_any A len ca l HL.out a z _ HBW2.out hm))).mono ?_; rintro e' w' ⟨rfl, rfl⟩; rw [HCV.out, HCE.out])
              exact ⟨((KeepsOthers.setCell _ _ _).trans (KeepsOthers.setCell _ _ _)).trans (KeepsOthers.setCell _ _ _), keepB_t (keepB_t (keepB_set _ _ _ _ (.inr (.inr (.inl rfl)))) (keepB_set _ _ _ _ (.inl rfl))) (keepB_set _ _ _ _ (.inr (.inl rfl))), hold_next (x := ⟨(a, k), hrow⟩) (HCS.out.putF HE0.out (a : Int)) HE0.out HV.out (if_pos hf).symm (by rw [HL.out]; omega) (z : Int) (by rw [← HZ.out])⟩
          · have hf : 0 ≤ f := by omega
            by_cases hzl : z < N
            · have HG2 := Lib.hid (show getV l (z : Int) = true ∧ getE l (z : Int) = 0 from ⟨by unfold getV; rw [HH.out z hzl, Int.toNat_natCast]; rcases HHI.out with h | h; omega; exact h, by unfold getE; rw [if_pos (HH.out z hzl)]⟩)
              have hzl0 : (z : Int) < (N : Int) := by omega
              clear hzl
              gi_wp2_with (first
                | (refine ⟨trivial, ?_⟩; gi_at_call 13; refine (CallsIn.inRound r (callsIn_wide.2 (count_any A len ca l HL.out a z _ HBW.out hm))).mono ?_; rintro e' w' ⟨rfl, rfl⟩; rw [HCV.out, HCE.out])
                | (refine ⟨trivial, ?_⟩; gi_at_call 14; with_reducible refine (CallsIn.inRound r (callsIn_wide.2 (get_any A len ca l HL.out (z : Int) _ HBW.out hm))).mono ?_; rintro e' w' ⟨rfl, rfl⟩; rw [HG2.out.1, HG2.out.2]))
              exact ⟨(KeepsOthers.setCell _ _ _).trans (KeepsOthers.setCell _ _ _), keepB_t (keepB_set _ _ _ _ (.inl rfl)) (keepB_set _ _ _ _ (.inr (.inl rfl))), hold_next (x := ⟨(a, k), hrow⟩) HCS.out HE0.out HV.out (if_neg (by omega)).symm (by rw [HL.out]; omega) (z : Int) (by rw [← HZ.out])⟩
            · have hzl0 : (N : Int) ≤ (z : Int) := by omega
              clear hzl
              gi_wp2_with (refine ⟨trivial, ?_⟩; gi_at_call 13; refine (CallsIn.inRound r (callsIn_wide.2 (count_any A len ca l HL.out a z _ HBW.out hm))).mono ?_; rintro e' w' ⟨rfl, rfl⟩; rw [HCV.out, HCE.out])
              exact ⟨(KeepsOthers.setCell _ _ _).trans (KeepsOthers.setCell _ _ _), keepB_t (keepB_set _ _ _ _ (.inl rfl)) (keepB_set _ _ _ _ (.inr (.inl rfl))), hold_next (x := ⟨(a, k), hrow⟩) HCS.out HE0.out HV.out (if_neg (by omega)).symm (by rw [HL.out]; omega) (z : Int) (by rw [← HZ.out])⟩
        · have hb3 : ((a : Int) == e) = false := by rw [beq_eq_false_iff_ne]; exact h3
          by_cases ha : 0 < a
          · have ha0 : decide (0 < a) = true := decide_eq_true ha
            clear h1 h2 h3
            obtain ⟨a1, ha1⟩ : ∃ a1 : Nat, (a : Int) - 1 = (a1 : Int) := ⟨a - 1, by omega⟩
            have HG1 := Lib.hid (show getV l (a1 : Int) = true ∧ getE l (a1 : Int) = 0 from by
              have h1 := HH.out a1 (by omega)
              refine ⟨?_, by unfold getE; rw [if_pos h1]⟩
              unfold getV
              rw [h1, Int.toNat_natCast]
              rcases HLO.out with h | h
              · omega
              · rw [show a1 = a - 1 by omega]; exact h)
            by_cases hf : f < 0
            · by_cases hzl : z < N
              · have HG2 := Lib.hid (show getV l (z : Int) = true ∧ getE l (z : Int) = 0 from ⟨by unfold getV; rw [HH.out z hzl, Int.toNat_natCast]; rcases HHI.out with h | h; omega; exact h, by unfold getE; rw [if_pos (HH.out z hzl)]⟩)
                have hzl0 : (z : Int) < (N : Int) := by omega
                clear hzl
                have HBW2 := Lib.hid (show Bytes (W.setCell ⟨E + 1 + 1, 0, none⟩ (.int .i64 (a : Int))) A l from HA0.out.later (HBb.out.setCell (p := ⟨E + 1 + 1, 0, none⟩) (by show w.heap.size ≤ E + 1 + 1; omega) _))
                gi_wp2_with (first
                  | (refine ⟨trivial, ?_⟩; gi_at_call 13; refine (CallsIn.inRound r (callsIn_wide.2 (count_any A len ca l HL.out a z _ HBW2.out hm))).mono ?_; rintro e' w' ⟨rfl, rfl⟩; rw [HCV.out, HCE.out])
                  | (refine ⟨trivial, ?_⟩; gi_at_call 14; with_reducible refine (CallsIn.inRound r (callsIn_wide.2 (get_any A len ca l HL.out (a1 : Int) _ HBW2.out hm))).mono ?_; rintro e' w' ⟨rfl, rfl⟩; rw [HG1.out.1, HG1.out.2])
                  | (refine ⟨trivial, ?_⟩; gi_at_call 14; with_reducible refine (CallsIn.inRound r (callsIn_wide.2 (get_any A len ca l HL.out (z : Int) _ HBW2.out hm))).mono ?_; rintro e' w' ⟨rfl, rfl⟩; rw [HG2.out.1, HG2.out.2]))
                exact ⟨((KeepsOthers.setCell _ _ _).trans (KeepsOthers.setCell _ _ _)).trans (KeepsOthers.setCell _ _ _), keepB_t (keepB_t (keepB_set _ _ _ _ (.inr (.inr (.inl rfl)))) (keepB_set _ _ _ _ (.inl rfl))) (keepB_set _ _ _ _ (.inr (.inl rfl))), hold_next (x := ⟨(a, k), hrow⟩) (HCS.out.putF HE0.out (a : Int)) HE0.out HV.out (if_pos hf).symm (by rw [HL.out]; omega) (z : Int) (by rw [← HZ.out])⟩
              · have hzl0 : (N : Int) ≤ (z : Int) := by omega
                clear hzl
                have HBW2 := Lib.hid (show Bytes (W.setCell ⟨E + 1 + 1, 0, none⟩ (.int .i64 (a : Int))) A l from HA0.out.later (HBb.out.setCell (p := ⟨E + 1 + 1, 0, none⟩) (by show w.heap.size ≤ E + 1 + 1; omega) _))
                gi_wp2_with (first
                  | (refine ⟨trivial, ?_⟩; gi_at_call 13; refine (CallsIn.inRound r (callsIn_wide.2 (count_any A len ca l HL.out a z _ HBW2.out hm))).mono ?_; rintro e' w' ⟨rfl, rfl⟩; rw [HCV.out, HCE.out])
                  | (refine ⟨trivial, ?_⟩; gi_at_call 14; with_reducible refine (CallsIn.inRound r (callsIn_wide.2 (get_any A len ca l HL.out (a1 : Int) _ HBW2.out hm))).mono ?_; rintro e' w' ⟨rfl, rfl⟩; rw [HG1.out.1, HG1.out.2]))
                exact ⟨((KeepsOthers.setCell _ _ _).trans (KeepsOthers.setCell _ _ _)).trans (KeepsOthers.setCell _ _ _), keepB_t (keepB_t (keepB_set _ _ _ _ (.inr (.inr (.inl rfl)))) (keepB_set _ _ _ _ (.inl rfl))) (keepB_set _ _ _ _ (.inr (.inl rfl))), hold_next (x := ⟨(a, k), hrow⟩) (HCS.out.putF HE0.out (a : Int)) HE0.out HV.out (if_pos hf).symm (by rw [HL.out]; omega) (z : Int) (by rw [← HZ.out])⟩
            · have hf : 0 ≤ f := by omega
              by_cases hzl : z < N
              · have HG2 := Lib.hid (show getV l (z : Int) = true ∧ getE l (z : Int) = 0 from ⟨by unfold getV; rw [HH.out z hzl, Int.toNat_natCast]; rcases HHI.out with h | h; omega; exact h, by unfold getE; rw [if_pos (HH.out z hzl)]⟩)
                have hzl0 : (z : Int) < (N : Int) := by omega
                clear hzl
                gi_wp2_with (first
                  | (refine ⟨trivial, ?_⟩; gi_at_call 13; refine (CallsIn.inRound r (callsIn_wide.2 (count_any A len ca l HL.out a z _ HBW.out hm))).mono ?_; rintro e' w' ⟨rfl, rfl⟩; rw [HCV.out, HCE.out])
                  | (refine ⟨trivial, ?_⟩; gi_at_call 14; with_reducible refine (CallsIn.inRound r (callsIn_wide.2 (get_any A len ca l HL.out (a1 : Int) _ HBW.out hm))).mono ?_; rintro e' w' ⟨rfl, rfl⟩; rw [HG1.out.1, HG1.out.2])
                  | (refine ⟨trivial, ?_⟩; gi_at_call 14; with_reducible refine (CallsIn.inRound r (callsIn_wide.2 (get_any A len ca l HL.out (z : Int) _ HBW.out hm))).mono ?_; rintro e' w' ⟨rfl, rfl⟩; rw [HG2.out.1, HG2.out.2]))
                exact ⟨(KeepsOthers.setCell _ _ _).trans (KeepsOthers.setCell _ _ _), keepB_t (keepB_set _ _ _ _ (.inl rfl)) (keepB_set _ _ _ _ (.inr (.inl rfl))), hold_next (x := ⟨(a, k), hrow⟩) HCS.out HE0.out HV.out (if_neg (by omega)).symm (by rw [HL.out]; omega) (z : Int) (by rw [← HZ.out])⟩
              · have hzl0 : (N : Int) ≤ (z : Int) := by omega
                clear hzl
                gi_wp2_with (first
                  | (refine ⟨trivial, ?_⟩; gi_at_call 13; refine (CallsIn.inRound r (callsIn_wide.2 (count_any A len ca l HL.out a z _ HBW.out hm))).mono ?_; rintro e' w' ⟨rfl, rfl⟩; rw [HCV.out, HCE.out])
                  | (refine ⟨trivial, ?_⟩; gi_at_call 14; with_reducible refine (CallsIn.inRound r (callsIn_wide.2 (get_any A len ca l HL.out (a1 : Int) _ HBW.out hm))).mono ?_; rintro e' w' ⟨rfl, rfl⟩; rw [HG1.out.1, HG1.out.2]))
                exact ⟨(KeepsOthers.setCell _ _ _).trans (KeepsOthers.setCell _ _ _), keepB_t (keepB_set _ _ _ _ (.inl rfl)) (keepB_set _ _ _ _ (.inr (.inl rfl))), hold_next (x := ⟨(a, k), hrow⟩) HCS.out HE0.out HV.out (if_neg (by omega)).symm (by rw [HL.out]; omega) (z : Int) (by rw [← HZ.out])⟩
          · have ha0 : decide (0 < a) = false := decide_eq_false (by omega)
            clear h1 h2 h3 ha
            by_cases hf : f < 0
            · by_cases hzl : z < N
              · have HG2 := Lib.hid (show getV l (z : Int) = true ∧ getE l (z : Int) = 0 from ⟨by unfold getV; rw [HH.out z hzl, Int.toNat_natCast]; rcases HHI.out with h | h; omega; exact h, by unfold getE; rw [if_pos (HH.out z hzl)]⟩)
                have hzl0 : (z : Int) < (N : Int) := by omega
                clear hzl
                have HBW2 := Lib.hid (show Bytes (W.setCell ⟨E + 1 + 1, 0, none⟩ (.int .i64 (a : Int))) A l from HA0.out.later (HBb.out.setCell (p := ⟨E + 1 + 1, 0, none⟩) (by show w.heap.size ≤ E + 1 + 1; omega) _))
                gi_wp2_with (first
                  | (refine ⟨trivial, ?_⟩; gi_at_call 13; refine (CallsIn.inRound r (callsIn_wide.2 (count_any A len ca l HL.out a z _ HBW2.out hm))).mono ?_; rintro e' w' ⟨rfl, rfl⟩; rw [HCV.out, HCE.out])
                  | (refine ⟨trivial, ?_⟩; gi_at_call 14; with_reducible refine (CallsIn.inRound r (callsIn_wide.2 (get_any A len ca l HL.out (z : Int) _ HBW2.out hm))).mono ?_; rintro e' w' ⟨rfl, rfl⟩; rw [HG2.out.1, HG2.out.2]))
                exact ⟨((KeepsOthers.setCell _ _ _).trans (KeepsOthers.setCell _ _ _)).trans (KeepsOthers.setCell _ _ _), keepB_t (keepB_t (keepB_set _ _ _ _ (.inr (.inr (.inl rfl)))) (keepB_set _ _ _ _ (.inl rfl))) (keepB_set _ _ _ _ (.inr (.inl rfl))), hold_next (x := ⟨(a, k), hrow⟩) (HCS.out.putF HE0.out (a : Int)) HE0.out HV.out (if_pos hf).symm (by rw [HL.out]; omega) (z : Int) (by rw [← HZ.out])⟩
              · have hzl0 : (N : Int) ≤ (z : Int) := by omega
                clear hzl
                have HBW2 := Lib.hid (show Bytes (W.setCell ⟨E + 1 + 1, 0, none⟩ (.int .i64 (a : Int))) A l from HA0.out.later (HBb.out.setCell (p := ⟨E + 1 + 1, 0, none⟩) (by show w.heap.size ≤ E + 1 + 1; omega) _))
                gi_wp2_with (refine ⟨trivial, ?_⟩; gi_at_call 13; refine (CallsIn.inRound r (callsIn_wide.2 (count_any A len ca l HL.out a z _ HBW2.out hm))).mono ?_; rintro e' w' ⟨rfl, rfl⟩; rw [HCV.out, HCE.out])
                exact ⟨((KeepsOthers.setCell _ _ _).trans (KeepsOthers.setCell _ _ _)).trans (KeepsOthers.setCell _ _ _), keepB_t (keepB_t (keepB_set _ _ _ _ (.inr (.inr (.inl rfl)))) (keepB_set _ _ _ _ (.inl rfl))) (keepB_set _ _ _ _ (.inr (.inl rfl))), hold_next (x := ⟨(a, k), hrow⟩) (HCS.out.putF HE0.out (a : Int)) HE0.out HV.out (if_pos hf).symm (by rw [HL.out]; omega) (z : Int) (by rw [← HZ.out])⟩
            · have hf : 0 ≤ f := by omega
              by_cases hzl : z < N
              · have HG2 := Lib.hid (show getV l (z : Int) = true ∧ getE l (z : Int) = 0 from ⟨by unfold getV; rw [HH.out z hzl, Int.toNat_natCast]; rcases HHI.out with h | h; omega; exact h, by unfold getE; rw [if_pos (HH.out z hzl)]⟩)
                have hzl0 : (z : Int) < (N : Int) := by omega
                clear hzl
                gi_wp2_with (first
                  | (refine ⟨trivial, ?_⟩; gi_at_call 13; refine (CallsIn.inRound r (callsIn_wide.2 (count_any A len ca l HL.out a z _ HBW.out hm))).mono ?_; rintro e' w' ⟨rfl, rfl⟩; rw [HCV.out, HCE.out])
                  | (refine ⟨trivial, ?_⟩; gi_at_call 14; with_reducible refine (CallsIn.inRound r (callsIn_wide.2 (get_any A len ca l HL.out (z : Int) _ HBW.out hm))).mono ?_; rintro e' w' ⟨rfl, rfl⟩; rw [HG2.out.1, HG2.out.2]))
                exact ⟨(KeepsOthers.setCell _ _ _).trans (KeepsOthers.setCell _ _ _), keepB_t (keepB_set _ _ _ _ (.inl rfl)) (keepB_set _ _ _ _ (.inr (.inl rfl))), hold_next (x := ⟨(a, k), hrow⟩) HCS.out HE0.out HV.out (if_neg (by omega)).symm (by rw [HL.out]; omega) (z : Int) (by rw [← HZ.out])⟩
              · have hzl0 : (N : Int) ≤ (z : Int) := by omega
                clear hzl
                gi_wp2_with (refine ⟨trivial, ?_⟩; gi_at_call 13; refine (CallsIn.inRound r (callsIn_wide.2 (count_any A len ca l HL.out a z _ HBW.out hm))).mono ?_; rintro e' w' ⟨rfl, rfl⟩; rw [HCV.out, HCE.out])
                exact ⟨(KeepsOthers.setCell _ _ _).trans (KeepsOthers.setCell _ _ _), keepB_t (keepB_set _ _ _ _ (.inl rfl)) (keepB_set _ _ _ _ (.inr (.inl rfl))), hold_next (x := ⟨(a, k), hrow⟩) HCS.out HE0.out HV.out (if_neg (by omega)).symm (by rw [HL.out]; omega) (z : Int) (by rw [← HZ.out])⟩
  case done =>
    rintro D ys W hD hys ⟨e, o, f, ⟨⟨ce, co, cf, cr, c0⟩, ⟨fe, fo, ff, fr⟩, hB⟩, hv⟩ hK
    rw [hys] at hv
    obtain ⟨he, ho, hf⟩ := hv (List.prefix_refl _)
    obtain ⟨N, hN⟩ : ∃ N : Nat, 8 * len = N := ⟨_, rfl⟩
    have hNi : 8 * (len : Int) = (N : Int) := by omega
    have hNb : N ≤ 1125899906842624 := by omega
    have hw := whole_sum l
    rw [HL.out, hN] at hw
    have hlow := first_low l
    rw [← hf] at hlow
    obtain ⟨c, hc⟩ : ∃ c, cnt l 0 N = c := ⟨_, rfl⟩
    rw [hc] at hw
    have hok : cntOk l 0 (N : Int) = true := by unfold cntOk; rw [HL.out, hNi]; simp
    have HCV := Lib.hid (show cntV l 0 (N : Int) = c by unfold cntV; rw [if_pos hok, ← hc, show ((N : Int) - 0).toNat = N by omega]; rfl)
    have HCE := Lib.hid (show cntE l 0 (N : Int) = 0 by unfold cntE; rw [if_pos hok])
    have hco : (c : Int) + o = (N : Int) := by omega
    have hcN : c ≤ N := by omega
    have HLOW := Lib.hid hlow
    have HBW := Lib.hid (HA0.out.later hB)
    have HK := Lib.hid hK
    have HB := Lib.hid hB
    have HLen := Lib.hid hN
    have hDE : E + 3 ≤ D := by omega
    have hs8 : w.heap.size + 2 ≤ E := HE0.out
    have hfb : f = -1 ∨ 0 ≤ f := by rcases HLOW.out with ⟨h, _⟩ | ⟨k, h, _⟩; exact .inl h; exact .inr (by omega)
    have hcoN : IntKind.i64.wrap ((c : Int) + o) = (N : Int) := by rw [hco]; exact IntWalk.i64_in _ (by omega)
    clear hv he ho hf hw hlow hc hok hK hB hys hN
    gi_wp2
    refine ⟨trivial, ?_⟩
    refine (callsIn_wide.2 (count_any A len ca l HL.out 0 (N : Int) _ HBW.out hm)).mono ?_
    rintro e' w' ⟨rfl, rfl⟩
    rw [HCV.out, HCE.out]
    gi_wp2
    refine wpIn_wide.2 ?_
    go_quiet (first | (go_at_call 15; refine Calls.quiet_of_same (lowest_r A len ca l HL.out 0 f HLOW.out _ (HBW.out.drewN _) hm (by decide) (by decide))))
    gi_wp2
    have c0q : (W.drewN nq).cell? ⟨w.heap.size, 0, none⟩ = some (.slice A len ca) := c0
    have crq : (W.drewN nq).cell? ⟨w.heap.size + 1, 0, none⟩ = some (.bool false) := cr
    have frq : (W.drewN nq).frozen? ⟨w.heap.size + 1, 0, none⟩ = false := fr
    have HCR := Lib.hid crq
    have HKq := Lib.hid (show (W.drewN nq).heap[D]? = some (.deferred (some [])) from HK.out)
    have HBWq := Lib.hid (HBW.out.drewN nq)
    have HBq := Lib.hid (below_drewN HB.out nq)
    obtain ⟨Wq, hWq⟩ : ∃ Wq, W.drewN nq = Wq := ⟨_, rfl⟩
    rw [hWq] at c0q crq frq HCR HKq HBWq HBq ⊢
    clear hWq c0 cr fr ce co cf fe fo ff
    gi_loop [17, 18] (fun low i => ∃ (k : Nat) (r : Int), k ≤ N ∧ i = .int .i64 ((k : Int) - 1) ∧ low = .int .i64 r ∧ IsLow l k r) (fun low i => (intOf i + 1).toNat)
    case atStart => exact ⟨N, -1, Nat.le_refl _, rfl, rfl, .inl ⟨rfl, fun j h1 h2 => by rw [HL.out, HLen.out] at h2; omega⟩⟩
    case round =>
      obtain ⟨k, r, hk, rfl, rfl, hr⟩ := hrel
      have HR := Lib.hid hr
      clear hr
      by_cases hgo : 1 ≤ k ∧ (N : Int) - 400 < (k : Int) - 1
      · obtain ⟨q, rfl⟩ : ∃ q, k = q + 1 := ⟨k - 1, by omega⟩
        rw [show ((q + 1 : Nat) : Int) - 1 = (q : Int) by omega] at hgo ⊢
        have hq4 : (N : Int) - 400 < (q : Int) := hgo.2
        have hhas : has l (q : Int) = true := (has_iff l (q : Int)).2 ⟨by omega, by rw [HL.out]; omega⟩
        have HGE := Lib.hid (show getE l (q : Int) = 0 by unfold getE; rw [if_pos hhas])
        have HGV := Lib.hid (show getV l (q : Int) = bit l q by unfold getV; rw [hhas, Int.toNat_natCast]; rfl)
        clear hgo hhas
        cases hb : bit l q with
        | true =>
          have HR2 := Lib.hid (show IsLow l (q : Int) r from by
            have step : ∀ j : Nat, (q : Int) ≤ j → (((q + 1 : Nat) : Int) ≤ j → bit l j = true) → bit l j = true := fun j h1 h2 => by
              rcases Nat.eq_or_lt_of_le (show q ≤ j by omega) with h3 | h3
              · rw [← h3]; exact hb
              · exact h2 (by omega)
            rcases HR.out with ⟨h0, h1⟩ | ⟨t, h0, h1, h2, h3, h4⟩
            · exact .inl ⟨h0, fun j h5 h6 => step j h5 (fun h7 => h1 j h7 h6)⟩
            · exact .inr ⟨t, h0, by omega, h2, h3, fun j h5 h6 => step j h5 (fun h7 => h4 j h7 h6)⟩)
          rw [hb] at HGV
          clear hb
          gi_wp2_with (first
            | (refine ⟨trivial, ?_⟩; gi_at_call 14; refine (callsIn_wide.2 (get_any A len ca l HL.out (q : Int) _ HBWq.out hm)).mono ?_; rintro e' w' ⟨rfl, rfl⟩; rw [HGV.out, HGE.out])
            | (refine ⟨trivial, ?_⟩; gi_at_call 15; refine (callsIn_wide.2 (lowest_r A len ca l HL.out (q : Int) r HR2.out _ HBWq.out hm (by omega) (by omega))).mono ?_; rintro e' w' ⟨rfl, rfl⟩))
          go_round
          case rel => exact ⟨q, r, by omega, by go_num, rfl, HR2.out⟩
          case measure => simp [intOf]
        | false =>
          have HR2 := Lib.hid (show IsLow l (q : Int) (q : Int) from .inr ⟨q, rfl, Int.le_refl _, by rw [HL.out, HLen.out]; omega, hb, fun j h1 h2 => by omega⟩)
          rw [hb] at HGV
          clear hb
          gi_wp2_with (first
            | (refine ⟨trivial, ?_⟩; gi_at_call 14; refine (callsIn_wide.2 (get_any A len ca l HL.out (q : Int) _ HBWq.out hm)).mono ?_; rintro e' w' ⟨rfl, rfl⟩; rw [HGV.out, HGE.out])
            | (refine ⟨trivial, ?_⟩; gi_at_call 15; refine (callsIn_wide.2 (lowest_r A len ca l HL.out (q : Int) (q : Int) HR2.out _ HBWq.out hm (by omega) (by omega))).mono ?_; rintro e' w' ⟨rfl, rfl⟩))
          go_round
          case rel => exact ⟨q, (q : Int), by omega, by go_num, rfl, HR2.out⟩
          case measure => simp [intOf]
      · by_cases hk0 : k = 0
        · have hlt : (k : Int) - 1 < 0 := by omega
          clear hgo hk0
          gi_wp2
          have hK' := (KeepsOthers.setCell Wq ⟨w.heap.size + 1, 0, none⟩ (.bool true)).same D _ HKq.out rfl
          refine ⟨by simp, .inl ⟨_, _, rfl, run_takeDeferred hK', ?_⟩⟩
          have hc5 := cell_kept (World.cell?_setCell_same' Wq ⟨w.heap.size + 1, 0, none⟩ (.bool true) (by rw [HCR.out]; rfl)) (grownBy_putObj' _ D (.deferred none)) (fun r e => by cases e; exact ⟨_, hK', rfl⟩)
          refine ⟨.bool true, ?_, rfl, (HBq.out.setCell (p := ⟨w.heap.size + 1, 0, none⟩) (by show w.heap.size ≤ w.heap.size + 1; omega) _).trans (belowK_b (w := w) (Nat.le_refl _) _ D _ _ (by omega) hK' rfl rfl)⟩
          simp [results, Try.f5, go_sem, hc5]
        · have hge : (0 : Int) ≤ (k : Int) - 1 := by omega
          have hle : (k : Int) - 1 ≤ (N : Int) - 400 := by omega
          clear hgo hk0
          gi_wp2
          have hK' := (KeepsOthers.setCell Wq ⟨w.heap.size + 1, 0, none⟩ (.bool true)).same D _ HKq.out rfl
          refine ⟨by simp, .inl ⟨_, _, rfl, run_takeDeferred hK', ?_⟩⟩
          have hc5 := cell_kept (World.cell?_setCell_same' Wq ⟨w.heap.size + 1, 0, none⟩ (.bool true) (by rw [HCR.out]; rfl)) (grownBy_putObj' _ D (.deferred none)) (fun r e => by cases e; exact ⟨_, hK', rfl⟩)
          refine ⟨.bool true, ?_, rfl, (HBq.out.setCell (p := ⟨w.heap.size + 1, 0, none⟩) (by show w.heap.size ≤ w.heap.size + 1; omega) _).trans (belowK_b (w := w) (Nat.le_refl _) _ D _ _ (by omega) hK' rfl rfl)⟩
          simp [results, Try.f5, go_sem, hc5]
  case stop =>
    rintro D c pre W _ hp h _
    exact (h hp).elim
end Go.Proofs.Ytlpochabgdcidaa
