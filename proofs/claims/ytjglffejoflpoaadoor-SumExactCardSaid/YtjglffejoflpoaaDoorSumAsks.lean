/-
  A ROW OF QUESTIONS THAT CAME IN, OPENED.
-/
import Derived.Test.YtjglffejoflpoaaDoorSumExactX
import Derived.Test.YtjglffejoflpoaaDoorArgs
import Derived.Deep.Fields
set_option linter.unusedVariables false
set_option linter.unusedSimpArgs false
namespace Go.Proofs.YtjglffejoflpoaaDoor
open Go.ChangeShapes Go.WideShapes Go.ChangeAt Go.RowKit

theorem cellsAsk : Tryd.prog.cellsOf 27 = 7 := by kernel_rfl
theorem bytesAsk : Tryd.prog.bytesOf 27 = 80 := by kernel_rfl

theorem ckI : Tryd.prog.cellsOf 3 = 1 := by kernel_rfl
theorem ckU : Tryd.prog.cellsOf 24 = 1 := by kernel_rfl
theorem ckB : Tryd.prog.cellsOf 25 = 1 := by kernel_rfl
theorem open_ask {H : Type} {enc : TypeId × Value → H} {W : World} {fuel : Nat} {cs : List Value} {x : DataW H × List MemPlace}
    (hf : DataW.trod enc Tryd.prog W 0 (fun _ => true) true fuel 27 cs = some x) (hr : ∀ n ∈ x.1.weights Tryd.prog 27, n ≤ 140737488351232) :
    ∃ q : Ask, cs = q.cells.toList ∧ q.Ok W := by
  obtain ⟨xs, n, _, rfl, hlen, hxl, hg⟩ := DataW.trod_struct Tryd.underlying27 hf
  rw [cellsAsk] at hlen
  match cs, hlen, xs, hxl with
  | [c0, c1, c2, c3, c4, c5, c6], _, [y0, y1, y2, y3, y4, y5, y6], _ =>
    have g0 : DataW.trod enc Tryd.prog W 0 (fun _ => true) true n 3 [c0] = some y0 := by
      have := hg 0 _ rfl
      simp [ckI] at this
      exact this
    have g1 : DataW.trod enc Tryd.prog W 0 (fun _ => true) true n 24 [c1] = some y1 := by
      have := hg 1 _ rfl
      simp [ckU] at this
      exact this
    have g2 : DataW.trod enc Tryd.prog W 0 (fun _ => true) true n 24 [c2] = some y2 := by
      have := hg 2 _ rfl
      simp [ckU] at this
      exact this
    have g3 : DataW.trod enc Tryd.prog W 0 (fun _ => true) true n 3 [c3] = some y3 := by
      have := hg 3 _ rfl
      simp [ckI] at this
      exact this
    have g4 : DataW.trod enc Tryd.prog W 0 (fun _ => true) true n 3 [c4] = some y4 := by
      have := hg 4 _ rfl
      simp [ckI] at this
      exact this
    have g5 : DataW.trod enc Tryd.prog W 0 (fun _ => true) true n 25 [c5] = some y5 := by
      have := hg 5 _ rfl
      simp [ckB] at this
      exact this
    have g6 : DataW.trod enc Tryd.prog W 0 (fun _ => true) true n 25 [c6] = some y6 := by
      have := hg 6 _ rfl
      simp [ckB] at this
      exact this
    clear hg
    have hw : ∀ m, m ∈ y5.1.weights Tryd.prog 25 ∨ m ∈ y6.1.weights Tryd.prog 25 → m ≤ 140737488351232 := by
      intro m hm
      refine hr m ?_
      simp only [DataW.weights, Tryd.underlying27, List.map_cons, List.map_nil, DataW.weightsEach, List.mem_append]
      rcases hm with hm | hm
      · exact .inr (.inr (.inr (.inr (.inr (.inl hm)))))
      · exact .inr (.inr (.inr (.inr (.inr (.inr (.inl hm))))))
    obtain ⟨z0, e0, _, _⟩ := DataW.trod_int Tryd.underlying3 g0
    obtain ⟨z1, e1, _, w1⟩ := DataW.trod_int Tryd.underlying24 g1
    obtain ⟨z2, e2, _, w2⟩ := DataW.trod_int Tryd.underlying24 g2
    obtain ⟨z3, e3, _, w3⟩ := DataW.trod_int Tryd.underlying3 g3
    obtain ⟨z4, e4, _, w4⟩ := DataW.trod_int Tryd.underlying3 g4
    obtain ⟨A5, p5, l5, e5, b5, n5, hl5, hc5, _⟩ := open_bytes_cells g5 (fun m hm => hw m (.inl hm))
    obtain ⟨A6, p6, l6, e6, b6, n6, hl6, hc6, _⟩ := open_bytes_cells g6 (fun m hm => hw m (.inr hm))
    injection e0 with e0; injection e1 with e1; injection e2 with e2; injection e3 with e3; injection e4 with e4; injection e5 with e5; injection e6 with e6
    subst e0 e1 e2 e3 e4 e5 e6
    have b1 := bounds_u32 w1
    have b2 := bounds_u32 w2
    have b3 := bounds_i64 w3
    have b4 := bounds_i64 w4
    refine ⟨⟨z0, BitVec.ofInt 32 z1, BitVec.ofInt 32 z2, z3, z4, ⟨A5, p5, l5⟩, ⟨A6, p6, l6⟩⟩, ?_, b5, b6, n5, n6, ?_, ?_, b3.1, b3.2, b4.1, b4.2⟩
    · show _ = [Value.int .i64 z0, .int .u32 (n32 (BitVec.ofInt 32 z1)), .int .u32 (n32 (BitVec.ofInt 32 z2)), .int .i64 z3, .int .i64 z4, .slice A5 l5.length p5, .slice A6 l6.length p6]
      rw [← n32_of z1 (by omega) (by omega), ← n32_of z2 (by omega) (by omega)]
    · show l5.length + 3 ≤ _; omega
    · show l6.length + 3 ≤ _; omega

/-- A row of questions that came in. -/
theorem open_asks {H : Type} {enc : TypeId × Value → H} {W : World} {base : Nat} {v : Value} {d : DataW H} {p : List MemPlace} (hv : Value.okWide Tryd.prog W .any base 22 v)
    (h : DataW.Trod enc Tryd.prog W 0 (fun _ => true) true 22 v d p) (hr : ∀ n ∈ d.weights Tryd.prog 22, n ≤ 140737488351232) :
    ∃ P cp qs, v = .slice P qs.length cp ∧ Asks W P qs ∧ qs.length ≤ 9223372036854775807 := by
  obtain ⟨a0, len, cap, rfl⟩ := okWide_slice Tryd.underlying22 hv
  obtain ⟨fuel, hf⟩ := h
  rcases Go.Deep.open_slice Tryd.underlying22 hf with ⟨hcs, hx⟩ | ⟨a, len', cap', m, n, D, Pl, hcs, _, hl, hmax, hm, hx, hi⟩
  · simp [Value.cells] at hcs
    obtain ⟨rfl, rfl, rfl⟩ := hcs
    exact ⟨none, 0, [], rfl, ⟨.inl rfl, fun p hp => by cases hp⟩, Nat.zero_le _⟩
  · simp [Value.cells] at hcs
    obtain ⟨rfl, rfl, rfl⟩ := hcs
    simp only [if_true] at hm
    subst hm
    simp only [Prod.mk.injEq] at hx
    obtain ⟨rfl, rfl⟩ := hx
    have key : ∀ i, ∃ q : Ask, i < len → (∀ j u, q.cells[j]? = some u → W.cell? (a.add (i * 7 + j)) = some u) ∧ q.Ok W := by
      intro i
      by_cases h : i < len
      · obtain ⟨cs', hc, ht⟩ := hi i (by omega)
        rw [cellsAsk] at hc
        obtain ⟨_, hcl, hat⟩ := World.cells?_some hc
        have hmem : D i ∈ (List.range len).map D := List.mem_map.2 ⟨i, by simpa using h, rfl⟩
        obtain ⟨q, rfl, hok⟩ := open_ask ht (fun n hn => hr n (by
          simp only [DataW.weights, Tryd.underlying22, List.mem_cons, List.mem_append]
          exact .inr (.inl (weights_all hmem n hn))))
        refine ⟨q, fun _ => ⟨fun j u hu => ?_, hok⟩⟩
        have hj : j < 7 := by
          rcases Nat.lt_or_ge j 7 with h7 | h7
          · exact h7
          · rw [Array.getElem?_eq_none (by exact h7)] at hu; cases hu
        have := hat j hj
        rw [← Go.Deep.add_add, this]
        simpa using hu
      · exact ⟨⟨0, 0, 0, 0, 0, ⟨none, 0, []⟩, ⟨none, 0, []⟩⟩, fun h' => absurd h' h⟩
    obtain ⟨f, hf'⟩ := Classical.axiomOfChoice key
    have hlen : ((List.range len).map f).length = len := by simp
    have hml : (9223372036854775807 : Nat) = maxLen := rfl
    refine ⟨some a, m, (List.range len).map f, by rw [hlen], ⟨?_, ?_⟩, by rw [hlen]; omega⟩
    · by_cases h0 : len = 0
      · subst h0; exact .inl rfl
      · have hc0 := (hf' 0 (by omega)).1 0 _ rfl
        have hc0 : W.cell? (a.add (0 * 7 + 0)) = _ := hc0
        have hc0 : W.cell? a = some _ := hc0
        have ha := addr_of_cell hc0
        refine .inr ⟨a.block, a.off, by rw [← ha], fun k hk i u hu => ?_⟩
        rw [hlen] at hk
        rw [Nat.add_assoc, ← add_of_cell hc0 (k * 7 + i)]
        refine (hf' k hk).1 i u ?_
        simpa using hu
    · intro q hq
      obtain ⟨i, hi2, rfl⟩ := List.mem_map.1 hq
      exact (hf' i (by simpa using hi2)).2
end Go.Proofs.YtjglffejoflpoaaDoor
