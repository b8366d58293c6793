/-
  A ROW OF CALLS ON BITS THAT CAME IN.
-/
import Derived.Test.YtlpochabgdcidaaBtS
import Derived.Test.YtlpochabgdcidaaArgs
set_option linter.unusedVariables false
set_option linter.unusedSimpArgs false
namespace Go.Proofs.Ytlpochabgdcidaa
open Go.ChangeShapes Go.WideShapes Go.ChangeAt Go.RowKit Bt

theorem ckInt : Try.prog.cellsOf 3 = 1 := by kernel_rfl
theorem ckBool : Try.prog.cellsOf 4 = 1 := by kernel_rfl
theorem cellsDeed : Try.prog.cellsOf 27 = 4 := by kernel_rfl
theorem open_deed {H : Type} {enc : TypeId × Value → H} {W : World} {fuel : Nat} {cs : List Value} {x : DataW H × List MemPlace}
    (hf : DataW.trod enc Try.prog W 0 (fun _ => true) true fuel 27 cs = some x) :
    ∃ q : Deed, cs = q.cells.toList ∧ q.Ok := by
  obtain ⟨xs, n, _, rfl, hlen, hxl, hg⟩ := DataW.trod_struct Try.underlying27 hf
  rw [cellsDeed] at hlen
  match cs, hlen, xs, hxl with
  | [c0, c1, c2, c3], _, [y0, y1, y2, y3], _ =>
    have g0 : DataW.trod enc Try.prog W 0 (fun _ => true) true n 3 [c0] = some y0 := by
      have := hg 0 _ rfl
      simp [ckInt] at this
      exact this
    have g1 : DataW.trod enc Try.prog W 0 (fun _ => true) true n 3 [c1] = some y1 := by
      have := hg 1 _ rfl
      simp [ckInt] at this
      exact this
    have g2 : DataW.trod enc Try.prog W 0 (fun _ => true) true n 3 [c2] = some y2 := by
      have := hg 2 _ rfl
      simp [ckInt] at this
      exact this
    have g3 : DataW.trod enc Try.prog W 0 (fun _ => true) true n 4 [c3] = some y3 := by
      have := hg 3 _ rfl
      simp [ckBool] at this
      exact this
    clear hg
    obtain ⟨z0, e0, _, w0⟩ := DataW.trod_int Try.underlying3 g0
    obtain ⟨z1, e1, _, w1⟩ := DataW.trod_int Try.underlying3 g1
    obtain ⟨z2, e2, _, w2⟩ := DataW.trod_int Try.underlying3 g2
    obtain ⟨z3, e3, _⟩ := DataW.trod_bool Try.underlying4 g3
    injection e0 with e0; injection e1 with e1; injection e2 with e2; injection e3 with e3
    subst e0 e1 e2 e3
    have b1 := bounds_i64 w1
    exact ⟨⟨z0, z1, z2, z3⟩, rfl, b1.1, b1.2⟩

/-- a row of calls lies at P -/
def Deeds (w : World) (P : Option Addr) (qs : List Deed) : Prop :=
  (qs = [] ∨ ∃ b off, P = some ⟨b, off, none⟩ ∧ ∀ k (h : k < qs.length), ∀ i v, qs[k].cells[i]? = some v → w.cell? ⟨b, off + k * 4 + i, none⟩ = some v) ∧ ∀ q ∈ qs, q.Ok
theorem Deeds.later {w w' : World} {P : Option Addr} {qs : List Deed} (h : Deeds w P qs) (hb : Below w.heap.size w w') : Deeds w' P qs := by
  refine ⟨?_, h.2⟩
  rcases h.1 with rfl | ⟨b, off, rfl, hc⟩
  · exact .inl rfl
  · exact .inr ⟨b, off, rfl, fun k hk i v hv => (hb.cell (p := ⟨b, off + k * 4 + i, none⟩) (block_lt_of_cell (hc k hk i v hv))).trans (hc k hk i v hv)⟩
theorem Deeds.at_ {w : World} {P : Option Addr} {qs : List Deed} (h : Deeds w P qs) {k : Nat} (hk : k < qs.length) :
    ∃ b off, P = some ⟨b, off, none⟩ ∧ (∀ i v, qs[k].cells[i]? = some v → w.cell? ⟨b, off + k * 4 + i, none⟩ = some v) ∧ qs[k].Ok := by
  rcases h.1 with rfl | ⟨b, off, rfl, hc⟩
  · simp at hk
  · exact ⟨b, off, rfl, hc k hk, h.2 _ (List.getElem_mem hk)⟩
theorem bytesDeed : Try.prog.bytesOf 27 = 32 := by kernel_rfl
theorem open_deeds {H : Type} {enc : TypeId × Value → H} {W : World} {base : Nat} {v : Value} {d : DataW H} {p : List MemPlace} (hv : Value.okWide Try.prog W .any base 23 v)
    (h : DataW.Trod enc Try.prog W 0 (fun _ => true) true 23 v d p) (hr : ∀ n ∈ d.weights Try.prog 23, n ≤ 140737488351232) :
    ∃ P cp qs, v = .slice P qs.length cp ∧ Deeds W P qs ∧ qs.length * 32 ≤ 140737488351232 := by
  obtain ⟨a0, len, cap, rfl⟩ := okWide_slice Try.underlying23 hv
  obtain ⟨fuel, hf⟩ := h
  rcases Go.Deep.open_slice Try.underlying23 hf with ⟨hcs, hx⟩ | ⟨a, len', cap', m, n, D, Pl, hcs, _, hl, hmax, hm, hx, hi⟩
  · simp [Value.cells] at hcs
    obtain ⟨rfl, rfl, rfl⟩ := hcs
    exact ⟨none, 0, [], rfl, ⟨.inl rfl, fun p hp => by cases hp⟩, Nat.zero_le _⟩
  · simp [Value.cells] at hcs
    obtain ⟨rfl, rfl, rfl⟩ := hcs
    simp only [if_true] at hm
    subst hm
    simp only [Prod.mk.injEq] at hx
    obtain ⟨rfl, rfl⟩ := hx
    have hw := hr (((List.range len).map D).length + ((List.range (m - len)).map fun j => D (len + j)).length |>.mul 32) (by simp [DataW.weights, Try.underlying23, bytesDeed])
    have key : ∀ i, ∃ q : Deed, i < len → (∀ j u, q.cells[j]? = some u → W.cell? (a.add (i * 4 + j)) = some u) ∧ q.Ok := by
      intro i
      by_cases h : i < len
      · obtain ⟨cs', hc, ht⟩ := hi i (by omega)
        rw [cellsDeed] at hc
        obtain ⟨_, hcl, hat⟩ := World.cells?_some hc
        obtain ⟨q, rfl, hok⟩ := open_deed ht
        refine ⟨q, fun _ => ⟨fun j u hu => ?_, hok⟩⟩
        have hj : j < 4 := by
          rcases Nat.lt_or_ge j 4 with h7 | h7
          · exact h7
          · rw [Array.getElem?_eq_none (by exact h7)] at hu; cases hu
        have := hat j hj
        rw [← Go.Deep.add_add, this]
        simpa using hu
      · exact ⟨⟨0, 0, 0, false⟩, fun h' => absurd h' h⟩
    obtain ⟨f, hf'⟩ := Classical.axiomOfChoice key
    have hlen : ((List.range len).map f).length = len := by simp
    refine ⟨some a, m, (List.range len).map f, by rw [hlen], ⟨?_, ?_⟩, by rw [hlen]; simp at hw; omega⟩
    · by_cases h0 : len = 0
      · subst h0; exact .inl rfl
      · have hc0 := (hf' 0 (by omega)).1 0 _ rfl
        have hc0 : W.cell? (a.add (0 * 4 + 0)) = _ := hc0
        have hc0 : W.cell? a = some _ := hc0
        have ha := addr_of_cell hc0
        refine .inr ⟨a.block, a.off, by rw [← ha], fun k hk i u hu => ?_⟩
        rw [hlen] at hk
        rw [Nat.add_assoc, ← add_of_cell hc0 (k * 4 + i)]
        refine (hf' k hk).1 i u ?_
        simpa using hu
    · intro q hq
      obtain ⟨i, hi2, rfl⟩ := List.mem_map.1 hq
      exact (hf' i (by simpa using hi2)).2
end Go.Proofs.Ytlpochabgdcidaa
