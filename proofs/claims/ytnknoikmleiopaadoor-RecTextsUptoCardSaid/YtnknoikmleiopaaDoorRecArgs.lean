/-
  ARGUMENTS OF THE STATEMENTS OVER rec, OPENED: texts, words of 64 bits, rows of calls, numbers, words.
-/
import Derived.Test.YtnknoikmleiopaaDoorArgs
import Derived.Test.YtnknoikmleiopaaDoorRecS
import Derived.ChangeMaps5
import Derived.Deep.Fields
set_option linter.unusedVariables false
set_option linter.unusedSimpArgs false
namespace Go.Proofs.YtnknoikmleiopaaDoor
open Go.ChangeShapes Go.WideShapes Go.ChangeAt Go.RowKit

theorem bounds_u64 {n : Int} (h : (Lit.int .u64 n).wf = true) : 0 ≤ n ∧ n ≤ 18446744073709551615 := by
  simp [Lit.wf, IntKind.min, IntKind.max, IntKind.signed, IntKind.bits] at h
  omega
theorem bytes_eta (s : ByteArray) : s = ⟨s.data.toList.toArray⟩ := by cases s; simp
theorem open_text {H : Type} {enc : TypeId × Value → H} {W : World} {base : Nat} {v : Value} {d : DataW H} {p : List MemPlace} (hv : Value.okWide Tryd.prog W .any base 9 v)
    (h : DataW.Trod enc Tryd.prog W 0 (fun _ => true) true 9 v d p) (hr : ∀ n ∈ d.weights Tryd.prog 9, n ≤ 140737488351232) : ∃ l : List UInt8, v = .string ⟨l.toArray⟩ ∧ l.length ≤ 140737488351232 := by
  obtain ⟨s, rfl, rfl, _, _⟩ := Go.ChangeMaps.open_string Tryd.underlying9 hv h
  refine ⟨s.data.toList, by rw [← bytes_eta], ?_⟩
  exact hr _ (by simp [DataW.weights])
theorem open_u64 {H : Type} {enc : TypeId × Value → H} {W : World} {base : Nat} {v : Value} {d : DataW H} {p : List MemPlace} (hv : Value.okWide Tryd.prog W .any base 26 v)
    (h : DataW.Trod enc Tryd.prog W 0 (fun _ => true) true 26 v d p) : ∃ n : Nat, v = .int .u64 (n : Int) ∧ n < 18446744073709551616 := by
  obtain ⟨z, rfl, _, _, hw⟩ := open_int Tryd.underlying26 hv h
  have hb := bounds_u64 hw
  obtain ⟨n, rfl⟩ := Int.eq_ofNat_of_zero_le hb.1
  exact ⟨n, rfl, by omega⟩

theorem ckStr : Tryd.prog.cellsOf 9 = 1 := by kernel_rfl
theorem ckInt : Tryd.prog.cellsOf 3 = 1 := by kernel_rfl
theorem ckU64 : Tryd.prog.cellsOf 26 = 1 := by kernel_rfl
theorem cellsOp : Tryd.prog.cellsOf 28 = 5 := by kernel_rfl
theorem open_play {H : Type} {enc : TypeId × Value → H} {W : World} {fuel : Nat} {cs : List Value} {x : DataW H × List MemPlace}
    (hf : DataW.trod enc Tryd.prog W 0 (fun _ => true) true fuel 28 cs = some x) (hr : ∀ n ∈ x.1.weights Tryd.prog 28, n ≤ 140737488351232) :
    ∃ q : Play, cs = q.cells.toList ∧ q.Ok := by
  obtain ⟨xs, n, _, rfl, hlen, hxl, hg⟩ := DataW.trod_struct Tryd.underlying28 hf
  rw [cellsOp] at hlen
  match cs, hlen, xs, hxl with
  | [c0, c1, c2, c3, c4], _, [y0, y1, y2, y3, y4], _ =>
    have g0 : DataW.trod enc Tryd.prog W 0 (fun _ => true) true n 3 [c0] = some y0 := by
      have := hg 0 _ rfl
      simp [ckInt] at this
      exact this
    have g1 : DataW.trod enc Tryd.prog W 0 (fun _ => true) true n 3 [c1] = some y1 := by
      have := hg 1 _ rfl
      simp [ckInt] at this
      exact this
    have g2 : DataW.trod enc Tryd.prog W 0 (fun _ => true) true n 3 [c2] = some y2 := by
      have := hg 2 _ rfl
      simp [ckInt] at this
      exact this
    have g3 : DataW.trod enc Tryd.prog W 0 (fun _ => true) true n 26 [c3] = some y3 := by
      have := hg 3 _ rfl
      simp [ckU64] at this
      exact this
    have g4 : DataW.trod enc Tryd.prog W 0 (fun _ => true) true n 9 [c4] = some y4 := by
      have := hg 4 _ rfl
      simp [ckStr] at this
      exact this
    clear hg
    have hw : ∀ m, m ∈ y4.1.weights Tryd.prog 9 → m ≤ 140737488351232 := by
      intro m hm
      refine hr m ?_
      simp only [DataW.weights, Tryd.underlying28, List.map_cons, List.map_nil, DataW.weightsEach, List.mem_append]
      exact .inr (.inr (.inr (.inr (.inl hm))))
    obtain ⟨z0, e0, _, w0⟩ := DataW.trod_int Tryd.underlying3 g0
    obtain ⟨z1, e1, _, w1⟩ := DataW.trod_int Tryd.underlying3 g1
    obtain ⟨z2, e2, _, w2⟩ := DataW.trod_int Tryd.underlying3 g2
    obtain ⟨z3, e3, _, w3⟩ := DataW.trod_int Tryd.underlying26 g3
    obtain ⟨s4, e4, hx4, _⟩ := DataW.trod_string Tryd.underlying9 g4
    injection e0 with e0; injection e1 with e1; injection e2 with e2; injection e3 with e3; injection e4 with e4
    subst e0 e1 e2 e3 e4
    subst hx4
    have b0 := bounds_i64 w0
    have b1 := bounds_i64 w1
    have b2 := bounds_i64 w2
    have b3 := bounds_u64 w3
    obtain ⟨v, rfl⟩ := Int.eq_ofNat_of_zero_le b3.1
    have hs := hw s4.data.toList.length (by simp [DataW.weights])
    refine ⟨⟨z0, z1, z2, v, s4.data.toList⟩, ?_, b0.1, b0.2, b1.1, b1.2, b2.1, b2.2, by show v < _; omega, by show s4.data.toList.length ≤ _; omega⟩
    show _ = [Value.int .i64 z0, .int .i64 z1, .int .i64 z2, .int .u64 (v : Int), .string ⟨s4.data.toList.toArray⟩]
    rw [← bytes_eta]

/-- a row of calls lies at P -/
def Plays (w : World) (P : Option Addr) (qs : List Play) : Prop :=
  (qs = [] ∨ ∃ b off, P = some ⟨b, off, none⟩ ∧ ∀ k (h : k < qs.length), ∀ i v, qs[k].cells[i]? = some v → w.cell? ⟨b, off + k * 5 + i, none⟩ = some v) ∧ ∀ q ∈ qs, q.Ok
theorem Plays.later {w w' : World} {P : Option Addr} {qs : List Play} (h : Plays w P qs) (hb : Below w.heap.size w w') : Plays w' P qs := by
  refine ⟨?_, h.2⟩
  rcases h.1 with rfl | ⟨b, off, rfl, hc⟩
  · exact .inl rfl
  · exact .inr ⟨b, off, rfl, fun k hk i v hv => (hb.cell (p := ⟨b, off + k * 5 + i, none⟩) (block_lt_of_cell (hc k hk i v hv))).trans (hc k hk i v hv)⟩
theorem Plays.at_ {w : World} {P : Option Addr} {qs : List Play} (h : Plays w P qs) {k : Nat} (hk : k < qs.length) :
    ∃ b off, P = some ⟨b, off, none⟩ ∧ (∀ i v, qs[k].cells[i]? = some v → w.cell? ⟨b, off + k * 5 + i, none⟩ = some v) ∧ qs[k].Ok := by
  rcases h.1 with rfl | ⟨b, off, rfl, hc⟩
  · simp at hk
  · exact ⟨b, off, rfl, hc k hk, h.2 _ (List.getElem_mem hk)⟩
theorem bytesOp : Tryd.prog.bytesOf 28 = 48 := by kernel_rfl
/-- A row of calls that came in. -/
theorem open_plays {H : Type} {enc : TypeId × Value → H} {W : World} {base : Nat} {v : Value} {d : DataW H} {p : List MemPlace} (hv : Value.okWide Tryd.prog W .any base 23 v)
    (h : DataW.Trod enc Tryd.prog W 0 (fun _ => true) true 23 v d p) (hr : ∀ n ∈ d.weights Tryd.prog 23, n ≤ 140737488351232) :
    ∃ P cp qs, v = .slice P qs.length cp ∧ Plays W P qs ∧ qs.length * 48 ≤ 140737488351232 := by
  obtain ⟨a0, len, cap, rfl⟩ := okWide_slice Tryd.underlying23 hv
  obtain ⟨fuel, hf⟩ := h
  rcases Go.Deep.open_slice Tryd.underlying23 hf with ⟨hcs, hx⟩ | ⟨a, len', cap', m, n, D, Pl, hcs, _, hl, hmax, hm, hx, hi⟩
  · simp [Value.cells] at hcs
    obtain ⟨rfl, rfl, rfl⟩ := hcs
    exact ⟨none, 0, [], rfl, ⟨.inl rfl, fun p hp => by cases hp⟩, Nat.zero_le _⟩
  · simp [Value.cells] at hcs
    obtain ⟨rfl, rfl, rfl⟩ := hcs
    simp only [if_true] at hm
    subst hm
    simp only [Prod.mk.injEq] at hx
    obtain ⟨rfl, rfl⟩ := hx
    have hw := hr (((List.range len).map D).length + ((List.range (m - len)).map fun j => D (len + j)).length |>.mul 48) (by simp [DataW.weights, Tryd.underlying23, bytesOp])
    have key : ∀ i, ∃ q : Play, i < len → (∀ j u, q.cells[j]? = some u → W.cell? (a.add (i * 5 + j)) = some u) ∧ q.Ok := by
      intro i
      by_cases h : i < len
      · obtain ⟨cs', hc, ht⟩ := hi i (by omega)
        rw [cellsOp] at hc
        obtain ⟨_, hcl, hat⟩ := World.cells?_some hc
        have hmem : D i ∈ (List.range len).map D := List.mem_map.2 ⟨i, by simpa using h, rfl⟩
        obtain ⟨q, rfl, hok⟩ := open_play ht (fun n hn => hr n (by
          simp only [DataW.weights, Tryd.underlying23, List.mem_cons, List.mem_append]
          exact .inr (.inl (weights_all hmem n hn))))
        refine ⟨q, fun _ => ⟨fun j u hu => ?_, hok⟩⟩
        have hj : j < 5 := by
          rcases Nat.lt_or_ge j 5 with h7 | h7
          · exact h7
          · rw [Array.getElem?_eq_none (by exact h7)] at hu; cases hu
        have := hat j hj
        rw [← Go.Deep.add_add, this]
        simpa using hu
      · exact ⟨⟨0, 0, 0, 0, []⟩, fun h' => absurd h' h⟩
    obtain ⟨f, hf'⟩ := Classical.axiomOfChoice key
    have hlen : ((List.range len).map f).length = len := by simp
    refine ⟨some a, m, (List.range len).map f, by rw [hlen], ⟨?_, ?_⟩, by rw [hlen]; simp at hw; omega⟩
    · by_cases h0 : len = 0
      · subst h0; exact .inl rfl
      · have hc0 := (hf' 0 (by omega)).1 0 _ rfl
        have hc0 : W.cell? (a.add (0 * 5 + 0)) = _ := hc0
        have hc0 : W.cell? a = some _ := hc0
        have ha := addr_of_cell hc0
        refine .inr ⟨a.block, a.off, by rw [← ha], fun k hk i u hu => ?_⟩
        rw [hlen] at hk
        rw [Nat.add_assoc, ← add_of_cell hc0 (k * 5 + i)]
        refine (hf' k hk).1 i u ?_
        simpa using hu
    · intro q hq
      obtain ⟨i, hi2, rfl⟩ := List.mem_map.1 hq
      exact (hf' i (by simpa using hi2)).2
theorem cellsNum : Tryd.prog.cellsOf 39 = 2 := by kernel_rfl
theorem open_num {H : Type} {enc : TypeId × Value → H} {W : World} {base : Nat} {v : Value} {d : DataW H} {p : List MemPlace} (hv : Value.okWide Tryd.prog W .any base 39 v)
    (h : DataW.Trod enc Tryd.prog W 0 (fun _ => true) true 39 v d p) : ∃ (k : Int) (V : Nat), v = .agg #[.int .i64 k, .int .u64 (V : Int)] ∧ -9223372036854775808 ≤ k ∧ k ≤ 9223372036854775807 ∧ V < 18446744073709551616 := by
  simp only [Value.okWide, Tryd.underlying39] at hv
  obtain ⟨cs, rfl, hs, _⟩ := hv
  rw [cellsNum] at hs
  obtain ⟨c0, c1, rfl⟩ := Go.Joins.array2 hs
  obtain ⟨fuel, hf⟩ := h
  obtain ⟨xs, n, _, _, _, hxl, hg⟩ := DataW.trod_struct Tryd.underlying39 hf
  match xs, hxl with
  | [y0, y1], _ =>
    have g0 : DataW.trod enc Tryd.prog W 0 (fun _ => true) true n 3 [c0] = some y0 := by
      have := hg 0 _ rfl
      simp [ckInt, Value.cells] at this
      exact this
    have g1 : DataW.trod enc Tryd.prog W 0 (fun _ => true) true n 26 [c1] = some y1 := by
      have := hg 1 _ rfl
      simp [ckU64, Value.cells] at this
      exact this
    obtain ⟨z0, e0, _, w0⟩ := DataW.trod_int Tryd.underlying3 g0
    obtain ⟨z1, e1, _, w1⟩ := DataW.trod_int Tryd.underlying26 g1
    injection e0 with e0; injection e1 with e1
    subst e0 e1
    have b0 := bounds_i64 w0
    have b1 := bounds_u64 w1
    obtain ⟨V, rfl⟩ := Int.eq_ofNat_of_zero_le b1.1
    exact ⟨z0, V, rfl, b0.1, b0.2, by omega⟩
theorem cellsWord : Tryd.prog.cellsOf 47 = 2 := by kernel_rfl
theorem open_word {H : Type} {enc : TypeId × Value → H} {W : World} {base : Nat} {v : Value} {d : DataW H} {p : List MemPlace} (hv : Value.okWide Tryd.prog W .any base 47 v)
    (h : DataW.Trod enc Tryd.prog W 0 (fun _ => true) true 47 v d p) : ∃ (s : List UInt8) (k : Int), v = .agg #[.string ⟨s.toArray⟩, .int .i64 k] ∧ -9223372036854775808 ≤ k ∧ k ≤ 9223372036854775807 ∧ s.length ≤ Rows.uptoBulk d := by
  simp only [Value.okWide, Tryd.underlying47] at hv
  obtain ⟨cs, rfl, hs, _⟩ := hv
  rw [cellsWord] at hs
  obtain ⟨c0, c1, rfl⟩ := Go.Joins.array2 hs
  obtain ⟨fuel, hf⟩ := h
  obtain ⟨xs, n, _, hx, _, hxl, hg⟩ := DataW.trod_struct Tryd.underlying47 hf
  match xs, hxl with
  | [y0, y1], _ =>
    have g0 : DataW.trod enc Tryd.prog W 0 (fun _ => true) true n 9 [c0] = some y0 := by
      have := hg 0 _ rfl
      simp [ckStr, Value.cells] at this
      exact this
    have g1 : DataW.trod enc Tryd.prog W 0 (fun _ => true) true n 3 [c1] = some y1 := by
      have := hg 1 _ rfl
      simp [ckInt, Value.cells] at this
      exact this
    obtain ⟨z0, e0, hx0, _⟩ := DataW.trod_string Tryd.underlying9 g0
    obtain ⟨z1, e1, _, w1⟩ := DataW.trod_int Tryd.underlying3 g1
    injection e0 with e0; injection e1 with e1
    subst e0 e1
    have b1 := bounds_i64 w1
    injection hx with hx _
    subst hx
    subst hx0
    refine ⟨z0.data.toList, z1, by rw [← bytes_eta], b1.1, b1.2, ?_⟩
    simp only [List.map_cons, Rows.uptoBulk, Rows.uptoBulkAll]
    omega
end Go.Proofs.YtnknoikmleiopaaDoor
