/-
  ARGUMENTS OF A STATEMENT, OPENED: rows of bytes; the form's own reach.
-/
import Derived.Test.YtlpochabgdcidaaFrame
import Derived.Test.YtlpochabgdcidaaMem
import Derived.SizedLaws
import Derived.Deep.Slices
import Derived.Lib.SmallJoins
set_option linter.unusedVariables false
set_option linter.unusedSimpArgs false
namespace Go.Proofs.Ytlpochabgdcidaa
open Go.ChangeShapes Go.WideShapes Go.ChangeAt Go.RowKit

theorem cellsU8 : Try.prog.cellsOf 5 = 1 := by kernel_rfl
theorem bytesU8 : Try.prog.bytesOf 5 = 1 := by kernel_rfl

/-- every weight of argument j is within the reach -/
theorem reach_of {H : Type} {ts : List TypeId} {ds : List (DataW H)} (h : (DataW.weightsEach Try.prog ts ds).all (· ≤ reachBytes) = true) {j : Nat} {t : TypeId} {d : DataW H} (ht : ts[j]? = some t) (hd : ds[j]? = some d) :
    ∀ n ∈ d.weights Try.prog t, n ≤ 140737488351232 := by
  intro n hn
  have := (List.all_eq_true.1 h) n (DataW.weights_mem_each ht hd n hn)
  exact of_decide_eq_true this

theorem addr_of_cell {w : World} {a : Addr} {v : Value} (h : w.cell? a = some v) : a = ⟨a.block, a.off, none⟩ := by
  cases a with
  | mk b o s =>
    cases s with
    | none => rfl
    | some s =>
      simp only [World.cell?] at h
      split at h
      · simp at h
      · cases h

theorem add_of_cell {w : World} {a : Addr} {v : Value} (h : w.cell? a = some v) (k : Nat) : a.add k = ⟨a.block, a.off + k, none⟩ := by
  have := addr_of_cell h
  unfold Addr.add
  split
  · rename_i hk; subst hk; rw [this]; rfl
  · rw [this]

/- BULK -/
theorem bulk_pos {H : Type} (d : DataW H) : 1 ≤ Rows.uptoBulk d := by
  cases d with
  | lit l => cases l <;> simp [Rows.uptoBulk]
  | _ => simp [Rows.uptoBulk]
theorem bulk_length {H : Type} (ds : List (DataW H)) : ds.length ≤ Rows.uptoBulkAll ds := by
  induction ds with
  | nil => simp [Rows.uptoBulkAll]
  | cons d r ih => have := bulk_pos d; simp only [Rows.uptoBulkAll, List.length_cons]; omega
theorem bulk_part {H : Type} {ds : List (DataW H)} {d : DataW H} (h : d ∈ ds) : Rows.uptoBulk d ≤ Rows.uptoBulkAll ds := by
  induction ds with
  | nil => cases h
  | cons x r ih =>
    simp only [Rows.uptoBulkAll]
    rcases List.mem_cons.1 h with rfl | h
    · omega
    · have := ih h; omega
theorem bulk_slice {H : Type} (e s : List (DataW H)) : e.length + s.length ≤ Rows.uptoBulk (DataW.slice e s) := by
  have := bulk_length e
  have := bulk_length s
  simp only [Rows.uptoBulk]; omega

/-- A row of bytes that came in, as it lies in a cell. -/
theorem open_bytes_cells {H : Type} {enc : TypeId × Value → H} {W : World} {fuel : Nat} {cs : List Value} {x : DataW H × List MemPlace}
    (hf : DataW.trod enc Try.prog W 0 (fun _ => true) true fuel 22 cs = some x) (hr : ∀ n ∈ x.1.weights Try.prog 22, n ≤ 140737488351232) :
    ∃ A cap l, cs = [.slice A l.length cap] ∧ Bytes W A l ∧ (A = none → cap = 0) ∧ l.length ≤ cap ∧ cap ≤ 140737488351232 ∧ l.length ≤ Rows.uptoBulk x.1 := by
  rcases open_ints Try.underlying22 Try.underlying5 cellsU8 hf with ⟨rfl, hx⟩ | ⟨a, len, cap, zs, rfl, _, hl, hm, hz, hx, hcell, hwz⟩
  · exact ⟨none, 0, [], rfl, .inl rfl, fun _ => rfl, Nat.le_refl _, by omega, Nat.zero_le _⟩
  · subst hx
    simp only [if_true] at hz
    have hw := hr ((zs.take len).length + (zs.drop len).length) (by simp [DataW.weights, Try.underlying22, bytesU8, lits])
    have hlen : ((zs.take len).map fun z => UInt8.ofNat z.toNat).length = len := by simp; omega
    refine ⟨some a, cap, (zs.take len).map fun z => UInt8.ofNat z.toNat, by rw [hlen], ?_, fun h => by (cases h), by rw [hlen]; exact hl, by simp at hw; omega, by rw [hlen]; have := bulk_slice (H := H) (lits .u8 (zs.take len)) (lits .u8 (zs.drop len)); simp [lits] at this ⊢; omega⟩
    by_cases h0 : len = 0
    · subst h0; exact .inl (by simp)
    · have hc0 := hcell 0 (by omega)
      have hc0 : W.cell? a = some (.int .u8 (zs.getD 0 0)) := hc0
      have ha := addr_of_cell hc0
      refine .inr ⟨a.block, a.off, by rw [← ha], fun k hk => ?_⟩
      rw [hlen] at hk
      rw [← add_of_cell hc0 k, hcell k (by omega)]
      have hb := bounds_u8 (hwz zs[k] (List.getElem_mem (by omega)))
      rw [List.getElem_map, List.getElem_take, ← n8_of _ hb.1 (by omega), List.getD_eq_getElem?_getD, List.getElem?_eq_getElem (by omega)]
      rfl

/-- A row of bytes that came in. -/
theorem open_bytes {H : Type} {enc : TypeId × Value → H} {W : World} {base : Nat} {v : Value} {d : DataW H} {p : List MemPlace} (hv : Value.okWide Try.prog W .any base 22 v)
    (h : DataW.Trod enc Try.prog W 0 (fun _ => true) true 22 v d p) (hr : ∀ n ∈ d.weights Try.prog 22, n ≤ 140737488351232) :
    ∃ A cap l, v = .slice A l.length cap ∧ Bytes W A l ∧ (A = none → cap = 0) ∧ l.length ≤ cap ∧ cap ≤ 140737488351232 ∧ l.length ≤ Rows.uptoBulk d := by
  obtain ⟨a0, len, cap, rfl⟩ := okWide_slice Try.underlying22 hv
  obtain ⟨fuel, hf⟩ := h
  obtain ⟨A, cap', l, hcs, r⟩ := open_bytes_cells hf hr
  simp [Value.cells] at hcs
  obtain ⟨rfl, rfl, rfl⟩ := hcs
  exact ⟨_, _, l, rfl, r⟩

theorem weights_all {H : Type} {e : TypeId} {ds : List (DataW H)} {d : DataW H} (h : d ∈ ds) : ∀ n ∈ d.weights Try.prog e, n ∈ DataW.weightsAll Try.prog e ds := by
  induction ds with
  | nil => cases h
  | cons x r ih =>
    intro n hn
    simp only [DataW.weightsAll, List.mem_append]
    rcases List.mem_cons.1 h with rfl | h
    · exact .inl hn
    · exact .inr (ih h n hn)
theorem cat_bulk {H : Type} (L : List Nat) (f : Nat → Piece) (D : Nat → DataW H) (h : ∀ i ∈ L, (f i).l.length ≤ Rows.uptoBulk (D i)) : (cat (L.map f)).length ≤ Rows.uptoBulkAll (L.map D) := by
  induction L with
  | nil => exact Nat.zero_le _
  | cons i r ih =>
    have h1 := h i (by simp)
    have h2 := ih (fun j hj => h j (by simp [hj]))
    simp only [List.map_cons, Rows.uptoBulkAll]
    unfold cat at h2 ⊢
    rw [List.flatMap_cons, List.length_append]
    omega

theorem cellsInt_ : Try.prog.cellsOf 3 = 1 := by kernel_rfl
theorem bytesInt_ : Try.prog.bytesOf 3 = 8 := by kernel_rfl
/-- A row of integers that came in. -/
theorem open_places {H : Type} {enc : TypeId × Value → H} {W : World} {base : Nat} {v : Value} {d : DataW H} {p : List MemPlace} (hv : Value.okWide Try.prog W .any base 45 v)
    (h : DataW.Trod enc Try.prog W 0 (fun _ => true) true 45 v d p) (hr : ∀ n ∈ d.weights Try.prog 45, n ≤ 140737488351232) :
    ∃ A cap l, v = .slice A l.length cap ∧ Ints W A l ∧ (A = none → cap = 0) ∧ l.length ≤ cap ∧ cap * 8 ≤ 140737488351232 ∧ l.length ≤ Rows.uptoBulk d ∧ ∀ z ∈ l, -9223372036854775808 ≤ z ∧ z ≤ 9223372036854775807 := by
  obtain ⟨a0, len, cap, rfl⟩ := okWide_slice Try.underlying45 hv
  obtain ⟨fuel, hf⟩ := h
  rcases open_ints Try.underlying45 Try.underlying3 cellsInt_ hf with ⟨hcs, hx⟩ | ⟨a, len', cap', zs, hcs, _, hl, hm, hz, hx, hcell, hwz⟩
  · simp [Value.cells] at hcs
    obtain ⟨rfl, rfl, rfl⟩ := hcs
    exact ⟨none, 0, [], rfl, .inl rfl, fun _ => rfl, Nat.le_refl _, by omega, Nat.zero_le _, fun z hz => by cases hz⟩
  · simp [Value.cells] at hcs
    obtain ⟨rfl, rfl, rfl⟩ := hcs
    simp only [Prod.mk.injEq] at hx
    obtain ⟨rfl, rfl⟩ := hx
    simp only [if_true] at hz
    have hw := hr (((zs.take len).length + (zs.drop len).length) * 8) (by simp [DataW.weights, Try.underlying45, bytesInt_, lits])
    have hlen : (zs.take len).length = len := by simp; omega
    refine ⟨some a, cap, zs.take len, by rw [hlen], ?_, fun h => by (cases h), by rw [hlen]; exact hl, by simp at hw; omega, by rw [hlen]; have := bulk_slice (H := H) (lits .i64 (zs.take len)) (lits .i64 (zs.drop len)); simp [lits] at this ⊢; omega, fun z hz => bounds_i64 (hwz z (List.mem_of_mem_take hz))⟩
    by_cases h0 : len = 0
    · subst h0; exact .inl (by simp)
    · have hc0 := hcell 0 (by omega)
      have hc0 : W.cell? a = some (.int .i64 (zs.getD 0 0)) := hc0
      have ha := addr_of_cell hc0
      refine .inr ⟨a.block, a.off, by rw [← ha], fun k hk => ?_⟩
      rw [hlen] at hk
      rw [← add_of_cell hc0 k, hcell k (by omega)]
      rw [List.getElem_take, List.getD_eq_getElem?_getD, List.getElem?_eq_getElem (by omega)]
      rfl
theorem cellsArr : Try.prog.cellsOf 36 = 2 := by kernel_rfl
theorem cellsInt : Try.prog.cellsOf 3 = 1 := by kernel_rfl
theorem open_two {H : Type} {enc : TypeId × Value → H} {W : World} {base : Nat} {v : Value} {d : DataW H} {p : List MemPlace} (hv : Value.okWide Try.prog W .any base 36 v)
    (h : DataW.Trod enc Try.prog W 0 (fun _ => true) true 36 v d p) : ∃ x y : Int, v = .agg #[.int .i64 x, .int .i64 y] := by
  simp only [Value.okWide, Try.underlying36] at hv
  obtain ⟨cs, rfl, hs, _⟩ := hv
  rw [cellsArr] at hs
  obtain ⟨c0, c1, rfl⟩ := Go.Joins.array2 hs
  obtain ⟨fuel, hf⟩ := h
  obtain ⟨xs, m, _, _, _, hl, hi⟩ := DataW.trod_array Try.underlying36 hf
  have h0 := hi 0 (by decide)
  have h1 := hi 1 (by decide)
  simp only [Value.cells, cellsInt] at h0 h1
  rw [List.getElem?_eq_getElem (by omega)] at h0 h1
  obtain ⟨x, ex, _⟩ := DataW.trod_int Try.underlying3 h0
  obtain ⟨y, ey, _⟩ := DataW.trod_int Try.underlying3 h1
  simp at ex ey
  exact ⟨x, y, by rw [ex, ey]⟩
end Go.Proofs.Ytlpochabgdcidaa
