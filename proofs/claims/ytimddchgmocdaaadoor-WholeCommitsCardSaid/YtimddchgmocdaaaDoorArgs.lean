/-
  ARGUMENTS OF A STATEMENT, OPENED: rows of bytes; the form's own reach.
-/
import Derived.Test.YtimddchgmocdaaaDoorFrame
import Derived.Test.YtimddchgmocdaaaDoorMem
import Derived.SizedLaws
import Derived.Deep.Slices
import Derived.Lib.SmallJoins
set_option linter.unusedVariables false
set_option linter.unusedSimpArgs false
set_option maxRecDepth 100000
namespace Go.Proofs.YtimddchgmocdaaaDoor
open Go.ChangeShapes Go.WideShapes Go.ChangeAt Go.RowKit

theorem cellsU8 : Tryd.prog.cellsOf 5 = 1 := by kernel_rfl
theorem bytesU8 : Tryd.prog.bytesOf 5 = 1 := by kernel_rfl

/-- every weight of argument j is within the reach -/
theorem reach_of {H : Type} {ts : List TypeId} {ds : List (DataW H)} (h : (DataW.weightsEach Tryd.prog ts ds).all (· ≤ reachBytes) = true) {j : Nat} {t : TypeId} {d : DataW H} (ht : ts[j]? = some t) (hd : ds[j]? = some d) :
    ∀ n ∈ d.weights Tryd.prog t, n ≤ 140737488351232 := by
  intro n hn
  have := (List.all_eq_true.1 h) n (DataW.weights_mem_each ht hd n hn)
  exact of_decide_eq_true this

theorem addr_of_cell {w : World} {a : Addr} {v : Value} (h : w.cell? a = some v) : a = ⟨a.block, a.off, none⟩ := by
  cases a with
  | mk b o s =>
    cases s with
    | none => rfl
    | some s =>
      simp only [World.cell?] at h
      split at h
      · simp at h
      · cases h

theorem add_of_cell {w : World} {a : Addr} {v : Value} (h : w.cell? a = some v) (k : Nat) : a.add k = ⟨a.block, a.off + k, none⟩ := by
  have := addr_of_cell h
  unfold Addr.add
  split
  · rename_i hk; subst hk; rw [this]; rfl
  · rw [this]

/- BULK -/
theorem bulk_pos {H : Type} (d : DataW H) : 1 ≤ Rows.uptoBulk d := by
  cases d with
  | lit l => cases l <;> simp [Rows.uptoBulk]
  | _ => simp [Rows.uptoBulk]
theorem bulk_length {H : Type} (ds : List (DataW H)) : ds.length ≤ Rows.uptoBulkAll ds := by
  induction ds with
  | nil => simp [Rows.uptoBulkAll]
  | cons d r ih => have := bulk_pos d; simp only [Rows.uptoBulkAll, List.length_cons]; omega
theorem bulk_part {H : Type} {ds : List (DataW H)} {d : DataW H} (h : d ∈ ds) : Rows.uptoBulk d ≤ Rows.uptoBulkAll ds := by
  induction ds with
  | nil => cases h
  | cons x r ih =>
    simp only [Rows.uptoBulkAll]
    rcases List.mem_cons.1 h with rfl | h
    · omega
    · have := ih h; omega
theorem bulk_slice {H : Type} (e s : List (DataW H)) : e.length + s.length ≤ Rows.uptoBulk (DataW.slice e s) := by
  have := bulk_length e
  have := bulk_length s
  simp only [Rows.uptoBulk]; omega

/-- A row of bytes that came in, as it lies in a cell. -/
theorem open_bytes_cells {H : Type} {enc : TypeId × Value → H} {W : World} {fuel : Nat} {cs : List Value} {x : DataW H × List MemPlace}
    (hf : DataW.trod enc Tryd.prog W 0 (fun _ => true) true fuel 42 cs = some x) (hr : ∀ n ∈ x.1.weights Tryd.prog 42, n ≤ 140737488351232) :
    ∃ A cap l, cs = [.slice A l.length cap] ∧ Bytes W A l ∧ (A = none → cap = 0) ∧ l.length ≤ cap ∧ cap ≤ 140737488351232 ∧ l.length ≤ Rows.uptoBulk x.1 := by
  rcases open_ints Tryd.underlying42 Tryd.underlying5 cellsU8 hf with ⟨rfl, hx⟩ | ⟨a, len, cap, zs, rfl, _, hl, hm, hz, hx, hcell, hwz⟩
  · exact ⟨none, 0, [], rfl, .inl rfl, fun _ => rfl, Nat.le_refl _, by omega, Nat.zero_le _⟩
  · subst hx
    simp only [if_true] at hz
    have hw := hr ((zs.take len).length + (zs.drop len).length) (by simp [DataW.weights, Tryd.underlying42, bytesU8, lits])
    have hlen : ((zs.take len).map fun z => UInt8.ofNat z.toNat).length = len := by simp; omega
    refine ⟨some a, cap, (zs.take len).map fun z => UInt8.ofNat z.toNat, by rw [hlen], ?_, fun h => by (cases h), by rw [hlen]; exact hl, by simp at hw; omega, by rw [hlen]; have := bulk_slice (H := H) (lits .u8 (zs.take len)) (lits .u8 (zs.drop len)); simp [lits] at this ⊢; omega⟩
    by_cases h0 : len = 0
    · subst h0; exact .inl (by simp)
    · have hc0 := hcell 0 (by omega)
      have hc0 : W.cell? a = some (.int .u8 (zs.getD 0 0)) := hc0
      have ha := addr_of_cell hc0
      refine .inr ⟨a.block, a.off, by rw [← ha], fun k hk => ?_⟩
      rw [hlen] at hk
      rw [← add_of_cell hc0 k, hcell k (by omega)]
      have hb := bounds_u8 (hwz zs[k] (List.getElem_mem (by omega)))
      rw [List.getElem_map, List.getElem_take, ← n8_of _ hb.1 (by omega), List.getD_eq_getElem?_getD, List.getElem?_eq_getElem (by omega)]
      rfl

/-- A row of bytes that came in. -/
theorem open_bytes {H : Type} {enc : TypeId × Value → H} {W : World} {base : Nat} {v : Value} {d : DataW H} {p : List MemPlace} (hv : Value.okWide Tryd.prog W .any base 42 v)
    (h : DataW.Trod enc Tryd.prog W 0 (fun _ => true) true 42 v d p) (hr : ∀ n ∈ d.weights Tryd.prog 42, n ≤ 140737488351232) :
    ∃ A cap l, v = .slice A l.length cap ∧ Bytes W A l ∧ (A = none → cap = 0) ∧ l.length ≤ cap ∧ cap ≤ 140737488351232 ∧ l.length ≤ Rows.uptoBulk d := by
  obtain ⟨a0, len, cap, rfl⟩ := okWide_slice Tryd.underlying42 hv
  obtain ⟨fuel, hf⟩ := h
  obtain ⟨A, cap', l, hcs, r⟩ := open_bytes_cells hf hr
  simp [Value.cells] at hcs
  obtain ⟨rfl, rfl, rfl⟩ := hcs
  exact ⟨_, _, l, rfl, r⟩

theorem weights_all {H : Type} {e : TypeId} {ds : List (DataW H)} {d : DataW H} (h : d ∈ ds) : ∀ n ∈ d.weights Tryd.prog e, n ∈ DataW.weightsAll Tryd.prog e ds := by
  induction ds with
  | nil => cases h
  | cons x r ih =>
    intro n hn
    simp only [DataW.weightsAll, List.mem_append]
    rcases List.mem_cons.1 h with rfl | h
    · exact .inl hn
    · exact .inr (ih h n hn)
theorem cat_bulk {H : Type} (L : List Nat) (f : Nat → Piece) (D : Nat → DataW H) (h : ∀ i ∈ L, (f i).l.length ≤ Rows.uptoBulk (D i)) : (cat (L.map f)).length ≤ Rows.uptoBulkAll (L.map D) := by
  induction L with
  | nil => exact Nat.zero_le _
  | cons i r ih =>
    have h1 := h i (by simp)
    have h2 := ih (fun j hj => h j (by simp [hj]))
    simp only [List.map_cons, Rows.uptoBulkAll]
    unfold cat at h2 ⊢
    rw [List.flatMap_cons, List.length_append]
    omega

theorem cellsInt_ : Tryd.prog.cellsOf 3 = 1 := by kernel_rfl
theorem bytesInt_ : Tryd.prog.bytesOf 3 = 8 := by kernel_rfl
/-- A row of integers that came in. -/
theorem open_places {H : Type} {enc : TypeId × Value → H} {W : World} {base : Nat} {v : Value} {d : DataW H} {p : List MemPlace} (hv : Value.okWide Tryd.prog W .any base 28 v)
    (h : DataW.Trod enc Tryd.prog W 0 (fun _ => true) true 28 v d p) (hr : ∀ n ∈ d.weights Tryd.prog 28, n ≤ 140737488351232) :
    ∃ A cap l, v = .slice A l.length cap ∧ Ints W A l ∧ (A = none → cap = 0) ∧ l.length ≤ cap ∧ cap * 8 ≤ 140737488351232 ∧ l.length ≤ Rows.uptoBulk d ∧ ∀ z ∈ l, -9223372036854775808 ≤ z ∧ z ≤ 9223372036854775807 := by
  obtain ⟨a0, len, cap, rfl⟩ := okWide_slice Tryd.underlying28 hv
  obtain ⟨fuel, hf⟩ := h
  rcases open_ints Tryd.underlying28 Tryd.underlying3 cellsInt_ hf with ⟨hcs, hx⟩ | ⟨a, len', cap', zs, hcs, _, hl, hm, hz, hx, hcell, hwz⟩
  · simp [Value.cells] at hcs
    obtain ⟨rfl, rfl, rfl⟩ := hcs
    exact ⟨none, 0, [], rfl, .inl rfl, fun _ => rfl, Nat.le_refl _, by omega, Nat.zero_le _, fun z hz => by cases hz⟩
  · simp [Value.cells] at hcs
    obtain ⟨rfl, rfl, rfl⟩ := hcs
    simp only [Prod.mk.injEq] at hx
    obtain ⟨rfl, rfl⟩ := hx
    simp only [if_true] at hz
    have hw := hr (((zs.take len).length + (zs.drop len).length) * 8) (by simp [DataW.weights, Tryd.underlying28, bytesInt_, lits])
    have hlen : (zs.take len).length = len := by simp; omega
    refine ⟨some a, cap, zs.take len, by rw [hlen], ?_, fun h => by (cases h), by rw [hlen]; exact hl, by simp at hw; omega, by rw [hlen]; have := bulk_slice (H := H) (lits .i64 (zs.take len)) (lits .i64 (zs.drop len)); simp [lits] at this ⊢; omega, fun z hz => bounds_i64 (hwz z (List.mem_of_mem_take hz))⟩
    by_cases h0 : len = 0
    · subst h0; exact .inl (by simp)
    · have hc0 := hcell 0 (by omega)
      have hc0 : W.cell? a = some (.int .i64 (zs.getD 0 0)) := hc0
      have ha := addr_of_cell hc0
      refine .inr ⟨a.block, a.off, by rw [← ha], fun k hk => ?_⟩
      rw [hlen] at hk
      rw [← add_of_cell hc0 k, hcell k (by omega)]
      rw [List.getElem_take, List.getD_eq_getElem?_getD, List.getElem?_eq_getElem (by omega)]
      rfl
theorem cellsBytes_ : Tryd.prog.cellsOf 42 = 1 := by kernel_rfl
theorem bytesBytes_ : Tryd.prog.bytesOf 42 = 24 := by kernel_rfl
/-- A row of rows of bytes that came in. -/
theorem open_pieces {H : Type} {enc : TypeId × Value → H} {W : World} {base : Nat} {v : Value} {d : DataW H} {p : List MemPlace} (hv : Value.okWide Tryd.prog W .any base 87 v)
    (h : DataW.Trod enc Tryd.prog W 0 (fun _ => true) true 87 v d p) (hr : ∀ n ∈ d.weights Tryd.prog 87, n ≤ 140737488351232) :
    ∃ P cp ps, v = .slice P ps.length cp ∧ Pieces W P ps ∧ ps.length ≤ cp ∧ cp * 24 ≤ 140737488351232 ∧ (cat ps).length ≤ Rows.uptoBulk d := by
  obtain ⟨a0, len, cap, rfl⟩ := okWide_slice Tryd.underlying87 hv
  obtain ⟨fuel, hf⟩ := h
  rcases Go.Deep.open_slice Tryd.underlying87 hf with ⟨hcs, hx⟩ | ⟨a, len', cap', m, n, D, Pl, hcs, _, hl, hmax, hm, hx, hi⟩
  · simp [Value.cells] at hcs
    obtain ⟨rfl, rfl, rfl⟩ := hcs
    exact ⟨none, 0, [], rfl, ⟨.inl rfl, fun p hp => by cases hp⟩, Nat.le_refl _, by omega, Nat.zero_le _⟩
  · simp [Value.cells] at hcs
    obtain ⟨rfl, rfl, rfl⟩ := hcs
    simp only [if_true] at hm
    subst hm
    simp only [Prod.mk.injEq] at hx
    obtain ⟨rfl, rfl⟩ := hx
    have hw := hr (((List.range len).map D).length + ((List.range (m - len)).map fun j => D (len + j)).length |>.mul 24) (by simp [DataW.weights, Tryd.underlying87, bytesBytes_])
    have key : ∀ i, ∃ q : Piece, i < len → W.cell? (a.add i) = some (.slice q.A q.l.length q.cap) ∧ Bytes W q.A q.l ∧ (q.A = none → q.cap = 0) ∧ q.l.length ≤ Rows.uptoBulk (D i) := by
      intro i
      by_cases h : i < len
      · obtain ⟨cs', hc, ht⟩ := hi i (by omega)
        rw [cellsBytes_, Nat.mul_one] at hc
        obtain ⟨_, hcl, hat⟩ := World.cells?_some hc
        have hmem : D i ∈ (List.range len).map D := List.mem_map.2 ⟨i, by simpa using h, rfl⟩
        obtain ⟨A, cp, l, rfl, hb, hn, _, _, hu⟩ := open_bytes_cells ht (fun n hn => hr n (by
          simp only [DataW.weights, Tryd.underlying87, List.mem_cons, List.mem_append]
          exact .inr (.inl (weights_all hmem n hn))))
        have h0 := hat 0 (by decide)
        exact ⟨⟨A, cp, l⟩, fun _ => ⟨by simpa [Addr.add] using h0, hb, hn, hu⟩⟩
      · exact ⟨⟨none, 0, []⟩, fun h' => absurd h' h⟩
    obtain ⟨f, hf'⟩ := Classical.axiomOfChoice key
    have hlen : ((List.range len).map f).length = len := by simp
    refine ⟨some a, m, (List.range len).map f, by rw [hlen], ⟨?_, ?_⟩, by rw [hlen]; exact hl, by simp at hw; omega, ?_⟩
    · by_cases h0 : len = 0
      · subst h0; exact .inl rfl
      · have hc0 := (hf' 0 (by omega)).1
        have hc0 : W.cell? a = _ := hc0
        have ha := addr_of_cell hc0
        refine .inr ⟨a.block, a.off, by rw [← ha], fun k hk => ?_⟩
        rw [hlen] at hk
        rw [← add_of_cell hc0 k, (hf' k hk).1]
        simp
    · intro q hq
      obtain ⟨i, hi2, rfl⟩ := List.mem_map.1 hq
      have := hf' i (by simpa using hi2)
      exact ⟨this.2.1, this.2.2.1⟩
    · have := cat_bulk (List.range len) f D (fun i hi2 => (hf' i (by simpa using hi2)).2.2.2)
      simp only [Rows.uptoBulk]
      omega
end Go.Proofs.YtimddchgmocdaaaDoor
