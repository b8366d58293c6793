/-
  MEMORY AS THE WALKS SPEAK OF IT: rows of bytes that are read.
-/
import Derived.Test.YtimddchgmocdaaaDoorBits
import Derived.WalkKit
import Derived.Lib.Hide
import Derived.Deep.QuietTactic
import Derived.BigQuiet
import Derived.WalkLawsBesides
set_option linter.unusedVariables false
set_option linter.unusedSimpArgs false
namespace Go.Proofs.YtimddchgmocdaaaDoor
open Go.RowKit

/-- The bytes l lie at A (of no bytes nothing is said). -/
def Bytes (w : World) (A : Option Addr) (l : List UInt8) : Prop :=
  l = [] ∨ ∃ b off, A = some ⟨b, off, none⟩ ∧ ∀ k (h : k < l.length), w.cell? ⟨b, off + k, none⟩ = some (.int .u8 (n8 l[k]))

theorem Bytes.at_ {w : World} {A : Option Addr} {l : List UInt8} (h : Bytes w A l) {k : Nat} (hk : k < l.length) :
    ∃ b off, A = some ⟨b, off, none⟩ ∧ w.cell? ⟨b, off + k, none⟩ = some (.int .u8 (n8 l[k])) := by
  rcases h with rfl | ⟨b, off, rfl, h⟩
  · simp at hk
  · exact ⟨b, off, rfl, h k hk⟩

theorem take_snoc {α : Type} (l : List α) (k : Nat) (h : k < l.length) : l.take (k + 1) = l.take k ++ [l[k]] := by
  rw [List.take_succ_eq_append_getElem h]

/- BLOCKS THAT ARE KNOWN WHOLE -/
/-- block g is these cells of type t, none of them frozen -/
def Is (w : World) (g : Nat) (t : TypeId) (cs : Array Value) : Prop := w.heap[g]? = some (.cells cs t (0, 0))

section
variable {w w' : World} {g : Nat} {t : TypeId} {cs : Array Value}
theorem Is.lt (h : Is w g t cs) : g < w.heap.size := by
  unfold Is at h
  rcases Nat.lt_or_ge g w.heap.size with hl | hl
  · exact hl
  · rw [Array.getElem?_eq_none hl] at h; cases h
theorem Is.cell (h : Is w g t cs) (i : Nat) : w.cell? ⟨g, i, none⟩ = cs[i]? := cell_of_row w g i cs t (0, 0) h
theorem Is.free (h : Is w g t cs) (i : Nat) : w.frozen? ⟨g, i, none⟩ = false := frozen_of_row w g i cs t h
theorem Is.new (w : World) (t : TypeId) (cs : Array Value) : Is (w.alloc (.cells cs t)) w.heap.size t cs := heap_alloc_new w _
theorem Is.alloc (h : Is w g t cs) (o : Obj) : Is (w.alloc o) g t cs := (Below.heap_alloc w o g h.lt).trans h
theorem Is.drew (h : Is w g t cs) : Is w.drew g t cs := h
theorem Is.drewN (h : Is w g t cs) (n : Nat) : Is (w.drewN n) g t cs := h
theorem Is.put (h : Is w g t cs) (i : Nat) (u : Value) : Is (w.setCell ⟨g, i, none⟩ u) g t (cs.setIfInBounds i u) := heap_setCell_same w g i cs t u h
theorem Is.other (h : Is w g t cs) (p : Addr) (hp : g ≠ p.block) (u : Value) : Is (w.setCell p u) g t cs := (heap_setCell_other w p g u hp).trans h
theorem Is.row (h : Is w g t cs) (cs' : Array Value) : Is (w.setRow g cs') g t cs' := setRow_heap w g cs cs' t (0, 0) h
theorem Is.rowOther (h : Is w g t cs) (k : Nat) (hk : g ≠ k) (cs' : Array Value) : Is (w.setRow k cs') g t cs := (setRow_other w k g cs' hk).trans h
theorem Is.below {B : Nat} (h : Is w g t cs) (hb : Below B w w') (hg : g < B) : Is w' g t cs := (hb.block g hg).trans h
end

theorem below_setRow {B g : Nat} {w0 w : World} (hb : Below B w0 w) (hBg : B ≤ g) (cs : Array Value) : Below B w0 (w.setRow g cs) :=
  ⟨by simp [hb.os], by simp [hb.tape], by simp [hb.output], by simp [hb.size], fun k hk => (setRow_other w g k cs (by omega)).trans (hb.block k hk)⟩

theorem two_new (w : World) (cs ds : Array Value) (t u : TypeId) : Below w.heap.size w ((w.alloc (.cells cs t)).alloc (.cells ds u)) ∧ Is ((w.alloc (.cells cs t)).alloc (.cells ds u)) w.heap.size t cs ∧
    Is ((w.alloc (.cells cs t)).alloc (.cells ds u)) (w.heap.size + 1) u ds := by
  refine ⟨((Below.refl _ _).alloc (Nat.le_refl _) _).alloc (by simp) _, (Is.new _ _ _).alloc _, ?_⟩
  have := Is.new (w.alloc (.cells cs t)) u ds
  rwa [World.size_alloc] at this
theorem one_new (w : World) (cs : Array Value) (t : TypeId) : Below w.heap.size w (w.alloc (.cells cs t)) ∧ Is (w.alloc (.cells cs t)) w.heap.size t cs :=
  ⟨(Below.refl _ _).alloc (Nat.le_refl _) _, Is.new _ _ _⟩

theorem wpList_store_row {P : Program} {ops : Array Oper} {rest : List Oper} {o : Oper} {a : Act} {w : World} {Q : Exit → Act → World → Prop} (hgd : o.guard = none) (ty : TypeId) (x y : Operand) (ho : o.op = .store ty x y)
    (g : Nat) (cells : Array Value) (hx : a.eval x = .pointer (some ⟨g, 0, none⟩)) (hy : a.eval y = .agg cells)
    (t : TypeId) (old : Array Value) (hg : Is w g t old) (hi : (P.info? ty).map (·.size) = some cells.size)
    (hold : old.size = cells.size) (h1 : cells.all (·.oneCell') = true)
    (h : wpList P ops Q rest (a.put o.dst undef) (w.setRow g cells)) : wpList P ops Q (o :: rest) a w :=
  wpList_plain hgd fun _ hK => wp_store_row ty x y ho g cells hx hy t old hg hi hold h1 (hK _ _ h)

/-- a row of bytes as cells -/
def u8s (l : List UInt8) : Array Value := (l.map fun b => Value.int .u8 (n8 b)).toArray
theorem u8s_size (l : List UInt8) : (u8s l).size = l.length := by simp [u8s]
theorem u8s_at (l : List UInt8) (i : Nat) (h : i < l.length) : (u8s l)[i]? = some (.int .u8 (n8 l[i])) := by simp [u8s, h]
theorem Bytes.of_is {w : World} {g : Nat} {t : TypeId} {l : List UInt8} (h : Is w g t (u8s l)) : Bytes w (some ⟨g, 0, none⟩) l :=
  .inr ⟨g, 0, rfl, fun k hk => by rw [Nat.zero_add, h.cell, u8s_at l k hk]⟩

theorem bytes_new (w : World) (t : TypeId) (fr : Nat × Nat) (l : List UInt8) : Bytes (w.alloc (.cells (u8s l) t fr)) (some ⟨w.heap.size, 0, none⟩) l :=
  .inr ⟨_, 0, rfl, fun k hk => by rw [Nat.zero_add, cell_of_row _ _ k (u8s l) t fr (heap_alloc_new w _), u8s_at l k hk]⟩
theorem below_new (w : World) (o : Obj) : Below w.heap.size w (w.alloc o) := (Below.refl _ _).alloc (Nat.le_refl _) _
/-- bytes that were there lie there still, where nothing that was there has turned -/
theorem Bytes.later {w w' : World} {A : Option Addr} {l : List UInt8} (h : Bytes w A l) (hb : Below w.heap.size w w') : Bytes w' A l := by
  rcases h with rfl | ⟨b, off, rfl, h⟩
  · exact .inl rfl
  · exact .inr ⟨b, off, rfl, fun k hk => (hb.cell (p := ⟨b, off + k, none⟩) (block_lt_of_cell (h k hk))).trans (h k hk)⟩
theorem Bytes.drewN {w : World} {A : Option Addr} {l : List UInt8} (h : Bytes w A l) (n : Nat) : Bytes (w.drewN n) A l := h
theorem Bytes.drew {w : World} {A : Option Addr} {l : List UInt8} (h : Bytes w A l) : Bytes w.drew A l := h
theorem Bytes.take {w : World} {A : Option Addr} {l : List UInt8} (h : Bytes w A l) (n : Nat) : Bytes w A (l.take n) := by
  rcases h with rfl | ⟨b, off, rfl, h⟩
  · exact .inl (by simp)
  · exact .inr ⟨b, off, rfl, fun k hk => by rw [List.getElem_take]; exact h k (by simp at hk; omega)⟩
/-- 's[k:]' as the model cuts it -/
theorem Bytes.cut {w : World} {A : Option Addr} {l : List UInt8} (h : Bytes w A l) {k cap : Nat} (hk : l.length ≤ cap) :
    Bytes w (if cap = k then A else A.map (·.add k)) (l.drop k) := by
  rcases h with rfl | ⟨b, off, rfl, h⟩
  · exact .inl (by simp)
  · by_cases e : cap = k
    · exact .inl (List.drop_eq_nil_of_le (by omega))
    · rw [if_neg e]
      refine .inr ⟨b, off + k, ?_, fun j hj => ?_⟩
      · simp only [Option.map_some, Addr.add]
        split
        · rename_i h0; subst h0; rfl
        · rfl
      · rw [List.getElem_drop, Nat.add_assoc]
        exact h (k + j) (by simp at hj; omega)

/-- The integers zs lie at A. -/
def Ints (w : World) (A : Option Addr) (zs : List Int) : Prop :=
  zs = [] ∨ ∃ b off, A = some ⟨b, off, none⟩ ∧ ∀ k (h : k < zs.length), w.cell? ⟨b, off + k, none⟩ = some (.int .i64 zs[k])
theorem Ints.at_ {w : World} {A : Option Addr} {l : List Int} (h : Ints w A l) {k : Nat} (hk : k < l.length) :
    ∃ b off, A = some ⟨b, off, none⟩ ∧ w.cell? ⟨b, off + k, none⟩ = some (.int .i64 l[k]) := by
  rcases h with rfl | ⟨b, off, rfl, h⟩
  · simp at hk
  · exact ⟨b, off, rfl, h k hk⟩
theorem Ints.later {w w' : World} {A : Option Addr} {l : List Int} (h : Ints w A l) (hb : Below w.heap.size w w') : Ints w' A l := by
  rcases h with rfl | ⟨b, off, rfl, h⟩
  · exact .inl rfl
  · exact .inr ⟨b, off, rfl, fun k hk => (hb.cell (p := ⟨b, off + k, none⟩) (block_lt_of_cell (h k hk))).trans (h k hk)⟩

/-- A row of bytes as a slice's value names it. -/
structure Piece where
  A : Option Addr
  cap : Nat
  l : List UInt8
/-- A row of rows of bytes. -/
def Pieces (w : World) (P : Option Addr) (ps : List Piece) : Prop :=
  (ps = [] ∨ ∃ b off, P = some ⟨b, off, none⟩ ∧ ∀ k (h : k < ps.length), w.cell? ⟨b, off + k, none⟩ = some (.slice ps[k].A ps[k].l.length ps[k].cap)) ∧
    ∀ p ∈ ps, Bytes w p.A p.l ∧ (p.A = none → p.cap = 0)
theorem Pieces.at_ {w : World} {P : Option Addr} {ps : List Piece} (h : Pieces w P ps) {k : Nat} (hk : k < ps.length) :
    ∃ b off B c l, P = some ⟨b, off, none⟩ ∧ ps[k] = ⟨B, c, l⟩ ∧ w.cell? ⟨b, off + k, none⟩ = some (.slice B l.length c) ∧ Bytes w B l ∧ (B = none → c = 0) := by
  rcases h.1 with rfl | ⟨b, off, rfl, hc⟩
  · simp at hk
  · exact ⟨b, off, _, _, _, rfl, rfl, hc k hk, h.2 _ (List.getElem_mem hk)⟩
theorem Pieces.later {w w' : World} {P : Option Addr} {ps : List Piece} (h : Pieces w P ps) (hb : Below w.heap.size w w') : Pieces w' P ps := by
  refine ⟨?_, fun p hp => ⟨(h.2 p hp).1.later hb, (h.2 p hp).2⟩⟩
  rcases h.1 with rfl | ⟨b, off, rfl, hc⟩
  · exact .inl rfl
  · exact .inr ⟨b, off, rfl, fun k hk => (hb.cell (p := ⟨b, off + k, none⟩) (block_lt_of_cell (hc k hk))).trans (hc k hk)⟩
/-- all bytes of some pieces, one behind the other -/
def cat (ps : List Piece) : List UInt8 := ps.flatMap (·.l)
theorem cat_append (ps qs : List Piece) : cat (ps ++ qs) = cat ps ++ cat qs := List.flatMap_append
theorem cat_one (p : Piece) : cat [p] = p.l := by unfold cat; rw [List.flatMap_cons, List.flatMap_nil, List.append_nil]
theorem cat_snoc (ps : List Piece) (k : Nat) (h : k < ps.length) : cat (ps.take (k + 1)) = cat (ps.take k) ++ ps[k].l := by rw [take_snoc ps k h, cat_append, cat_one]
theorem cat_drop (ps : List Piece) (k : Nat) (h : k < ps.length) : cat (ps.drop k) = ps[k].l ++ cat (ps.drop (k + 1)) := by
  rw [List.drop_eq_getElem_cons h]; unfold cat; rw [List.flatMap_cons]
theorem cat_parts (ps : List Piece) (k : Nat) : (cat (ps.take k)).length + (cat (ps.drop k)).length = (cat ps).length := by
  rw [← List.length_append, ← cat_append, List.take_append_drop]
theorem cat_le (ps : List Piece) (k : Nat) : (cat (ps.take k)).length ≤ (cat ps).length := by have := cat_parts ps k; omega
theorem cat_drop_le (ps : List Piece) (k : Nat) : (cat (ps.drop k)).length ≤ (cat ps).length := by have := cat_parts ps k; omega

/-- min of three numbers, its value named -/
theorem wpList_min3 {P : Program} {ops : Array Oper} {rest : List Oper} {o : Oper} {a : Act} {w : World} {Q : Exit → Act → World → Prop} (hgd : o.guard = none) (x y z : Operand) (ts : Array TypeId)
    (ho : o.op = .call { callee := .builtin .min, args := #[x, y, z], argTypes := ts }) (p q r : Int) (hx : a.eval x = .int .i64 p) (hy : a.eval y = .int .i64 q) (hz : a.eval z = .int .i64 r)
    (m : Int) (hm : (if r < (if q < p then q else p) then r else (if q < p then q else p)) = m) (h : wpList P ops Q rest (a.put o.dst (.int .i64 m)) w) : wpList P ops Q (o :: rest) a w := by
  refine wpList_plain hgd fun K hK => ?_
  have hrun := run_min_int3 (P := P) (w := w) ts o.type .i64 .i64 .i64 p q r
  rw [hm] at hrun
  unfold Oper.wp
  simp [execOp, ho, resolve, invoke, builtin, hx, hy, hz, hrun, Result.andThen]
  exact hK _ _ h

/-- min of two numbers, its value named -/
theorem wpList_min2 {P : Program} {ops : Array Oper} {rest : List Oper} {o : Oper} {a : Act} {w : World} {Q : Exit → Act → World → Prop} (hgd : o.guard = none) (x y : Operand) (ts : Array TypeId)
    (ho : o.op = .call { callee := .builtin .min, args := #[x, y], argTypes := ts }) (p q : Int) (hx : a.eval x = .int .i64 p) (hy : a.eval y = .int .i64 q)
    (m : Int) (hm : (if q < p then q else p) = m) (h : wpList P ops Q rest (a.put o.dst (.int .i64 m)) w) : wpList P ops Q (o :: rest) a w := by
  refine wpList_plain hgd fun K hK => ?_
  have hrun : (Builtin.min_ ts o.type #[.int .i64 p, .int .i64 q]).run P w = .ok (.int .i64 m) w := by
    rw [← hm]; simp [Builtin.min_, Builtin.min2]
  unfold Oper.wp
  simp [execOp, ho, resolve, invoke, builtin, hx, hy, hrun, Result.andThen]
  exact hK _ _ h
theorem min_two (x y : Nat) : ∃ m : Nat, (if (y : Int) < (x : Int) then (y : Int) else (x : Int)) = (m : Int) ∧ m ≤ x ∧ m ≤ y := by
  by_cases h : y < x
  · exact ⟨y, if_pos (by omega), by omega, by omega⟩
  · exact ⟨x, if_neg (by omega), by omega, by omega⟩

theorem below_drewN {B : Nat} {a w : World} (h : Below B a w) (n : Nat) : Below B a (w.drewN n) := ⟨h.os, h.tape, h.output, h.size, h.block⟩

theorem ret_int {k : IntKind} {a b : Int} (h : a = b) : Ending.returned (.int k a) = .returned (.int k b) := by rw [h]
theorem ret_bool {a b : Bool} (h : a = b) : Ending.returned (.bool a) = .returned (.bool b) := by rw [h]
theorem ret_val {a b : Value} (h : a = b) : Ending.returned a = .returned b := by rw [h]

end Go.Proofs.YtimddchgmocdaaaDoor
