/-
  WHAT A CALL LEAVES AS IT WAS: all blocks but some.
-/
import Derived.Test.YtimddchgmocdaaaDoorRow2
set_option linter.unusedVariables false
set_option linter.unusedSimpArgs false
namespace Go.Proofs.YtimddchgmocdaaaDoor
open Go.RowKit

/-- all blocks that were there, but those of S, are as they were -/
structure Keeps (S : Nat → Prop) (w w' : World) : Prop where
  os : w'.os = w.os
  tape : w'.tape = w.tape
  output : w'.output = w.output
  size : w.heap.size ≤ w'.heap.size
  block : ∀ k, k < w.heap.size → ¬ S k → w'.heap[k]? = w.heap[k]?
/-- the block that a row's address names -/
def Of (A : Option Addr) (i : Nat) : Prop := A = some ⟨i, 0, none⟩
def Of2 (A B : Option Addr) (i : Nat) : Prop := Of A i ∨ Of B i
/-- two rows lie in different blocks -/
def Apart (A B : Option Addr) : Prop := ∀ i, Of A i → Of B i → False
section
variable {w w' w2 w3 : World} {S T : Nat → Prop} {base cap : Nat} {A B : Option Addr} {l : List UInt8}
theorem Apart.symm (h : Apart A B) : Apart B A := fun i a b => h i b a
theorem Keeps.refl (S : Nat → Prop) (w : World) : Keeps S w w := ⟨rfl, rfl, rfl, Nat.le_refl _, fun _ _ _ => rfl⟩
theorem Keeps.trans (h : Keeps S w w2) (k : Keeps S w2 w3) : Keeps S w w3 :=
  ⟨k.os.trans h.os, k.tape.trans h.tape, k.output.trans h.output, Nat.le_trans h.size k.size, fun i hi hs => (k.block i (Nat.lt_of_lt_of_le hi h.size) hs).trans (h.block i hi hs)⟩
theorem Keeps.mono (h : Keeps S w w2) (hs : ∀ i, S i → T i) : Keeps T w w2 := ⟨h.os, h.tape, h.output, h.size, fun i hi ht => h.block i hi (fun s => ht (hs i s))⟩
theorem Keeps.of_below (h : Below w.heap.size w w2) : Keeps S w w2 := ⟨h.os, h.tape, h.output, h.size, fun i hi _ => h.block i hi⟩
theorem Keeps.below {b : Nat} (h : Keeps S w w2) (hb : b ≤ w.heap.size) (hs : ∀ i, S i → b ≤ i) : Below b w w2 :=
  ⟨h.os, h.tape, h.output, h.size, fun i hi => h.block i (by omega) (fun s => by have := hs i s; omega)⟩
theorem Mine.shape (h : Mine w base A cap l) : A = none ∨ ∃ g, A = some ⟨g, 0, none⟩ := by
  rcases h.2 with ⟨hv, _⟩ | ⟨g, cap', cur, hv, _⟩
  · injection hv with hA; exact .inl hA
  · injection hv with hA; exact .inr ⟨g, hA⟩
theorem Mine.none_cap (h : Mine w base none cap l) : cap = 0 ∧ l = [] := by
  rcases h.2 with ⟨hv, h0⟩ | ⟨g, cap', cur, hv, _⟩
  · injection hv with _ _ hc; exact ⟨hc, List.eq_nil_of_length_eq_zero h0⟩
  · cases hv
theorem Mine.keeps (h : Mine w base A cap l) (k : Keeps S w w2) (hn : ∀ i, Of A i → ¬ S i) : Mine w2 base A cap l := h.kept fun g hg => k.block g (h.lt g hg) (hn g hg)
theorem Mine.keeps_of (h : Mine w base A cap l) (k : Keeps (Of B) w w2) (hn : Apart A B) : Mine w2 base A cap l := h.keeps k fun i ha hb => hn i ha hb
theorem Is.keeps {g : Nat} {t : TypeId} {cs : Array Value} (h : Is w g t cs) (k : Keeps S w w2) (hn : ¬ S g) : Is w2 g t cs := (k.block g h.lt hn).trans h
theorem Keeps.of_grown {n c : Nat} (hs : A = none ∨ ∃ g, A = some ⟨g, 0, none⟩) (h : w.grownBy w2 (Value.slice A n c).ownBlock) : Keeps (Of A) w w2 := by
  refine ⟨h.os, h.tape, h.output, h.size, fun i hi hn => h.block i hi fun e => ?_⟩
  rcases hs with rfl | ⟨g, rfl⟩
  · cases e
  · injection e with e; subst e; exact hn rfl
theorem Keeps.of_mine {n c : Nat} (hM : Mine w base A cap l) (h : w.grownBy w2 (Value.slice A n c).ownBlock) : Keeps (Of A) w w2 := Keeps.of_grown hM.shape h
theorem Of2.left (i : Nat) (h : Of A i) : Of2 A B i := .inl h
theorem Of2.right (i : Nat) (h : Of B i) : Of2 A B i := .inr h
theorem Keeps.left (h : Keeps (Of A) w w2) : Keeps (Of2 A B) w w2 := h.mono fun _ => .inl
theorem Keeps.right (h : Keeps (Of B) w w2) : Keeps (Of2 A B) w w2 := h.mono fun _ => .inr
theorem Mine.of_ge (h : Mine w base A cap l) (i : Nat) (ha : Of A i) : base ≤ i := h.ge i ha
/-- the head of a row as bytes -/
theorem Mine.head {m : List UInt8} (h : Mine w base A cap (l ++ m)) : Bytes w A l := by have := h.bytes.take l.length; simpa using this
theorem Mine.head_cap {m : List UInt8} (h : Mine w base A cap (l ++ m)) : l.length ≤ cap := by have := h.cap_le.1; rw [List.length_append] at this; omega
/-- a row that was just made lies apart from all that was there -/
theorem apart_new {b : Nat} (hA : ∀ i, Of A i → i < b) (hB : ∀ i, Of B i → b ≤ i) : Apart A B := fun i a b' => by have := hA i a; have := hB i b'; omega
end
end Go.Proofs.YtimddchgmocdaaaDoor
