/-
  MEMORY BY THE TYPES OF ITS BLOCKS: what a call of a kind leaves as it was; rows of whatever elements.
  A DISK, IN PLAIN LEAN: what lasts, what is pending, the power cut that is armed; what a step does to it.
  A DISK IN MEMORY.
-/
import Derived.Test.YtimddchgmocdaaaDoorKeeps
import Derived.Deep.MidRow
import Derived.Deep.AppendLies
import Derived.Test.YtimddchgmocdaaaDoorCrc
set_option linter.unusedVariables false
set_option linter.unusedSimpArgs false
namespace Go.Proofs.YtimddchgmocdaaaDoor
open Go.RowKit

/-- block k is a row of one of these types -/
def Tk (w : World) (k : Nat) (Ts : List TypeId) : Prop := ∃ cs t f, w.heap[k]? = some (.cells cs t f) ∧ t ∈ Ts
/-- all that lay there is as it was, but block a, and from base on rows of the types Ts -/
structure KT (a : Option Nat) (base : Nat) (Ts : List TypeId) (w w' : World) : Prop where
  os : w'.os = w.os
  tape : w'.tape = w.tape
  output : w'.output = w.output
  size : w.heap.size ≤ w'.heap.size
  block : ∀ k, k < w.heap.size → (k < base ∨ (some k ≠ a ∧ ¬ Tk w k Ts)) → w'.heap[k]? = w.heap[k]?
section
variable {a : Option Nat} {base : Nat} {Ts Us : List TypeId} {w w2 w3 : World}
theorem KT.refl (a : Option Nat) (base : Nat) (Ts : List TypeId) (w : World) : KT a base Ts w w := ⟨rfl, rfl, rfl, Nat.le_refl _, fun _ _ _ => rfl⟩
theorem KT.trans (h : KT a base Ts w w2) (k : KT a base Ts w2 w3) : KT a base Ts w w3 := by
  refine ⟨k.os.trans h.os, k.tape.trans h.tape, k.output.trans h.output, Nat.le_trans h.size k.size, fun i hi hs => ?_⟩
  have e := h.block i hi hs
  refine (k.block i (Nat.lt_of_lt_of_le hi h.size) ?_).trans e
  rcases hs with hs | ⟨h1, h2⟩
  · exact .inl hs
  · exact .inr ⟨h1, fun ⟨cs, t, f, ht, hm⟩ => h2 ⟨cs, t, f, by rw [← e]; exact ht, hm⟩⟩
theorem KT.of_below {B : Nat} (h : Below B w w2) (hB : w.heap.size ≤ B) : KT a base Ts w w2 := ⟨h.os, h.tape, h.output, h.size, fun i hi _ => h.block i (by omega)⟩
theorem KT.below (h : KT a base Ts w w2) (hb : base ≤ w.heap.size) : Below base w w2 := ⟨h.os, h.tape, h.output, h.size, fun i hi => h.block i (by omega) (.inl hi)⟩
theorem KT.mono (h : KT a base Ts w w2) (hs : ∀ t, t ∈ Ts → t ∈ Us) : KT a base Us w w2 :=
  ⟨h.os, h.tape, h.output, h.size, fun i hi hk => h.block i hi (hk.imp id (fun ⟨h1, h2⟩ => ⟨h1, fun ⟨cs, t, f, ht, hm⟩ => h2 ⟨cs, t, f, ht, hs t hm⟩⟩))⟩
theorem KT.weaken (h : KT none base Ts w w2) : KT a base Ts w w2 :=
  ⟨h.os, h.tape, h.output, h.size, fun i hi hk => h.block i hi (hk.imp id (fun ⟨_, h2⟩ => ⟨(fun e => by cases e), h2⟩))⟩
theorem KT.base_le {b : Nat} (h : KT a base Ts w w2) (hb : b ≤ base) : KT a b Ts w w2 :=
  ⟨h.os, h.tape, h.output, h.size, fun i hi hk => h.block i hi (hk.imp (fun h1 => by omega) id)⟩
theorem KT.alloc (w : World) (o : Obj) : KT a base Ts w (w.alloc o) := KT.of_below (below_new w o) (Nat.le_refl _)
theorem KT.drew (w : World) : KT a base Ts w w.drew := ⟨rfl, rfl, rfl, Nat.le_refl _, fun _ _ _ => rfl⟩
theorem KT.drewN (w : World) (n : Nat) : KT a base Ts w (w.drewN n) := ⟨rfl, rfl, rfl, Nat.le_refl _, fun _ _ _ => rfl⟩
theorem KT.setCell {g i : Nat} {t : TypeId} {cs : Array Value} (h : Is w g t cs) (hg : base ≤ g) (ht : some g = a ∨ t ∈ Ts) (u : Value) : KT a base Ts w (w.setCell ⟨g, i, none⟩ u) := by
  refine ⟨rfl, rfl, rfl, by rw [World.size_setCell]; exact Nat.le_refl _, fun k hk hs => heap_setCell_other w ⟨g, i, none⟩ k u (fun e => ?_)⟩
  have e : k = g := e
  subst e
  rcases hs with hs | ⟨h1, h2⟩
  · omega
  · rcases ht with ht | ht
    · exact h1 ht
    · exact h2 ⟨_, _, _, h, ht⟩
theorem Is.kt {g : Nat} {t : TypeId} {cs : Array Value} (h : Is w g t cs) (k : KT a base Ts w w2) (hg : g < base ∨ (some g ≠ a ∧ t ∉ Ts)) : Is w2 g t cs := by
  refine (k.block g h.lt (hg.imp id fun ⟨h1, h2⟩ => ⟨h1, fun ⟨cs', t', f', ht, hm⟩ => h2 ?_⟩)).trans h
  rw [show w.heap[g]? = _ from h] at ht
  injection ht with ht
  injection ht with _ ht
  rw [ht]; exact hm
end

/-- a row of n elements of k cells -/
def Own (w : World) (base : Nat) (t : TypeId) (k : Nat) (A : Option Addr) (n cap : Nat) (cs : List Value) : Prop := w.ownsRow base t k (.slice A n cap) n cs
section
variable {w w2 : World} {a : Option Nat} {base k n cap : Nat} {t : TypeId} {A B : Option Addr} {cs : List Value} {Ts : List TypeId}
theorem Own.nil (w : World) (base : Nat) (t : TypeId) (k : Nat) : Own w base t k none 0 0 [] := ⟨by simp, .inl ⟨rfl, rfl⟩⟩
theorem Own.kept (h : Own w base t k A n cap cs) (hk : ∀ g, Of A g → w2.heap[g]? = w.heap[g]?) : Own w2 base t k A n cap cs := by
  refine ⟨h.1, ?_⟩
  rcases h.2 with h2 | ⟨g, cap', cur, hv, hg, hh, r⟩
  · exact .inl h2
  · refine .inr ⟨g, cap', cur, hv, hg, ?_, r⟩
    injection hv with hA
    rw [hk g hA]; exact hh
theorem Own.typed (h : Own w base t k A n cap cs) (g : Nat) (hg : Of A g) : base ≤ g ∧ ∃ cur, Is w g t cur := by
  rcases h.2 with ⟨hv, _⟩ | ⟨g', cap', cur, hv, hb, hh, _⟩
  · injection hv with hA; unfold Of at hg; rw [hA] at hg; cases hg
  · injection hv with hA
    unfold Of at hg
    rw [hA] at hg
    injection hg with hg
    injection hg with hg
    subst hg
    exact ⟨hb, cur, hh⟩
theorem Own.lt (h : Own w base t k A n cap cs) (g : Nat) (hg : Of A g) : g < w.heap.size := by obtain ⟨_, cur, hi⟩ := h.typed g hg; exact hi.lt
theorem Own.ge (h : Own w base t k A n cap cs) (g : Nat) (hg : Of A g) : base ≤ g := (h.typed g hg).1
theorem Own.keeps {S : Nat → Prop} (h : Own w base t k A n cap cs) (q : Keeps S w w2) (hn : ∀ i, Of A i → ¬ S i) : Own w2 base t k A n cap cs := h.kept fun g hg => q.block g (h.lt g hg) (hn g hg)
theorem Own.later (h : Own w base t k A n cap cs) (hb : Below w.heap.size w w2) : Own w2 base t k A n cap cs := h.kept fun g hg => hb.block g (h.lt g hg)
theorem Own.kt (h : Own w base t k A n cap cs) {b : Nat} (q : KT a b Ts w w2) (ht : t ∉ Ts) (ha : ∀ g, Of A g → some g ≠ a) : Own w2 base t k A n cap cs := h.kept fun g hg => by
  obtain ⟨_, cur, hi⟩ := h.typed g hg
  exact (hi.kt q (.inr ⟨ha g hg, ht⟩)).trans hi.symm
theorem Own.base_le {b : Nat} (h : Own w base t k A n cap cs) (hb : b ≤ base) : Own w b t k A n cap cs := by
  refine ⟨h.1, ?_⟩
  rcases h.2 with h2 | ⟨g, cap', cur, hv, hg, r⟩
  · exact .inl h2
  · exact .inr ⟨g, cap', cur, hv, by omega, r⟩
theorem Own.shape (h : Own w base t k A n cap cs) : A = none ∨ ∃ g, A = some ⟨g, 0, none⟩ := by
  rcases h.2 with ⟨hv, _⟩ | ⟨g, cap', cur, hv, _⟩
  · injection hv with hA; exact .inl hA
  · injection hv with hA; exact .inr ⟨g, hA⟩
theorem Own.none_cap (h : Own w base t k none n cap cs) : n = 0 ∧ cap = 0 := by
  rcases h.2 with ⟨hv, h0⟩ | ⟨g, cap', cur, hv, _⟩
  · injection hv with _ _ hc; exact ⟨h0, hc⟩
  · injection hv with hA; cases hA
theorem Own.cap_le (h : Own w base t k A n cap cs) : n ≤ cap ∧ cap ≤ maxLen := by
  rcases h.2 with ⟨hv, h0⟩ | ⟨g, cap', cur, hv, _, _, h1, h2, _⟩
  · injection hv with _ _ hc; subst hc; rw [h0]; exact ⟨Nat.le_refl _, Nat.zero_le _⟩
  · injection hv with _ _ hc; subst hc; exact ⟨h1, h2⟩
theorem Own.form (h : Own w base t k A n cap cs) (hn : 0 < n) : ∃ g, A = some ⟨g, 0, none⟩ ∧ base ≤ g ∧ g < w.heap.size := by
  obtain ⟨g, c, hv, hb, hlt⟩ := World.ownsRow.form h hn
  injection hv with hA
  exact ⟨g, hA, hb, hlt⟩
theorem Own.apart {t2 : TypeId} {b2 k2 n2 c2 : Nat} {cs2 : List Value} (h : Own w base t k A n cap cs) (h2 : Own w b2 t2 k2 B n2 c2 cs2) (hne : t ≠ t2) : Apart A B := fun i ha hb => by
  obtain ⟨_, cur, hi⟩ := h.typed i ha
  obtain ⟨_, cur2, hj⟩ := h2.typed i hb
  have hi := hi.symm.trans hj
  injection hi with hi
  injection hi with _ hi
  exact hne hi
theorem Own.cell {g : Nat} (h : Own w base t k (some ⟨g, 0, none⟩) n cap cs) (j : Nat) (hj : j < n * k) : w.cell? ⟨g, j, none⟩ = cs[j]? := World.ownsRow.cellAt h j hj
theorem Own.free {g : Nat} (h : Own w base t k (some ⟨g, 0, none⟩) n cap cs) (j : Nat) : w.frozen? ⟨g, j, none⟩ = false := World.ownsRow.frozenAt h j
theorem Own.put {g : Nat} (h : Own w base t k (some ⟨g, 0, none⟩) n cap cs) (j : Nat) (u : Value) : Own (w.setCell ⟨g, j, none⟩ u) base t k (some ⟨g, 0, none⟩) n cap (cs.set j u) := (World.ownsRow.stored h j u).1
theorem Own.range {g : Nat} (h : Own w base t k (some ⟨g, 0, none⟩) n cap cs) (o : Nat) (vs : List Value) (hv : ∀ j v, vs[j]? = some v → cs[o + j]? = some v) : w.rangeAt g o vs := fun j v hj => by
  have hc := hv j v hj
  have hl : o + j < cs.length := (List.getElem?_eq_some_iff.1 hc).1
  rw [h.cell (o + j) (by rw [← h.1]; exact hl), hc]
theorem Own.there {g : Nat} (h : Own w base t k (some ⟨g, 0, none⟩) n cap cs) (o m : Nat) (hm : o + m ≤ n * k) : w.there g o m := fun j hj =>
  ⟨by rw [h.cell (o + j) (by omega), List.getElem?_eq_getElem (by rw [h.1]; omega)]; rfl, h.free _⟩
/-- a list with others in the place of some -/
def setList (cs : List Value) (o : Nat) : List Value → List Value
  | [] => cs
  | v :: r => setList (cs.set o v) (o + 1) r
theorem Own.puts {g : Nat} (vs : List Value) : ∀ {w : World} {cs : List Value} (o : Nat), Own w base t k (some ⟨g, 0, none⟩) n cap cs → Own (w.setCells g o vs) base t k (some ⟨g, 0, none⟩) n cap (setList cs o vs) := by
  induction vs with
  | nil => intro w cs o h; exact h
  | cons v r ih => intro w cs o h; rw [World.setCells]; exact ih (o + 1) (h.put o v)
theorem heap_setCells_other (g : Nat) (vs : List Value) : ∀ (w : World) (o i : Nat), i ≠ g → (w.setCells g o vs).heap[i]? = w.heap[i]? := by
  induction vs with
  | nil => intro w o i _; rfl
  | cons v r ih => intro w o i h; rw [World.setCells, ih _ _ _ h]; exact heap_setCell_other w ⟨g, o, none⟩ i v (by show i ≠ g; exact h)
theorem setCells_same (g : Nat) (vs : List Value) : ∀ (w : World) (o : Nat), (w.setCells g o vs).os = w.os ∧ (w.setCells g o vs).tape = w.tape ∧ (w.setCells g o vs).output = w.output ∧ (w.setCells g o vs).heap.size = w.heap.size := by
  induction vs with
  | nil => intro w o; exact ⟨rfl, rfl, rfl, rfl⟩
  | cons v r ih =>
    intro w o
    rw [World.setCells]
    obtain ⟨h1, h2, h3, h4⟩ := ih (w.setCell ⟨g, o, none⟩ v) (o + 1)
    exact ⟨h1, h2, h3, by rw [h4, World.size_setCell]⟩
theorem KT.setCells {g o : Nat} {cs' : Array Value} (h : Is w g t cs') (hg : base ≤ g) (ht : some g = a ∨ t ∈ Ts) (vs : List Value) : KT a base Ts w (w.setCells g o vs) := by
  obtain ⟨h1, h2, h3, h4⟩ := setCells_same g vs w o
  refine ⟨h1, h2, h3, by rw [h4]; exact Nat.le_refl _, fun i hk hs => heap_setCells_other g vs w o i (fun e => ?_)⟩
  subst e
  rcases hs with hs | ⟨h5, h6⟩
  · omega
  · rcases ht with ht | ht
    · exact h5 ht
    · exact h6 ⟨_, _, _, h, ht⟩
theorem KT.of_grown {b : Nat} (h : Own w base t k A n cap cs) (hb : b ≤ base) (ht : t ∈ Ts) (hg : w.grownBy w2 (Value.slice A n cap).ownBlock) : KT a b Ts w w2 := by
  refine ⟨hg.os, hg.tape, hg.output, hg.size, fun i hi hs => hg.block i hi fun e => ?_⟩
  rcases h.shape with rfl | ⟨g, rfl⟩
  · cases e
  · injection e with e
    have e : i = g := e
    subst e
    obtain ⟨h1, cur, h2⟩ := h.typed i rfl
    rcases hs with hs | ⟨_, h6⟩
    · omega
    · exact h6 ⟨_, _, _, h2, ht⟩
end
theorem setList_eq (vs : List Value) : ∀ (cs : List Value) (o : Nat), o + vs.length ≤ cs.length → setList cs o vs = cs.take o ++ vs ++ cs.drop (o + vs.length) := by
  induction vs with
  | nil => intro cs o h; show cs = _; rw [List.append_nil, List.length_nil, Nat.add_zero, List.take_append_drop]
  | cons v r ih =>
    intro cs o h
    simp only [List.length_cons] at h ⊢
    show setList (cs.set o v) (o + 1) r = _
    rw [ih _ _ (by rw [List.length_set]; omega), List.take_add_one, List.getElem?_set_self (by omega), List.take_set_of_le (Nat.le_refl o), List.drop_set_of_lt (by omega), show o + 1 + r.length = o + (r.length + 1) by omega]
    simp

/-- append of one element, as the walk meets it -/
theorem own_of {w : World} {base n g cap k : Nat} {t : TypeId} {cs : List Value} (h : w.ownsRow base t k (.slice (some ⟨g, 0, none⟩) n cap) n cs) : Own w base t k (some ⟨g, 0, none⟩) n cap cs := h
end Go.Proofs.YtimddchgmocdaaaDoor
set_option linter.unusedVariables false
set_option linter.unusedSimpArgs false
namespace Go.Proofs.YtimddchgmocdaaaDoor

structure Dk where
  lasts : List (List UInt8)
  pend : List (Nat × List UInt8)
  left : Nat
  keep : List Bool
  down : Bool
  n : Nat
namespace Dk
/-- some writes, one behind the other -/
def puts (l : List (List UInt8)) (p : List (Nat × List UInt8)) : List (List UInt8) := p.foldl (fun l x => l.set x.1 x.2) l
/-- those of the first k that are kept -/
def kept (l : List (List UInt8)) (p : List (Nat × List UInt8)) (keep : List Bool) : Nat → List (List UInt8)
  | 0 => l
  | k + 1 => if h : k < p.length then (if keep.getD k false = true then (kept l p keep k).set p[k].1 p[k].2 else kept l p keep k) else kept l p keep k
def cut (D : Dk) (keep : List Bool) : Dk := { D with lasts := kept D.lasts D.pend keep (min keep.length D.pend.length), pend := [], keep := [], left := 0, down := true }
def write (D : Dk) (i : Nat) (b : List UInt8) : Dk :=
  if D.left = 1 then ({ D with pend := D.pend ++ [(i, b)], n := D.n + 1 } : Dk).cut D.keep else { D with pend := D.pend ++ [(i, b)], left := D.left - 1, n := D.n + 1 }
def flush (D : Dk) : Dk := if D.left = 1 then D.cut D.keep else { D with lasts := puts D.lasts D.pend, pend := [], left := D.left - 1, n := D.n + 1 }
/-- what a step answers: 0, or 30 where the power goes -/
def err (D : Dk) : Int := if D.left = 1 then 30 else 0
def arm (D : Dk) (at_ : Int) (keep : List Bool) : Dk := { D with left := (if 0 < at_ then at_ else 0).toNat, keep := keep }
/-- a block as the last write to it left it -/
def read (D : Dk) (i : Nat) : List UInt8 := D.pend.foldl (fun b x => if x.1 = i then x.2 else b) (D.lasts.getD i [])
/-- the blocks are blocks -/
def Ok (D : Dk) : Prop := 1 ≤ D.lasts.length ∧ D.lasts.length ≤ 16384 ∧ (∀ b ∈ D.lasts, b.length = 512) ∧ (∀ x ∈ D.pend, x.1 < D.lasts.length ∧ x.2.length = 512) ∧ D.pend.length ≤ D.n ∧ D.left ≤ 9223372036854775807 ∧ D.keep.length ≤ 9223372036854775807

theorem puts_snoc (l : List (List UInt8)) (p : List (Nat × List UInt8)) (x : Nat × List UInt8) : puts l (p ++ [x]) = (puts l p).set x.1 x.2 := by unfold puts; rw [List.foldl_append]; rfl
theorem puts_length (p : List (Nat × List UInt8)) : ∀ l : List (List UInt8), (puts l p).length = l.length := by
  induction p with
  | nil => intro l; rfl
  | cons x p ih => intro l; show (puts (l.set x.1 x.2) p).length = _; rw [ih]; simp
theorem kept_length (l : List (List UInt8)) (p : List (Nat × List UInt8)) (keep : List Bool) (k : Nat) : (kept l p keep k).length = l.length := by
  induction k with
  | zero => rfl
  | succ k ih =>
    unfold kept
    split
    · split
      · rw [List.length_set, ih]
      · exact ih
    · exact ih
theorem set_512 {l : List (List UInt8)} (h : ∀ b ∈ l, b.length = 512) {i : Nat} {b : List UInt8} (hb : b.length = 512) : ∀ c ∈ l.set i b, c.length = 512 := fun c hc => by
  rcases List.mem_or_eq_of_mem_set hc with h1 | h1
  · exact h c h1
  · rw [h1]; exact hb
theorem puts_512 (p : List (Nat × List UInt8)) : ∀ l : List (List UInt8), (∀ b ∈ l, b.length = 512) → (∀ x ∈ p, x.2.length = 512) → ∀ b ∈ puts l p, b.length = 512 := by
  induction p with
  | nil => intro l h _; exact h
  | cons x p ih => intro l h hp; exact ih _ (set_512 h (hp x (List.mem_cons_self ..))) (fun y hy => hp y (List.mem_cons_of_mem _ hy))
theorem kept_512 (l : List (List UInt8)) (p : List (Nat × List UInt8)) (keep : List Bool) (h : ∀ b ∈ l, b.length = 512) (hp : ∀ x ∈ p, x.2.length = 512) (k : Nat) : ∀ b ∈ kept l p keep k, b.length = 512 := by
  induction k with
  | zero => exact h
  | succ k ih =>
    unfold kept
    split
    · split
      · exact set_512 ih (hp _ (List.getElem_mem _))
      · exact ih
    · exact ih
theorem kept_yes {l : List (List UInt8)} {p : List (Nat × List UInt8)} {keep : List Bool} {k : Nat} (h : k < p.length) (hk : keep.getD k false = true) : kept l p keep (k + 1) = (kept l p keep k).set p[k].1 p[k].2 := by
  rw [kept, dif_pos h, if_pos hk]
theorem kept_no {l : List (List UInt8)} {p : List (Nat × List UInt8)} {keep : List Bool} {k : Nat} (hk : keep.getD k false = false) : kept l p keep (k + 1) = kept l p keep k := by
  rw [kept]; split
  · rw [if_neg (by rw [hk]; decide)]
  · rfl
theorem Ok.cut {D : Dk} (h : D.Ok) (keep : List Bool) : (D.cut keep).Ok := by
  obtain ⟨h1, h2, h3, h4, h5, h6⟩ := h
  refine ⟨?_, ?_, kept_512 _ _ _ h3 (fun x hx => (h4 x hx).2) _, (fun x hx => by cases hx), Nat.zero_le _, (by show 0 ≤ 9223372036854775807; decide), (by show 0 ≤ 9223372036854775807; decide)⟩
  · show 1 ≤ (kept _ _ _ _).length; rw [kept_length]; exact h1
  · show (kept _ _ _ _).length ≤ _; rw [kept_length]; exact h2
theorem Ok.pended {D : Dk} (h : D.Ok) {i : Nat} {b : List UInt8} (hi : i < D.lasts.length) (hb : b.length = 512) : ({ D with pend := D.pend ++ [(i, b)], n := D.n + 1 } : Dk).Ok := by
  obtain ⟨h1, h2, h3, h4, h5, h6⟩ := h
  refine ⟨h1, h2, h3, fun x hx => ?_, ?_, h6⟩
  · rcases List.mem_append.1 hx with hx | hx
    · exact h4 x hx
    · simp at hx; subst hx; exact ⟨hi, hb⟩
  · show (D.pend ++ [(i, b)]).length ≤ D.n + 1; simp; exact h5
theorem read_length {D : Dk} (h : D.Ok) {i : Nat} (hi : i < D.lasts.length) : (D.read i).length = 512 := by
  obtain ⟨h1, h2, h3, h4, h5, h6⟩ := h
  unfold read
  have key : ∀ (p : List (Nat × List UInt8)) (b : List UInt8), b.length = 512 → (∀ x ∈ p, x.2.length = 512) → (p.foldl (fun b x => if x.1 = i then x.2 else b) b).length = 512 := by
    intro p
    induction p with
    | nil => intro b hb _; exact hb
    | cons x p ih =>
      intro b hb hp
      refine ih _ ?_ (fun y hy => hp y (List.mem_cons_of_mem _ hy))
      show (if x.1 = i then x.2 else b).length = 512
      split
      · exact hp x (List.mem_cons_self ..)
      · exact hb
  refine key _ _ ?_ (fun x hx => (h4 x hx).2)
  rw [List.getD_eq_getElem?_getD, List.getElem?_eq_getElem hi]
  exact h3 _ (List.getElem_mem hi)
end Dk
end Go.Proofs.YtimddchgmocdaaaDoor
set_option linter.unusedVariables false
set_option linter.unusedSimpArgs false
namespace Go.Proofs.YtimddchgmocdaaaDoor
open Go.RowKit

theorem flat_length {α : Type} (f : α → List Value) (m : Nat) (l : List α) (h : ∀ x ∈ l, (f x).length = m) : (l.flatMap f).length = l.length * m := by
  induction l with
  | nil => simp
  | cons x l ih =>
    rw [List.flatMap_cons, List.length_append, h x (List.mem_cons_self ..), ih (fun y hy => h y (List.mem_cons_of_mem _ hy)), List.length_cons, Nat.succ_mul]
    omega
theorem flat_at {α : Type} (f : α → List Value) (m : Nat) (l : List α) (h : ∀ x ∈ l, (f x).length = m) (k : Nat) (hk : k < l.length) (j : Nat) (hj : j < m) : (l.flatMap f)[k * m + j]? = (f l[k])[j]? := by
  induction l generalizing k with
  | nil => simp at hk
  | cons x l ih =>
    have hx := h x (List.mem_cons_self ..)
    rw [List.flatMap_cons]
    cases k with
    | zero => rw [List.getElem?_append_left (by omega)]; simp
    | succ k =>
      rw [List.getElem?_append_right (by rw [hx, Nat.succ_mul]; omega), hx, show (k + 1) * m + j - m = k * m + j by rw [Nat.succ_mul]; omega]
      exact ih (fun y hy => h y (List.mem_cons_of_mem _ hy)) k (by simpa using hk)
theorem flat_take {α : Type} (f : α → List Value) (m : Nat) (l : List α) (h : ∀ x ∈ l, (f x).length = m) (k : Nat) (hk : k ≤ l.length) : (l.flatMap f).take (k * m) = (l.take k).flatMap f ∧ (l.flatMap f).drop (k * m) = (l.drop k).flatMap f := by
  have e : l.flatMap f = (l.take k).flatMap f ++ (l.drop k).flatMap f := by rw [← List.flatMap_append, List.take_append_drop]
  have hl : ((l.take k).flatMap f).length = k * m := by rw [flat_length f m _ (fun x hx => h x (List.mem_of_mem_take hx)), List.length_take, Nat.min_eq_left hk]
  constructor
  · rw [e, List.take_append_of_le_length (by omega), List.take_of_length_le (by omega)]
  · rw [e, ← hl, List.drop_left]
theorem flat_set {α : Type} (f : α → List Value) (m : Nat) (l : List α) (h : ∀ x ∈ l, (f x).length = m) (k : Nat) (hk : k < l.length) (b : α) (hb : (f b).length = m) : setList (l.flatMap f) (k * m) (f b) = (l.set k b).flatMap f := by
  have hkm : k * m + m ≤ l.length * m := by rw [← Nat.succ_mul]; exact Nat.mul_le_mul_right _ hk
  rw [setList_eq _ _ _ (by rw [flat_length f m l h, hb]; exact hkm), hb, (flat_take f m l h k (by omega)).1, show k * m + m = (k + 1) * m by rw [Nat.succ_mul], (flat_take f m l h (k + 1) hk).2,
    List.set_eq_take_append_cons_drop, if_pos hk, List.flatMap_append, List.flatMap_cons, List.append_assoc]

/-- sectors as cells -/
def secC (L : List (List UInt8)) : List Value := L.flatMap cellsOf8
/-- pending writes as cells -/
def penCell (x : Nat × List UInt8) : List Value := Value.int .i64 (x.1 : Int) :: cellsOf8 x.2
def penC (p : List (Nat × List UInt8)) : List Value := p.flatMap penCell
theorem cell8_512 {L : List (List UInt8)} (h : ∀ b ∈ L, b.length = 512) : ∀ b ∈ L, (cellsOf8 b).length = 512 := fun b hb => by rw [cellsOf8_length]; exact h b hb
theorem pen_513 {p : List (Nat × List UInt8)} (h : ∀ x ∈ p, x.2.length = 512) : ∀ x ∈ p, (penCell x).length = 513 := fun x hx => by simp [penCell, cellsOf8_length, h x hx]
/-- booleans that are read -/
def KeepAt (w : World) (base : Nat) (K : Option Addr) (l : List Bool) : Prop :=
  l = [] ∨ ∃ b off, K = some ⟨b, off, none⟩ ∧ (b < base ∨ Tk w b [4]) ∧ ∀ k (h : k < l.length), w.cell? ⟨b, off + k, none⟩ = some (.bool l[k])
/-- the types of a disk's rows -/
def diskT : List TypeId := [60, 76, 121]
/-- The disk at d, its sectors in block a. -/
def DiskAt (w : World) (base a d : Nat) (D : Dk) : Prop :=
  D.Ok ∧ base ≤ d ∧ ∃ (cA : Nat) (P : Option Addr) (cp : Nat) (K : Option Addr) (ck : Nat) (wr fl : Int) (T : Option Addr) (tn ct : Nat) (tc : List Value),
    Is w d 60 #[.slice (some ⟨a, 0, none⟩) D.lasts.length cA, .slice P D.pend.length cp, .int .i64 (D.left : Int), .slice K D.keep.length ck, .bool D.down, .int .i64 wr, .int .i64 fl, .slice T tn ct] ∧
    Own w base 74 512 (some ⟨a, 0, none⟩) D.lasts.length cA (secC D.lasts) ∧ Own w base 76 513 P D.pend.length cp (penC D.pend) ∧ KeepAt w base K D.keep ∧
    Own w base 121 3 T tn ct tc ∧ tn ≤ D.n
section
variable {w w2 : World} {base a d : Nat} {D : Dk} {Ts : List TypeId}
theorem KeepAt.kt {K : Option Addr} {l : List Bool} {s : Option Nat} (h : KeepAt w base K l) (k : KT s base Ts w w2) (ht : 4 ∉ Ts) (hs : ∀ b, s = some b → ¬ Tk w b [4]) : KeepAt w2 base K l := by
  rcases h with h | ⟨b, off, rfl, hb, hc⟩
  · exact .inl h
  · by_cases hl : l = []
    · exact .inl hl
    have hlt : b < w.heap.size := block_lt_of_cell (hc 0 (List.length_pos_iff.2 hl))
    have e : w2.heap[b]? = w.heap[b]? := k.block b hlt (hb.imp id fun ⟨cs, t, f, h1, h2⟩ => by
      refine ⟨fun e => hs b e.symm ⟨cs, t, f, h1, h2⟩, fun ⟨cs', t', f', h3, h4⟩ => ?_⟩
      rw [h1] at h3
      injection h3 with h3
      injection h3 with _ h3
      simp at h2
      rw [← h3, h2] at h4
      exact ht h4)
    refine .inr ⟨b, off, rfl, hb.imp id fun ⟨cs, t, f, h1, h2⟩ => ⟨cs, t, f, e.trans h1, h2⟩, fun i hi => ?_⟩
    exact (World.cell?_of_block (a := ⟨b, off + i, none⟩) e).trans (hc i hi)
/-- what turns no row of a disk's leaves the disk as it was -/
theorem DiskAt.kt (h : DiskAt w base a d D) {s : Option Nat} (k : KT s base Ts w w2) (h1 : 60 ∉ Ts) (h2 : 74 ∉ Ts) (h3 : 76 ∉ Ts) (h4 : 4 ∉ Ts) (h5 : 121 ∉ Ts)
    (hs : ∀ b, s = some b → ¬ Tk w b [60, 74, 76, 4, 121]) : DiskAt w2 base a d D := by
  obtain ⟨hO, hd, cA, P, cp, K, ck, wr, fl, T, tn, ct, tc, hI, hA, hP, hK, hT, hn⟩ := h
  have ne : ∀ g t, (∃ cur, Is w g t cur) → t ∈ [60, 74, 76, 4, 121] → some g ≠ s := fun g t ⟨cur, hi⟩ hm e => hs g e.symm ⟨_, _, _, hi, hm⟩
  exact ⟨hO, hd, cA, P, cp, K, ck, wr, fl, T, tn, ct, tc, hI.kt k (.inr ⟨ne d _ ⟨_, hI⟩ (by simp), h1⟩), hA.kt k h2 (fun g hg => ne g _ (hA.typed g hg).2 (by simp)), hP.kt k h3 (fun g hg => ne g _ (hP.typed g hg).2 (by simp)),
    hK.kt k h4 (fun b e ⟨cs, t, f, q1, q2⟩ => hs b e ⟨cs, t, f, q1, by simp at q2; rw [q2]; simp⟩), hT.kt k h5 (fun g hg => ne g _ (hT.typed g hg).2 (by simp)), hn⟩
theorem DiskAt.later (h : DiskAt w base a d D) (hb : Below w.heap.size w w2) : DiskAt w2 base a d D :=
  h.kt (Ts := []) (s := none) (KT.of_below hb (Nat.le_refl _)) (by simp) (by simp) (by simp) (by simp) (by simp) (fun b e => by cases e)
end
end Go.Proofs.YtimddchgmocdaaaDoor
