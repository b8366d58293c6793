/-
  THE WALK OF GeoOwn: super blocks that were answered, written full with marks of their own and appended to, keep their marks; what is answered behind that is as before.
-/
import Derived.Test.YtaijakknhmagoaaDoorGeoReadsW
import Derived.Test.YtaijakknhmagoaaDoorSls
set_option linter.unusedVariables false
set_option linter.unusedSimpArgs false
namespace Go.Proofs.YtaijakknhmagoaaDoor
open Go.RowKit Rec Gp

/-- the number of blocks that a number is made -/
def num (k : Int) : Nat := 128 + (k % 18446744073709551616).toNat % 16257
theorem num_made (k : Int) (h0 : -9223372036854775808 ≤ k) (h1 : k ≤ 9223372036854775807) : ∃ u m : Nat, IntKind.u64.wrap k = (u : Int) ∧ (u : Int) % 16257 = (m : Int) ∧ (m : Int) ≤ 16256 ∧ 128 + m = num k ∧ Disk (num k) := by
  refine ⟨(k % 18446744073709551616).toNat, (k % 18446744073709551616).toNat % 16257, ?_, by omega, by omega, rfl, ?_⟩
  · by_cases h : 0 ≤ k
    · rw [IntWalk.u64_in _ (by omega)]; omega
    · rw [show IntKind.u64.wrap k = k % 18446744073709551616 from rfl]; omega
  · unfold Disk num; omega
/-- the mark of the i-th -/
def mark (i : Nat) : UInt8 := UInt8.ofNat (20 + i)
theorem mark_wrap (i : Nat) (h : i < 3) : IntKind.u8.wrap (20 + (i : Int)) = n8 (mark i) := by
  rw [IntWalk.u8_in _ (by omega)]
  unfold n8 mark
  rw [UInt8.toNat_ofNat']
  omega
/-- f up to k, g at k -/
def extd (f : Nat → Nat) (k g j : Nat) : Nat := if j < k then f j else g
theorem extd_lt {f : Nat → Nat} {k g j : Nat} (h : j < k) : extd f k g j = f j := if_pos h
theorem extd_at {f : Nat → Nat} {k g : Nat} : extd f k g k = g := if_neg (Nat.lt_irrefl k)
/-- F, but at i -/
def updF (F : Nat → List UInt8) (i : Nat) (l : List UInt8) (j : Nat) : List UInt8 := if j = i then l else F j
theorem updF_at {F : Nat → List UInt8} {i : Nat} {l : List UInt8} : updF F i l i = l := if_pos rfl
theorem updF_ne {F : Nat → List UInt8} {i j : Nat} {l : List UInt8} (h : j ≠ i) : updF F i l j = F j := if_neg h
/-- the first k slices -/
def slsOf (f : Nat → Nat) (k : Nat) : List Sl := (List.range k).map fun j => ⟨f j, 512, 512⟩
theorem slsOf_length (f : Nat → Nat) (k : Nat) : (slsOf f k).length = k := by simp [slsOf]
theorem slsOf_at (f : Nat → Nat) (k j : Nat) (h : j < (slsOf f k).length) : (slsOf f k)[j] = ⟨f j, 512, 512⟩ := by simp [slsOf]
theorem slsOf_snoc (f : Nat → Nat) (k g : Nat) : slsOf f k ++ [⟨g, 512, 512⟩] = slsOf (extd f k g) (k + 1) := by
  unfold slsOf
  rw [List.range_succ, List.map_append, List.map_cons, List.map_nil]
  congr 1
  · apply List.map_congr_left
    intro j hj
    rw [extd_lt (by simpa using hj)]
  · rw [extd_at]
/-- the first k longer ones -/
def longOf (f c : Nat → Nat) (k : Nat) : List Sl := (List.range k).map fun j => ⟨f j, 513, c j⟩
theorem longOf_length (f c : Nat → Nat) (k : Nat) : (longOf f c k).length = k := by simp [longOf]
theorem longOf_at (f c : Nat → Nat) (k j : Nat) (h : j < (longOf f c k).length) : (longOf f c k)[j] = ⟨f j, 513, c j⟩ := by simp [longOf]
theorem longOf_snoc (f c : Nat → Nat) (k g d : Nat) : longOf f c k ++ [⟨g, 513, d⟩] = longOf (extd f k g) (extd c k d) (k + 1) := by
  unfold longOf
  rw [List.range_succ, List.map_append, List.map_cons, List.map_nil]
  congr 1
  · apply List.map_congr_left
    intro j hj
    rw [extd_lt (by simpa using hj), extd_lt (by simpa using hj)]
  · rw [extd_at, extd_at]
def textsOf (F : Nat → List UInt8) (k : Nat) : List (List UInt8) := (List.range k).map F
theorem textsOf_length (F : Nat → List UInt8) (k : Nat) : (textsOf F k).length = k := by simp [textsOf]
theorem textsOf_at (F : Nat → List UInt8) (k j : Nat) (h : j < (textsOf F k).length) : (textsOf F k)[j] = F j := by simp [textsOf]
theorem textsOf_snoc (F : Nat → List UInt8) (k : Nat) : textsOf F k ++ [F k] = textsOf F (k + 1) := by
  unfold textsOf
  rw [List.range_succ, List.map_append, List.map_cons, List.map_nil]

/-- the first k blocks of 512 bytes, apart from each other -/
def Blks (w : World) (base : Nat) (f : Nat → Nat) (k : Nat) (F : Nat → List UInt8) : Prop :=
  (∀ j, j < k → (F j).length = 512 ∧ Mine w base (some ⟨f j, 0, none⟩) 512 (F j)) ∧ ∀ i j, i < j → j < k → f i ≠ f j
theorem of_some {g i : Nat} (h : Of (some ⟨g, 0, none⟩) i) : i = g := by
  injection h with h
  injection h with h
  exact h.symm
theorem Blks.keeps {w w2 : World} {S : Nat → Prop} {base k : Nat} {f : Nat → Nat} {F : Nat → List UInt8} (h : Blks w base f k F) (hk : Keeps S w w2) (hn : ∀ j, j < k → ¬ S (f j)) : Blks w2 base f k F :=
  ⟨fun j hj => ⟨(h.1 j hj).1, (h.1 j hj).2.keeps hk fun i hi => by rw [of_some hi]; exact hn j hj⟩, h.2⟩
theorem Blks.later {w w2 : World} {base k : Nat} {f : Nat → Nat} {F : Nat → List UInt8} (h : Blks w base f k F) (hb : Below w.heap.size w w2) : Blks w2 base f k F :=
  ⟨fun j hj => ⟨(h.1 j hj).1, (h.1 j hj).2.later hb⟩, h.2⟩
theorem Blks.off {w : World} {base b2 c2 k : Nat} {f : Nat → Nat} {F : Nat → List UInt8} {A : Option Addr} {ps : List Sl} (h : Blks w base f k F) (hs : Sls w b2 A c2 ps) (j : Nat) (hj : j < k) : ¬ Of A (f j) :=
  fun ha => hs.apart (h.1 j hj).2 (f j) rfl ha
theorem Blks.off_str {w : World} {base b2 c2 k : Nat} {f : Nat → Nat} {F : Nat → List UInt8} {A : Option Addr} {ts : List (List UInt8)} (h : Blks w base f k F) (hs : Strs w b2 A c2 ts) (j : Nat) (hj : j < k) : ¬ Of A (f j) :=
  fun ha => hs.apart (h.1 j hj).2 (f j) rfl ha
theorem Blks.more {w : World} {base k g : Nat} {f : Nat → Nat} {F : Nat → List UInt8} (h : Blks w base f k F) (hm : Mine w base (some ⟨g, 0, none⟩) 512 (F k)) (hl : (F k).length = 512) (hg : ∀ j, j < k → f j ≠ g) :
    Blks w base (extd f k g) (k + 1) F := by
  refine ⟨fun j hj => ?_, fun i j hij hj => ?_⟩
  · by_cases hjk : j < k
    · rw [extd_lt hjk]; exact h.1 j hjk
    · obtain rfl : j = k := by omega
      rw [extd_at]; exact ⟨hl, hm⟩
  · rw [extd_lt (show i < k by omega)]
    by_cases hjk : j < k
    · rw [extd_lt hjk]; exact h.2 i j hij hjk
    · obtain rfl : j = k := by omega
      rw [extd_at]; exact hg i (by omega)
/-- one byte of one block is written -/
theorem Blks.put {w : World} {base k : Nat} {f : Nat → Nat} {F : Nat → List UInt8} (h : Blks w base f k F) (i q : Nat) (hi : i < k) (b : UInt8) :
    Blks (w.setCell ⟨f i, q, none⟩ (.int .u8 (n8 b))) base f k (updF F i ((F i).set q b)) := by
  refine ⟨fun j hj => ?_, h.2⟩
  by_cases hji : j = i
  · subst hji
    rw [updF_at]
    exact ⟨by rw [List.length_set]; exact (h.1 j hj).1, (h.1 j hj).2.put q b⟩
  · rw [updF_ne hji]
    refine ⟨(h.1 j hj).1, (h.1 j hj).2.kept fun g hg => heap_setCell_other w ⟨f i, q, none⟩ g _ ?_⟩
    injection hg with hg
    injection hg with hg
    intro e
    have e : g = f i := e
    rcases Nat.lt_or_ge j i with h1 | h1
    · exact h.2 j i h1 hi (by omega)
    · exact h.2 i j (by omega) hj (by omega)
/-- append(s, x...) where s is full: a new block -/
theorem wpList_append_full {ops : Array Oper} {rest : List Oper} {o : Oper} {a : Act} {w : World} {Q : Exit → Act → World → Prop} (hgd : o.guard = none) (s x : Operand)
    (ho : o.op = .call { callee := .builtin .append, args := #[s, x], argTypes := #[28, 28] })
    (g n : Nat) (l : List UInt8) (hl : l.length = n) (hs : a.eval s = .slice (some ⟨g, 0, none⟩) n n) (hb : Bytes w (some ⟨g, 0, none⟩) l)
    (ad : Addr) (c : Nat) (b : UInt8) (hx : a.eval x = .slice (some ad) 1 c) (hc : Bytes w (some ad) [b]) (hm : n + 1 ≤ 140737488355328)
    (h : ∀ A' cap' w', Mine w' w.heap.size A' cap' (l ++ [b]) → Below w.heap.size w w' → wpList Tryd.prog ops Q rest (a.put o.dst (.slice A' (n + 1) cap')) w') :
    wpList Tryd.prog ops Q (o :: rest) a w := by
  obtain ⟨i0, hi, hz0, hz1, hz2⟩ := info_parts infoU8
  refine wpList_append_grows w hgd s x 28 ho 5 i0 (.int .u8 0) 1 1 Tryd.underlying28 hi hz0 hz1 hz2 rfl (by decide) _ n n (cellsOf8 l) hs (fun h => by cases h) (by rw [cellsOf8_length, Nat.mul_one]; exact hl) ?_ ad 1 c (cellsOf8 [b]) hx rfl hc.cells (cellsOf8_one _) (by omega) (by simp only [maxLen]; omega) (by omega) ?_
  · intro b' e j u hu
    injection e with e
    subst e
    exact hb.cells j u hu
  · intro v' w' hown hg
    rw [← cellsOf8_append] at hown
    have e : n + 1 = (l ++ [b]).length := by simp [hl]
    rw [e] at hown
    obtain ⟨A', cap', rfl, hmn⟩ := mine_of_own hown
    rw [← e]
    exact h A' cap' w' hmn (grown_below_none (Nat.le_refl _) hg)
end Go.Proofs.YtaijakknhmagoaaDoor
