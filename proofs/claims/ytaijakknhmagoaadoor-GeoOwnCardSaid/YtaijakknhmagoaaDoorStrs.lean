/-
  ROWS OF TEXTS THAT THE CALL ITSELF MADE.
-/
import Derived.Test.YtaijakknhmagoaaDoorKeeps
import Derived.Maps.AppendAt
set_option linter.unusedVariables false
set_option linter.unusedSimpArgs false
namespace Go.Proofs.YtaijakknhmagoaaDoor
open Go.RowKit

theorem infoStr : (Tryd.prog.info? 9).map (fun i => (i.zero, i.size, i.bytes)) = some (some (.string ⟨#[]⟩), 1, 16) := by kernel_rfl
def strCells (ts : List (List UInt8)) : List Value := ts.map fun s => Value.string ⟨s.toArray⟩
theorem strCells_length (ts : List (List UInt8)) : (strCells ts).length = ts.length := by simp [strCells]
/-- The slice value (A, length of ts, cap) owns the texts ts, in a block from base on. -/
def Strs (w : World) (base : Nat) (A : Option Addr) (cap : Nat) (ts : List (List UInt8)) : Prop := w.ownsRow base 9 1 (.slice A ts.length cap) ts.length (strCells ts)
section
variable {w w' w2 : World} {S : Nat → Prop} {base cap : Nat} {A B : Option Addr} {ts : List (List UInt8)}
theorem Strs.nil (w : World) (base : Nat) : Strs w base none 0 [] := ⟨rfl, .inl ⟨rfl, rfl⟩⟩
theorem Strs.kept (h : Strs w base A cap ts) (hk : ∀ g, Of A g → w'.heap[g]? = w.heap[g]?) : Strs w' base A cap ts := by
  refine ⟨h.1, ?_⟩
  rcases h.2 with h2 | ⟨g, cap', cur, hv, hg, hh, r⟩
  · exact .inl h2
  · refine .inr ⟨g, cap', cur, hv, hg, ?_, r⟩
    injection hv with hA
    rw [hk g hA]; exact hh
theorem Strs.lt (h : Strs w base A cap ts) (g : Nat) (hg : Of A g) : g < w.heap.size := by
  rcases h.2 with ⟨hv, _⟩ | ⟨g', cap', cur, hv, _, hh, _⟩
  · injection hv with hA; unfold Of at hg; rw [hA] at hg; cases hg
  · injection hv with hA
    unfold Of at hg
    rw [hA] at hg
    injection hg with hg
    injection hg with hg
    subst hg
    exact Is.lt hh
theorem Strs.ge (h : Strs w base A cap ts) (g : Nat) (hg : Of A g) : base ≤ g := by
  rcases h.2 with ⟨hv, _⟩ | ⟨g', cap', cur, hv, hb, hh, _⟩
  · injection hv with hA; unfold Of at hg; rw [hA] at hg; cases hg
  · injection hv with hA
    unfold Of at hg
    rw [hA] at hg
    injection hg with hg
    injection hg with hg
    subst hg
    exact hb
theorem Strs.keeps (h : Strs w base A cap ts) (k : Keeps S w w2) (hn : ∀ i, Of A i → ¬ S i) : Strs w2 base A cap ts := h.kept fun g hg => k.block g (h.lt g hg) (hn g hg)
theorem Strs.later (h : Strs w base A cap ts) (hb : Below w.heap.size w w2) : Strs w2 base A cap ts := h.kept fun g hg => hb.block g (h.lt g hg)
theorem Strs.shape (h : Strs w base A cap ts) : A = none ∨ ∃ g, A = some ⟨g, 0, none⟩ := by
  rcases h.2 with ⟨hv, _⟩ | ⟨g, cap', cur, hv, _⟩
  · injection hv with hA; exact .inl hA
  · injection hv with hA; exact .inr ⟨g, hA⟩
theorem Strs.cell (h : Strs w base A cap ts) {k : Nat} (hk : k < ts.length) : ∃ g, A = some ⟨g, 0, none⟩ ∧ w.cell? ⟨g, k, none⟩ = some (.string ⟨ts[k].toArray⟩) := by
  rcases h.2 with ⟨_, h0⟩ | ⟨g, cap', cur, hv, _⟩
  · omega
  · injection hv with hA
    subst hA
    refine ⟨g, rfl, ?_⟩
    rw [World.ownsRow.cellAt h k (by omega)]
    simp [strCells, hk]
theorem Strs.apart {l : List UInt8} {b2 c2 : Nat} (h : Strs w base A cap ts) (hM : Mine w b2 B c2 l) : Apart B A := by
  intro i hb ha
  rcases h.2 with ⟨hv, _⟩ | ⟨g, cap', cur, hv, _, hh, _⟩
  · injection hv with hA; unfold Of at ha; rw [hA] at ha; cases ha
  rcases hM.2 with ⟨hv2, _⟩ | ⟨g2, cap2, cur2, hv2, _, hh2, _⟩
  · injection hv2 with hA; unfold Of at hb; rw [hA] at hb; cases hb
  injection hv with hA
  injection hv2 with hA2
  unfold Of at ha hb
  rw [hA] at ha
  rw [hA2] at hb
  injection ha with ha; injection ha with ha
  injection hb with hb; injection hb with hb
  subst ha
  subst hb
  rw [hh] at hh2
  injection hh2 with hh2
  injection hh2 with _ ht
  exact absurd ht (by decide)
end
theorem strs_of_own {w : World} {base : Nat} {v : Value} {ts : List (List UInt8)} (h : w.ownsRow base 9 1 v ts.length (strCells ts)) : ∃ A cap, v = .slice A ts.length cap ∧ Strs w base A cap ts := by
  rcases h.2 with ⟨hv, h0⟩ | ⟨g, cap, cur, hv, _⟩
  · have : ts = [] := List.eq_nil_of_length_eq_zero h0
    subst this
    exact ⟨none, 0, hv, by subst hv; exact h⟩
  · exact ⟨_, cap, hv, by subst hv; exact h⟩

/-- append(texts, s) -/
theorem wpList_append_str {ops : Array Oper} {rest : List Oper} {o : Oper} {a : Act} {w : World} {Q : Exit → Act → World → Prop} (hgd : o.guard = none) (s x : Operand)
    (ho : o.op = .call { callee := .builtin .append, args := #[s, x], argTypes := #[39, 39] })
    (base : Nat) (A : Option Addr) (cap : Nat) (ts : List (List UInt8)) (hs : a.eval s = .slice A ts.length cap) (hown : Strs w base A cap ts)
    (g c : Nat) (news : List UInt8) (hx : a.eval x = .slice (some ⟨g, 0, none⟩) 1 c) (hnews : w.cell? ⟨g, 0, none⟩ = some (.string ⟨news.toArray⟩))
    (hbytes : (ts.length + 1) * 16 ≤ 140737488355328) (hbase : base ≤ w.heap.size)
    (h : ∀ A' cap' w', Strs w' base A' cap' (ts ++ [news]) → Keeps (Of A) w w' → (∀ i, Of A' i → Of A i ∨ i = w.heap.size) → wpList Tryd.prog ops Q rest (a.put o.dst (.slice A' (ts ++ [news]).length cap')) w') :
    wpList Tryd.prog ops Q (o :: rest) a w := by
  obtain ⟨i0, hi, hz0, hz1, hz2⟩ := info_parts infoStr
  refine wpList_append_own_at w hgd s x 39 ho base 9 i0 (.string ⟨#[]⟩) 1 16 Tryd.underlying39 hi hz0 hz1 hz2 rfl (by decide) _ ts.length (strCells ts) hs hown ⟨g, 0, none⟩ 1 c [.string ⟨news.toArray⟩] hx rfl ?_ ?_
    (by simp only [maxLen]; omega) hbytes hbase ?_
  · intro j u hu
    cases j with
    | zero =>
      simp at hu
      subst hu
      exact hnews
    | succ j => simp at hu
  · intro u hu
    simp at hu
    subst hu
    rfl
  · intro v' w' hown' hg _ hat
    have e : strCells ts ++ [Value.string ⟨news.toArray⟩] = strCells (ts ++ [news]) := by simp [strCells]
    have e2 : ts.length + 1 = (ts ++ [news]).length := by simp
    rw [e, e2] at hown'
    obtain ⟨A', cap', rfl, hm⟩ := strs_of_own hown'
    refine h A' cap' w' hm (Keeps.of_grown hown.shape hg) ?_
    intro i hi2
    unfold Of at hi2
    subst hi2
    rcases hat with ha | ha
    · left
      rcases hown.shape with hA | ⟨g', hA⟩
      · subst hA; cases ha
      · subst hA
        injection ha with ha
        have ha : i = g' := ha
        subst ha; rfl
    · right
      injection ha
theorem apart_grow {w : World} {A A' B : Option Addr} (h : Apart A B) (hB : ∀ i, Of B i → i < w.heap.size) (hg : ∀ i, Of A' i → Of A i ∨ i = w.heap.size) : Apart A' B := by
  intro i ha hb
  rcases hg i ha with h1 | h1
  · exact h i h1 hb
  · have := hB i hb; omega
end Go.Proofs.YtaijakknhmagoaaDoor
