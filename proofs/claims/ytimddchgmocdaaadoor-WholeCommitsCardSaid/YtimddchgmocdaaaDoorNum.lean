/-
  ROWS OF INTEGERS THAT THE CALL ITSELF MADE.
-/
import Derived.Test.YtimddchgmocdaaaDoorKeeps
import Derived.Maps.AppendAt
set_option linter.unusedVariables false
set_option linter.unusedSimpArgs false
namespace Go.Proofs.YtimddchgmocdaaaDoor
open Go.RowKit

theorem infoNum : (Tryd.prog.info? 3).map (fun i => (i.zero, i.size, i.bytes)) = some (some (.int .i64 0), 1, 8) := by kernel_rfl
def numCells (ts : List Int) : List Value := ts.map fun s => Value.int .i64 s
theorem numCells_length (ts : List Int) : (numCells ts).length = ts.length := by simp [numCells]
/-- The slice value (A, length of ts, cap) owns the texts ts, in a block from base on. -/
def Nums (w : World) (base : Nat) (A : Option Addr) (cap : Nat) (ts : List Int) : Prop := w.ownsRow base 3 1 (.slice A ts.length cap) ts.length (numCells ts)
section
variable {w w' w2 : World} {S : Nat → Prop} {base cap : Nat} {A B : Option Addr} {ts : List Int}
theorem Nums.nil (w : World) (base : Nat) : Nums w base none 0 [] := ⟨rfl, .inl ⟨rfl, rfl⟩⟩
theorem Nums.kept (h : Nums w base A cap ts) (hk : ∀ g, Of A g → w'.heap[g]? = w.heap[g]?) : Nums w' base A cap ts := by
  refine ⟨h.1, ?_⟩
  rcases h.2 with h2 | ⟨g, cap', cur, hv, hg, hh, r⟩
  · exact .inl h2
  · refine .inr ⟨g, cap', cur, hv, hg, ?_, r⟩
    injection hv with hA
    rw [hk g hA]; exact hh
theorem Nums.lt (h : Nums w base A cap ts) (g : Nat) (hg : Of A g) : g < w.heap.size := by
  rcases h.2 with ⟨hv, _⟩ | ⟨g', cap', cur, hv, _, hh, _⟩
  · injection hv with hA; unfold Of at hg; rw [hA] at hg; cases hg
  · injection hv with hA
    unfold Of at hg
    rw [hA] at hg
    injection hg with hg
    injection hg with hg
    subst hg
    exact Is.lt hh
theorem Nums.ge (h : Nums w base A cap ts) (g : Nat) (hg : Of A g) : base ≤ g := by
  rcases h.2 with ⟨hv, _⟩ | ⟨g', cap', cur, hv, hb, hh, _⟩
  · injection hv with hA; unfold Of at hg; rw [hA] at hg; cases hg
  · injection hv with hA
    unfold Of at hg
    rw [hA] at hg
    injection hg with hg
    injection hg with hg
    subst hg
    exact hb
theorem Nums.keeps (h : Nums w base A cap ts) (k : Keeps S w w2) (hn : ∀ i, Of A i → ¬ S i) : Nums w2 base A cap ts := h.kept fun g hg => k.block g (h.lt g hg) (hn g hg)
theorem Nums.later (h : Nums w base A cap ts) (hb : Below w.heap.size w w2) : Nums w2 base A cap ts := h.kept fun g hg => hb.block g (h.lt g hg)
theorem Nums.shape (h : Nums w base A cap ts) : A = none ∨ ∃ g, A = some ⟨g, 0, none⟩ := by
  rcases h.2 with ⟨hv, _⟩ | ⟨g, cap', cur, hv, _⟩
  · injection hv with hA; exact .inl hA
  · injection hv with hA; exact .inr ⟨g, hA⟩
theorem Nums.cell (h : Nums w base A cap ts) {k : Nat} (hk : k < ts.length) : ∃ g, A = some ⟨g, 0, none⟩ ∧ w.cell? ⟨g, k, none⟩ = some (.int .i64 ts[k]) := by
  rcases h.2 with ⟨_, h0⟩ | ⟨g, cap', cur, hv, _⟩
  · omega
  · injection hv with hA
    subst hA
    refine ⟨g, rfl, ?_⟩
    rw [World.ownsRow.cellAt h k (by omega)]
    simp [numCells, hk]
end
theorem nums_of_own {w : World} {base : Nat} {v : Value} {ts : List Int} (h : w.ownsRow base 3 1 v ts.length (numCells ts)) : ∃ A cap, v = .slice A ts.length cap ∧ Nums w base A cap ts := by
  rcases h.2 with ⟨hv, h0⟩ | ⟨g, cap, cur, hv, _⟩
  · have : ts = [] := List.eq_nil_of_length_eq_zero h0
    subst this
    exact ⟨none, 0, hv, by subst hv; exact h⟩
  · exact ⟨_, cap, hv, by subst hv; exact h⟩

set_option maxRecDepth 100000 in
/-- append(texts, s) -/
theorem wpList_append_num {ops : Array Oper} {rest : List Oper} {o : Oper} {a : Act} {w : World} {Q : Exit → Act → World → Prop} (hgd : o.guard = none) (s x : Operand)
    (ho : o.op = .call { callee := .builtin .append, args := #[s, x], argTypes := #[28, 28] })
    (base : Nat) (A : Option Addr) (cap : Nat) (ts : List Int) (hs : a.eval s = .slice A ts.length cap) (hown : Nums w base A cap ts)
    (g c : Nat) (news : Int) (hx : a.eval x = .slice (some ⟨g, 0, none⟩) 1 c) (hnews : w.cell? ⟨g, 0, none⟩ = some (.int .i64 news))
    (hbytes : (ts.length + 1) * 8 ≤ 140737488355328) (hbase : base ≤ w.heap.size)
    (h : ∀ A' cap' w', Nums w' base A' cap' (ts ++ [news]) → Keeps (Of A) w w' → (∀ i, Of A' i → Of A i ∨ i = w.heap.size) → wpList Tryd.prog ops Q rest (a.put o.dst (.slice A' (ts ++ [news]).length cap')) w') :
    wpList Tryd.prog ops Q (o :: rest) a w := by
  obtain ⟨i0, hi, hz0, hz1, hz2⟩ := info_parts infoNum
  refine wpList_append_own_at w hgd s x 28 ho base 3 i0 (.int .i64 0) 1 8 Tryd.underlying28 hi hz0 hz1 hz2 rfl (by decide) _ ts.length (numCells ts) hs hown ⟨g, 0, none⟩ 1 c [.int .i64 news] hx rfl ?_ ?_
    (by simp only [maxLen]; omega) hbytes hbase ?_
  · intro j u hu
    cases j with
    | zero =>
      simp at hu
      subst hu
      exact hnews
    | succ j => simp at hu
  · intro u hu
    simp at hu
    subst hu
    rfl
  · intro v' w' hown' hg _ hat
    have e : numCells ts ++ [Value.int .i64 news] = numCells (ts ++ [news]) := by simp [numCells]
    have e2 : ts.length + 1 = (ts ++ [news]).length := by simp
    rw [e, e2] at hown'
    obtain ⟨A', cap', rfl, hm⟩ := nums_of_own hown'
    refine h A' cap' w' hm (Keeps.of_grown hown.shape hg) ?_
    intro i hi2
    unfold Of at hi2
    subst hi2
    rcases hat with ha | ha
    · left
      rcases hown.shape with hA | ⟨g', hA⟩
      · subst hA; cases ha
      · subst hA
        injection ha with ha
        have ha : i = g' := ha
        subst ha; rfl
    · right
      injection ha
end Go.Proofs.YtimddchgmocdaaaDoor
