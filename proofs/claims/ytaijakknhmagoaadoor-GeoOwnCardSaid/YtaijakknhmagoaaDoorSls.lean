/-
  ROWS OF SLICES THAT THE CALL ITSELF MADE.
-/
import Derived.Test.YtaijakknhmagoaaDoorStrs
set_option linter.unusedVariables false
set_option linter.unusedSimpArgs false
namespace Go.Proofs.YtaijakknhmagoaaDoor
open Go.RowKit

/-- a slice of bytes, from its block's start on: the block, how many, the room -/
structure Sl where
  g : Nat
  n : Nat
  c : Nat
def Sl.val (s : Sl) : Value := .slice (some ⟨s.g, 0, none⟩) s.n s.c
theorem infoSl : (Tryd.prog.info? 28).map (fun i => (i.zero, i.size, i.bytes)) = some (some (.slice none 0 0), 1, 24) := by kernel_rfl
def slCells (ts : List Sl) : List Value := ts.map fun s => s.val
theorem slCells_length (ts : List Sl) : (slCells ts).length = ts.length := by simp [slCells]
/-- The slice value (A, length of ts, cap) owns the texts ts, in a block from base on. -/
def Sls (w : World) (base : Nat) (A : Option Addr) (cap : Nat) (ts : List Sl) : Prop := w.ownsRow base 28 1 (.slice A ts.length cap) ts.length (slCells ts)
section
variable {w w' w2 : World} {S : Nat → Prop} {base cap : Nat} {A B : Option Addr} {ts : List Sl}
theorem Sls.nil (w : World) (base : Nat) : Sls w base none 0 [] := ⟨rfl, .inl ⟨rfl, rfl⟩⟩
theorem Sls.kept (h : Sls w base A cap ts) (hk : ∀ g, Of A g → w'.heap[g]? = w.heap[g]?) : Sls w' base A cap ts := by
  refine ⟨h.1, ?_⟩
  rcases h.2 with h2 | ⟨g, cap', cur, hv, hg, hh, r⟩
  · exact .inl h2
  · refine .inr ⟨g, cap', cur, hv, hg, ?_, r⟩
    injection hv with hA
    rw [hk g hA]; exact hh
theorem Sls.lt (h : Sls w base A cap ts) (g : Nat) (hg : Of A g) : g < w.heap.size := by
  rcases h.2 with ⟨hv, _⟩ | ⟨g', cap', cur, hv, _, hh, _⟩
  · injection hv with hA; unfold Of at hg; rw [hA] at hg; cases hg
  · injection hv with hA
    unfold Of at hg
    rw [hA] at hg
    injection hg with hg
    injection hg with hg
    subst hg
    exact Is.lt hh
theorem Sls.ge (h : Sls w base A cap ts) (g : Nat) (hg : Of A g) : base ≤ g := by
  rcases h.2 with ⟨hv, _⟩ | ⟨g', cap', cur, hv, hb, hh, _⟩
  · injection hv with hA; unfold Of at hg; rw [hA] at hg; cases hg
  · injection hv with hA
    unfold Of at hg
    rw [hA] at hg
    injection hg with hg
    injection hg with hg
    subst hg
    exact hb
theorem Sls.keeps (h : Sls w base A cap ts) (k : Keeps S w w2) (hn : ∀ i, Of A i → ¬ S i) : Sls w2 base A cap ts := h.kept fun g hg => k.block g (h.lt g hg) (hn g hg)
theorem Sls.later (h : Sls w base A cap ts) (hb : Below w.heap.size w w2) : Sls w2 base A cap ts := h.kept fun g hg => hb.block g (h.lt g hg)
theorem Sls.shape (h : Sls w base A cap ts) : A = none ∨ ∃ g, A = some ⟨g, 0, none⟩ := by
  rcases h.2 with ⟨hv, _⟩ | ⟨g, cap', cur, hv, _⟩
  · injection hv with hA; exact .inl hA
  · injection hv with hA; exact .inr ⟨g, hA⟩
theorem Sls.cell (h : Sls w base A cap ts) {k : Nat} (hk : k < ts.length) : ∃ g, A = some ⟨g, 0, none⟩ ∧ w.cell? ⟨g, k, none⟩ = some (ts[k].val) := by
  rcases h.2 with ⟨_, h0⟩ | ⟨g, cap', cur, hv, _⟩
  · omega
  · injection hv with hA
    subst hA
    refine ⟨g, rfl, ?_⟩
    rw [World.ownsRow.cellAt h k (by omega)]
    simp [slCells, hk]
theorem Sls.apart {l : List UInt8} {b2 c2 : Nat} (h : Sls w base A cap ts) (hM : Mine w b2 B c2 l) : Apart B A := by
  intro i hb ha
  rcases h.2 with ⟨hv, _⟩ | ⟨g, cap', cur, hv, _, hh, _⟩
  · injection hv with hA; unfold Of at ha; rw [hA] at ha; cases ha
  rcases hM.2 with ⟨hv2, _⟩ | ⟨g2, cap2, cur2, hv2, _, hh2, _⟩
  · injection hv2 with hA; unfold Of at hb; rw [hA] at hb; cases hb
  injection hv with hA
  injection hv2 with hA2
  unfold Of at ha hb
  rw [hA] at ha
  rw [hA2] at hb
  injection ha with ha; injection ha with ha
  injection hb with hb; injection hb with hb
  subst ha
  subst hb
  rw [hh] at hh2
  injection hh2 with hh2
  injection hh2 with _ ht
  exact absurd ht (by decide)
end
theorem sls_of_own {w : World} {base : Nat} {v : Value} {ts : List Sl} (h : w.ownsRow base 28 1 v ts.length (slCells ts)) : ∃ A cap, v = .slice A ts.length cap ∧ Sls w base A cap ts := by
  rcases h.2 with ⟨hv, h0⟩ | ⟨g, cap, cur, hv, _⟩
  · have : ts = [] := List.eq_nil_of_length_eq_zero h0
    subst this
    exact ⟨none, 0, hv, by subst hv; exact h⟩
  · exact ⟨_, cap, hv, by subst hv; exact h⟩

/-- append(texts, s) -/
theorem wpList_append_sl {ops : Array Oper} {rest : List Oper} {o : Oper} {a : Act} {w : World} {Q : Exit → Act → World → Prop} (hgd : o.guard = none) (s x : Operand)
    (ho : o.op = .call { callee := .builtin .append, args := #[s, x], argTypes := #[38, 38] })
    (base : Nat) (A : Option Addr) (cap : Nat) (ts : List Sl) (hs : a.eval s = .slice A ts.length cap) (hown : Sls w base A cap ts)
    (g c : Nat) (news : Sl) (hx : a.eval x = .slice (some ⟨g, 0, none⟩) 1 c) (hnews : w.cell? ⟨g, 0, none⟩ = some (news.val))
    (hbytes : (ts.length + 1) * 24 ≤ 140737488355328) (hbase : base ≤ w.heap.size)
    (h : ∀ A' cap' w', Sls w' base A' cap' (ts ++ [news]) → Keeps (Of A) w w' → (∀ i, Of A' i → Of A i ∨ i = w.heap.size) → wpList Tryd.prog ops Q rest (a.put o.dst (.slice A' (ts ++ [news]).length cap')) w') :
    wpList Tryd.prog ops Q (o :: rest) a w := by
  obtain ⟨i0, hi, hz0, hz1, hz2⟩ := info_parts infoSl
  refine wpList_append_own_at w hgd s x 38 ho base 28 i0 (.slice none 0 0) 1 24 Tryd.underlying38 hi hz0 hz1 hz2 rfl (by decide) _ ts.length (slCells ts) hs hown ⟨g, 0, none⟩ 1 c [news.val] hx rfl ?_ ?_
    (by simp only [maxLen]; omega) hbytes hbase ?_
  · intro j u hu
    cases j with
    | zero =>
      simp at hu
      subst hu
      exact hnews
    | succ j => simp at hu
  · intro u hu
    simp at hu
    subst hu
    rfl
  · intro v' w' hown' hg _ hat
    have e : slCells ts ++ [news.val] = slCells (ts ++ [news]) := by simp [slCells]
    have e2 : ts.length + 1 = (ts ++ [news]).length := by simp
    rw [e, e2] at hown'
    obtain ⟨A', cap', rfl, hm⟩ := sls_of_own hown'
    refine h A' cap' w' hm (Keeps.of_grown hown.shape hg) ?_
    intro i hi2
    unfold Of at hi2
    subst hi2
    rcases hat with ha | ha
    · left
      rcases hown.shape with hA | ⟨g', hA⟩
      · subst hA; cases ha
      · subst hA
        injection ha with ha
        have ha : i = g' := ha
        subst ha; rfl
    · right
      injection ha

theorem Sls.apart_str {w : World} {b1 b2 c1 c2 : Nat} {A B : Option Addr} {ps : List Sl} {ts : List (List UInt8)} (h : Sls w b1 A c1 ps) (hM : Strs w b2 B c2 ts) : Apart B A := by
  intro i hb ha
  rcases h.2 with ⟨hv, _⟩ | ⟨g, cap', cur, hv, _, hh, _⟩
  · injection hv with hA; unfold Of at ha; rw [hA] at ha; cases ha
  rcases hM.2 with ⟨hv2, _⟩ | ⟨g2, cap2, cur2, hv2, _, hh2, _⟩
  · injection hv2 with hA; unfold Of at hb; rw [hA] at hb; cases hb
  injection hv with hA
  injection hv2 with hA2
  unfold Of at ha hb
  rw [hA] at ha
  rw [hA2] at hb
  injection ha with ha; injection ha with ha
  injection hb with hb; injection hb with hb
  subst ha
  subst hb
  rw [hh] at hh2
  injection hh2 with hh2
  injection hh2 with _ ht
  exact absurd ht (by decide)
end Go.Proofs.YtaijakknhmagoaaDoor
