/-
  ROWS OF BYTES THAT THE CALL ITSELF MADE: appended to, written, read.
-/
import Derived.Test.YtimddchgmocdaaaDoorProg
import Derived.Test.YtimddchgmocdaaaDoorMem
import Derived.Laws.AppendOwnNone
import Derived.Laws.CopyOwn
import Derived.Deep.RegionLaw
set_option linter.unusedVariables false
set_option linter.unusedSimpArgs false
namespace Go.Proofs.YtimddchgmocdaaaDoor
open Go.RowKit

theorem infoU8 : (Tryd.prog.info? 5).map (fun i => (i.zero, i.size, i.bytes)) = some (some (.int .u8 0), 1, 1) := by kernel_rfl

/-- bytes as cells, in a list -/
def cellsOf8 (l : List UInt8) : List Value := l.map fun b => Value.int .u8 (n8 b)
theorem cellsOf8_length (l : List UInt8) : (cellsOf8 l).length = l.length := by simp [cellsOf8]
theorem cellsOf8_append (l m : List UInt8) : cellsOf8 (l ++ m) = cellsOf8 l ++ cellsOf8 m := by simp [cellsOf8]
theorem cellsOf8_at (l : List UInt8) (k : Nat) (h : k < l.length) : (cellsOf8 l)[k]? = some (.int .u8 (n8 l[k])) := by simp [cellsOf8, h]
theorem cellsOf8_set (l : List UInt8) (k : Nat) (b : UInt8) : (cellsOf8 l).set k (.int .u8 (n8 b)) = cellsOf8 (l.set k b) := by simp [cellsOf8, List.map_set]
theorem cellsOf8_one (l : List UInt8) : ∀ u ∈ cellsOf8 l, u.oneCell' = true := by
  intro u hu
  simp only [cellsOf8, List.mem_map] at hu
  obtain ⟨b, _, rfl⟩ := hu
  rfl

/-- The slice value (A, length of l, cap) owns the bytes l, in a block from base on. -/
def Mine (w : World) (base : Nat) (A : Option Addr) (cap : Nat) (l : List UInt8) : Prop := w.ownsRow base 5 1 (.slice A l.length cap) l.length (cellsOf8 l)

section
variable {w w' : World} {base : Nat} {A : Option Addr} {cap : Nat} {l : List UInt8}
theorem Mine.form (h : Mine w base A cap l) (hl : 0 < l.length) : ∃ g, A = some ⟨g, 0, none⟩ ∧ base ≤ g ∧ g < w.heap.size := by
  rcases h.2 with ⟨_, h0⟩ | ⟨g, cap', cur, hv, hg, hh, _⟩
  · omega
  · injection hv with hA
    refine ⟨g, hA, hg, ?_⟩
    rcases Nat.lt_or_ge g w.heap.size with hlt | hge
    · exact hlt
    · rw [Array.getElem?_eq_none hge] at hh; cases hh
theorem Mine.cap_le (h : Mine w base A cap l) : l.length ≤ cap ∧ cap ≤ maxLen := by
  rcases h.2 with ⟨hv, h0⟩ | ⟨g, cap', cur, hv, _, _, h1, h2, _⟩
  · injection hv with _ _ hc; subst hc; simp [maxLen]; exact List.eq_nil_of_length_eq_zero h0
  · injection hv with _ _ hc; subst hc; exact ⟨h1, h2⟩
theorem Mine.cell {g : Nat} (h : Mine w base (some ⟨g, 0, none⟩) cap l) {k : Nat} (hk : k < l.length) : w.cell? ⟨g, k, none⟩ = some (.int .u8 (n8 l[k])) := by
  rw [World.ownsRow.cellAt h k (by omega), cellsOf8_at l k hk]
theorem Mine.free {g : Nat} (h : Mine w base (some ⟨g, 0, none⟩) cap l) (k : Nat) : w.frozen? ⟨g, k, none⟩ = false := World.ownsRow.frozenAt h k
theorem Mine.put {g : Nat} (h : Mine w base (some ⟨g, 0, none⟩) cap l) (k : Nat) (b : UInt8) : Mine (w.setCell ⟨g, k, none⟩ (.int .u8 (n8 b))) base (some ⟨g, 0, none⟩) cap (l.set k b) := by
  have := World.ownsRow.stored h k (.int .u8 (n8 b))
  rw [cellsOf8_set] at this
  unfold Mine
  rw [List.length_set]
  exact this.1
theorem Mine.bytes (h : Mine w base A cap l) : Bytes w A l := by
  by_cases hl : l = []
  · exact .inl hl
  · obtain ⟨g, rfl, _⟩ := h.form (List.length_pos_iff.2 hl)
    exact .inr ⟨g, 0, rfl, fun k hk => by rw [Nat.zero_add]; exact h.cell hk⟩
theorem Mine.kept (h : Mine w base A cap l) (hk : ∀ g, A = some ⟨g, 0, none⟩ → w'.heap[g]? = w.heap[g]?) : Mine w' base A cap l := by
  refine ⟨h.1, ?_⟩
  rcases h.2 with h2 | ⟨g, cap', cur, hv, hg, hh, r⟩
  · exact .inl h2
  · refine .inr ⟨g, cap', cur, hv, hg, ?_, r⟩
    injection hv with hA
    rw [hk g hA]; exact hh
theorem Mine.below {B : Nat} (h : Mine w base A cap l) (hb : Below B w w') (hB : ∀ g, A = some ⟨g, 0, none⟩ → g < B) : Mine w' base A cap l := h.kept fun g hg => hb.block g (hB g hg)
theorem Mine.lt (h : Mine w base A cap l) : ∀ g, A = some ⟨g, 0, none⟩ → g < w.heap.size := by
  rintro g rfl
  rcases h.2 with ⟨hv, _⟩ | ⟨g', cap', cur, hv, hg, hh, r⟩
  · cases hv
  · injection hv with hA
    injection hA with hA
    injection hA with hA
    subst hA
    rcases Nat.lt_or_ge g w.heap.size with hlt | hge
    · exact hlt
    · rw [Array.getElem?_eq_none hge] at hh; cases hh
theorem Mine.ge (h : Mine w base A cap l) : ∀ g, A = some ⟨g, 0, none⟩ → base ≤ g := by
  rintro g rfl
  rcases h.2 with ⟨hv, _⟩ | ⟨g', cap', cur, hv, hg, hh, r⟩
  · cases hv
  · injection hv with hA
    injection hA with hA
    injection hA with hA
    subst hA; exact hg
theorem Mine.later (h : Mine w base A cap l) (hb : Below w.heap.size w w') : Mine w' base A cap l := h.below hb h.lt
theorem Mine.drew (h : Mine w base A cap l) : Mine w.drew base A cap l := h
theorem Mine.drewN (h : Mine w base A cap l) (n : Nat) : Mine (w.drewN n) base A cap l := h
theorem Mine.nil (w : World) (base : Nat) : Mine w base none 0 [] := ⟨rfl, .inl ⟨rfl, rfl⟩⟩
theorem Mine.empty (w : World) {base : Nat} (h : base ≤ w.heap.size) : Mine (w.alloc (.cells #[] 5)) base (some ⟨w.heap.size, 0, none⟩) 0 [] :=
  ⟨rfl, .inr ⟨w.heap.size, 0, #[], rfl, h, heap_alloc_new w _, by simp, by simp [maxLen], by simp, by simp [cellsOf8]⟩⟩
theorem Mine.base_le {base' : Nat} (h : Mine w base A cap l) (hb : base' ≤ base) : Mine w base' A cap l := by
  refine ⟨h.1, ?_⟩
  rcases h.2 with h2 | ⟨g, cap', cur, hv, hg, r⟩
  · exact .inl h2
  · exact .inr ⟨g, cap', cur, hv, by omega, r⟩
end

/-- behind a new block, and whatever lies from B on -/
theorem below_over {B : Nat} {w w1 w2 : World} {o : Obj} (h1 : Below B w w1) (hB : B ≤ w1.heap.size) (h2 : Below B (w1.alloc o) w2) : Below B w w2 ∧ w1.heap.size < w2.heap.size :=
  ⟨(h1.alloc hB o).trans h2, by have := h2.size; simp at this; omega⟩

/-- what a value that owns bytes looks like -/
theorem mine_of_own {w : World} {base : Nat} {v : Value} {l : List UInt8} (h : w.ownsRow base 5 1 v l.length (cellsOf8 l)) : ∃ A cap, v = .slice A l.length cap ∧ Mine w base A cap l := by
  rcases h.2 with ⟨hv, h0⟩ | ⟨g, cap, cur, hv, _⟩
  · have : l = [] := List.eq_nil_of_length_eq_zero h0
    subst this
    exact ⟨none, 0, hv, by subst hv; exact h⟩
  · exact ⟨_, cap, hv, by subst hv; exact h⟩

theorem Bytes.cells {w : World} {ad : Addr} {l : List UInt8} (h : Bytes w (some ad) l) : ∀ j u, (cellsOf8 l)[j]? = some u → w.cell? (ad.add j) = some u := by
  intro j u hu
  have hj : j < l.length := by
    rcases Nat.lt_or_ge j l.length with h1 | h1
    · exact h1
    · rw [List.getElem?_eq_none (by rw [cellsOf8_length]; exact h1)] at hu; cases hu
  obtain ⟨b, off, e, hc⟩ := h.at_ hj
  injection e with e
  subst e
  rw [cellsOf8_at l j hj] at hu
  injection hu with hu
  subst hu
  unfold Addr.add
  split
  · rename_i h0; subst h0; simpa using hc
  · exact hc

/-- append(s, x...): s owned by the call, x whatever bytes. -/
theorem wpList_append_u8 {ops : Array Oper} {rest : List Oper} {o : Oper} {a : Act} {w : World} {Q : Exit → Act → World → Prop} (hgd : o.guard = none) (s x : Operand)
    (ho : o.op = .call { callee := .builtin .append, args := #[s, x], argTypes := #[42, 42] })
    (base : Nat) (A : Option Addr) (cap : Nat) (l : List UInt8) (hs : a.eval s = .slice A l.length cap) (hown : Mine w base A cap l)
    (B : Option Addr) (c : Nat) (news : List UInt8) (hx : a.eval x = .slice B news.length c) (hc : B = none → c = 0) (hnews : Bytes w B news)
    (hbytes : l.length + news.length ≤ 140737488355328) (hbase : base ≤ w.heap.size)
    (h : ∀ A' cap' w', Mine w' base A' cap' (l ++ news) → w.grownBy w' (Value.slice A l.length cap).ownBlock → Below base w w' → wpList Tryd.prog ops Q rest (a.put o.dst (.slice A' (l ++ news).length cap')) w') :
    wpList Tryd.prog ops Q (o :: rest) a w := by
  obtain ⟨i0, hi, hz0, hz1, hz2⟩ := info_parts infoU8
  cases B with
  | none =>
    have hn : news = [] := by
      rcases hnews with rfl | ⟨b, off, hb, _⟩
      · rfl
      · cases hb
    subst hn
    obtain rfl := hc rfl
    refine wpList_append_own_none hgd s x 42 ho base 5 i0 1 Tryd.underlying42 hi _ l.length (cellsOf8 l) hs hown hx ?_
    have := h A cap w (by simpa using hown) (World.grownBy.refl _ _) (Below.refl _ _)
    simpa using this
  | some ad =>
    refine wpList_append_own w hgd s x 42 ho base 5 i0 (.int .u8 0) 1 1 Tryd.underlying42 hi hz0 hz1 hz2 rfl (by decide) _ l.length (cellsOf8 l) hs hown ad news.length c (cellsOf8 news) hx
      (by rw [cellsOf8_length, Nat.mul_one]) hnews.cells (cellsOf8_one _) (by simp only [maxLen]; omega) (by omega) hbase ?_
    intro v' w' hown' hg _
    rw [← cellsOf8_append, ← List.length_append] at hown'
    obtain ⟨A', cap', rfl, hm⟩ := mine_of_own hown'
    exact h A' cap' w' hm hg ((Below.refl _ _).grown hg hbase (by
      intro k hk
      cases A with
      | none => cases hk
      | some aa =>
        injection hk with hk
        rcases hown.2 with ⟨hv, _⟩ | ⟨g, cap'', cur, hv, hgb, _⟩
        · cases hv
        · injection hv with hA
          injection hA with hA
          subst hA
          rw [← hk]; exact hgb))

/-- bytes with others in the place of some -/
def spliced (l : List UInt8) (at_ : Nat) (news : List UInt8) : List UInt8 := l.take at_ ++ news ++ l.drop (at_ + news.length)
theorem spliced_length (l : List UInt8) (at_ : Nat) (news : List UInt8) (h : at_ + news.length ≤ l.length) : (spliced l at_ news).length = l.length := by simp [spliced]; omega
theorem spliced_nil (l : List UInt8) (at_ : Nat) : spliced l at_ [] = l := by simp [spliced]

theorem step_pass {P : Program} {ops : Array Oper} {o : Oper} {a : Act} {w w' : World} {K : Act → World → Prop} {Q : Exit → Act → World → Prop} {E : Prop} (hgd : o.guard = none) {v : Value} (hrun : (execOp a.eval o).run P w = .ok (.value v) w')
    (h : K (a.put o.dst v) w') : if Region.wanted o (yielded ops a.tmps) = true then Oper.wp P o a w K Q else E := by
  have hw : Region.wanted o (yielded ops a.tmps) = true := by simp [Region.wanted, hgd]
  rw [if_pos hw]
  unfold Oper.wp
  rw [hrun]
  exact h

theorem sizeU8 : (Tryd.prog.info? 5).map (·.size) = some 1 := by kernel_rfl

/-- copy(own[at:], news), as the run of the operation -/
theorem run_copy_u8 {o : Oper} {a : Act} {w : World} (d s : Operand) (ho : o.op = .call { callee := .builtin .copy, args := #[d, s], argTypes := #[42, 42] })
    (base : Nat) (A : Option Addr) (cap : Nat) (l : List UInt8) (hm : Mine w base A cap l) (at_ : Nat) (dp : Option Addr) (dCap : Nat) (hd : a.eval d = .slice dp (l.length - at_) dCap) (hdp : dp = if cap = at_ then A else A.map (·.add at_))
    (sp : Option Addr) (sCap : Nat) (news : List UInt8) (hs : a.eval s = .slice sp news.length sCap) (hn : Bytes w sp news) (hfit : at_ + news.length ≤ l.length) :
    ∃ w', (execOp a.eval o).run Tryd.prog w = .ok (.value (goInt news.length)) w' ∧ Mine w' base A cap (spliced l at_ news) ∧ w.grownBy w' (Value.slice A l.length cap).ownBlock ∧ w'.heap.size = w.heap.size := by
  by_cases h0 : news = []
  · subst h0
    have hs : a.eval s = .slice sp 0 sCap := hs
    have hrun := run_copy_none (P := Tryd.prog) w 42 42 o.type 5 dp sp (l.length - at_) dCap 0 sCap Tryd.underlying42 sizeU8 (by simp)
    refine ⟨w, by simp [execOp, ho, resolve, invoke, builtin, hd, hs, hrun, Result.andThen], by rw [spliced_nil]; exact hm, World.grownBy.refl _ _, rfl⟩
  · have hpos : 0 < news.length := List.length_pos_iff.2 h0
    obtain ⟨g, rfl, hg, hgl⟩ := hm.form (by omega)
    have hcl := hm.cap_le
    rw [if_neg (by omega)] at hdp
    have hdp : dp = some ⟨g, at_, none⟩ := by
      rw [hdp]
      simp only [Option.map_some, Addr.add]
      split
      · rename_i e; subst e; rfl
      · simp
    subst hdp
    rcases hn with rfl | ⟨sb, so, rfl, hc⟩
    · exact absurd rfl h0
    rcases hm.2 with ⟨hv, _⟩ | ⟨g', cap', cur, hv, hgb, hh, hle, hmax, hsz, hx⟩
    · cases hv
    injection hv with hA _ hcc
    injection hA with hA
    injection hA with hA
    subst hA
    subst hcc
    have hbytes : Bytes w (some ⟨sb, so, none⟩) news := .inr ⟨sb, so, rfl, hc⟩
    have hrun := run_copy_row (P := Tryd.prog) w 42 42 o.type 5 g at_ (l.length - at_) dCap ⟨sb, so, none⟩ news.length sCap cur 5 (cellsOf8 news) Tryd.underlying42 sizeU8 hh
      (by rw [cellsOf8_length]; show news.length = min news.length (l.length - at_); omega) hbytes.cells (by rw [cellsOf8_length]; omega) (cellsOf8_one _)
    rw [cellsOf8_length] at hrun
    have hsize : (cur.toList.take at_ ++ (cellsOf8 news ++ cur.toList.drop (at_ + news.length))).length = cur.size := by
      simp [cellsOf8_length]; omega
    refine ⟨_, by simp [execOp, ho, resolve, invoke, builtin, hd, hs, hrun, Result.andThen]; rfl, ?_, ?_, by simp⟩
    · refine ⟨by rw [cellsOf8_length, Nat.mul_one], .inr ⟨g, cap, _, ?_, hgb, setRow_heap w g _ _ _ _ hh, ?_, hmax, ?_, ?_⟩⟩
      · rw [spliced_length l at_ news hfit]
      · rw [spliced_length l at_ news hfit]; exact hle
      · rw [List.size_toArray, hsize]; exact hsz
      · rw [spliced_length l at_ news hfit, Nat.mul_one]
        rw [Nat.mul_one] at hx
        have hcur : cur.toList = cellsOf8 l ++ cur.toList.drop l.length := by rw [← hx]; exact (List.take_append_drop _ _).symm
        generalize cur.toList.drop l.length = R at hcur
        have e1 : (cellsOf8 l ++ R).take at_ = (cellsOf8 l).take at_ := List.take_append_of_le_length (by rw [cellsOf8_length]; omega)
        have e2 : (cellsOf8 l ++ R).drop (at_ + news.length) = (cellsOf8 l).drop (at_ + news.length) ++ R := List.drop_append_of_le_length (by rw [cellsOf8_length]; omega)
        rw [hcur, e1, e2]
        have e : (cellsOf8 l).take at_ ++ (cellsOf8 news ++ ((cellsOf8 l).drop (at_ + news.length) ++ R)) = cellsOf8 (spliced l at_ news) ++ R := by
          simp [cellsOf8, spliced, List.map_take, List.map_drop]
        have hlen : (cellsOf8 (spliced l at_ news)).length = l.length := by rw [cellsOf8_length, spliced_length l at_ news hfit]
        rw [e, List.take_append_of_le_length (by omega), List.take_of_length_le (by omega)]
    · refine ⟨rfl, rfl, rfl, by simp, fun k hk hne => setRow_other w g k _ (fun e => hne (by rw [e]; rfl))⟩

theorem step_copy_u8 {ops : Array Oper} {o : Oper} {a : Act} {w : World} {K : Act → World → Prop} {Q : Exit → Act → World → Prop} {E : Prop} (hgd : o.guard = none) (d s : Operand)
    (ho : o.op = .call { callee := .builtin .copy, args := #[d, s], argTypes := #[42, 42] })
    (base : Nat) (A : Option Addr) (cap : Nat) (l : List UInt8) (len : Nat) (hlen : l.length = len) (hm : Mine w base A cap l) (at_ : Nat) (dp : Option Addr) (dCap : Nat) (hd : a.eval d = .slice dp (len - at_) dCap) (hdp : (if cap = at_ then A else A.map (·.add at_)) = dp)
    (sp : Option Addr) (sCap : Nat) (news : List UInt8) (m : Nat) (hnm : news.length = m) (hs : a.eval s = .slice sp m sCap) (hn : Bytes w sp news) (hfit : at_ + m ≤ len)
    (h : ∀ w', Mine w' base A cap (spliced l at_ news) → w.grownBy w' (Value.slice A len cap).ownBlock → w'.heap.size = w.heap.size → K (a.put o.dst (goInt m)) w') :
    if Region.wanted o (yielded ops a.tmps) = true then Oper.wp Tryd.prog o a w K Q else E := by
  subst hlen
  subst hnm
  obtain ⟨w', hrun, h1, h2, h3⟩ := run_copy_u8 d s ho base A cap l hm at_ dp dCap hd hdp.symm sp sCap news hs hn hfit
  exact step_pass hgd hrun (h w' h1 h2 h3)
/-- outside of the row that is owned nothing has turned -/
theorem grown_below {w w' : World} {base : Nat} {A : Option Addr} {cap : Nat} {l : List UInt8} (hm : Mine w base A cap l) (hb : base ≤ w.heap.size) (hg : w.grownBy w' (Value.slice A l.length cap).ownBlock) : Below base w w' :=
  (Below.refl _ _).grown hg hb (by
    intro k hk
    cases A with
    | none => cases hk
    | some aa =>
      injection hk with hk
      rcases hm.2 with ⟨hv, _⟩ | ⟨g, cap'', cur, hv, hgb, _⟩
      · cases hv
      · injection hv with hA
        injection hA with hA
        subst hA
        rw [← hk]; exact hgb)
end Go.Proofs.YtimddchgmocdaaaDoor
