/-
  ROWS OF BYTES THAT THE CALL ITSELF MADE, FURTHER: a text copied into one, a part of one cleared, a new one of zeros.
-/
import Derived.Test.YtimddchgmocdaaaDoorRow
import Derived.Lib.BufferWrite
import Derived.Lib.SliceRun
import Derived.Laws.IdiomStrings
import Derived.OwnWalk
set_option linter.unusedVariables false
set_option linter.unusedSimpArgs false
namespace Go.Proofs.YtimddchgmocdaaaDoor
open Go.RowKit

theorem grown_trans {a b c : World} {row : Option Nat} (h : a.grownBy b row) (k : b.grownBy c row) : a.grownBy c row :=
  ⟨k.os.trans h.os, k.tape.trans h.tape, k.output.trans h.output, Nat.le_trans h.size k.size, fun i hi hne => (k.block i (Nat.lt_of_lt_of_le hi h.size) hne).trans (h.block i hi hne)⟩
theorem grown_setCell (w : World) (g i : Nat) (v : Value) : w.grownBy (w.setCell ⟨g, i, none⟩ v) (some g) := by
  have h : Below 0 w (w.setCell ⟨g, i, none⟩ v) := (Below.refl _ _).setCell (Nat.zero_le _) v
  exact ⟨h.os, h.tape, h.output, h.size, fun k hk hne => heap_setCell_other w ⟨g, i, none⟩ k v (fun e => hne (congrArg some e))⟩
theorem spliced_cons (l : List UInt8) (a : Nat) (b : UInt8) (s : List UInt8) (h : a + (b :: s).length ≤ l.length) : spliced (l.set a b) (a + 1) s = spliced l a (b :: s) := by
  unfold spliced
  simp at h
  have h1 : (l.set a b).take (a + 1) = l.take a ++ [b] := by
    rw [List.take_succ_eq_append_getElem (by simp; omega)]
    simp [List.take_set_of_le]
  have h2 : (l.set a b).drop (a + 1 + s.length) = l.drop (a + (b :: s).length) := by
    rw [List.drop_set_of_lt (by omega)]; congr 1; simp; omega
  rw [h1, h2]
  simp

/-- bytes stored one by one -/
theorem Mine.cells {w : World} {base g cap : Nat} {l : List UInt8} : ∀ (news : List UInt8) (at_ : Nat) (l : List UInt8) (w : World), Mine w base (some ⟨g, 0, none⟩) cap l → at_ + news.length ≤ l.length →
    Mine (w.setCells g at_ (cellsOf8 news)) base (some ⟨g, 0, none⟩) cap (spliced l at_ news) ∧ w.grownBy (w.setCells g at_ (cellsOf8 news)) (some g)
  | [], at_, l, w, hm, _ => by rw [spliced_nil]; exact ⟨hm, World.grownBy.refl _ _⟩
  | b :: r, at_, l, w, hm, h => by
    have h1 := hm.put at_ b
    obtain ⟨h2, h3⟩ := Mine.cells (w := w) (l := l) r (at_ + 1) (l.set at_ b) _ h1 (by simp at h ⊢; omega)
    rw [spliced_cons l at_ b r h] at h2
    exact ⟨h2, grown_trans (grown_setCell _ _ _ _) h3⟩

/-- the row beneath -/
theorem Mine.row {w : World} {base g cap : Nat} {l : List UInt8} (hm : Mine w base (some ⟨g, 0, none⟩) cap l) : ∃ cur : Array Value, w.heap[g]? = some (.cells cur 5 (0, 0)) ∧ l.length ≤ cur.size ∧
    ∀ (at_ : Nat) (news : List UInt8), at_ + news.length ≤ l.length → Mine (w.setRow g (cur.toList.take at_ ++ cellsOf8 news ++ cur.toList.drop (at_ + news.length)).toArray) base (some ⟨g, 0, none⟩) cap (spliced l at_ news) ∧
      w.grownBy (w.setRow g (cur.toList.take at_ ++ cellsOf8 news ++ cur.toList.drop (at_ + news.length)).toArray) (some g) := by
  have hcl := hm.cap_le
  rcases hm.2 with ⟨hv, _⟩ | ⟨g', cap', cur, hv, hgb, hh, hle, hmax, hsz, hx⟩
  · cases hv
  injection hv with hA _ hcc
  injection hA with hA
  injection hA with hA
  subst hA
  subst hcc
  refine ⟨cur, hh, by omega, fun at_ news hfit => ?_⟩
  have hsize : (cur.toList.take at_ ++ (cellsOf8 news ++ cur.toList.drop (at_ + news.length))).length = cur.size := by
    simp [cellsOf8_length]; omega
  refine ⟨?_, ?_⟩
  · refine ⟨by rw [cellsOf8_length, Nat.mul_one], .inr ⟨g, cap, _, ?_, hgb, setRow_heap w g _ _ _ _ hh, ?_, hmax, ?_, ?_⟩⟩
    · rw [spliced_length l at_ news hfit]
    · rw [spliced_length l at_ news hfit]; exact hle
    · rw [List.append_assoc, List.size_toArray, hsize]; exact hsz
    · rw [spliced_length l at_ news hfit, Nat.mul_one]
      rw [Nat.mul_one] at hx
      have hcur : cur.toList = cellsOf8 l ++ cur.toList.drop l.length := by rw [← hx]; exact (List.take_append_drop _ _).symm
      generalize cur.toList.drop l.length = R at hcur
      have e1 : (cellsOf8 l ++ R).take at_ = (cellsOf8 l).take at_ := List.take_append_of_le_length (by rw [cellsOf8_length]; omega)
      have e2 : (cellsOf8 l ++ R).drop (at_ + news.length) = (cellsOf8 l).drop (at_ + news.length) ++ R := List.drop_append_of_le_length (by rw [cellsOf8_length]; omega)
      rw [hcur, e1, e2]
      have e : (cellsOf8 l).take at_ ++ cellsOf8 news ++ ((cellsOf8 l).drop (at_ + news.length) ++ R) = cellsOf8 (spliced l at_ news) ++ R := by
        simp [cellsOf8, spliced, List.map_take, List.map_drop]
      have hlen : (cellsOf8 (spliced l at_ news)).length = l.length := by rw [cellsOf8_length, spliced_length l at_ news hfit]
      rw [e, List.take_append_of_le_length (by omega), List.take_of_length_le (by omega)]
  · refine ⟨rfl, rfl, rfl, by simp, fun k hk hne => setRow_other w g k _ (fun e => hne (by rw [e]))⟩

/-- '[]byte(s)': the text's bytes lie in a new block -/
theorem text_bytes (w : World) (s : List UInt8) : ∃ cap w', (convert 9 42 (.string ⟨s.toArray⟩)).run Tryd.prog w = .ok (.slice (some ⟨w.heap.size, 0, none⟩) s.length cap) w' ∧ Bytes w' (some ⟨w.heap.size, 0, none⟩) s ∧ Below w.heap.size w w' := by
  have h := run_bytes_of_string (P := Tryd.prog) w 9 42 5 ⟨s.toArray⟩ Tryd.underlying9 Tryd.underlying42 Tryd.underlying5
  refine ⟨_, _, h, ?_, ((Below.refl _ _).drew).alloc (Nat.le_refl _) _⟩
  refine .inr ⟨w.heap.size, 0, rfl, fun k hk => ?_⟩
  rw [Nat.zero_add]
  refine (cell_of_row (w.drew.alloc _) w.heap.size k _ _ _ (heap_alloc_new w.drew _)).trans ?_
  unfold bytesRow
  rw [Array.getElem?_append_left (by simpa using hk)]
  simp [hk, n8]

theorem own_addr {w : World} {base cap : Nat} {A : Option Addr} {l : List UInt8} (hm : Mine w base A cap l) {at_ : Nat} {dp : Option Addr} (hdp : (if cap = at_ then A else A.map (·.add at_)) = dp) (h : at_ < l.length) :
    ∃ g, A = some ⟨g, 0, none⟩ ∧ dp = some ⟨g, at_, none⟩ := by
  obtain ⟨g, rfl, _, _⟩ := hm.form (by omega)
  have hcl := hm.cap_le
  rw [if_neg (by omega)] at hdp
  refine ⟨g, rfl, ?_⟩
  rw [← hdp]
  simp only [Option.map_some, Addr.add]
  split
  · rename_i e; subst e; rfl
  · simp

/-- copy(own[at:], s), s a text that fits -/
theorem wpList_copy_text {ops : Array Oper} {rest : List Oper} {o : Oper} {a : Act} {w : World} {Q : Exit → Act → World → Prop} (hgd : o.guard = none) (d s : Operand)
    (ho : o.op = .call { callee := .builtin .copy, args := #[d, s], argTypes := #[42, 9] })
    (base : Nat) (A : Option Addr) (cap : Nat) (l : List UInt8) (hm : Mine w base A cap l) (at_ : Nat) (dp : Option Addr) (dLen dCap : Nat) (hd : a.eval d = .slice dp dLen dCap) (hdp : (if cap = at_ then A else A.map (·.add at_)) = dp)
    (news : List UInt8) (hs : a.eval s = .string ⟨news.toArray⟩) (hle : news.length ≤ dLen) (hfit : at_ + news.length ≤ l.length)
    (h : ∀ w', Mine w' base A cap (spliced l at_ news) → w.grownBy w' (Value.slice A l.length cap).ownBlock → wpList Tryd.prog ops Q rest (a.put o.dst (goInt news.length)) w') :
    wpList Tryd.prog ops Q (o :: rest) a w := by
  by_cases h0 : news = []
  · subst h0
    refine wpList_plain hgd fun K hK => ?_
    have hrun := Lib.run_copy_empty_string (P := Tryd.prog) w 42 9 o.type 5 dp dLen dCap ⟨#[]⟩ Tryd.underlying42 (by kernel_rfl) rfl
    unfold Oper.wp
    simp [execOp, ho, resolve, invoke, builtin, hd, hs, hrun, Result.andThen]
    have := h w (by rw [spliced_nil]; exact hm) (World.grownBy.refl _ _)
    exact hK _ _ this
  · have hpos : 0 < news.length := List.length_pos_iff.2 h0
    obtain ⟨g, rfl, rfl⟩ := own_addr hm hdp (by omega)
    obtain ⟨cur, hh, hsz, hsp⟩ := hm.row
    obtain ⟨h1, h2⟩ := hsp at_ news hfit
    have hrun := Lib.run_copy_row_string (P := Tryd.prog) w 42 9 o.type 5 g at_ dLen dCap ⟨news.toArray⟩ cur 5 Tryd.underlying42 sizeU8 hh (show news.length ≤ dLen from hle) (show at_ + news.length ≤ cur.size by omega)
    have hrun : (Builtin.copy_ #[42, 9] o.type #[.slice (some ⟨g, at_, none⟩) dLen dCap, .string ⟨news.toArray⟩]).run Tryd.prog w =
        .ok (goInt news.length) (w.setRow g (cur.toList.take at_ ++ cellsOf8 news ++ cur.toList.drop (at_ + news.length)).toArray) := hrun
    generalize (w.setRow g (cur.toList.take at_ ++ cellsOf8 news ++ cur.toList.drop (at_ + news.length)).toArray) = w2 at hrun h1 h2
    refine wpList_plain hgd fun K hK => ?_
    unfold Oper.wp
    simp [execOp, ho, resolve, invoke, builtin, hd, hs, hrun, Result.andThen]
    exact hK _ _ (h _ h1 h2)

/-- clear(own[at:at+n]) -/
theorem wpList_clear_u8 {ops : Array Oper} {rest : List Oper} {o : Oper} {a : Act} {w : World} {Q : Exit → Act → World → Prop} (hgd : o.guard = none) (d : Operand)
    (ho : o.op = .call { callee := .builtin .clear, args := #[d], argTypes := #[42] })
    (base : Nat) (A : Option Addr) (cap : Nat) (l : List UInt8) (hm : Mine w base A cap l) (at_ : Nat) (dp : Option Addr) (n dCap : Nat) (hd : a.eval d = .slice dp n dCap) (hdp : (if cap = at_ then A else A.map (·.add at_)) = dp)
    (hfit : at_ + n ≤ l.length)
    (h : ∀ w', Mine w' base A cap (spliced l at_ (List.replicate n 0)) → w.grownBy w' (Value.slice A l.length cap).ownBlock → wpList Tryd.prog ops Q rest (a.put o.dst (.tuple #[])) w') :
    wpList Tryd.prog ops Q (o :: rest) a w := by
  by_cases h0 : n = 0
  · subst h0
    have hrun : (Builtin.clear_ #[42] o.type #[.slice dp 0 dCap]).run Tryd.prog w = .ok (.tuple #[]) w := by
      cases dp <;> simp [Builtin.clear_, run_underlying Tryd.underlying42]
    refine wpList_plain hgd fun K hK => ?_
    unfold Oper.wp
    simp [execOp, ho, resolve, invoke, builtin, hd, hrun, Result.andThen]
    exact hK _ _ (h w (by rw [show List.replicate 0 (0 : UInt8) = [] from rfl, spliced_nil]; exact hm) (World.grownBy.refl _ _))
  · obtain ⟨g, rfl, rfl⟩ := own_addr hm hdp (by omega)
    obtain ⟨h1, h2⟩ := Mine.cells (w := w) (l := l) (List.replicate n 0) at_ l w hm (by simp; exact hfit)
    have hz : ∀ w, (zeroValue 5).run Tryd.prog w = .ok (.int .u8 0) w := Tryd.zeroValue5
    have hrun := Lib.run_clear_slice (P := Tryd.prog) w 42 5 o.type (.int .u8 0) Tryd.underlying42 hz rfl rfl g at_ n dCap (by omega) (fun j hj => by rw [hm.cell (k := at_ + j) (by omega)]; rfl) (fun j _ => hm.free _)
    have e : cellsOf8 (List.replicate n 0) = List.replicate n (Value.int .u8 0) := by unfold cellsOf8; rw [List.map_replicate]; rfl
    rw [← e] at hrun
    generalize w.setCells g at_ (cellsOf8 (List.replicate n 0)) = w2 at hrun h1 h2
    refine wpList_plain hgd fun K hK => ?_
    unfold Oper.wp
    simp [execOp, ho, resolve, invoke, builtin, hd, hrun, Result.andThen]
    exact hK _ _ (h _ h1 h2)
end Go.Proofs.YtimddchgmocdaaaDoor
