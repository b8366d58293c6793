/-
  ROWS OF BYTES, FURTHER: a new row of zeros, the head of a row copied into it, a text of bytes.
-/
import Derived.Test.YtimddchgmocdaaaDoorRow2
import Derived.OwnWalk
import Derived.Laws.OwnMore
set_option linter.unusedVariables false
set_option linter.unusedSimpArgs false
namespace Go.Proofs.YtimddchgmocdaaaDoor
open Go.RowKit

/-- make([]byte, n) -/
theorem wpList_make_u8 {ops : Array Oper} {rest : List Oper} {o : Oper} {a : Act} {w : World} {Q : Exit → Act → World → Prop} (hgd : o.guard = none) (l c : Operand) (ho : o.op = .makeSlice 42 l c)
    (base n : Nat) (hl : a.eval l = .int .i64 (n : Int)) (hc : a.eval c = .int .i64 (n : Int)) (hn : n ≤ 140737488355328) (hb : base ≤ w.heap.size)
    (h : ∀ w', Mine w' base (some ⟨w.heap.size, 0, none⟩) n (List.replicate n 0) → w.grownBy w' none → wpList Tryd.prog ops Q rest (a.put o.dst (.slice (some ⟨w.heap.size, 0, none⟩) n n)) w') :
    wpList Tryd.prog ops Q (o :: rest) a w := by
  obtain ⟨i0, hi, hz0, hz1, hz2⟩ := info_parts infoU8
  refine wpList_make_full w hgd l c 42 ho base 5 i0 (.int .u8 0) 1 Tryd.underlying42 hi hz0 hz1 .i64 .i64 n n n hl hc rfl rfl (by rw [hz2]; omega) (by simp only [maxLen]; omega) hb ?_
  intro w' ho hg
  refine h w' ?_ hg
  have e : (madeCells (Value.int .u8 0).cells (n * 1)).toList = cellsOf8 (List.replicate n 0) := by
    rw [Nat.mul_one]
    refine (toList_madeCells_one _ _).trans ?_
    unfold cellsOf8; rw [List.map_replicate]; rfl
  rw [e] at ho
  unfold Mine
  rw [List.length_replicate]
  exact ho

/-- copy(own, x), x at least as long -/
theorem wpList_copy_head {ops : Array Oper} {rest : List Oper} {o : Oper} {a : Act} {w : World} {Q : Exit → Act → World → Prop} (hgd : o.guard = none) (d s : Operand)
    (ho : o.op = .call { callee := .builtin .copy, args := #[d, s], argTypes := #[42, 42] })
    (base : Nat) (A : Option Addr) (cap : Nat) (l : List UInt8) (hm : Mine w base A cap l) (n dCap : Nat) (hd : a.eval d = .slice A n dCap) (hn : l.length = n)
    (sp : Option Addr) (sLen sCap : Nat) (src : List UInt8) (hs : a.eval s = .slice sp sLen sCap) (hsl : src.length = sLen) (hb : Bytes w sp src) (hle : n ≤ sLen)
    (h : ∀ w', Mine w' base A cap (src.take n) → w.grownBy w' (Value.slice A l.length cap).ownBlock → wpList Tryd.prog ops Q rest (a.put o.dst (goInt n)) w') :
    wpList Tryd.prog ops Q (o :: rest) a w := by
  subst hn
  subst hsl
  by_cases h0 : l.length = 0
  · have hrun := run_copy_none (P := Tryd.prog) w 42 42 o.type 5 A sp l.length dCap src.length sCap Tryd.underlying42 sizeU8 (by rw [h0]; exact Nat.min_zero _)
    refine wpList_plain hgd fun K hK => ?_
    unfold Oper.wp
    simp [execOp, ho, resolve, invoke, builtin, hd, hs, hrun, Result.andThen]
    have hl0 : l = [] := List.eq_nil_of_length_eq_zero h0
    subst hl0
    exact hK _ _ (h w hm (World.grownBy.refl _ _))
  · obtain ⟨g, rfl, _, _⟩ := hm.form (by omega)
    obtain ⟨cur, hh, hsz, hsp⟩ := hm.row
    have htl : (src.take l.length).length = l.length := by simp; omega
    obtain ⟨h1, h2⟩ := hsp 0 (src.take l.length) (by omega)
    have hfull : spliced l 0 (src.take l.length) = src.take l.length := by
      unfold spliced; rw [List.take_zero, List.drop_eq_nil_of_le (by omega)]; simp
    rw [hfull] at h1
    rcases hb with rfl | ⟨sb, so, rfl, hc⟩
    · have : l.length ≤ 0 := hle
      omega
    have hb2 : Bytes w (some ⟨sb, so, none⟩) (src.take l.length) := (show Bytes w (some ⟨sb, so, none⟩) src from .inr ⟨sb, so, rfl, hc⟩).take _
    have hrun := run_copy_row (P := Tryd.prog) w 42 42 o.type 5 g 0 l.length dCap ⟨sb, so, none⟩ src.length sCap cur 5 (cellsOf8 (src.take l.length)) Tryd.underlying42 sizeU8 hh
      (by rw [cellsOf8_length, htl]; exact (Nat.min_eq_right hle).symm) hb2.cells (by rw [cellsOf8_length, htl]; omega) (cellsOf8_one _)
    rw [cellsOf8_length] at hrun
    generalize (w.setRow g (cur.toList.take 0 ++ cellsOf8 (src.take l.length) ++ cur.toList.drop (0 + (src.take l.length).length)).toArray) = w2 at hrun h1 h2
    rw [htl] at hrun
    refine wpList_plain hgd fun K hK => ?_
    unfold Oper.wp
    simp [execOp, ho, resolve, invoke, builtin, hd, hs, hrun, Result.andThen]
    exact hK _ _ (h _ h1 h2)

/-- string(..) of bytes that lie somewhere -/
theorem str_any (w : World) (A : Option Addr) (cap : Nat) (l : List UInt8) (h : Bytes w A l) (len : Nat) (hl : l.length = len) : (convert 42 9 (.slice A len cap)).run Tryd.prog w = .ok (.string ⟨l.toArray⟩) w := by
  subst hl
  cases A with
  | none =>
    have : l = [] := by rcases h with rfl | ⟨b, off, hb, _⟩; exact rfl; cases hb
    subst this
    exact run_convert_bytes_nil (P := Tryd.prog) w 42 5 Tryd.underlying42 Tryd.underlying5 0 cap 9 Tryd.underlying9
  | some a => exact run_convert_bytes_back w 42 9 5 a cap l Tryd.underlying42 Tryd.underlying5 Tryd.underlying9 (fun j hj => h.cells j _ (cellsOf8_at l j hj))
theorem grown_below_none {w w' : World} {B : Nat} (hb : B ≤ w.heap.size) (hg : w.grownBy w' none) : Below B w w' := (Below.refl _ _).grown hg hb (by intro k hk; cases hk)
end Go.Proofs.YtimddchgmocdaaaDoor
