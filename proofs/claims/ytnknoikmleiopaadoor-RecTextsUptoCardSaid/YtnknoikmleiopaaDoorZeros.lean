/-
  append(own, make([]byte, n)...): zeros behind a row of the call's own.
-/
import Derived.Test.YtnknoikmleiopaaDoorKeeps
import Derived.Lib.AppendZeros
set_option linter.unusedVariables false
set_option linter.unusedSimpArgs false
namespace Go.Proofs.YtnknoikmleiopaaDoor
open Go.RowKit

theorem zeroCells_u8 (n : Nat) : Builtin.zeroCells #[Value.int .u8 0] n = (cellsOf8 (List.replicate n 0)).toArray := by
  apply Array.ext
  · simp [Builtin.zeroCells, cellsOf8]
  · intro i h1 h2
    simp [Builtin.zeroCells, cellsOf8, Nat.mod_one]
    rfl

theorem run_append_zeros (w : World) (base : Nat) (A : Option Addr) (cap : Nat) (l : List UInt8) (hm : Mine w base A cap l) (n : Nat) (h0 : 0 < n) (hb : l.length + n ≤ 140737488355328) (hbase : base ≤ w.heap.size) (ty : TypeId) :
    ∃ A' cap' w', (Builtin.append_ #[22, 3] ty #[.slice A l.length cap, .int .i64 (n : Int)]).run Tryd.prog w = .ok (.slice A' (l ++ List.replicate n 0).length cap') w' ∧ Mine w' base A' cap' (l ++ List.replicate n 0) ∧ w.grownBy w' (Value.slice A l.length cap).ownBlock := by
  obtain ⟨i0, hi, hz0, hz1, hz2⟩ := info_parts infoU8
  have hzc : (Value.int .u8 0).cells = #[Value.int .u8 0] := rfl
  have hnl : (l ++ List.replicate n (0 : UInt8)).length = l.length + n := by simp
  have hcl : cellsOf8 (l ++ List.replicate n 0) = cellsOf8 l ++ cellsOf8 (List.replicate n 0) := cellsOf8_append _ _
  have hw : IntKind.i64.wrap (n : Int) = n := by rw [IntKind.wrap_i64]; omega
  have hneg : ¬ ((n : Int) < 0) := by omega
  have hn0 : n ≠ 0 := by omega
  have h48i : ¬ (281474976710656 < (n : Int)) := by omega
  have fresh : ∀ (old : Nat), old < l.length + n → ∀ (xs : List Value), xs = cellsOf8 l → ∀ row,
      Mine (w.drew.alloc (.cells (xs.toArray ++ (cellsOf8 (List.replicate n 0)).toArray ++ (cellsOf8 (List.replicate (grownCap w (l.length + n) old 5 - (l.length + n)) 0)).toArray) 5)) base (some ⟨w.heap.size, 0, none⟩) (grownCap w (l.length + n) old 5) (l ++ List.replicate n 0) ∧
      w.grownBy (w.drew.alloc (.cells (xs.toArray ++ (cellsOf8 (List.replicate n 0)).toArray ++ (cellsOf8 (List.replicate (grownCap w (l.length + n) old 5 - (l.length + n)) 0)).toArray) 5)) row := by
    intro old ho xs hxs row
    subst hxs
    have hge := grownCap_ge w (l.length + n) old 5
    have hcm : grownCap w (l.length + n) old 5 ≤ maxLen := grownCap_le_maxLen w (l.length + n) old 5 (by simp only [maxLen]; omega)
    refine ⟨⟨by rw [cellsOf8_length, Nat.mul_one], .inr ⟨w.heap.size, _, _, rfl, hbase, heap_alloc_new w.drew _, by rw [hnl]; exact hge, hcm, ?_, ?_⟩⟩, ⟨rfl, rfl, rfl, by simp, fun k hk _ => Below.heap_alloc w.drew _ k hk⟩⟩
    · simp [cellsOf8_length]; omega
    · rw [hcl]
      simp only [Array.toList_append]
      rw [hnl, Nat.mul_one]
      have : l.length + n = (cellsOf8 l ++ cellsOf8 (List.replicate n 0)).length := by simp [cellsOf8_length]
      rw [this]
      exact List.take_left
  cases A with
  | none =>
    obtain ⟨rfl, rfl⟩ := hm.none_cap
    have hr := Lib.run_append_nil_zeros (P := Tryd.prog) w 22 3 ty 5 i0 (.int .u8 0) .i64 .i64 Tryd.underlying22 Tryd.underlying3 hi hz0 n h0 (by omega) (by omega) (by rw [hz2]; omega)
    have hf := fresh 0 (by simp; omega) [] rfl none
    rw [hzc, zeroCells_u8, zeroCells_u8] at hr
    simp only [List.length_nil, Nat.zero_add] at hf
    refine ⟨_, _, _, ?_, hf.1, ?_⟩
    · rw [hnl]
      simp only [List.length_nil, Nat.zero_add]
      rw [hr]
      simp
    · exact hf.2
  | some a =>
    rcases hm.2 with ⟨hv, _⟩ | ⟨g, cap', cur, hv, hgb, hh, hle, hmax, hsz, hx⟩
    · cases hv
    injection hv with hA _ hcc
    injection hA with hA
    subst hA
    subst hcc
    rw [Nat.mul_one] at hx hsz
    by_cases hroom : l.length + n ≤ cap
    · have hfit : l.length + (cellsOf8 (List.replicate n 0)).length ≤ cur.size := by simp [cellsOf8_length]; omega
      have hst := run_storeCells_at Tryd.prog g l.length 5 (cellsOf8 (List.replicate n 0)) 0 cur w hh (by simpa using hfit) (cellsOf8_one _)
      simp only [Nat.add_zero] at hst
      refine ⟨some ⟨g, 0, none⟩, cap, w.setRow g (cur.toList.take l.length ++ cellsOf8 (List.replicate n 0) ++ cur.toList.drop (l.length + (cellsOf8 (List.replicate n 0)).length)).toArray, ?_, ?_, ?_⟩
      · rw [hnl]
        simp [Builtin.append_, run_underlying Tryd.underlying22, run_underlying Tryd.underlying3, sizeOf, typeInfo, zeroValue, hi, hz0, hz1, hz2, asInt, asIntOf, hw, hneg, hn0, h48i, hroom, hzc, zeroCells_u8, Addr.add_lit, hst]
      · refine ⟨by rw [cellsOf8_length, Nat.mul_one], .inr ⟨g, cap, _, rfl, hgb, setRow_heap w g cur _ 5 _ hh, by rw [hnl]; exact hroom, hmax, ?_, ?_⟩⟩
        · simp [cellsOf8_length] at hfit ⊢
          omega
        · rw [hx, hcl]
          simp only
          rw [hnl, Nat.mul_one]
          have : l.length + n = (cellsOf8 l ++ cellsOf8 (List.replicate n 0)).length := by simp [cellsOf8_length]
          rw [this]
          exact List.take_left
      · refine ⟨rfl, rfl, rfl, by simp, fun k hk hne => setRow_other w g k _ (fun e => hne (by rw [e]; rfl))⟩
    · have hf := fresh cap (by omega) (cellsOf8 l) rfl (Value.slice (some ⟨g, 0, none⟩) l.length cap).ownBlock
      have holds : ∀ j u, (cellsOf8 l)[j]? = some u → w.cell? ((⟨g, 0, none⟩ : Addr).add j) = some u := World.ownsRow.cells (g := g) hm rfl
      have hfo := run_firstCells_some (P := Tryd.prog) w.drew 1 l.length ⟨g, 0, none⟩ l.length cap (cellsOf8 l) (by rw [cellsOf8_length, Nat.mul_one]) (by simpa using holds)
      have hg48 : ¬ (281474976710656 < Builtin.nextslicecap (l.length + n) cap) := by
        have := growslice_fits (need := l.length + n) (old := cap) (bytes := 1) (by omega) (by omega)
        omega
      have h63 : ¬ (9223372036854775807 < ((l.length : Int) + (n : Int))) := by omega
      refine ⟨_, _, _, ?_, hf.1, hf.2⟩
      rw [hnl]
      simp [Builtin.append_, run_underlying Tryd.underlying22, run_underlying Tryd.underlying3, sizeOf, typeInfo, zeroValue, hi, hz0, hz1, hz2, asInt, asIntOf, hw, hneg, hn0, h48i, hroom, hzc, zeroCells_u8, hg48, h63, Question.forced, hfo, newRow, grownCap]
      try (congr 2; apply Array.ext'; simp [List.append_assoc])

/-- append(own, make([]byte, n)...) -/
theorem wpList_append_zeros {ops : Array Oper} {rest : List Oper} {o : Oper} {a : Act} {w : World} {Q : Exit → Act → World → Prop} (hgd : o.guard = none) (s x : Operand)
    (ho : o.op = .call { callee := .builtin .append, args := #[s, x], argTypes := #[22, 3] })
    (base : Nat) (A : Option Addr) (cap : Nat) (l : List UInt8) (hs : a.eval s = .slice A l.length cap) (hm : Mine w base A cap l) (n : Nat) (hx : a.eval x = .int .i64 (n : Int)) (h0 : 0 < n) (hb : l.length + n ≤ 140737488355328) (hbase : base ≤ w.heap.size)
    (h : ∀ A' cap' w', Mine w' base A' cap' (l ++ List.replicate n 0) → w.grownBy w' (Value.slice A l.length cap).ownBlock → Below base w w' → wpList Tryd.prog ops Q rest (a.put o.dst (.slice A' (l ++ List.replicate n 0).length cap')) w') :
    wpList Tryd.prog ops Q (o :: rest) a w := by
  obtain ⟨A', cap', w', hr, h1, h2⟩ := run_append_zeros w base A cap l hm n h0 hb hbase o.type
  exact Lib.wpList_append_run w hgd s x 22 3 ho _ _ hs hx _ _ hr (h A' cap' w' h1 h2 (grown_below hm hbase h2))
end Go.Proofs.YtnknoikmleiopaaDoor
