/-
  THE WALK OF SumExact: over the questions.
-/
import Derived.Test.YtjglffejoflpoaaDoorSumExactW
set_option linter.unusedVariables false
set_option linter.unusedSimpArgs false
namespace Go.Proofs.YtjglffejoflpoaaDoor
open Go.RowKit
attribute [local go_sem] u32_wrap8 u32_wrap32 u32_xor u32_max u32_signed u32_not

/-- what a question names lies in w -/
def Ask.Ok (w : World) (q : Ask) : Prop := Bytes w q.was.A q.was.l ∧ Bytes w q.now.A q.now.l ∧ (q.was.A = none → q.was.cap = 0) ∧ (q.now.A = none → q.now.cap = 0) ∧ q.was.l.length + 3 ≤ 140737488355328 ∧ q.now.l.length + 3 ≤ 140737488355328 ∧
  -9223372036854775808 ≤ q.n ∧ q.n ≤ 9223372036854775807 ∧ -9223372036854775808 ≤ q.at_ ∧ q.at_ ≤ 9223372036854775807
/-- A row of questions. -/
def Asks (w : World) (P : Option Addr) (qs : List Ask) : Prop :=
  (qs = [] ∨ ∃ b off, P = some ⟨b, off, none⟩ ∧ ∀ k (h : k < qs.length), ∀ i v, qs[k].cells[i]? = some v → w.cell? ⟨b, off + k * 7 + i, none⟩ = some v) ∧ ∀ q ∈ qs, q.Ok w
theorem Ask.Ok.later {w w' : World} {q : Ask} (h : q.Ok w) (hb : Below w.heap.size w w') : q.Ok w' := ⟨h.1.later hb, h.2.1.later hb, h.2.2⟩
theorem Asks.later {w w' : World} {P : Option Addr} {qs : List Ask} (h : Asks w P qs) (hb : Below w.heap.size w w') : Asks w' P qs := by
  refine ⟨?_, fun q hq => (h.2 q hq).later hb⟩
  rcases h.1 with rfl | ⟨b, off, rfl, hc⟩
  · exact .inl rfl
  · exact .inr ⟨b, off, rfl, fun k hk i v hv => (hb.cell (p := ⟨b, off + k * 7 + i, none⟩) (block_lt_of_cell (hc k hk i v hv))).trans (hc k hk i v hv)⟩
theorem Asks.at_ {w : World} {P : Option Addr} {qs : List Ask} (h : Asks w P qs) {k : Nat} (hk : k < qs.length) :
    ∃ b off, P = some ⟨b, off, none⟩ ∧ (∀ i v, qs[k].cells[i]? = some v → w.cell? ⟨b, off + k * 7 + i, none⟩ = some v) ∧ qs[k].Ok w := by
  rcases h.1 with rfl | ⟨b, off, rfl, hc⟩
  · simp at hk
  · exact ⟨b, off, rfl, hc k hk, h.2 _ (List.getElem_mem hk)⟩

set_option maxHeartbeats 1600000 in
theorem exact_any (P : Option Addr) (cp : Nat) (qs : List Ask) (w : World) (hw : HalfAt w) (hP : Asks w P qs) (hm : qs.length ≤ 9223372036854775807) :
    Calls Tryd.prog 3 #[.slice P qs.length cp] w fun e w' => e = .returned (.bool true) ∧ Below w.heap.size w w' := by
  have hG := hw.lt
  have HW := Lib.hid hw
  have HP := Lib.hid hP
  clear hw hP
  go_enter Tryd.func3, Tryd.ntmps3
  go_wp2_with fail
  refine (known_any _ HW.out).mono ?_
  rintro e w1 ⟨rfl, hb1⟩
  go_wp2_with fail
  go_loopw [4, 9] (fun _ i wr => ∃ k : Nat, k ≤ qs.length ∧ i = .int .i64 k ∧ Below w.heap.size w wr) (fun _ i _ => qs.length - (intOf i).toNat)
  case atStart => exact ⟨0, Nat.zero_le _, rfl, hb1⟩
  case round =>
    obtain ⟨k, hk, rfl, hB⟩ := hrel
    by_cases hlt : k < qs.length
    · obtain ⟨b, off, rfl, hc, hok⟩ := (HP.out.later hB).at_ hlt
      generalize qs[k] = q at hc hok
      have HOK := Lib.hid hok
      clear hok
      have c0 : wr.cell? ⟨b, off + k * 7, none⟩ = some (.int .i64 q.kind) := hc 0 _ rfl
      have c1 : wr.cell? ⟨b, off + k * 7 + 1, none⟩ = some (.int .u32 (n32 q.a)) := hc 1 _ rfl
      have c2 : wr.cell? ⟨b, off + k * 7 + 2, none⟩ = some (.int .u32 (n32 q.b)) := hc 2 _ rfl
      have c3 : wr.cell? ⟨b, off + k * 7 + 3, none⟩ = some (.int .i64 q.n) := hc 3 _ rfl
      have c4 : wr.cell? ⟨b, off + k * 7 + 4, none⟩ = some (.int .i64 q.at_) := hc 4 _ rfl
      have c5 : wr.cell? ⟨b, off + k * 7 + 5, none⟩ = some (.slice q.was.A q.was.l.length q.was.cap) := hc 5 _ rfl
      have c6 : wr.cell? ⟨b, off + k * 7 + 6, none⟩ = some (.slice q.now.A q.now.l.length q.now.cap) := hc 6 _ rfl
      clear hc
      have hn := below_new wr (.cells q.cells 27)
      have hok := HOK.out.later hn
      have HOK2 := Lib.hid hok
      have HWn := Lib.hid ((HW.out.below hB hG).below hn (by have := hB.size; omega))
      clear hok
      go_wp2_with (go_at_call 9; refine (answers_any q _ HWn.out HOK2.out.1 HOK2.out.2.1 HOK2.out.2.2.1 HOK2.out.2.2.2.1 HOK2.out.2.2.2.2.1 HOK2.out.2.2.2.2.2.1 HOK2.out.2.2.2.2.2.2.1 HOK2.out.2.2.2.2.2.2.2.1 HOK2.out.2.2.2.2.2.2.2.2.1 HOK2.out.2.2.2.2.2.2.2.2.2).mono ?_; rintro e w5 ⟨rfl, hb5⟩)
      go_roundw
      case rel => exact ⟨k + 1, by omega, by go_num, hB.trans ((hn.trans (hb5.mono hn.size)).mono hB.size)⟩
      case measure => simp [intOf]; omega
    · go_wp2_with fail
      go_ret
      exact ⟨rfl, hB⟩
end Go.Proofs.YtjglffejoflpoaaDoor
