/-
  THE ITERATOR Runs: its contract.
-/
import Derived.Test.YtlpochabgdcidaaBtR
import Derived.Test.YtlpochabgdcidaaBtL
import Derived.Test.YtlpochabgdcidaaScopeIn
import Derived.RangeFuncNested
import Derived.RangeFuncBound
import Derived.RangeFuncCalls
import Derived.RangeFuncLeaves
import Derived.Shelf.Abstract
import Derived.Shelf.RegionOpen
import Derived.OwnWalkIn
import Derived.TacticsInMore
import Derived.LoopNIn
import Derived.LoopIn
set_option linter.unusedVariables false
set_option linter.unusedSimpArgs false
namespace Go.Proofs.Ytlpochabgdcidaa
open Go.RowKit Go.Shelf Bt
attribute [local go_sem] Oper.semAt_some

/-- what the iterator gives: rows -/
abbrev RowOf (l : List UInt8) := { x : Nat × Nat // IsRow l x }
/-- a row's two numbers as yield is handed them -/
def rowArgs {l : List UInt8} (x : RowOf l) : Array Value := #[.int .i64 (x.1.1 : Int), .int .i64 (x.1.2 : Int)]

theorem Bytes.below {w w' : World} {A : Option Addr} {l : List UInt8} {B : Nat} (h : Bytes w A l) (hb : Below B w w') (hA : ∀ b off, A = some ⟨b, off, none⟩ → b < B) : Bytes w' A l := by
  rcases h with rfl | ⟨b, off, rfl, h⟩
  · exact .inl rfl
  · exact .inr ⟨b, off, rfl, fun k hk => (hb.cell (p := ⟨b, off + k, none⟩) (hA b off rfl)).trans (h k hk)⟩

set_option maxRecDepth 100000 in
set_option maxHeartbeats 4000000 in
theorem runs1_any (n : Nat) (hn : 1 ≤ n) (r B len cap : Nat) (A : Option Addr) (l : List UInt8) (hlen : l.length = len) (hm : len ≤ 140737488355328) (Kp : World → World → Prop)
    (hK : ∀ W1 W2, Kp W1 W2 → W1.cell? ⟨B, 0, none⟩ = some (.slice A len cap) → Bytes W1 A l → W2.cell? ⟨B, 0, none⟩ = some (.slice A len cap) ∧ Bytes W2 A l)
    (J Jx : List (RowOf l) → World → Prop)
    (hY : ∀ pre (x : RowOf l) W, J pre W → pre.length < (runs l).length → YieldAt Fence.wide (n - 1) Try.prog r (rowArgs x) W fun e W' =>
      (e = .returned (.bool true) ∧ J (pre ++ [x]) W' ∧ Kp W W') ∨ (e = .returned (.bool false) ∧ Jx (pre ++ [x]) W'))
    (W : World) (hBc : W.cell? ⟨B, 0, none⟩ = some (.slice A len cap)) (hb : Bytes W A l) (h0 : J [] W) :
    CallsIn Fence.wide n Try.prog 23 #[.func (.yield r) #[] #[], .pointer (some ⟨B, 0, none⟩)] W fun e W' => (∃ v, e = .returned v) ∧
      ((∃ ys : List (RowOf l), ys.map (·.1) = runs l ∧ J ys W') ∨ (∃ pre : List (RowOf l), pre.map (·.1) <+: runs l ∧ Jx pre W')) := by
  have HL := Lib.hid hlen
  have HB := Lib.hid hb
  have HAd := Lib.hid hK
  have HYd := Lib.hid hY
  have HBC := Lib.hid hBc
  clear hlen hb hK hY hBc
  refine callsIn_of_wp Try.func23 rfl trivial ?_ rfl
  simp only [Try.ntmps23, List.size_toArray, List.length_cons, List.length_nil, Nat.reduceAdd, Nat.reduceSub, Array.replicate_succ, Array.replicate_zero, List.push_toArray, List.append_toArray, List.nil_append, List.cons_append]
  refine wpIn_scope_straight ?_
  gi_wp2
  refine wpIn_label ?_
  gi_wp2
  gi_loopw [3] (fun i wr => ∃ (k : Nat) (pre : List (RowOf l)), k ≤ 8 * len ∧ i = .int .i64 k ∧ J pre wr ∧ (wr.cell? ⟨B, 0, none⟩ = some (.slice A len cap) ∧ Bytes wr A l) ∧ pre.map (·.1) = rows l k ∧ (k = 0 ∨ k = 8 * len ∨ bit l k = true))
    (fun i _ => 8 * len - (intOf i).toNat)
  case atStart => exact ⟨0, [], Nat.zero_le _, rfl, h0, ⟨HBC.out, HB.out⟩, rfl, .inl rfl⟩
  case round =>
    obtain ⟨k, pre, hk, rfl, hJ, hnx, hpre, hst⟩ := hrel
    have hc := hnx.1
    have HBr := Lib.hid hnx.2
    have HPre := Lib.hid hpre
    have HSt := Lib.hid hst
    have HJ := Lib.hid hJ
    have HNx := Lib.hid hnx
    clear hpre hst hJ hnx
    obtain ⟨wq, rfl⟩ : ∃ wq : World, wq = wr := ⟨_, rfl⟩
    gi_wp2
    gi_loop [3] (fun i => ∃ q : Nat, k ≤ q ∧ q ≤ 8 * len ∧ i = .int .i64 q ∧ ∀ j, k ≤ j → j < q → bit l j = true) (fun i => 8 * len - (intOf i).toNat)
    case atStart => exact ⟨k, Nat.le_refl _, hk, rfl, fun j h1 h2 => by omega⟩
    case round =>
      obtain ⟨q, hkq, hq8, rfl, hon⟩ := hrel
      have HO := Lib.hid hon
      clear hon
      by_cases hq : q < 8 * len
      · have HH := Lib.hid (show has l (q : Int) = true from (has_iff _ _).2 ⟨by omega, by rw [HL.out]; omega⟩)
        cases hbit : bit l q with
        | true =>
          have HBT := Lib.hid hbit
          clear hbit
          gi_wp2_with (first
            | (refine ⟨trivial, ?_⟩; gi_at_call 24; refine (callsIn_wide.2 (has_any A len cap l HL.out _ _ hm)).mono ?_; rintro e w' ⟨rfl, rfl⟩; rw [HH.out])
            | (refine ⟨trivial, ?_⟩; gi_at_call 25; refine (callsIn_wide.2 (on_any A len cap l HL.out q _ HBr.out hq hm)).mono ?_; rintro e w' ⟨rfl, rfl⟩; rw [HBT.out]))
          go_round
          case rel =>
            refine ⟨q + 1, by omega, by omega, by go_num, fun j h1 h2 => ?_⟩
            by_cases hj : j < q
            · exact HO.out j h1 hj
            · obtain rfl : j = q := by omega
              exact HBT.out
          case measure => simp [intOf]; omega
        | false =>
          have HBT := Lib.hid hbit
          clear hbit
          gi_wp2_with (first
            | (refine ⟨trivial, ?_⟩; gi_at_call 24; refine (callsIn_wide.2 (has_any A len cap l HL.out _ _ hm)).mono ?_; rintro e w' ⟨rfl, rfl⟩; rw [HH.out])
            | (refine ⟨trivial, ?_⟩; gi_at_call 25; refine (callsIn_wide.2 (on_any A len cap l HL.out q _ HBr.out hq hm)).mono ?_; rintro e w' ⟨rfl, rfl⟩; rw [HBT.out]))
          gi_loop [3] (fun i => ∃ s : Nat, q ≤ s ∧ s ≤ 8 * len ∧ i = .int .i64 s ∧ ∀ j, q ≤ j → j < s → bit l j = false) (fun i => 8 * len - (intOf i).toNat)
          case atStart => exact ⟨q, Nat.le_refl _, hq8, rfl, fun j h1 h2 => by omega⟩
          case round =>
            obtain ⟨s, hqs, hs8, rfl, hoff⟩ := hrel
            have HF := Lib.hid hoff
            clear hoff
            have HQ := Lib.hid (show q = 0 ∨ bit l (q - 1) = true by
              rcases Nat.lt_or_ge k q with h1 | h1
              · exact .inr (HO.out (q - 1) (by omega) (by omega))
              · obtain rfl : q = k := by omega
                rcases HSt.out with h2 | h2 | h2
                · exact .inl h2
                · omega
                · rw [HBT.out] at h2; cases h2)
            have HR := Lib.hid (show rows l q = rows l k by
              obtain ⟨d, rfl⟩ := Nat.exists_eq_add_of_le hkq
              exact rows_skip l k d HO.out)
            obtain ⟨d, hd⟩ : ∃ d, q + d = s := ⟨s - q, by omega⟩
            by_cases hs : s < 8 * len
            · have HS := Lib.hid (show has l (s : Int) = true from (has_iff _ _).2 ⟨by omega, by rw [HL.out]; omega⟩)
              cases hbs : bit l s with
              | false =>
                have HBS := Lib.hid hbs
                clear hbs
                gi_wp2_with (first
                  | (refine ⟨trivial, ?_⟩; gi_at_call 24; refine (callsIn_wide.2 (has_any A len cap l HL.out _ _ hm)).mono ?_; rintro e w' ⟨rfl, rfl⟩; rw [HS.out])
                  | (refine ⟨trivial, ?_⟩; gi_at_call 25; refine (callsIn_wide.2 (on_any A len cap l HL.out s _ HBr.out hs hm)).mono ?_; rintro e w' ⟨rfl, rfl⟩; rw [HBS.out]))
                go_round
                case rel =>
                  refine ⟨s + 1, by omega, by omega, by go_num, fun j h1 h2 => ?_⟩
                  by_cases hj : j < s
                  · exact HF.out j h1 hj
                  · obtain rfl : j = s := by omega
                    exact HBS.out
                case measure => simp [intOf]; omega
              | true =>
                have hd1 : 1 ≤ d := by
                  rcases Nat.eq_zero_or_pos d with h1 | h1
                  · subst h1; rw [Nat.add_zero] at hd; subst hd; rw [HBT.out] at hbs; cases hbs
                  · exact h1
                have HBS := Lib.hid hbs
                have HE := Lib.hid (show q + d = 8 * l.length ∨ bit l (q + d) = true by rw [hd]; exact .inr hbs)
                clear hbs
                have hrow : IsRow l (q, d) := ⟨by show 1 ≤ d; omega, by show q + d ≤ 8 * l.length; rw [HL.out, hd]; exact hs8, fun j h1 h2 => HF.out j h1 (by have h2 : j < q + d := h2; omega), HQ.out, HE.out⟩
                have hrows : rows l s = rows l k ++ [(q, d)] := by
                  obtain ⟨d', rfl⟩ : ∃ d', d = d' + 1 := ⟨d - 1, by omega⟩
                  rw [← hd, rows_row l q d' HQ.out (fun j h1 h2 => HF.out j h1 (by omega)), HR.out]
                have hlt : pre.length < (runs l).length := by
                  have h1 := rows_first l s (by rw [HL.out, ← hd]; have := HE.out; rw [HL.out] at this; exact this) (by rw [HL.out]; exact hs8)
                  rw [hrows, ← HPre.out] at h1
                  have := h1.length_le
                  simp at this
                  omega
                obtain ⟨fn, tmps, assign, body, hy, hR⟩ := HYd.out pre ⟨(q, d), hrow⟩ wq HJ.out hlt
                have HROWS := Lib.hid hrows
                have HHR := Lib.hid hR
                have hsd : (s : Int) - (q : Int) = (d : Int) := by omega
                have hne : ((s : Int) == (q : Int)) = false := by rw [beq_eq_false_iff_ne]; omega
                have hrw : rowArgs (l := l) ⟨(q, d), hrow⟩ = #[.int .i64 (q : Int), .int .i64 (d : Int)] := rfl
                rw [hrw] at hy
                have HROW := Lib.hid hrow
                clear hrows hlt hrw
                gi_wp2_with (first
                  | (refine ⟨trivial, ?_⟩; gi_at_call 24; refine (callsIn_wide.2 (has_any A len cap l HL.out _ _ hm)).mono ?_; rintro e w' ⟨rfl, rfl⟩; rw [HS.out])
                  | (refine ⟨trivial, ?_⟩; gi_at_call 25; refine (callsIn_wide.2 (on_any A len cap l HL.out s _ HBr.out hs hm)).mono ?_; rintro e w' ⟨rfl, rfl⟩; rw [HBS.out]))
                refine HHR.out.mono ?_
                rintro e W3 (⟨rfl, hJ3, hk3⟩ | ⟨rfl, hJx3⟩)
                · gi_wp2
                  go_roundw
                  case rel =>
                    refine ⟨s, pre ++ [⟨(q, d), HROW.out⟩], hs8, rfl, hJ3, HAd.out _ _ hk3 HNx.out.1 HNx.out.2, ?_, ?_⟩
                    · rw [List.map_append, HPre.out, HROWS.out]; rfl
                    · have := HE.out; rw [HL.out, hd] at this; exact .inr this
                  case measure => simp [intOf]; omega
                · gi_wp2
                  rw [Exit.noGoto_normal]
                  go_end0
                  refine ⟨⟨_, rfl⟩, .inr ⟨_, ?_, hJx3⟩⟩
                  rw [List.map_append, HPre.out]
                  show rows l k ++ [(q, d)] <+: runs l
                  rw [← HROWS.out]
                  exact rows_first l s (by have := HE.out; rw [hd] at this; exact this) (by rw [HL.out]; exact hs8)
            · have HSE := Lib.hid (show s = 8 * len by omega)
              have HS := Lib.hid (show has l (s : Int) = false by rw [Bool.eq_false_iff]; intro h; have := (has_iff _ _).1 h; rw [HL.out] at this; omega)
              have hd1 : 1 ≤ d := by omega
              have HE := Lib.hid (show q + d = 8 * l.length ∨ bit l (q + d) = true by rw [HL.out]; exact .inl (by have := HSE.out; omega))
              have hrow : IsRow l (q, d) := ⟨by show 1 ≤ d; omega, by show q + d ≤ 8 * l.length; rw [HL.out, hd]; exact hs8, fun j h1 h2 => HF.out j h1 (by have h2 : j < q + d := h2; omega), HQ.out, HE.out⟩
              have hrows : rows l s = rows l k ++ [(q, d)] := by
                obtain ⟨d', rfl⟩ : ∃ d', d = d' + 1 := ⟨d - 1, by omega⟩
                rw [← hd, rows_row l q d' HQ.out (fun j h1 h2 => HF.out j h1 (by omega)), HR.out]
              have hlt : pre.length < (runs l).length := by
                have h1 := rows_first l s (by rw [HL.out, ← hd]; have := HE.out; rw [HL.out] at this; exact this) (by rw [HL.out]; exact hs8)
                rw [hrows, ← HPre.out] at h1
                have := h1.length_le
                simp at this
                omega
              obtain ⟨fn, tmps, assign, body, hy, hR⟩ := HYd.out pre ⟨(q, d), hrow⟩ wq HJ.out hlt
              have HROWS := Lib.hid hrows
              have HHR := Lib.hid hR
              have hsd : (s : Int) - (q : Int) = (d : Int) := by omega
              have hne : ((s : Int) == (q : Int)) = false := by rw [beq_eq_false_iff_ne]; omega
              have hrw : rowArgs (l := l) ⟨(q, d), hrow⟩ = #[.int .i64 (q : Int), .int .i64 (d : Int)] := rfl
              rw [hrw] at hy
              have HROW := Lib.hid hrow
              clear hrows hlt hrw
              gi_wp2_with (first
                | (refine ⟨trivial, ?_⟩; gi_at_call 24; refine (callsIn_wide.2 (has_any A len cap l HL.out _ _ hm)).mono ?_; rintro e w' ⟨rfl, rfl⟩; rw [HS.out]))
              refine ⟨trivial, ?_⟩
              gi_wp2
              refine HHR.out.mono ?_
              rintro e W3 (⟨rfl, hJ3, hk3⟩ | ⟨rfl, hJx3⟩)
              · gi_wp2
                go_roundw
                case rel =>
                  refine ⟨s, pre ++ [⟨(q, d), HROW.out⟩], hs8, rfl, hJ3, HAd.out _ _ hk3 HNx.out.1 HNx.out.2, ?_, ?_⟩
                  · rw [List.map_append, HPre.out, HROWS.out]; rfl
                  · have := HE.out; rw [HL.out, hd] at this; exact .inr this
                case measure => simp [intOf]; omega
              · gi_wp2
                rw [Exit.noGoto_normal]
                go_end0
                refine ⟨⟨_, rfl⟩, .inr ⟨_, ?_, hJx3⟩⟩
                rw [List.map_append, HPre.out]
                show rows l k ++ [(q, d)] <+: runs l
                rw [← HROWS.out]
                exact rows_first l s (by have := HE.out; rw [hd] at this; exact this) (by rw [HL.out]; exact hs8)
      · have HQE := Lib.hid (show q = 8 * len by omega)
        have HH := Lib.hid (show has l (q : Int) = false by rw [Bool.eq_false_iff]; intro h; have := (has_iff _ _).1 h; rw [HL.out] at this; omega)
        gi_wp2_with (refine ⟨trivial, ?_⟩; gi_at_call 24; refine (callsIn_wide.2 (has_any A len cap l HL.out _ _ hm)).mono ?_; rintro e w' ⟨rfl, rfl⟩; rw [HH.out])
        refine ⟨trivial, ?_⟩
        gi_wp2
        gi_loop [3] (fun i => i = .int .i64 q) (fun i => 0)
        case atStart => exact rfl
        case round =>
          obtain rfl := hrel
          gi_wp2_with (refine ⟨trivial, ?_⟩; gi_at_call 24; refine (callsIn_wide.2 (has_any A len cap l HL.out _ _ hm)).mono ?_; rintro e w' ⟨rfl, rfl⟩; rw [HH.out])
          refine ⟨trivial, ?_⟩
          gi_wp2
          refine ⟨fun _ h => (by cases h), ?_⟩
          gi_wp2
          rw [Exit.noGoto_normal]
          go_end0
          refine ⟨⟨_, rfl⟩, .inl ⟨pre, ?_, HJ.out⟩⟩
          rw [HPre.out]
          obtain ⟨d, hd⟩ := Nat.exists_eq_add_of_le hkq
          rw [← rows_skip l k d (fun j h1 h2 => HO.out j h1 (by omega)), ← hd, HQE.out, ← HL.out]
          rfl

/-- **THE CONTRACT OF THE ITERATOR**: it gives all rows, or, where a round has said no more, the first ones; a round that goes on keeps the box and the bytes. -/
theorem runs_stopsK (n : Nat) (hn : 1 ≤ n) (B len cap : Nat) (A : Option Addr) (l : List UInt8) (hlen : l.length = len) (hm : len ≤ 140737488355328) (Kp : World → World → Prop)
    (hK : ∀ W1 W2, Kp W1 W2 → W1.cell? ⟨B, 0, none⟩ = some (.slice A len cap) → Bytes W1 A l → W2.cell? ⟨B, 0, none⟩ = some (.slice A len cap) ∧ Bytes W2 A l) (w : World)
    (hBc : w.cell? ⟨B, 0, none⟩ = some (.slice A len cap)) (hb : Bytes w A l) :
    SeqStopsK Fence.wide n Try.prog 23 #[.pointer (some ⟨B, 0, none⟩)] (rowArgs (l := l)) Kp (fun ys => ys.map (·.1) = runs l) (fun pre => pre.map (·.1) <+: runs l) (runs l).length w := fun r J Jx W hW _ _ hY h0 =>
  runs1_any n hn r B len cap A l hlen hm Kp hK J Jx hY W ((hW.cell (p := ⟨B, 0, none⟩) (block_lt_of_cell hBc)).trans hBc) (hb.later hW) h0
theorem runs_stops (n : Nat) (hn : 1 ≤ n) (B n₀ len cap : Nat) (A : Option Addr) (l : List UInt8) (hlen : l.length = len) (hm : len ≤ 140737488355328) (hB : B < n₀) (hA : ∀ b off, A = some ⟨b, off, none⟩ → b < n₀) (w : World) (hn₀ : n₀ ≤ w.heap.size)
    (hBc : w.cell? ⟨B, 0, none⟩ = some (.slice A len cap)) (hb : Bytes w A l) :
    SeqStopsK Fence.wide n Try.prog 23 #[.pointer (some ⟨B, 0, none⟩)] (rowArgs (l := l)) (Below n₀) (fun ys => ys.map (·.1) = runs l) (fun pre => pre.map (·.1) <+: runs l) (runs l).length w :=
  runs_stopsK n hn B len cap A l hlen hm (Below n₀) (fun W1 W2 k h1 h2 => ⟨(k.cell (p := ⟨B, 0, none⟩) hB).trans h1, h2.below k hA⟩) w hBc hb

/-- what Runs hands back -/
def Iter (w0 w : World) (base : Nat) (l : List UInt8) (v : Value) : Prop :=
  ∃ (B : Nat) (A : Option Addr) (cap : Nat), v = .func (.func 23) #[] #[.pointer (some ⟨B, 0, none⟩)] ∧ w.cell? ⟨B, 0, none⟩ = some (.slice A l.length cap) ∧ Mine w base A cap l ∧ base ≤ B
theorem runs_any (A : Option Addr) (len cap : Nat) (l : List UInt8) (hlen : l.length = len) (w : World) (hb : Bytes w A l) (hc : A = none → cap = 0) (hm : len ≤ 140737488355328) :
    Calls Try.prog 11 #[.slice A len cap] w fun e w' => (∃ v, e = .returned v ∧ Iter w w' w.heap.size l v) ∧ Below w.heap.size w w' := by
  have HB := Lib.hid hb
  have HL := Lib.hid hlen
  have HC := Lib.hid hc
  clear hb hlen hc
  go_enter Try.func11, Try.ntmps11
  go_wp2_with (at_builtin; refine wpList_append_u8 rfl (.tmp 4) (.tmp 5) rfl w.heap.size (some ⟨w.heap.size, 0, none⟩) 0 [] rfl (Mine.empty w (Nat.le_refl _)) A cap l (by rw [HL.out]; rfl) HC.out (HB.out.later (below_new w _)) (by rw [HL.out]; simpa using hm) (by simp) ?_; intro A2 c2 w2 hm2 hg2 hb2; rw [show (([] : List UInt8) ++ l).length = len from HL.out]; have hm2 : Mine w2 w.heap.size A2 c2 l := hm2; have HM2 := Lib.hid hm2; have HB2 := Lib.hid ((below_new w (.cells #[] 5)).trans hb2))
  go_ret
  exact ⟨⟨_, rfl, w2.heap.size, A2, c2, rfl, by rw [HL.out]; exact (Is.new w2 22 #[.slice A2 len c2]).cell 0, HM2.out.later (below_new w2 _), HB2.out.size⟩, HB2.out.alloc HB2.out.size _⟩
end Go.Proofs.Ytlpochabgdcidaa
