/-
  ROWS OF PAIRS; the document's Runs.
-/
import Derived.Test.YtlpochabgdcidaaBtN
import Derived.Test.YtlpochabgdcidaaBtM
set_option linter.unusedVariables false
set_option linter.unusedSimpArgs false
namespace Go.Proofs.Ytlpochabgdcidaa
open Go.RowKit Bt

theorem infoPr : (Try.prog.info? 36).map (fun i => (i.zero, i.size, i.bytes)) = some (some (.agg #[.int .i64 0, .int .i64 0]), 2, 16) := by kernel_rfl
def prCells (ps : List (Nat × Nat)) : List Value := ps.flatMap fun p => [Value.int .i64 (p.1 : Int), .int .i64 (p.2 : Int)]
theorem prCells_append (p q : List (Nat × Nat)) : prCells (p ++ q) = prCells p ++ prCells q := List.flatMap_append
theorem prCells_one (a n : Nat) : prCells [(a, n)] = [Value.int .i64 (a : Int), .int .i64 (n : Int)] := rfl
theorem prCells_length (ps : List (Nat × Nat)) : (prCells ps).length = ps.length * 2 := by
  induction ps with
  | nil => rfl
  | cons x r ih => rw [show x :: r = [x] ++ r from rfl, prCells_append, List.length_append, ih]; simp [prCells]; omega
theorem prCells_at (ps : List (Nat × Nat)) (k : Nat) (h : k < ps.length) : (prCells ps)[k * 2]? = some (.int .i64 (ps[k].1 : Int)) ∧ (prCells ps)[k * 2 + 1]? = some (.int .i64 (ps[k].2 : Int)) := by
  have e : ps = ps.take k ++ ([ps[k]] ++ ps.drop (k + 1)) := by simp
  have hl : (prCells (ps.take k)).length = k * 2 := by rw [prCells_length, List.length_take]; omega
  have e2 : prCells ps = prCells (ps.take k) ++ ([Value.int .i64 (ps[k].1 : Int), .int .i64 (ps[k].2 : Int)] ++ prCells (ps.drop (k + 1))) := by
    conv => lhs; rw [e]
    rw [prCells_append, prCells_append]; rfl
  rw [e2]
  constructor
  · rw [List.getElem?_append_right (by omega), hl, Nat.sub_self]; rfl
  · rw [List.getElem?_append_right (by omega), hl, Nat.add_sub_cancel_left]; rfl
theorem prCells_bump (p : List (Nat × Nat)) (a n : Nat) : (prCells (p ++ [(a, n)])).set (p.length * 2 + 1) (.int .i64 ((n + 1 : Nat) : Int)) = prCells (p ++ [(a, n + 1)]) := by
  rw [prCells_append, prCells_append, List.set_append_right _ _ (by rw [prCells_length]; omega), prCells_length, Nat.add_sub_cancel_left]
  rfl
/-- The slice value (A, length of ps, cap) owns the pairs ps, in a block from base on. -/
def Prs (w : World) (base : Nat) (A : Option Addr) (cap : Nat) (ps : List (Nat × Nat)) : Prop := w.ownsRow base 36 2 (.slice A ps.length cap) ps.length (prCells ps)
section
variable {w w' w2 : World} {S : Nat → Prop} {base cap : Nat} {A B : Option Addr} {ps : List (Nat × Nat)}
theorem Prs.nil (w : World) (base : Nat) : Prs w base none 0 [] := ⟨rfl, .inl ⟨rfl, rfl⟩⟩
theorem Prs.kept (h : Prs w base A cap ps) (hk : ∀ g, Of A g → w'.heap[g]? = w.heap[g]?) : Prs w' base A cap ps := by
  refine ⟨h.1, ?_⟩
  rcases h.2 with h2 | ⟨g, cap', cur, hv, hg, hh, r⟩
  · exact .inl h2
  · refine .inr ⟨g, cap', cur, hv, hg, ?_, r⟩
    injection hv with hA
    rw [hk g hA]; exact hh
theorem Prs.lt (h : Prs w base A cap ps) (g : Nat) (hg : Of A g) : g < w.heap.size := by
  rcases h.2 with ⟨hv, _⟩ | ⟨g', cap', cur, hv, _, hh, _⟩
  · injection hv with hA; unfold Of at hg; rw [hA] at hg; cases hg
  · injection hv with hA
    unfold Of at hg
    rw [hA] at hg
    injection hg with hg
    injection hg with hg
    subst hg
    exact Is.lt hh
theorem Prs.ge (h : Prs w base A cap ps) (g : Nat) (hg : Of A g) : base ≤ g := by
  rcases h.2 with ⟨hv, _⟩ | ⟨g', cap', cur, hv, hb, hh, _⟩
  · injection hv with hA; unfold Of at hg; rw [hA] at hg; cases hg
  · injection hv with hA
    unfold Of at hg
    rw [hA] at hg
    injection hg with hg
    injection hg with hg
    subst hg
    exact hb
theorem Prs.keeps (h : Prs w base A cap ps) (k : Keeps S w w2) (hn : ∀ i, Of A i → ¬ S i) : Prs w2 base A cap ps := h.kept fun g hg => k.block g (h.lt g hg) (hn g hg)
theorem Prs.later (h : Prs w base A cap ps) (hb : Below w.heap.size w w2) : Prs w2 base A cap ps := h.kept fun g hg => hb.block g (h.lt g hg)
theorem Prs.base_le {base' : Nat} (h : Prs w base A cap ps) (hb : base' ≤ base) : Prs w base' A cap ps := by
  refine ⟨h.1, ?_⟩
  rcases h.2 with h2 | ⟨g, cap', cur, hv, hg, r⟩
  · exact .inl h2
  · exact .inr ⟨g, cap', cur, hv, by omega, r⟩
theorem Prs.shape (h : Prs w base A cap ps) : A = none ∨ ∃ g, A = some ⟨g, 0, none⟩ := by
  rcases h.2 with ⟨hv, _⟩ | ⟨g, cap', cur, hv, _⟩
  · injection hv with hA; exact .inl hA
  · injection hv with hA; exact .inr ⟨g, hA⟩
theorem Prs.cell (h : Prs w base A cap ps) {k : Nat} (hk : k < ps.length) : ∃ g, A = some ⟨g, 0, none⟩ ∧ w.cell? ⟨g, k * 2, none⟩ = some (.int .i64 (ps[k].1 : Int)) ∧ w.cell? ⟨g, k * 2 + 1, none⟩ = some (.int .i64 (ps[k].2 : Int)) ∧ w.frozen? ⟨g, k * 2 + 1, none⟩ = false := by
  rcases h.2 with ⟨_, h0⟩ | ⟨g, cap', cur, hv, _⟩
  · omega
  · injection hv with hA
    subst hA
    refine ⟨g, rfl, ?_, ?_, World.ownsRow.frozenAt h _⟩
    · rw [World.ownsRow.cellAt h (k * 2) (by omega)]; exact (prCells_at ps k hk).1
    · rw [World.ownsRow.cellAt h (k * 2 + 1) (by omega)]; exact (prCells_at ps k hk).2
theorem Prs.apart_num {c2 b2 : Nat} {zs : List Int} (h : Prs w base A cap ps) (hM : Nums w b2 B c2 zs) : Apart B A := by
  intro i hb ha
  rcases h.2 with ⟨hv, _⟩ | ⟨g, cap', cur, hv, _, hh, _⟩
  · injection hv with hA; unfold Of at ha; rw [hA] at ha; cases ha
  rcases hM.2 with ⟨hv2, _⟩ | ⟨g2, cap2, cur2, hv2, _, hh2, _⟩
  · injection hv2 with hA; unfold Of at hb; rw [hA] at hb; cases hb
  injection hv with hA
  injection hv2 with hA2
  unfold Of at ha hb
  rw [hA] at ha
  rw [hA2] at hb
  injection ha with ha; injection ha with ha
  injection hb with hb; injection hb with hb
  subst ha
  subst hb
  rw [hh] at hh2
  injection hh2 with hh2
  injection hh2 with _ ht
  exact absurd ht (by decide)
end
theorem prs_bump {w : World} {base g cap : Nat} {p : List (Nat × Nat)} {a n : Nat} (h : Prs w base (some ⟨g, 0, none⟩) cap (p ++ [(a, n)])) :
    Prs (w.setCell ⟨g, p.length * 2 + 1, none⟩ (.int .i64 ((n + 1 : Nat) : Int))) base (some ⟨g, 0, none⟩) cap (p ++ [(a, n + 1)]) := by
  have := World.ownsRow.stored h (p.length * 2 + 1) (.int .i64 ((n + 1 : Nat) : Int))
  rw [prCells_bump] at this
  unfold Prs
  have e : (p ++ [(a, n + 1)]).length = (p ++ [(a, n)]).length := by simp
  rw [e]
  exact this.1
theorem prs_of_own {w : World} {base : Nat} {v : Value} {ps : List (Nat × Nat)} (h : w.ownsRow base 36 2 v ps.length (prCells ps)) : ∃ A cap, v = .slice A ps.length cap ∧ Prs w base A cap ps := by
  rcases h.2 with ⟨hv, h0⟩ | ⟨g, cap, cur, hv, _⟩
  · have : ps = [] := List.eq_nil_of_length_eq_zero h0
    subst this
    exact ⟨none, 0, hv, by subst hv; exact h⟩
  · exact ⟨_, cap, hv, by subst hv; exact h⟩

/-- append(rows, [2]int{a, n}) -/
theorem wpList_append_pr {ops : Array Oper} {rest : List Oper} {o : Oper} {a : Act} {w : World} {Q : Exit → Act → World → Prop} (hgd : o.guard = none) (s x : Operand)
    (ho : o.op = .call { callee := .builtin .append, args := #[s, x], argTypes := #[30, 30] })
    (base : Nat) (A : Option Addr) (cap : Nat) (ps : List (Nat × Nat)) (hs : a.eval s = .slice A ps.length cap) (hown : Prs w base A cap ps)
    (g c : Nat) (y n : Nat) (hx : a.eval x = .slice (some ⟨g, 0, none⟩) 1 c) (h0 : w.cell? ⟨g, 0, none⟩ = some (.int .i64 (y : Int))) (h1 : w.cell? ⟨g, 1, none⟩ = some (.int .i64 (n : Int)))
    (hbytes : (ps.length + 1) * 16 ≤ 140737488355328) (hbase : base ≤ w.heap.size)
    (h : ∀ A' cap' w', Prs w' base A' cap' (ps ++ [(y, n)]) → Keeps (Of A) w w' → wpList Try.prog ops Q rest (a.put o.dst (.slice A' (ps ++ [(y, n)]).length cap')) w') :
    wpList Try.prog ops Q (o :: rest) a w := by
  obtain ⟨i0, hi, hz0, hz1, hz2⟩ := info_parts infoPr
  refine wpList_append_own_at w hgd s x 30 ho base 36 i0 (.agg #[.int .i64 0, .int .i64 0]) 2 16 Try.underlying30 hi hz0 hz1 hz2 rfl (by decide) _ ps.length (prCells ps) hs hown ⟨g, 0, none⟩ 1 c (prCells [(y, n)]) hx rfl ?_ ?_
    (by simp only [maxLen]; omega) hbytes hbase ?_
  · intro j u hu
    rw [prCells_one] at hu
    rcases j with _ | _ | j
    · simp at hu; subst hu; exact h0
    · simp at hu; subst hu; exact h1
    · simp at hu
  · intro u hu
    rw [prCells_one] at hu
    simp at hu
    rcases hu with rfl | rfl <;> rfl
  · intro v' w' hown' hg _ hat
    rw [← prCells_append] at hown'
    have e2 : ps.length + 1 = (ps ++ [(y, n)]).length := by simp
    rw [e2] at hown'
    obtain ⟨A', cap', rfl, hm⟩ := prs_of_own hown'
    exact h A' cap' w' hm (Keeps.of_grown hown.shape hg)

theorem ref_bits_to (A : Option Addr) (len cap N : Nat) (l : List UInt8) (hlen : l.length = len) (hN : 8 * len = N) (w : World) (hb : Bytes w A l) (hm : len ≤ 1048576) :
    Calls Try.prog 22 #[.slice A len cap] w fun e w' => (∃ A' cap', e = .returned (.slice A' N cap') ∧ Nums w' w.heap.size A' cap' (bitsL l N)) ∧ Below w.heap.size w w' := by
  subst hN
  exact ref_bits_any A len cap l hlen w hb hm
set_option maxHeartbeats 1600000 in
theorem ref_runs_any (A : Option Addr) (len cap : Nat) (l : List UInt8) (hlen : l.length = len) (w : World) (hb : Bytes w A l) (hm : len ≤ 1048576) :
    Calls Try.prog 10 #[.slice A len cap] w fun e w' => (∃ A' cap', e = .returned (.slice A' (runs l).length cap') ∧ Prs w' w.heap.size A' cap' (runs l)) ∧ Below w.heap.size w w' := by
  obtain ⟨N, hN⟩ : ∃ N, 8 * len = N := ⟨_, rfl⟩
  have hNb : N ≤ 8388608 := by omega
  have hRN : runs l = rows l N := by unfold runs; rw [hlen, hN]
  have HR := Lib.hid hRN
  have HB := Lib.hid hb
  have HL := Lib.hid hlen
  have HN := Lib.hid hN
  clear hb hlen hN hRN
  go_enter Try.func10, Try.ntmps10
  go_wp2_with (go_at_call 22; refine (ref_bits_to A len cap N l HL.out HN.out _ HB.out hm).mono ?_; rintro e w1 ⟨⟨A1, c1, rfl, hn1⟩, hb1⟩; have HN1 := Lib.hid hn1; have HB1 := Lib.hid hb1; clear hn1 hb1)
  have hs1 := HB1.out.size
  go_loopw [3, 5] (fun v i wr => ∃ (k : Nat) (A' : Option Addr) (cap' : Nat), k ≤ N ∧ i = .int .i64 k ∧ v = .slice A' (rows l k).length cap' ∧ Prs wr w.heap.size A' cap' (rows l k) ∧ Nums wr w.heap.size A1 c1 (bitsL l N) ∧ Below w.heap.size w wr) (fun v i _ => N - (intOf i).toNat)
  case atStart => exact ⟨0, none, 0, Nat.zero_le _, rfl, rfl, Prs.nil _ _, HN1.out, HB1.out⟩
  case round =>
    obtain ⟨k, A', cap', hk, rfl, rfl, hP, hM, hB⟩ := hrel
    have HP := Lib.hid hP
    have HM := Lib.hid hM
    have HBl := Lib.hid hB
    have hBs := hB.size
    clear hP hM hB
    by_cases hlt : k < N
    · have hk0 : (k : Int) < (N : Int) := by omega
      obtain ⟨ga, rfl, hc⟩ := HM.out.cell (k := k) (by rw [bitsL_length]; exact hlt)
      rw [bitsL_at] at hc
      have hkl := rows_length l k
      cases hbk : bit l k with
      | true =>
        rw [hbk, show ((one true : Nat) : Int) = 1 from rfl] at hc
        have HRO := Lib.hid (rows_on l k hbk)
        clear hbk
        go_wp2_with fail
        go_roundw
        case rel => exact ⟨k + 1, A', cap', by omega, by go_num, by rw [HRO.out], by rw [HRO.out]; exact HP.out, HM.out, HBl.out⟩
        case measure => simp [intOf]; omega
      | false =>
        rw [hbk, show ((one false : Nat) : Int) = 0 from rfl] at hc
        by_cases hnew : k = 0 ∨ bit l (k - 1) = true
        · have HRO := Lib.hid (rows_new l k hbk hnew)
          by_cases hk00 : k = 0
          · subst hk00
            rw [show ((0 : Nat) : Int) = 0 from rfl]
            clear hbk hnew
            go_wp2_with (at_builtin; refine wpList_append_pr rfl (.tmp 39) (.tmp 42) rfl w.heap.size A' cap' (rows l 0) rfl (HP.out.later (below_new wr _)) wr.heap.size _ 0 1 rfl ((one_new wr #[.int .i64 0, .int .i64 1] 36).2.cell 0) ((one_new wr #[.int .i64 0, .int .i64 1] 36).2.cell 1) (by omega) (by simp; omega) ?_; intro A5 c5 w5 hS5 hk5; rw [← HRO.out] at hS5 ⊢; have HS5 := Lib.hid hS5; have HM5 := Lib.hid ((HM.out.later (below_new wr (.cells #[.int .i64 0, .int .i64 1] 36))).keeps hk5 (fun i hi hh => (HP.out.later (below_new wr (.cells #[.int .i64 0, .int .i64 1] 36))).apart_num (HM.out.later (below_new wr (.cells #[.int .i64 0, .int .i64 1] 36))) i hi hh)); have HB5 := Lib.hid ((HBl.out.alloc hBs (.cells #[.int .i64 0, .int .i64 1] 36)).trans (hk5.below (by simp; omega) (fun i hi => HP.out.ge i hi))))
            go_roundw
            case rel => exact ⟨1, A5, c5, by omega, by rfl, rfl, HS5.out, HM5.out, HB5.out⟩
            case measure => simp [intOf]; omega
          · have hb1 : bit l (k - 1) = true := by
              rcases hnew with h | h
              · exact absurd h hk00
              · exact h
            obtain ⟨c, rfl⟩ : ∃ c, k = c + 1 := ⟨k - 1, by omega⟩
            obtain ⟨ga', hga, hc2⟩ := HM.out.cell (k := c) (by rw [bitsL_length]; omega)
            injection hga with hga
            injection hga with hga
            subst hga
            rw [bitsL_at, show bit l c = true from hb1, show ((one true : Nat) : Int) = 1 from rfl] at hc2
            obtain ⟨k, hke⟩ : ∃ k, c + 1 = k := ⟨_, rfl⟩
            have hkc : (k : Int) - 1 = (c : Int) := by omega
            rw [hke] at hc HRO HP hk0 hkl hlt ⊢
            have hkp : 0 < k := by omega
            clear hbk hnew hk00 hb1 hke
            go_wp2_with (at_builtin; refine wpList_append_pr rfl (.tmp 39) (.tmp 42) rfl w.heap.size A' cap' (rows l k) rfl (HP.out.later (below_new wr _)) wr.heap.size _ k 1 rfl ((one_new wr #[.int .i64 (k : Int), .int .i64 1] 36).2.cell 0) ((one_new wr #[.int .i64 (k : Int), .int .i64 1] 36).2.cell 1) (by omega) (by simp; omega) ?_; intro A5 c5 w5 hS5 hk5; rw [← HRO.out] at hS5 ⊢; have HS5 := Lib.hid hS5; have HM5 := Lib.hid ((HM.out.later (below_new wr (.cells #[.int .i64 (k : Int), .int .i64 1] 36))).keeps hk5 (fun i hi hh => (HP.out.later (below_new wr (.cells #[.int .i64 (k : Int), .int .i64 1] 36))).apart_num (HM.out.later (below_new wr (.cells #[.int .i64 (k : Int), .int .i64 1] 36))) i hi hh)); have HB5 := Lib.hid ((HBl.out.alloc hBs (.cells #[.int .i64 (k : Int), .int .i64 1] 36)).trans (hk5.below (by simp; omega) (fun i hi => HP.out.ge i hi))))
            go_roundw
            case rel => exact ⟨k + 1, A5, c5, by omega, by go_num, rfl, HS5.out, HM5.out, HB5.out⟩
            case measure => simp [intOf]; omega
        · obtain ⟨c, rfl⟩ : ∃ c, k = c + 1 := ⟨k - 1, by omega⟩
          have hp : bit l c = false := by
            cases h : bit l c with
            | false => rfl
            | true => exact absurd (.inr h) hnew
          have hro := rows_more l c hbk hp
          obtain ⟨p, a, n, e1, e2⟩ := (rowed l (c + 1)).open_ (by omega) hp
          rw [e1, bump_snoc] at hro
          obtain ⟨ga', hga, hc2⟩ := HM.out.cell (k := c) (by rw [bitsL_length]; omega)
          injection hga with hga
          injection hga with hga
          subst hga
          rw [bitsL_at, hp, show ((one false : Nat) : Int) = 0 from rfl] at hc2
          rw [e1] at HP ⊢
          obtain ⟨gp, rfl, _, hcn, hfn⟩ := HP.out.cell (k := p.length) (by simp)
          have hpe : (p ++ [(a, n)])[p.length]'(by simp) = (a, n) := by simp
          rw [hpe] at hcn
          have hll : (p ++ [(a, n)]).length = p.length + 1 := by simp
          rw [hll]
          obtain ⟨k, hke⟩ : ∃ k, c + 1 = k := ⟨_, rfl⟩
          have hkc : (k : Int) - 1 = (c : Int) := by omega
          rw [e1, hll] at hkl
          have HRO := Lib.hid (show rows l (k + 1) = p ++ [(a, n + 1)] by rw [← hke]; exact hro)
          have HPP := Lib.hid (prs_bump HP.out)
          rw [hke] at hc hk0 hkl hlt e2 ⊢
          have hkp : 0 < k := by omega
          have hnb : n ≤ 8388608 := by omega
          obtain ⟨pl, hpl⟩ : ∃ pl, p.length = pl := ⟨_, rfl⟩
          rw [hpl] at hcn hfn hkl HPP ⊢
          have HPL := Lib.hid hpl
          clear hbk hnew hp hro e1 e2 hpe hll hke hpl
          go_wp2_with fail
          go_region
          go_wp2_with fail
          have hcell : ((n + 1 : Nat) : Int) = (n : Int) + 1 := by omega
          have hpp := HPP.out
          rw [hcell] at hpp
          have hge := HP.out.ge gp rfl
          have hap := HP.out.apart_num HM.out
          have hmm : Nums (wr.setCell ⟨gp, pl * 2 + 1, none⟩ (.int .i64 ((n : Int) + 1))).drew w.heap.size (some ⟨ga, 0, none⟩) c1 (bitsL l N) :=
            HM.out.kept fun g hg => heap_setCell_other wr ⟨gp, pl * 2 + 1, none⟩ g _ (fun e => hap g hg (by rw [e]; rfl))
          have hbb := (HBl.out.setCell (p := ⟨gp, pl * 2 + 1, none⟩) hge (.int .i64 ((n : Int) + 1))).drew
          go_roundw
          case rel => exact ⟨k + 1, some ⟨gp, 0, none⟩, cap', by omega, by go_num, by rw [HRO.out]; simp [HPL.out], by rw [HRO.out]; exact hpp, hmm, hbb⟩
          case measure => simp [intOf]; omega
    · obtain rfl : k = N := by omega
      go_wp2_with fail
      go_ret
      exact ⟨⟨A', cap', by rw [HR.out]; rfl, by rw [HR.out]; exact HP.out⟩, HBl.out⟩
end Go.Proofs.Ytlpochabgdcidaa
