/-
  ROWS OF INTEGERS THAT THE CALL ITSELF MADE; all bits as a row of ones and zeros.
-/
import Derived.Test.YtlpochabgdcidaaBtR
import Derived.Maps.AppendAt
set_option linter.unusedVariables false
set_option linter.unusedSimpArgs false
namespace Go.Proofs.Ytlpochabgdcidaa
open Go.RowKit Bt

theorem infoNum : (Try.prog.info? 3).map (fun i => (i.zero, i.size, i.bytes)) = some (some (.int .i64 0), 1, 8) := by kernel_rfl
def numCells (ts : List Int) : List Value := ts.map fun s => Value.int .i64 s
theorem numCells_length (ts : List Int) : (numCells ts).length = ts.length := by simp [numCells]
/-- The slice value (A, length of ts, cap) owns the texts ts, in a block from base on. -/
def Nums (w : World) (base : Nat) (A : Option Addr) (cap : Nat) (ts : List Int) : Prop := w.ownsRow base 3 1 (.slice A ts.length cap) ts.length (numCells ts)
section
variable {w w' w2 : World} {S : Nat → Prop} {base cap : Nat} {A B : Option Addr} {ts : List Int}
theorem Nums.nil (w : World) (base : Nat) : Nums w base none 0 [] := ⟨rfl, .inl ⟨rfl, rfl⟩⟩
theorem Nums.kept (h : Nums w base A cap ts) (hk : ∀ g, Of A g → w'.heap[g]? = w.heap[g]?) : Nums w' base A cap ts := by
  refine ⟨h.1, ?_⟩
  rcases h.2 with h2 | ⟨g, cap', cur, hv, hg, hh, r⟩
  · exact .inl h2
  · refine .inr ⟨g, cap', cur, hv, hg, ?_, r⟩
    injection hv with hA
    rw [hk g hA]; exact hh
theorem Nums.lt (h : Nums w base A cap ts) (g : Nat) (hg : Of A g) : g < w.heap.size := by
  rcases h.2 with ⟨hv, _⟩ | ⟨g', cap', cur, hv, _, hh, _⟩
  · injection hv with hA; unfold Of at hg; rw [hA] at hg; cases hg
  · injection hv with hA
    unfold Of at hg
    rw [hA] at hg
    injection hg with hg
    injection hg with hg
    subst hg
    exact Is.lt hh
theorem Nums.ge (h : Nums w base A cap ts) (g : Nat) (hg : Of A g) : base ≤ g := by
  rcases h.2 with ⟨hv, _⟩ | ⟨g', cap', cur, hv, hb, hh, _⟩
  · injection hv with hA; unfold Of at hg; rw [hA] at hg; cases hg
  · injection hv with hA
    unfold Of at hg
    rw [hA] at hg
    injection hg with hg
    injection hg with hg
    subst hg
    exact hb
theorem Nums.keeps (h : Nums w base A cap ts) (k : Keeps S w w2) (hn : ∀ i, Of A i → ¬ S i) : Nums w2 base A cap ts := h.kept fun g hg => k.block g (h.lt g hg) (hn g hg)
theorem Nums.later (h : Nums w base A cap ts) (hb : Below w.heap.size w w2) : Nums w2 base A cap ts := h.kept fun g hg => hb.block g (h.lt g hg)
theorem Nums.shape (h : Nums w base A cap ts) : A = none ∨ ∃ g, A = some ⟨g, 0, none⟩ := by
  rcases h.2 with ⟨hv, _⟩ | ⟨g, cap', cur, hv, _⟩
  · injection hv with hA; exact .inl hA
  · injection hv with hA; exact .inr ⟨g, hA⟩
theorem Nums.cell (h : Nums w base A cap ts) {k : Nat} (hk : k < ts.length) : ∃ g, A = some ⟨g, 0, none⟩ ∧ w.cell? ⟨g, k, none⟩ = some (.int .i64 ts[k]) := by
  rcases h.2 with ⟨_, h0⟩ | ⟨g, cap', cur, hv, _⟩
  · omega
  · injection hv with hA
    subst hA
    refine ⟨g, rfl, ?_⟩
    rw [World.ownsRow.cellAt h k (by omega)]
    simp [numCells, hk]
end
theorem nums_of_own {w : World} {base : Nat} {v : Value} {ts : List Int} (h : w.ownsRow base 3 1 v ts.length (numCells ts)) : ∃ A cap, v = .slice A ts.length cap ∧ Nums w base A cap ts := by
  rcases h.2 with ⟨hv, h0⟩ | ⟨g, cap, cur, hv, _⟩
  · have : ts = [] := List.eq_nil_of_length_eq_zero h0
    subst this
    exact ⟨none, 0, hv, by subst hv; exact h⟩
  · exact ⟨_, cap, hv, by subst hv; exact h⟩

/-- append(texts, s) -/
theorem wpList_append_num {ops : Array Oper} {rest : List Oper} {o : Oper} {a : Act} {w : World} {Q : Exit → Act → World → Prop} (hgd : o.guard = none) (s x : Operand)
    (ho : o.op = .call { callee := .builtin .append, args := #[s, x], argTypes := #[45, 45] })
    (base : Nat) (A : Option Addr) (cap : Nat) (ts : List Int) (hs : a.eval s = .slice A ts.length cap) (hown : Nums w base A cap ts)
    (g c : Nat) (news : Int) (hx : a.eval x = .slice (some ⟨g, 0, none⟩) 1 c) (hnews : w.cell? ⟨g, 0, none⟩ = some (.int .i64 news))
    (hbytes : (ts.length + 1) * 8 ≤ 140737488355328) (hbase : base ≤ w.heap.size)
    (h : ∀ A' cap' w', Nums w' base A' cap' (ts ++ [news]) → Keeps (Of A) w w' → (∀ i, Of A' i → Of A i ∨ i = w.heap.size) → wpList Try.prog ops Q rest (a.put o.dst (.slice A' (ts ++ [news]).length cap')) w') :
    wpList Try.prog ops Q (o :: rest) a w := by
  obtain ⟨i0, hi, hz0, hz1, hz2⟩ := info_parts infoNum
  refine wpList_append_own_at w hgd s x 45 ho base 3 i0 (.int .i64 0) 1 8 Try.underlying45 hi hz0 hz1 hz2 rfl (by decide) _ ts.length (numCells ts) hs hown ⟨g, 0, none⟩ 1 c [.int .i64 news] hx rfl ?_ ?_
    (by simp only [maxLen]; omega) hbytes hbase ?_
  · intro j u hu
    cases j with
    | zero =>
      simp at hu
      subst hu
      exact hnews
    | succ j => simp at hu
  · intro u hu
    simp at hu
    subst hu
    rfl
  · intro v' w' hown' hg _ hat
    have e : numCells ts ++ [Value.int .i64 news] = numCells (ts ++ [news]) := by simp [numCells]
    have e2 : ts.length + 1 = (ts ++ [news]).length := by simp
    rw [e, e2] at hown'
    obtain ⟨A', cap', rfl, hm⟩ := nums_of_own hown'
    refine h A' cap' w' hm (Keeps.of_grown hown.shape hg) ?_
    intro i hi2
    unfold Of at hi2
    subst hi2
    rcases hat with ha | ha
    · left
      rcases hown.shape with hA | ⟨g', hA⟩
      · subst hA; cases ha
      · subst hA
        injection ha with ha
        have ha : i = g' := ha
        subst ha; rfl
    · right
      injection ha

/-- the first k bits as ones and zeros -/
def bitsL (l : List UInt8) (k : Nat) : List Int := (List.range k).map fun i => ((one (bit l i) : Nat) : Int)
theorem bitsL_length (l : List UInt8) (k : Nat) : (bitsL l k).length = k := by simp [bitsL]
theorem bitsL_at (l : List UInt8) (k j : Nat) (h : j < (bitsL l k).length) : (bitsL l k)[j] = ((one (bit l j) : Nat) : Int) := by simp [bitsL]
theorem bitsL_snoc (l : List UInt8) (k : Nat) : bitsL l k ++ [((one (bit l k) : Nat) : Int)] = bitsL l (k + 1) := by
  unfold bitsL
  rw [List.range_succ, List.map_append, List.map_cons, List.map_nil]

set_option maxHeartbeats 1600000 in
theorem ref_bits_any (A : Option Addr) (len cap : Nat) (l : List UInt8) (hlen : l.length = len) (w : World) (hb : Bytes w A l) (hm : len ≤ 1048576) :
    Calls Try.prog 22 #[.slice A len cap] w fun e w' => (∃ A' cap', e = .returned (.slice A' (8 * len) cap') ∧ Nums w' w.heap.size A' cap' (bitsL l (8 * len))) ∧ Below w.heap.size w w' := by
  have HB := Lib.hid hb
  have HL := Lib.hid hlen
  clear hb hlen
  go_enter Try.func22, Try.ntmps22
  go_wp2_with fail
  go_loopw [3, 4] (fun v i wr => ∃ (k : Nat) (A' : Option Addr) (cap' : Nat), k ≤ len ∧ i = .int .i64 k ∧ v = .slice A' (8 * k) cap' ∧ Nums wr w.heap.size A' cap' (bitsL l (8 * k)) ∧ Below w.heap.size w wr) (fun v i _ => len - (intOf i).toNat)
  case atStart => exact ⟨0, none, 0, Nat.zero_le _, rfl, rfl, Nums.nil _ _, Below.refl _ _⟩
  case round =>
    obtain ⟨k, A', cap', hk, rfl, rfl, hN, hB⟩ := hrel
    have HN := Lib.hid hN
    have HBl := Lib.hid hB
    clear hN hB
    by_cases hlt : k < len
    · have hkl : k < l.length := by rw [HL.out]; exact hlt
      obtain ⟨b, off, rfl, hc⟩ := (HB.out.later HBl.out).at_ hkl
      have HX := Lib.hid (fun j (hj : j < 8) => bit_of l (8 * k + j) k j hkl (by omega) (by omega))
      generalize l[k] = x at hc HX
      have hn : n8 x = ((x.toNat : Nat) : Int) := rfl
      rw [hn] at hc
      have hx := x.toNat_lt
      have HX8 := Lib.hid (show ∀ j, j < 8 → one (bit l (8 * k + j)) = x.toNat / 2 ^ j % 2 from fun j hj => by rw [HX.out j hj]; unfold bit8; rw [one_of])
      generalize x.toNat = z at hc hx HX8
      have hk0 : (k : Int) < (len : Int) := by omega
      obtain ⟨wo, rfl⟩ : ∃ wo : World, wo = wr := ⟨_, rfl⟩
      clear hn HX
      go_wp2_with fail
      go_loopw [3, 5, 6] (fun v y i wr => ∃ (j : Nat) (A' : Option Addr) (cap' : Nat), j ≤ 8 ∧ i = .int .i64 j ∧ y = .int .i64 ((z / 2 ^ j : Nat) : Int) ∧ v = .slice A' (8 * k + j) cap' ∧ Nums wr w.heap.size A' cap' (bitsL l (8 * k + j)) ∧ Below w.heap.size w wr) (fun v y i _ => 8 - (intOf i).toNat)
      case atStart => exact ⟨0, A', cap', by omega, rfl, by simp, rfl, HN.out, HBl.out⟩
      case round =>
        clear HN HBl
        obtain ⟨j, A', cap', hj, rfl, rfl, rfl, hN, hB⟩ := hrel
        have HN := Lib.hid hN
        have HBl := Lib.hid hB
        have hBs := hB.size
        clear hN hB
        have hzj : z / 2 ^ j ≤ z := Nat.div_le_self _ _
        have hs := Lib.hid (show z / 2 ^ (j + 1) = z / 2 ^ j / 2 by rw [Nat.pow_succ, Nat.div_div_eq_div_mul])
        obtain ⟨y, hy⟩ : ∃ y, z / 2 ^ j = y := ⟨_, rfl⟩
        rw [hy] at hzj hs ⊢
        obtain ⟨d, hd⟩ : ∃ d, y / 2 = d := ⟨_, rfl⟩
        obtain ⟨m, hm2⟩ : ∃ m, y % 2 = m := ⟨_, rfl⟩
        rw [hd] at hs
        have h2 : (y : Int) / 2 = (d : Int) := by omega
        have h3 : (y : Int) % 2 = (m : Int) := by omega
        have HM := Lib.hid (show j < 8 → ((one (bit l (8 * k + j)) : Nat) : Int) = (m : Int) from fun hj8 => by rw [HX8.out j hj8, hy, hm2])
        obtain ⟨q, hq⟩ : ∃ q, 8 * k + j = q := ⟨_, rfl⟩
        rw [hq] at HM HN ⊢
        have hqb : q ≤ 8388616 := by omega
        have HQ := Lib.hid hq
        clear hy hd hm2 hq
        by_cases hj8 : j < 8
        · have HSN := Lib.hid (bitsL_snoc l q)
          have hmm := HM.out hj8
          rw [hmm] at HSN
          go_wp2_with (at_builtin; refine wpList_append_num rfl (.tmp 22) (.tmp 25) rfl w.heap.size A' cap' (bitsL l q) (by rw [bitsL_length]; rfl) (HN.out.later (below_new wr _)) wr.heap.size _ (m : Int) rfl ((one_new wr #[.int .i64 (m : Int)] 3).2.cell 0) (by rw [bitsL_length]; omega) (by simp; omega) ?_; intro A5 c5 w5 hS5 hk5 hg5; rw [show (bitsL l q ++ [(m : Int)]).length = q + 1 by simp [bitsL_length]]; rw [HSN.out] at hS5; have HS5 := Lib.hid hS5; have HB5 := Lib.hid ((HBl.out.alloc hBs (.cells #[.int .i64 (m : Int)] 3)).trans (hk5.below (by simp; omega) (fun i hi => HN.out.ge i hi))))
          go_roundw
          case rel => exact ⟨j + 1, A5, c5, by omega, by go_num, by rw [hs.out], by rw [← Nat.add_assoc, HQ.out], by rw [← Nat.add_assoc, HQ.out]; exact HS5.out, HB5.out⟩
          case measure => simp [intOf]; omega
        · obtain rfl : j = 8 := by omega
          rw [show ((8 : Nat) : Int) = 8 from rfl]
          go_wp2_with fail
          go_roundw
          case rel => exact ⟨k + 1, A', cap', by omega, by go_num, by rw [← HQ.out]; rfl, by have := HQ.out; rw [show 8 * (k + 1) = q by omega]; exact HN.out, HBl.out⟩
          case measure => simp [intOf]; omega
    · obtain rfl : k = len := by omega
      go_wp2_with fail
      go_ret
      exact ⟨⟨A', cap', rfl, HN.out⟩, HBl.out⟩
end Go.Proofs.Ytlpochabgdcidaa
