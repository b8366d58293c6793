/-
  THE WALKS OF A DISK's CALLS (2): Pending, Image.
-/
import Derived.Test.YtimddchgmocdaaaDoorDw
import Derived.Test.YtimddchgmocdaaaDoorNum
import Derived.Test.YtimddchgmocdaaaDoorRow3
set_option linter.unusedVariables false
set_option linter.unusedSimpArgs false
namespace Go.Proofs.YtimddchgmocdaaaDoor
open Go.RowKit

theorem pen_range {w : World} {base gp cp k : Nat} {D : Dk} (hO : D.Ok) (hP : Own w base 76 513 (some ⟨gp, 0, none⟩) D.pend.length cp (penC D.pend)) (hlt : k < D.pend.length) : w.rangeAt gp (k * 513) (penCell D.pend[k]) ∧ (penCell D.pend[k]).length = 513 := by
  have hl : (penCell D.pend[k]).length = 513 := by simp [penCell, cellsOf8_length, (hO.2.2.2.1 _ (List.getElem_mem hlt)).2]
  refine ⟨hP.range _ _ fun j v hv => ?_, hl⟩
  have hj := (List.getElem?_eq_some_iff.1 hv).1
  rw [hl] at hj
  show (D.pend.flatMap penCell)[k * 513 + j]? = some v
  rw [flat_at penCell 513 D.pend (pen_513 fun x hx => (hO.2.2.2.1 x hx).2) k hlt j hj]
  exact hv
theorem sec_range {w : World} {base a cA k : Nat} {D : Dk} (hO : D.Ok) (hA : Own w base 74 512 (some ⟨a, 0, none⟩) D.lasts.length cA (secC D.lasts)) (hlt : k < D.lasts.length) : w.rangeAt a (k * 512) (cellsOf8 D.lasts[k]) ∧ D.lasts[k].length = 512 := by
  have hl : D.lasts[k].length = 512 := hO.2.2.1 _ (List.getElem_mem hlt)
  refine ⟨hA.range _ _ fun j v hv => ?_, hl⟩
  have hj := (List.getElem?_eq_some_iff.1 hv).1
  rw [cellsOf8_length, hl] at hj
  show (D.lasts.flatMap cellsOf8)[k * 512 + j]? = some v
  rw [flat_at cellsOf8 512 D.lasts (cell8_512 hO.2.2.1) k hlt j hj]
  exact hv

set_option maxHeartbeats 1600000 in
theorem dpending_any (base a d : Nat) (D : Dk) (w : World) (h : DiskAt w base a d D) (hn1 : D.pend.length ≤ 1000000) :
    Calls Tryd.prog 18 #[.pointer (some ⟨d, 0, none⟩)] w fun e w' => (∃ A c, e = .returned (.slice A D.pend.length c)) ∧ Below w.heap.size w w' := by
  obtain ⟨hO, hd, cA, P, cp, K, ck, wr, fl, T, tn, ct, tc, hI, hA, hP, hK, hT, hn⟩ := h
  obtain ⟨c0, c1, c2, c3, c4, c5, c6, c7⟩ := dcells hI
  have HO := Lib.hid hO
  have HP := Lib.hid hP
  have hB0 := Lib.hid (Below.refl w.heap.size w)
  clear hO hA hP hK hT hn hI c0 c2 c3 c4 c5 c6 c7
  go_enter Tryd.func18, Tryd.ntmps18
  go_wp2_with fail
  go_loopw [3, 11] (fun v i' wr => ∃ (k : Nat) (zs : List Int) (A : Option Addr) (c : Nat), k ≤ D.pend.length ∧ i' = .int .i64 k ∧ zs.length = k ∧ v = .slice A zs.length c ∧ Nums wr w.heap.size A c zs ∧ Below w.heap.size w wr) (fun _ i' _ => D.pend.length - (intOf i').toNat)
  case atStart => exact ⟨0, [], none, 0, Nat.zero_le _, rfl, rfl, rfl, Nums.nil _ _, hB0.out⟩
  case round =>
    obtain ⟨k, zs, A, c, hk, rfl, hz, rfl, hN, hBr⟩ := hrel
    have HN := Lib.hid hN
    have HBr := Lib.hid hBr
    have HZ := Lib.hid hz
    have hBs := hBr.size
    clear hN hBr hz
    by_cases hlt : k < D.pend.length
    · have hk0 : (k : Int) < (D.pend.length : Int) := by omega
      have hk1 : (0 : Int) ≤ (k : Int) := by omega
      obtain ⟨gp, hgp, _, _⟩ := HP.out.form (by omega)
      subst hgp
      obtain ⟨hrg, hl513⟩ := pen_range HO.out (HP.out.later HBr.out) hlt
      have harm : ∀ w8, Is w8 wr.heap.size 76 (penCell D.pend[k]).toArray → w8.cell? ⟨wr.heap.size, 0, none⟩ = some (.int .i64 (D.pend[k].1 : Int)) := fun w8 h1 => h1.cell 0
      have h1c : (penCell D.pend[k]).toArray.all (·.oneCell') = true := all_oneCell_toArray (penCell_one _)
      obtain ⟨pc, hpe⟩ : ∃ pc, penCell D.pend[k] = pc := ⟨_, rfl⟩
      obtain ⟨xi, hxi⟩ : ∃ xi, D.pend[k].1 = xi := ⟨_, rfl⟩
      rw [hpe] at hrg hl513 harm h1c
      rw [hxi] at harm
      have H1C := Lib.hid h1c
      have HARM := Lib.hid harm
      have HRG := Lib.hid hrg
      have HL := Lib.hid hl513
      clear hrg hl513 hpe harm h1c hlt hxi
      go_wp2_with (first
        | (refine wpList_load_mid rfl 76 (.tmp 13) (by rfl) gp (k * 513) (by rfl) _ _ HRG.out Tryd.underlying76 rfl (by rw [HL.out]; exact infoPen) ?_)
        | (refine wpList_store_row rfl 76 (.tmp 5) (.tmp 14) rfl wr.heap.size pc.toArray (by rfl) (by rfl) 76 _ (Is.new wr _ _) (by rw [List.size_toArray, HL.out]; exact infoPen) (Tryd.zeroCells76_size.trans (show 513 = pc.toArray.size by rw [List.size_toArray, HL.out])) H1C.out ?_
           have q1 := HARM.out _ ((Is.new wr 76 Tryd.zeroCells76).row pc.toArray)
           have q3 := below_setRow (below_new wr (.cells Tryd.zeroCells76 76)) (Nat.le_refl _) pc.toArray
           generalize (World.setRow (wr.alloc (.cells Tryd.zeroCells76 76)) wr.heap.size pc.toArray) = w8 at q1 q3 ⊢
           have Q3 := Lib.hid q3
           have hs8 := q3.size
           clear q3)
        | (at_builtin
           refine wpList_append_num rfl (.tmp 15) (.tmp 18) rfl w.heap.size A c zs (by rfl) ((HN.out.later Q3.out).later (below_new w8 _)) w8.heap.size 1 (xi : Int) (by rfl) ((one_new w8 #[.int .i64 (xi : Int)] 3).2.cell 0) (by rw [HZ.out]; omega) (by simp; omega) ?_
           intro A5 c5 w5 hS5 hk5 hat5
           have hge5 := ((HN.out.later Q3.out).later (below_new w8 (.cells #[.int .i64 (xi : Int)] 3))).ge
           have HS5 := Lib.hid hS5
           have HB5 := Lib.hid ((HBr.out.trans (Q3.out.mono hBs)).trans (((below_new w8 (.cells #[.int .i64 (xi : Int)] 3)).mono (by omega)).trans (hk5.below (by simp; omega) (fun i hi => hge5 i hi))))
           clear hge5 hat5))
      go_roundw
      case rel => exact ⟨k + 1, zs ++ [(xi : Int)], A5, c5, by omega, by go_num, by simp [HZ.out], by simp, HS5.out, HB5.out⟩
      case measure => simp [intOf]; omega
    · have hkk : k = D.pend.length := by omega
      have HKK := Lib.hid (show zs.length = D.pend.length by rw [HZ.out]; exact hkk)
      have hge : (D.pend.length : Int) ≤ (k : Int) := by omega
      clear hkk hlt
      go_wp2_with fail
      go_ret
      exact ⟨⟨A, c, by rw [HKK.out]; rfl⟩, HBr.out⟩

/-- make([]byte, 0, n) -/
theorem wpList_make_u8c {ops : Array Oper} {rest : List Oper} {o : Oper} {a : Act} {w : World} {Q : Exit → Act → World → Prop} (hgd : o.guard = none) (l c : Operand) (ho : o.op = .makeSlice 42 l c)
    (base n : Nat) (C : Int) (hl : a.eval l = .int .i64 0) (hc : a.eval c = .int .i64 C) (hC : C = (n : Int)) (hn : n ≤ 140737488355328) (hb : base ≤ w.heap.size)
    (h : ∀ w', Mine w' base (some ⟨w.heap.size, 0, none⟩) n [] → w.grownBy w' none → wpList Tryd.prog ops Q rest (a.put o.dst (.slice (some ⟨w.heap.size, 0, none⟩) 0 n)) w') :
    wpList Tryd.prog ops Q (o :: rest) a w := by
  obtain ⟨i0, hi, hz0, hz1, hz2⟩ := info_parts infoU8
  exact wpList_make_own w hgd l c 42 ho base 5 i0 (.int .u8 0) 1 Tryd.underlying42 hi hz0 hz1 .i64 .i64 C n hl hc hC (by rw [hz2]; omega) (by simp only [maxLen]; omega) hb h
theorem flat_bytes (L : List (List UInt8)) (k : Nat) (h : k < L.length) : (L.take (k + 1)).flatten = (L.take k).flatten ++ L[k] := by rw [take_snoc L k h, List.flatten_append]; simp
theorem flat_len (L : List (List UInt8)) (h : ∀ b ∈ L, b.length = 512) : L.flatten.length = L.length * 512 := by
  induction L with
  | nil => rfl
  | cons x L ih => rw [List.flatten_cons, List.length_append, h x (List.mem_cons_self ..), ih (fun b hb => h b (List.mem_cons_of_mem _ hb)), List.length_cons]; omega

set_option maxHeartbeats 1600000 in
theorem dimage_any (base a d : Nat) (D : Dk) (w : World) (h : DiskAt w base a d D) :
    Calls Tryd.prog 29 #[.pointer (some ⟨d, 0, none⟩)] w fun e w' => (∃ A c, e = .returned (.slice A (D.lasts.length * 512) c) ∧ Mine w' w.heap.size A c D.lasts.flatten) ∧ Below w.heap.size w w' := by
  obtain ⟨hO, hd, cA, P, cp, K, ck, wr, fl, T, tn, ct, tc, hI, hA, hP, hK, hT, hn⟩ := h
  obtain ⟨c0, c1, c2, c3, c4, c5, c6, c7⟩ := dcells hI
  have hN : D.lasts.length ≤ 16384 := hO.2.1
  have HO := Lib.hid hO
  have HA := Lib.hid hA
  have HI := Lib.hid hI
  clear hO hA hP hK hT hn hI c1 c2 c3 c4 c5 c6 c7
  obtain ⟨n, hn⟩ : ∃ n, D.lasts.length = n := ⟨_, rfl⟩
  have HNN := Lib.hid hn
  rw [hn] at c0 hN HA HI ⊢
  clear hn
  go_enter Tryd.func29, Tryd.ntmps29
  go_wp2_with (refine wpList_make_u8c rfl (.const (.int .i64 0)) (.tmp 11) rfl w.heap.size (n * 512) _ (by rfl) (by rfl) (by omega) (by omega) (Nat.le_refl _) ?_; intro w1 hm1 hg1; have hb1 := grown_below_none (Nat.le_refl w.heap.size) hg1; have c0' : w1.cell? ⟨d, 0, none⟩ = some (.slice (some ⟨a, 0, none⟩) n cA) := (hb1.cell (p := ⟨d, 0, none⟩) (block_lt_of_cell c0)).trans c0; have HM1 := Lib.hid hm1; have HB1 := Lib.hid hb1; clear hb1 hm1 hg1)
  go_loopw [3, 18] (fun v i' wr => ∃ (k : Nat) (A : Option Addr) (c : Nat), k ≤ n ∧ i' = .int .i64 k ∧ v = .slice A (k * 512) c ∧ Mine wr w.heap.size A c (D.lasts.take k).flatten ∧ Below w.heap.size w wr) (fun _ i' _ => n - (intOf i').toNat)
  case atStart => exact ⟨0, _, _, Nat.zero_le _, rfl, rfl, HM1.out, HB1.out⟩
  case round =>
    obtain ⟨k, A, c, hk, rfl, rfl, hM, hBr⟩ := hrel
    have HM := Lib.hid hM
    have HBr := Lib.hid hBr
    have hBs := hBr.size
    have HLL := Lib.hid (show ((D.lasts.take k).flatten).length = k * 512 by
      rw [flat_len _ (fun b hb => HO.out.2.2.1 b (List.mem_of_mem_take hb)), List.length_take, HNN.out, Nat.min_eq_left hk])
    clear hM hBr
    by_cases hlt : k < n
    · have hk0 : (k : Int) < (n : Int) := by omega
      have hk1 : (0 : Int) ≤ (k : Int) := by omega
      obtain ⟨hrg, hl5⟩ := sec_range HO.out (by rw [HNN.out]; exact HA.out.later HBr.out) (show k < D.lasts.length by rw [HNN.out]; exact hlt)
      have HFB := Lib.hid (flat_bytes D.lasts k (by rw [HNN.out]; exact hlt))
      obtain ⟨b, hb⟩ : ∃ b, D.lasts[k]'(by rw [HNN.out]; exact hlt) = b := ⟨_, rfl⟩
      rw [hb] at hrg hl5 HFB
      have HRG := Lib.hid hrg
      have HL5 := Lib.hid hl5
      clear hrg hl5 hb
      go_wp2_with (first
        | (refine wpList_load_mid rfl 74 (.tmp 20) (by rfl) a (k * 512) (by rfl) _ _ HRG.out Tryd.underlying74 rfl (by rw [cellsOf8_length, HL5.out]; exact infoSec) ?_)
        | (refine wpList_store_row rfl 74 (.tmp 5) (.tmp 21) rfl wr.heap.size (u8s b) (by rfl) (by rfl) 74 _ (Is.new wr _ _) (by rw [u8s_size, HL5.out]; exact infoSec) (Tryd.zeroCells74_size.trans (show 512 = (u8s b).size by rw [u8s_size, HL5.out])) (u8s_one b) ?_
           have q1 := (Is.new wr 74 Tryd.zeroCells74).row (u8s b)
           have q3 := below_setRow (below_new wr (.cells Tryd.zeroCells74 74)) (Nat.le_refl _) (u8s b)
           generalize (World.setRow (wr.alloc (.cells Tryd.zeroCells74 74)) wr.heap.size (u8s b)) = w8 at q1 q3 ⊢
           have Q1 := Lib.hid q1
           have Q3 := Lib.hid q3
           have hs8 := q3.size
           clear q1 q3)
        | (at_builtin
           refine wpList_append_u8 rfl (.tmp 22) (.tmp 23) rfl w.heap.size A c (D.lasts.take k).flatten (by rw [HLL.out]; rfl) (HM.out.later Q3.out) (some ⟨wr.heap.size, 0, none⟩) 512 b (by rw [HL5.out]; rfl) (fun h => by cases h) (Bytes.of_is Q1.out) (by rw [HLL.out, HL5.out]; omega) (by omega) ?_
           intro A5 c5 w5 hm5 hg5 hb5
           have HM5 := Lib.hid (show Mine w5 w.heap.size A5 c5 (D.lasts.take (k + 1)).flatten by rw [HFB.out]; exact hm5)
           have HB5 := Lib.hid ((HBr.out.trans (Q3.out.mono hBs)).trans hb5)
           rw [show ((D.lasts.take k).flatten ++ b).length = (k + 1) * 512 by rw [List.length_append, HLL.out, HL5.out]; omega]
           clear hm5 hg5 hb5))
      go_roundw
      case rel => exact ⟨k + 1, A5, c5, by omega, by go_num, rfl, HM5.out, HB5.out⟩
      case measure => simp [intOf]; omega
    · obtain rfl : n = k := by omega
      have HE := Lib.hid (show D.lasts.take n = D.lasts from List.take_of_length_le (by rw [HNN.out]; exact Nat.le_refl _))
      go_wp2_with fail
      go_ret
      exact ⟨⟨A, c, rfl, by rw [← HE.out]; exact HM.out⟩, HBr.out⟩
end Go.Proofs.YtimddchgmocdaaaDoor
