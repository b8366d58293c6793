/-
  THE WALKS OF A DISK's CALLS (1): what only reads.
-/
import Derived.Test.YtimddchgmocdaaaDoorDm
set_option linter.unusedVariables false
set_option linter.unusedSimpArgs false
namespace Go.Proofs.YtimddchgmocdaaaDoor
open Go.RowKit

/-- the disk's own cells -/
structure Dcells (w : World) (a d : Nat) (D : Dk) (cA : Nat) (P : Option Addr) (cp : Nat) (K : Option Addr) (ck : Nat) (wr fl : Int) (T : Option Addr) (tn ct : Nat) : Prop where
  c0 : w.cell? ⟨d, 0, none⟩ = some (.slice (some ⟨a, 0, none⟩) D.lasts.length cA)
  c1 : w.cell? ⟨d, 1, none⟩ = some (.slice P D.pend.length cp)
  c2 : w.cell? ⟨d, 2, none⟩ = some (.int .i64 (D.left : Int))
  c3 : w.cell? ⟨d, 3, none⟩ = some (.slice K D.keep.length ck)
  c4 : w.cell? ⟨d, 4, none⟩ = some (.bool D.down)
  c5 : w.cell? ⟨d, 5, none⟩ = some (.int .i64 wr)
  c6 : w.cell? ⟨d, 6, none⟩ = some (.int .i64 fl)
  c7 : w.cell? ⟨d, 7, none⟩ = some (.slice T tn ct)
theorem dcells {w : World} {a d : Nat} {D : Dk} {cA : Nat} {P : Option Addr} {cp : Nat} {K : Option Addr} {ck : Nat} {wr fl : Int} {T : Option Addr} {tn ct : Nat}
    (h : Is w d 60 #[.slice (some ⟨a, 0, none⟩) D.lasts.length cA, .slice P D.pend.length cp, .int .i64 (D.left : Int), .slice K D.keep.length ck, .bool D.down, .int .i64 wr, .int .i64 fl, .slice T tn ct]) : Dcells w a d D cA P cp K ck wr fl T tn ct :=
  ⟨h.cell 0, h.cell 1, h.cell 2, h.cell 3, h.cell 4, h.cell 5, h.cell 6, h.cell 7⟩

theorem blocks_any (base a d : Nat) (D : Dk) (w : World) (h : DiskAt w base a d D) :
    Calls Tryd.prog 20 #[.pointer (some ⟨d, 0, none⟩)] w fun e w' => e = .returned (.int .i64 (D.lasts.length : Int)) ∧ w = w' := by
  obtain ⟨hO, hd, cA, P, cp, K, ck, wr, fl, T, tn, ct, tc, hI, hA, hP, hK, hT, hn⟩ := h
  have c0 := (dcells hI).c0
  clear hO hA hP hK hT hn hI
  go_enter Tryd.func20, Tryd.ntmps20
  go_wp2_with fail
  go_ret
  exact ⟨rfl, rfl⟩
theorem down_any (base a d : Nat) (D : Dk) (w : World) (h : DiskAt w base a d D) :
    Calls Tryd.prog 17 #[.pointer (some ⟨d, 0, none⟩)] w fun e w' => e = .returned (.bool D.down) ∧ w = w' := by
  obtain ⟨hO, hd, cA, P, cp, K, ck, wr, fl, T, tn, ct, tc, hI, hA, hP, hK, hT, hn⟩ := h
  have c4 := (dcells hI).c4
  clear hO hA hP hK hT hn hI
  generalize D.down = dn at c4 ⊢
  go_enter Tryd.func17, Tryd.ntmps17
  go_wp2_with fail
  go_ret
  exact ⟨rfl, rfl⟩
theorem dhas_any (base a d : Nat) (D : Dk) (i : Int) (w : World) (h : DiskAt w base a d D) :
    Calls Tryd.prog 31 #[.pointer (some ⟨d, 0, none⟩), .int .i64 i] w fun e w' => e = .returned (.bool (decide (0 ≤ i ∧ i < D.lasts.length))) ∧ w = w' := by
  obtain ⟨hO, hd, cA, P, cp, K, ck, wr, fl, T, tn, ct, tc, hI, hA, hP, hK, hT, hn⟩ := h
  have c0 := (dcells hI).c0
  clear hO hA hP hK hT hn hI
  generalize D.lasts.length = n at c0 ⊢
  by_cases h0 : 0 ≤ i
  · by_cases h1 : i < n
    · rw [decide_eq_true ⟨h0, h1⟩]
      go_enter Tryd.func31, Tryd.ntmps31
      go_wp2_with fail
      go_ret
      exact ⟨rfl, rfl⟩
    · rw [decide_eq_false (fun h => h1 h.2)]
      have h2 : (n : Int) ≤ i := by omega
      clear h1
      go_enter Tryd.func31, Tryd.ntmps31
      go_wp2_with fail
      go_ret
      exact ⟨ret_bool (decide_eq_false (by omega)), rfl⟩
  · rw [decide_eq_false (fun h => h0 h.1)]
    have h2 : i < 0 := by omega
    clear h0
    go_enter Tryd.func31, Tryd.ntmps31
    go_wp2_with fail
    go_ret
    exact ⟨rfl, rfl⟩

theorem infoSec : (Tryd.prog.info? 74).map (·.size) = some 512 := by kernel_rfl
theorem infoPen : (Tryd.prog.info? 76).map (·.size) = some 513 := by kernel_rfl

/-- the block as the first k pending writes leave it -/
def Dk.readTo (D : Dk) (i k : Nat) : List UInt8 := (D.pend.take k).foldl (fun b x => if x.1 = i then x.2 else b) (D.lasts.getD i [])
theorem Dk.readTo_all (D : Dk) (i : Nat) : D.readTo i D.pend.length = D.read i := by unfold Dk.readTo Dk.read; rw [List.take_length]
theorem Dk.readTo_zero (D : Dk) (i : Nat) : D.readTo i 0 = D.lasts.getD i [] := rfl
theorem Dk.readTo_succ (D : Dk) (i k : Nat) (h : k < D.pend.length) : D.readTo i (k + 1) = if D.pend[k].1 = i then D.pend[k].2 else D.readTo i k := by
  unfold Dk.readTo
  rw [take_snoc D.pend k h, List.foldl_append]
  rfl
theorem Dk.readTo_length {D : Dk} (h : D.Ok) {i : Nat} (hi : i < D.lasts.length) (k : Nat) : (D.readTo i k).length = 512 := by
  have := Dk.read_length (D := { D with pend := D.pend.take k }) (i := i) ⟨h.1, h.2.1, h.2.2.1, fun x hx => h.2.2.2.1 x (List.mem_of_mem_take hx), by have := h.2.2.2.2.1; show (D.pend.take k).length ≤ D.n; rw [List.length_take]; omega, h.2.2.2.2.2⟩ hi
  exact this

theorem u8s_512 {b : List UInt8} (h : (cellsOf8 b).length = 512) : (u8s b).size = 512 := by rw [u8s_size, ← cellsOf8_length]; exact h
theorem penCell_one (x : Nat × List UInt8) : ∀ v ∈ penCell x, v.oneCell' = true := fun v hv => by
  unfold penCell at hv
  rcases List.mem_cons.1 hv with h | h
  · rw [h]; rfl
  · exact cellsOf8_one _ v h
theorem u8s_one (b : List UInt8) : (u8s b).all (·.oneCell') = true := all_oneCell_toArray (cellsOf8_one b)
set_option maxHeartbeats 1600000 in
theorem dread_ok (base a d : Nat) (D : Dk) (i : Nat) (w : World) (h : DiskAt w base a d D) (hdn : D.down = false) (hi : i < D.lasts.length) :
    Calls Tryd.prog 23 #[.pointer (some ⟨d, 0, none⟩), .int .i64 (i : Int)] w fun e w' => (∃ g, e = .returned (.tuple #[.slice (some ⟨g, 0, none⟩) 512 512, .int .i64 0]) ∧ w.heap.size ≤ g ∧ Is w' g 74 (u8s (D.read i))) ∧ Below w.heap.size w w' := by
  have HD := Lib.hid h
  obtain ⟨hO, hd, cA, P, cp, K, ck, wr, fl, T, tn, ct, tc, hI, hA, hP, hK, hT, hn⟩ := h
  obtain ⟨c0, c1, c2, c3, c4, c5, c6, c7⟩ := dcells hI
  rw [hdn] at c4
  have hi0 : (0 : Int) ≤ (i : Int) := by omega
  have hi1 : (i : Int) < (D.lasts.length : Int) := by omega
  have HO := Lib.hid hO
  have HIx := Lib.hid hi
  have HP := Lib.hid hP
  have HA := Lib.hid hA
  have HI := Lib.hid hI
  have hN : D.lasts.length ≤ 16384 := hO.2.1
  have hrange : w.rangeAt a (i * 512) (cellsOf8 (D.lasts.getD i [])) := HA.out.range _ _ fun j v hv => by
    have hj := (List.getElem?_eq_some_iff.1 hv).1
    have hl : (D.lasts.getD i []).length = 512 := Dk.readTo_length HO.out HIx.out 0
    rw [cellsOf8_length, hl] at hj
    show (D.lasts.flatMap cellsOf8)[i * 512 + j]? = some v
    rw [flat_at cellsOf8 512 D.lasts (cell8_512 HO.out.2.2.1) i HIx.out j hj, ← hv, List.getD_eq_getElem?_getD, List.getElem?_eq_getElem HIx.out]
    rfl
  obtain ⟨b0, hb0⟩ : ∃ b0, D.lasts.getD i [] = b0 := ⟨_, rfl⟩
  have HB0 := Lib.hid (show D.readTo i 0 = b0 from hb0)
  rw [hb0] at hrange
  have hl0 : (cellsOf8 b0).length = 512 := by rw [cellsOf8_length, ← hb0]; exact Dk.readTo_length HO.out HIx.out 0
  have HL0 := Lib.hid hl0
  have HR := Lib.hid hrange
  clear hO hA hP hK hT hn hI hi hdn c2 c3 c5 c6 c7 hrange hl0 hb0
  go_enter Tryd.func23, Tryd.ntmps23
  go_wp2_with (first
    | (go_at_call 31; refine (dhas_any base a d D i _ HD.out).mono ?_; rintro e w' ⟨rfl, rfl⟩; rw [decide_eq_true ⟨hi0, hi1⟩])
    | (refine wpList_load_mid rfl 74 (.tmp 24) (by rfl) a (i * 512) (by rfl) _ _ HR.out Tryd.underlying74 rfl (by rw [HL0.out]; exact infoSec) ?_)
    | (refine wpList_store_row rfl 74 (.tmp 6) (.tmp 25) rfl w.heap.size (u8s b0) rfl rfl 74 _ (Is.new w _ _) (by rw [u8s_512 HL0.out]; exact infoSec) (by rw [u8s_512 HL0.out]; exact Tryd.zeroCells74_size) (u8s_one b0) ?_
       have hI1 := (Is.new w 74 Tryd.zeroCells74).row (u8s b0)
       have hB1 := below_setRow (below_new w (.cells Tryd.zeroCells74 74)) (Nat.le_refl _) (u8s b0)
       generalize (World.setRow (w.alloc (.cells Tryd.zeroCells74 74)) w.heap.size (u8s b0)) = w1 at hI1 hB1 ⊢
       have c1' : w1.cell? ⟨d, 1, none⟩ = some (.slice P D.pend.length cp) := (hB1.cell (p := ⟨d, 1, none⟩) (block_lt_of_cell c1)).trans c1
       have HB1 := Lib.hid hB1
       have HI1 := Lib.hid hI1
       clear hI1 hB1))
  have hP0 : D.pend.length ≤ 9223372036854775807 := by have := HP.out.cap_le; simp only [maxLen] at this; omega
  go_loopw [31] (fun i' wr => ∃ k : Nat, k ≤ D.pend.length ∧ i' = .int .i64 k ∧ Is wr w.heap.size 74 (u8s (D.readTo i k)) ∧ Below w.heap.size w wr) (fun i' _ => D.pend.length - (intOf i').toNat)
  case atStart => exact ⟨0, Nat.zero_le _, rfl, by rw [HB0.out]; exact HI1.out, HB1.out⟩
  case round =>
    obtain ⟨k, hk, rfl, hIr, hBr⟩ := hrel
    have HIr := Lib.hid hIr
    have HBr := Lib.hid hBr
    have hBs := hBr.size
    clear hIr hBr
    by_cases hlt : k < D.pend.length
    · have hk0 : (k : Int) < (D.pend.length : Int) := by omega
      have hk1 : (0 : Int) ≤ (k : Int) := by omega
      obtain ⟨gp, hgp, _, _⟩ := HP.out.form (by omega)
      subst hgp
      have hPr := HP.out.later HBr.out
      obtain ⟨xi, hxi⟩ : ∃ xi, D.pend[k].1 = xi := ⟨_, rfl⟩
      obtain ⟨xb, hxb⟩ : ∃ xb, D.pend[k].2 = xb := ⟨_, rfl⟩
      have hx512 : xb.length = 512 := by rw [← hxb]; exact (HO.out.2.2.2.1 _ (List.getElem_mem hlt)).2
      have hpc : penCell D.pend[k] = penCell (xi, xb) := by rw [← hxi, ← hxb]
      have hl513 : (penCell D.pend[k]).length = 513 := by rw [hpc]; simp [penCell, cellsOf8_length, hx512]
      have hrg : wr.rangeAt gp (k * 513) (penCell D.pend[k]) := hPr.range _ _ fun j v hv => by
        have hj := (List.getElem?_eq_some_iff.1 hv).1
        rw [hl513] at hj
        show (D.pend.flatMap penCell)[k * 513 + j]? = some v
        rw [flat_at penCell 513 D.pend (pen_513 fun x hx => (HO.out.2.2.2.1 x hx).2) k hlt j hj]
        exact hv
      rw [hpc] at hrg hl513
      have harm : ∀ w8, Is w8 wr.heap.size 76 (penCell (xi, xb)).toArray → Below wr.heap.size wr w8 → w8.cell? ⟨wr.heap.size, 0, none⟩ = some (.int .i64 (xi : Int)) ∧ w8.rangeAt wr.heap.size 1 (cellsOf8 xb) ∧ Below w.heap.size w w8 ∧ Is w8 w.heap.size 74 (u8s (D.readTo i k)) := fun w8 h1 h2 =>
        ⟨h1.cell 0, (fun j v hv => by rw [h1.cell (1 + j)]; simp [penCell, Nat.add_comm 1 j]; exact hv), HBr.out.trans (h2.mono hBs), HIr.out.below h2 HIr.out.lt⟩
      have h1c : (penCell (xi, xb)).toArray.all (·.oneCell') = true := all_oneCell_toArray (penCell_one (xi, xb))
      obtain ⟨pc, hpe⟩ : ∃ pc, penCell (xi, xb) = pc := ⟨_, rfl⟩
      rw [hpe] at hrg hl513 harm h1c
      have H1C := Lib.hid h1c
      have HARM := Lib.hid harm
      have HRG := Lib.hid hrg
      have HL := Lib.hid hl513
      have HRT := Lib.hid (D.readTo_succ i k hlt)
      rw [hxi, hxb] at HRT
      have HX := Lib.hid hx512
      clear hrg hl513 hPr hxi hxb hpc hx512 hlt hpe harm h1c
      by_cases hxe : xi = i
      · subst hxe
        rw [if_pos rfl] at HRT
        go_wp2_with (first
          | (refine wpList_load_mid rfl 76 (.tmp 33) (by rfl) gp (k * 513) (by rfl) _ _ HRG.out Tryd.underlying76 rfl (by rw [HL.out]; exact infoPen) ?_)
          | (refine wpList_store_row rfl 76 (.tmp 8) (.tmp 34) rfl wr.heap.size pc.toArray (by rfl) (by rfl) 76 _ (Is.new wr _ _) (by rw [List.size_toArray, HL.out]; exact infoPen) (Tryd.zeroCells76_size.trans (show 513 = pc.toArray.size by rw [List.size_toArray, HL.out])) H1C.out ?_
             obtain ⟨q1, q2, q3, q4⟩ := HARM.out _ ((Is.new wr 76 Tryd.zeroCells76).row pc.toArray) (below_setRow (below_new wr (.cells Tryd.zeroCells76 76)) (Nat.le_refl _) pc.toArray)
             generalize (World.setRow (wr.alloc (.cells Tryd.zeroCells76 76)) wr.heap.size pc.toArray) = w8 at q1 q2 q3 q4 ⊢
             have Q2 := Lib.hid q2
             have Q3 := Lib.hid q3
             have Q4 := Lib.hid q4
             clear q2 q3 q4)
          | (refine wpList_load_mid rfl 74 (.tmp 39) (by rfl) wr.heap.size 1 (by rfl) _ _ Q2.out Tryd.underlying74 rfl (by rw [cellsOf8_length, HX.out]; exact infoSec) ?_)
          | (refine wpList_store_row rfl 74 (.tmp 6) (.tmp 40) rfl w.heap.size (u8s xb) (by rfl) (by rfl) 74 _ Q4.out (by rw [u8s_size, HX.out]; exact infoSec) (by rw [u8s_size, u8s_size, HX.out]; exact Dk.readTo_length HO.out HIx.out k) (u8s_one xb) ?_))
        go_roundw
        case rel => exact ⟨k + 1, by omega, by go_num, by rw [HRT.out]; exact Q4.out.row (u8s xb), below_setRow Q3.out (Nat.le_refl _) (u8s xb)⟩
        case measure => simp [intOf]; omega
      · rw [if_neg hxe] at HRT
        have hxf : ((xi : Int) == (i : Int)) = false := by rw [beq_eq_false_iff_ne]; omega
        clear hxe
        go_wp2_with (first
          | (refine wpList_load_mid rfl 76 (.tmp 33) (by rfl) gp (k * 513) (by rfl) _ _ HRG.out Tryd.underlying76 rfl (by rw [HL.out]; exact infoPen) ?_)
          | (refine wpList_store_row rfl 76 (.tmp 8) (.tmp 34) rfl wr.heap.size pc.toArray (by rfl) (by rfl) 76 _ (Is.new wr _ _) (by rw [List.size_toArray, HL.out]; exact infoPen) (Tryd.zeroCells76_size.trans (show 513 = pc.toArray.size by rw [List.size_toArray, HL.out])) H1C.out ?_
             obtain ⟨q1, q2, q3, q4⟩ := HARM.out _ ((Is.new wr 76 Tryd.zeroCells76).row pc.toArray) (below_setRow (below_new wr (.cells Tryd.zeroCells76 76)) (Nat.le_refl _) pc.toArray)
             generalize (World.setRow (wr.alloc (.cells Tryd.zeroCells76 76)) wr.heap.size pc.toArray) = w8 at q1 q2 q3 q4 ⊢
             have Q3 := Lib.hid q3
             have Q4 := Lib.hid q4
             clear q2 q3 q4))
        go_roundw
        case rel => exact ⟨k + 1, by omega, by go_num, by rw [HRT.out]; exact Q4.out, Q3.out⟩
        case measure => simp [intOf]; omega
    · obtain rfl : k = D.pend.length := by omega
      go_wp2_with fail
      go_ret2
      exact ⟨⟨w.heap.size, rfl, Nat.le_refl _, by rw [← Dk.readTo_all]; exact HIr.out⟩, HBr.out⟩
end Go.Proofs.YtimddchgmocdaaaDoor
