/-
  THE WALK OF wal.held: what a log holds.
-/
import Derived.Test.YtimddchgmocdaaaDoorWr
set_option linter.unusedVariables false
set_option linter.unusedSimpArgs false
namespace Go.Proofs.YtimddchgmocdaaaDoor
open Go.RowKit Rec

theorem Dk.read_quiet {D : Dk} (h : D.pend = []) (i : Nat) : D.read i = D.lasts.getD i [] := by unfold Dk.read; rw [h]; rfl
set_option maxRecDepth 100000 in
set_option maxHeartbeats 1600000 in
theorem held_zero (base a d : Nat) (D : Dk) (w : World) (h : DiskAt w base a d D) (hdn : D.down = false) (hp : D.pend = []) (hl : 98 ≤ D.lasts.length) (h1 : D.lasts.getD 1 [] = Tx.zero) :
    Calls Tryd.prog 42 #[.pointer (some ⟨d, 0, none⟩)] w fun e w' => e = .returned (.slice none 0 0) ∧ Below w.heap.size w w' := by
  have hr : D.read 1 = Tx.zero := (D.read_quiet hp 1).trans h1
  have HD := Lib.hid h
  have HDN := Lib.hid hdn
  have HR := Lib.hid hr
  have HL := Lib.hid (show 1 < D.lasts.length by omega)
  have hl' : (98 : Int) ≤ (D.lasts.length : Int) := by omega
  clear h hdn hp h1 hr hl
  go_enter Tryd.func42, Tryd.ntmps42
  go_wp2_with (first
    | (go_at_call 17
       refine (down_any base a d D _ HD.out).mono ?_
       rw [HDN.out]
       rintro e w1 ⟨rfl, rfl⟩)
    | (go_at_call 56
       refine (must_ok _ _).mono ?_
       rintro e w2 ⟨rfl, rfl⟩)
    | (go_at_call 20
       first
       | (refine (blocks_any base a d D _ (HD.out.later HB3.out)).mono ?_
          rintro e w1 ⟨rfl, rfl⟩)
       | (refine (blocks_any base a d D _ HD.out).mono ?_
          rintro e w1 ⟨rfl, rfl⟩))
    | (go_at_call 57
       refine (wread_ok base a d D 1 w HD.out HDN.out HL.out).mono ?_
       rintro e w3 ⟨⟨g, rfl, hbf⟩, hb3⟩
       rw [HR.out] at hbf
       have HB3 := Lib.hid hb3
       have HBF := Lib.hid hbf
       clear hbf hb3)
    | (go_at_call 58
       refine (nums_zero (some ⟨g, 0, none⟩) 512 D.lasts.length w3 HBF.out.bytes (Nat.le_refl _)).mono ?_
       rintro e w4 ⟨rfl, rfl⟩))
  go_loopw [6, 33] (fun v u wr => u = .int .i64 0 ∧ v = .slice none 0 0 ∧ Below w.heap.size w wr) (fun v u _ => 0)
  case atStart => exact ⟨rfl, rfl, HB3.out⟩
  case round =>
    obtain ⟨rfl, rfl, hb⟩ := hrel
    have HB := Lib.hid hb
    clear hb
    go_wp2_with (first
      | (go_at_call 56
         refine (must_ok _ _).mono ?_
         rintro e w2 ⟨rfl, rfl⟩))
    go_ret
    exact ⟨rfl, HB.out⟩
def heldT : List TypeId := [71, 42]
theorem Nums.kt {w w2 : World} {base b cap : Nat} {A : Option Addr} {ts : List Int} {Ts : List TypeId} (h : Nums w base A cap ts) (k : KT none b Ts w w2) (ht : 3 ∉ Ts) : Nums w2 base A cap ts :=
  (show Own w base 3 1 A ts.length cap (numCells ts) from h).kt k ht (fun g _ e => by cases e)
theorem nums_of {ws : List (Nat × List UInt8)} (k : Nat) (hk : k < ws.length) : (ws.map (·.1))[k]'(by simpa using hk) = ws[k].1 := by simp
theorem rise_n {n : Nat} {ws : List (Nat × List UInt8)} (h : Rise n ws) (h1 : 1 ≤ ws.length) : RiseN n (ws.map (·.1)) :=
  ⟨by simpa using h1, by simpa using h.few, fun k hk => by have hk' : k < ws.length := by simpa using hk
                                                           rw [nums_of k hk']; exact h.low k hk',
   fun k hk => by have hk' : k + 1 < ws.length := by simpa using hk
                  rw [nums_of k (by omega), nums_of (k + 1) hk']; exact h.up k hk'⟩
set_option maxRecDepth 100000 in
set_option maxHeartbeats 3200000 in
theorem held_full (base a d : Nat) (D : Dk) (ws : List (Nat × List UInt8)) (w : World) (h : DiskAt w base a d D) (hdn : D.down = false) (hp : D.pend = []) (hl : 98 ≤ D.lasts.length) (hr : Rise D.lasts.length ws) (hw1 : 1 ≤ ws.length) (h512 : ∀ x ∈ ws, x.2.length = 512)
    (h1 : D.lasts.getD 1 [] = Hd.made (ws.map (·.1)) (ws.map (·.2))) (h2 : ∀ k (hk : k < ws.length), D.lasts.getD (2 + k) [] = ws[k].2) (hw : WidthsAt w) (hh : HalfAt w) (hbw : base ≤ w.heap.size) :
    Calls Tryd.prog 42 #[.pointer (some ⟨d, 0, none⟩)] w fun e w' => (∃ A c, e = .returned (.slice A ws.length c) ∧ BlkRow w' base a w.heap.size A c ws) ∧ Below w.heap.size w w' := by
  have hr1 : D.read 1 = Hd.made (ws.map (·.1)) (ws.map (·.2)) := (D.read_quiet hp 1).trans h1
  have hr2 : ∀ k (hk : k < ws.length), D.read (2 + k) = ws[k].2 := fun k hk => (D.read_quiet hp _).trans (h2 k hk)
  have hfew := hr.few
  have hlN : D.lasts.length ≤ 16384 := h.1.2.1
  have HD := Lib.hid h
  have HDN := Lib.hid hdn
  have HR1 := Lib.hid hr1
  have HR2 := Lib.hid hr2
  have HRN := Lib.hid (rise_n hr hw1)
  have H512 := Lib.hid h512
  have HW := Lib.hid hw
  have HH := Lib.hid hh
  have hl' : (98 : Int) ≤ (D.lasts.length : Int) := by omega
  have hwl : (ws.map (·.1)).length = ws.length := List.length_map _
  have hwl2 : (ws.map (·.2)).length = ws.length := List.length_map _
  have HWL := Lib.hid hwl
  have HWL2 := Lib.hid hwl2
  obtain ⟨nums, hnums⟩ : ∃ nums, ws.map (·.1) = nums := ⟨_, rfl⟩
  obtain ⟨data, hdata⟩ : ∃ data, ws.map (·.2) = data := ⟨_, rfl⟩
  rw [hnums] at HR1 HRN HWL
  rw [hdata] at HR1 HWL2
  have HNU := Lib.hid hnums
  have HDA := Lib.hid hdata
  obtain ⟨N, hN⟩ : ∃ N, D.lasts.length = N := ⟨_, rfl⟩
  have HNN := Lib.hid hN
  have HL := Lib.hid (show 1 < D.lasts.length by omega)
  have hNd := hN
  rw [hN] at hl' hlN hl HRN
  have hn0 : ((ws.length : Int) == 0) = false := by rw [beq_eq_false_iff_ne]; omega
  clear h hdn hp h1 h2 hr hr1 hr2 h512 hw hh hwl hwl2 hnums hdata hN hNd
  go_enter Tryd.func42, Tryd.ntmps42
  go_wp2_with (first
    | (go_at_call 17
       refine (down_any base a d D _ HD.out).mono ?_
       rw [HDN.out]
       rintro e w1 ⟨rfl, rfl⟩)
    | (go_at_call 56
       refine (must_ok _ _).mono ?_
       rintro e w2 ⟨rfl, rfl⟩)
    | (go_at_call 20
       first
       | (refine (blocks_any base a d D _ (HD.out.later HB3.out)).mono ?_
          rw [HNN.out]
          rintro e w1 ⟨rfl, rfl⟩)
       | (refine (blocks_any base a d D _ HD.out).mono ?_
          rw [HNN.out]
          rintro e w1 ⟨rfl, rfl⟩))
    | (go_at_call 57
       refine (wread_ok base a d D 1 w HD.out HDN.out HL.out).mono ?_
       rintro e w3 ⟨⟨g, rfl, hbf⟩, hb3⟩
       rw [HR1.out] at hbf
       have HB3 := Lib.hid hb3
       have HBF := Lib.hid hbf
       clear hbf hb3)
    | (go_at_call 58
       refine (nums_hd (some ⟨g, 0, none⟩) 512 N nums _ ws.length HWL.out w3 HBF.out.bytes (Nat.le_refl _) (HW.out.below HB3.out HW.out.lt) HRN.out hlN).mono ?_
       rintro e w4 ⟨⟨NA, nc, rfl, hNu⟩, hb4⟩
       have HNu := Lib.hid hNu
       have HB4 := Lib.hid (HB3.out.trans (hb4.mono HB3.out.size))
       have HBF4 := Lib.hid (HBF.out.later hb4)
       clear hNu hb4))
  go_loopw [6, 7, 33] (fun v x u wr => ∃ (k : Nat) (A1 A2 : Option Addr) (c1 c2 : Nat), k ≤ ws.length ∧ u = .int .i64 k ∧ v = .slice A1 k c1 ∧ x = .slice A2 k c2 ∧ BlkRow wr base a w.heap.size A1 c1 (ws.take k) ∧ DataRow wr base a w.heap.size A2 c2 (data.take k) ∧ KT none w.heap.size heldT w4 wr) (fun v x u _ => ws.length - (intOf u).toNat)
  case atStart => exact ⟨0, none, none, 0, 0, Nat.zero_le _, rfl, rfl, rfl, BlkRow.nil _ _ _ _, DataRow.nil _ _ _ _, KT.refl _ _ _ _⟩
  case round =>
    obtain ⟨k, A1, A2, c1, c2, hk, rfl, rfl, rfl, hBl, hDt, hb⟩ := hrel
    have HBl := Lib.hid hBl
    have HDt := Lib.hid hDt
    have HKr := Lib.hid hb
    have HBw := Lib.hid (HB4.out.trans (hb.below HB4.out.size))
    clear hBl hDt hb
    have HK1 := Lib.hid (show (ws.take k).length = k by rw [List.length_take]; omega)
    have HK2 := Lib.hid (show (data.take k).length = k by rw [List.length_take, HWL2.out]; omega)
    have hsz := HBw.out.size
    by_cases hlt : k < ws.length
    · have hk0 : (k : Int) < (ws.length : Int) := by omega
      have hk1 : (0 : Int) ≤ (k : Int) := by omega
      obtain ⟨gn, rfl, cn⟩ := nums_at (HNu.out.kt HKr.out (by simp [heldT])) (k := k) (by rw [HWL.out]; exact hlt)
      have hnk : nums[k]'(by rw [HWL.out]; exact hlt) = ws[k].1 := by have := HNU.out; subst this; simp
      have hdk : data[k]'(by rw [HWL2.out]; exact hlt) = ws[k].2 := by have := HDA.out; subst this; simp
      rw [hnk] at cn
      have hrk := HR2.out k hlt
      have h5 := H512.out _ (List.getElem_mem hlt)
      have hts : ws.take (k + 1) = ws.take k ++ [(ws[k].1, ws[k].2)] := take_snoc ws k hlt
      have htd : data.take (k + 1) = data.take k ++ [ws[k].2] := by rw [take_snoc data k (by rw [HWL2.out]; exact hlt), hdk]
      have hik : 2 + k < D.lasts.length := by rw [HNN.out]; omega
      obtain ⟨x, hx⟩ : ∃ x, ws[k].1 = x := ⟨_, rfl⟩
      obtain ⟨b, hb⟩ : ∃ b, ws[k].2 = b := ⟨_, rfl⟩
      rw [hx] at cn hts
      rw [hb] at hrk h5 hts htd
      have HRK := Lib.hid hrk
      have H5 := Lib.hid h5
      have HTS := Lib.hid hts
      have HTD := Lib.hid htd
      have HIK := Lib.hid hik
      have he2 : (2 + (k : Int)) = ((2 + k : Nat) : Int) := by omega
      have HE2 := Lib.hid he2
      clear hnk hdk hrk h5 hts htd hx hb hik he2
      go_wp2_with (first
        | (go_at_call 57
           rw [HE2.out]
           refine (wread_ok base a d D (2 + k) wr (HD.out.later HBw.out) HDN.out HIK.out).mono ?_
           rintro e w5 ⟨⟨gb, rfl, hbf⟩, hb5⟩
           rw [HRK.out] at hbf
           have HB5 := Lib.hid hb5
           have HBF5 := Lib.hid hbf
           have hsz5 := hb5.size
           clear hbf hb5)
        | (at_builtin
           first
           | (refine wpList_append_blk rfl _ _ (by rfl) base a w.heap.size A1 c1 (ws.take k) (by rw [HK1.out]; rfl) ((HBl.out.later HB5.out).later (below_new _ _)) w5.heap.size 1 x (some ⟨gb, 0, none⟩) 512 b (by rfl) (by have := (Is.new w5 71 #[.int .i64 (x : Int), .slice (some ⟨gb, 0, none⟩) 512 512]).cell 0; exact this) (by have := (Is.new w5 71 #[.int .i64 (x : Int), .slice (some ⟨gb, 0, none⟩) 512 512]).cell 1; exact this) H5.out (HBF5.out.later (below_new _ _)) (by rw [HK1.out]; omega) (by rw [World.size_alloc]; omega) hbw ?_
              intro A3 c3 w6 hBl6 hk6
              rw [← HTS.out] at hBl6 ⊢
              have HBl6 := Lib.hid hBl6
              have hl9 : (ws.take (k + 1)).length = k + 1 := by rw [List.length_take]; omega
              rw [hl9]
              have HK56 := Lib.hid (show KT none w.heap.size [71] w5 w6 from (KT.of_below (below_new w5 (.cells #[.int .i64 (x : Int), .slice (some ⟨gb, 0, none⟩) 512 512] 71)) (Nat.le_refl _)).trans hk6)
              have hsz6 := HK56.out.size
              clear hBl6 hl9 hk6)
           | (refine wpList_append_data rfl _ _ (by rfl) base a w.heap.size A2 c2 (data.take k) (by rw [HK2.out]; rfl) (((HDt.out.later HB5.out).kt0 HK56.out hbw (by simp) (by simp) (by simp)).later (below_new _ _)) w6.heap.size 1 (some ⟨gb, 0, none⟩) 512 b (by rfl) (by have := (Is.new w6 42 #[.slice (some ⟨gb, 0, none⟩) 512 512]).cell 0; exact this) H5.out ((HBF5.out.kt0 HK56.out hbw (by simp) (by simp)).later (below_new _ _)) (by rw [HK2.out]; omega) (by rw [World.size_alloc]; omega) hbw ?_
              intro A4 c4 w7 hDt7 hk7
              rw [← HTD.out] at hDt7 ⊢
              have HDt7 := Lib.hid hDt7
              have hl9 : (data.take (k + 1)).length = k + 1 := by rw [List.length_take, HWL2.out]; omega
              rw [hl9]
              have HK67 := Lib.hid (show KT none w.heap.size [42] w6 w7 from (KT.of_below (below_new w6 (.cells #[.slice (some ⟨gb, 0, none⟩) 512 512] 42)) (Nat.le_refl _)).trans hk7)
              clear hDt7 hl9 hk7)))
      go_roundw
      case rel =>
        refine ⟨k + 1, A3, A4, c3, c4, by omega, by go_num, rfl, rfl, HBl6.out.kt0 HK67.out hbw (by simp) (by simp) (by simp), HDt7.out, ?_⟩
        exact HKr.out.trans ((KT.of_below HB5.out (Nat.le_refl _)).trans ((HK56.out.mono (by simp [heldT])).trans (HK67.out.mono (by simp [heldT]))))
      case measure => simp [intOf]; omega
    · obtain rfl : ws.length = k := by omega
      have hall : ws.take ws.length = ws := List.take_length
      have hall2 : data.take ws.length = data := by rw [← HWL2.out]; exact List.take_length
      rw [hall] at HBl
      rw [hall2] at HDt
      have HBF5 := Lib.hid (HBF4.out.kt0 HKr.out hbw (by simp [heldT]) (by simp [heldT]))
      clear hall hall2
      go_wp2_with (first
        | (go_at_call 20
           refine (blocks_any base a d D _ (HD.out.later HBw.out)).mono ?_
           rw [HNN.out]
           rintro e w1 ⟨rfl, rfl⟩)
        | (go_at_call 59
           refine (good_any base a w.heap.size (some ⟨g, 0, none⟩) 512 N nums A2 c2 data ws.length wr HDt.out HWL2.out HWL.out HBF5.out.bytes (Nat.le_refl _) HRN.out hlN (HW.out.below HBw.out HW.out.lt) (HH.out.below HBw.out HH.out.lt)).mono ?_
           rintro e w8 ⟨rfl, hb8⟩
           have HB8 := Lib.hid hb8
           clear hb8)
        | (go_at_call 56
           refine (must_ok _ _).mono ?_
           rintro e w2 ⟨rfl, rfl⟩))
      go_ret
      exact ⟨⟨A1, c1, rfl, HBl.out.later HB8.out⟩, HBw.out.trans (HB8.out.mono HBw.out.size)⟩
end Go.Proofs.YtimddchgmocdaaaDoor
