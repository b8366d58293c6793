/-
  THE WALK OF wal.Commit.
-/
import Derived.Test.YtimddchgmocdaaaDoorWh
set_option linter.unusedVariables false
set_option linter.unusedSimpArgs false
namespace Go.Proofs.YtimddchgmocdaaaDoor
open Go.RowKit Rec

theorem logW_get (l : List (List UInt8)) : ∀ (j k : Nat) (h : k < (logW j l).length), (logW j l)[k] = (2 + j + k, l[k]'(by rw [logW_length] at h; exact h)) := by
  induction l with
  | nil => intro j k h; simp [logW] at h
  | cons b l ih =>
    intro j k h
    cases k with
    | zero => rfl
    | succ k =>
      have := ih (j + 1) k (by rw [logW_length]; rw [logW_length, List.length_cons] at h; omega)
      show (logW (j + 1) l)[k]'_ = _
      rw [this]
      simp
      omega
theorem whole_len (H : List UInt8) (ws : List (Nat × List UInt8)) : (Tx.whole H ws).length = 2 * ws.length + 6 := by
  unfold Tx.whole Tx.home Dk.phase
  simp [logW_length]
  omega
theorem home_len (ws : List (Nat × List UInt8)) : (Tx.home ws).length = ws.length + 3 := by unfold Tx.home Dk.phase; simp
theorem home_mem {n : Nat} {ws : List (Nat × List UInt8)} (h : Rise n ws) (hn : 98 ≤ n) (x : Nat × List UInt8) (hx : some x ∈ Tx.home ws) : x.1 < n := by
  unfold Tx.home Dk.phase at hx
  simp at hx
  rcases hx with hx | hx
  · obtain ⟨k, hk, e⟩ := List.mem_iff_getElem.1 hx
    rw [← e]; exact (h.low k hk).2
  · rw [hx]; show 1 < n; omega
theorem whole_mem {n : Nat} {ws : List (Nat × List UInt8)} (H : List UInt8) (h : Rise n ws) (hn : 98 ≤ n) (x : Nat × List UInt8) (hx : some x ∈ Tx.whole H ws) : x.1 < n := by
  unfold Tx.whole at hx
  rw [List.mem_append, List.mem_append] at hx
  rcases hx with hx | hx | hx
  · unfold Dk.phase at hx
    simp at hx
    have := (logW_mem _ _ _ hx).2.1
    have hf := h.few
    rw [List.length_map] at this
    omega
  · unfold Dk.phase at hx
    simp at hx
    rw [hx]; show 1 < n; omega
  · exact home_mem h hn x hx
theorem is_whole (H : List UInt8) (ws : List (Nat × List UInt8)) : (logW 0 (ws.map (·.2))).map some ++ [none] ++ [some (1, H)] ++ [none] ++ Tx.home ws = Tx.whole H ws := by
  unfold Tx.whole Dk.phase
  simp only [List.append_assoc, List.map_cons, List.map_nil]
theorem DiskAt.ktS {w w2 : World} {base a d sp sb : Nat} {D : Dk} {cs : Array Value} (h : DiskAt w base a d D) (hsp : Is w sp 90 cs) (k : KT (some sp) sb stepT w w2) (hb : base ≤ sb) : DiskAt w2 base a d D :=
  h.kt (k.base_le hb) (by simp [stepT]) (by simp [stepT]) (by simp [stepT]) (by simp [stepT]) (by simp [stepT]) (fun b e ⟨cs', t, f, q1, q2⟩ => by
    injection e with e
    subst e
    rw [show w.heap[sp]? = _ from hsp] at q1
    injection q1 with q1
    injection q1 with _ q1
    subst q1
    simp at q2)
theorem steps_none (w : World) (base a sb : Nat) : StepsAt (w.alloc (.cells #[.slice none 0 0] 90)) base a w.heap.size sb [] :=
  ⟨none, 0, Is.new w _ _, [], Own.nil _ _ _ _, fun k h => by simp at h⟩
theorem KT.of_keeps_int {w w2 : World} {base cap : Nat} {A : Option Addr} {ts : List Int} (k : Keeps (Of A) w w2) (h : Nums w base A cap ts) : KT none base [3] w w2 := by
  refine ⟨k.os, k.tape, k.output, k.size, fun i hi hs => k.block i hi fun e => ?_⟩
  obtain ⟨hg, cur, hI⟩ := (show Own w base 3 1 A ts.length cap (numCells ts) from h).typed i e
  rcases hs with hs | ⟨_, hs⟩
  · omega
  · exact hs ⟨_, _, _, hI, by simp⟩
set_option maxRecDepth 100000 in
set_option maxHeartbeats 6400000 in
theorem wcommit_any (base a d lb : Nat) (D : Dk) (A : Option Addr) (c : Nat) (ws : List (Nat × List UInt8)) (w : World) (h : DiskAt w base a d D) (hdn : D.down = false) (hB : BlkRow w base a lb A c ws) (hr : Rise D.lasts.length ws) (hw1 : 1 ≤ ws.length) (hl : 98 ≤ D.lasts.length) (h512 : ∀ x ∈ ws, x.2.length = 512)
    (hw : WidthsAt w) (hh : HalfAt w) (hbw : base ≤ w.heap.size) (hn : D.n ≤ 500000) :
    Calls Tryd.prog 27 #[.pointer (some ⟨d, 0, none⟩), .slice A ws.length c] w fun e w' =>
      e = .returned (.int .i64 (D.does (Tx.whole (Hd.made (ws.map (·.1)) (ws.map (·.2))) ws)).2) ∧ DiskAt w' base a d (D.does (Tx.whole (Hd.made (ws.map (·.1)) (ws.map (·.2))) ws)).1 ∧ KT (some a) base diskT w w' := by
  have hfew := hr.few
  have hlN : D.lasts.length ≤ 16384 := h.1.2.1
  obtain ⟨_, _, hisA⟩ := h.a_ne
  have hal : a < w.heap.size := by obtain ⟨cur, hi⟩ := hisA; exact hi.lt
  have HD := Lib.hid h
  have HDN := Lib.hid hdn
  have HB := Lib.hid hB
  have HR := Lib.hid hr
  have HRN := Lib.hid (rise_n hr hw1)
  have H512 := Lib.hid h512
  have HW := Lib.hid hw
  have HH := Lib.hid hh
  have HIA := Lib.hid hisA
  have hwl : (ws.map (·.1)).length = ws.length := List.length_map _
  have hwl2 : (ws.map (·.2)).length = ws.length := List.length_map _
  have HWL := Lib.hid hwl
  have HWL2 := Lib.hid hwl2
  obtain ⟨nums, hnums⟩ : ∃ nums, ws.map (·.1) = nums := ⟨_, rfl⟩
  obtain ⟨data, hdata⟩ : ∃ data, ws.map (·.2) = data := ⟨_, rfl⟩
  have HIW := Lib.hid (fun H => is_whole H ws)
  rw [hnums] at HRN HWL ⊢
  rw [hdata] at HWL2 HIW ⊢
  have HNU := Lib.hid hnums
  have HDA := Lib.hid hdata
  obtain ⟨HDR, hHDR⟩ : ∃ HDR, Hd.made nums data = HDR := ⟨_, rfl⟩
  rw [hHDR]
  have HHD := Lib.hid hHDR
  clear hHDR
  obtain ⟨N, hN⟩ : ∃ N, D.lasts.length = N := ⟨_, rfl⟩
  have HNN := Lib.hid hN
  have HWM := Lib.hid (fun H => whole_mem H hr hl)
  rw [hN] at hl hlN HR HRN
  have hRN2 : RiseN 16384 nums := ⟨HRN.out.one, HRN.out.few, fun k hk => by have := HRN.out.low k hk; omega, HRN.out.up⟩
  have HRN2 := Lib.hid hRN2
  have hn0 : ((ws.length : Int) == 0) = false := by rw [beq_eq_false_iff_ne]; omega
  clear h hdn hB hr h512 hw hh hwl hwl2 hnums hdata hN hisA hRN2
  go_enter Tryd.func27, Tryd.ntmps27
  go_wp2_with (first
    | (go_at_call 20
       refine (blocks_any base a d D _ HD.out).mono ?_
       rw [HNN.out]
       rintro e w1 ⟨rfl, rfl⟩)
    | (go_at_call 34
       refine (wmay_any base a lb N A c ws w HB.out HR.out hlN).mono ?_
       rintro e w1 ⟨rfl, hb1⟩
       have HB1 := Lib.hid hb1
       clear hb1))
  go_loopw [5, 6, 24] (fun v x u wr => ∃ (k : Nat) (A1 A2 : Option Addr) (c1 c2 : Nat), k ≤ ws.length ∧ u = .int .i64 k ∧ v = .slice A1 k c1 ∧ x = .slice A2 k c2 ∧ Nums wr w.heap.size A1 c1 (ints (nums.take k)) ∧ DataRow wr base a w.heap.size A2 c2 (data.take k) ∧ Below w.heap.size w wr) (fun v x u _ => ws.length - (intOf u).toNat)
  case atStart => exact ⟨0, none, none, 0, 0, Nat.zero_le _, rfl, rfl, rfl, Nums.nil _ _, DataRow.nil _ _ _ _, HB1.out⟩
  case round =>
    obtain ⟨k, A1, A2, c1, c2, hk, rfl, rfl, rfl, hNu, hDt, hb⟩ := hrel
    have HNu := Lib.hid hNu
    have HDt := Lib.hid hDt
    have HBr := Lib.hid hb
    have hsz := hb.size
    clear hNu hDt hb
    have HK1 := Lib.hid (show (ints (nums.take k)).length = k by rw [ints_len, List.length_take, HWL.out]; omega)
    have HK2 := Lib.hid (show (data.take k).length = k by rw [List.length_take, HWL2.out]; omega)
    by_cases hlt : k < ws.length
    · have hk0 : (k : Int) < (ws.length : Int) := by omega
      have hk1 : (0 : Int) ≤ (k : Int) := by omega
      obtain ⟨g, B, bc, rfl, cc1, cc2, h5, hbuf⟩ := (HB.out.later HBr.out).at_ hlt
      have hnk : nums[k]'(by rw [HWL.out]; exact hlt) = ws[k].1 := by have := HNU.out; subst this; simp
      have hdk : data[k]'(by rw [HWL2.out]; exact hlt) = ws[k].2 := by have := HDA.out; subst this; simp
      have htn : ints (nums.take (k + 1)) = ints (nums.take k) ++ [((ws[k].1 : Nat) : Int)] := by rw [ints_snoc nums k (by rw [HWL.out]; exact hlt), hnk]
      have htd : data.take (k + 1) = data.take k ++ [ws[k].2] := by rw [take_snoc data k (by rw [HWL2.out]; exact hlt), hdk]
      obtain ⟨x, hx⟩ : ∃ x, ws[k].1 = x := ⟨_, rfl⟩
      obtain ⟨b, hb⟩ : ∃ b, ws[k].2 = b := ⟨_, rfl⟩
      rw [hx] at cc1 htn
      rw [hb] at h5 hbuf htd
      have H5 := Lib.hid h5
      have HBUF := Lib.hid hbuf
      have HTN := Lib.hid htn
      have HTD := Lib.hid htd
      have HWB := Lib.hid (below_new wr (.cells #[.int .i64 (x : Int), .slice B 512 bc] 71))
      have hq1 : (wr.alloc (.cells #[.int .i64 (x : Int), .slice B 512 bc] 71)).cell? ⟨wr.heap.size, 1, none⟩ = some (.slice B 512 bc) := (Is.new wr 71 #[.int .i64 (x : Int), .slice B 512 bc]).cell 1
      clear hnk hdk h5 hbuf htn htd hx hb
      go_wp2_with (first
        | (at_builtin
           first
           | (refine wpList_append_num rfl _ _ (by rfl) w.heap.size A1 c1 (ints (nums.take k)) (by rw [HK1.out]; rfl) ((HNu.out.later HWB.out).later (below_new _ _)) (wr.heap.size + 1) 1 (x : Int) (by rfl) (by have := (Is.new (wr.alloc (.cells #[.int .i64 (x : Int), .slice B 512 bc] 71)) 3 #[.int .i64 (x : Int)]).cell 0; rw [World.size_alloc] at this; exact this) (by rw [HK1.out]; omega) (by rw [World.size_alloc, World.size_alloc]; omega) ?_
              intro A3 c3 w6 hN' hK' hOf'
              have hc6 : w6.cell? ⟨wr.heap.size, 1, none⟩ = some (.slice B 512 bc) := by
                have e := hK'.block wr.heap.size (by rw [World.size_alloc, World.size_alloc]; omega) (fun e => by have := HNu.out.lt _ e; omega)
                refine (World.cell?_of_block (a := ⟨wr.heap.size, 1, none⟩) e).trans (((below_new (wr.alloc (.cells #[.int .i64 (x : Int), .slice B 512 bc] 71)) _).cell (p := ⟨wr.heap.size, 1, none⟩) (by show wr.heap.size < _; rw [World.size_alloc]; omega)).trans hq1)
              have HKN := Lib.hid (show KT none w.heap.size [3] (wr.alloc (.cells #[.int .i64 (x : Int), .slice B 512 bc] 71)) w6 from (KT.of_below (below_new _ _) (Nat.le_refl _)).trans (KT.of_keeps_int hK' ((HNu.out.later HWB.out).later (below_new _ _))))
              have hs6 : wr.heap.size + 1 ≤ w6.heap.size := by have := HKN.out.size; rw [World.size_alloc] at this; exact this
              rw [← HTN.out] at hN' ⊢
              have HN' := Lib.hid hN'
              have hl9 : (ints (nums.take (k + 1))).length = k + 1 := by rw [ints_len, List.length_take, HWL.out]; omega
              rw [hl9]
              clear hN' hK' hOf' hl9)
           | (refine wpList_append_data rfl _ _ (by rfl) base a w.heap.size A2 c2 (data.take k) (by rw [HK2.out]; rfl) (((HDt.out.later HWB.out).kt0 HKN.out hbw (by simp) (by simp) (by simp)).later (below_new _ _)) w6.heap.size 1 B bc b (by rfl) (by have := (Is.new w6 42 #[.slice B 512 bc]).cell 0; exact this) H5.out (((HBUF.out.later HWB.out).kt0 HKN.out hbw (by simp) (by simp)).later (below_new _ _)) (by rw [HK2.out]; omega) (by rw [World.size_alloc]; omega) hbw ?_
              intro A4 c4 w7 hDt7 hk7
              rw [← HTD.out] at hDt7 ⊢
              have HDt7 := Lib.hid hDt7
              have hl9 : (data.take (k + 1)).length = k + 1 := by rw [List.length_take, HWL2.out]; omega
              rw [hl9]
              have HK67 := Lib.hid (show KT none w.heap.size [42] w6 w7 from (KT.of_below (below_new w6 (.cells #[.slice B 512 bc] 42)) (Nat.le_refl _)).trans hk7)
              clear hDt7 hl9 hk7)))
      go_roundw
      case rel =>
        refine ⟨k + 1, A3, A4, c3, c4, by omega, by go_num, rfl, rfl, HN'.out.kt HK67.out (by simp), HDt7.out, ?_⟩
        exact HBr.out.trans ((HWB.out.mono hsz).trans ((HKN.out.below (by rw [World.size_alloc]; omega)).trans (HK67.out.below (by omega))))
      case measure => simp [intOf]; omega
    · obtain rfl : ws.length = k := by omega
      have hall : nums.take ws.length = nums := by rw [← HWL.out]; exact List.take_length
      have hall2 : data.take ws.length = data := by rw [← HWL2.out]; exact List.take_length
      rw [hall] at HNu
      rw [hall2] at HDt
      clear hall hall2 HK1 HK2
      go_wp2_with (first
        | (go_at_call 35
           refine (make_any base a w.heap.size w.heap.size A1 c1 nums A2 c2 data ws.length wr HDt.out HWL2.out HNu.out HWL.out HRN2.out (HW.out.below HBr.out HW.out.lt) (HH.out.below HBr.out HH.out.lt)).mono ?_
           rintro e w8 ⟨⟨BH, rfl, hMH⟩, hb8⟩
           have HB8 := Lib.hid (HBr.out.trans (hb8.mono HBr.out.size))
           have HMH := Lib.hid hMH
           have hs8 := HB8.out.size
           clear hMH hb8)
        | (go_at_call 17
           refine (down_any base a d D _ (HD.out.later HB8.out)).mono ?_
           rw [HDN.out]
           rintro e w9 ⟨rfl, rfl⟩))
      obtain ⟨W2, hW2⟩ : ∃ W2, w8.alloc (.cells #[.slice none 0 0] 90) = W2 := ⟨_, rfl⟩
      have hb82 : Below w8.heap.size w8 W2 := by rw [← hW2]; exact below_new _ _
      have hst0 : StepsAt W2 base a w8.heap.size w8.heap.size [] := by rw [← hW2]; exact steps_none _ _ _ _
      have hsp0 : Is W2 w8.heap.size 90 #[.slice none 0 0] := by rw [← hW2]; exact Is.new _ _ _
      have hbw2 : Below w.heap.size w W2 := HB8.out.trans (hb82.mono hs8)
      have hA2 : ∃ cur, Is W2 a 74 cur := by obtain ⟨cur, hi⟩ := HIA.out; exact ⟨cur, hi.below hbw2 hal⟩
      have HMB := Lib.hid (show Buf W2 base (some a) BH (Hd.made nums data) from (Buf.of_mine HMH.out (by obtain ⟨cur, hi⟩ := HIA.out; exact ⟨cur, hi.below HB8.out hal⟩)).later hb82)
      have HHL := Lib.hid (show (Hd.made nums data).length = 512 from Hd.made_length HRN.out.few data)
      rw [HHD.out] at HMB HHL
      have HST0 := Lib.hid hst0
      have HSP0 := Lib.hid hsp0
      have HBW2 := Lib.hid hbw2
      have HA2 := Lib.hid hA2
      have HD2 := Lib.hid (HD.out.later hbw2)
      have HBK2 := Lib.hid (HB.out.later hbw2)
      have hs2 : w8.heap.size + 1 = W2.heap.size := by rw [← hW2, World.size_alloc]
      rw [hW2]
      obtain ⟨sp, hsp⟩ : ∃ sp, w8.heap.size = sp := ⟨_, rfl⟩
      rw [hsp] at HST0 HSP0 hs2 hs8 ⊢
      have hasp : a < sp := by omega
      have hbsp : base ≤ sp := by omega
      have HLW := Lib.hid (show (logW 0 data).length = ws.length by rw [logW_length]; exact HWL2.out)
      clear hb82 hst0 hsp0 hbw2 hA2 hW2 hsp HMH HNu HDt HB8 HBr hsz
      go_loopw [52] (fun u wr => ∃ k : Nat, k ≤ ws.length ∧ u = .int .i64 k ∧ StepsAt wr base a sp sp (((logW 0 data).take k).map some) ∧ KT (some sp) sp stepT W2 wr) (fun u _ => ws.length - (intOf u).toNat)
      case atStart => exact ⟨0, Nat.zero_le _, rfl, HST0.out, KT.refl _ _ _ _⟩
      case round =>
        obtain ⟨k, hk, rfl, hSt, hKT⟩ := hrel
        have HSt := Lib.hid hSt
        have HKT := Lib.hid hKT
        have hszr := hKT.size
        clear hSt hKT
        have HBr := Lib.hid (HBK2.out.ktS HSP0.out HKT.out hbsp (Nat.le_refl _))
        have HAr := Lib.hid (show ∃ cur, Is wr a 74 cur by obtain ⟨cur, hi⟩ := HA2.out; exact ⟨cur, hi.kt HKT.out (.inl hasp)⟩)
        by_cases hlt : k < ws.length
        · have hk0 : (k : Int) < (ws.length : Int) := by omega
          have hk1 : (0 : Int) ≤ (k : Int) := by omega
          obtain ⟨g, B, bc, rfl, cc1, cc2, h5, hbuf⟩ := HBr.out.at_ hlt
          have hdk : data[k]'(by rw [HWL2.out]; exact hlt) = ws[k].2 := by have := HDA.out; subst this; simp
          have hlg : (logW 0 data).take (k + 1) = (logW 0 data).take k ++ [(2 + k, ws[k].2)] := by
            rw [take_snoc (logW 0 data) k (by rw [HLW.out]; exact hlt), logW_get data 0 k (by rw [HLW.out]; exact hlt), hdk, Nat.add_zero]
          have hmm : ((logW 0 data).take (k + 1)).map some = ((logW 0 data).take k).map some ++ [some (2 + k, ws[k].2)] := by rw [hlg, List.map_append]; rfl
          have hsl : (((logW 0 data).take k).map some).length ≤ 100000 := by rw [List.length_map, List.length_take, HLW.out]; omega
          obtain ⟨x, hx⟩ : ∃ x, ws[k].1 = x := ⟨_, rfl⟩
          obtain ⟨b, hb⟩ : ∃ b, ws[k].2 = b := ⟨_, rfl⟩
          rw [hx] at cc1
          rw [hb] at h5 hbuf hmm
          have H5 := Lib.hid h5
          have HBUF := Lib.hid hbuf
          have HMM := Lib.hid hmm
          have HSL := Lib.hid hsl
          have HE2 := Lib.hid (show (2 + (k : Int)) = ((2 + k : Nat) : Int) by omega)
          clear hdk hlg hmm hsl h5 hbuf hx hb
          go_wp2_with (go_at_call 36
                       rw [HE2.out]
                       refine (swrite_any base a sp sp _ (2 + k) B bc b _ (HSt.out.later (below_new _ _)) (by obtain ⟨cur, hi⟩ := HAr.out; exact ⟨cur, hi.below (below_new _ _) hi.lt⟩) hbsp (Nat.le_refl _) (by rw [World.size_alloc]; omega) HSL.out H5.out (HBUF.out.later (below_new _ _))).mono ?_
                       rintro e w9 ⟨rfl, hS9, hk9⟩
                       have HS9 := Lib.hid hS9
                       have HK9 := Lib.hid hk9
                       clear hS9 hk9)
          go_roundw
          case rel => exact ⟨k + 1, by omega, by go_num, by rw [HMM.out]; exact HS9.out, HKT.out.trans ((KT.of_below (below_new _ _) (Nat.le_refl _)).trans HK9.out)⟩
          case measure => simp [intOf]; omega
        · obtain rfl : ws.length = k := by omega
          have hall : (logW 0 data).take ws.length = logW 0 data := by rw [← HLW.out]; exact List.take_length
          rw [hall] at HSt
          have HL0 := Lib.hid (show ((logW 0 data).map some).length ≤ 200 by rw [List.length_map, HLW.out]; omega)
          have HL1 := Lib.hid (show ((logW 0 data).map some ++ [none]).length ≤ 201 by have := HL0.out; rw [List.length_append]; simp only [List.length_singleton]; omega)
          have HL2 := Lib.hid (show ((logW 0 data).map some ++ [none] ++ [some (1, HDR)]).length ≤ 202 by have := HL1.out; rw [List.length_append]; simp only [List.length_singleton]; omega)
          have HL3 := Lib.hid (show ((logW 0 data).map some ++ [none] ++ [some (1, HDR)] ++ [none]).length ≤ 203 by have := HL2.out; rw [List.length_append]; simp only [List.length_singleton]; omega)
          clear hall
          go_wp2_with (first
            | (go_at_call 37
               first
               | (refine (sflush_any base a sp sp _ _ HS3.out hbsp (Nat.le_refl _) hz3 (by have := HL2.out; omega)).mono ?_
                  rintro e w13 ⟨rfl, hS4, hk4⟩
                  have HS4 := Lib.hid hS4
                  have HK4 := Lib.hid (HK3.out.trans hk4)
                  have hz4 := Nat.le_trans hz3 hk4.size
                  clear hS4 hk4)
               | (refine (sflush_any base a sp sp _ _ HSt.out hbsp (Nat.le_refl _) (by omega) (by have := HL0.out; omega)).mono ?_
                  rintro e w11 ⟨rfl, hS2, hk2⟩
                  have HS2 := Lib.hid hS2
                  have HK2 := Lib.hid (HKT.out.trans hk2)
                  have hz2 : sp ≤ w11.heap.size := Nat.le_trans (show sp ≤ wr.heap.size by omega) hk2.size
                  clear hS2 hk2))
            | (go_at_call 36
               refine (swrite_any base a sp sp _ 1 BH 512 HDR _ HS2.out (by obtain ⟨cur, hi⟩ := HA2.out; exact ⟨cur, hi.kt HK2.out (.inl hasp)⟩) hbsp (Nat.le_refl _) hz2 (by have := HL1.out; omega) HHL.out (HMB.out.ktS HSP0.out HK2.out hbsp (Nat.le_refl _))).mono ?_
               rintro e w12 ⟨rfl, hS3, hk3⟩
               have HS3 := Lib.hid hS3
               have HK3 := Lib.hid (HK2.out.trans hk3)
               have hz3 := Nat.le_trans hz2 hk3.size
               clear hS3 hk3)
            | (go_at_call 38
               refine (shome_any base a lb sp sp _ A c ws _ (HBK2.out.ktS HSP0.out HK4.out hbsp (Nat.le_refl _)) HS4.out (by obtain ⟨cur, hi⟩ := HA2.out; exact ⟨cur, hi.kt HK4.out (.inl hasp)⟩) hbsp (Nat.le_refl _) hz4 (by have := HL3.out; omega) (by omega) hasp).mono ?_
               rw [HIW.out]
               rintro e w14 ⟨rfl, hS5, hk5⟩
               obtain ⟨SA, sc, hsI, hsR⟩ := hS5
               have cS : w14.cell? ⟨sp, 0, none⟩ = some (.slice SA (Tx.whole HDR ws).length sc) := hsI.cell 0
               have HSR := Lib.hid hsR
               have HK5 := Lib.hid (HK4.out.trans hk5)
               have hz5 := Nat.le_trans hz4 hk5.size
               clear hsI hsR hk5)
            | (go_at_call 39
               refine (sdo_any base a d sp D (Tx.whole HDR ws) SA sc w14 (HD2.out.ktS HSP0.out HK5.out hbsp) HDN.out HSR.out (HWM.out HDR) (by omega) (by rw [whole_len]; omega)).mono ?_
               rintro e w15 ⟨rfl, hD6, hk6⟩
               have HD6 := Lib.hid hD6
               have HK6 := Lib.hid hk6
               clear hD6 hk6))
          go_ret
          exact ⟨rfl, HD6.out, (KT.of_below (HBW2.out.trans ((HK5.out.below (by omega)).mono (by omega))) (Nat.le_refl _)).trans HK6.out⟩
end Go.Proofs.YtimddchgmocdaaaDoor
