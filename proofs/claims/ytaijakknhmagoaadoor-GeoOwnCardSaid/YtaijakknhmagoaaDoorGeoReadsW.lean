/-
  THE WALK OF GeoReads: a super block is read back; with any of its bytes another one, longer or shorter it is none; what is read of any bytes has them as its super block.
-/
import Derived.Test.YtaijakknhmagoaaDoorGeoM
set_option linter.unusedVariables false
set_option linter.unusedSimpArgs false
namespace Go.Proofs.YtaijakknhmagoaaDoor
open Go.RowKit Rec Gp

/-- a place below 512 -/
theorem made_at (k : Int) (h0 : -9223372036854775808 ≤ k) (h1 : k ≤ 9223372036854775807) : ∃ u a : Nat, IntKind.u64.wrap k = (u : Int) ∧ (u : Int) % 512 = (a : Int) ∧ a < 512 := by
  refine ⟨(k % 18446744073709551616).toNat, (k % 18446744073709551616).toNat % 512, ?_, by omega, by omega⟩
  by_cases h : 0 ≤ k
  · rw [IntWalk.u64_in _ (by omega)]; omega
  · rw [show IntKind.u64.wrap k = k % 18446744073709551616 from rfl]; omega
/-- a byte that is not 0 -/
theorem made_by (k : Int) (h0 : -9223372036854775808 ≤ k) (h1 : k ≤ 9223372036854775807) : ∃ (u v : Nat) (y : UInt8), IntKind.u64.wrap k = (u : Int) ∧ (u : Int) % 255 = (v : Int) ∧ IntKind.u64.wrap (1 + (v : Int)) = 1 + (v : Int) ∧ IntKind.u8.wrap (1 + (v : Int)) = n8 y ∧ y ≠ 0 := by
  refine ⟨(k % 18446744073709551616).toNat, (k % 18446744073709551616).toNat % 255, UInt8.ofNat (1 + (k % 18446744073709551616).toNat % 255), ?_, by omega, ?_, ?_, ?_⟩
  · by_cases h : 0 ≤ k
    · rw [IntWalk.u64_in _ (by omega)]; omega
    · rw [show IntKind.u64.wrap k = k % 18446744073709551616 from rfl]; omega
  · exact IntWalk.u64_in _ (by omega)
  · rw [IntWalk.u8_in _ (by omega)]
    unfold n8
    rw [UInt8.toNat_ofNat']
    omega
  · intro h
    have := congrArg UInt8.toNat h
    rw [UInt8.toNat_ofNat'] at this
    simp at this
    omega
theorem u8_plus (a b : UInt8) : IntKind.u8.wrap (n8 a + n8 b) = n8 (a + b) := by
  rw [show IntKind.u8.wrap (n8 a + n8 b) = (n8 a + n8 b) % 256 from rfl]
  unfold n8
  rw [UInt8.toNat_add]
  omega
theorem plus_ne (x y : UInt8) (h : y ≠ 0) : x ≠ x + y := by
  intro e
  apply h
  have : x + 0 = x + y := by rw [UInt8.add_zero]; exact e
  exact ((UInt8.add_right_inj x).1 this).symm
theorem read_turned (n : Nat) (hn : Disk n) (a : Nat) (ha : a < 512) (x y : UInt8) (hx : (superL n)[a]'(by rw [superL_length]; exact ha) = x) (hy : y ≠ 0) : readV ((superL n).set a (x + y)) = 0 ∧ readE ((superL n).set a (x + y)) = 71 :=
  read_bad _ (by rw [List.length_set, superL_length]) (turned_bad n hn a ha (x + y) (by rw [hx]; exact plus_ne x y hy))
theorem read_short (l : List UInt8) (h : l.length ≠ 512) : readV l = 0 ∧ readE l = 32 := by
  unfold readV readE; rw [if_neg h, if_neg h]; exact ⟨rfl, rfl⟩

set_option maxRecDepth 100000 in
set_option maxHeartbeats 6400000 in
theorem reads_any (k t0 t1 : Int) (B : Option Addr) (cb : Nat) (l : List UInt8) (w : World) (hw : WidthsAt w) (hh : HalfAt w) (hB : Bytes w B l) (hnil : B = none → cb = 0) (hl : l.length ≤ 140737488355328)
    (hk0 : -9223372036854775808 ≤ k) (hk1 : k ≤ 9223372036854775807) (h00 : -9223372036854775808 ≤ t0) (h01 : t0 ≤ 9223372036854775807) (h10 : -9223372036854775808 ≤ t1) (h11 : t1 ≤ 9223372036854775807) :
    Calls Tryd.prog 4 #[.int .i64 k, .agg #[.int .i64 t0, .int .i64 t1], .slice B l.length cb] w fun e w' => e = .returned (.bool true) ∧ Below w.heap.size w w' := by
  obtain ⟨u, m, n, hu, hum, hmb, hn, hd⟩ := made_num k hk0 hk1
  obtain ⟨u0, a, hu0, hua, ha⟩ := made_at t0 h00 h01
  obtain ⟨u1, v, y, hu1, huv, hw1, hy, hyn⟩ := made_by t1 h10 h11
  have hmn : 128 + (m : Int) = (n : Int) := by omega
  have hn1 : 128 ≤ (n : Int) := hd.1
  have hn2 : (n : Int) ≤ 16384 := hd.2
  obtain ⟨x, hx⟩ : ∃ x, (superL n)[a]'(by rw [superL_length]; exact ha) = x := ⟨_, rfl⟩
  have HT := Lib.hid (read_turned n hd a ha x y hx hyn)
  have hR := read_super n hd
  have hux := u8_plus x y
  have ha0 : (a : Int) < 512 := by omega
  obtain ⟨hbn, hin⟩ := one_new w #[.int .i64 t0, .int .i64 t1] 33
  have HX := Lib.hid hx
  have HI := Lib.hid hin
  have HBn := Lib.hid hbn
  have HW := Lib.hid (hw.below hbn hw.lt)
  have HH := Lib.hid (hh.below hbn hh.lt)
  have hgw := hw.lt
  have hgh := hh.lt
  have HB := Lib.hid (hB.later hbn)
  have HN := Lib.hid hnil
  have HD := Lib.hid hd
  have HR := Lib.hid hR
  have HA := Lib.hid ha
  clear hw hh hd hn hB hnil hR hin hbn hx
  go_enter Tryd.func4, Tryd.ntmps4
  go_wp2_with fail
  refine (known_any _ HW.out HH.out).mono ?_
  rintro e w1 ⟨rfl, hb⟩
  have HW1 := Lib.hid (HW.out.below hb HW.out.lt)
  have HH1 := Lib.hid (HH.out.below hb HH.out.lt)
  have HB1 := Lib.hid (HB.out.later hb)
  have HI1 := Lib.hid (HI.out.below hb HI.out.lt)
  have HBn1 := Lib.hid (HBn.out.trans (hb.mono HBn.out.size))
  clear hb HW HH HB HI HBn
  go_wp2_with fail
  refine (super_full n _ HD.out HW1.out HH1.out).mono ?_
  rintro e w2 ⟨g2, rfl, hm2, hb⟩
  have HM2 := Lib.hid (hm2.base_le HBn1.out.size)
  have HW2 := Lib.hid (HW1.out.below hb HW1.out.lt)
  have HH2 := Lib.hid (HH1.out.below hb HH1.out.lt)
  have HB2 := Lib.hid (HB1.out.later hb)
  have HI2 := Lib.hid (HI1.out.below hb HI1.out.lt)
  have HBn2 := Lib.hid (HBn1.out.trans (hb.mono HBn1.out.size))
  clear hb hm2 HW1 HH1 HB1 HI1 HBn1
  go_wp2_with fail
  refine (geo_read_any _ _ (superL n) 512 (superL_length n) _ HW2.out HH2.out HM2.out.bytes (by decide)).mono ?_
  rintro e w3 ⟨rfl, hb⟩
  rw [HR.out.1, HR.out.2]
  have HM3 := Lib.hid (HM2.out.later hb)
  have HW3 := Lib.hid (HW2.out.below hb HW2.out.lt)
  have HH3 := Lib.hid (HH2.out.below hb HH2.out.lt)
  have HB3 := Lib.hid (HB2.out.later hb)
  have HI3 := Lib.hid (HI2.out.below hb HI2.out.lt)
  have HBn3 := Lib.hid (HBn2.out.trans (hb.mono HBn2.out.size))
  have hs3 := HBn3.out.size
  clear hb HM2 HW2 HH2 HB2 HI2 HBn2
  go_wp2_with (first
    | (go_at_call 11; refine (num_any _ _).mono ?_; rintro e w' ⟨rfl, rfl⟩)
    | (at_builtin; refine wpList_append_u8 rfl (.tmp 62) (.tmp 63) rfl w3.heap.size (some ⟨w3.heap.size, 0, none⟩) 0 [] rfl (Mine.empty w3 (Nat.le_refl _)) (some ⟨g2, 0, none⟩) 512 (superL n) (by rw [superL_length]; rfl) (fun h => by cases h) (HM3.out.later (below_new w3 _)).bytes (by rw [superL_length]; decide) (by simp) ?_; intro A4 c4 w4 hm4 hg4 hb4; rw [show (([] : List UInt8) ++ superL n).length = 512 from superL_length n]))
  have hm4 : Mine w4 w3.heap.size A4 c4 (superL n) := hm4
  have hb : Below w3.heap.size w3 w4 := (below_new w3 (.cells #[] 5)).trans hb4
  obtain ⟨g4, rfl, hg4a, hg4b⟩ := hm4.form (by rw [superL_length]; decide)
  have HM4 := Lib.hid hm4
  have hI4 := HI3.out.below hb HI3.out.lt
  have i0 : w4.cell? ⟨w.heap.size, 0, none⟩ = some (.int .i64 t0) := hI4.cell 0
  have i1 : w4.cell? ⟨w.heap.size, 1, none⟩ = some (.int .i64 t1) := hI4.cell 1
  have HS3 := Lib.hid hs3
  have hx4 : w4.cell? ⟨g4, a, none⟩ = some (.int .u8 (n8 x)) := by rw [← HX.out]; exact hm4.cell (by rw [superL_length]; exact HA.out)
  have hf4 := hm4.free a
  have HV4 := Lib.hid hb
  have HGE := Lib.hid hg4a
  clear hb HI3 hI4 hg4 hb4 hm4 hg4a hg4b
  go_wp2_with fail
  go_quiet (fail)
  go_wp2_with fail
  obtain ⟨w5, hw5⟩ : ∃ w5, (w4.drewN nq).setCell ⟨g4, a, none⟩ (Value.int IntKind.u8 (n8 (x + y))) = w5 := ⟨_, rfl⟩
  rw [hw5]
  have hm5 : Mine w5 w3.heap.size (some ⟨g4, 0, none⟩) c4 ((superL n).set a (x + y)) := by rw [← hw5]; exact (HM4.out.drewN nq).put a (x + y)
  have hb5 : Below w3.heap.size w3 w5 := by rw [← hw5]; exact (below_drewN HV4.out nq).setCell (p := ⟨g4, a, none⟩) HGE.out _
  have HLc := Lib.hid (show ((superL n).set a (x + y)).length = 512 by rw [List.length_set, superL_length])
  clear i0 i1 hx4 hf4 hw5 HM4 HV4
  refine (geo_read_any _ _ ((superL n).set a (x + y)) 512 HLc.out _ (HW3.out.below hb5 HW3.out.lt) (HH3.out.below hb5 HH3.out.lt) hm5.bytes (by decide)).mono ?_
  rintro e w6 ⟨rfl, hb⟩
  rw [HT.out.1, HT.out.2]
  have hb6 : Below w3.heap.size w3 w6 := hb5.trans (hb.mono hb5.size)
  clear hb hb5 hm5
  go_wp2_with fail
  have hlt : ((superL n).take a).length = a := by rw [List.length_take, superL_length]; have := HA.out; omega
  refine (geo_read_any _ _ ((superL n).take a) a hlt _ (HW3.out.below hb6 HW3.out.lt) (HH3.out.below hb6 HH3.out.lt) ((HM3.out.later hb6).bytes.take a) (by have := HA.out; omega)).mono ?_
  rintro e w7 ⟨rfl, hb⟩
  rw [(read_short _ (show ((superL n).take a).length ≠ 512 by have := HA.out; omega)).1, (read_short _ (show ((superL n).take a).length ≠ 512 by have := HA.out; omega)).2]
  have hb7 : Below w3.heap.size w3 w7 := hb6.trans (hb.mono hb6.size)
  clear hb hb6 hlt
  go_wp2_with (first
    | (at_builtin; refine wpList_append_u8 rfl (.tmp 98) (.tmp 99) rfl w7.heap.size (some ⟨w7.heap.size, 0, none⟩) 0 [] rfl (Mine.empty w7 (Nat.le_refl _)) (some ⟨g2, 0, none⟩) 512 (superL n) (by rw [superL_length]; rfl) (fun h => by cases h) ((HM3.out.later hb7).later (below_new w7 _)).bytes (by rw [superL_length]; decide) (by simp) ?_; intro A8 c8 w8 hm8 hg8 hb8; rw [show (([] : List UInt8) ++ superL n).length = 512 from superL_length n]; have hm8 : Mine w8 w7.heap.size A8 c8 (superL n) := hm8; have hb78 := (below_new w7 (.cells #[] 5)).trans hb8; have hs78 := hb78.size)
    | (at_builtin; refine wpList_append_u8 rfl (.tmp 100) (.tmp 102) rfl w7.heap.size A8 c8 (superL n) (by rw [superL_length]; rfl) (hm8.later (below_new w8 _)) (some ⟨w8.heap.size, 0, none⟩) 1 [y] rfl (fun h => by cases h) (bytes_new w8 5 (0, 0) [y]) (by rw [superL_length]; simp) (by simp; omega) ?_; intro A9 c9 w9 hm9 hg9 hb9; rw [show (superL n ++ [y]).length = 513 by rw [List.length_append, superL_length]; rfl]; have hb79 := hb78.trans (((below_new w8 (.cells #[Value.int .u8 (n8 y)] 5)).mono hs78).trans hb9); have hb9 := hb7.trans (hb79.mono hb7.size)))
  have hm9 : Mine w9 w7.heap.size A9 c9 (superL n ++ [y]) := hm9
  have hL9 : (superL n ++ [y]).length = 513 := by rw [List.length_append, superL_length]; rfl
  refine (geo_read_any _ _ (superL n ++ [y]) 513 hL9 _ (HW3.out.below hb9 HW3.out.lt) (HH3.out.below hb9 HH3.out.lt) hm9.bytes (by decide)).mono ?_
  rintro e w10 ⟨rfl, hb⟩
  rw [(read_short (superL n ++ [y]) (by rw [hL9]; decide)).1, (read_short (superL n ++ [y]) (by rw [hL9]; decide)).2]
  have hb10 : Below w3.heap.size w3 w10 := hb9.trans (hb.mono hb9.size)
  clear hb hb9 hm9 hL9 hm8 hb78 hs78 hb79 hb8 hg8 hg9 hb7
  go_wp2_with (go_at_call 11; refine (num_any _ _).mono ?_; rintro e w' ⟨rfl, rfl⟩)
  refine (geo_read_any B cb l l.length rfl _ (HW3.out.below hb10 HW3.out.lt) (HH3.out.below hb10 HH3.out.lt) (HB3.out.later hb10) (by omega)).mono ?_
  rintro e w11 ⟨rfl, hb⟩
  have hb11 : Below w3.heap.size w3 w11 := hb10.trans (hb.mono hb10.size)
  have HF := Lib.hid (HBn3.out.trans (hb11.mono HS3.out))
  by_cases h5 : l.length = 512
  · by_cases hg : good l = true
    · obtain ⟨e1, e2⟩ := read_good l h5 hg
      rw [e1, e2]
      unfold good at hg
      simp only [Bool.and_eq_true, decide_eq_true_eq] at hg
      obtain ⟨g1, g2'⟩ := hg
      have HG1 := Lib.hid g1
      have HG2 := Lib.hid g2'
      obtain ⟨q, hq⟩ : ∃ q, numOf l = q := ⟨_, rfl⟩
      rw [hq] at HG1 HG2 ⊢
      clear e1 e2 g1 g2' hb
      go_wp2_with (first
        | (go_at_call 11; refine (num_any _ _).mono ?_; rintro e w' ⟨rfl, rfl⟩)
        | (go_at_call 10; refine (super_full q _ HG1.out (HW3.out.below hb11 HW3.out.lt) (HH3.out.below hb11 HH3.out.lt)).mono ?_; rintro e w12 ⟨g12, rfl, hm12, hb12⟩; have s1 := str_any w12 (some ⟨g12, 0, none⟩) 512 (superL q) hm12.bytes 512 (superL_length q); rw [HG2.out] at s1; have s2 := str_any w12 B cb l ((HB3.out.later hb11).later hb12) 512 h5; have HF2 := Lib.hid (HF.out.trans (hb12.mono HF.out.size))))
      go_ret
      exact ⟨rfl, HF2.out⟩
    · have hg' : good l = false := by simpa using hg
      rw [(read_bad l h5 hg').1, (read_bad l h5 hg').2]
      rw [h5]
      clear hg hg'
      go_wp2_with (go_at_call 11; refine (num_any _ _).mono ?_; rintro e w' ⟨rfl, rfl⟩)
      go_ret
      exact ⟨rfl, HF.out⟩
  · rw [(read_short l h5).1, (read_short l h5).2]
    have hne : ((l.length : Int) != 512) = true := by rw [bne_iff_ne]; omega
    clear h5
    go_wp2_with (go_at_call 11; refine (num_any _ _).mono ?_; rintro e w' ⟨rfl, rfl⟩)
    go_ret
    exact ⟨rfl, HF.out⟩
end Go.Proofs.YtaijakknhmagoaaDoor
