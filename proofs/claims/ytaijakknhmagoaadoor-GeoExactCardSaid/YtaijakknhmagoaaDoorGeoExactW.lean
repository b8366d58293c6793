/-
  THE WALK OF GeoExact: of any numbers and bytes each answer is the document's; the bytes stay.
-/
import Derived.Test.YtaijakknhmagoaaDoorGeoR3
import Derived.Test.YtaijakknhmagoaaDoorGeoK
set_option linter.unusedVariables false
set_option linter.unusedSimpArgs false
namespace Go.Proofs.YtaijakknhmagoaaDoor
open Go.RowKit Rec Gp

/-- a slice of bytes as the loop takes it -/
def Sliced (w : World) (X : Option Addr) (cx : Nat) (lx : List UInt8) : Prop := Bytes w X lx ∧ (X = none → cx = 0) ∧ lx.length ≤ 140737488351232
theorem Sliced.later {w w2 : World} {X : Option Addr} {cx : Nat} {lx : List UInt8} (h : Sliced w X cx lx) (hb : Below w.heap.size w w2) : Sliced w2 X cx lx := ⟨h.1.later hb, h.2⟩
theorem Is.later {w w2 : World} {g : Nat} {t : TypeId} {cs : Array Value} (h : Is w g t cs) (hb : Below w.heap.size w w2) : Is w2 g t cs := h.below hb h.lt
def pairCells (B T : Option Addr) (lb lt cb ct : Nat) : Array Value := #[.slice B lb cb, .slice T lt ct]
theorem pair_at {w : World} {g : Nat} {B T : Option Addr} {cb ct : Nat} {l t : List UInt8} (h : Is w g 28 (pairCells B T l.length t.length cb ct)) (hX : Sliced w B cb l ∧ Sliced w T ct t) (k : Nat) (hk : k < 2) :
    ∃ X cx lx, w.cell? ⟨g, k, none⟩ = some (.slice X lx.length cx) ∧ Bytes w X lx ∧ (X = none → cx = 0) ∧ lx.length ≤ 140737488351232 := by
  rcases k with _ | _ | k
  · exact ⟨B, cb, l, h.cell 0, hX.1⟩
  · exact ⟨T, ct, t, h.cell 1, hX.2⟩
  · omega
/-- what lies below B and is none of the row's block lies as it lay -/
theorem below_own {w w2 : World} {A : Option Addr} {n c B : Nat} (hB : B ≤ w.heap.size) (hA : A = none ∨ ∃ g, A = some ⟨g, 0, none⟩ ∧ B ≤ g) (hg : w.grownBy w2 (Value.slice A n c).ownBlock) : Below B w w2 :=
  (Below.refl _ _).grown hg hB (by
    intro k hk
    rcases hA with rfl | ⟨g, rfl, h⟩
    · cases hk
    · injection hk with hk
      have hk : g = k := hk
      omega)

theorem sizeInt : (Tryd.prog.types[3]?).map (·.size) = some 1 := by kernel_rfl
theorem size_int (h : 3 < Tryd.prog.types.size) : (Tryd.prog.types[3]'h).size = 1 := by
  have := sizeInt
  rw [Array.getElem?_eq_getElem h] at this
  exact Option.some.inj this
theorem run_index2 (w : World) (v0 v1 : Int) (k : Nat) (hk : k < 2) : (Instr.index 33 (.agg #[.int .i64 v0, .int .i64 v1]) (.int .i64 (k : Int))).run Tryd.prog w = .ok (.int .i64 (if k = 0 then v0 else v1)) w := by
  have hs : (sizeOf 3).run Tryd.prog w = .ok 1 w := by simp [go_sem]
  rcases (show k = 0 ∨ k = 1 by omega) with rfl | rfl
  · simp [Instr.index, go_sem, hs]
  · simp [Instr.index, go_sem, hs]
/-- a[k] of an array of two integers -/
theorem wpList_index2 {ops : Array Oper} {rest : List Oper} {o : Oper} {a : Act} {w : World} {Q : Exit → Act → World → Prop} (hgd : o.guard = none) (x y : Operand) (ho : o.op = .index 33 x y)
    (v0 v1 : Int) (k : Nat) (hk : k < 2) (v : Int) (hv : (if k = 0 then v0 else v1) = v) (hx : a.eval x = .agg #[.int .i64 v0, .int .i64 v1]) (hy : a.eval y = .int .i64 (k : Int))
    (h : wpList Tryd.prog ops Q rest (a.put o.dst (.int .i64 v)) w) : wpList Tryd.prog ops Q (o :: rest) a w := by
  refine wpList_plain hgd fun K hK => ?_
  have hrun := run_index2 w v0 v1 k hk
  rw [hv] at hrun
  unfold Oper.wp
  simp [execOp, ho, hx, hy, hrun, Result.andThen]
  exact hK _ _ h
set_option maxRecDepth 100000 in
set_option maxHeartbeats 6400000 in
theorem exact_bad (n t0 t1 : Int) (B : Option Addr) (cb : Nat) (l : List UInt8) (w : World) (hw : WidthsAt w) (hh : HalfAt w) (hB : Sliced w B cb l) (hd : ¬ Disk n) :
    Calls Tryd.prog 6 #[.int .i64 n, .slice B l.length cb, .agg #[.int .i64 t0, .int .i64 t1]] w fun e w' => e = .returned (.bool true) ∧ Below w.heap.size w w' := by
  have HW := Lib.hid hw
  have HH := Lib.hid hh
  have hgw := hw.lt
  have hgh := hh.lt
  have HD := Lib.hid hd
  have HSB := Lib.hid hB
  obtain ⟨hb0, i0⟩ := one_new w #[.int .i64 t0, .int .i64 t1] 33
  have HB0 := Lib.hid hb0
  have HI0 := Lib.hid i0
  clear hw hh hd hB hb0 i0
  go_enter Tryd.func6, Tryd.ntmps6
  go_wp2_with fail
  refine (known_any _ (HW.out.below HB0.out hgw) (HH.out.below HB0.out hgh)).mono ?_
  rintro e w1 ⟨rfl, hb⟩
  have HI1 := Lib.hid (HI0.out.later hb)
  have HB1 := Lib.hid (HB0.out.trans (hb.mono HB0.out.size))
  clear hb
  go_wp2_with fail
  refine (geo_of_bad n _ HD.out).mono ?_
  rintro e w2 ⟨rfl, hb⟩
  unfold noCells
  obtain ⟨hbn, hgn⟩ := one_new w2 #[.int .i64 0, .int .i64 0, .int .i64 0, .int .i64 0, .int .i64 0] 24
  have hx := hb.trans (hbn.mono hb.size)
  have HG7a := Lib.hid hgn
  have HI2 := Lib.hid (HI1.out.later hx)
  have HB2 := Lib.hid (HB1.out.trans (hx.mono HB1.out.size))
  clear hb hbn hgn hx
  go_wp2_with fail
  refine (ref_of_bad n _ HD.out).mono ?_
  rintro e w3 ⟨rfl, hb⟩
  unfold noCells
  obtain ⟨hbn, hgn⟩ := one_new w3 #[.int .i64 0, .int .i64 0, .int .i64 0, .int .i64 0, .int .i64 0] 24
  have hx := hb.trans (hbn.mono hb.size)
  have HG9a := Lib.hid hgn
  have HG7b := Lib.hid (HG7a.out.later hx)
  have HI3 := Lib.hid (HI2.out.later hx)
  have HB3 := Lib.hid (HB2.out.trans (hx.mono HB2.out.size))
  clear hb hbn hgn hx
  go_wp2_with fail
  refine (super_bad n _ HD.out).mono ?_
  rintro e w4 ⟨rfl, hb⟩
  have HG9b := Lib.hid (HG9a.out.later hb)
  have HG7c := Lib.hid (HG7b.out.later hb)
  have HI4 := Lib.hid (HI3.out.later hb)
  have HB4 := Lib.hid (HB3.out.trans (hb.mono HB3.out.size))
  clear hb
  go_wp2_with fail
  refine (ref_super_bad n _ HD.out).mono ?_
  rintro e w5 ⟨rfl, hb⟩
  have HG9c := Lib.hid (HG9b.out.later hb)
  have HG7d := Lib.hid (HG7c.out.later hb)
  have HI5 := Lib.hid (HI4.out.later hb)
  have HB5 := Lib.hid (HB4.out.trans (hb.mono HB4.out.size))
  clear hb
  have x0 : w5.cell? ⟨w2.heap.size, 0, none⟩ = some (.int .i64 0) := HG7d.out.cell 0
  have x1 : w5.cell? ⟨w2.heap.size, 1, none⟩ = some (.int .i64 0) := HG7d.out.cell 1
  have x2 : w5.cell? ⟨w2.heap.size, 2, none⟩ = some (.int .i64 0) := HG7d.out.cell 2
  have x3 : w5.cell? ⟨w2.heap.size, 3, none⟩ = some (.int .i64 0) := HG7d.out.cell 3
  have x4 : w5.cell? ⟨w2.heap.size, 4, none⟩ = some (.int .i64 0) := HG7d.out.cell 4
  have y0 : w5.cell? ⟨w3.heap.size, 0, none⟩ = some (.int .i64 0) := HG9c.out.cell 0
  have y1 : w5.cell? ⟨w3.heap.size, 1, none⟩ = some (.int .i64 0) := HG9c.out.cell 1
  have y2 : w5.cell? ⟨w3.heap.size, 2, none⟩ = some (.int .i64 0) := HG9c.out.cell 2
  have y3 : w5.cell? ⟨w3.heap.size, 3, none⟩ = some (.int .i64 0) := HG9c.out.cell 3
  have y4 : w5.cell? ⟨w3.heap.size, 4, none⟩ = some (.int .i64 0) := HG9c.out.cell 4
  have s1 := str_any w5 none 0 [] (.inl rfl) 0 rfl
  go_wp2_with fail
  obtain ⟨hbp, hip⟩ := one_new w5 (pairCells B none l.length ([] : List UInt8).length cb 0) 28
  have HIp := Lib.hid hip
  have HG7 := Lib.hid (HG7d.out.later hbp)
  have HG9 := Lib.hid (HG9c.out.later hbp)
  have HG5 := Lib.hid (HI5.out.later hbp)
  have HB := Lib.hid (HB5.out.trans (hbp.mono HB5.out.size))
  have HX := Lib.hid (And.intro (HSB.out.later HB.out) (show Sliced (w5.alloc (.cells (pairCells B none l.length ([] : List UInt8).length cb 0) 28)) none 0 [] from ⟨.inl rfl, fun _ => rfl, Nat.zero_le _⟩))
  clear hbp hip x0 x1 x2 x3 x4 y0 y1 y2 y3 y4 s1 HG7d HG9c HI5 HB5 HG7c HG9b HI4 HB4 HG7b HG9a HG7a HI3 HB3 HI2 HB2 HI1 HB1 HB0 HI0
  go_loopw [76] (fun i wr => ∃ k : Nat, k ≤ 2 ∧ i = .int .i64 k ∧ Is wr w5.heap.size 28 (pairCells B none l.length ([] : List UInt8).length cb 0) ∧ Is wr w2.heap.size 24 #[.int .i64 0, .int .i64 0, .int .i64 0, .int .i64 0, .int .i64 0] ∧ Is wr w3.heap.size 24 #[.int .i64 0, .int .i64 0, .int .i64 0, .int .i64 0, .int .i64 0] ∧ Is wr w.heap.size 33 #[.int .i64 t0, .int .i64 t1] ∧ Below w.heap.size w wr ∧ (Sliced wr B cb l ∧ Sliced wr none 0 ([] : List UInt8))) (fun i _ => 2 - (intOf i).toNat)
  case atStart => exact ⟨0, by omega, rfl, HIp.out, HG7.out, HG9.out, HG5.out, HB.out, HX.out⟩
  case round =>
    obtain ⟨k, hk, rfl, hI, hG7, hG9, hG5, hB, hX⟩ := hrel
    have HI := Lib.hid hI
    have HG7 := Lib.hid hG7
    have HG9 := Lib.hid hG9
    have HG5 := Lib.hid hG5
    have HB := Lib.hid hB
    have HX := Lib.hid hX
    have hBs := hB.size
    obtain ⟨wk, rfl⟩ : ∃ wk : World, wk = wr := ⟨_, rfl⟩
    by_cases hk2 : k < 2
    · obtain ⟨X, cx, lx, hc, hbx, hnx, hlx⟩ := pair_at hI hX k hk2
      obtain ⟨len, hlen⟩ : ∃ len, lx.length = len := ⟨_, rfl⟩
      rw [hlen] at hc hlx
      have HL := Lib.hid hlen
      have HBX := Lib.hid hbx
      have HNX := Lib.hid hnx
      have hk20 : (k : Int) < 2 := by omega
      clear hI hG7 hG9 hG5 hB hX hbx hnx hlen
      go_wp2_with (first
        | (at_builtin; refine wpList_append_u8 rfl (.tmp 80) (.tmp 81) rfl wk.heap.size (some ⟨wk.heap.size, 0, none⟩) 0 [] rfl (Mine.empty wk (Nat.le_refl _)) X cx lx (by rw [HL.out]; rfl) HNX.out (HBX.out.later (below_new wk _)) (by rw [HL.out]; simp; omega) (by simp) ?_; intro A2 c2 w2 hm2 hg2 hb2; rw [show (([] : List UInt8) ++ lx).length = len from HL.out]; have hm2 : Mine w2 wk.heap.size A2 c2 lx := hm2; have HM2 := Lib.hid hm2; have HX2 := Lib.hid ((below_new wk (.cells #[] 5)).trans hb2); clear hm2 hg2 hb2)
        | (at_builtin; refine wpList_append_u8 rfl (.tmp 82) (.tmp 83) rfl wk.heap.size A2 c2 lx (by rw [HL.out]; rfl) (HM2.out.later (below_new w2 _)) (some ⟨w2.heap.size, 0, none⟩) 1 [71] rfl (fun h => by cases h) (bytes_new w2 5 (0, 0) [71]) (by rw [HL.out]; simp; omega) (by have := HX2.out.size; simp; omega) ?_; intro A3 c3 w3 hm3 hg3 hb3; rw [show (lx ++ ([71] : List UInt8)).length = len + 1 by rw [List.length_append, HL.out]; rfl]; obtain ⟨g3, rfl, hg3a, hg3b⟩ := hm3.form (by simp); have HM3 := Lib.hid hm3; have HX3 := Lib.hid (HX2.out.trans (((below_new w2 (.cells #[Value.int .u8 71] 5)).mono HX2.out.size).trans hb3)); have hc3 : len + 1 ≤ c3 := (by have := hm3.cap_le.1; rw [List.length_append, HL.out] at this; exact this); have hc30 : len ≤ c3 := (by omega); clear hm3 hg3 hb3)
        | (go_at_call 12; refine (geo_read_any (some ⟨g3, 0, none⟩) c3 lx len HL.out _ (HW.out.below (HB.out.trans (HX3.out.mono hBs)) hgw) (HH.out.below (HB.out.trans (HX3.out.mono hBs)) hgh) HM3.out.head (by omega)).mono ?_; rintro e w4 ⟨rfl, hb4⟩; have HX4 := Lib.hid (HX3.out.trans (hb4.mono HX3.out.size)); have HM4 := Lib.hid (HM3.out.later hb4); clear hb4)
        | (go_at_call 15; refine (ref_read_any X cx lx len HL.out _ (HBX.out.later HX4.out) (by omega)).mono ?_; rintro e w5 ⟨rfl, hb5⟩; have HX5 := Lib.hid (HX4.out.trans (hb5.mono HX4.out.size)); have HM5 := Lib.hid (HM4.out.later hb5); clear hb5))
      have hs1 := fun q : Nat => str_any (w5.drewN q) (some ⟨g3, 0, none⟩) c3 lx (HM5.out.drewN q).head len HL.out
      have hs2 := fun q : Nat => str_any (w5.drewN q) X cx lx ((HBX.out.later HX5.out).drewN q) len HL.out
      have h71 : w5.cell? ⟨g3, len, none⟩ = some (.int .u8 (n8 71)) := by
        have := HM5.out.cell (k := len) (by rw [List.length_append, HL.out]; simp)
        rw [this]
        simp [← HL.out]
      have hn71 : (n8 71 != 71) = false := by decide
      have hl1 : (len : Int) < (len : Int) + 1 := by omega
      have hl2 : (len : Int) ≤ (c3 : Int) := by omega
      generalize readV lx = V at *
      generalize readE lx = E at *
      go_quiet (fail)
      go_wp2_with fail
      have hx6 := below_drewN HX5.out nq
      go_roundw
      case rel => exact ⟨k + 1, by omega, by go_num, (HI.out.later hx6), (HG7.out.later hx6), (HG9.out.later hx6), (HG5.out.later hx6), HB.out.trans (hx6.mono hBs), (HX.out.1.later hx6), (HX.out.2.later hx6)⟩
      case measure => simp [intOf]; omega
    · obtain rfl : k = 2 := by omega
      rw [show ((2 : Nat) : Int) = 2 from rfl]
      go_wp2_with (go_at_call 11; refine (num_any _ _).mono ?_; rintro e w' ⟨rfl, rfl⟩)
      go_ret
      exact ⟨rfl, HB.out⟩

set_option maxRecDepth 100000 in
set_option maxHeartbeats 6400000 in
theorem exact_ok (n : Nat) (t0 t1 : Int) (B : Option Addr) (cb : Nat) (l : List UInt8) (w : World) (hw : WidthsAt w) (hh : HalfAt w) (hB : Sliced w B cb l) (hd : Disk n) :
    Calls Tryd.prog 6 #[.int .i64 (n : Int), .slice B l.length cb, .agg #[.int .i64 t0, .int .i64 t1]] w fun e w' => e = .returned (.bool true) ∧ Below w.heap.size w w' := by
  have HW := Lib.hid hw
  have HH := Lib.hid hh
  have hgw := hw.lt
  have hgh := hh.lt
  have HD := Lib.hid hd
  have HSB := Lib.hid hB
  obtain ⟨hb0, i0⟩ := one_new w #[.int .i64 t0, .int .i64 t1] 33
  have HB0 := Lib.hid hb0
  have HI0 := Lib.hid i0
  clear hw hh hd hB hb0 i0
  go_enter Tryd.func6, Tryd.ntmps6
  go_wp2_with fail
  refine (known_any _ (HW.out.below HB0.out hgw) (HH.out.below HB0.out hgh)).mono ?_
  rintro e w1 ⟨rfl, hb⟩
  have HI1 := Lib.hid (HI0.out.later hb)
  have HB1 := Lib.hid (HB0.out.trans (hb.mono HB0.out.size))
  clear hb
  go_wp2_with fail
  refine (geo_of_ok n _ HD.out).mono ?_
  rintro e w2 ⟨rfl, hb⟩
  unfold geoCells
  obtain ⟨hbn, hgn⟩ := one_new w2 #[.int .i64 (n : Int), .int .i64 98, .int .i64 (ino n : Int), .int .i64 (dat n : Int), .int .i64 (cnt n : Int)] 24
  have hx := hb.trans (hbn.mono hb.size)
  have HG7a := Lib.hid hgn
  have HI2 := Lib.hid (HI1.out.later hx)
  have HB2 := Lib.hid (HB1.out.trans (hx.mono HB1.out.size))
  clear hb hbn hgn hx
  go_wp2_with fail
  refine (ref_of_ok n _ HD.out).mono ?_
  rintro e w3 ⟨rfl, hb⟩
  unfold geoCells
  obtain ⟨hbn, hgn⟩ := one_new w3 #[.int .i64 (n : Int), .int .i64 98, .int .i64 (ino n : Int), .int .i64 (dat n : Int), .int .i64 (cnt n : Int)] 24
  have hx := hb.trans (hbn.mono hb.size)
  have HG9a := Lib.hid hgn
  have HG7b := Lib.hid (HG7a.out.later hx)
  have HI3 := Lib.hid (HI2.out.later hx)
  have HB3 := Lib.hid (HB2.out.trans (hx.mono HB2.out.size))
  clear hb hbn hgn hx
  go_wp2_with fail
  refine (super_ok n _ HD.out (HW.out.below HB3.out hgw) (HH.out.below HB3.out hgh)).mono ?_
  rintro e w4 ⟨g4, c4, rfl, hm4, hb⟩
  have HM4 := Lib.hid hm4
  clear hm4
  have HG9b := Lib.hid (HG9a.out.later hb)
  have HG7c := Lib.hid (HG7b.out.later hb)
  have HI4 := Lib.hid (HI3.out.later hb)
  have HB4 := Lib.hid (HB3.out.trans (hb.mono HB3.out.size))
  clear hb
  go_wp2_with fail
  refine (ref_super_ok n _ HD.out).mono ?_
  rintro e w5 ⟨gt, ct, rfl, hm5, hb⟩
  have HM5 := Lib.hid hm5
  have HM45 := Lib.hid (HM4.out.later hb)
  clear hm5
  have HG9c := Lib.hid (HG9b.out.later hb)
  have HG7d := Lib.hid (HG7c.out.later hb)
  have HI5 := Lib.hid (HI4.out.later hb)
  have HB5 := Lib.hid (HB4.out.trans (hb.mono HB4.out.size))
  clear hb
  have x0 : w5.cell? ⟨w2.heap.size, 0, none⟩ = some (.int .i64 (n : Int)) := HG7d.out.cell 0
  have x1 : w5.cell? ⟨w2.heap.size, 1, none⟩ = some (.int .i64 98) := HG7d.out.cell 1
  have x2 : w5.cell? ⟨w2.heap.size, 2, none⟩ = some (.int .i64 (ino n : Int)) := HG7d.out.cell 2
  have x3 : w5.cell? ⟨w2.heap.size, 3, none⟩ = some (.int .i64 (dat n : Int)) := HG7d.out.cell 3
  have x4 : w5.cell? ⟨w2.heap.size, 4, none⟩ = some (.int .i64 (cnt n : Int)) := HG7d.out.cell 4
  have y0 : w5.cell? ⟨w3.heap.size, 0, none⟩ = some (.int .i64 (n : Int)) := HG9c.out.cell 0
  have y1 : w5.cell? ⟨w3.heap.size, 1, none⟩ = some (.int .i64 98) := HG9c.out.cell 1
  have y2 : w5.cell? ⟨w3.heap.size, 2, none⟩ = some (.int .i64 (ino n : Int)) := HG9c.out.cell 2
  have y3 : w5.cell? ⟨w3.heap.size, 3, none⟩ = some (.int .i64 (dat n : Int)) := HG9c.out.cell 3
  have y4 : w5.cell? ⟨w3.heap.size, 4, none⟩ = some (.int .i64 (cnt n : Int)) := HG9c.out.cell 4
  have s1 := str_any w5 (some ⟨g4, 0, none⟩) c4 (superL n) HM45.out.bytes 512 (superL_length n)
  have s2 := str_any w5 (some ⟨gt, 0, none⟩) ct (superL n) HM5.out.bytes 512 (superL_length n)
  go_wp2_with fail
  obtain ⟨hbp, hip⟩ := one_new w5 (pairCells B (some ⟨gt, 0, none⟩) l.length 512 cb ct) 28
  have HIp := Lib.hid (show Is _ w5.heap.size 28 (pairCells B (some ⟨gt, 0, none⟩) l.length (superL n).length cb ct) by rw [superL_length]; exact hip)
  have HG7 := Lib.hid (HG7d.out.later hbp)
  have HG9 := Lib.hid (HG9c.out.later hbp)
  have HG5 := Lib.hid (HI5.out.later hbp)
  have HB := Lib.hid (HB5.out.trans (hbp.mono HB5.out.size))
  have HX := Lib.hid (And.intro (HSB.out.later HB.out) (show Sliced (w5.alloc (.cells (pairCells B (some ⟨gt, 0, none⟩) l.length 512 cb ct) 28)) (some ⟨gt, 0, none⟩) ct (superL n) from ⟨(HM5.out.later hbp).bytes, (fun h => by cases h), by rw [superL_length]; decide⟩))
  clear hbp hip x0 x1 x2 x3 x4 y0 y1 y2 y3 y4 s1 s2 HM4 HM5 HM45 HG7d HG9c HI5 HB5 HG7c HG9b HI4 HB4 HG7b HG9a HG7a HI3 HB3 HI2 HB2 HI1 HB1 HB0 HI0
  go_loopw [76] (fun i wr => ∃ k : Nat, k ≤ 2 ∧ i = .int .i64 k ∧ Is wr w5.heap.size 28 (pairCells B (some ⟨gt, 0, none⟩) l.length (superL n).length cb ct) ∧ Is wr w2.heap.size 24 #[.int .i64 (n : Int), .int .i64 98, .int .i64 (ino n : Int), .int .i64 (dat n : Int), .int .i64 (cnt n : Int)] ∧ Is wr w3.heap.size 24 #[.int .i64 (n : Int), .int .i64 98, .int .i64 (ino n : Int), .int .i64 (dat n : Int), .int .i64 (cnt n : Int)] ∧ Is wr w.heap.size 33 #[.int .i64 t0, .int .i64 t1] ∧ Below w.heap.size w wr ∧ (Sliced wr B cb l ∧ Sliced wr (some ⟨gt, 0, none⟩) ct (superL n))) (fun i _ => 2 - (intOf i).toNat)
  case atStart => exact ⟨0, by omega, rfl, HIp.out, HG7.out, HG9.out, HG5.out, HB.out, HX.out⟩
  case round =>
    obtain ⟨k, hk, rfl, hI, hG7, hG9, hG5, hB, hX⟩ := hrel
    have HI := Lib.hid hI
    have HG7 := Lib.hid hG7
    have HG9 := Lib.hid hG9
    have HG5 := Lib.hid hG5
    have HB := Lib.hid hB
    have HX := Lib.hid hX
    have hBs := hB.size
    obtain ⟨wk, rfl⟩ : ∃ wk : World, wk = wr := ⟨_, rfl⟩
    by_cases hk2 : k < 2
    · obtain ⟨X, cx, lx, hc, hbx, hnx, hlx⟩ := pair_at hI hX k hk2
      obtain ⟨len, hlen⟩ : ∃ len, lx.length = len := ⟨_, rfl⟩
      rw [hlen] at hc hlx
      have HL := Lib.hid hlen
      have HBX := Lib.hid hbx
      have HNX := Lib.hid hnx
      have hk20 : (k : Int) < 2 := by omega
      clear hI hG7 hG9 hG5 hB hX hbx hnx hlen
      go_wp2_with (first
        | (at_builtin; refine wpList_append_u8 rfl (.tmp 80) (.tmp 81) rfl wk.heap.size (some ⟨wk.heap.size, 0, none⟩) 0 [] rfl (Mine.empty wk (Nat.le_refl _)) X cx lx (by rw [HL.out]; rfl) HNX.out (HBX.out.later (below_new wk _)) (by rw [HL.out]; simp; omega) (by simp) ?_; intro A2 c2 w2 hm2 hg2 hb2; rw [show (([] : List UInt8) ++ lx).length = len from HL.out]; have hm2 : Mine w2 wk.heap.size A2 c2 lx := hm2; have HM2 := Lib.hid hm2; have HX2 := Lib.hid ((below_new wk (.cells #[] 5)).trans hb2); clear hm2 hg2 hb2)
        | (at_builtin; refine wpList_append_u8 rfl (.tmp 82) (.tmp 83) rfl wk.heap.size A2 c2 lx (by rw [HL.out]; rfl) (HM2.out.later (below_new w2 _)) (some ⟨w2.heap.size, 0, none⟩) 1 [71] rfl (fun h => by cases h) (bytes_new w2 5 (0, 0) [71]) (by rw [HL.out]; simp; omega) (by have := HX2.out.size; simp; omega) ?_; intro A3 c3 w3 hm3 hg3 hb3; rw [show (lx ++ ([71] : List UInt8)).length = len + 1 by rw [List.length_append, HL.out]; rfl]; obtain ⟨g3, rfl, hg3a, hg3b⟩ := hm3.form (by simp); have HM3 := Lib.hid hm3; have HX3 := Lib.hid (HX2.out.trans (((below_new w2 (.cells #[Value.int .u8 71] 5)).mono HX2.out.size).trans hb3)); have hc3 : len + 1 ≤ c3 := (by have := hm3.cap_le.1; rw [List.length_append, HL.out] at this; exact this); have hc30 : len ≤ c3 := (by omega); clear hm3 hg3 hb3)
        | (go_at_call 12; refine (geo_read_any (some ⟨g3, 0, none⟩) c3 lx len HL.out _ (HW.out.below (HB.out.trans (HX3.out.mono hBs)) hgw) (HH.out.below (HB.out.trans (HX3.out.mono hBs)) hgh) HM3.out.head (by omega)).mono ?_; rintro e w4 ⟨rfl, hb4⟩; have HX4 := Lib.hid (HX3.out.trans (hb4.mono HX3.out.size)); have HM4 := Lib.hid (HM3.out.later hb4); clear hb4)
        | (go_at_call 15; refine (ref_read_any X cx lx len HL.out _ (HBX.out.later HX4.out) (by omega)).mono ?_; rintro e w5 ⟨rfl, hb5⟩; have HX5 := Lib.hid (HX4.out.trans (hb5.mono HX4.out.size)); have HM5 := Lib.hid (HM4.out.later hb5); clear hb5))
      have hs1 := fun q : Nat => str_any (w5.drewN q) (some ⟨g3, 0, none⟩) c3 lx (HM5.out.drewN q).head len HL.out
      have hs2 := fun q : Nat => str_any (w5.drewN q) X cx lx ((HBX.out.later HX5.out).drewN q) len HL.out
      have h71 : w5.cell? ⟨g3, len, none⟩ = some (.int .u8 (n8 71)) := by
        have := HM5.out.cell (k := len) (by rw [List.length_append, HL.out]; simp)
        rw [this]
        simp [← HL.out]
      have hn71 : (n8 71 != 71) = false := by decide
      have hl1 : (len : Int) < (len : Int) + 1 := by omega
      have hl2 : (len : Int) ≤ (c3 : Int) := by omega
      generalize readV lx = V at *
      generalize readE lx = E at *
      go_quiet (fail)
      go_wp2_with fail
      have hx6 := below_drewN HX5.out nq
      go_roundw
      case rel => exact ⟨k + 1, by omega, by go_num, (HI.out.later hx6), (HG7.out.later hx6), (HG9.out.later hx6), (HG5.out.later hx6), HB.out.trans (hx6.mono hBs), (HX.out.1.later hx6), (HX.out.2.later hx6)⟩
      case measure => simp [intOf]; omega
    · obtain rfl : k = 2 := by omega
      rw [show ((2 : Nat) : Int) = 2 from rfl]
      have a0 : wk.cell? ⟨w.heap.size, 0, none⟩ = some (.int .i64 t0) := HG5.out.cell 0
      have a1 : wk.cell? ⟨w.heap.size, 1, none⟩ = some (.int .i64 t1) := HG5.out.cell 1
      clear hI hG7 hG9 hG5 hB hX
      go_wp2_with (go_at_call 11; refine (num_any _ _).mono ?_; rintro e w' ⟨rfl, rfl⟩)
      go_loopw [129] (fun i wr => ∃ k : Nat, k ≤ 2 ∧ i = .int .i64 k ∧ Is wr w2.heap.size 24 #[.int .i64 (n : Int), .int .i64 98, .int .i64 (ino n : Int), .int .i64 (dat n : Int), .int .i64 (cnt n : Int)] ∧ Is wr w3.heap.size 24 #[.int .i64 (n : Int), .int .i64 98, .int .i64 (ino n : Int), .int .i64 (dat n : Int), .int .i64 (cnt n : Int)] ∧ Below w.heap.size w wr) (fun i _ => 2 - (intOf i).toNat)
      case atStart => exact ⟨0, by omega, rfl, HG7.out, HG9.out, HB.out⟩
      case round =>
        clear HG7 HG9 HB a0 a1 HG5 HI HX
        obtain ⟨k, hk, rfl, hG7, hG9, hB⟩ := hrel
        have hBs := hB.size
        have x0 : wr.cell? ⟨w2.heap.size, 0, none⟩ = some (.int .i64 (n : Int)) := hG7.cell 0
        have x1 : wr.cell? ⟨w2.heap.size, 1, none⟩ = some (.int .i64 98) := hG7.cell 1
        have x2 : wr.cell? ⟨w2.heap.size, 2, none⟩ = some (.int .i64 (ino n : Int)) := hG7.cell 2
        have x3 : wr.cell? ⟨w2.heap.size, 3, none⟩ = some (.int .i64 (dat n : Int)) := hG7.cell 3
        have x4 : wr.cell? ⟨w2.heap.size, 4, none⟩ = some (.int .i64 (cnt n : Int)) := hG7.cell 4
        have HG7 := Lib.hid hG7
        have HG9 := Lib.hid hG9
        have HB := Lib.hid hB
        obtain ⟨wk, rfl⟩ : ∃ wk : World, wk = wr := ⟨_, rfl⟩
        clear hG7 hG9 hB
        by_cases hk2 : k < 2
        · rcases (show k = 0 ∨ k = 1 by omega) with rfl | rfl
          · rw [show ((0 : Nat) : Int) = 0 from rfl]
            by_cases hbit : 0 ≤ t0 ∧ t0 < (n : Int)
            · obtain ⟨hb1, hb2⟩ := hbit
              by_cases hrec : 1 ≤ t0 ∧ t0 < (cnt n : Int)
              · obtain ⟨hr1, hr2⟩ := hrec
                go_wp2_with (first
                  | (refine wpList_index2 rfl _ _ rfl t0 t1 0 (by decide) t0 rfl rfl rfl ?_)
                  | (go_at_call 16; refine (geo_bit_ok n t0 _ HD.out hb1 hb2).mono ?_; rintro e v1 ⟨rfl, hv1⟩; have HV1 := Lib.hid hv1; have hy := HG9.out.later hv1; have y0 : v1.cell? ⟨w3.heap.size, 0, none⟩ = some (.int .i64 (n : Int)) := hy.cell 0; have y1 : v1.cell? ⟨w3.heap.size, 1, none⟩ = some (.int .i64 98) := hy.cell 1; have y2 : v1.cell? ⟨w3.heap.size, 2, none⟩ = some (.int .i64 (ino n : Int)) := hy.cell 2; have y3 : v1.cell? ⟨w3.heap.size, 3, none⟩ = some (.int .i64 (dat n : Int)) := hy.cell 3; have y4 : v1.cell? ⟨w3.heap.size, 4, none⟩ = some (.int .i64 (cnt n : Int)) := hy.cell 4; clear hv1 hy)
                  | (go_at_call 17; refine (ref_bit_ok n t0 _ HD.out hb1 hb2).mono ?_; rintro e v2 ⟨rfl, hv2⟩; have HV2 := Lib.hid (HV1.out.trans (hv2.mono HV1.out.size)); have hz := HG7.out.later HV2.out; have z0 : v2.cell? ⟨w2.heap.size, 0, none⟩ = some (.int .i64 (n : Int)) := hz.cell 0; have z1 : v2.cell? ⟨w2.heap.size, 1, none⟩ = some (.int .i64 98) := hz.cell 1; have z2 : v2.cell? ⟨w2.heap.size, 2, none⟩ = some (.int .i64 (ino n : Int)) := hz.cell 2; have z3 : v2.cell? ⟨w2.heap.size, 3, none⟩ = some (.int .i64 (dat n : Int)) := hz.cell 3; have z4 : v2.cell? ⟨w2.heap.size, 4, none⟩ = some (.int .i64 (cnt n : Int)) := hz.cell 4; clear hv2 hz)
                  | (go_at_call 18; refine (geo_record_ok n t0 _ HD.out hr1 hr2).mono ?_; rintro e v3 ⟨rfl, hv3⟩; have HV3 := Lib.hid (HV2.out.trans (hv3.mono HV2.out.size)); have hy := HG9.out.later HV3.out; have y0 : v3.cell? ⟨w3.heap.size, 0, none⟩ = some (.int .i64 (n : Int)) := hy.cell 0; have y1 : v3.cell? ⟨w3.heap.size, 1, none⟩ = some (.int .i64 98) := hy.cell 1; have y2 : v3.cell? ⟨w3.heap.size, 2, none⟩ = some (.int .i64 (ino n : Int)) := hy.cell 2; have y3 : v3.cell? ⟨w3.heap.size, 3, none⟩ = some (.int .i64 (dat n : Int)) := hy.cell 3; have y4 : v3.cell? ⟨w3.heap.size, 4, none⟩ = some (.int .i64 (cnt n : Int)) := hy.cell 4; clear hv3 hy)
                  | (go_at_call 19; refine (ref_record_ok n t0 _ HD.out hr1 hr2).mono ?_; rintro e v4 ⟨rfl, hv4⟩; have HV4 := Lib.hid (HV3.out.trans (hv4.mono HV3.out.size)); clear hv4))
                go_roundw
                case rel => exact ⟨1, by omega, rfl, HG7.out.later HV4.out, HG9.out.later HV4.out, HB.out.trans (HV4.out.mono hBs)⟩
                case measure => simp [intOf]
              · have HRR := Lib.hid (show t0 < 1 ∨ (cnt n : Int) ≤ t0 by omega)
                clear hrec
                go_wp2_with (first
                  | (refine wpList_index2 rfl _ _ rfl t0 t1 0 (by decide) t0 rfl rfl rfl ?_)
                  | (go_at_call 16; refine (geo_bit_ok n t0 _ HD.out hb1 hb2).mono ?_; rintro e v1 ⟨rfl, hv1⟩; have HV1 := Lib.hid hv1; have hy := HG9.out.later hv1; have y0 : v1.cell? ⟨w3.heap.size, 0, none⟩ = some (.int .i64 (n : Int)) := hy.cell 0; have y1 : v1.cell? ⟨w3.heap.size, 1, none⟩ = some (.int .i64 98) := hy.cell 1; have y2 : v1.cell? ⟨w3.heap.size, 2, none⟩ = some (.int .i64 (ino n : Int)) := hy.cell 2; have y3 : v1.cell? ⟨w3.heap.size, 3, none⟩ = some (.int .i64 (dat n : Int)) := hy.cell 3; have y4 : v1.cell? ⟨w3.heap.size, 4, none⟩ = some (.int .i64 (cnt n : Int)) := hy.cell 4; clear hv1 hy)
                  | (go_at_call 17; refine (ref_bit_ok n t0 _ HD.out hb1 hb2).mono ?_; rintro e v2 ⟨rfl, hv2⟩; have HV2 := Lib.hid (HV1.out.trans (hv2.mono HV1.out.size)); have hz := HG7.out.later HV2.out; have z0 : v2.cell? ⟨w2.heap.size, 0, none⟩ = some (.int .i64 (n : Int)) := hz.cell 0; have z1 : v2.cell? ⟨w2.heap.size, 1, none⟩ = some (.int .i64 98) := hz.cell 1; have z2 : v2.cell? ⟨w2.heap.size, 2, none⟩ = some (.int .i64 (ino n : Int)) := hz.cell 2; have z3 : v2.cell? ⟨w2.heap.size, 3, none⟩ = some (.int .i64 (dat n : Int)) := hz.cell 3; have z4 : v2.cell? ⟨w2.heap.size, 4, none⟩ = some (.int .i64 (cnt n : Int)) := hz.cell 4; clear hv2 hz)
                  | (go_at_call 18; refine (geo_record_bad n t0 _ HRR.out).mono ?_; rintro e v3 ⟨rfl, hv3⟩; have HV3 := Lib.hid (HV2.out.trans (hv3.mono HV2.out.size)); have hy := HG9.out.later HV3.out; have y0 : v3.cell? ⟨w3.heap.size, 0, none⟩ = some (.int .i64 (n : Int)) := hy.cell 0; have y1 : v3.cell? ⟨w3.heap.size, 1, none⟩ = some (.int .i64 98) := hy.cell 1; have y2 : v3.cell? ⟨w3.heap.size, 2, none⟩ = some (.int .i64 (ino n : Int)) := hy.cell 2; have y3 : v3.cell? ⟨w3.heap.size, 3, none⟩ = some (.int .i64 (dat n : Int)) := hy.cell 3; have y4 : v3.cell? ⟨w3.heap.size, 4, none⟩ = some (.int .i64 (cnt n : Int)) := hy.cell 4; clear hv3 hy)
                  | (go_at_call 19; refine (ref_record_bad n t0 _ HRR.out).mono ?_; rintro e v4 ⟨rfl, hv4⟩; have HV4 := Lib.hid (HV3.out.trans (hv4.mono HV3.out.size)); clear hv4))
                go_roundw
                case rel => exact ⟨1, by omega, rfl, HG7.out.later HV4.out, HG9.out.later HV4.out, HB.out.trans (HV4.out.mono hBs)⟩
                case measure => simp [intOf]
            · have HBB := Lib.hid (show t0 < 0 ∨ (n : Int) ≤ t0 by omega)
              clear hbit
              by_cases hrec : 1 ≤ t0 ∧ t0 < (cnt n : Int)
              · obtain ⟨hr1, hr2⟩ := hrec
                go_wp2_with (first
                  | (refine wpList_index2 rfl _ _ rfl t0 t1 0 (by decide) t0 rfl rfl rfl ?_)
                  | (go_at_call 16; refine (geo_bit_bad n t0 _ HBB.out).mono ?_; rintro e v1 ⟨rfl, hv1⟩; have HV1 := Lib.hid hv1; have hy := HG9.out.later hv1; have y0 : v1.cell? ⟨w3.heap.size, 0, none⟩ = some (.int .i64 (n : Int)) := hy.cell 0; have y1 : v1.cell? ⟨w3.heap.size, 1, none⟩ = some (.int .i64 98) := hy.cell 1; have y2 : v1.cell? ⟨w3.heap.size, 2, none⟩ = some (.int .i64 (ino n : Int)) := hy.cell 2; have y3 : v1.cell? ⟨w3.heap.size, 3, none⟩ = some (.int .i64 (dat n : Int)) := hy.cell 3; have y4 : v1.cell? ⟨w3.heap.size, 4, none⟩ = some (.int .i64 (cnt n : Int)) := hy.cell 4; clear hv1 hy)
                  | (go_at_call 17; refine (ref_bit_bad n t0 _ HBB.out).mono ?_; rintro e v2 ⟨rfl, hv2⟩; have HV2 := Lib.hid (HV1.out.trans (hv2.mono HV1.out.size)); have hz := HG7.out.later HV2.out; have z0 : v2.cell? ⟨w2.heap.size, 0, none⟩ = some (.int .i64 (n : Int)) := hz.cell 0; have z1 : v2.cell? ⟨w2.heap.size, 1, none⟩ = some (.int .i64 98) := hz.cell 1; have z2 : v2.cell? ⟨w2.heap.size, 2, none⟩ = some (.int .i64 (ino n : Int)) := hz.cell 2; have z3 : v2.cell? ⟨w2.heap.size, 3, none⟩ = some (.int .i64 (dat n : Int)) := hz.cell 3; have z4 : v2.cell? ⟨w2.heap.size, 4, none⟩ = some (.int .i64 (cnt n : Int)) := hz.cell 4; clear hv2 hz)
                  | (go_at_call 18; refine (geo_record_ok n t0 _ HD.out hr1 hr2).mono ?_; rintro e v3 ⟨rfl, hv3⟩; have HV3 := Lib.hid (HV2.out.trans (hv3.mono HV2.out.size)); have hy := HG9.out.later HV3.out; have y0 : v3.cell? ⟨w3.heap.size, 0, none⟩ = some (.int .i64 (n : Int)) := hy.cell 0; have y1 : v3.cell? ⟨w3.heap.size, 1, none⟩ = some (.int .i64 98) := hy.cell 1; have y2 : v3.cell? ⟨w3.heap.size, 2, none⟩ = some (.int .i64 (ino n : Int)) := hy.cell 2; have y3 : v3.cell? ⟨w3.heap.size, 3, none⟩ = some (.int .i64 (dat n : Int)) := hy.cell 3; have y4 : v3.cell? ⟨w3.heap.size, 4, none⟩ = some (.int .i64 (cnt n : Int)) := hy.cell 4; clear hv3 hy)
                  | (go_at_call 19; refine (ref_record_ok n t0 _ HD.out hr1 hr2).mono ?_; rintro e v4 ⟨rfl, hv4⟩; have HV4 := Lib.hid (HV3.out.trans (hv4.mono HV3.out.size)); clear hv4))
                go_roundw
                case rel => exact ⟨1, by omega, rfl, HG7.out.later HV4.out, HG9.out.later HV4.out, HB.out.trans (HV4.out.mono hBs)⟩
                case measure => simp [intOf]
              · have HRR := Lib.hid (show t0 < 1 ∨ (cnt n : Int) ≤ t0 by omega)
                clear hrec
                go_wp2_with (first
                  | (refine wpList_index2 rfl _ _ rfl t0 t1 0 (by decide) t0 rfl rfl rfl ?_)
                  | (go_at_call 16; refine (geo_bit_bad n t0 _ HBB.out).mono ?_; rintro e v1 ⟨rfl, hv1⟩; have HV1 := Lib.hid hv1; have hy := HG9.out.later hv1; have y0 : v1.cell? ⟨w3.heap.size, 0, none⟩ = some (.int .i64 (n : Int)) := hy.cell 0; have y1 : v1.cell? ⟨w3.heap.size, 1, none⟩ = some (.int .i64 98) := hy.cell 1; have y2 : v1.cell? ⟨w3.heap.size, 2, none⟩ = some (.int .i64 (ino n : Int)) := hy.cell 2; have y3 : v1.cell? ⟨w3.heap.size, 3, none⟩ = some (.int .i64 (dat n : Int)) := hy.cell 3; have y4 : v1.cell? ⟨w3.heap.size, 4, none⟩ = some (.int .i64 (cnt n : Int)) := hy.cell 4; clear hv1 hy)
                  | (go_at_call 17; refine (ref_bit_bad n t0 _ HBB.out).mono ?_; rintro e v2 ⟨rfl, hv2⟩; have HV2 := Lib.hid (HV1.out.trans (hv2.mono HV1.out.size)); have hz := HG7.out.later HV2.out; have z0 : v2.cell? ⟨w2.heap.size, 0, none⟩ = some (.int .i64 (n : Int)) := hz.cell 0; have z1 : v2.cell? ⟨w2.heap.size, 1, none⟩ = some (.int .i64 98) := hz.cell 1; have z2 : v2.cell? ⟨w2.heap.size, 2, none⟩ = some (.int .i64 (ino n : Int)) := hz.cell 2; have z3 : v2.cell? ⟨w2.heap.size, 3, none⟩ = some (.int .i64 (dat n : Int)) := hz.cell 3; have z4 : v2.cell? ⟨w2.heap.size, 4, none⟩ = some (.int .i64 (cnt n : Int)) := hz.cell 4; clear hv2 hz)
                  | (go_at_call 18; refine (geo_record_bad n t0 _ HRR.out).mono ?_; rintro e v3 ⟨rfl, hv3⟩; have HV3 := Lib.hid (HV2.out.trans (hv3.mono HV2.out.size)); have hy := HG9.out.later HV3.out; have y0 : v3.cell? ⟨w3.heap.size, 0, none⟩ = some (.int .i64 (n : Int)) := hy.cell 0; have y1 : v3.cell? ⟨w3.heap.size, 1, none⟩ = some (.int .i64 98) := hy.cell 1; have y2 : v3.cell? ⟨w3.heap.size, 2, none⟩ = some (.int .i64 (ino n : Int)) := hy.cell 2; have y3 : v3.cell? ⟨w3.heap.size, 3, none⟩ = some (.int .i64 (dat n : Int)) := hy.cell 3; have y4 : v3.cell? ⟨w3.heap.size, 4, none⟩ = some (.int .i64 (cnt n : Int)) := hy.cell 4; clear hv3 hy)
                  | (go_at_call 19; refine (ref_record_bad n t0 _ HRR.out).mono ?_; rintro e v4 ⟨rfl, hv4⟩; have HV4 := Lib.hid (HV3.out.trans (hv4.mono HV3.out.size)); clear hv4))
                go_roundw
                case rel => exact ⟨1, by omega, rfl, HG7.out.later HV4.out, HG9.out.later HV4.out, HB.out.trans (HV4.out.mono hBs)⟩
                case measure => simp [intOf]
          · rw [show ((1 : Nat) : Int) = 1 from rfl]
            by_cases hbit : 0 ≤ t1 ∧ t1 < (n : Int)
            · obtain ⟨hb1, hb2⟩ := hbit
              by_cases hrec : 1 ≤ t1 ∧ t1 < (cnt n : Int)
              · obtain ⟨hr1, hr2⟩ := hrec
                go_wp2_with (first
                  | (refine wpList_index2 rfl _ _ rfl t0 t1 1 (by decide) t1 rfl rfl rfl ?_)
                  | (go_at_call 16; refine (geo_bit_ok n t1 _ HD.out hb1 hb2).mono ?_; rintro e v1 ⟨rfl, hv1⟩; have HV1 := Lib.hid hv1; have hy := HG9.out.later hv1; have y0 : v1.cell? ⟨w3.heap.size, 0, none⟩ = some (.int .i64 (n : Int)) := hy.cell 0; have y1 : v1.cell? ⟨w3.heap.size, 1, none⟩ = some (.int .i64 98) := hy.cell 1; have y2 : v1.cell? ⟨w3.heap.size, 2, none⟩ = some (.int .i64 (ino n : Int)) := hy.cell 2; have y3 : v1.cell? ⟨w3.heap.size, 3, none⟩ = some (.int .i64 (dat n : Int)) := hy.cell 3; have y4 : v1.cell? ⟨w3.heap.size, 4, none⟩ = some (.int .i64 (cnt n : Int)) := hy.cell 4; clear hv1 hy)
                  | (go_at_call 17; refine (ref_bit_ok n t1 _ HD.out hb1 hb2).mono ?_; rintro e v2 ⟨rfl, hv2⟩; have HV2 := Lib.hid (HV1.out.trans (hv2.mono HV1.out.size)); have hz := HG7.out.later HV2.out; have z0 : v2.cell? ⟨w2.heap.size, 0, none⟩ = some (.int .i64 (n : Int)) := hz.cell 0; have z1 : v2.cell? ⟨w2.heap.size, 1, none⟩ = some (.int .i64 98) := hz.cell 1; have z2 : v2.cell? ⟨w2.heap.size, 2, none⟩ = some (.int .i64 (ino n : Int)) := hz.cell 2; have z3 : v2.cell? ⟨w2.heap.size, 3, none⟩ = some (.int .i64 (dat n : Int)) := hz.cell 3; have z4 : v2.cell? ⟨w2.heap.size, 4, none⟩ = some (.int .i64 (cnt n : Int)) := hz.cell 4; clear hv2 hz)
                  | (go_at_call 18; refine (geo_record_ok n t1 _ HD.out hr1 hr2).mono ?_; rintro e v3 ⟨rfl, hv3⟩; have HV3 := Lib.hid (HV2.out.trans (hv3.mono HV2.out.size)); have hy := HG9.out.later HV3.out; have y0 : v3.cell? ⟨w3.heap.size, 0, none⟩ = some (.int .i64 (n : Int)) := hy.cell 0; have y1 : v3.cell? ⟨w3.heap.size, 1, none⟩ = some (.int .i64 98) := hy.cell 1; have y2 : v3.cell? ⟨w3.heap.size, 2, none⟩ = some (.int .i64 (ino n : Int)) := hy.cell 2; have y3 : v3.cell? ⟨w3.heap.size, 3, none⟩ = some (.int .i64 (dat n : Int)) := hy.cell 3; have y4 : v3.cell? ⟨w3.heap.size, 4, none⟩ = some (.int .i64 (cnt n : Int)) := hy.cell 4; clear hv3 hy)
                  | (go_at_call 19; refine (ref_record_ok n t1 _ HD.out hr1 hr2).mono ?_; rintro e v4 ⟨rfl, hv4⟩; have HV4 := Lib.hid (HV3.out.trans (hv4.mono HV3.out.size)); clear hv4))
                go_roundw
                case rel => exact ⟨2, by omega, rfl, HG7.out.later HV4.out, HG9.out.later HV4.out, HB.out.trans (HV4.out.mono hBs)⟩
                case measure => simp [intOf]
              · have HRR := Lib.hid (show t1 < 1 ∨ (cnt n : Int) ≤ t1 by omega)
                clear hrec
                go_wp2_with (first
                  | (refine wpList_index2 rfl _ _ rfl t0 t1 1 (by decide) t1 rfl rfl rfl ?_)
                  | (go_at_call 16; refine (geo_bit_ok n t1 _ HD.out hb1 hb2).mono ?_; rintro e v1 ⟨rfl, hv1⟩; have HV1 := Lib.hid hv1; have hy := HG9.out.later hv1; have y0 : v1.cell? ⟨w3.heap.size, 0, none⟩ = some (.int .i64 (n : Int)) := hy.cell 0; have y1 : v1.cell? ⟨w3.heap.size, 1, none⟩ = some (.int .i64 98) := hy.cell 1; have y2 : v1.cell? ⟨w3.heap.size, 2, none⟩ = some (.int .i64 (ino n : Int)) := hy.cell 2; have y3 : v1.cell? ⟨w3.heap.size, 3, none⟩ = some (.int .i64 (dat n : Int)) := hy.cell 3; have y4 : v1.cell? ⟨w3.heap.size, 4, none⟩ = some (.int .i64 (cnt n : Int)) := hy.cell 4; clear hv1 hy)
                  | (go_at_call 17; refine (ref_bit_ok n t1 _ HD.out hb1 hb2).mono ?_; rintro e v2 ⟨rfl, hv2⟩; have HV2 := Lib.hid (HV1.out.trans (hv2.mono HV1.out.size)); have hz := HG7.out.later HV2.out; have z0 : v2.cell? ⟨w2.heap.size, 0, none⟩ = some (.int .i64 (n : Int)) := hz.cell 0; have z1 : v2.cell? ⟨w2.heap.size, 1, none⟩ = some (.int .i64 98) := hz.cell 1; have z2 : v2.cell? ⟨w2.heap.size, 2, none⟩ = some (.int .i64 (ino n : Int)) := hz.cell 2; have z3 : v2.cell? ⟨w2.heap.size, 3, none⟩ = some (.int .i64 (dat n : Int)) := hz.cell 3; have z4 : v2.cell? ⟨w2.heap.size, 4, none⟩ = some (.int .i64 (cnt n : Int)) := hz.cell 4; clear hv2 hz)
                  | (go_at_call 18; refine (geo_record_bad n t1 _ HRR.out).mono ?_; rintro e v3 ⟨rfl, hv3⟩; have HV3 := Lib.hid (HV2.out.trans (hv3.mono HV2.out.size)); have hy := HG9.out.later HV3.out; have y0 : v3.cell? ⟨w3.heap.size, 0, none⟩ = some (.int .i64 (n : Int)) := hy.cell 0; have y1 : v3.cell? ⟨w3.heap.size, 1, none⟩ = some (.int .i64 98) := hy.cell 1; have y2 : v3.cell? ⟨w3.heap.size, 2, none⟩ = some (.int .i64 (ino n : Int)) := hy.cell 2; have y3 : v3.cell? ⟨w3.heap.size, 3, none⟩ = some (.int .i64 (dat n : Int)) := hy.cell 3; have y4 : v3.cell? ⟨w3.heap.size, 4, none⟩ = some (.int .i64 (cnt n : Int)) := hy.cell 4; clear hv3 hy)
                  | (go_at_call 19; refine (ref_record_bad n t1 _ HRR.out).mono ?_; rintro e v4 ⟨rfl, hv4⟩; have HV4 := Lib.hid (HV3.out.trans (hv4.mono HV3.out.size)); clear hv4))
                go_roundw
                case rel => exact ⟨2, by omega, rfl, HG7.out.later HV4.out, HG9.out.later HV4.out, HB.out.trans (HV4.out.mono hBs)⟩
                case measure => simp [intOf]
            · have HBB := Lib.hid (show t1 < 0 ∨ (n : Int) ≤ t1 by omega)
              clear hbit
              by_cases hrec : 1 ≤ t1 ∧ t1 < (cnt n : Int)
              · obtain ⟨hr1, hr2⟩ := hrec
                go_wp2_with (first
                  | (refine wpList_index2 rfl _ _ rfl t0 t1 1 (by decide) t1 rfl rfl rfl ?_)
                  | (go_at_call 16; refine (geo_bit_bad n t1 _ HBB.out).mono ?_; rintro e v1 ⟨rfl, hv1⟩; have HV1 := Lib.hid hv1; have hy := HG9.out.later hv1; have y0 : v1.cell? ⟨w3.heap.size, 0, none⟩ = some (.int .i64 (n : Int)) := hy.cell 0; have y1 : v1.cell? ⟨w3.heap.size, 1, none⟩ = some (.int .i64 98) := hy.cell 1; have y2 : v1.cell? ⟨w3.heap.size, 2, none⟩ = some (.int .i64 (ino n : Int)) := hy.cell 2; have y3 : v1.cell? ⟨w3.heap.size, 3, none⟩ = some (.int .i64 (dat n : Int)) := hy.cell 3; have y4 : v1.cell? ⟨w3.heap.size, 4, none⟩ = some (.int .i64 (cnt n : Int)) := hy.cell 4; clear hv1 hy)
                  | (go_at_call 17; refine (ref_bit_bad n t1 _ HBB.out).mono ?_; rintro e v2 ⟨rfl, hv2⟩; have HV2 := Lib.hid (HV1.out.trans (hv2.mono HV1.out.size)); have hz := HG7.out.later HV2.out; have z0 : v2.cell? ⟨w2.heap.size, 0, none⟩ = some (.int .i64 (n : Int)) := hz.cell 0; have z1 : v2.cell? ⟨w2.heap.size, 1, none⟩ = some (.int .i64 98) := hz.cell 1; have z2 : v2.cell? ⟨w2.heap.size, 2, none⟩ = some (.int .i64 (ino n : Int)) := hz.cell 2; have z3 : v2.cell? ⟨w2.heap.size, 3, none⟩ = some (.int .i64 (dat n : Int)) := hz.cell 3; have z4 : v2.cell? ⟨w2.heap.size, 4, none⟩ = some (.int .i64 (cnt n : Int)) := hz.cell 4; clear hv2 hz)
                  | (go_at_call 18; refine (geo_record_ok n t1 _ HD.out hr1 hr2).mono ?_; rintro e v3 ⟨rfl, hv3⟩; have HV3 := Lib.hid (HV2.out.trans (hv3.mono HV2.out.size)); have hy := HG9.out.later HV3.out; have y0 : v3.cell? ⟨w3.heap.size, 0, none⟩ = some (.int .i64 (n : Int)) := hy.cell 0; have y1 : v3.cell? ⟨w3.heap.size, 1, none⟩ = some (.int .i64 98) := hy.cell 1; have y2 : v3.cell? ⟨w3.heap.size, 2, none⟩ = some (.int .i64 (ino n : Int)) := hy.cell 2; have y3 : v3.cell? ⟨w3.heap.size, 3, none⟩ = some (.int .i64 (dat n : Int)) := hy.cell 3; have y4 : v3.cell? ⟨w3.heap.size, 4, none⟩ = some (.int .i64 (cnt n : Int)) := hy.cell 4; clear hv3 hy)
                  | (go_at_call 19; refine (ref_record_ok n t1 _ HD.out hr1 hr2).mono ?_; rintro e v4 ⟨rfl, hv4⟩; have HV4 := Lib.hid (HV3.out.trans (hv4.mono HV3.out.size)); clear hv4))
                go_roundw
                case rel => exact ⟨2, by omega, rfl, HG7.out.later HV4.out, HG9.out.later HV4.out, HB.out.trans (HV4.out.mono hBs)⟩
                case measure => simp [intOf]
              · have HRR := Lib.hid (show t1 < 1 ∨ (cnt n : Int) ≤ t1 by omega)
                clear hrec
                go_wp2_with (first
                  | (refine wpList_index2 rfl _ _ rfl t0 t1 1 (by decide) t1 rfl rfl rfl ?_)
                  | (go_at_call 16; refine (geo_bit_bad n t1 _ HBB.out).mono ?_; rintro e v1 ⟨rfl, hv1⟩; have HV1 := Lib.hid hv1; have hy := HG9.out.later hv1; have y0 : v1.cell? ⟨w3.heap.size, 0, none⟩ = some (.int .i64 (n : Int)) := hy.cell 0; have y1 : v1.cell? ⟨w3.heap.size, 1, none⟩ = some (.int .i64 98) := hy.cell 1; have y2 : v1.cell? ⟨w3.heap.size, 2, none⟩ = some (.int .i64 (ino n : Int)) := hy.cell 2; have y3 : v1.cell? ⟨w3.heap.size, 3, none⟩ = some (.int .i64 (dat n : Int)) := hy.cell 3; have y4 : v1.cell? ⟨w3.heap.size, 4, none⟩ = some (.int .i64 (cnt n : Int)) := hy.cell 4; clear hv1 hy)
                  | (go_at_call 17; refine (ref_bit_bad n t1 _ HBB.out).mono ?_; rintro e v2 ⟨rfl, hv2⟩; have HV2 := Lib.hid (HV1.out.trans (hv2.mono HV1.out.size)); have hz := HG7.out.later HV2.out; have z0 : v2.cell? ⟨w2.heap.size, 0, none⟩ = some (.int .i64 (n : Int)) := hz.cell 0; have z1 : v2.cell? ⟨w2.heap.size, 1, none⟩ = some (.int .i64 98) := hz.cell 1; have z2 : v2.cell? ⟨w2.heap.size, 2, none⟩ = some (.int .i64 (ino n : Int)) := hz.cell 2; have z3 : v2.cell? ⟨w2.heap.size, 3, none⟩ = some (.int .i64 (dat n : Int)) := hz.cell 3; have z4 : v2.cell? ⟨w2.heap.size, 4, none⟩ = some (.int .i64 (cnt n : Int)) := hz.cell 4; clear hv2 hz)
                  | (go_at_call 18; refine (geo_record_bad n t1 _ HRR.out).mono ?_; rintro e v3 ⟨rfl, hv3⟩; have HV3 := Lib.hid (HV2.out.trans (hv3.mono HV2.out.size)); have hy := HG9.out.later HV3.out; have y0 : v3.cell? ⟨w3.heap.size, 0, none⟩ = some (.int .i64 (n : Int)) := hy.cell 0; have y1 : v3.cell? ⟨w3.heap.size, 1, none⟩ = some (.int .i64 98) := hy.cell 1; have y2 : v3.cell? ⟨w3.heap.size, 2, none⟩ = some (.int .i64 (ino n : Int)) := hy.cell 2; have y3 : v3.cell? ⟨w3.heap.size, 3, none⟩ = some (.int .i64 (dat n : Int)) := hy.cell 3; have y4 : v3.cell? ⟨w3.heap.size, 4, none⟩ = some (.int .i64 (cnt n : Int)) := hy.cell 4; clear hv3 hy)
                  | (go_at_call 19; refine (ref_record_bad n t1 _ HRR.out).mono ?_; rintro e v4 ⟨rfl, hv4⟩; have HV4 := Lib.hid (HV3.out.trans (hv4.mono HV3.out.size)); clear hv4))
                go_roundw
                case rel => exact ⟨2, by omega, rfl, HG7.out.later HV4.out, HG9.out.later HV4.out, HB.out.trans (HV4.out.mono hBs)⟩
                case measure => simp [intOf]
        · obtain rfl : k = 2 := by omega
          rw [show ((2 : Nat) : Int) = 2 from rfl]
          go_wp2_with fail
          go_ret
          exact ⟨rfl, HB.out⟩

theorem exact_any (n t0 t1 : Int) (B : Option Addr) (cb : Nat) (l : List UInt8) (w : World) (hw : WidthsAt w) (hh : HalfAt w) (hB : Bytes w B l) (hC : B = none → cb = 0) (hl : l.length ≤ 140737488351232) :
    Calls Tryd.prog 6 #[.int .i64 n, .slice B l.length cb, .agg #[.int .i64 t0, .int .i64 t1]] w fun e w' => e = .returned (.bool true) ∧ Below w.heap.size w w' := by
  by_cases h : Disk n
  · obtain ⟨m, rfl⟩ := Int.eq_ofNat_of_zero_le (show 0 ≤ n by have := h.1; omega)
    exact exact_ok m t0 t1 B cb l w hw hh ⟨hB, hC, hl⟩ h
  · exact exact_bad n t0 t1 B cb l w hw hh ⟨hB, hC, hl⟩ h
end Go.Proofs.YtaijakknhmagoaaDoor
