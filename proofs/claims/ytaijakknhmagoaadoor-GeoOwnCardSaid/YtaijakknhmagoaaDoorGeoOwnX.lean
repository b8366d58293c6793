/-
  THE WALK OF GeoOwn, step by step.
-/
import Derived.Test.YtaijakknhmagoaaDoorGeoOwnW
set_option linter.unusedVariables false
set_option linter.unusedSimpArgs false
namespace Go.Proofs.YtaijakknhmagoaaDoor
open Go.RowKit Rec Gp

/-- which number is told j-th -/
def kk (k0 k1 : Int) (j : Nat) : Int := if j = 1 then k1 else k0
/-- the j-th super block -/
def sup (k0 k1 : Int) (j : Nat) : List UInt8 := superL (num (kk k0 k1 j))
theorem sup_length (k0 k1 : Int) (j : Nat) : (sup k0 k1 j).length = 512 := superL_length _
def nums (k0 k1 : Int) : Array Value := #[.int .i64 k0, .int .i64 k1, .int .i64 k0]
theorem nums_at {w : World} {g : Nat} {k0 k1 : Int} (h : Is w g 3 (nums k0 k1)) (j : Nat) (hj : j < 3) : w.cell? ⟨g, j, none⟩ = some (.int .i64 (kk k0 k1 j)) := by
  rcases j with _ | _ | _ | j
  · exact h.cell 0
  · exact h.cell 1
  · exact h.cell 2
  · omega

theorem Is.later {w w2 : World} {g : Nat} {t : TypeId} {cs : Array Value} (h : Is w g t cs) (hb : Below w.heap.size w w2) : Is w2 g t cs := h.below hb h.lt
/-- a row of slices is no block of another type -/
theorem sls_not_is {w : World} {b1 c1 g : Nat} {A : Option Addr} {ps : List Sl} {cs : Array Value} (h : Sls w b1 A c1 ps) (hI : Is w g 3 cs) : ¬ Of A g := by
  intro ha
  rcases h.2 with ⟨hv, _⟩ | ⟨g', cap', cur, hv, _, hh, _⟩
  · injection hv with hA; unfold Of at ha; rw [hA] at ha; cases ha
  injection hv with hA
  unfold Of at ha
  rw [hA] at ha
  injection ha with ha; injection ha with ha
  subst ha
  unfold Is at hI
  rw [hh] at hI
  injection hI with hI
  injection hI with _ ht
  exact absurd ht (by decide)

/-- the three slices in their row, the three blocks, nothing below base turned -/
def Own3 (w0 w : World) (base ga cap : Nat) (f : Nat → Nat) (F : Nat → List UInt8) : Prop := Sls w base (some ⟨ga, 0, none⟩) cap (slsOf f 3) ∧ Blks w base f 3 F ∧ Below base w0 w
section
variable {w0 w w2 : World} {base ga cap : Nat} {f : Nat → Nat} {F : Nat → List UInt8} {S : Nat → Prop}
theorem Own3.slice (h : Own3 w0 w base ga cap f F) (i : Nat) (hi : i < 3) : w.cell? ⟨ga, i, none⟩ = some (.slice (some ⟨f i, 0, none⟩) 512 512) := by
  obtain ⟨g, hg, hc⟩ := h.1.cell (k := i) (by rw [slsOf_length]; exact hi)
  injection hg with hg
  injection hg with hg
  subst hg
  rw [hc, slsOf_at]
  rfl
theorem Own3.later (h : Own3 w0 w base ga cap f F) (hb : Below w.heap.size w w2) (hbs : base ≤ w.heap.size) : Own3 w0 w2 base ga cap f F := ⟨h.1.later hb, h.2.1.later hb, h.2.2.trans (hb.mono hbs)⟩
theorem Own3.keeps (h : Own3 w0 w base ga cap f F) (hk : Keeps S w w2) (hbs : base ≤ w.heap.size) (hS : ∀ i, S i → base ≤ i) (hA : ¬ S ga) (hF : ∀ j, j < 3 → ¬ S (f j)) : Own3 w0 w2 base ga cap f F :=
  ⟨h.1.keeps hk fun i hi => by rw [of_some hi]; exact hA, h.2.1.keeps hk hF, h.2.2.trans (hk.below hbs hS)⟩
end

theorem updF_self {F : Nat → List UInt8} {i : Nat} : updF F i (F i) = F := by
  funext j
  unfold updF
  split
  · rename_i h; rw [h]
  · rfl
theorem updF_twice {F : Nat → List UInt8} {i : Nat} {l m : List UInt8} : updF (updF F i l) i m = updF F i m := by
  funext j
  unfold updF
  split <;> rfl
theorem take_set_snoc (l : List UInt8) (r : Nat) (x : UInt8) (h : r < l.length) : (l.set r x).take (r + 1) = l.take r ++ [x] := by
  rw [List.take_succ_eq_append_getElem (by rw [List.length_set]; exact h), List.getElem_set_self, List.take_set_of_le (Nat.le_refl _)]
theorem keeps_cell (w : World) (g k : Nat) (v : Value) : Keeps (Of (some ⟨g, 0, none⟩)) w (w.setCell ⟨g, k, none⟩ v) :=
  have h := (Below.refl 0 w).setCell (p := ⟨g, k, none⟩) (Nat.zero_le _) v
  ⟨h.os, h.tape, h.output, h.size, fun i hi hn => heap_setCell_other w ⟨g, k, none⟩ i v (fun e => hn (by rw [Of, e]))⟩

theorem apart_none' (B : Option Addr) : Apart none B := fun i h => by unfold Of at h; cases h
theorem num_q (e : Int) (w : World) : Calls Tryd.prog 11 #[.int .i64 e] w fun r w' => r = .returned (.int .i64 e) ∧ w' = w := (num_any e w).mono fun _ _ h => ⟨h.1, h.2.symm⟩
/-- the j-th longer one -/
def longL (j : Nat) : List UInt8 := List.replicate 512 (mark j) ++ [mark j]
theorem longL_all (j : Nat) : longL j = List.replicate 513 (mark j) := by unfold longL; rw [← List.replicate_succ']
theorem longL_length (j : Nat) : (longL j).length = 513 := by rw [longL_all, List.length_replicate]

set_option maxRecDepth 100000 in
set_option maxHeartbeats 6400000 in
theorem own_any (k0 k1 : Int) (w : World) (hw : WidthsAt w) (hh : HalfAt w)
    (h00 : -9223372036854775808 ≤ k0) (h01 : k0 ≤ 9223372036854775807) (h10 : -9223372036854775808 ≤ k1) (h11 : k1 ≤ 9223372036854775807) :
    Calls Tryd.prog 5 #[.int .i64 k0, .int .i64 k1] w fun e w' => e = .returned (.bool true) ∧ Below w.heap.size w w' := by
  have HW := Lib.hid hw
  have HH := Lib.hid hh
  have hgw := hw.lt
  have hgh := hh.lt
  have HK0 := Lib.hid (And.intro h00 h01)
  have HK1 := Lib.hid (And.intro h10 h11)
  clear hw hh h00 h01 h10 h11
  go_enter Tryd.func5, Tryd.ntmps5
  go_wp2_with fail
  refine (known_any _ HW.out HH.out).mono ?_
  rintro e w1 ⟨rfl, hb1⟩
  obtain ⟨hbn, hin⟩ := one_new w1 (nums k0 k1) 3
  have HB2 := Lib.hid (hb1.trans (hbn.mono hb1.size))
  have HI2 := Lib.hid hin
  have hs1 : w.heap.size ≤ w1.heap.size := hb1.size
  clear hb1 hbn hin
  go_wp2_with fail
  go_loopw [5, 32] (fun v i wr => ∃ (k : Nat) (A : Option Addr) (cap : Nat) (f : Nat → Nat), k ≤ 3 ∧ i = .int .i64 k ∧ v = .slice A k cap ∧ Sls wr w.heap.size A cap (slsOf f k) ∧ Blks wr w.heap.size f k (sup k0 k1) ∧ Is wr w1.heap.size 3 (nums k0 k1) ∧ Below w.heap.size w wr) (fun v i _ => 3 - (intOf i).toNat)
  case atStart => exact ⟨0, none, 0, fun _ => 0, by omega, rfl, rfl, Sls.nil _ _, ⟨fun j h => by omega, fun i j h1 h2 => by omega⟩, HI2.out, HB2.out⟩
  case round =>
    obtain ⟨k, A, cap, f, hk, rfl, rfl, hS, hBl, hI, hB⟩ := hrel
    have HS := Lib.hid hS
    have HBl := Lib.hid hBl
    have HI := Lib.hid hI
    have HB := Lib.hid hB
    have hBs := hB.size
    by_cases hk3 : k < 3
    · have hc := nums_at hI k hk3
      obtain ⟨u, m, hu, hum, hmb, hn, hd⟩ := num_made (kk k0 k1 k) (by unfold kk; have := HK0.out; have := HK1.out; split <;> omega) (by unfold kk; have := HK0.out; have := HK1.out; split <;> omega)
      have HE := Lib.hid (show superL (num (kk k0 k1 k)) = sup k0 k1 k from rfl)
      obtain ⟨n, hne⟩ : ∃ n, num (kk k0 k1 k) = n := ⟨_, rfl⟩
      rw [hne] at hn hd HE
      generalize kk k0 k1 k = z at hc hu
      have hmn : 128 + (m : Int) = (n : Int) := by omega
      have hn1 : 128 ≤ (n : Int) := hd.1
      have hn2 : (n : Int) ≤ 16384 := hd.2
      have hk30 : (k : Int) < 3 := by omega
      have HD := Lib.hid hd
      clear hS hBl hI hB hn hd hne
      go_wp2_with fail
      refine (super_full n _ HD.out (HW.out.below HB.out hgw) (HH.out.below HB.out hgh)).mono ?_
      rintro e w2 ⟨g, rfl, hm2, hb2⟩
      rw [HE.out] at hm2
      have HM2 := Lib.hid (hm2.base_le hBs)
      have HG2 := Lib.hid (hm2.ge g rfl)
      have HS2 := Lib.hid (HS.out.later hb2)
      have HBl2 := Lib.hid (HBl.out.later hb2)
      have HI2 := Lib.hid (HI.out.below hb2 HI.out.lt)
      have HBB := Lib.hid (HB.out.trans (hb2.mono hBs))
      have hs2 : w.heap.size ≤ w2.heap.size := HBB.out.size
      have HFLT := Lib.hid (show ∀ j, j < k → f j ≠ g from fun j hj => by have h1 := (HBl.out.1 j hj).2.lt _ rfl; have h2 := HG2.out; omega)
      clear hm2 hb2
      go_wp2_with (at_builtin; refine wpList_append_sl rfl (.tmp 45) (.tmp 47) rfl w.heap.size A cap (slsOf f k) (by rw [slsOf_length]; rfl) (HS2.out.later (below_new w2 _)) w2.heap.size _ ⟨g, 512, 512⟩ rfl ((one_new w2 #[Sl.val ⟨g, 512, 512⟩] 28).2.cell 0) (by rw [slsOf_length]; omega) (by simp; omega) ?_; intro A' cap' w3 hS3 hk3' hg3; rw [show (slsOf f k ++ [(⟨g, 512, 512⟩ : Sl)]).length = k + 1 by simp [slsOf_length]]; rw [slsOf_snoc] at hS3; have hbx := below_new w2 (.cells #[Sl.val ⟨g, 512, 512⟩] 28); have HS3 := Lib.hid hS3; have HK3 := Lib.hid hk3'; have HBX := Lib.hid hbx)
      have hbl3 : Blks (w2.alloc (.cells #[Sl.val ⟨g, 512, 512⟩] 28)) w.heap.size (extd f k g) (k + 1) (sup k0 k1) := (HBl2.out.later HBX.out).more (HM2.out.later HBX.out) (sup_length _ _ _) HFLT.out
      have hoff := fun j hj => hbl3.off (HS2.out.later HBX.out) j hj
      have hbl4 := hbl3.keeps HK3.out hoff
      have HBl4 := Lib.hid hbl4
      have hIb := HI2.out.later HBX.out
      have hI4 := hIb.keeps HK3.out (fun h => sls_not_is (HS2.out.later HBX.out) hIb h)
      have HI4 := Lib.hid hI4
      have HB4 := Lib.hid (HBB.out.trans ((HBX.out.mono hs2).trans (HK3.out.below (Nat.le_trans hs2 HBX.out.size) (fun i hi => HS2.out.ge i hi))))
      clear hbl3 hoff hbl4 hIb hI4
      go_roundw
      case rel => exact ⟨k + 1, A', cap', extd f k g, by omega, by go_num, rfl, HS3.out, HBl4.out, HI4.out, HB4.out⟩
      case measure => simp [intOf]; omega
    · obtain rfl : k = 3 := by omega
      rw [show ((3 : Nat) : Int) = 3 from rfl]
      obtain ⟨wa, rfl⟩ : ∃ wa : World, wa = wr := ⟨_, rfl⟩
      obtain ⟨ga, rfl, _⟩ := hS.cell (k := 0) (by rw [slsOf_length]; decide)
      have hO : Own3 w wa w.heap.size ga cap f (sup k0 k1) := ⟨HS.out, HBl.out, HB.out⟩
      have HO := Lib.hid hO
      clear hS hBl hI hB hO HS HBl HI HB
      go_wp2_with fail
      go_loopw [6, 52] (fun v i wr => ∃ (q : Nat) (T : Option Addr) (ct : Nat), q ≤ 3 ∧ i = .int .i64 q ∧ v = .slice T q ct ∧ Strs wr w.heap.size T ct (textsOf (sup k0 k1) q) ∧ Own3 w wr w.heap.size ga cap f (sup k0 k1)) (fun v i _ => 3 - (intOf i).toNat)
      case atStart => exact ⟨0, none, 0, by omega, rfl, rfl, Strs.nil _ _, HO.out⟩
      case round =>
        obtain ⟨q, T, ct, hq, rfl, rfl, hT, hO⟩ := hrel
        have HT := Lib.hid hT
        have HO2 := Lib.hid hO
        have hBs := hO.2.2.size
        by_cases hq3 : q < 3
        · have hc := hO.slice q hq3
          have hst := str_any wr (some ⟨f q, 0, none⟩) 512 (sup k0 k1 q) (hO.2.1.1 q hq3).2.bytes 512 (sup_length _ _ _)
          have hq30 : (q : Int) < 3 := by omega
          have HTX := Lib.hid (textsOf_snoc (sup k0 k1) q)
          generalize sup k0 k1 q = s at hst HTX
          clear hT hO
          go_wp2_with (at_builtin; refine wpList_append_str rfl (.tmp 56) (.tmp 59) rfl w.heap.size T ct (textsOf (sup k0 k1) q) (by rw [textsOf_length]; rfl) (HT.out.later (below_new wr _)) wr.heap.size _ s rfl ((one_new wr #[.string ⟨s.toArray⟩] 9).2.cell 0) (by rw [textsOf_length]; omega) (by simp; omega) ?_; intro T' ct' w3 hS3 hk3' hg3; rw [show (textsOf (sup k0 k1) q ++ [s]).length = q + 1 by simp [textsOf_length]]; rw [HTX.out] at hS3; have hbx := below_new wr (.cells #[.string ⟨s.toArray⟩] 9); have HS3 := Lib.hid hS3; have HK3 := Lib.hid hk3'; have HBX := Lib.hid hbx)
          have hT2 := HT.out.later HBX.out
          have hO2 := HO2.out.later HBX.out hBs
          have HO4 := Lib.hid (hO2.keeps HK3.out (Nat.le_trans hBs HBX.out.size) (fun i hi => hT2.ge i hi) (fun h => hO2.1.apart_str hT2 ga h rfl) (fun j hj h => hT2.apart (hO2.2.1.1 j hj).2 (f j) rfl h))
          clear hT2 hO2
          go_roundw
          case rel => exact ⟨q + 1, T', ct', by omega, by go_num, rfl, HS3.out, HO4.out⟩
          case measure => simp [intOf]; omega
        · obtain rfl : q = 3 := by omega
          rw [show ((3 : Nat) : Int) = 3 from rfl]
          obtain ⟨wb, rfl⟩ : ∃ wb : World, wb = wr := ⟨_, rfl⟩
          obtain ⟨gt, rfl, ht0⟩ := hT.cell (k := 0) (by rw [textsOf_length]; decide)
          obtain ⟨gt', hgt, ht2⟩ := hT.cell (k := 2) (by rw [textsOf_length]; decide)
          injection hgt with hgt
          injection hgt with hgt
          subst hgt
          rw [textsOf_at] at ht0 ht2
          have hs2 : sup k0 k1 2 = sup k0 k1 0 := rfl
          rw [hs2] at ht2
          have hsl := sup_length k0 k1 0
          generalize sup k0 k1 0 = s0 at ht0 ht2 hsl
          clear hT hO hs2
          go_wp2_with fail
          go_quiet (fail)
          go_wp2_with fail
          have hT3 : Strs (wb.drewN nq) w.heap.size (some ⟨gt, 0, none⟩) ct (textsOf (sup k0 k1) 3) := HT.out
          have hO3 : Own3 w (wb.drewN nq) w.heap.size ga cap f (sup k0 k1) := ⟨HO2.out.1, HO2.out.2.1, below_drewN HO2.out.2.2 nq⟩
          obtain ⟨wc, hwc⟩ : ∃ wc, wb.drewN nq = wc := ⟨_, rfl⟩
          rw [hwc] at hT3 hO3 ⊢
          have HT3 := Lib.hid hT3
          have HO3 := Lib.hid hO3
          clear hT3 hO3 hwc ht0 ht2 HT HO2 HO hsl
          go_loopw [78] (fun i wr => ∃ (q : Nat) (F : Nat → List UInt8), q ≤ 3 ∧ i = .int .i64 q ∧ Strs wr w.heap.size (some ⟨gt, 0, none⟩) ct (textsOf (sup k0 k1) 3) ∧ Own3 w wr w.heap.size ga cap f F ∧ ∀ j, j < q → F j = List.replicate 512 (mark j)) (fun i _ => 3 - (intOf i).toNat)
          case atStart => exact ⟨0, _, by omega, rfl, HT3.out, HO3.out, fun j h => by omega⟩
          case round =>
            obtain ⟨q, F, hq, rfl, hT, hO, hF⟩ := hrel
            have HT := Lib.hid hT
            have HO := Lib.hid hO
            have HF := Lib.hid hF
            have hBs := hO.2.2.size
            obtain ⟨wd, rfl⟩ : ∃ wd : World, wd = wr := ⟨_, rfl⟩
            by_cases hq3 : q < 3
            · have hc := hO.slice q hq3
              have hq30 : (q : Int) < 3 := by omega
              have hmk := mark_wrap q hq3
              clear hT hO hF
              go_wp2_with fail
              go_loopw [85] (fun i wr => ∃ (r : Nat) (G : List UInt8), r ≤ 512 ∧ i = .int .i64 r ∧ Strs wr w.heap.size (some ⟨gt, 0, none⟩) ct (textsOf (sup k0 k1) 3) ∧ Own3 w wr w.heap.size ga cap f (updF F q G) ∧ G.take r = List.replicate r (mark q)) (fun i _ => 512 - (intOf i).toNat)
              case atStart => exact ⟨0, F q, by omega, rfl, HT.out, by rw [updF_self]; exact HO.out, rfl⟩
              case round =>
                obtain ⟨r, G, hr, rfl, hT, hO, hG⟩ := hrel
                have HT2 := Lib.hid hT
                have HO2 := Lib.hid hO
                have HG := Lib.hid hG
                have hBs := hO.2.2.size
                by_cases hr5 : r < 512
                · have hm := (hO.2.1.1 q hq3).2
                  have hl := (hO.2.1.1 q hq3).1
                  rw [updF_at] at hm hl
                  have hf := hm.free r
                  have hc2 : wr.cell? ⟨f q, r, none⟩ = some (.int .u8 (n8 (G[r]'(by omega)))) := hm.cell (by omega)
                  have hr50 : (r : Int) < 512 := by omega
                  have HL := Lib.hid hl
                  generalize G[r]'(by omega) = x at hc2
                  clear hT hO hG hm hl
                  go_wp2_with fail
                  have hk2 := keeps_cell wr (f q) r (.int .u8 (n8 (mark q)))
                  go_roundw
                  case rel =>
                    refine ⟨r + 1, G.set r (mark q), by omega, by go_num, HT2.out.keeps hk2 (fun i h1 h2 => HT2.out.apart (HO2.out.2.1.1 q hq3).2 i h2 h1), ?_, ?_⟩
                    · have h1 := HO2.out.2.1.put q r hq3 (mark q)
                      rw [updF_at, updF_twice] at h1
                      refine ⟨HO2.out.1.keeps hk2 (fun i h2 h3 => HO2.out.1.apart (HO2.out.2.1.1 q hq3).2 i h3 h2), h1, HO2.out.2.2.trans (hk2.below hBs (fun i h2 => (HO2.out.2.1.1 q hq3).2.ge i h2))⟩
                    · rw [take_set_snoc G r (mark q) (by have := HL.out; omega), HG.out, List.replicate_succ']
                  case measure => simp [intOf]; omega
                · obtain rfl : r = 512 := by omega
                  have hl := (hO.2.1.1 q hq3).1
                  rw [updF_at] at hl
                  rw [List.take_of_length_le (by omega)] at hG
                  have HG2 := Lib.hid hG
                  clear hT hO hG hl
                  go_wp2_with fail
                  go_roundw
                  case rel =>
                    refine ⟨q + 1, _, by omega, by go_num, HT2.out, HO2.out, fun j hj => ?_⟩
                    by_cases hjq : j = q
                    · subst hjq; rw [updF_at, HG2.out]
                    · rw [updF_ne hjq]; exact HF.out j (by omega)
                  case measure => simp [intOf]; omega
            · obtain rfl : q = 3 := by omega
              rw [show ((3 : Nat) : Int) = 3 from rfl]
              clear hT hO hF
              go_wp2_with fail
              go_loopw [16, 98] (fun v i wr => ∃ (q : Nat) (A2 : Option Addr) (c2 : Nat) (h c : Nat → Nat), q ≤ 3 ∧ i = .int .i64 q ∧ v = .slice A2 q c2 ∧ Sls wr w.heap.size A2 c2 (longOf h c q) ∧ (∀ j, j < q → Mine wr w.heap.size (some ⟨h j, 0, none⟩) (c j) (longL j)) ∧ Apart A2 (some ⟨ga, 0, none⟩) ∧ Strs wr w.heap.size (some ⟨gt, 0, none⟩) ct (textsOf (sup k0 k1) 3) ∧ Own3 w wr w.heap.size ga cap f F) (fun v i _ => 3 - (intOf i).toNat)
              case atStart => exact ⟨0, none, 0, fun _ => 0, fun _ => 0, by omega, rfl, rfl, Sls.nil _ _, fun j h => by omega, apart_none' _, HT.out, HO.out⟩
              case round =>
                obtain ⟨q, A2, c2, h, c, hq, rfl, rfl, hS2, hM, hap, hT, hO⟩ := hrel
                have HS2 := Lib.hid hS2
                have HM := Lib.hid hM
                have HAP := Lib.hid hap
                have HT := Lib.hid hT
                have HO := Lib.hid hO
                have hBs := hO.2.2.size
                obtain ⟨we, rfl⟩ : ∃ we : World, we = wr := ⟨_, rfl⟩
                by_cases hq3 : q < 3
                · have hc := hO.slice q hq3
                  have hq30 : (q : Int) < 3 := by omega
                  have hmk := mark_wrap q hq3
                  have hby := (hO.2.1.1 q hq3).2.bytes
                  rw [HF.out q hq3] at hby
                  have HBY := Lib.hid hby
                  clear hS2 hM hap hT hO hby
                  go_wp2_with (first
                    | (at_builtin; refine wpList_append_full rfl (.tmp 104) (.tmp 108) rfl (f q) 512 (List.replicate 512 (mark q)) List.length_replicate rfl (HBY.out.later (below_new we _)) ⟨we.heap.size, 0, none⟩ 1 (mark q) rfl (bytes_new we 5 (0, 0) [mark q]) (by decide) ?_; intro A3 c3 w3 hm3 hb3; obtain ⟨g3, rfl, hg3, hg3l⟩ := hm3.form (by simp); have hx3 := (below_new we (.cells #[Value.int .u8 (n8 (mark q))] 5)).trans (hb3.mono (below_new we (.cells #[Value.int .u8 (n8 (mark q))] 5)).size); have HX3 := Lib.hid hx3; have HM3 := Lib.hid (hm3.base_le (Nat.le_trans hBs (below_new we (.cells #[Value.int .u8 (n8 (mark q))] 5)).size)); clear hm3 hb3)
                    | (at_builtin; refine wpList_append_sl rfl (.tmp 103) (.tmp 110) rfl w.heap.size A2 c2 (longOf h c q) (by rw [longOf_length]; rfl) ((HS2.out.later HX3.out).later (below_new w3 _)) w3.heap.size _ ⟨g3, 513, c3⟩ rfl ((one_new w3 #[Sl.val ⟨g3, 513, c3⟩] 28).2.cell 0) (by rw [longOf_length]; omega) (by have := HX3.out.size; simp; omega) ?_; intro A4 c4 w4 hS4 hk4 hg4; rw [show (longOf h c q ++ [(⟨g3, 513, c3⟩ : Sl)]).length = q + 1 by simp [longOf_length]]; rw [longOf_snoc] at hS4; have HS4 := Lib.hid hS4; have HK4 := Lib.hid hk4; have HG4 := Lib.hid hg4; have HX4 := Lib.hid (HX3.out.trans ((below_new w3 (.cells #[Sl.val ⟨g3, 513, c3⟩] 28)).mono HX3.out.size)); have HM4 := Lib.hid (HM3.out.later (below_new w3 (.cells #[Sl.val ⟨g3, 513, c3⟩] 28)))))
                  have hsz := Nat.le_trans hBs HX4.out.size
                  have s5 := HS2.out.later HX4.out
                  have o5 := HO.out.later HX4.out hBs
                  have t5 := HT.out.later HX4.out
                  go_roundw
                  case rel =>
                    refine ⟨q + 1, A4, c4, extd h q g3, extd c q c3, by omega, by go_num, rfl, HS4.out, fun j hj => ?_, ?_, ?_, ?_⟩
                    · by_cases hjq : j < q
                      · rw [extd_lt hjq, extd_lt hjq]
                        have m5 := (HM.out j hjq).later HX4.out
                        exact m5.keeps_of HK4.out (s5.apart m5)
                      · obtain rfl : j = q := by omega
                        rw [extd_at, extd_at]
                        exact HM4.out.keeps_of HK4.out (s5.apart HM4.out)
                    · exact apart_grow HAP.out (fun i hi => by rw [of_some hi]; exact o5.1.lt ga rfl) HG4.out
                    · exact t5.keeps HK4.out (fun i h1 h2 => s5.apart_str t5 i h1 h2)
                    · exact o5.keeps HK4.out hsz (fun i hi => s5.ge i hi) (fun hh => HAP.out ga hh rfl) (fun j hj hh => s5.apart (o5.2.1.1 j hj).2 (f j) rfl hh)
                  case measure => simp [intOf]; omega
                · obtain rfl : q = 3 := by omega
                  rw [show ((3 : Nat) : Int) = 3 from rfl]
                  obtain ⟨gl, rfl, _⟩ := hS2.cell (k := 0) (by rw [longOf_length]; decide)
                  clear hS2 hM hap hT hO
                  go_wp2_with fail
                  go_loop [115] (fun i => ∃ q : Nat, q ≤ 3 ∧ i = .int .i64 q) (fun i => 3 - (intOf i).toNat)
                  case atStart => exact ⟨0, by omega, rfl⟩
                  case round =>
                    obtain ⟨q, hq, rfl⟩ := hrel
                    by_cases hq3 : q < 3
                    · obtain ⟨gl', hgl, hc⟩ := HS2.out.cell (k := q) (by rw [longOf_length]; exact hq3)
                      injection hgl with hgl
                      injection hgl with hgl
                      subst hgl
                      rw [longOf_at] at hc
                      replace hc : we.cell? ⟨gl, q, none⟩ = some (.slice (some ⟨h q, 0, none⟩) 513 (c q)) := hc
                      have hq30 : (q : Int) < 3 := by omega
                      have hmk := mark_wrap q hq3
                      go_wp2_with fail
                      go_loop [122] (fun i => ∃ r : Nat, r ≤ 513 ∧ i = .int .i64 r) (fun i => 513 - (intOf i).toNat)
                      case atStart => exact ⟨0, by omega, rfl⟩
                      case round =>
                        obtain ⟨r, hr, rfl⟩ := hrel
                        by_cases hr5 : r < 513
                        · have hm := HM.out q hq3
                          rw [longL_all] at hm
                          have hc2 : we.cell? ⟨h q, r, none⟩ = some (.int .u8 (n8 (mark q))) := by
                            have := hm.cell (k := r) (by rw [List.length_replicate]; exact hr5)
                            rw [List.getElem_replicate] at this
                            exact this
                          have hr50 : (r : Int) < 513 := by omega
                          have hne : (n8 (mark q) != n8 (mark q)) = false := by simp
                          have hcl := HO.out.slice q hq3
                          by_cases hr2 : r < 512
                          · have hm2 := (HO.out.2.1.1 q hq3).2
                            rw [HF.out q hq3] at hm2
                            have hc3 : we.cell? ⟨f q, r, none⟩ = some (.int .u8 (n8 (mark q))) := by
                              have := hm2.cell (k := r) (by rw [List.length_replicate]; exact hr2)
                              rw [List.getElem_replicate] at this
                              exact this
                            have hr20 : (r : Int) < 512 := by omega
                            clear hm hm2
                            go_wp2_with fail
                            go_round
                            case rel => exact ⟨r + 1, by omega, by go_num⟩
                            case measure => simp [intOf]; omega
                          · have hr20 : (512 : Int) ≤ (r : Int) := by omega
                            clear hm
                            go_wp2_with fail
                            go_round
                            case rel => exact ⟨r + 1, by omega, by go_num⟩
                            case measure => simp [intOf]; omega
                        · obtain rfl : r = 513 := by omega
                          rw [show ((513 : Nat) : Int) = 513 from rfl]
                          go_wp2_with fail
                          go_round
                          case rel => exact ⟨q + 1, by omega, by go_num⟩
                          case measure => simp [intOf]; omega
                    · obtain rfl : q = 3 := by omega
                      rw [show ((3 : Nat) : Int) = 3 from rfl]
                      obtain ⟨u, m, hu, hum, hmb, hn, hd⟩ := num_made k0 HK0.out.1 HK0.out.2
                      have HE := Lib.hid (show superL (num k0) = sup k0 k1 0 from rfl)
                      obtain ⟨n, hne⟩ : ∃ n, num k0 = n := ⟨_, rfl⟩
                      rw [hne] at hn hd HE
                      have hmn : 128 + (m : Int) = (n : Int) := by omega
                      have hn1 : 128 ≤ (n : Int) := hd.1
                      have hn2 : (n : Int) ≤ 16384 := hd.2
                      have HD := Lib.hid hd
                      clear hn hd hne
                      go_wp2_with fail
                      refine (super_full n _ HD.out (HW.out.below HO.out.2.2 hgw) (HH.out.below HO.out.2.2 hgh)).mono ?_
                      rintro e w9 ⟨g9, rfl, hm9, hb9⟩
                      rw [HE.out] at hm9
                      have t9 := HT.out.later hb9
                      obtain ⟨gt9, hgt9, ht9⟩ := t9.cell (k := 0) (by rw [textsOf_length]; decide)
                      injection hgt9 with hgt9
                      injection hgt9 with hgt9
                      subst hgt9
                      rw [textsOf_at] at ht9
                      have hst := fun x : Nat => str_any (w9.drewN x) (some ⟨g9, 0, none⟩) 512 (sup k0 k1 0) (hm9.drewN x).bytes 512 (sup_length _ _ _)
                      generalize sup k0 k1 0 = s9 at hst ht9
                      have HB9 := Lib.hid (HO.out.2.2.trans (hb9.mono hBs))
                      clear hm9 hb9 t9
                      go_wp2_with fail
                      go_quiet (first | (go_at_call 11; refine Calls.quiet_of_same (num_q _ _)))
                      go_wp2_with fail
                      go_ret
                      exact ⟨rfl, below_drewN HB9.out _⟩
end Go.Proofs.YtaijakknhmagoaaDoor
