/-
  THE WALKS OF geo: Of, Super, Read, Bit, Record.
-/
import Derived.Test.YtaijakknhmagoaaDoorGeoP
import Derived.Test.YtaijakknhmagoaaDoorSumO
import Derived.Test.YtaijakknhmagoaaDoorRecTo
import Derived.Test.YtaijakknhmagoaaDoorRow3
set_option linter.unusedVariables false
set_option linter.unusedSimpArgs false
namespace Go.Proofs.YtaijakknhmagoaaDoor
open Go.RowKit Rec Gp

theorem lay_any (g : Nat) (t : TypeId) (x b k y : Int) (w : World) (h : Is w g t #[.int .i64 x, .int .i64 b]) (hx0 : 0 ≤ x) (hx1 : x ≤ 1000000) (hk0 : 0 ≤ k) (hk1 : k ≤ 1000000) (hy : x + k = y) :
    Calls Tryd.prog 20 #[.pointer (some ⟨g, 0, none⟩), .int .i64 k] w fun e w' => e = .returned (.int .i64 x) ∧ Is w' g t #[.int .i64 y, .int .i64 b] ∧ Keeps (fun i => i = g) w w' := by
  have hc := h.cell 0
  have hf := h.free 0
  have hc : w.cell? ⟨g, 0, none⟩ = some (.int .i64 x) := hc
  have hw : IntKind.i64.wrap (x + k) = x + k := IntWalk.i64_in _ (by omega)
  subst hy
  have H := Lib.hid h
  clear h
  go_enter Tryd.func20, Tryd.ntmps20
  go_wp2_with fail
  go_ret
  refine ⟨rfl, H.out.put 0 _, ?_⟩
  have hb : Below 0 w (w.setCell ⟨g, 0, none⟩ (.int .i64 (x + k))) := (Below.refl _ _).setCell (Nat.zero_le _) _
  exact ⟨hb.os, hb.tape, hb.output, hb.size, fun i hi hn => heap_setCell_other w ⟨g, 0, none⟩ i _ hn⟩

def geoCells (n : Nat) : Array Value := #[.int .i64 (n : Int), .int .i64 98, .int .i64 (ino n : Int), .int .i64 (dat n : Int), .int .i64 (cnt n : Int)]
def noCells : Array Value := #[.int .i64 0, .int .i64 0, .int .i64 0, .int .i64 0, .int .i64 0]

theorem geo_of_bad (n : Int) (w : World) (h : ¬ Disk n) :
    Calls Tryd.prog 9 #[.int .i64 n] w fun e w' => e = .returned (.tuple #[.agg noCells, .int .i64 70]) ∧ Below w.heap.size w w' := by
  unfold Disk at h
  by_cases h1 : n < 128
  · clear h
    go_enter Tryd.func9, Tryd.ntmps9
    go_wp2_with fail
    exact bodyPost_ret (v := .tuple #[.agg noCells, .int .i64 70]) (by simp [results, Tryd.results9, noCells, go_sem]) rfl ⟨rfl, (Below.refl _ _).alloc (Nat.le_refl _) _⟩
  · have h2 : 16384 < n := by omega
    have h1 : 128 ≤ n := by omega
    clear h
    go_enter Tryd.func9, Tryd.ntmps9
    go_wp2_with fail
    exact bodyPost_ret (v := .tuple #[.agg noCells, .int .i64 70]) (by simp [results, Tryd.results9, noCells, go_sem]) rfl ⟨rfl, (Below.refl _ _).alloc (Nat.le_refl _) _⟩

set_option maxHeartbeats 1600000 in
theorem geo_of_ok (n : Nat) (w : World) (h : Disk n) :
    Calls Tryd.prog 9 #[.int .i64 (n : Int)] w fun e w' => e = .returned (.tuple #[.agg (geoCells n), .int .i64 0]) ∧ Below w.heap.size w w' := by
  unfold Disk at h
  obtain ⟨h1, h2⟩ := h
  have hI := (show ino n ≤ 200 by unfold ino; omega)
  have hD := (show dat n ≤ 1000 by unfold dat ino; omega)
  have hC := (show cnt n ≤ 4000 by unfold cnt; omega)
  have hT := (show n / 64 ≤ 300 by omega)
  have hB := (show (n + 4095) / 4096 ≤ 10 by omega)
  have hIe := Lib.hid (show (98 : Int) + (((n + 4095) / 4096 : Nat) : Int) = (ino n : Int) by unfold ino; omega)
  have hDe := Lib.hid (show (ino n : Int) + ((n / 64 : Nat) : Int) = (dat n : Int) by unfold dat; omega)
  have hDe0 := Lib.hid (show (dat n : Int) + 0 = (dat n : Int) by omega)
  have hCe := Lib.hid (show ((n / 64 : Nat) : Int) * 8 = (cnt n : Int) by unfold cnt; omega)
  have hq1 := Lib.hid (show ((n : Int) + 4095) / 4096 = (((n + 4095) / 4096 : Nat) : Int) by omega)
  have hq2 := Lib.hid (show (n : Int) / 64 = ((n / 64 : Nat) : Int) by omega)
  obtain ⟨hb0, i0, i1⟩ := two_new w noCells #[.int .i64 0, .int .i64 (n : Int)] 24 48
  have HB0 := Lib.hid hb0
  have HI0 := Lib.hid i0
  have HI1 := Lib.hid i1
  clear hb0 i0 i1
  go_enter Tryd.func9, Tryd.ntmps9
  go_wp2_with fail
  refine (lay_any (w.heap.size + 1) 48 0 n 98 98 _ HI1.out (by omega) (by omega) (by omega) (by omega) rfl).mono ?_
  rintro e w1 ⟨rfl, j1, k1⟩
  have J0 := Lib.hid (HI0.out.keeps k1 (by omega))
  have B1 := Lib.hid (HB0.out.trans (k1.below (by simp; omega) (fun i hi => by omega)))
  have J1 := Lib.hid j1
  have hc1 : w1.cell? ⟨w.heap.size + 1, 1, none⟩ = some (.int .i64 (n : Int)) := j1.cell 1
  have hl1 := j1.lt
  clear j1 k1 HI0 HI1 HB0
  go_wp2_with fail
  obtain ⟨hbn, gn⟩ := one_new w1 #[.int .i64 (n : Int), .int .i64 0, .int .i64 0, .int .i64 0, .int .i64 ((n : Int) / 64 * 8)] 24
  have hIe := (show (98 : Int) + ((n : Int) + 4096 - 1) / 4096 = (ino n : Int) by unfold ino; omega)
  refine (lay_any (w.heap.size + 1) 48 98 n (((n : Int) + 4096 - 1) / 4096) (ino n) _ (J1.out.alloc _) (by omega) (by omega) (by omega) (by omega) hIe).mono ?_
  rintro e w2 ⟨rfl, j2, k2⟩
  have G2 := Lib.hid (gn.keeps k2 (by omega))
  have J02 := Lib.hid ((J0.out.alloc _).keeps k2 (by omega))
  have B2 := Lib.hid (B1.out.trans ((hbn.mono B1.out.size).trans (k2.below (by simp; omega) (fun i hi => by omega))))
  have J2 := Lib.hid j2
  have hl2 := j2.lt
  have hc2 : w2.cell? ⟨w1.heap.size, 1, none⟩ = some (.int .i64 0) := G2.out.cell 1
  have hf2 := G2.out.free 1
  clear j2 k2 hbn gn J0 J1 B1 hIe hc1
  go_wp2_with fail
  have hDe := (show (ino n : Int) + (n : Int) / 64 = (dat n : Int) by unfold dat; omega)
  refine (lay_any (w.heap.size + 1) 48 (ino n) n ((n : Int) / 64) (dat n) _ (J2.out.other ⟨w1.heap.size, 1, none⟩ (by show w.heap.size + 1 ≠ w1.heap.size; omega) _) (by omega) (by omega) (by omega) (by omega) hDe).mono ?_
  rintro e w3 ⟨rfl, j3, k3⟩
  have G3 := Lib.hid ((G2.out.put 1 (.int .i64 98)).keeps k3 (by omega))
  have J03 := Lib.hid ((J02.out.other ⟨w1.heap.size, 1, none⟩ (by show w.heap.size ≠ w1.heap.size; omega) (.int .i64 98)).keeps k3 (by omega))
  have B3 := Lib.hid ((B2.out.setCell (p := ⟨w1.heap.size, 1, none⟩) (by show w.heap.size ≤ w1.heap.size; omega) (.int .i64 98)).trans (k3.below (by simp; omega) (fun i hi => by omega)))
  have J3 := Lib.hid j3
  have hl3 := j3.lt
  have hc3 : w3.cell? ⟨w1.heap.size, 2, none⟩ = some (.int .i64 0) := G3.out.cell 2
  have hf3 := G3.out.free 2
  clear j3 k3 J02 J2 B2 hDe hc2 hf2
  go_wp2_with fail
  have hDe0 := (show (dat n : Int) + 0 = (dat n : Int) by omega)
  refine (lay_any (w.heap.size + 1) 48 (dat n) n 0 (dat n) _ (J3.out.other ⟨w1.heap.size, 2, none⟩ (by show w.heap.size + 1 ≠ w1.heap.size; omega) _) (by omega) (by omega) (by omega) (by omega) hDe0).mono ?_
  rintro e w4 ⟨rfl, j4, k4⟩
  have G4 := ((G3.out.put 2 (.int .i64 (ino n : Int))).keeps k4 (by omega))
  have J04 := ((J03.out.other ⟨w1.heap.size, 2, none⟩ (by show w.heap.size ≠ w1.heap.size; omega) (.int .i64 (ino n : Int))).keeps k4 (by omega))
  have B4 := Lib.hid ((B3.out.setCell (p := ⟨w1.heap.size, 2, none⟩) (by show w.heap.size ≤ w1.heap.size; omega) (.int .i64 (ino n : Int))).trans (k4.below (by simp; omega) (fun i hi => by omega)))
  have c40 : w4.cell? ⟨w1.heap.size, 0, none⟩ = some (.int .i64 (n : Int)) := G4.cell 0
  have c41 : w4.cell? ⟨w1.heap.size, 1, none⟩ = some (.int .i64 98) := G4.cell 1
  have c42 : w4.cell? ⟨w1.heap.size, 2, none⟩ = some (.int .i64 (ino n : Int)) := G4.cell 2
  have c43 : w4.cell? ⟨w1.heap.size, 3, none⟩ = some (.int .i64 0) := G4.cell 3
  have c44 : w4.cell? ⟨w1.heap.size, 4, none⟩ = some (.int .i64 ((n : Int) / 64 * 8)) := G4.cell 4
  have d40 : w4.cell? ⟨w.heap.size, 0, none⟩ = some (.int .i64 0) := J04.cell 0
  have d41 : w4.cell? ⟨w.heap.size, 1, none⟩ = some (.int .i64 0) := J04.cell 1
  have d42 : w4.cell? ⟨w.heap.size, 2, none⟩ = some (.int .i64 0) := J04.cell 2
  have d43 : w4.cell? ⟨w.heap.size, 3, none⟩ = some (.int .i64 0) := J04.cell 3
  have d44 : w4.cell? ⟨w.heap.size, 4, none⟩ = some (.int .i64 0) := J04.cell 4
  have f4 : ∀ i, w4.frozen? ⟨w1.heap.size, i, none⟩ = false := fun i => G4.free i
  have f5 : ∀ i, w4.frozen? ⟨w.heap.size, i, none⟩ = false := fun i => J04.free i
  have hne : w.heap.size ≠ w1.heap.size := by omega
  have hne2 : w1.heap.size ≠ w.heap.size := by omega
  clear j4 k4 J03 J3 B3 hDe0 hc3 hf3 G3 G4 J04 G2
  go_wp2_with fail
  rw [show (geoCells n) = #[.int .i64 (n : Int), .int .i64 98, .int .i64 (ino n : Int), .int .i64 (dat n : Int), .int .i64 ((n : Int) / 64 * 8)] by unfold geoCells; rw [show ((cnt n : Nat) : Int) = (n : Int) / 64 * 8 by unfold cnt; omega]]
  refine bodyPost_ret (v := .tuple #[.agg #[.int .i64 (n : Int), .int .i64 98, .int .i64 (ino n : Int), .int .i64 (dat n : Int), .int .i64 ((n : Int) / 64 * 8)], .int .i64 0]) (by simp [results, Tryd.results9, go_sem, d40, d41, d42, d43, d44, hne, hne2]) rfl ⟨rfl, ?_⟩
  exact (((((B4.out.setCell (p := ⟨w1.heap.size, 3, none⟩) (by show w.heap.size ≤ w1.heap.size; omega) _).setCell (p := ⟨w.heap.size, 0, none⟩) (Nat.le_refl _) _).setCell (p := ⟨w.heap.size, 1, none⟩) (Nat.le_refl _) _).setCell (p := ⟨w.heap.size, 2, none⟩) (Nat.le_refl _) _).setCell (p := ⟨w.heap.size, 3, none⟩) (Nat.le_refl _) _).setCell (p := ⟨w.heap.size, 4, none⟩) (Nat.le_refl _) _

/- THE SUPER BLOCK -/
theorem zs_add (a b : Nat) : zs (a + b) = zs a ++ zs b := by unfold zs; rw [List.replicate_append_replicate]
theorem zs_made (k : Nat) : List.replicate k (0 : UInt8) = zs k := rfl
theorem mag_full : Full mag := by unfold Full mag; decide
theorem super1 : putTextE (zs 512).length 0 8 mag = 0 ∧ putTextL (zs 512) 0 8 mag = mag ++ zs 504 := by
  have h := putText_mid [] (zs 8) mag (zs 504) 0 0 8 mag_full rfl (zs_length 8) rfl
  rw [List.nil_append, ← zs_add, List.nil_append, List.replicate_zero, List.append_nil] at h
  exact h
theorem super2 (n : Nat) (hn : n < 4294967296) : putE (mag ++ zs 504).length 8 4 n = 0 ∧ putL (mag ++ zs 504) 8 4 n = head12 n ++ zs 500 := by
  have h := put_mid mag (zs 500) 4 n rfl (.inr hn) (zs 4) (zs_length 4)
  rw [List.append_assoc, ← zs_add] at h
  exact h
theorem super3 (n : Nat) : putE (head12 n ++ zs 500).length 12 4 (chk n) = 0 ∧ putL (head12 n ++ zs 500) 12 4 (chk n) = superL n := by
  have h := put_mid (head12 n) (zs 496) 4 (chk n) rfl (.inr (chk_lt n)) (zs 4) (zs_length 4)
  rw [List.append_assoc, ← zs_add, head12_length] at h
  exact h
/-- sum.Of, its answer named -/
theorem sum_of_to (A : Option Addr) (cap : Nat) (l : List UInt8) (len : Nat) (hl : l.length = len) (V : Nat) (hV : (Crc.crc l).toNat = V) (w : World) (hw : HalfAt w) (hb : Bytes w A l) (hm : len ≤ 9223372036854775807) :
    Calls Tryd.prog 23 #[.slice A len cap] w fun e w' => e = .returned (.int .u32 (V : Int)) ∧ w = w' := by
  subst hl
  subst hV
  exact of_any A cap l w hw hb hm
/-- what a super block's maker leaves: the bytes lie in a new block -/
def SuperTo (n : Nat) (w : World) (e : Ending) (w' : World) : Prop := ∃ g cap, e = .returned (.tuple #[.slice (some ⟨g, 0, none⟩) 512 cap, .int .i64 0]) ∧ Mine w' w.heap.size (some ⟨g, 0, none⟩) cap (superL n) ∧ Below w.heap.size w w'

theorem super_bad (n : Int) (w : World) (h : ¬ Disk n) :
    Calls Tryd.prog 10 #[.int .i64 n] w fun e w' => e = .returned (.tuple #[.slice none 0 0, .int .i64 70]) ∧ Below w.heap.size w w' := by
  have H := Lib.hid h
  clear h
  go_enter Tryd.func10, Tryd.ntmps10
  go_wp2_with (go_at_call 9; refine (geo_of_bad n _ H.out).mono ?_; rintro e w1 ⟨rfl, hb1⟩; unfold noCells)
  go_ret2
  exact ⟨rfl, hb1.alloc hb1.size _⟩

/-- .. and the slice is full -/
def SuperFull (n : Nat) (w : World) (e : Ending) (w' : World) : Prop := ∃ g, e = .returned (.tuple #[.slice (some ⟨g, 0, none⟩) 512 512, .int .i64 0]) ∧ Mine w' w.heap.size (some ⟨g, 0, none⟩) 512 (superL n) ∧ Below w.heap.size w w'
set_option maxHeartbeats 1600000 in
theorem super_full (n : Nat) (w : World) (h : Disk n) (hw : WidthsAt w) (hh : HalfAt w) : Calls Tryd.prog 10 #[.int .i64 (n : Int)] w (SuperFull n w) := by
  have hn2 : (n : Int) ≤ 16384 := h.2
  have hnn : n < 4294967296 := by omega
  have H := Lib.hid h
  have HW := Lib.hid hw
  have HH := Lib.hid hh
  have hgw := hw.lt
  have hgh := hh.lt
  have S1 := Lib.hid super1
  have S2 := Lib.hid (super2 n hnn)
  have S3 := Lib.hid (super3 n)
  obtain ⟨c, hc⟩ : ∃ c, chk n = c := ⟨_, rfl⟩
  have hcl := chk_lt n
  rw [hc] at hcl S3
  have HC := Lib.hid (show (Crc.crc (head12 n)).toNat = c from hc)
  have H12 := Lib.hid (head12_length n)
  have hci : (c : Int) ≤ 4294967295 := by omega
  clear hc h hw hh
  go_enter Tryd.func10, Tryd.ntmps10
  go_wp2_with (first
    | (go_at_call 9; refine (geo_of_ok n _ H.out).mono ?_; rintro e w1 ⟨rfl, hb1⟩; unfold geoCells; have HB2 := Lib.hid (hb1.alloc hb1.size (.cells #[.int .i64 (n : Int), .int .i64 98, .int .i64 (ino n : Int), .int .i64 (dat n : Int), .int .i64 (cnt n : Int)] 24)); have hs2 : w.heap.size ≤ w1.heap.size := hb1.size)
    | (refine wpList_make_u8 rfl (.const (.int .i64 512)) (.const (.int .i64 512)) rfl w.heap.size 512 rfl rfl (by decide) HB2.out.size ?_; rw [zs_made]; intro w3 hm3 hg3; obtain ⟨g, hg⟩ : ∃ g, (w1.alloc (.cells #[.int .i64 (n : Int), .int .i64 98, .int .i64 (ino n : Int), .int .i64 (dat n : Int), .int .i64 (cnt n : Int)] 24)).heap.size = g := ⟨_, rfl⟩; rw [hg] at hm3 ⊢; clear hg; have HM3 := Lib.hid hm3; have HB3 := Lib.hid (HB2.out.trans (grown_below_none HB2.out.size hg3)); have hs3 := HB3.out.size)
    | (go_at_call 21; refine (putText_to w.heap.size (some ⟨g, 0, none⟩) 512 (zs 512) 512 (zs_length 512) 0 8 mag 0 (mag ++ zs 504) S1.out.1 S1.out.2 _ HM3.out hs3 (by decide) (by decide) (by decide) (by decide)).mono ?_; rintro e w4 ⟨rfl, hm4, hk4⟩; have HM4 := Lib.hid hm4; have HB4 := Lib.hid (HB3.out.trans (hk4.below hs3 HM3.out.of_ge)); have hs4 := HB4.out.size)
    | (go_at_call 22; with_reducible refine (put_to w.heap.size (some ⟨g, 0, none⟩) 512 (mag ++ zs 504) 512 (by simp [mag, zs_length]) 8 4 n 0 (head12 n ++ zs 500) S2.out.1 S2.out.2 _ (HW.out.below HB4.out hgw) HM4.out (by decide) (by decide) (by decide) (by omega)).mono ?_; rintro e w5 ⟨rfl, hm5, hk5⟩; have HM5 := Lib.hid hm5; have HB5 := Lib.hid (HB4.out.trans (hk5.below hs4 HM4.out.of_ge)); have hs5 := HB5.out.size)
    | (go_at_call 23; refine (sum_of_to (some ⟨g, 0, none⟩) 512 (head12 n) 12 H12.out c HC.out _ (HH.out.below HB5.out hgh) (by have h := HM5.out.bytes.take 12; rw [List.take_append_of_le_length (by rw [H12.out]; exact Nat.le_refl _), List.take_of_length_le (by rw [H12.out]; exact Nat.le_refl _)] at h; exact h) (by decide)).mono ?_; rintro e w' ⟨rfl, rfl⟩)
    | (go_at_call 22; with_reducible refine (put_to w.heap.size (some ⟨g, 0, none⟩) 512 (head12 n ++ zs 500) 512 (by rw [List.length_append, H12.out, zs_length]) 12 4 c 0 (superL n) S3.out.1 S3.out.2 _ (HW.out.below HB5.out hgw) HM5.out (by decide) (by decide) (by decide) (by omega)).mono ?_; rintro e w6 ⟨rfl, hm6, hk6⟩; have HM6 := Lib.hid hm6; have HB6 := Lib.hid (HB5.out.trans (hk6.below hs5 HM5.out.of_ge))))
  go_ret2
  exact ⟨g, rfl, HM6.out, HB6.out⟩
theorem super_ok (n : Nat) (w : World) (h : Disk n) (hw : WidthsAt w) (hh : HalfAt w) : Calls Tryd.prog 10 #[.int .i64 (n : Int)] w (SuperTo n w) :=
  (super_full n w h hw hh).mono fun e w' ⟨g, h1, h2, h3⟩ => ⟨g, 512, h1, h2, h3⟩
end Go.Proofs.YtaijakknhmagoaaDoor
