/-
  THE WALKS OF head: the numbers, the blocks, the sum.
  THE WALKS OF head (2): the blocks' lengths, the sum.
-/
import Derived.Test.YtimddchgmocdaaaDoorHd
import Derived.Test.YtimddchgmocdaaaDoorBl
import Derived.Test.YtimddchgmocdaaaDoorSumJ
import Derived.Test.YtimddchgmocdaaaDoorNum
set_option linter.unusedVariables false
set_option linter.unusedSimpArgs false
namespace Go.Proofs.YtimddchgmocdaaaDoor
open Go.RowKit Rec

/-- rows of blocks' bytes -/
def DataRow (w : World) (base a db : Nat) (A : Option Addr) (cap : Nat) (data : List (List UInt8)) : Prop :=
  ∃ cs, Own w db 42 1 A data.length cap cs ∧ ∀ k (h : k < data.length), ∃ B c, cs[k]? = some (.slice B 512 c) ∧ data[k].length = 512 ∧ Buf w base (some a) B data[k]
theorem DataRow.later {w w2 : World} {base a db cap : Nat} {A : Option Addr} {data : List (List UInt8)} (h : DataRow w base a db A cap data) (hb : Below w.heap.size w w2) : DataRow w2 base a db A cap data := by
  obtain ⟨cs, hO, hc⟩ := h
  refine ⟨cs, hO.later hb, fun k hk => ?_⟩
  obtain ⟨B, c, h1, h2, h3⟩ := hc k hk
  exact ⟨B, c, h1, h2, h3.later hb⟩
theorem DataRow.at_ {w : World} {base a db cap : Nat} {A : Option Addr} {data : List (List UInt8)} (h : DataRow w base a db A cap data) {k : Nat} (hk : k < data.length) :
    ∃ g B c, A = some ⟨g, 0, none⟩ ∧ w.cell? ⟨g, k, none⟩ = some (.slice B 512 c) ∧ data[k].length = 512 ∧ Buf w base (some a) B data[k] := by
  obtain ⟨cs, hO, hc⟩ := h
  obtain ⟨B, c, h1, h2, h3⟩ := hc k hk
  obtain ⟨g, rfl, hcell⟩ := hO.at1 hk h1
  exact ⟨g, B, c, rfl, hcell, h2, h3⟩
/-- numbers that rise, in 98 .. n-1, 1 to 96 of them -/
structure RiseN (n : Nat) (nums : List Nat) : Prop where
  one : 1 ≤ nums.length
  few : nums.length ≤ 96
  low : ∀ k (h : k < nums.length), 98 ≤ nums[k] ∧ nums[k] < n
  up : ∀ k (h : k + 1 < nums.length), nums[k] < nums[k + 1]
def prevN (nums : List Nat) : Nat → Nat
  | 0 => 97
  | k + 1 => nums.getD k 0
theorem RiseN.prev {n : Nat} {nums : List Nat} (h : RiseN n nums) {k : Nat} (hk : k < nums.length) : prevN nums k < nums[k] := by
  cases k with
  | zero => have := (h.low 0 hk).1; show 97 < _; omega
  | succ k =>
    show nums.getD k 0 < _
    rw [List.getD_eq_getElem?_getD, List.getElem?_eq_getElem (by omega)]
    exact h.up k hk
theorem prevN_succ (nums : List Nat) (k : Nat) (hk : k < nums.length) : prevN nums (k + 1) = nums[k] := by
  show nums.getD k 0 = _
  rw [List.getD_eq_getElem?_getD, List.getElem?_eq_getElem hk]; rfl
abbrev ints (nums : List Nat) : List Int := List.map (fun (i : Nat) => ((i : Nat) : Int)) nums
theorem ints_len (nums : List Nat) : (ints nums).length = nums.length := by simp [ints]
theorem nums_at {w : World} {base cap : Nat} {A : Option Addr} {nums : List Nat} (h : Nums w base A cap (ints nums)) {k : Nat} (hk : k < nums.length) : ∃ g, A = some ⟨g, 0, none⟩ ∧ w.cell? ⟨g, k, none⟩ = some (.int .i64 (nums[k] : Int)) := by
  obtain ⟨g, h1, h2⟩ := h.cell (k := k) (by rw [ints_len]; exact hk)
  exact ⟨g, h1, by rw [h2]; simp [ints]⟩

set_option maxHeartbeats 800000 in
theorem hmay1_any (bl bn last n i : Nat) (w : World) (h1 : Is w bl 3 #[.int .i64 (last : Int)]) (h2 : Is w bn 3 #[.int .i64 (n : Int)]) (hlt : last < i) (hin : i < n) (hne : bl ≠ bn) :
    Calls Tryd.prog 63 #[.int .i64 (i : Int), .pointer (some ⟨bl, 0, none⟩), .pointer (some ⟨bn, 0, none⟩)] w fun e w' => e = .returned (.bool false) ∧ w' = w.setCell ⟨bl, 0, none⟩ (.int .i64 (i : Int)) := by
  have c1 : w.cell? ⟨bl, 0, none⟩ = some (.int .i64 (last : Int)) := h1.cell 0
  have f1 := h1.free 0
  have c2 : w.cell? ⟨bn, 0, none⟩ = some (.int .i64 (n : Int)) := h2.cell 0
  have c2' : (w.setCell ⟨bl, 0, none⟩ (.int .i64 (i : Int))).cell? ⟨bn, 0, none⟩ = some (.int .i64 (n : Int)) := (World.cell?_of_block (a := ⟨bn, 0, none⟩) (heap_setCell_other w ⟨bl, 0, none⟩ bn _ (fun e => hne e.symm))).trans c2
  have h3 : (last : Int) < (i : Int) := by omega
  have h4 : (i : Int) < (n : Int) := by omega
  clear h1 h2 hlt hin hne
  go_enter Tryd.func63, Tryd.ntmps63
  go_wp2_with fail
  go_ret
  exact ⟨by show Ending.returned (.bool (decide (i ≤ last) || decide (n ≤ i))) = _; rw [decide_eq_false (by omega), decide_eq_false (by omega)]; rfl, rfl⟩
set_option maxHeartbeats 1600000 in
theorem hmay_any (nb n : Nat) (A : Option Addr) (cap : Nat) (nums : List Nat) (w : World) (h : Nums w nb A cap (ints nums)) (hr : RiseN n nums) :
    Calls Tryd.prog 46 #[.slice A nums.length cap, .int .i64 (n : Int)] w fun e w' => e = .returned (.bool true) ∧ Below w.heap.size w w' := by
  have H := Lib.hid h
  have HR := Lib.hid hr
  have hlen := hr.few
  have hone := hr.one
  obtain ⟨hb2, j1, j2⟩ := two_new w #[.int .i64 (n : Int)] #[.int .i64 97] 3 3
  clear h hr
  go_enter Tryd.func46, Tryd.ntmps46
  go_wp2_with fail
  go_loopw [12] (fun u wr => ∃ k : Nat, k ≤ nums.length ∧ u = .int .i64 k ∧ Below w.heap.size w wr ∧ Is wr w.heap.size 3 #[.int .i64 (n : Int)] ∧ Is wr (w.heap.size + 1) 3 #[.int .i64 (prevN nums k : Nat)]) (fun u _ => nums.length - (intOf u).toNat)
  case atStart => exact ⟨0, Nat.zero_le _, rfl, hb2, j1, j2⟩
  case round =>
    obtain ⟨k, hk, rfl, hb, q1, q2⟩ := hrel
    have HB := Lib.hid hb
    have Q1 := Lib.hid q1
    have Q2 := Lib.hid q2
    clear hb q1 q2
    by_cases hlt : k < nums.length
    · have hk0 : (k : Int) < (nums.length : Int) := by omega
      have hk1 : (0 : Int) ≤ (k : Int) := by omega
      obtain ⟨g, rfl, c1⟩ := nums_at (H.out.later HB.out) hlt
      have hp := HR.out.prev hlt
      have hl := (HR.out.low k hlt).2
      have hs := prevN_succ nums k hlt
      obtain ⟨x, hx⟩ : ∃ x, nums[k] = x := ⟨_, rfl⟩
      obtain ⟨p, hp'⟩ : ∃ p, prevN nums k = p := ⟨_, rfl⟩
      rw [hx] at hp hl hs c1
      rw [hp'] at hp Q2
      have HS := Lib.hid hs
      have HP := Lib.hid hp
      have HL := Lib.hid hl
      clear hs hx hp' hp hl
      go_wp2_with (go_at_call 63
                   refine (hmay1_any (w.heap.size + 1) w.heap.size p n x wr Q2.out Q1.out HP.out HL.out (by omega)).mono ?_
                   rintro e w9 ⟨rfl, rfl⟩)
      go_roundw
      case rel =>
        refine ⟨k + 1, by omega, by go_num, HB.out.setCell (p := ⟨w.heap.size + 1, 0, none⟩) (Nat.le_succ _) _, ?_, ?_⟩
        · exact (heap_setCell_other wr ⟨w.heap.size + 1, 0, none⟩ w.heap.size _ (by show w.heap.size ≠ w.heap.size + 1; omega)).trans Q1.out
        · rw [HS.out]; exact Q2.out.put 0 _
      case measure => simp [intOf]; omega
    · obtain rfl : nums.length = k := by omega
      have e1 : (1 : Int) ≤ (nums.length : Int) := by omega
      have e2 : (nums.length : Int) ≤ 96 := by omega
      go_wp2_with fail
      go_ret
      exact ⟨rfl, HB.out⟩
end Go.Proofs.YtimddchgmocdaaaDoor
set_option linter.unusedVariables false
set_option linter.unusedSimpArgs false
namespace Go.Proofs.YtimddchgmocdaaaDoor
open Go.RowKit Rec

set_option maxHeartbeats 1600000 in
theorem are_any (base a db : Nat) (A : Option Addr) (cap : Nat) (data : List (List UInt8)) (n : Nat) (w : World) (h : DataRow w base a db A cap data) (hn : data.length = n) (hm : n ≤ 1000000) :
    Calls Tryd.prog 47 #[.slice A n cap, .int .i64 (n : Int)] w fun e w' => e = .returned (.bool true) ∧ w = w' := by
  subst hn
  have H := Lib.hid h
  clear h
  go_enter Tryd.func47, Tryd.ntmps47
  go_wp2_with fail
  go_loop [9] (fun u => ∃ k : Nat, k ≤ data.length ∧ u = .int .i64 k) (fun u => data.length - (intOf u).toNat)
  case atStart => exact ⟨0, Nat.zero_le _, rfl⟩
  case round =>
    obtain ⟨k, hk, rfl⟩ := hrel
    by_cases hlt : k < data.length
    · have hk0 : (k : Int) < (data.length : Int) := by omega
      have hk1 : (0 : Int) ≤ (k : Int) := by omega
      obtain ⟨g, B, c, rfl, c1, _, _⟩ := H.out.at_ hlt
      go_wp2_with fail
      go_round
      case rel => exact ⟨k + 1, by omega, by go_num⟩
      case measure => simp [intOf]; omega
    · obtain rfl : data.length = k := by omega
      go_wp2_with fail
      go_ret
      exact ⟨by first | rfl | (simp), rfl⟩
theorem of_to (A : Option Addr) (cap : Nat) (l : List UInt8) (len : Nat) (hlen : l.length = len) (w : World) (hw : HalfAt w) (hl : Bytes w A l) (hm : len ≤ 9223372036854775807) :
    Calls Tryd.prog 68 #[.slice A len cap] w fun e w' => e = .returned (.int .u32 (n32 (Crc.crc l))) ∧ w = w' := by
  subst hlen
  exact of_any A cap l w hw hl hm
theorem sumS_next (h : List UInt8) (data : List (List UInt8)) (k : Nat) (hk : k < data.length) (h5 : data[k].length = 512) : Hd.sumS h (data.take (k + 1)) = Crc.zeros 512 (Hd.sumS h (data.take k)) ^^^ Crc.crc data[k] := by
  rw [take_snoc data k hk]
  unfold Hd.sumS
  rw [List.foldl_append]
  show Crc.zeros data[k].length _ ^^^ _ = _
  rw [h5]
set_option maxHeartbeats 1600000 in
theorem sumOf_any (base a db : Nat) (H0 : Option Addr) (hc : Nat) (hb h2 : List UInt8) (A : Option Addr) (cap : Nat) (data : List (List UInt8)) (n : Nat) (w : World) (h : DataRow w base a db A cap data) (hn : data.length = n) (hm : n ≤ 1000000)
    (hw : WidthsAt w) (hh : HalfAt w) (h5 : hb.length = 512) (hby : Bytes w H0 hb) (hp : putE hb.length 12 4 0 = 0 ∧ putL hb 12 4 0 = h2) (h25 : h2.length = 512) :
    Calls Tryd.prog 51 #[.slice H0 512 hc, .slice A n cap] w fun e w' => e = .returned (.int .u32 (n32 (Hd.sumS h2 data))) ∧ Below w.heap.size w w' := by
  subst hn
  have hA : H0 ≠ none := by
    obtain ⟨b, off, rfl, _⟩ := hby.at_ (k := 0) (by omega)
    simp
  have HD := Lib.hid h
  have HW := Lib.hid hw
  have HH := Lib.hid hh
  have H5 := Lib.hid h5
  have H25 := Lib.hid h25
  have HBY := Lib.hid hby
  have HP := Lib.hid hp
  have HA := Lib.hid hA
  clear h hw hh h5 hby hp h25 hA
  go_enter Tryd.func51, Tryd.ntmps51
  go_wp2_with (first
    | (go_at_call 67
       refine (bclone_any H0 512 hc hb H5.out w HBY.out (fun e => absurd e HA.out) HA.out (by decide)).mono ?_
       rintro e w1 ⟨⟨A2, c2, rfl, hM⟩, hb1⟩
       have HM := Lib.hid hM
       have HB1 := Lib.hid hb1
       have HW1 := Lib.hid (HW.out.below hb1 HW.out.lt)
       clear hM hb1)
    | (go_at_call 50
       refine (put_to w.heap.size A2 c2 hb 512 H5.out 12 4 0 0 h2 HP.out.1 HP.out.2 w1 HW1.out HM.out (by decide) (by decide) (by decide) (by decide)).mono ?_
       rintro e w2 ⟨rfl, hM2, hK2⟩
       have HM2 := Lib.hid hM2
       have HB2 := Lib.hid (show Below w.heap.size w w2 from HB1.out.trans (hK2.below HB1.out.size (fun i hi => HM.out.of_ge i hi)))
       clear hM2 hK2)
    | (go_at_call 68
       refine (of_to A2 c2 h2 512 H25.out w2 (HH.out.below HB2.out HH.out.lt) HM2.out.bytes (by decide)).mono ?_
       rintro e w3 ⟨rfl, rfl⟩))
  have HH2 := Lib.hid (HH.out.below HB2.out HH.out.lt)
  go_loopw [6, 17] (fun v u wr => ∃ k : Nat, k ≤ data.length ∧ u = .int .i64 k ∧ v = .int .u32 (n32 (Hd.sumS h2 (data.take k))) ∧ Below w.heap.size w wr) (fun v u _ => data.length - (intOf u).toNat)
  case atStart => exact ⟨0, Nat.zero_le _, rfl, rfl, HB2.out⟩
  case round =>
    obtain ⟨k, hk, rfl, rfl, hb⟩ := hrel
    have HB := Lib.hid hb
    clear hb
    by_cases hlt : k < data.length
    · have hk0 : (k : Int) < (data.length : Int) := by omega
      have hk1 : (0 : Int) ≤ (k : Int) := by omega
      obtain ⟨g, B, c, rfl, c1, hx5, hbuf⟩ := (HD.out.later HB.out).at_ hlt
      have hnx := sumS_next h2 data k hlt hx5
      obtain ⟨x, hx⟩ : ∃ x, data[k] = x := ⟨_, rfl⟩
      rw [hx] at hx5 hbuf hnx
      have HX5 := Lib.hid hx5
      have HBF := Lib.hid hbuf.bytes
      have HNX := Lib.hid hnx
      clear hx hx5 hbuf hnx
      go_wp2_with (first
        | (go_at_call 68
           refine (of_to B c x 512 HX5.out wr (HH.out.below HB.out HH.out.lt) HBF.out (by decide)).mono ?_
           rintro e w3 ⟨rfl, rfl⟩)
        | (go_at_call 69
           refine (join_ok (Hd.sumS h2 (data.take k)) (Crc.crc x) 512 wr (HH.out.below HB.out HH.out.lt) (by decide)).mono ?_
           rintro e w4 ⟨rfl, hb4⟩
           have HB4 := Lib.hid hb4
           clear hb4))
      go_roundw
      case rel => exact ⟨k + 1, by omega, by go_num, by rw [HNX.out], HB.out.trans (HB4.out.mono HB.out.size)⟩
      case measure => simp [intOf]; omega
    · obtain rfl : data.length = k := by omega
      have hall : data.take data.length = data := List.take_length
      rw [hall]
      go_wp2_with fail
      go_ret
      exact ⟨rfl, HB.out⟩
end Go.Proofs.YtimddchgmocdaaaDoor
