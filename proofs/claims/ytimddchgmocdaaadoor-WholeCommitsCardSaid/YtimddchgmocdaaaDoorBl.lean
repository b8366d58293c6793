/-
  ROWS OF BLOCKS; an empty header; the blocks' numbers.
-/
import Derived.Test.YtimddchgmocdaaaDoorWs3
set_option linter.unusedVariables false
set_option linter.unusedSimpArgs false
namespace Go.Proofs.YtimddchgmocdaaaDoor
open Go.RowKit

/-- blocks with their bytes -/
def BlkRow (w : World) (base a lb : Nat) (A : Option Addr) (cap : Nat) (ws : List (Nat × List UInt8)) : Prop :=
  ∃ cs, Own w lb 71 2 A ws.length cap cs ∧ ∀ k (h : k < ws.length), ∃ B c, cs[k * 2]? = some (.int .i64 (ws[k].1 : Int)) ∧ cs[k * 2 + 1]? = some (.slice B 512 c) ∧ ws[k].2.length = 512 ∧ Buf w base (some a) B ws[k].2
section
variable {w w2 : World} {base a lb cap sp sb : Nat} {A : Option Addr} {ws : List (Nat × List UInt8)}
theorem BlkRow.later (h : BlkRow w base a lb A cap ws) (hb : Below w.heap.size w w2) : BlkRow w2 base a lb A cap ws := by
  obtain ⟨cs, hO, hc⟩ := h
  refine ⟨cs, hO.later hb, fun k hk => ?_⟩
  obtain ⟨B, c, h1, h2, h3, h4⟩ := hc k hk
  exact ⟨B, c, h1, h2, h3, h4.later hb⟩
theorem BlkRow.ktD (h : BlkRow w base a lb A cap ws) (hA : ∃ cur, Is w a 74 cur) (k : KT (some a) base diskT w w2) : BlkRow w2 base a lb A cap ws := by
  obtain ⟨cs, hO, hc⟩ := h
  refine ⟨cs, hO.kt k (by simp [diskT]) (fun g hg => ne_a hA (by decide) (hO.typed g hg).2), fun j hj => ?_⟩
  obtain ⟨B, c, h1, h2, h3, h4⟩ := hc j hj
  exact ⟨B, c, h1, h2, h3, h4.kt k (diskT_ne (by simp)) (diskT_ne (by simp))⟩
theorem Buf.ktS {b : List UInt8} {cs : Array Value} (h4 : Buf w base (some a) A b) (hsp : Is w sp 90 cs) (k : KT (some sp) sb stepT w w2) (hb : base ≤ sb) (hs : sb ≤ sp) : Buf w2 base (some a) A b := by
  refine h4.kt2 k hb (by simp [stepT]) (by simp [stepT]) fun g e => ?_
  injection e with e
  subst e
  refine ⟨by omega, fun ⟨cs', t, f, q1, q2⟩ => ?_⟩
  rw [show w.heap[sp]? = _ from hsp] at q1
  injection q1 with q1
  injection q1 with _ q1
  subst q1
  simp at q2
theorem BlkRow.ktS {cs : Array Value} (h : BlkRow w base a lb A cap ws) (hsp : Is w sp 90 cs) (k : KT (some sp) sb stepT w w2) (hb : base ≤ sb) (hs : sb ≤ sp) : BlkRow w2 base a lb A cap ws := by
  obtain ⟨vs, hO, hc⟩ := h
  refine ⟨vs, hO.kt k (by simp [stepT]) (fun g hg e => ?_), fun j hj => ?_⟩
  · injection e with e
    obtain ⟨_, cur, hi⟩ := hO.typed g hg
    exact is_ne hi hsp (by decide) e
  · obtain ⟨B, c, h1, h2, h3, h4⟩ := hc j hj
    exact ⟨B, c, h1, h2, h3, h4.ktS hsp k hb hs⟩
theorem BlkRow.at_ (h : BlkRow w base a lb A cap ws) {k : Nat} (hk : k < ws.length) :
    ∃ g B c, A = some ⟨g, 0, none⟩ ∧ w.cell? ⟨g, k * 2, none⟩ = some (.int .i64 (ws[k].1 : Int)) ∧ w.cell? ⟨g, k * 2 + 1, none⟩ = some (.slice B 512 c) ∧ ws[k].2.length = 512 ∧ Buf w base (some a) B ws[k].2 := by
  obtain ⟨cs, hO, hc⟩ := h
  obtain ⟨g, rfl, _, _⟩ := hO.form (by omega)
  obtain ⟨B, c, h1, h2, h3, h4⟩ := hc k hk
  have hl := hO.1
  exact ⟨g, B, c, rfl, (hO.cell (k * 2) (by omega)).trans h1, (hO.cell (k * 2 + 1) (by omega)).trans h2, h3, h4⟩
end
/-- numbers that rise, from 98 on, below n; at most 96 -/
structure Rise (n : Nat) (ws : List (Nat × List UInt8)) : Prop where
  few : ws.length ≤ 96
  low : ∀ k (h : k < ws.length), 98 ≤ ws[k].1 ∧ ws[k].1 < n
  up : ∀ k (h : k + 1 < ws.length), ws[k].1 < ws[k + 1].1
def prevNum (ws : List (Nat × List UInt8)) : Nat → Nat
  | 0 => 97
  | k + 1 => (ws.getD k (0, [])).1
theorem Rise.prev {n : Nat} {ws : List (Nat × List UInt8)} (h : Rise n ws) {k : Nat} (hk : k < ws.length) : prevNum ws k < ws[k].1 := by
  cases k with
  | zero => have := (h.low 0 hk).1; show 97 < _; omega
  | succ k =>
    show (ws.getD k (0, [])).1 < _
    rw [List.getD_eq_getElem?_getD, List.getElem?_eq_getElem (by omega)]
    exact h.up k hk
theorem prevNum_succ (ws : List (Nat × List UInt8)) (k : Nat) (hk : k < ws.length) : prevNum ws (k + 1) = ws[k].1 := by
  show (ws.getD k (0, [])).1 = _
  rw [List.getD_eq_getElem?_getD, List.getElem?_eq_getElem hk]; rfl

set_option maxHeartbeats 1600000 in
theorem wmay_any (base a lb n : Nat) (A : Option Addr) (cap : Nat) (ws : List (Nat × List UInt8)) (w : World) (h : BlkRow w base a lb A cap ws) (hr : Rise n ws) (hn : n ≤ 16384) :
    Calls Tryd.prog 34 #[.slice A ws.length cap, .int .i64 (n : Int)] w fun e w' => e = .returned (.bool true) ∧ Below w.heap.size w w' := by
  have H := Lib.hid h
  have HR := Lib.hid hr
  have hlen := hr.few
  clear h hr
  go_enter Tryd.func34, Tryd.ntmps34
  go_wp2_with fail
  go_loopw [5, 10] (fun v u wr => ∃ k : Nat, k ≤ ws.length ∧ u = .int .i64 k ∧ v = .int .i64 (prevNum ws k : Nat) ∧ Below w.heap.size w wr) (fun v u _ => ws.length - (intOf u).toNat)
  case atStart => exact ⟨0, Nat.zero_le _, rfl, rfl, Below.refl _ _⟩
  case round =>
    obtain ⟨k, hk, rfl, rfl, hb⟩ := hrel
    have HB := Lib.hid hb
    clear hb
    by_cases hlt : k < ws.length
    · have hk0 : (k : Int) < (ws.length : Int) := by omega
      have hk1 : (0 : Int) ≤ (k : Int) := by omega
      obtain ⟨g, B, c, rfl, c1, c2, _, _⟩ := (H.out.later HB.out).at_ hlt
      have hp := HR.out.prev hlt
      have hl := HR.out.low k hlt
      have hs := prevNum_succ ws k hlt
      obtain ⟨x, hx⟩ : ∃ x, ws[k].1 = x := ⟨_, rfl⟩
      obtain ⟨p, hp'⟩ : ∃ p, prevNum ws k = p := ⟨_, rfl⟩
      rw [hx] at hp hl hs c1
      rw [hp'] at hp ⊢
      have HS := Lib.hid hs
      have hi1 : (p : Int) < (x : Int) := by omega
      have hi2 : (x : Int) < (n : Int) := by omega
      clear hs hx hp' hp hl
      go_wp2_with fail
      go_roundw
      case rel => exact ⟨k + 1, by omega, by go_num, by rw [HS.out], HB.out.trans ((below_new _ _).mono HB.out.size)⟩
      case measure => simp [intOf]; omega
    · obtain rfl : ws.length = k := by omega
      go_wp2_with fail
      go_ret
      exact ⟨by show Ending.returned (.bool (decide _)) = _; rw [decide_eq_true (by omega)], HB.out⟩
theorem Buf.of_mine {w : World} {base a b0 cap : Nat} {A : Option Addr} {l : List UInt8} (h : Mine w b0 A cap l) (hA : ∃ cur, Is w a 74 cur) : Buf w base (some a) A l := by
  by_cases e : l = []
  · exact .inl e
  obtain ⟨g, rfl, _, _⟩ := h.form (List.length_pos_iff.2 e)
  obtain ⟨cur, hi, _⟩ := h.row
  refine .inr ⟨g, 0, cur, _, _, rfl, hi, .inr ⟨ne_a hA (t := 5) (by decide) ⟨cur, hi⟩, by simp⟩, fun k hk => ?_⟩
  rw [show (⟨g, 0 + k, none⟩ : Addr) = ⟨g, k, none⟩ by rw [Nat.zero_add]]
  exact h.cell hk
theorem StepsAt.later {w w2 : World} {base a sp sb : Nat} {S : List Stp} (h : StepsAt w base a sp sb S) (hb : Below w.heap.size w w2) : StepsAt w2 base a sp sb S := by
  obtain ⟨A, cap, h1, vs, h2, h3⟩ := h
  exact ⟨A, cap, h1.below hb h1.lt, vs, h2.later hb, fun k hk => by obtain ⟨v, q1, q2⟩ := h3 k hk; exact ⟨v, q1, q2.later hb⟩⟩
set_option maxRecDepth 100000 in
theorem empty_any (w : World) : Calls Tryd.prog 48 #[] w fun e w' => (∃ A, e = .returned (.slice A 512 512) ∧ Mine w' w.heap.size A 512 Tx.zero) ∧ Below w.heap.size w w' := by
  go_enter Tryd.func48, Tryd.ntmps48
  go_wp2_with (refine wpList_make_u8 rfl _ _ rfl w.heap.size 512 rfl rfl (by decide) (Nat.le_refl _) ?_; intro w' hm hg; have HM := Lib.hid hm; have HG := Lib.hid hg; clear hm hg)
  go_ret
  exact ⟨⟨_, rfl, HM.out⟩, (Below.refl _ _).grown HG.out (Nat.le_refl _) (fun k hk => by cases hk)⟩

def Tx.homeSteps (ws : List (Nat × List UInt8)) : List Stp := Tx.home ws
set_option maxRecDepth 100000 in
set_option maxHeartbeats 1600000 in
theorem shome_any (base a lb sp sb : Nat) (S : List Stp) (A : Option Addr) (cap : Nat) (ws : List (Nat × List UInt8)) (w : World) (h : BlkRow w base a lb A cap ws) (hS : StepsAt w base a sp sb S) (hA : ∃ cur, Is w a 74 cur) (hbs : base ≤ sb) (hss : sb ≤ sp) (hsw : sb ≤ w.heap.size) (hn : S.length ≤ 10000) (hn2 : ws.length ≤ 10000) (has : a < sb) :
    Calls Tryd.prog 38 #[.pointer (some ⟨sp, 0, none⟩), .slice A ws.length cap] w fun e w' => e = .returned (.tuple #[]) ∧ StepsAt w' base a sp sb (S ++ Tx.home ws) ∧ KT (some sp) sb stepT w w' := by
  have H := Lib.hid h
  have HS := Lib.hid hS
  have HA := Lib.hid hA
  clear h hS hA
  go_enter Tryd.func38, Tryd.ntmps38
  go_wp2_with fail
  go_loopw [8] (fun u wr => ∃ k : Nat, k ≤ ws.length ∧ u = .int .i64 k ∧ StepsAt wr base a sp sb (S ++ (ws.take k).map some) ∧ KT (some sp) sb stepT w wr ∧ BlkRow wr base a lb A cap ws) (fun u _ => ws.length - (intOf u).toNat)
  case atStart => exact ⟨0, Nat.zero_le _, rfl, by simpa using HS.out, KT.refl _ _ _ _, H.out⟩
  case round =>
    obtain ⟨k, hk, rfl, hSt, hKT, hBl⟩ := hrel
    have HSt := Lib.hid hSt
    have HKT := Lib.hid hKT
    have HBl := Lib.hid hBl
    obtain ⟨cur, hA⟩ := HA.out
    have hAr : ∃ cur, Is wr a 74 cur := ⟨cur, hA.kt hKT (.inl has)⟩
    have HAr := Lib.hid hAr
    have hsz := hKT.size
    clear hSt hKT hBl hAr hA
    by_cases hlt : k < ws.length
    · have hk0 : (k : Int) < (ws.length : Int) := by omega
      have hk1 : (0 : Int) ≤ (k : Int) := by omega
      obtain ⟨g, B, c, rfl, c1, c2, hb5, hbuf⟩ := HBl.out.at_ hlt
      have HW := Lib.hid (show S ++ (ws.take (k + 1)).map some = (S ++ (ws.take k).map some) ++ [some (ws[k].1, ws[k].2)] by rw [take_snoc ws k hlt, List.map_append, List.append_assoc]; rfl)
      have HSL := Lib.hid (show (S ++ (ws.take k).map some).length ≤ 100000 by rw [List.length_append, List.length_map, List.length_take]; omega)
      obtain ⟨x, hx⟩ : ∃ x, ws[k].1 = x := ⟨_, rfl⟩
      obtain ⟨b, hb⟩ : ∃ b, ws[k].2 = b := ⟨_, rfl⟩
      rw [hx] at c1 HW
      rw [hb] at hb5 hbuf HW
      have HB5 := Lib.hid hb5
      have HBUF := Lib.hid hbuf
      clear hx hb hb5 hbuf
      go_wp2_with (go_at_call 36
                   refine (swrite_any base a sp sb _ x B c b _ (HSt.out.later (below_new _ _)) (by obtain ⟨cur, hi⟩ := HAr.out; exact ⟨cur, hi.below (below_new _ _) hi.lt⟩) hbs hss (by rw [World.size_alloc]; omega) HSL.out HB5.out (HBUF.out.later (below_new _ _))).mono ?_
                   rintro e w9 ⟨rfl, hS9, hk9⟩
                   have HS9 := Lib.hid hS9
                   have HK9 := Lib.hid hk9
                   clear hS9 hk9)
      go_roundw
      case rel =>
        obtain ⟨A1, cap1, q1, _⟩ := HSt.out
        refine ⟨k + 1, by omega, by go_num, by rw [HW.out]; exact HS9.out, HKT.out.trans ((KT.of_below (below_new _ _) (Nat.le_refl _)).trans HK9.out), ?_⟩
        exact (HBl.out.later (below_new _ _)).ktS (q1.below (below_new _ _) q1.lt) HK9.out hbs hss
      case measure => simp [intOf]; omega
    · obtain rfl : ws.length = k := by omega
      have hall : ws.take ws.length = ws := List.take_length
      rw [hall] at HSt
      have HL1 := Lib.hid (show (S ++ ws.map some).length ≤ 20000 by rw [List.length_append, List.length_map]; omega)
      have HL2 := Lib.hid (show (S ++ ws.map some ++ [none]).length ≤ 20001 by have := HL1.out; rw [List.length_append]; simp only [List.length_singleton]; omega)
      have HL3 := Lib.hid (show (S ++ ws.map some ++ [none] ++ [some (1, Tx.zero)]).length ≤ 20002 by have := HL2.out; rw [List.length_append]; simp only [List.length_singleton]; omega)
      go_wp2_with (first
        | (go_at_call 36
           refine (swrite_any base a sp sb _ 1 A5 512 Tx.zero _ (HS5.out.later HB6.out) HA6.out hbs hss HZ6.out (by have := HL2.out; omega) (by simp [Tx.zero]) (Buf.of_mine HM6.out HA6.out)).mono ?_
           rintro e w7 ⟨rfl, hS7, hk7⟩
           have HS7 := Lib.hid hS7
           have HK7 := Lib.hid hk7
           clear hS7 hk7)
        | (go_at_call 37
           first
           | (refine (sflush_any base a sp sb _ _ HS7.out hbs hss (Nat.le_trans HZ6.out HK7.out.size) (by have := HL3.out; omega)).mono ?_
              rintro e w8 ⟨rfl, hS8, hk8⟩
              have HS8 := Lib.hid hS8
              have HK8 := Lib.hid hk8
              clear hS8 hk8)
           | (refine (sflush_any base a sp sb _ _ HSt.out hbs hss (Nat.le_trans hsw hsz) (by have := HL1.out; omega)).mono ?_
              rintro e w5 ⟨rfl, hS5, hk5⟩
              have HS5 := Lib.hid hS5
              have HK5 := Lib.hid hk5
              clear hS5 hk5))
        | (go_at_call 48
           refine (empty_any _).mono ?_
           rintro e w6 ⟨⟨A5, rfl, hM6⟩, hb6⟩
           have HM6 := Lib.hid hM6
           have HB6 := Lib.hid hb6
           have HZ6 := Lib.hid (show sb ≤ w6.heap.size from Nat.le_trans (Nat.le_trans (Nat.le_trans hsw hsz) HK5.out.size) hb6.size)
           have HA6 := Lib.hid (show ∃ cur, Is w6 a 74 cur by obtain ⟨cur, hi⟩ := HAr.out; have q := hi.kt HK5.out (.inl has); exact ⟨cur, q.below hb6 q.lt⟩)
           clear hM6 hb6))
      go_end0
      refine ⟨rfl, ?_, HKT.out.trans (HK5.out.trans ((KT.of_below HB6.out (Nat.le_refl _)).trans (HK7.out.trans HK8.out)))⟩
      have e : S ++ Tx.home ws = S ++ ws.map some ++ [none] ++ [some (1, Tx.zero)] ++ [none] := by unfold Tx.home Dk.phase; simp
      rw [e]
      exact HS8.out
end Go.Proofs.YtimddchgmocdaaaDoor
