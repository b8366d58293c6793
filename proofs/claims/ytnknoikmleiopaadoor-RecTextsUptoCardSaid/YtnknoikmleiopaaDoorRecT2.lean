/-
  THE WALKS OF PACKAGE rec AND OF THE DOCUMENT'S OWN ANSWER: texts read.
-/
import Derived.Test.YtnknoikmleiopaaDoorRecT
import Derived.Test.YtnknoikmleiopaaDoorRecR
set_option linter.unusedVariables false
set_option linter.unusedSimpArgs false
namespace Go.Proofs.YtnknoikmleiopaaDoor
open Go.RowKit Rec

theorem part_drop (l : List UInt8) (a m k : Nat) (hk : k ≤ m) : (Rec.part l a m).drop k = Rec.part l (a + k : Nat) (a + m - (a + k) : Nat) := by
  unfold Rec.part
  simp only [Int.toNat_natCast]
  rw [List.drop_take, List.drop_drop]
  congr 1; omega
theorem part_take (l : List UInt8) (a m k : Nat) (hk : k ≤ m) : (Rec.part l a m).take k = (l.drop a).take k := by
  unfold Rec.part
  simp only [Int.toNat_natCast]
  rw [List.take_take, Nat.min_eq_left hk]

set_option maxHeartbeats 1600000 in
theorem text_any (A : Option Addr) (cap : Nat) (l : List UInt8) (at_ n : Int) (w : World) (hl : Bytes w A l) (hcl : l.length ≤ cap) (hm : l.length ≤ 140737488355328) (h0 : -9223372036854775808 ≤ at_) (h1 : at_ ≤ 9223372036854775807) :
    Calls Tryd.prog 10 #[.slice A l.length cap, .int .i64 at_, .int .i64 n] w fun e w' => e = .returned (.tuple #[.string ⟨(textV l at_ n).toArray⟩, .int .i64 (textE l at_ n)]) ∧ Below w.heap.size w w' := by
  by_cases hn : n < 0
  · have e : textE l at_ n = 1 := by unfold textE; rw [if_pos hn]
    have e2 : textV l at_ n = [] := by unfold textV; rw [e]; rfl
    rw [e, e2]
    clear e e2
    go_enter Tryd.func10, Tryd.ntmps10
    go_wp2_with fail
    go_ret2
    exact ⟨rfl, Below.refl _ _⟩
  have li := lie_any A l.length cap at_ n w hm h0 h1
  cases hL : lies l.length at_ n
  · have e : textE l at_ n = 20 := by unfold textE; rw [if_neg hn, if_pos hL]
    have e2 : textV l at_ n = [] := by unfold textV; rw [e]; rfl
    rw [e, e2]
    rw [hL] at li
    have LI := Lib.hid li
    clear li e e2
    go_enter Tryd.func10, Tryd.ntmps10
    go_wp2_with (go_at_call 21; refine LI.out.mono ?_; rintro e w' ⟨rfl, rfl⟩)
    go_ret2
    exact ⟨rfl, Below.refl _ _⟩
  rw [hL] at li
  have LI := Lib.hid li
  have hl9 : 0 ≤ at_ ∧ 0 ≤ n ∧ at_ + n ≤ l.length := of_decide_eq_true hL
  obtain ⟨a, rfl⟩ := Int.eq_ofNat_of_zero_le hl9.1
  obtain ⟨m, rfl⟩ := Int.eq_ofNat_of_zero_le hl9.2.1
  have ham : a + m ≤ l.length := by omega
  have hpl := part_length l a m ham
  have hkm : Rec.ahead (Rec.part l a m) ≤ m := by have := ahead_le (Rec.part l a m); omega
  have ah := fun c => ahead_any (if cap = a then A else A.map (·.add a)) c (Rec.part l a m) w (part_cut hl hcl a m) (by omega)
  have hE : textE l a m = if Rec.zeros ((Rec.part l a m).drop (Rec.ahead (Rec.part l a m))) = false then 1 else 0 := by unfold textE; rw [if_neg hn, if_neg (by rw [hL]; simp)]
  have hV : textV l a m = if textE l a m = 0 then (l.drop a).take (Rec.ahead (Rec.part l a m)) else [] := by unfold textV; rw [part_take l a m _ hkm]
  generalize Rec.ahead (Rec.part l a m) = k at hkm ah hE hV
  rw [part_drop l a m k hkm] at hE
  obtain ⟨c, hc⟩ : ∃ c, a + k = c := ⟨_, rfl⟩
  rw [hc] at hE
  have hwr : IntKind.i64.wrap ((a : Int) + (k : Int)) = (c : Int) := by rw [IntWalk.i64_in _ (by omega)]; omega
  have hca : c ≤ a + m := by omega
  have zp := zeros_part A cap l c (a + m - c) w hl hcl (by omega) hm
  have hb3 := hl.cut hcl (k := a)
  obtain ⟨A3, hA3⟩ : ∃ A3, (if cap = a then A else Option.map (fun x => x.add a) A) = A3 := ⟨_, rfl⟩
  obtain ⟨A4, hA4⟩ : ∃ A4, (if cap = c then A else Option.map (fun x => x.add c) A) = A4 := ⟨_, rfl⟩
  rw [hA3] at ah hb3
  rw [hA4] at zp
  rw [hpl] at ah
  have AH := Lib.hid ah
  have HB3 := Lib.hid hb3
  have hdl : (l.drop a).length = l.length - a := by simp
  have hkl : k ≤ l.length - a := by omega
  have HKL := Lib.hid hkl
  have HDL := Lib.hid hdl
  clear li hl9 h0 h1 hn ah hb3 hdl hkl hpl hc
  cases hZ : Rec.zeros (Rec.part l c (a + m - c : Nat))
  · rw [hZ] at hE zp
    have e : textE l a m = 1 := hE
    have e2 : textV l a m = [] := by rw [hV, e]; rfl
    rw [e, e2]
    have ZP := Lib.hid zp
    clear zp e e2 hE hV hZ
    go_enter Tryd.func10, Tryd.ntmps10
    go_wp2_with (first
      | (go_at_call 21; refine LI.out.mono ?_; rintro e w' ⟨rfl, rfl⟩)
      | (go_at_call 22; refine (AH.out _).mono ?_; rintro e w' ⟨rfl, rfl⟩)
      | (go_at_call 23; refine (ZP.out _).mono ?_; rintro e w' ⟨rfl, rfl⟩))
    go_ret2
    exact ⟨rfl, Below.refl _ _⟩
  · rw [hZ] at hE zp
    have e : textE l a m = 0 := hE
    have e2 : textV l a m = (l.drop a).take k := by rw [hV, e]; rfl
    rw [e, e2]
    have ZP := Lib.hid zp
    clear zp e e2 hE hV hZ
    go_enter Tryd.func10, Tryd.ntmps10
    go_wp2_with (first
      | (go_at_call 21; refine LI.out.mono ?_; rintro e w' ⟨rfl, rfl⟩)
      | (go_at_call 22; refine (AH.out _).mono ?_; rintro e w' ⟨rfl, rfl⟩)
      | (go_at_call 23; refine (ZP.out _).mono ?_; rintro e w' ⟨rfl, rfl⟩)
      | (refine wpList_make_u8 rfl (.tmp 36) (.tmp 36) rfl w.heap.size k rfl rfl (by omega) (Nat.le_refl _) ?_; intro w3 hM3 hg3; have hB3 := grown_below_none (Nat.le_refl _) hg3)
      | (refine wpList_copy_head rfl (.tmp 38) (.tmp 41) rfl w.heap.size (some ⟨w.heap.size, 0, none⟩) k (List.replicate k 0) hM3 k k rfl (by simp) A3 (l.length - a) _ (l.drop a) rfl HDL.out (HB3.out.later hB3) HKL.out ?_; intro w4 hM4 hg4; have hs4 := str_any w4 _ k _ hM4.bytes k (by rw [List.length_take, HDL.out]; exact Nat.min_eq_left HKL.out)))
    go_ret2
    exact ⟨rfl, hB3.trans (grown_below hM3 hB3.size hg4)⟩
end Go.Proofs.YtnknoikmleiopaaDoor
