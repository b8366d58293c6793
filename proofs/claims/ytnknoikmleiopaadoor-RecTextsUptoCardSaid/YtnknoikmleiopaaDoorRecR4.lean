/-
  THE WALK OF THE DOCUMENT'S OWN ANSWER (boleref02): PutText.
-/
import Derived.Test.YtnknoikmleiopaaDoorRecR3
set_option linter.unusedVariables false
set_option linter.unusedSimpArgs false
namespace Go.Proofs.YtnknoikmleiopaaDoor
open Go.RowKit Rec

theorem text_zeros_at (s : List UInt8) (m k : Nat) (hk : k < m) (hs : s.length ≤ m) : (s ++ List.replicate (m - s.length) 0)[k]'(by simp; omega) = if h : k < s.length then s[k] else 0 := by
  split
  · rw [List.getElem_append_left (by omega)]
  · rw [List.getElem_append_right (by omega)]; simp

set_option maxHeartbeats 1600000 in
theorem ref_putText_any (base : Nat) (A : Option Addr) (cap : Nat) (l m : List UInt8) (at_ n : Int) (s : List UInt8) (w : World) (hM : Mine w base A cap (l ++ m)) (hbw : base ≤ w.heap.size) (hm : l.length ≤ 140737488355328) (hs : s.length ≤ 140737488355328) (h0 : -9223372036854775808 ≤ at_) (h1 : at_ ≤ 9223372036854775807) :
    Calls Tryd.prog 19 #[.slice A l.length cap, .int .i64 at_, .int .i64 n, .string ⟨s.toArray⟩] w fun e w' =>
      e = .returned (.int .i64 (putTextE l.length at_ n s)) ∧ Mine w' base A cap (putTextL l at_ n s ++ m) ∧ w.grownBy w' (Value.slice A l.length cap).ownBlock := by
  have HM := Lib.hid hM
  clear hM
  have hss : (⟨s.toArray⟩ : ByteArray).size = s.length := rfl
  by_cases b1 : n < 0
  · have e : putTextE l.length at_ n s = 1 := by unfold putTextE; rw [if_pos (.inl b1)]
    have e2 : putTextL l at_ n s = l := by unfold putTextL; rw [e]; rfl
    rw [e, e2]
    clear e e2
    go_enter Tryd.func19, Tryd.ntmps19
    go_wp2_with fail
    go_ret
    exact ⟨rfl, HM.out, World.grownBy.refl _ _⟩
  by_cases b2 : n < (s.length : Int)
  · have e : putTextE l.length at_ n s = 1 := by unfold putTextE; rw [if_pos (.inr (.inl b2))]
    have e2 : putTextL l at_ n s = l := by unfold putTextL; rw [e]; rfl
    rw [e, e2]
    clear e e2
    go_enter Tryd.func19, Tryd.ntmps19
    go_wp2_with fail
    go_ret
    exact ⟨rfl, HM.out, World.grownBy.refl _ _⟩
  have hal := ahead_le s
  by_cases b3 : Rec.ahead s < s.length
  · have e : putTextE l.length at_ n s = 1 := by unfold putTextE; rw [if_pos (.inr (.inr b3))]
    have e2 : putTextL l at_ n s = l := by unfold putTextL; rw [e]; rfl
    rw [e, e2]
    clear e e2
    go_enter Tryd.func19, Tryd.ntmps19
    go_wp2_with fail
    go_loop [9] (fun i => ∃ k : Nat, k ≤ Rec.ahead s ∧ i = .int .i64 k) (fun i => Rec.ahead s - (intOf i).toNat)
    case atStart => exact ⟨0, Nat.zero_le _, rfl⟩
    case round =>
      obtain ⟨k, hk, rfl⟩ := hrel
      by_cases hlt : k < Rec.ahead s
      · have hkl : k < s.length := by omega
        have hz : ((((⟨s.toArray⟩ : ByteArray)[k]'hkl).toNat : Int) == 0) = false := n8_some _ (ahead_before s k hlt)
        go_wp2_with fail
        go_round
        case rel => exact ⟨k + 1, by omega, by go_num⟩
        case measure => simp [intOf]; omega
      · obtain rfl : k = Rec.ahead s := by omega
        have hz : ((((⟨s.toArray⟩ : ByteArray)[Rec.ahead s]'b3).toNat : Int) == 0) = true := n8_zero _ (ahead_zero s b3)
        go_wp2_with fail
        go_ret
        exact ⟨rfl, HM.out, World.grownBy.refl _ _⟩
  have hall : ∀ k (h : k < s.length), s[k] ≠ 0 := fun k h => ahead_before s k (by omega)
  have HALL := Lib.hid hall
  have li := ref_lie_any l.length at_ n w hm h0 h1 (by omega)
  clear hall
  cases hL : lies l.length at_ n
  · have e : putTextE l.length at_ n s = 20 := by unfold putTextE; rw [if_neg (by omega), if_pos hL]
    have e2 : putTextL l at_ n s = l := by unfold putTextL; rw [e]; rfl
    rw [e, e2]
    rw [hL] at li
    have LI := Lib.hid li
    clear e e2 li
    go_enter Tryd.func19, Tryd.ntmps19
    go_wp2_with fail
    go_loop [9] (fun i => ∃ k : Nat, k ≤ s.length ∧ i = .int .i64 k) (fun i => s.length - (intOf i).toNat)
    case atStart => exact ⟨0, Nat.zero_le _, rfl⟩
    case round =>
      obtain ⟨k, hk, rfl⟩ := hrel
      by_cases hkl : k < s.length
      · have hz : ((((⟨s.toArray⟩ : ByteArray)[k]'hkl).toNat : Int) == 0) = false := n8_some _ (HALL.out k hkl)
        go_wp2_with fail
        go_round
        case rel => exact ⟨k + 1, by omega, by go_num⟩
        case measure => simp [intOf]; omega
      · go_wp2_with (go_at_call 24; refine LI.out.mono ?_; rintro e w' ⟨rfl, rfl⟩)
        go_ret
        exact ⟨rfl, HM.out, World.grownBy.refl _ _⟩
  · have e : putTextE l.length at_ n s = 0 := by unfold putTextE; rw [if_neg (by omega), if_neg (by simp [hL])]
    have e2 : putTextL l at_ n s = spliced l at_.toNat (s ++ List.replicate (n.toNat - s.length) 0) := by unfold putTextL; rw [e]; rfl
    have hl9 : 0 ≤ at_ ∧ 0 ≤ n ∧ at_ + n ≤ l.length := of_decide_eq_true hL
    rw [e, e2]
    rw [hL] at li
    have LI := Lib.hid li
    obtain ⟨a, rfl⟩ := Int.eq_ofNat_of_zero_le hl9.1
    obtain ⟨q, rfl⟩ := Int.eq_ofNat_of_zero_le hl9.2.1
    have haq : a + q ≤ l.length := by omega
    have hsq : s.length ≤ q := by omega
    obtain ⟨T, hT⟩ : ∃ T, s ++ List.replicate (q - s.length) 0 = T := ⟨_, rfl⟩
    have hTl : T.length = q := by rw [← hT]; simp; omega
    have hTat : ∀ k (hk : k < T.length), T[k] = if h : k < s.length then s[k] else 0 := fun k hk => by
      subst hT; exact text_zeros_at s q k (by omega) hsq
    rw [show ((q : Int)).toNat = q from rfl, hT]
    have HT := Lib.hid hTat
    clear e e2 li hl9 h0 h1 b1 b2 hTat hT
    go_enter Tryd.func19, Tryd.ntmps19
    go_wp2_with fail
    go_loop [9] (fun i => ∃ k : Nat, k ≤ s.length ∧ i = .int .i64 k) (fun i => s.length - (intOf i).toNat)
    case atStart => exact ⟨0, Nat.zero_le _, rfl⟩
    case round =>
      obtain ⟨k, hk, rfl⟩ := hrel
      by_cases hkl : k < s.length
      · have hz : ((((⟨s.toArray⟩ : ByteArray)[k]'hkl).toNat : Int) == 0) = false := n8_some _ (HALL.out k hkl)
        go_wp2_with fail
        go_round
        case rel => exact ⟨k + 1, by omega, by go_num⟩
        case measure => simp [intOf]; omega
      · go_wp2_with (go_at_call 24; refine LI.out.mono ?_; rintro e w' ⟨rfl, rfl⟩)
        go_loopw [10] (fun i wr => ∃ j : Nat, j ≤ q ∧ i = .int .i64 j ∧ Mine wr base A cap (spliced l a (T.take j) ++ m) ∧ w.grownBy wr (Value.slice A l.length cap).ownBlock) (fun i _ => q - (intOf i).toNat)
        case atStart => exact ⟨0, Nat.zero_le _, rfl, by rw [List.take_zero, spliced_nil]; exact HM.out, World.grownBy.refl _ _⟩
        case round =>
          obtain ⟨j, hj, rfl, hM, hG⟩ := hrel
          by_cases hlt : j < q
          · have hsl : (spliced l a (T.take j)).length = l.length := spliced_length _ _ _ (by rw [List.length_take]; omega)
            obtain ⟨g, hA, _, _⟩ := hM.form (by simp; omega)
            subst hA
            have hstep : ∀ b, T[j]'(by omega) = b → spliced l a (T.take (j + 1)) = (spliced l a (T.take j)).set (a + j) b := by
              intro b hb
              subst hb
              rw [take_snoc T j (by omega), spliced_snoc _ _ _ _ (by rw [List.length_take]; omega), List.length_take, Nat.min_eq_left (by omega)]
            have hTj := HT.out j (by omega)
            have hc := hM.cell (k := a + j) (by simp; omega)
            have hf := hM.free (a + j)
            have hM2 : Mine (wr.setCell ⟨g, a + j, none⟩ (.int .u8 0)) base (some ⟨g, 0, none⟩) cap ((spliced l a (T.take j)).set (a + j) 0 ++ m) := by
              have := hM.put (a + j) 0
              rw [List.set_append_left _ _ (by omega)] at this
              exact this
            have HS := Lib.hid hstep
            clear hstep
            by_cases hjs : j < s.length
            · rw [dif_pos hjs] at hTj
              have hc2 := hM2.cell (k := a + j) (by simp; omega)
              have hf2 := hM2.free (a + j)
              have hd : (j : Int) < (s.length : Int) := by omega
              have hM3 : Mine ((wr.setCell ⟨g, a + j, none⟩ (.int .u8 0)).setCell ⟨g, a + j, none⟩ (.int .u8 (((⟨s.toArray⟩ : ByteArray)[j]'hjs).toNat : Int))) base (some ⟨g, 0, none⟩) cap ((spliced l a (T.take j)).set (a + j) s[j] ++ m) := by
                have := hM2.put (a + j) s[j]
                rw [List.set_append_left _ _ (by simp; omega), List.set_set] at this
                exact this
              have HM3 := Lib.hid hM3
              have HTJ := Lib.hid hTj
              clear hM hM2 hM3 hTj
              go_wp2_with fail
              go_roundw
              case rel =>
                refine ⟨j + 1, by omega, by go_num, ?_, grown_trans hG (grown_trans (grown_setCell _ _ _ _) (grown_setCell _ _ _ _))⟩
                rw [HS.out _ HTJ.out]
                exact HM3.out
              case measure => simp [intOf]; omega
            · rw [dif_neg hjs] at hTj
              have HM2 := Lib.hid hM2
              have HTJ := Lib.hid hTj
              clear hM hM2 hTj
              go_wp2_with fail
              go_roundw
              case rel =>
                refine ⟨j + 1, by omega, by go_num, ?_, grown_trans hG (grown_setCell _ _ _ _)⟩
                rw [HS.out _ HTJ.out]
                exact HM2.out
              case measure => simp [intOf]; omega
          · go_wp2_with fail
            go_ret
            have e : T.take j = T := List.take_of_length_le (by omega)
            rw [e] at hM
            exact ⟨rfl, hM, hG⟩
end Go.Proofs.YtnknoikmleiopaaDoor
