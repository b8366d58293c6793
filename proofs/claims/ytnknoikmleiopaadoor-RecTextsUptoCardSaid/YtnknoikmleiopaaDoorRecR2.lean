/-
  THE WALKS OF THE DOCUMENT'S OWN ANSWER (boleref02), FURTHER: Get, Put.
-/
import Derived.Test.YtnknoikmleiopaaDoorRecR
set_option linter.unusedVariables false
set_option linter.unusedSimpArgs false
namespace Go.Proofs.YtnknoikmleiopaaDoor
open Go.RowKit Rec

theorem power_q (k : Nat) (hk : k ≤ 7) (w : World) : Calls Tryd.prog 27 #[.int .i64 (k : Int)] w fun e w' => e = .returned (.int .u64 (p256 k : Int)) ∧ w' = w := (power_any k hk w).mono fun _ _ h => ⟨h.1, h.2.symm⟩

set_option maxHeartbeats 800000 in
theorem ref_get_any (A : Option Addr) (cap : Nat) (l : List UInt8) (at_ n : Int) (w : World) (hl : Bytes w A l) (hm : l.length ≤ 140737488355328) (h0 : -9223372036854775808 ≤ at_) (h1 : at_ ≤ 9223372036854775807) :
    Calls Tryd.prog 17 #[.slice A l.length cap, .int .i64 at_, .int .i64 n] w fun e w' => e = .returned (.tuple #[.int .u64 (getV l at_ n : Int), .int .i64 (getE l.length at_ n)]) ∧ Below w.heap.size w w' := by
  have iw := ref_width_any n w
  unfold getV getE
  cases hW : isW n
  · rw [hW] at iw
    have IW := Lib.hid iw
    clear iw
    go_enter Tryd.func17, Tryd.ntmps17
    go_wp2_with (go_at_call 26; refine IW.out.mono ?_; rintro e w' ⟨rfl, rfl⟩)
    go_ret2
    exact ⟨rfl, Below.refl _ _⟩
  · rw [hW] at iw
    have IW := Lib.hid iw
    have hw9 : n = 1 ∨ n = 2 ∨ n = 4 ∨ n = 8 := by simp [isW] at hW; omega
    have li := ref_lie_any l.length at_ n w hm h0 h1 (by omega)
    cases hL : lies l.length at_ n
    · rw [hL] at li
      have LI := Lib.hid li
      clear iw li hw9
      go_enter Tryd.func17, Tryd.ntmps17
      go_wp2_with (first
        | (go_at_call 26; refine IW.out.mono ?_; rintro e w' ⟨rfl, rfl⟩)
        | (go_at_call 24; refine LI.out.mono ?_; rintro e w' ⟨rfl, rfl⟩))
      go_ret2
      exact ⟨rfl, Below.refl _ _⟩
    · rw [hL] at li
      have LI := Lib.hid li
      clear iw li
      have hl9 : 0 ≤ at_ ∧ 0 ≤ n ∧ at_ + n ≤ l.length := of_decide_eq_true hL
      obtain ⟨a, rfl⟩ := Int.eq_ofNat_of_zero_le hl9.1
      obtain ⟨m, rfl⟩ := Int.eq_ofNat_of_zero_le hl9.2.1
      have hmm : m ≤ 8 := by omega
      have ham : a + m ≤ l.length := by omega
      clear hl9 hw9 h0 h1
      go_enter Tryd.func17, Tryd.ntmps17
      go_wp2_with (first
        | (go_at_call 26; refine IW.out.mono ?_; rintro e w' ⟨rfl, rfl⟩)
        | (go_at_call 24; refine LI.out.mono ?_; rintro e w' ⟨rfl, rfl⟩))
      have hB0 : Below w.heap.size w w := Below.refl _ _
      go_loopw [8, 9] (fun v i wr => ∃ k : Nat, k ≤ m ∧ i = .int .i64 k ∧ v = .int .u64 (le ((l.drop a).take k) : Int) ∧ Below w.heap.size w wr) (fun _ i _ => m - (intOf i).toNat)
      case atStart => exact ⟨0, Nat.zero_le _, rfl, rfl, hB0⟩
      case round =>
        obtain ⟨k, hk, rfl, rfl, hB⟩ := hrel
        by_cases hlt : k < m
        · have hlr := hl.later hB
          have HLR := Lib.hid hlr
          obtain ⟨b, off, rfl, hc⟩ := hlr.at_ (k := a + k) (by omega)
          have hle : ((l.drop a).take k).length = k := by simp; omega
          have hv : le ((l.drop a).take k) < p256 k := by have h := le_lt ((l.drop a).take k); rw [hle] at h; exact h
          have hb8 := l[a + k].toNat_lt
          have hp := p256_lt k (by omega)
          have hadd : IntKind.u64.wrap ((le ((l.drop a).take k) : Int) + IntKind.u64.wrap (IntKind.u64.wrap (n8 l[a + k]) * (p256 k : Int))) = ((le ((l.drop a).take k) + p256 k * l[a + k].toNat : Nat) : Int) := by
            have e1 : IntKind.u64.wrap (n8 l[a + k]) = n8 l[a + k] := IntWalk.u64_in _ (by have := n8_lo l[a + k]; have := n8_hi l[a + k]; omega)
            have e2 : n8 l[a + k] * (p256 k : Int) = ((p256 k * l[a + k].toNat : Nat) : Int) := by unfold n8; push_cast; rw [Int.mul_comm]
            have h3 : p256 k * l[a + k].toNat ≤ p256 k * 255 := Nat.mul_le_mul_left _ (by omega)
            have e3 : IntKind.u64.wrap ((p256 k * l[a + k].toNat : Nat) : Int) = ((p256 k * l[a + k].toNat : Nat) : Int) := IntWalk.u64_in _ (by omega)
            rw [e1, e2, e3, IntWalk.u64_in _ (by omega)]
            push_cast; rfl
          have HADD := Lib.hid hadd
          have b0 : (0 : Int) ≤ (a : Int) + (k : Int) := by omega
          have b1 : (a : Int) + (k : Int) < (l.length : Int) := by omega
          have w0 : IntKind.i64.wrap ((a : Int) + (k : Int)) = (a : Int) + (k : Int) := IntWalk.i64_in _ (by omega)
          have hc2 : wr.cell? ⟨b, off + ((a : Int) + (k : Int)).toNat, none⟩ = some (.int .u8 (n8 l[a + k])) := by rw [show ((a : Int) + (k : Int)).toNat = a + k by omega]; exact hc
          clear hv hb8 hp hlr hadd
          go_wp2_with fail
          go_quiet (first | (go_at_call 27; refine Calls.quiet_of_same (power_q k (by omega) _)))
          go_wp2_with fail
          go_roundw
          case rel =>
            refine ⟨k + 1, by omega, by go_num, ?_, below_drewN hB _⟩
            have hlt2 : k < (l.drop a).length := by simp; omega
            rw [HADD.out, take_snoc (l.drop a) k hlt2, le_snoc, hle, List.getElem_drop]; rfl
          case measure => simp [intOf]; omega
        · go_wp2_with fail
          go_ret2
          obtain rfl : k = m := by omega
          exact ⟨rfl, hB⟩

theorem byteAt_div (v k : Nat) (hv : v < 18446744073709551616) : (IntKind.u64.wrap ((v : Int) / (p256 k : Int))).tmod 256 % 256 = n8 (byteAt v k) := by
  have e : ((v : Int) / (p256 k : Int)) = ((v / p256 k : Nat) : Int) := by push_cast; rfl
  have hle : v / p256 k ≤ v := Nat.div_le_self _ _
  rw [e]
  unfold byteAt n8
  rw [UInt8.toNat_ofNat']
  show ((IntKind.u64.wrap ((v / p256 k : Nat) : Int)).tmod 256) % 256 = ((v / p256 k % 2 ^ 8 : Nat) : Int)
  clear e
  generalize v / p256 k = x at hle ⊢
  rw [IntWalk.u64_in _ (by omega)]
  rw [Int.tmod_eq_emod_of_nonneg (by omega)]
  omega
theorem putE_has (len : Nat) (at_ : Int) (k v : Nat) (hW : isW k = true) : putE len at_ k v = if has v k = false then 1 else if lies len at_ k = false then 20 else 0 := by
  unfold putE has
  rw [hW]
  simp only [Bool.true_eq_false, false_or, Bool.not_eq_false', decide_eq_true_eq]

set_option maxHeartbeats 1600000 in
theorem ref_put_any (base : Nat) (A : Option Addr) (cap : Nat) (l m : List UInt8) (at_ n : Int) (v : Nat) (w : World) (hM : Mine w base A cap (l ++ m)) (hm : l.length ≤ 140737488355328) (h0 : -9223372036854775808 ≤ at_) (h1 : at_ ≤ 9223372036854775807)
    (hv : v < 18446744073709551616) :
    Calls Tryd.prog 18 #[.slice A l.length cap, .int .i64 at_, .int .i64 n, .int .u64 (v : Int)] w fun e w' =>
      e = .returned (.int .i64 (putE l.length at_ n v)) ∧ Mine w' base A cap (putL l at_ n v ++ m) ∧ w.grownBy w' (Value.slice A l.length cap).ownBlock := by
  have HM := Lib.hid hM
  clear hM
  have iw := ref_width_any n w
  cases hW : isW n
  · have e : putE l.length at_ n v = 1 := by simp [putE, hW]
    have e2 : putL l at_ n v = l := by unfold putL; rw [e]; rfl
    rw [e, e2]
    rw [hW] at iw
    have IW := Lib.hid iw
    clear iw e e2
    go_enter Tryd.func18, Tryd.ntmps18
    go_wp2_with (go_at_call 26; refine IW.out.mono ?_; rintro e w' ⟨rfl, rfl⟩)
    go_ret
    exact ⟨rfl, HM.out, World.grownBy.refl _ _⟩
  · rw [hW] at iw
    have IW := Lib.hid iw
    have hw9 : n = 1 ∨ n = 2 ∨ n = 4 ∨ n = 8 := by simp [isW] at hW; omega
    obtain ⟨k9, rfl⟩ := Int.eq_ofNat_of_zero_le (a := n) (by omega)
    have h8 : k9 ≤ 8 := by omega
    have hpos : 0 < k9 := by omega
    have he := putE_has l.length at_ k9 v hW
    have ha := has_any v k9 h8 w
    have li := ref_lie_any l.length at_ k9 w hm h0 h1 (by omega)
    clear hw9
    cases hH : has v k9
    · rw [hH] at he ha
      have e : putE l.length at_ k9 v = 1 := he
      have e2 : putL l at_ k9 v = l := by unfold putL; rw [e]; rfl
      rw [e, e2]
      have HA := Lib.hid ha
      clear iw li e e2 ha he
      go_enter Tryd.func18, Tryd.ntmps18
      go_wp2_with (first
        | (go_at_call 26; refine IW.out.mono ?_; rintro e w' ⟨rfl, rfl⟩)
        | (go_at_call 28; refine HA.out.mono ?_; rintro e w' ⟨rfl, rfl⟩))
      go_ret
      exact ⟨rfl, HM.out, World.grownBy.refl _ _⟩
    · rw [hH] at he ha
      have HA := Lib.hid ha
      cases hL : lies l.length at_ k9
      · rw [hL] at he li
        have e : putE l.length at_ k9 v = 20 := he
        have e2 : putL l at_ k9 v = l := by unfold putL; rw [e]; rfl
        rw [e, e2]
        have LI := Lib.hid li
        clear iw li e e2 ha he
        go_enter Tryd.func18, Tryd.ntmps18
        go_wp2_with (first
          | (go_at_call 26; refine IW.out.mono ?_; rintro e w' ⟨rfl, rfl⟩)
          | (go_at_call 28; refine HA.out.mono ?_; rintro e w' ⟨rfl, rfl⟩)
          | (go_at_call 24; refine LI.out.mono ?_; rintro e w' ⟨rfl, rfl⟩))
        go_ret
        exact ⟨rfl, HM.out, World.grownBy.refl _ _⟩
      · rw [hL] at he li
        have e : putE l.length at_ k9 v = 0 := he
        have hl9 : 0 ≤ at_ ∧ 0 ≤ (k9 : Int) ∧ at_ + k9 ≤ l.length := of_decide_eq_true hL
        have e2 : putL l at_ k9 v = spliced l at_.toNat (les v k9) := by unfold putL; rw [e]; rfl
        rw [e, e2]
        have LI := Lib.hid li
        obtain ⟨a, rfl⟩ := Int.eq_ofNat_of_zero_le hl9.1
        have ham : a + k9 ≤ l.length := by omega
        obtain ⟨g, rfl, hbg, hgl⟩ := HM.out.form (by simp; omega)
        clear iw li e e2 hL hl9 h0 h1 ha he
        go_enter Tryd.func18, Tryd.ntmps18
        go_wp2_with (first
          | (go_at_call 26; refine IW.out.mono ?_; rintro e w' ⟨rfl, rfl⟩)
          | (go_at_call 28; refine HA.out.mono ?_; rintro e w' ⟨rfl, rfl⟩)
          | (go_at_call 24; refine LI.out.mono ?_; rintro e w' ⟨rfl, rfl⟩))
        go_loopw [9] (fun i wr => ∃ k : Nat, k ≤ k9 ∧ i = .int .i64 k ∧ Mine wr base (some ⟨g, 0, none⟩) cap (spliced l a (les v k) ++ m) ∧ w.grownBy wr (some g)) (fun i _ => k9 - (intOf i).toNat)
        case atStart => exact ⟨0, Nat.zero_le _, rfl, by rw [show les v 0 = [] from rfl, spliced_nil]; exact HM.out, World.grownBy.refl _ _⟩
        case round =>
          obtain ⟨k, hk, rfl, hM, hG⟩ := hrel
          by_cases hlt : k < k9
          · have hsl : (spliced l a (les v k)).length = l.length := spliced_length _ _ _ (by rw [les_length]; omega)
            have hc := hM.cell (k := a + k) (by simp; omega)
            have hf := hM.free (a + k)
            have hb := byteAt_div v k hv
            have hp0 : ¬ p256 k = 0 := by have := p256_pos k; omega
            have hML := Lib.hid hM
            clear hM
            go_wp2_with (go_at_call 27; refine (power_any k (by omega) _).mono ?_; rintro e w' ⟨rfl, rfl⟩)
            go_roundw
            case rel =>
              refine ⟨k + 1, by omega, by go_num, ?_, grown_trans hG (grown_setCell _ _ _ _)⟩
              have := hML.out.put (a + k) (byteAt v k)
              rw [List.set_append_left _ _ (by omega)] at this
              rw [les_succ, spliced_snoc _ _ _ _ (by rw [les_length]; omega), les_length]
              exact this
            case measure => simp [intOf]; omega
          · go_wp2_with fail
            go_ret
            obtain rfl : k = k9 := by omega
            exact ⟨rfl, hM, hG⟩
end Go.Proofs.YtnknoikmleiopaaDoor
