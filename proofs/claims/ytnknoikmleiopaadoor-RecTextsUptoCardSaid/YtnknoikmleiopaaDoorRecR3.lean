/-
  THE WALKS OF THE DOCUMENT'S OWN ANSWER (boleref02): texts.
-/
import Derived.Test.YtnknoikmleiopaaDoorRecT2
set_option linter.unusedVariables false
set_option linter.unusedSimpArgs false
namespace Go.Proofs.YtnknoikmleiopaaDoor
open Go.RowKit Rec

theorem ahead_cons (b : UInt8) (r : List UInt8) : Rec.ahead (b :: r) = if b = 0 then 0 else Rec.ahead r + 1 := by
  unfold Rec.ahead
  rw [List.takeWhile_cons]
  by_cases h : b = 0 <;> simp [h]
theorem ahead_before : ∀ (l : List UInt8) (k : Nat) (h : k < Rec.ahead l), l[k]'(Nat.lt_of_lt_of_le h (ahead_le l)) ≠ 0
  | [], k, h => by simp [Rec.ahead] at h
  | b :: r, 0, h => by
    intro e
    rw [ahead_cons, if_pos (show b = 0 from e)] at h
    omega
  | b :: r, k + 1, h => by
    rw [ahead_cons] at h
    split at h
    · omega
    · exact ahead_before r k (by omega)
theorem ahead_zero : ∀ (l : List UInt8) (h : Rec.ahead l < l.length), l[Rec.ahead l] = 0
  | [], h => by simp at h
  | b :: r, h => by
    by_cases hb : b = 0
    · have e : Rec.ahead (b :: r) = 0 := by rw [ahead_cons, if_pos hb]
      simp only [e, List.getElem_cons_zero]
      exact hb
    · have e : Rec.ahead (b :: r) = Rec.ahead r + 1 := by rw [ahead_cons, if_neg hb]
      simp only [e, List.getElem_cons_succ]
      exact ahead_zero r (by rw [e] at h; simpa using h)

theorem bytes_off {w : World} {b off cap : Nat} {l : List UInt8} (hl : Bytes w (some ⟨b, off, none⟩) l) (hc : l.length ≤ cap) (a : Nat) (h : a < l.length) : Bytes w (some ⟨b, off + a, none⟩) (l.drop a) := by
  have h := hl.cut hc (k := a)
  rw [if_neg (by omega)] at h
  simp only [Option.map_some, Addr.add] at h
  split at h
  · rename_i e; subst e; simpa using h
  · simpa using h

set_option maxHeartbeats 1600000 in
theorem ref_text_any (A : Option Addr) (cap : Nat) (l : List UInt8) (at_ n : Int) (w : World) (hl : Bytes w A l) (hcl : l.length ≤ cap) (hm : l.length ≤ 140737488355328) (h0 : -9223372036854775808 ≤ at_) (h1 : at_ ≤ 9223372036854775807) :
    Calls Tryd.prog 11 #[.slice A l.length cap, .int .i64 at_, .int .i64 n] w fun e w' => e = .returned (.tuple #[.string ⟨(textV l at_ n).toArray⟩, .int .i64 (textE l at_ n)]) ∧ w = w' := by
  by_cases hn : n < 0
  · have e : textE l at_ n = 1 := by unfold textE; rw [if_pos hn]
    have e2 : textV l at_ n = [] := by unfold textV; rw [e]; rfl
    rw [e, e2]
    clear e e2
    go_enter Tryd.func11, Tryd.ntmps11
    go_wp2_with fail
    go_ret2
    exact ⟨rfl, rfl⟩
  have li := ref_lie_any l.length at_ n w hm h0 h1 (by omega)
  cases hL : lies l.length at_ n
  · have e : textE l at_ n = 20 := by unfold textE; rw [if_neg hn, if_pos hL]
    have e2 : textV l at_ n = [] := by unfold textV; rw [e]; rfl
    rw [e, e2]
    rw [hL] at li
    have LI := Lib.hid li
    clear li e e2
    go_enter Tryd.func11, Tryd.ntmps11
    go_wp2_with (go_at_call 24; refine LI.out.mono ?_; rintro e w' ⟨rfl, rfl⟩)
    go_ret2
    exact ⟨rfl, rfl⟩
  rw [hL] at li
  have LI := Lib.hid li
  have hl9 : 0 ≤ at_ ∧ 0 ≤ n ∧ at_ + n ≤ l.length := of_decide_eq_true hL
  obtain ⟨a, rfl⟩ := Int.eq_ofNat_of_zero_le hl9.1
  obtain ⟨m, rfl⟩ := Int.eq_ofNat_of_zero_le hl9.2.1
  have ham : a + m ≤ l.length := by omega
  have hpl := part_length l a m ham
  have hkm : Rec.ahead (Rec.part l a m) ≤ m := by have := ahead_le (Rec.part l a m); omega
  have hE : textE l a m = if Rec.zeros ((Rec.part l a m).drop (Rec.ahead (Rec.part l a m))) = false then 1 else 0 := by unfold textE; rw [if_neg hn, if_neg (by rw [hL]; simp)]
  have hV : textV l a m = if textE l a m = 0 then (l.drop a).take (Rec.ahead (Rec.part l a m)) else [] := by unfold textV; rw [part_take l a m _ hkm]
  have hbef : ∀ j (hj : j < Rec.ahead (Rec.part l a m)), ∀ (hx : a + j < l.length), l[a + j] ≠ 0 := fun j hj _ => by
    rw [← part_at l a m j ham (by omega)]; exact ahead_before _ j hj
  have hat : ∀ (hj : Rec.ahead (Rec.part l a m) < m), ∀ (hx : a + Rec.ahead (Rec.part l a m) < l.length), l[a + Rec.ahead (Rec.part l a m)] = 0 := fun hj _ => by
    rw [← part_at l a m _ ham (by omega)]; exact ahead_zero _ (by omega)
  generalize Rec.ahead (Rec.part l a m) = K at hkm hE hV hbef hat
  have hb3 := hl.cut hcl (k := a)
  obtain ⟨A3, hA3⟩ : ∃ A3, (if cap = a then A else Option.map (fun x => x.add a) A) = A3 := ⟨_, rfl⟩
  rw [hA3] at hb3
  have hdl : (l.drop a).length = l.length - a := by simp
  have hst := str_any w A3 (cap - a) ((l.drop a).take K) (hb3.take K) K (by rw [List.length_take, hdl]; exact Nat.min_eq_left (by omega))
  have HE := Lib.hid hE
  have HV := Lib.hid hV
  have HBEF := Lib.hid hbef
  have HAT := Lib.hid hat
  have HB3 := Lib.hid hb3
  clear hE hV hbef hat hl9 li h0 h1 hn hb3 hdl
  go_enter Tryd.func11, Tryd.ntmps11
  go_wp2_with (go_at_call 24; refine LI.out.mono ?_; rintro e w' ⟨rfl, rfl⟩)
  go_loop [8] (fun i => ∃ k : Nat, k ≤ K ∧ i = .int .i64 k) (fun i => K - (intOf i).toNat)
  case atStart => exact ⟨0, Nat.zero_le _, rfl⟩
  case round =>
    obtain ⟨k, hk, rfl⟩ := hrel
    by_cases hlt : k < K
    · obtain ⟨b, off, hAe, hc⟩ := hl.at_ (k := a + k) (by omega)
      subst hAe
      have hz := n8_some' _ (HBEF.out k hlt (by omega))
      have hd : (k : Int) < (m : Int) := by omega
      go_wp2_with fail
      go_round
      case rel => exact ⟨k + 1, by omega, by go_num⟩
      case measure => simp [intOf]; omega
    · obtain rfl : k = K := by omega
      clear hk hlt
      by_cases hkm2 : k < m
      · obtain ⟨b, off, hAe, hc⟩ := hl.at_ (k := a + k) (by omega)
        subst hAe
        have hz := n8_zero' _ (HAT.out hkm2 (by omega))
        have hd : (k : Int) < (m : Int) := by omega
        have hst2 := str_any w _ (cap - a) ((l.drop a).take k) ((bytes_off hl hcl a (by omega)).take k) k (by rw [List.length_take, List.length_drop]; exact Nat.min_eq_left (by omega))
        clear hst hA3 HB3
        go_wp2_with fail
        clear hc hz hd
        go_loop [9] (fun i => ∃ j : Nat, k ≤ j ∧ j ≤ m ∧ i = .int .i64 j ∧ ∀ x (hx : x < j - k) (hx2 : x < ((Rec.part l a m).drop k).length), ((Rec.part l a m).drop k)[x] = 0) (fun i => m - (intOf i).toNat)
        case atStart => exact ⟨k, Nat.le_refl _, by omega, rfl, fun x hx => by omega⟩
        case round =>
          obtain ⟨j, hj, hj2, rfl, hno⟩ := hrel
          have HN := Lib.hid hno
          clear hno
          by_cases hlt : j < m
          · obtain ⟨b, off, hAe, hc⟩ := hl.at_ (k := a + j) (by omega)
            injection hAe with hAe
            injection hAe with hAb hAo
            subst hAb
            subst hAo
            have hpa : ((Rec.part l a m).drop k)[j - k]'(by rw [List.length_drop]; omega) = l[a + j] := by
              rw [List.getElem_drop, part_at l a m _ ham (by omega)]; congr 1; omega
            by_cases hz : l[a + j] = 0
            · have hb := n8_zero' _ hz
              have HZ := Lib.hid (hpa.trans hz)
              clear hz hpa
              go_wp2_with fail
              go_round
              case rel =>
                refine ⟨j + 1, by omega, by omega, by go_num, fun x hx hx2 => ?_⟩
                by_cases e : x = j - k
                · subst e; exact HZ.out
                · exact HN.out x (by omega) hx2
              case measure => simp [intOf]; omega
            · have hb := n8_some' _ hz
              have hzz : Rec.zeros ((Rec.part l a m).drop k) = false := zeros_not _ (j - k) (by rw [List.length_drop]; omega) (by rw [hpa]; exact hz)
              have HZ := Lib.hid hzz
              clear hz hpa hzz
              go_wp2_with fail
              go_ret2
              have e : textE l a m = 1 := by rw [HE.out, HZ.out]; rfl
              have e2 : textV l a m = [] := by rw [HV.out, e]; rfl
              exact ⟨by rw [e, e2]; rfl, rfl⟩
          · have hzz : Rec.zeros ((Rec.part l a m).drop k) = true := zeros_all _ (fun x hx => HN.out x (by rw [List.length_drop] at hx; omega) hx)
            have HZ := Lib.hid hzz
            clear hzz
            go_wp2_with fail
            go_ret2
            have e : textE l a m = 0 := by rw [HE.out, HZ.out]; rfl
            have e2 : textV l a m = (l.drop a).take k := by rw [HV.out, e]; rfl
            exact ⟨by rw [e, e2]; rfl, rfl⟩
      · obtain rfl : k = m := by omega
        have hd : decide ((k : Int) < (k : Int)) = false := by simp
        go_wp2_with fail
        go_loop [9] (fun i => i = .int .i64 k) (fun i => 0)
        case atStart => exact rfl
        case round =>
          subst hrel
          have hzz : Rec.zeros ((Rec.part l a k).drop k) = true := by rw [List.drop_eq_nil_of_le (by omega)]; rfl
          have HZ := Lib.hid hzz
          clear hzz
          go_wp2_with fail
          go_ret2
          have e : textE l a k = 0 := by rw [HE.out, HZ.out]; rfl
          have e2 : textV l a k = (l.drop a).take k := by rw [HV.out, e]; rfl
          exact ⟨by rw [e, e2]; rfl, rfl⟩
end Go.Proofs.YtnknoikmleiopaaDoor
