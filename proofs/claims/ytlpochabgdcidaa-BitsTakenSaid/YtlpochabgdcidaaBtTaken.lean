/-
  THE WALK OF BitsTaken: the lowest that is off is put on till there is none; some are put off: each time Lowest is the least of them; what was on stays on.
-/
import Derived.Test.YtlpochabgdcidaaBtF
set_option linter.unusedVariables false
set_option linter.unusedSimpArgs false
namespace Go.Proofs.Ytlpochabgdcidaa
open Go.RowKit Bt

theorem mod_any (k : Int) (n : Nat) (h0 : 0 < n) (hn : n ≤ 10000) (hk : -9223372036854775808 ≤ k) (hk2 : k ≤ 9223372036854775807) (w : World) :
    Calls Try.prog 17 #[.int .i64 k, .int .i64 (n : Int)] w fun e w' => e = .returned (.int .i64 (k % (n : Int))) ∧ w = w' := by
  have hne : ¬ n = 0 := by omega
  have hlt := Int.tmod_lt_of_pos k (show (0 : Int) < (n : Int) by omega)
  have hgt : -(n : Int) < k.tmod n := by
    have h := Int.tmod_lt_of_pos (-k) (show (0 : Int) < (n : Int) by omega)
    rw [Int.neg_tmod] at h
    omega
  have hwr : IntKind.i64.wrap (k.tmod n) = k.tmod n := IntWalk.i64_in _ (by omega)
  have hem : k % (n : Int) = if k.tmod n < 0 then k.tmod n + n else k.tmod n := by
    by_cases h : 0 ≤ k
    · rw [Int.tmod_eq_emod_of_nonneg h]
      have := Int.emod_nonneg k (show (n : Int) ≠ 0 by omega)
      rw [if_neg (by omega)]
    · have h1 : k.tmod n ≤ 0 := by
        have := Int.tmod_nonneg (n : Int) (show 0 ≤ -k by omega)
        rw [Int.neg_tmod] at this
        omega
      have h2 : k = (n : Int) * k.tdiv n + k.tmod n := (Int.mul_tdiv_add_tmod k n).symm
      have h3 : k % (n : Int) = k.tmod n % (n : Int) := by
        conv => lhs; rw [h2]
        rw [Int.add_comm, Int.add_mul_emod_self_left]
      rw [h3]
      by_cases h4 : k.tmod n < 0
      · rw [if_pos h4, ← Int.add_emod_right, Int.emod_eq_of_lt (by omega) (by omega)]
      · rw [if_neg h4, show k.tmod n = 0 by omega]; rfl
  rw [hem]
  by_cases hr : k.tmod n < 0
  · rw [if_pos hr]
    have hw2 : wrap64 (k.tmod n + n) = k.tmod n + n := IntWalk.wrap64_in _ ⟨by omega, by omega⟩
    clear hem
    go_enter Try.func17, Try.ntmps17
    go_wp2_with fail
    go_ret
    exact ⟨rfl, rfl⟩
  · rw [if_neg hr]
    clear hem
    go_enter Try.func17, Try.ntmps17
    go_wp2_with fail
    go_ret
    exact ⟨rfl, rfl⟩

/-- was bit j put off by one of the first i? -/
def out (md : Nat → Nat) (i j : Nat) : Bool := (List.range i).any fun t => md t == j
theorem out_zero (md : Nat → Nat) (j : Nat) : out md 0 j = false := rfl
theorem out_succ (md : Nat → Nat) (i j : Nat) : out md (i + 1) j = (out md i j || md i == j) := by unfold out; rw [List.range_succ, List.any_append]; simp
theorem out_at (md : Nat → Nat) (i t : Nat) (h : t < i) : out md i (md t) = true := by
  unfold out
  rw [List.any_eq_true]
  exact ⟨t, by simpa using h, by simp⟩
theorem out_ex (md : Nat → Nat) (i j : Nat) (h : out md i j = true) : ∃ t, t < i ∧ md t = j := by
  unfold out at h
  rw [List.any_eq_true] at h
  obtain ⟨t, h1, h2⟩ := h
  exact ⟨t, by simpa using h1, by simpa using h2⟩
/-- the bits that some puts have left -/
def Left (md : Nat → Nat) (k N : Nat) (cur : List UInt8) : Prop := ∀ j, j < N → bit cur j = !out md k j
/-- the least of them, or their number -/
def Least (md : Nat → Nat) (k N m : Nat) : Prop := (∀ t, t < k → m ≤ md t) ∧ (m = N ∨ out md k m = true)
theorem Left.put {md : Nat → Nat} {k N : Nat} {cur : List UInt8} (h : Left md k N cur) (hl : 8 * cur.length = N) (hq : md k < N) : Left md (k + 1) N (putL cur (md k : Nat) false) := by
  intro j hj
  rw [put_bit cur (md k) j false (by omega), out_succ]
  by_cases h1 : j = md k
  · subst h1
    rw [if_pos rfl]; simp
  · rw [if_neg h1, h j hj]
    have : (md k == j) = false := by rw [beq_eq_false_iff_ne]; omega
    rw [this, Bool.or_false]
theorem Least.put {md : Nat → Nat} {k N m m2 : Nat} (h : Least md k N m) (hm : (if ((md k : Nat) : Int) < (m : Int) then ((md k : Nat) : Int) else (m : Int)) = (m2 : Int)) (hmN : m ≤ N) (hq : md k < N) : Least md (k + 1) N m2 ∧ m2 < N ∧ out md (k + 1) m2 = true := by
  have ho : out md (k + 1) m2 = true ∧ m2 ≤ m ∧ m2 ≤ md k := by
    by_cases h1 : md k < m
    · rw [if_pos (by omega)] at hm
      have : md k = m2 := by omega
      subst this
      exact ⟨out_at md (k + 1) k (by omega), by omega, Nat.le_refl _⟩
    · rw [if_neg (by omega)] at hm
      have : m = m2 := by omega
      subst this
      rcases h.2 with h2 | h2
      · omega
      · exact ⟨by rw [out_succ, h2]; rfl, Nat.le_refl _, by omega⟩
  refine ⟨⟨fun t ht => ?_, .inr ho.1⟩, by omega, ho.1⟩
  rcases Nat.lt_or_ge t k with h1 | h1
  · have := h.1 t h1; omega
  · obtain rfl : t = k := by omega
    exact ho.2.2
theorem least_low {md : Nat → Nat} {k N m : Nat} {cur : List UInt8} (hL : Left md k N cur) (h : Least md k N m) (ho : out md k m = true) (hm : m < N) (hl : 8 * cur.length = N) : IsLow cur 0 m ∧ IsLow cur m m := by
  have hb : bit cur m = false := by rw [hL m hm, ho]; rfl
  refine ⟨.inr ⟨m, rfl, by omega, by omega, hb, fun j _ hj => ?_⟩, .inr ⟨m, rfl, Int.le_refl _, by omega, hb, fun j h1 h2 => by omega⟩⟩
  rw [hL j (by omega)]
  cases hj2 : out md k j with
  | false => rfl
  | true =>
    obtain ⟨t, h1, h2⟩ := out_ex md k j hj2
    have := h.1 t h1
    omega
theorem n200 : ∃ n : Nat, n = 200 := ⟨200, rfl⟩

set_option maxRecDepth 100000 in
set_option maxHeartbeats 2000000 in
theorem taken_any (A : Option Addr) (ca : Nat) (l : List UInt8) (P : Option Addr) (cp : Nat) (zs : List Int) (w : World) (hA : Bytes w A l) (hC : A = none → ca = 0) (hle : l.length ≤ ca) (hm : l.length ≤ 140737488355328)
    (hP : Ints w P zs) (hz : zs.length ≤ 140737488355328) (hwf : ∀ z ∈ zs, -9223372036854775808 ≤ z ∧ z ≤ 9223372036854775807) :
    Calls Try.prog 6 #[.slice A l.length ca, .slice P zs.length cp] w fun e w' => e = .returned (.bool true) ∧ Below w.heap.size w w' := by
  have HA := Lib.hid hA
  have HC := Lib.hid hC
  have HP := Lib.hid hP
  have HWF := Lib.hid hwf
  clear hA hC hP hwf
  by_cases h200 : 200 < l.length
  · have hca : 200 ≤ ca := by omega
    have HT := Lib.hid (HA.out.take 200)
    have HTL := Lib.hid (show (l.take 200).length = 200 by rw [List.length_take]; omega)
    go_enter Try.func6, Try.ntmps6
    go_wp2_with (first
      | (go_at_call 7; refine (fixed_any _).mono ?_; rintro e w1 ⟨rfl, hb1⟩; have hs1 := hb1.size; have HB1 := Lib.hid hb1)
      | (at_builtin; refine wpList_append_u8 rfl (.tmp 26) (.tmp 27) rfl w.heap.size (some ⟨w1.heap.size, 0, none⟩) 0 [] rfl (Mine.empty w1 hs1) A ca (l.take 200) (by rw [HTL.out]; rfl) HC.out ((HT.out.later HB1.out).later (below_new w1 _)) (by rw [HTL.out]; decide) (by simp; omega) ?_; intro A2 c2 w2 hm2 hg2 hb2; rw [show (([] : List UInt8) ++ l.take 200).length = 200 from HTL.out]; have HM2 := Lib.hid (show Mine w2 w.heap.size A2 c2 (l.take 200) from hm2); have HB2 := Lib.hid (HB1.out.trans (((below_new w1 (.cells #[] 5)).mono hs1).trans hb2)); have hs2 := HB2.out.size))
    obtain ⟨n, hn⟩ := n200
    rw [← hn]
    have HLn := Lib.hid (show (l.take 200).length = n by rw [hn]; exact HTL.out)
    generalize l.take 200 = L at HLn HM2 hm2
    have hnb : n ≤ 200 := by omega
    clear HT HTL h200 hle hca hn
    obtain ⟨N, hN⟩ : ∃ N : Nat, 8 * n = N := ⟨_, rfl⟩
    have hNi : 8 * (n : Int) = (N : Int) := by omega
    have hNb : N ≤ 1600 := by omega
    have HN := Lib.hid hN
    obtain ⟨md, hmd⟩ : ∃ md : Nat → Nat, md = fun t => (zs.getD t 0 % (N : Int)).toNat := ⟨_, rfl⟩
    have HMD := Lib.hid hmd
    have hM0 : Mine w2 w.heap.size A2 c2 (L ++ []) := by rw [List.append_nil]; exact HM2.out
    have HM0 := Lib.hid hM0
    clear hM0 hm2 hg2 hb2 hN hmd HM2 HB1 hb1 hs1
    go_loopw [6, 7] (fun a i wr => ∃ (k t : Nat) (cur : List UInt8), i = .int .i64 k ∧ a = .int .i64 ((t : Int) - 1) ∧ k ≤ t ∧ t ≤ N ∧ cur.length = n ∧ Mine wr w.heap.size A2 c2 (cur ++ []) ∧ (∀ j, j < t → bit cur j = true) ∧ Below w.heap.size w wr) (fun a i _ => N + 1 - (intOf i).toNat)
    case atStart => exact ⟨0, 0, L, rfl, rfl, Nat.le_refl _, Nat.zero_le _, HLn.out, HM0.out, fun j h => by omega, HB2.out⟩
    case round =>
      obtain ⟨k, t, cur, rfl, rfl, hkt, htN, hcl, hM, hon, hB⟩ := hrel
      have HCL := Lib.hid hcl
      have HM := Lib.hid hM
      have HON := Lib.hid hon
      have HB := Lib.hid hB
      have hBs := hB.size
      have hkN : (k : Int) ≤ (N : Int) := by omega
      obtain ⟨r, hr⟩ := low_ex cur 0
      have HR := Lib.hid hr
      clear hcl hM hon hB
      rcases hr with ⟨rfl, hall⟩ | ⟨q, rfl, hq0, hqN, hqb, hqa⟩
      · have HALL := Lib.hid (show ∀ j, j < N → bit cur j = true from fun j hj => hall j (by omega) (by rw [HCL.out, HN.out]; exact hj))
        have hok : cntOk cur 0 (N : Int) = true := by unfold cntOk; rw [HCL.out, hNi]; simp
        have HCV := Lib.hid (show cntV cur 0 (N : Int) = N by unfold cntV; rw [if_pos hok, show ((N : Int) - 0).toNat = N by omega]; exact cnt_on cur 0 N (fun j h1 h2 => HALL.out j (by omega)))
        have HCE := Lib.hid (show cntE cur 0 (N : Int) = 0 by unfold cntE; rw [if_pos hok])
        clear hall hok
        by_cases hn0 : n = 0
        · subst hn0
          have hN0 : N = 0 := by have := HN.out; omega
          subst hN0
          go_wp2_with (first
            | (go_at_call 15; refine (lowest_r A2 0 c2 cur HCL.out 0 (-1) HR.out _ HM.out.head (by decide) (by decide) (by decide)).mono ?_; rintro e w' ⟨rfl, rfl⟩)
            | (go_at_call 13; refine (count_any A2 0 c2 cur HCL.out 0 0 _ HM.out.head (by decide)).mono ?_; rintro e w' ⟨rfl, rfl⟩; rw [show cntV cur 0 0 = 0 from HCV.out, show cntE cur 0 0 = 0 from HCE.out]))
          go_ret
          exact ⟨rfl, HB.out⟩
        · have hn1 : ((n : Int) == 0) = false := by rw [beq_eq_false_iff_ne]; omega
          have hNp : 0 < N := by have := HN.out; omega
          go_wp2_with (first
            | (go_at_call 15; refine (lowest_r A2 n c2 cur HCL.out 0 (-1) HR.out _ HM.out.head (by omega) (by decide) (by decide)).mono ?_; rintro e w' ⟨rfl, rfl⟩)
            | (go_at_call 13; refine (count_any A2 n c2 cur HCL.out 0 (N : Int) _ HM.out.head (by omega)).mono ?_; rintro e w' ⟨rfl, rfl⟩; rw [HCV.out, HCE.out]))
          have HLF : Left md 0 N cur := fun j hj => by rw [out_zero]; exact HALL.out j hj
          have HLS : Least md 0 N N := ⟨fun t h => by omega, .inl rfl⟩
          obtain ⟨wo, hwo⟩ : ∃ wo : World, wo = w' := ⟨_, rfl⟩
          have HM2 := Lib.hid HM.out
          have HB2' := Lib.hid HB.out
          go_loopw [11, 12] (fun v i wr => ∃ (k m : Nat) (cur : List UInt8), i = .int .i64 k ∧ v = .int .i64 m ∧ k ≤ zs.length ∧ k ≤ 300 ∧ m ≤ N ∧ cur.length = n ∧ Mine wr w.heap.size A2 c2 (cur ++ []) ∧ Left md k N cur ∧ Least md k N m ∧ Below w.heap.size w wr) (fun v i _ => 300 - (intOf i).toNat)
          case atStart => exact ⟨0, N, cur, rfl, rfl, Nat.zero_le _, by omega, Nat.le_refl _, HCL.out, HM2.out, HLF, HLS, HB2'.out⟩
          case round =>
            clear HCL HM HR HON HALL HCV HCE HLF HLS HM2 HB2' HB
            obtain ⟨k, m, cur, rfl, rfl, hkz, hk3, hmN, hcl, hM, hLf, hLs, hB⟩ := hrel
            have HCL := Lib.hid hcl
            have HM := Lib.hid hM
            have HLf := Lib.hid hLf
            have HLs := Lib.hid hLs
            have HB := Lib.hid hB
            have hBs := hB.size
            have HIn := Lib.hid (HP.out.later hB)
            clear hcl hM hLf hLs hB
            by_cases hgo : k < zs.length ∧ k < 300
            · obtain ⟨hkl, hk30⟩ := hgo
              obtain ⟨b, off, rfl, hc⟩ := HIn.out.at_ hkl
              have hwz := HWF.out _ (List.getElem_mem hkl)
              have hmdk : zs[k] % (N : Int) = ((md k : Nat) : Int) := by
                have h1 : md k = (zs.getD k 0 % (N : Int)).toNat := by rw [HMD.out]
                rw [h1, List.getD_eq_getElem?_getD, List.getElem?_eq_getElem hkl, Option.getD_some]
                have := Int.emod_nonneg zs[k] (show (N : Int) ≠ 0 by omega)
                omega
              have hmdN : md k < N := by
                have := Int.emod_lt_of_pos zs[k] (show (0 : Int) < (N : Int) by omega)
                omega
              have HK := Lib.hid hmdk
              have hkl0 : (k : Int) < (zs.length : Int) := by omega
              have hk300 : (k : Int) < 300 := by omega
              generalize zs[k] = z at hc hwz HK
              have hwz1 := hwz.1
              have hwz2 := hwz.2
              obtain ⟨q, hq⟩ : ∃ q, md k = q := ⟨_, rfl⟩
              obtain ⟨m2, hm2⟩ : ∃ m2 : Nat, (if (q : Int) < (m : Int) then (q : Int) else (m : Int)) = (m2 : Int) := ⟨(if (q : Int) < (m : Int) then (q : Int) else (m : Int)).toNat, by split <;> omega⟩
              have HCL2 := Lib.hid (show 8 * cur.length = N by rw [HCL.out]; exact HN.out)
              have hLf2 := HLf.out.put HCL2.out hmdN
              obtain ⟨hLs2, hm2N, hom⟩ := HLs.out.put (by rw [hq]; exact hm2) hmN hmdN
              rw [hq] at hLf2 HK hmdN
              have hlw := least_low hLf2 hLs2 hom hm2N (by rw [putL_length]; exact HCL2.out)
              have HLW := Lib.hid hlw
              have HLf2 := Lib.hid hLf2
              have HLs2 := Lib.hid hLs2
              have HPL := Lib.hid (show (putL cur (q : Int) false).length = n by rw [putL_length]; exact HCL.out)
              have HGE := Lib.hid (show getE cur (q : Int) = 0 by unfold getE; rw [if_pos ((has_iff _ _).2 ⟨by omega, by have := HCL2.out; omega⟩)])
              clear hmdk hwz hLf2 hLs2 hom hlw hq
              go_wp2_with (first
                | (go_at_call 17; refine (mod_any z N hNp (by omega) hwz1 hwz2 _).mono ?_; rintro e w' ⟨rfl, rfl⟩; rw [HK.out])
                | (go_at_call 16; refine (put_any w.heap.size A2 n c2 cur [] HCL.out q false _ HM.out (by omega)).mono ?_; rintro e w3 ⟨rfl, hm3, hk3'⟩; rw [HGE.out]; have HM3 := Lib.hid hm3; have HB3 := Lib.hid (HB.out.trans (hk3'.below hBs HM.out.of_ge)))
                | (refine wpList_min2 rfl _ _ _ rfl (m : Int) (q : Int) rfl rfl (m2 : Int) hm2 ?_)
                | (go_at_call 15; with_reducible refine (lowest_any A2 n c2 (putL cur (q : Int) false) HPL.out 0 _ HM3.out.head (by omega) (by decide) (by decide)).mono ?_; rintro e w' ⟨⟨r1, rfl, hr1⟩, rfl⟩; obtain rfl := hr1.eq HLW.out.1)
                | (go_at_call 15; with_reducible refine (lowest_any A2 n c2 (putL cur (q : Int) false) HPL.out m2 _ HM3.out.head (by omega) (by omega) (by omega)).mono ?_; rintro e w' ⟨⟨r1, rfl, hr1⟩, rfl⟩; obtain rfl := hr1.eq HLW.out.2))
              go_roundw
              case rel => exact ⟨k + 1, m2, putL cur q false, by go_num, rfl, by omega, by omega, by omega, HPL.out, HM3.out, HLf2.out, HLs2.out, HB3.out⟩
              case measure => simp [intOf]; omega
            · have HEND := Lib.hid (show zs.length ≤ k ∨ (k < zs.length ∧ 300 ≤ k) by omega)
              obtain ⟨wf, rfl⟩ : ∃ wf : World, wf = wr := ⟨_, rfl⟩
              rcases HEND.out with he | ⟨he, he3⟩
              · have he1 : (zs.length : Int) ≤ (k : Int) := by omega
                clear he hgo
                go_wp2_with fail
                go_loop [14] (fun i => ∃ j : Nat, j ≤ N ∧ i = .int .i64 j) (fun i => N - (intOf i).toNat)
                case atStart => exact ⟨0, Nat.zero_le _, rfl⟩
                case round =>
                  obtain ⟨j, hj, rfl⟩ := hrel
                  by_cases hjN : j < N
                  · have hjN0 : (j : Int) < (N : Int) := by omega
                    have HGV := Lib.hid (show getV cur (j : Int) = !out md k j by unfold getV; rw [(has_iff cur (j : Int)).2 ⟨by omega, by have h1 := HCL.out; have h2 := HN.out; omega⟩, Bool.true_and, Int.toNat_natCast]; exact HLf.out j hjN)
                    have HGE := Lib.hid (show getE cur (j : Int) = 0 by unfold getE; rw [if_pos ((has_iff _ _).2 ⟨by omega, by have h1 := HCL.out; have h2 := HN.out; omega⟩)])
                    go_wp2_with (go_at_call 14; refine (get_any A2 n c2 cur HCL.out j _ HM.out.head (by omega)).mono ?_; rintro e w' ⟨rfl, rfl⟩; rw [HGV.out, HGE.out])
                    go_loop [17, 18] (fun o t => ∃ t' : Nat, t' ≤ k ∧ t = .int .i64 t' ∧ o = .bool (out md t' j)) (fun o t => k - (intOf t).toNat)
                    case atStart => exact ⟨0, Nat.zero_le _, rfl, rfl⟩
                    case round =>
                      obtain ⟨t, htk, rfl, rfl⟩ := hrel
                      by_cases ht : t < k
                      · have ht0 : (t : Int) < (zs.length : Int) := by omega
                        have ht3 : (t : Int) < 300 := by omega
                        have hos := out_succ md t j
                        have HOS := Lib.hid hos
                        cases ho : out md t j with
                        | true =>
                          have HO := Lib.hid ho
                          clear ho hos
                          go_wp2_with fail
                          go_round
                          case rel => exact ⟨t + 1, by omega, by go_num, by rw [HOS.out, HO.out]; rfl⟩
                          case measure => simp [intOf]; omega
                        | false =>
                          have HO := Lib.hid ho
                          have htl : t < zs.length := by omega
                          obtain ⟨b, off, rfl, hc⟩ := HIn.out.at_ htl
                          have hwz := HWF.out _ (List.getElem_mem htl)
                          have hmdk : zs[t] % (N : Int) = ((md t : Nat) : Int) := by
                            have h1 : md t = (zs.getD t 0 % (N : Int)).toNat := by rw [HMD.out]
                            rw [h1, List.getD_eq_getElem?_getD, List.getElem?_eq_getElem htl, Option.getD_some]
                            have := Int.emod_nonneg zs[t] (show (N : Int) ≠ 0 by omega)
                            omega
                          have HK := Lib.hid hmdk
                          generalize zs[t] = z at hc hwz HK
                          have hwz1 := hwz.1
                          have hwz2 := hwz.2
                          have HEQ := Lib.hid (show (((md t : Nat) : Int) == (j : Int)) = (md t == j) by rw [Bool.eq_iff_iff]; simp; omega)
                          clear ho hos hmdk hwz htl
                          go_wp2_with (go_at_call 17; refine (mod_any z N hNp (by omega) hwz1 hwz2 _).mono ?_; rintro e w' ⟨rfl, rfl⟩; rw [HK.out])
                          go_round
                          case rel => exact ⟨t + 1, by omega, by go_num, by rw [HOS.out, HO.out, Bool.false_or, HEQ.out]⟩
                          case measure => simp [intOf]; omega
                      · obtain rfl : t = k := by omega
                        have hne : ((!out md t j) == out md t j) = false := by cases out md t j <;> rfl
                        generalize out md t j = bo at hne
                        go_wp2_with fail
                        go_round
                        case rel => exact ⟨j + 1, by omega, by go_num⟩
                        case measure => simp [intOf]; omega
                  · obtain rfl : j = N := by omega
                    go_wp2_with fail
                    go_ret
                    exact ⟨rfl, HB.out⟩
              · have he1 : (k : Int) < (zs.length : Int) := by omega
                have he2 : (300 : Int) ≤ (k : Int) := by omega
                clear he he3 hgo
                go_wp2_with fail
                go_loop [14] (fun i => ∃ j : Nat, j ≤ N ∧ i = .int .i64 j) (fun i => N - (intOf i).toNat)
                case atStart => exact ⟨0, Nat.zero_le _, rfl⟩
                case round =>
                  obtain ⟨j, hj, rfl⟩ := hrel
                  by_cases hjN : j < N
                  · have hjN0 : (j : Int) < (N : Int) := by omega
                    have HGV := Lib.hid (show getV cur (j : Int) = !out md k j by unfold getV; rw [(has_iff cur (j : Int)).2 ⟨by omega, by have h1 := HCL.out; have h2 := HN.out; omega⟩, Bool.true_and, Int.toNat_natCast]; exact HLf.out j hjN)
                    have HGE := Lib.hid (show getE cur (j : Int) = 0 by unfold getE; rw [if_pos ((has_iff _ _).2 ⟨by omega, by have h1 := HCL.out; have h2 := HN.out; omega⟩)])
                    go_wp2_with (go_at_call 14; refine (get_any A2 n c2 cur HCL.out j _ HM.out.head (by omega)).mono ?_; rintro e w' ⟨rfl, rfl⟩; rw [HGV.out, HGE.out])
                    go_loop [17, 18] (fun o t => ∃ t' : Nat, t' ≤ k ∧ t = .int .i64 t' ∧ o = .bool (out md t' j)) (fun o t => k - (intOf t).toNat)
                    case atStart => exact ⟨0, Nat.zero_le _, rfl, rfl⟩
                    case round =>
                      obtain ⟨t, htk, rfl, rfl⟩ := hrel
                      by_cases ht : t < k
                      · have ht0 : (t : Int) < (zs.length : Int) := by omega
                        have ht3 : (t : Int) < 300 := by omega
                        have hos := out_succ md t j
                        have HOS := Lib.hid hos
                        cases ho : out md t j with
                        | true =>
                          have HO := Lib.hid ho
                          clear ho hos
                          go_wp2_with fail
                          go_round
                          case rel => exact ⟨t + 1, by omega, by go_num, by rw [HOS.out, HO.out]; rfl⟩
                          case measure => simp [intOf]; omega
                        | false =>
                          have HO := Lib.hid ho
                          have htl : t < zs.length := by omega
                          obtain ⟨b, off, rfl, hc⟩ := HIn.out.at_ htl
                          have hwz := HWF.out _ (List.getElem_mem htl)
                          have hmdk : zs[t] % (N : Int) = ((md t : Nat) : Int) := by
                            have h1 : md t = (zs.getD t 0 % (N : Int)).toNat := by rw [HMD.out]
                            rw [h1, List.getD_eq_getElem?_getD, List.getElem?_eq_getElem htl, Option.getD_some]
                            have := Int.emod_nonneg zs[t] (show (N : Int) ≠ 0 by omega)
                            omega
                          have HK := Lib.hid hmdk
                          generalize zs[t] = z at hc hwz HK
                          have hwz1 := hwz.1
                          have hwz2 := hwz.2
                          have HEQ := Lib.hid (show (((md t : Nat) : Int) == (j : Int)) = (md t == j) by rw [Bool.eq_iff_iff]; simp; omega)
                          clear ho hos hmdk hwz htl
                          go_wp2_with (go_at_call 17; refine (mod_any z N hNp (by omega) hwz1 hwz2 _).mono ?_; rintro e w' ⟨rfl, rfl⟩; rw [HK.out])
                          go_round
                          case rel => exact ⟨t + 1, by omega, by go_num, by rw [HOS.out, HO.out, Bool.false_or, HEQ.out]⟩
                          case measure => simp [intOf]; omega
                      · obtain rfl : t = k := by omega
                        have hne : ((!out md t j) == out md t j) = false := by cases out md t j <;> rfl
                        generalize out md t j = bo at hne
                        go_wp2_with fail
                        go_round
                        case rel => exact ⟨j + 1, by omega, by go_num⟩
                        case measure => simp [intOf]; omega
                  · obtain rfl : j = N := by omega
                    go_wp2_with fail
                    go_ret
                    exact ⟨rfl, HB.out⟩
      · have htq : t ≤ q := by
          rcases Nat.lt_or_ge q t with h1 | h1
          · rw [HON.out q h1] at hqb; cases hqb
          · exact h1
        have hqN2 : q < N := by rw [HCL.out, HN.out] at hqN; exact hqN
        have htq2 : (t : Int) ≤ (q : Int) := by omega
        have hqm : ((q : Int) == -1) = false := by rw [beq_eq_false_iff_ne]; omega
        have HGE := Lib.hid (show getE cur (q : Int) = 0 by unfold getE; rw [if_pos ((has_iff _ _).2 ⟨by omega, by omega⟩)])
        have HQA := Lib.hid hqa
        clear hq0 hqN hqb hqa
        go_wp2_with (first
          | (go_at_call 15; refine (lowest_r A2 n c2 cur HCL.out 0 q HR.out _ HM.out.head (by omega) (by decide) (by decide)).mono ?_; rintro e w' ⟨rfl, rfl⟩)
          | (go_at_call 16; refine (put_any w.heap.size A2 n c2 cur [] HCL.out q true _ HM.out (by omega)).mono ?_; rintro e w3 ⟨rfl, hm3, hk3⟩; rw [HGE.out]; have HM3 := Lib.hid hm3; have HB3 := Lib.hid (HB.out.trans (hk3.below hBs HM.out.of_ge))))
        go_roundw
        case rel =>
          refine ⟨k + 1, q + 1, putL cur q true, by go_num, by go_num, by omega, by omega, by rw [putL_length]; exact HCL.out, HM3.out, fun j hj => ?_, HB3.out⟩
          rw [put_bit cur q j true (by have h1 := HCL.out; have h2 := HN.out; omega)]
          split
          · rfl
          · exact HQA.out j (by omega) (by omega)
        case measure => simp [intOf]; omega
  · have hs200 : (l.length : Int) ≤ 200 := by omega
    go_enter Try.func6, Try.ntmps6
    go_wp2_with (first
      | (go_at_call 7; refine (fixed_any _).mono ?_; rintro e w1 ⟨rfl, hb1⟩; have hs1 := hb1.size; have HB1 := Lib.hid hb1)
      | (at_builtin; refine wpList_append_u8 rfl (.tmp 26) (.tmp 27) rfl w.heap.size (some ⟨w1.heap.size, 0, none⟩) 0 [] rfl (Mine.empty w1 hs1) A ca l rfl HC.out ((HA.out.later HB1.out).later (below_new w1 _)) (by simp; omega) (by simp; omega) ?_; intro A2 c2 w2 hm2 hg2 hb2; rw [show (([] : List UInt8) ++ l).length = l.length from rfl]; have HM2 := Lib.hid (show Mine w2 w.heap.size A2 c2 l from hm2); have HB2 := Lib.hid (HB1.out.trans (((below_new w1 (.cells #[] 5)).mono hs1).trans hb2)); have hs2 := HB2.out.size))
    obtain ⟨n, hn⟩ : ∃ n : Nat, l.length = n := ⟨_, rfl⟩
    rw [hn]
    have HLn := Lib.hid hn
    have hnb : n ≤ 200 := by omega
    clear h200 hs200 hle hn
    obtain ⟨N, hN⟩ : ∃ N : Nat, 8 * n = N := ⟨_, rfl⟩
    have hNi : 8 * (n : Int) = (N : Int) := by omega
    have hNb : N ≤ 1600 := by omega
    have HN := Lib.hid hN
    obtain ⟨md, hmd⟩ : ∃ md : Nat → Nat, md = fun t => (zs.getD t 0 % (N : Int)).toNat := ⟨_, rfl⟩
    have HMD := Lib.hid hmd
    have hM0 : Mine w2 w.heap.size A2 c2 (l ++ []) := by rw [List.append_nil]; exact HM2.out
    have HM0 := Lib.hid hM0
    clear hM0 hm2 hg2 hb2 hN hmd HM2 HB1 hb1 hs1
    go_loopw [6, 7] (fun a i wr => ∃ (k t : Nat) (cur : List UInt8), i = .int .i64 k ∧ a = .int .i64 ((t : Int) - 1) ∧ k ≤ t ∧ t ≤ N ∧ cur.length = n ∧ Mine wr w.heap.size A2 c2 (cur ++ []) ∧ (∀ j, j < t → bit cur j = true) ∧ Below w.heap.size w wr) (fun a i _ => N + 1 - (intOf i).toNat)
    case atStart => exact ⟨0, 0, l, rfl, rfl, Nat.le_refl _, Nat.zero_le _, HLn.out, HM0.out, fun j h => by omega, HB2.out⟩
    case round =>
      obtain ⟨k, t, cur, rfl, rfl, hkt, htN, hcl, hM, hon, hB⟩ := hrel
      have HCL := Lib.hid hcl
      have HM := Lib.hid hM
      have HON := Lib.hid hon
      have HB := Lib.hid hB
      have hBs := hB.size
      have hkN : (k : Int) ≤ (N : Int) := by omega
      obtain ⟨r, hr⟩ := low_ex cur 0
      have HR := Lib.hid hr
      clear hcl hM hon hB
      rcases hr with ⟨rfl, hall⟩ | ⟨q, rfl, hq0, hqN, hqb, hqa⟩
      · have HALL := Lib.hid (show ∀ j, j < N → bit cur j = true from fun j hj => hall j (by omega) (by rw [HCL.out, HN.out]; exact hj))
        have hok : cntOk cur 0 (N : Int) = true := by unfold cntOk; rw [HCL.out, hNi]; simp
        have HCV := Lib.hid (show cntV cur 0 (N : Int) = N by unfold cntV; rw [if_pos hok, show ((N : Int) - 0).toNat = N by omega]; exact cnt_on cur 0 N (fun j h1 h2 => HALL.out j (by omega)))
        have HCE := Lib.hid (show cntE cur 0 (N : Int) = 0 by unfold cntE; rw [if_pos hok])
        clear hall hok
        by_cases hn0 : n = 0
        · subst hn0
          have hN0 : N = 0 := by have := HN.out; omega
          subst hN0
          go_wp2_with (first
            | (go_at_call 15; refine (lowest_r A2 0 c2 cur HCL.out 0 (-1) HR.out _ HM.out.head (by decide) (by decide) (by decide)).mono ?_; rintro e w' ⟨rfl, rfl⟩)
            | (go_at_call 13; refine (count_any A2 0 c2 cur HCL.out 0 0 _ HM.out.head (by decide)).mono ?_; rintro e w' ⟨rfl, rfl⟩; rw [show cntV cur 0 0 = 0 from HCV.out, show cntE cur 0 0 = 0 from HCE.out]))
          go_ret
          exact ⟨rfl, HB.out⟩
        · have hn1 : ((n : Int) == 0) = false := by rw [beq_eq_false_iff_ne]; omega
          have hNp : 0 < N := by have := HN.out; omega
          go_wp2_with (first
            | (go_at_call 15; refine (lowest_r A2 n c2 cur HCL.out 0 (-1) HR.out _ HM.out.head (by omega) (by decide) (by decide)).mono ?_; rintro e w' ⟨rfl, rfl⟩)
            | (go_at_call 13; refine (count_any A2 n c2 cur HCL.out 0 (N : Int) _ HM.out.head (by omega)).mono ?_; rintro e w' ⟨rfl, rfl⟩; rw [HCV.out, HCE.out]))
          have HLF : Left md 0 N cur := fun j hj => by rw [out_zero]; exact HALL.out j hj
          have HLS : Least md 0 N N := ⟨fun t h => by omega, .inl rfl⟩
          obtain ⟨wo, hwo⟩ : ∃ wo : World, wo = w' := ⟨_, rfl⟩
          have HM2 := Lib.hid HM.out
          have HB2' := Lib.hid HB.out
          go_loopw [11, 12] (fun v i wr => ∃ (k m : Nat) (cur : List UInt8), i = .int .i64 k ∧ v = .int .i64 m ∧ k ≤ zs.length ∧ k ≤ 300 ∧ m ≤ N ∧ cur.length = n ∧ Mine wr w.heap.size A2 c2 (cur ++ []) ∧ Left md k N cur ∧ Least md k N m ∧ Below w.heap.size w wr) (fun v i _ => 300 - (intOf i).toNat)
          case atStart => exact ⟨0, N, cur, rfl, rfl, Nat.zero_le _, by omega, Nat.le_refl _, HCL.out, HM2.out, HLF, HLS, HB2'.out⟩
          case round =>
            clear HCL HM HR HON HALL HCV HCE HLF HLS HM2 HB2' HB
            obtain ⟨k, m, cur, rfl, rfl, hkz, hk3, hmN, hcl, hM, hLf, hLs, hB⟩ := hrel
            have HCL := Lib.hid hcl
            have HM := Lib.hid hM
            have HLf := Lib.hid hLf
            have HLs := Lib.hid hLs
            have HB := Lib.hid hB
            have hBs := hB.size
            have HIn := Lib.hid (HP.out.later hB)
            clear hcl hM hLf hLs hB
            by_cases hgo : k < zs.length ∧ k < 300
            · obtain ⟨hkl, hk30⟩ := hgo
              obtain ⟨b, off, rfl, hc⟩ := HIn.out.at_ hkl
              have hwz := HWF.out _ (List.getElem_mem hkl)
              have hmdk : zs[k] % (N : Int) = ((md k : Nat) : Int) := by
                have h1 : md k = (zs.getD k 0 % (N : Int)).toNat := by rw [HMD.out]
                rw [h1, List.getD_eq_getElem?_getD, List.getElem?_eq_getElem hkl, Option.getD_some]
                have := Int.emod_nonneg zs[k] (show (N : Int) ≠ 0 by omega)
                omega
              have hmdN : md k < N := by
                have := Int.emod_lt_of_pos zs[k] (show (0 : Int) < (N : Int) by omega)
                omega
              have HK := Lib.hid hmdk
              have hkl0 : (k : Int) < (zs.length : Int) := by omega
              have hk300 : (k : Int) < 300 := by omega
              generalize zs[k] = z at hc hwz HK
              have hwz1 := hwz.1
              have hwz2 := hwz.2
              obtain ⟨q, hq⟩ : ∃ q, md k = q := ⟨_, rfl⟩
              obtain ⟨m2, hm2⟩ : ∃ m2 : Nat, (if (q : Int) < (m : Int) then (q : Int) else (m : Int)) = (m2 : Int) := ⟨(if (q : Int) < (m : Int) then (q : Int) else (m : Int)).toNat, by split <;> omega⟩
              have HCL2 := Lib.hid (show 8 * cur.length = N by rw [HCL.out]; exact HN.out)
              have hLf2 := HLf.out.put HCL2.out hmdN
              obtain ⟨hLs2, hm2N, hom⟩ := HLs.out.put (by rw [hq]; exact hm2) hmN hmdN
              rw [hq] at hLf2 HK hmdN
              have hlw := least_low hLf2 hLs2 hom hm2N (by rw [putL_length]; exact HCL2.out)
              have HLW := Lib.hid hlw
              have HLf2 := Lib.hid hLf2
              have HLs2 := Lib.hid hLs2
              have HPL := Lib.hid (show (putL cur (q : Int) false).length = n by rw [putL_length]; exact HCL.out)
              have HGE := Lib.hid (show getE cur (q : Int) = 0 by unfold getE; rw [if_pos ((has_iff _ _).2 ⟨by omega, by have := HCL2.out; omega⟩)])
              clear hmdk hwz hLf2 hLs2 hom hlw hq
              go_wp2_with (first
                | (go_at_call 17; refine (mod_any z N hNp (by omega) hwz1 hwz2 _).mono ?_; rintro e w' ⟨rfl, rfl⟩; rw [HK.out])
                | (go_at_call 16; refine (put_any w.heap.size A2 n c2 cur [] HCL.out q false _ HM.out (by omega)).mono ?_; rintro e w3 ⟨rfl, hm3, hk3'⟩; rw [HGE.out]; have HM3 := Lib.hid hm3; have HB3 := Lib.hid (HB.out.trans (hk3'.below hBs HM.out.of_ge)))
                | (refine wpList_min2 rfl _ _ _ rfl (m : Int) (q : Int) rfl rfl (m2 : Int) hm2 ?_)
                | (go_at_call 15; with_reducible refine (lowest_any A2 n c2 (putL cur (q : Int) false) HPL.out 0 _ HM3.out.head (by omega) (by decide) (by decide)).mono ?_; rintro e w' ⟨⟨r1, rfl, hr1⟩, rfl⟩; obtain rfl := hr1.eq HLW.out.1)
                | (go_at_call 15; with_reducible refine (lowest_any A2 n c2 (putL cur (q : Int) false) HPL.out m2 _ HM3.out.head (by omega) (by omega) (by omega)).mono ?_; rintro e w' ⟨⟨r1, rfl, hr1⟩, rfl⟩; obtain rfl := hr1.eq HLW.out.2))
              go_roundw
              case rel => exact ⟨k + 1, m2, putL cur q false, by go_num, rfl, by omega, by omega, by omega, HPL.out, HM3.out, HLf2.out, HLs2.out, HB3.out⟩
              case measure => simp [intOf]; omega
            · have HEND := Lib.hid (show zs.length ≤ k ∨ (k < zs.length ∧ 300 ≤ k) by omega)
              obtain ⟨wf, rfl⟩ : ∃ wf : World, wf = wr := ⟨_, rfl⟩
              rcases HEND.out with he | ⟨he, he3⟩
              · have he1 : (zs.length : Int) ≤ (k : Int) := by omega
                clear he hgo
                go_wp2_with fail
                go_loop [14] (fun i => ∃ j : Nat, j ≤ N ∧ i = .int .i64 j) (fun i => N - (intOf i).toNat)
                case atStart => exact ⟨0, Nat.zero_le _, rfl⟩
                case round =>
                  obtain ⟨j, hj, rfl⟩ := hrel
                  by_cases hjN : j < N
                  · have hjN0 : (j : Int) < (N : Int) := by omega
                    have HGV := Lib.hid (show getV cur (j : Int) = !out md k j by unfold getV; rw [(has_iff cur (j : Int)).2 ⟨by omega, by have h1 := HCL.out; have h2 := HN.out; omega⟩, Bool.true_and, Int.toNat_natCast]; exact HLf.out j hjN)
                    have HGE := Lib.hid (show getE cur (j : Int) = 0 by unfold getE; rw [if_pos ((has_iff _ _).2 ⟨by omega, by have h1 := HCL.out; have h2 := HN.out; omega⟩)])
                    go_wp2_with (go_at_call 14; refine (get_any A2 n c2 cur HCL.out j _ HM.out.head (by omega)).mono ?_; rintro e w' ⟨rfl, rfl⟩; rw [HGV.out, HGE.out])
                    go_loop [17, 18] (fun o t => ∃ t' : Nat, t' ≤ k ∧ t = .int .i64 t' ∧ o = .bool (out md t' j)) (fun o t => k - (intOf t).toNat)
                    case atStart => exact ⟨0, Nat.zero_le _, rfl, rfl⟩
                    case round =>
                      obtain ⟨t, htk, rfl, rfl⟩ := hrel
                      by_cases ht : t < k
                      · have ht0 : (t : Int) < (zs.length : Int) := by omega
                        have ht3 : (t : Int) < 300 := by omega
                        have hos := out_succ md t j
                        have HOS := Lib.hid hos
                        cases ho : out md t j with
                        | true =>
                          have HO := Lib.hid ho
                          clear ho hos
                          go_wp2_with fail
                          go_round
                          case rel => exact ⟨t + 1, by omega, by go_num, by rw [HOS.out, HO.out]; rfl⟩
                          case measure => simp [intOf]; omega
                        | false =>
                          have HO := Lib.hid ho
                          have htl : t < zs.length := by omega
                          obtain ⟨b, off, rfl, hc⟩ := HIn.out.at_ htl
                          have hwz := HWF.out _ (List.getElem_mem htl)
                          have hmdk : zs[t] % (N : Int) = ((md t : Nat) : Int) := by
                            have h1 : md t = (zs.getD t 0 % (N : Int)).toNat := by rw [HMD.out]
                            rw [h1, List.getD_eq_getElem?_getD, List.getElem?_eq_getElem htl, Option.getD_some]
                            have := Int.emod_nonneg zs[t] (show (N : Int) ≠ 0 by omega)
                            omega
                          have HK := Lib.hid hmdk
                          generalize zs[t] = z at hc hwz HK
                          have hwz1 := hwz.1
                          have hwz2 := hwz.2
                          have HEQ := Lib.hid (show (((md t : Nat) : Int) == (j : Int)) = (md t == j) by rw [Bool.eq_iff_iff]; simp; omega)
                          clear ho hos hmdk hwz htl
                          go_wp2_with (go_at_call 17; refine (mod_any z N hNp (by omega) hwz1 hwz2 _).mono ?_; rintro e w' ⟨rfl, rfl⟩; rw [HK.out])
                          go_round
                          case rel => exact ⟨t + 1, by omega, by go_num, by rw [HOS.out, HO.out, Bool.false_or, HEQ.out]⟩
                          case measure => simp [intOf]; omega
                      · obtain rfl : t = k := by omega
                        have hne : ((!out md t j) == out md t j) = false := by cases out md t j <;> rfl
                        generalize out md t j = bo at hne
                        go_wp2_with fail
                        go_round
                        case rel => exact ⟨j + 1, by omega, by go_num⟩
                        case measure => simp [intOf]; omega
                  · obtain rfl : j = N := by omega
                    go_wp2_with fail
                    go_ret
                    exact ⟨rfl, HB.out⟩
              · have he1 : (k : Int) < (zs.length : Int) := by omega
                have he2 : (300 : Int) ≤ (k : Int) := by omega
                clear he he3 hgo
                go_wp2_with fail
                go_loop [14] (fun i => ∃ j : Nat, j ≤ N ∧ i = .int .i64 j) (fun i => N - (intOf i).toNat)
                case atStart => exact ⟨0, Nat.zero_le _, rfl⟩
                case round =>
                  obtain ⟨j, hj, rfl⟩ := hrel
                  by_cases hjN : j < N
                  · have hjN0 : (j : Int) < (N : Int) := by omega
                    have HGV := Lib.hid (show getV cur (j : Int) = !out md k j by unfold getV; rw [(has_iff cur (j : Int)).2 ⟨by omega, by have h1 := HCL.out; have h2 := HN.out; omega⟩, Bool.true_and, Int.toNat_natCast]; exact HLf.out j hjN)
                    have HGE := Lib.hid (show getE cur (j : Int) = 0 by unfold getE; rw [if_pos ((has_iff _ _).2 ⟨by omega, by have h1 := HCL.out; have h2 := HN.out; omega⟩)])
                    go_wp2_with (go_at_call 14; refine (get_any A2 n c2 cur HCL.out j _ HM.out.head (by omega)).mono ?_; rintro e w' ⟨rfl, rfl⟩; rw [HGV.out, HGE.out])
                    go_loop [17, 18] (fun o t => ∃ t' : Nat, t' ≤ k ∧ t = .int .i64 t' ∧ o = .bool (out md t' j)) (fun o t => k - (intOf t).toNat)
                    case atStart => exact ⟨0, Nat.zero_le _, rfl, rfl⟩
                    case round =>
                      obtain ⟨t, htk, rfl, rfl⟩ := hrel
                      by_cases ht : t < k
                      · have ht0 : (t : Int) < (zs.length : Int) := by omega
                        have ht3 : (t : Int) < 300 := by omega
                        have hos := out_succ md t j
                        have HOS := Lib.hid hos
                        cases ho : out md t j with
                        | true =>
                          have HO := Lib.hid ho
                          clear ho hos
                          go_wp2_with fail
                          go_round
                          case rel => exact ⟨t + 1, by omega, by go_num, by rw [HOS.out, HO.out]; rfl⟩
                          case measure => simp [intOf]; omega
                        | false =>
                          have HO := Lib.hid ho
                          have htl : t < zs.length := by omega
                          obtain ⟨b, off, rfl, hc⟩ := HIn.out.at_ htl
                          have hwz := HWF.out _ (List.getElem_mem htl)
                          have hmdk : zs[t] % (N : Int) = ((md t : Nat) : Int) := by
                            have h1 : md t = (zs.getD t 0 % (N : Int)).toNat := by rw [HMD.out]
                            rw [h1, List.getD_eq_getElem?_getD, List.getElem?_eq_getElem htl, Option.getD_some]
                            have := Int.emod_nonneg zs[t] (show (N : Int) ≠ 0 by omega)
                            omega
                          have HK := Lib.hid hmdk
                          generalize zs[t] = z at hc hwz HK
                          have hwz1 := hwz.1
                          have hwz2 := hwz.2
                          have HEQ := Lib.hid (show (((md t : Nat) : Int) == (j : Int)) = (md t == j) by rw [Bool.eq_iff_iff]; simp; omega)
                          clear ho hos hmdk hwz htl
                          go_wp2_with (go_at_call 17; refine (mod_any z N hNp (by omega) hwz1 hwz2 _).mono ?_; rintro e w' ⟨rfl, rfl⟩; rw [HK.out])
                          go_round
                          case rel => exact ⟨t + 1, by omega, by go_num, by rw [HOS.out, HO.out, Bool.false_or, HEQ.out]⟩
                          case measure => simp [intOf]; omega
                      · obtain rfl : t = k := by omega
                        have hne : ((!out md t j) == out md t j) = false := by cases out md t j <;> rfl
                        generalize out md t j = bo at hne
                        go_wp2_with fail
                        go_round
                        case rel => exact ⟨j + 1, by omega, by go_num⟩
                        case measure => simp [intOf]; omega
                  · obtain rfl : j = N := by omega
                    go_wp2_with fail
                    go_ret
                    exact ⟨rfl, HB.out⟩
      · have htq : t ≤ q := by
          rcases Nat.lt_or_ge q t with h1 | h1
          · rw [HON.out q h1] at hqb; cases hqb
          · exact h1
        have hqN2 : q < N := by rw [HCL.out, HN.out] at hqN; exact hqN
        have htq2 : (t : Int) ≤ (q : Int) := by omega
        have hqm : ((q : Int) == -1) = false := by rw [beq_eq_false_iff_ne]; omega
        have HGE := Lib.hid (show getE cur (q : Int) = 0 by unfold getE; rw [if_pos ((has_iff _ _).2 ⟨by omega, by omega⟩)])
        have HQA := Lib.hid hqa
        clear hq0 hqN hqb hqa
        go_wp2_with (first
          | (go_at_call 15; refine (lowest_r A2 n c2 cur HCL.out 0 q HR.out _ HM.out.head (by omega) (by decide) (by decide)).mono ?_; rintro e w' ⟨rfl, rfl⟩)
          | (go_at_call 16; refine (put_any w.heap.size A2 n c2 cur [] HCL.out q true _ HM.out (by omega)).mono ?_; rintro e w3 ⟨rfl, hm3, hk3⟩; rw [HGE.out]; have HM3 := Lib.hid hm3; have HB3 := Lib.hid (HB.out.trans (hk3.below hBs HM.out.of_ge))))
        go_roundw
        case rel =>
          refine ⟨k + 1, q + 1, putL cur q true, by go_num, by go_num, by omega, by omega, by rw [putL_length]; exact HCL.out, HM3.out, fun j hj => ?_, HB3.out⟩
          rw [put_bit cur q j true (by have h1 := HCL.out; have h2 := HN.out; omega)]
          split
          · rfl
          · exact HQA.out j (by omega) (by omega)
        case measure => simp [intOf]; omega
end Go.Proofs.Ytlpochabgdcidaa
