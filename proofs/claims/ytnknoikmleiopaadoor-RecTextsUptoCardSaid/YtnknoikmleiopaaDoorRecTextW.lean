/-
  THE WALK OF RecTexts: texts there and back, zeros behind them.
-/
import Derived.Test.YtnknoikmleiopaaDoorRecTextL
set_option linter.unusedVariables false
set_option linter.unusedSimpArgs false
namespace Go.Proofs.YtnknoikmleiopaaDoor
open Go.RowKit Rec

def wordCells (s : List UInt8) (k : Int) : Array Value := #[.string ⟨s.toArray⟩, .int .i64 k]
theorem wordAt {w : World} {g : Nat} {t : TypeId} {s : List UInt8} {k : Int} (h : Is w g t (wordCells s k)) : w.cell? ⟨g, 0, none⟩ = some (.string ⟨s.toArray⟩) ∧ w.cell? ⟨g, 1, none⟩ = some (.int .i64 k) := ⟨h.cell 0, h.cell 1⟩
theorem tail_if {w : World} {g c f bl : Nat} {l : List UInt8} {A : Option Addr} (hA : (if c = f then (some ⟨g, 0, none⟩ : Option Addr) else some ⟨g, f, none⟩) = A) (h : Bytes w (some ⟨g, 0, none⟩) l) (hc : bl ≤ c) (hl : l.length = bl) : Bytes w A (l.drop f) := by
  subst hA
  split
  · exact .inl (List.drop_eq_nil_of_le (by omega))
  · exact bytes_lit h f

theorem two_puts {w : World} {base base2 g g2 c c2 : Nat} {l : List UInt8} (h : Mine w base (some ⟨g, 0, none⟩) c l) (h2 : Mine w base2 (some ⟨g2, 0, none⟩) c2 l) (hne : g < g2) (k : Nat) (hb : base ≤ g2) (hb1 : base ≤ g) :
    Mine ((w.setCell ⟨g, k, none⟩ (.int .u8 1)).setCell ⟨g2, k, none⟩ (.int .u8 1)) base (some ⟨g, 0, none⟩) c (l.set k 1) ∧ Mine ((w.setCell ⟨g, k, none⟩ (.int .u8 1)).setCell ⟨g2, k, none⟩ (.int .u8 1)) base2 (some ⟨g2, 0, none⟩) c2 (l.set k 1) ∧
    Below base w ((w.setCell ⟨g, k, none⟩ (.int .u8 1)).setCell ⟨g2, k, none⟩ (.int .u8 1)) := by
  have h1 : Mine (w.setCell ⟨g, k, none⟩ (.int .u8 1)) base (some ⟨g, 0, none⟩) c (l.set k 1) := h.put k 1
  have h3 : Mine (w.setCell ⟨g, k, none⟩ (.int .u8 1)) base2 (some ⟨g2, 0, none⟩) c2 l := h2.kept fun g' e => by
    injection e with e; injection e with e; subst e
    exact heap_setCell_other w ⟨g, k, none⟩ g2 _ (show g2 ≠ g by omega)
  refine ⟨h1.kept fun g' e => ?_, h3.put k 1, ((Below.refl _ _).setCell (p := ⟨g, k, none⟩) hb1 _).setCell (p := ⟨g2, k, none⟩) hb _⟩
  injection e with e; injection e with e; subst e
  exact heap_setCell_other _ ⟨g2, k, none⟩ g _ (show g ≠ g2 by omega)

set_option maxRecDepth 100000 in
set_option maxHeartbeats 6400000 in
theorem texts_any (A0 B0 : Option Addr) (ca0 cb0 : Nat) (a z s : List UInt8) (k : Int) (w : World) (hw : WidthsAt w) (hA : Bytes w A0 a) (hB : Bytes w B0 z) (hC : A0 = none → ca0 = 0) (hD : B0 = none → cb0 = 0)
    (ha : a.length ≤ 1048576) (hz : z.length ≤ 1048576) (hsl : s.length ≤ 1048576) (hk : -9223372036854775808 ≤ k) (hk2 : k ≤ 9223372036854775807) :
    Calls Tryd.prog 6 #[.slice A0 a.length ca0, .slice B0 z.length cb0, .agg (wordCells s k)] w fun e w' => e = .returned (.bool true) ∧ Below w.heap.size w w' := by
  have hgw := hw.lt
  obtain ⟨hbn, hin⟩ := one_new w (wordCells s k) 47
  obtain ⟨M, hMk⟩ := Int.eq_ofNat_of_zero_le (Int.emod_nonneg k (show (9 : Int) ≠ 0 by decide))
  have hM9 : M ≤ 8 := by have := Int.emod_lt_of_pos k (show (0 : Int) < 9 by decide); omega
  have HK := Lib.hid (show k % ((9 : Nat) : Int) = (M : Int) from hMk)
  obtain ⟨L, hLs⟩ : ∃ L, nz s = L := ⟨_, rfl⟩
  have HLS := Lib.hid hLs
  have hF : Full L := by rw [← hLs]; exact nz_mem s
  have hLl : L.length ≤ 1048576 := by rw [← hLs]; exact Nat.le_trans (nz_le s) hsl
  obtain ⟨N, hN⟩ : ∃ N, L.length + M = N := ⟨_, rfl⟩
  have hwN : IntKind.i64.wrap ((L.length : Int) + (M : Int)) = (N : Int) := by rw [IntWalk.i64_in _ (by omega)]; omega
  obtain ⟨p, hp⟩ : ∃ p, a.length + 1 = p := ⟨_, rfl⟩
  have hwp : IntKind.i64.wrap ((a.length : Int) + 1) = (p : Int) := by rw [IntWalk.i64_in _ (by omega)]; omega
  obtain ⟨pl, hpl⟩ : ∃ pl, p + L.length = pl := ⟨_, rfl⟩
  have hwpl : IntKind.i64.wrap ((p : Int) + (L.length : Int)) = (pl : Int) := by rw [IntWalk.i64_in _ (by omega)]; omega
  have hwpa : IntKind.i64.wrap ((p : Int) - 1) = (a.length : Int) := by rw [IntWalk.i64_in _ (by omega)]; omega
  obtain ⟨e, he⟩ : ∃ e, p + N = e := ⟨_, rfl⟩
  have hwe : IntKind.i64.wrap ((p : Int) + (N : Int)) = (e : Int) := by rw [IntWalk.i64_in _ (by omega)]; omega
  obtain ⟨f, hf⟩ : ∃ f, e + 1 = f := ⟨_, rfl⟩
  have hwf : IntKind.i64.wrap ((e : Int) + 1) = (f : Int) := by rw [IntWalk.i64_in _ (by omega)]; omega
  obtain ⟨n1, hn1⟩ : ∃ n1, N + 1 = n1 := ⟨_, rfl⟩
  have hwn1 : IntKind.i64.wrap ((N : Int) + 1) = (n1 : Int) := by rw [IntWalk.i64_in _ (by omega)]; omega
  obtain ⟨P, hP⟩ : ∃ P, a ++ [9] = P := ⟨_, rfl⟩
  have hPl : P.length = p := by rw [← hP]; simp; omega
  obtain ⟨b0, hb0⟩ : ∃ b0, P ++ List.replicate N 200 ++ ([9] ++ z) = b0 := ⟨_, rfl⟩
  obtain ⟨b1, hb1⟩ : ∃ b1, P ++ (L ++ List.replicate M 0) ++ ([9] ++ z) = b1 := ⟨_, rfl⟩
  obtain ⟨bl, hbl⟩ : ∃ bl, f + z.length = bl := ⟨_, rfl⟩
  have hl0 : b0.length = bl := by rw [← hb0]; simp; omega
  have hl1 : b1.length = bl := by rw [← hb1]; simp; omega
  have hpt := putText_mid P (List.replicate N 200) L ([9] ++ z) M p N hF hPl (by simp) hN
  rw [hb0, hb1] at hpt
  have htx := text_mid P L ([9] ++ z) M p N hF hPl hN
  rw [hb1] at htx
  have hzr := zero_mid P L ([9] ++ z) M pl M (by omega) rfl
  rw [hb1] at hzr
  have htp : ∀ q, q ≤ L.length → textE b1 p q = 0 ∧ textV b1 p q = L.take q := fun q hq => by
    have h := text_pre P L (List.replicate M 0) ([9] ++ z) p q hF hPl hq
    rw [hb1] at h; exact h
  have htk : b1.take a.length = a := by rw [← hb1, ← hP]; simp [List.append_assoc]
  have hdf : b1.drop f = z := by
    have e1 : b1 = (P ++ (L ++ List.replicate M 0) ++ [9]) ++ z := by rw [← hb1]; simp only [List.append_assoc]
    have e2 : (P ++ (L ++ List.replicate M 0) ++ [9]).length = f := by simp; omega
    rw [e1, ← e2, List.drop_left]
  have hca : ∀ (w : World) (g c : Nat) {base : Nat}, Mine w base (some ⟨g, 0, none⟩) c b1 → w.cell? ⟨g, a.length, none⟩ = some (.int .u8 9) := fun w g c base h => by
    have h1 := h.cell (k := a.length) (by omega)
    have e1 : b1[a.length]'(by omega) = 9 := by
      have e2 : b1 = a ++ (9 :: ((L ++ List.replicate M 0) ++ ([9] ++ z))) := by rw [← hb1, ← hP]; simp only [List.append_assoc, List.cons_append, List.nil_append]
      simp only [e2, List.getElem_append_right (Nat.le_refl _), Nat.sub_self, List.getElem_cons_zero]
    rw [h1, e1]; rfl
  have hce : ∀ (w : World) (g c : Nat) {base : Nat}, Mine w base (some ⟨g, 0, none⟩) c b1 → w.cell? ⟨g, e, none⟩ = some (.int .u8 9) := fun w g c base h => by
    have h1 := h.cell (k := e) (by omega)
    have e1 : b1[e]'(by omega) = 9 := by
      have e2 : b1 = (P ++ (L ++ List.replicate M 0)) ++ (9 :: z) := by rw [← hb1]; simp only [List.append_assoc, List.cons_append, List.nil_append]
      have e3 : (P ++ (L ++ List.replicate M 0)).length = e := by simp; omega
      simp only [e2, ← e3, List.getElem_append_right (Nat.le_refl _), Nat.sub_self, List.getElem_cons_zero]
    rw [h1, e1]; rfl
  have hset : 1 < M → ∀ e1, e - 1 = e1 → ∃ b2, Hid (b1.set e1 1 = b2) ∧ Hid (b2.length = bl) ∧ Hid (textE b2 p N = 1) := fun h1 e1 he1 => by
    obtain ⟨M', rfl⟩ : ∃ M', M = M' + 1 := ⟨M - 1, by omega⟩
    have h2 := set_mid P L ([9] ++ z) M' e1 (by omega)
    rw [hb1] at h2
    refine ⟨_, Lib.hid h2, Lib.hid ?_, Lib.hid (text_bad P L ([9] ++ z) M' p N hF hPl (by omega) (by omega))⟩
    rw [← h2, List.length_set, hl1]
  have HE2 := Lib.hid (show putTextE b1.length p n1 (L ++ [0]) = 1 by unfold putTextE; rw [if_pos (.inr (.inr (by rw [hF.ahead_zero 0 rfl]; simp)))])
  have HE3 := Lib.hid (show putTextE b1.length bl 1 [] = 20 by unfold putTextE; rw [if_neg (by simp [Rec.ahead]), if_pos (by rw [hl1]; simp [lies]; omega)])
  have hcat := str_cat L 0
  have hble : bl ≤ 4194400 := by omega
  have HL0 := Lib.hid hl0
  have HLB := Lib.hid hl1
  have HPT := Lib.hid hpt
  have HTX := Lib.hid htx
  have HZR := Lib.hid hzr
  have HTP := Lib.hid htp
  have HTK := Lib.hid htk
  have HDF := Lib.hid hdf
  have HCA := Lib.hid @hca
  have HCE := Lib.hid @hce
  have HSET := Lib.hid hset
  have HP := Lib.hid hP
  have HB0L := Lib.hid hb0
  have hfz : f + z.length = bl := hbl
  clear hl0 hl1 hpt htx hzr htp htk hdf hca hce hset hb0 hb1 hLs hMk hP
  go_enter Tryd.func6, Tryd.ntmps6
  go_upto_region 1 with fail
  have HW0 := Lib.hid (hw.below hbn hgw)
  have HA0 := Lib.hid (hA.later hbn)
  have HA1 := Lib.hid (hB.later hbn)
  have HC0 := Lib.hid hC
  have HC1 := Lib.hid hD
  have HI0 := Lib.hid hin
  have HB0 := Lib.hid hbn
  clear hw hA hB hC hD hin hbn
  generalize w.alloc (.cells (wordCells s k) 47) = w0 at HW0 HA0 HA1 HI0 HB0 ⊢
  go_wp2_with (go_at_call 7; refine (fixed_any _ HW0.out).mono ?_; rintro e w1 ⟨rfl, hb1⟩; have HB1 := Lib.hid hb1)
  have hB1s := HB1.out.size
  go_loopw [7, 8] (fun v i wr => ∃ (j : Nat) (A : Option Addr) (ct : Nat), j ≤ s.length ∧ i = .int .i64 j ∧ v = .slice A (nz (s.take j)).length ct ∧ Mine wr w0.heap.size A ct (nz (s.take j)) ∧ Below w0.heap.size w0 wr) (fun _ i _ => s.length - (intOf i).toNat)
  case atStart => exact ⟨0, none, 0, Nat.zero_le _, rfl, rfl, Mine.nil _ _, HB1.out⟩
  case round =>
    obtain ⟨j, T, ct, hj, rfl, rfl, hM, hB⟩ := hrel
    have HB := Lib.hid hB
    have hBs := hB.size
    obtain ⟨i0, i1⟩ := wordAt (HI0.out.below hB HI0.out.lt)
    have hss : (⟨s.toArray⟩ : ByteArray).size = s.length := rfl
    by_cases hjl : j < s.length
    · have hd : (j : Int) < (s.length : Int) := by omega
      have hidx : ((((⟨s.toArray⟩ : ByteArray)[j]'hjl).toNat : Int)) = n8 s[j] := rfl
      have hnl : (nz (s.take j)).length ≤ 1048576 := by have := nz_le (s.take j); rw [List.length_take] at this; omega
      by_cases hz : s[j] = 0
      · have hb := n8_zero' _ hz
        have HSK := Lib.hid (nz_skip s j hjl hz)
        have HM := Lib.hid hM
        clear hz hM hB
        go_wp2_with fail
        go_roundw
        case rel => exact ⟨j + 1, T, ct, by omega, by go_num, by rw [HSK.out], by rw [HSK.out]; exact HM.out, HB.out⟩
        case measure => simp [intOf]; omega
      · have hb := n8_some' _ hz
        have HSN := Lib.hid (nz_snoc s j hjl hz)
        generalize nz (s.take j) = Lj at hM hnl HSN
        have HM := Lib.hid hM
        clear hz hM hB
        go_wp2_with (at_builtin; refine wpList_append_u8 rfl (.tmp 39) (.tmp 44) rfl w0.heap.size T ct Lj rfl (HM.out.later (below_new wr _)) (some ⟨wr.heap.size, 0, none⟩) 1 [s[j]] rfl (by simp) (bytes_new wr _ _ [s[j]]) (by show _ + 1 ≤ _; omega) (by simp; omega) ?_; intro A' c' w' hm' hg' hb'; have HM' := Lib.hid hm'; have HB' := Lib.hid (HB.out.trans (((below_new wr (.cells (u8s [s[j]]) 5)).mono hBs).trans hb')))
        go_roundw
        case rel => exact ⟨j + 1, A', c', by omega, by go_num, by rw [HSN.out]; simp, by rw [HSN.out]; exact HM'.out, HB'.out⟩
        case measure => simp [intOf]; omega
    · have hall : s.take j = s := List.take_of_length_le (by omega)
      rw [hall] at hM ⊢
      rw [HLS.out] at hM ⊢
      obtain ⟨wa, rfl⟩ : ∃ wa : World, wa = wr := ⟨_, rfl⟩
      have HT := Lib.hid hM.bytes
      have hct := hM.cap_le.1
      have HBa := HB
      clear hM hB hall
      go_wp2_with (first
        | (go_at_call 12; refine (mod_any k 9 (by decide) (by decide) hk hk2 _).mono ?_; rintro e w' ⟨rfl, rfl⟩; rw [HK.out])
        | (at_builtin; refine wpList_append_u8 rfl (.tmp 53) (.tmp 54) rfl wa.heap.size (some ⟨wa.heap.size, 0, none⟩) 0 [] rfl (Mine.empty wa (Nat.le_refl _)) A0 ca0 a rfl HC0.out ((HA0.out.later HBa.out).later (below_new wa _)) (by simp; omega) (by simp) ?_; intro A2 c2 w2 hm2 hg2 hb2; have HM2 := Lib.hid (show Mine w2 wa.heap.size A2 c2 a from hm2); have HB2 := Lib.hid ((below_new wa (.cells #[] 5)).trans hb2); have hs2 := HB2.out.size)
        | (at_builtin; refine wpList_append_u8 rfl (.tmp 55) (.tmp 56) rfl wa.heap.size A2 c2 a rfl (HM2.out.later (below_new w2 _)) (some ⟨w2.heap.size, 0, none⟩) 1 [9] rfl (by simp) (bytes_new w2 _ _ [9]) (by show _ + 1 ≤ _; omega) (by simp; omega) ?_; intro A3 c3 w3 hm3 hg3 hb3; rw [HP.out] at hm3 ⊢; have HM3 := Lib.hid hm3; have HB3 := Lib.hid (HB2.out.trans (((below_new w2 (.cells (u8s [9]) 5)).mono hs2).trans hb3)); have hs3 := HB3.out.size))
      go_loopw [11, 12] (fun v i wr => ∃ (j : Nat) (A : Option Addr) (c : Nat) (Q : List UInt8), j ≤ N ∧ i = .int .i64 j ∧ v = .slice A Q.length c ∧ Q = P ++ List.replicate j 200 ∧ Mine wr wa.heap.size A c Q ∧ Below wa.heap.size wa wr) (fun _ i _ => N - (intOf i).toNat)
      case atStart => exact ⟨0, A3, c3, P, Nat.zero_le _, rfl, by rw [hPl], by simp, HM3.out, HB3.out⟩
      case round =>
        obtain ⟨j2, A, c, Q, hj2, rfl, rfl, hQ, hM, hB⟩ := hrel
        have HM := Lib.hid hM
        have HB := Lib.hid hB
        have hBs := hB.size
        have HQ := Lib.hid hQ
        have hQl : Q.length ≤ 3145800 := by rw [hQ]; simp; omega
        by_cases hjl : j2 < N
        · have hd : (j2 : Int) < (N : Int) := by omega
          clear hM hB hQ
          go_wp2_with (at_builtin; refine wpList_append_u8 rfl (.tmp 63) (.tmp 64) rfl wa.heap.size A c Q rfl (HM.out.later (below_new wr _)) (some ⟨wr.heap.size, 0, none⟩) 1 [200] rfl (by simp) (bytes_new wr _ _ [200]) (by show _ + 1 ≤ _; omega) (by simp; omega) ?_; intro A' c' w' hm' hg' hb'; have HM' := Lib.hid hm'; have HB' := Lib.hid (HB.out.trans (((below_new wr (.cells (u8s [200]) 5)).mono hBs).trans hb')))
          go_roundw
          case rel => exact ⟨j2 + 1, A', c', Q ++ [200], by omega, by go_num, by simp, by rw [HQ.out, List.append_assoc, List.replicate_succ'], HM'.out, HB'.out⟩
          case measure => simp [intOf]; omega
        · obtain rfl : j2 = N := by omega
          obtain ⟨wb, rfl⟩ : ∃ wb : World, wb = wr := ⟨_, rfl⟩
          clear hM hB hQ
          go_wp2_with (first
            | (at_builtin; refine wpList_append_u8 rfl (.tmp 69) (.tmp 70) rfl wa.heap.size A c Q rfl (HM.out.later (below_new wb _)) (some ⟨wb.heap.size, 0, none⟩) 1 [9] rfl (by simp) (bytes_new wb _ _ [9]) (by show _ + 1 ≤ _; omega) (by simp; omega) ?_; intro A4 c4 w4 hm4 hg4 hb4; obtain ⟨Q2, hQ2⟩ : ∃ Q2, Q ++ [9] = Q2 := ⟨_, rfl⟩; rw [hQ2] at hm4 ⊢; have HQ2 := Lib.hid hQ2; have hQ2l : Q2.length ≤ 3145801 := (by rw [← hQ2]; simp; omega); clear hQ2; have HM4 := Lib.hid hm4; have HB4 := Lib.hid (HB.out.trans (((below_new wb (.cells (u8s [9]) 5)).mono hBs).trans hb4)); have hs4 := HB4.out.size)
            | (at_builtin; refine wpList_append_u8 rfl (.tmp 71) (.tmp 72) rfl wa.heap.size A4 c4 Q2 rfl HM4.out B0 cb0 z rfl HC1.out ((HA1.out.later HBa.out).later HB4.out) (by omega) hs4 ?_; intro A5 c5 w5 hm5 hg5 hb5; have hQ3 : Q2 ++ z = b0 := (by rw [← HQ2.out, HQ.out, ← HB0L.out]; simp only [List.append_assoc]); rw [hQ3, HL0.out] at ⊢; rw [hQ3] at hm5; clear hQ3; obtain ⟨g, hA5, hge, hlt⟩ := hm5.form (by rw [HL0.out]; omega); subst hA5; have hq3 : bl ≤ c5 := (by have h := hm5.cap_le.1; rw [HL0.out] at h; exact h); have hq1 : a.length ≤ c5 := (by omega); have HM5 := Lib.hid hm5; have HB5 := Lib.hid (HB4.out.trans hb5); have hs5 := HB5.out.size; have hst5 := str_any w5 T ct L (HT.out.later HB5.out) L.length rfl)
            | (go_at_call 15; refine (putText_to wa.heap.size (some ⟨g, 0, none⟩) c5 b0 bl HL0.out (p : Int) (j2 : Int) L 0 b1 HPT.out.1 HPT.out.2 _ HM5.out hs5 (by omega) (by omega) (by omega) (by omega)).mono ?_; rintro e w6 ⟨rfl, hm6, hk6⟩; have HM6 := Lib.hid hm6; have HB6 := Lib.hid (HB5.out.trans (hk6.below hs5 HM5.out.of_ge)); have hs6 := HB6.out.size)
            | (go_at_call 10; refine (text_to (some ⟨g, 0, none⟩) c5 b1 bl HLB.out (p : Int) (j2 : Int) L 0 HTX.out.1 HTX.out.2 _ HM6.out.bytes hq3 (by omega) (by omega) (by omega)).mono ?_; rintro e w7 ⟨rfl, hb7⟩; have HM7 := Lib.hid (HM6.out.later hb7); have HB7 := Lib.hid (HB6.out.trans (hb7.mono hs6)); have hs7 := HB7.out.size; have hst7 := str_any w7 T ct L (HT.out.later HB7.out) L.length rfl)
            | (go_at_call 16; refine (zero_to (some ⟨g, 0, none⟩) c5 b1 bl HLB.out (pl : Int) (M : Int) true 0 HZR.out.1 HZR.out.2 _ HM7.out.bytes hq3 (by omega) (by omega) (by omega)).mono ?_; rintro e w' ⟨rfl, rfl⟩)
            | (go_at_call 9; with_reducible refine (same_eq3 (some ⟨g, 0, none⟩) A0 c5 ca0 a a.length a.length rfl rfl _ (by have h := HM7.out.bytes.take a.length; rw [HTK.out] at h; exact h) ((HA0.out.later HBa.out).later HB7.out) (by omega)).mono ?_; rintro e w8 ⟨rfl, hb8⟩; have HM8 := Lib.hid (HM7.out.later hb8); have HB8 := Lib.hid (HB7.out.trans (hb8.mono hs7)); have hs8 := HB8.out.size; have hc1 := HCA.out w8 g c5 HM8.out; have hc2 := HCE.out w8 g c5 HM8.out; obtain ⟨A6, hA6⟩ : ∃ A6, (if c5 = f then (some ⟨g, 0, none⟩ : Option Addr) else some ⟨g, f, none⟩) = A6 := ⟨_, rfl⟩; have HT6 := Lib.hid (tail_if hA6 HM8.out.bytes hq3 HLB.out); rw [HDF.out] at HT6)
            | (go_at_call 9; with_reducible refine (same_eq3 A6 B0 (c5 - f) cb0 z (bl - f) z.length (by omega) rfl _ HT6.out ((HA1.out.later HBa.out).later HB8.out) (by omega)).mono ?_; rintro e w9 ⟨rfl, hb9⟩; have HM9 := Lib.hid (HM8.out.later hb9); have HB9 := Lib.hid (HB8.out.trans (hb9.mono hs8)); have hs9 := HB9.out.size))
          go_loopw [19] (fun i wr => ∃ q : Nat, q ≤ L.length + 1 ∧ q ≤ 40 ∧ i = .int .i64 q ∧ Below w9.heap.size w9 wr) (fun i _ => 40 - (intOf i).toNat)
          case atStart => exact ⟨0, by omega, by omega, rfl, Below.refl _ _⟩
          case round =>
            obtain ⟨q, hq, hq40, rfl, hB⟩ := hrel
            have HB10 := Lib.hid hB
            have hs10 := hB.size
            have HM10 := Lib.hid (HM9.out.later hB)
            have HW10 := Lib.hid (HB9.out.trans (hB.mono hs9))
            have HT10 := Lib.hid (HT.out.later HW10.out)
            clear hB
            by_cases hcont : q ≤ L.length ∧ q < 40
            · obtain ⟨hqL, hq4⟩ := hcont
              have hqi : (q : Int) ≤ (L.length : Int) := by omega
              have hq4i : (q : Int) < 40 := by omega
              have hqc : (q : Int) ≤ (ct : Int) := by omega
              have hq0 : (0 : Int) ≤ (q : Int) := by omega
              obtain ⟨U, hU⟩ : ∃ U, L.take q = U := ⟨_, rfl⟩
              have hUl : U.length = q := by rw [← hU]; simp; omega
              have HTQ := Lib.hid (HTP.out q hqL)
              rw [hU] at HTQ
              have HTU := Lib.hid (HT10.out.take q)
              rw [hU] at HTU
              have HUL := Lib.hid hUl
              clear hU hUl
              go_wp2_with (go_at_call 10; refine (text_to (some ⟨g, 0, none⟩) c5 b1 bl HLB.out (p : Int) (q : Int) U 0 HTQ.out.1 HTQ.out.2 _ HM10.out.bytes hq3 (by omega) (by omega) (by omega)).mono ?_; rintro e w11 ⟨rfl, hb11⟩; have HB11 := Lib.hid (HB10.out.trans (hb11.mono hs10)); have hst11 := str_any w11 T ct U (HTU.out.later hb11) q HUL.out)
              go_roundw
              case rel => exact ⟨q + 1, by omega, by omega, by go_num, HB11.out⟩
              case measure => simp [intOf]; omega
            · obtain ⟨w10, rfl⟩ : ∃ w10 : World, w10 = wr := ⟨_, rfl⟩
              clear HM6 HM7 HM8 HM9 HM5 HT6 HPT HTX HZR hst5 hst7 hc1 hc2 HB4 HB5 HB6 HB7 HB8 HCA HCE HDF HTK HA0 HA1 HI0 HC0 HC1 HL0 HK HLS HP
              obtain ⟨l1, hl1⟩ : ∃ l1, L.length - 1 = l1 := ⟨_, rfl⟩
              have hl1le : l1 ≤ L.length := by omega
              obtain ⟨e1, he1⟩ : ∃ e1, e - 1 = e1 := ⟨_, rfl⟩
              have hwe1 : IntKind.i64.wrap ((e : Int) - 1) = (e1 : Int) := by rw [IntWalk.i64_in _ (by omega)]; omega
              have he1b : (e1 : Int) < (bl : Int) := by omega
              have he10 : (0 : Int) ≤ (e1 : Int) := by omega
              have hgw10 : g < w10.heap.size := HM10.out.lt g rfl
              have HSE := Lib.hid (HSET.out)
              have HE1 := Lib.hid (show 0 < L.length → putTextE b1.length p l1 L = 1 from fun h => by unfold putTextE; rw [if_pos (.inr (.inl (by omega)))])
              have hwl1 : 0 < L.length → IntKind.i64.wrap ((L.length : Int) - 1) = (l1 : Int) := fun h => by rw [IntWalk.i64_in _ (by omega)]; omega
              have HWL := Lib.hid hwl1
              have HE1E := Lib.hid he1
              clear hwl1 hl1 he1
              have hend : L.length < q ∨ (q ≤ L.length ∧ 40 ≤ q) := by omega
              clear hcont
              rcases hend with hend | ⟨hend1, hend2⟩
              case inl => 
                have hqi : (L.length : Int) < (q : Int) := by omega
                rcases Nat.lt_or_ge 0 L.length with hL0 | hL0
                case inl =>
                  have hLi : (0 : Int) < (L.length : Int) := by omega
                  have hwl := HWL.out hL0
                  rcases Nat.lt_or_ge 1 M with hM1 | hM1
                  case inl =>
                    have hMi : (1 : Int) < (M : Int) := by omega
                    obtain ⟨b2, hb2s, HLb2, HX2⟩ := HSE.out hM1 e1 HE1E.out
                    have HV2 := Lib.hid (show textV b2 p j2 = [] by unfold textV; rw [if_neg (by rw [HX2.out]; decide)])
                    have HLb := HLB
                    go_wp2_with (first
                      | (at_builtin; refine wpList_append_u8 rfl (.tmp 181) (.tmp 182) rfl w10.heap.size (some ⟨w10.heap.size, 0, none⟩) 0 [] rfl (Mine.empty w10 (Nat.le_refl _)) (some ⟨g, 0, none⟩) c5 b1 (by rw [HLB.out]; rfl) (fun h => by cases h) (HM10.out.later (below_new w10 _)).bytes (by rw [HLB.out]; simp; omega) (by simp) ?_; intro A7 c7 w11 hm11 hg11 hb11; rw [show (([] : List UInt8) ++ b1).length = bl from HLB.out]; rw [List.nil_append] at hm11; obtain ⟨g2, hA7, hge2, hlt2⟩ := hm11.form (by rw [HLB.out]; omega); subst hA7; have hbx := (below_new w10 (.cells #[] 5)).trans hb11; have hgne : g < g2 := (by omega); have hgn1 : g ≠ g2 := (by omega); have hgn2 : g2 ≠ g := (by omega); have HRb := Lib.hid hm11; have HMb := Lib.hid (HM10.out.later hbx); have HBb := Lib.hid (HW10.out.trans (hbx.mono HW10.out.size)); have hsb := HBb.out.size; have hst := str_any w11 T ct L (HT.out.later HBb.out) L.length rfl; have HAP := Lib.hid (show Apart (some ⟨g, 0, none⟩) (some ⟨g2, 0, none⟩) from apart_new HM10.out.lt hm11.of_ge))
                      | (go_at_call 15; with_reducible refine (putText_to wa.heap.size (some ⟨g, 0, none⟩) c5 b1 bl HLB.out (p : Int) (l1 : Int) L 1 b1 (HE1.out hL0) (putTextL_same _ _ _ _ (by rw [HE1.out hL0]; decide)) _ HMb.out hsb (by omega) (by omega) (by omega) (by omega)).mono ?_; rintro e w12 ⟨rfl, hm12, hk12⟩; have HMb := Lib.hid hm12; have HRb := Lib.hid (HRb.out.keeps_of hk12 HAP.out.symm); have HBb := Lib.hid (HBb.out.trans (hk12.below hsb hm12.of_ge)); have hsb := HBb.out.size; have hst := str_any w12 T ct L (HT.out.later HBb.out) L.length rfl)
                      | (go_at_call 15; with_reducible refine (putText_to wa.heap.size (some ⟨g, 0, none⟩) c5 b1 bl HLB.out (p : Int) (n1 : Int) (L ++ [0]) 1 b1 HE2.out (putTextL_same _ _ _ _ (by rw [HE2.out]; decide)) _ HMb.out hsb (by omega) (by simp; omega) (by omega) (by omega)).mono ?_; rintro e w13 ⟨rfl, hm13, hk13⟩; have HMb := Lib.hid hm13; have HRb := Lib.hid (HRb.out.keeps_of hk13 HAP.out.symm); have HBb := Lib.hid (HBb.out.trans (hk13.below hsb hm13.of_ge)); have hsb := HBb.out.size)
                      | (go_at_call 15; refine (putText_to wa.heap.size (some ⟨g, 0, none⟩) c5 b1 bl HLB.out (bl : Int) 1 [] 20 b1 HE3.out (putTextL_same _ _ _ _ (by rw [HE3.out]; decide)) _ HMb.out hsb (by omega) (by simp) (by omega) (by omega)).mono ?_; rintro e w14 ⟨rfl, hm14, hk14⟩; have HMb := Lib.hid hm14; have HRb := Lib.hid (HRb.out.keeps_of hk14 HAP.out.symm); have HBb := Lib.hid (HBb.out.trans (hk14.below hsb hm14.of_ge)); have hsb := HBb.out.size; have hcg := HMb.out.cell (k := e1) (by rw [HLB.out]; omega); have hcg2 := HRb.out.cell (k := e1) (by rw [HLB.out]; omega); have hfg := HMb.out.free e1; have hfg2 := HRb.out.free e1; have HTW := Lib.hid (two_puts HMb.out HRb.out hgne e1 (by omega) hge))
                      | (go_at_call 10; refine (text_to (some ⟨g, 0, none⟩) c5 b2 bl HLb2.out (p : Int) (j2 : Int) [] 1 HX2.out HV2.out _ (by have h := HTW.out.1; rw [hb2s.out] at h; exact h.bytes) hq3 (by omega) (by omega) (by omega)).mono ?_; rintro e w15 ⟨rfl, hb15⟩; have hBx := HBb.out.trans HTW.out.2.2; have HMb := Lib.hid (HTW.out.1.later hb15); have HRb := Lib.hid (HTW.out.2.1.later hb15); have HBb := Lib.hid (hBx.trans (hb15.mono hBx.size)); have hsb := HBb.out.size; rw [hb2s.out] at HMb HRb; have HLb := HLb2)
                      | (go_at_call 9; refine (same_eq3 (some ⟨g, 0, none⟩) (some ⟨g2, 0, none⟩) c5 c7 _ bl bl HLb.out HLb.out _ HMb.out.bytes HRb.out.bytes (by omega)).mono ?_; rintro e w16 ⟨rfl, hb16⟩))
                    go_ret
                    exact ⟨rfl, HB0.out.trans ((HBa.out.trans ((HBb.out.trans (hb16.mono hsb)).mono HBa.out.size)).mono HB0.out.size)⟩
                  case inr =>
                    have hMi : (M : Int) ≤ 1 := by omega
                    have hb2s := Lib.hid (rfl : b1 = b1)
                    have HLb2 := HLB
                    have HX2 := Lib.hid (rfl : b1 = b1)
                    have HV2 := Lib.hid (rfl : b1 = b1)
                    have HLb := HLB
                    go_wp2_with (first
                      | (at_builtin; refine wpList_append_u8 rfl (.tmp 181) (.tmp 182) rfl w10.heap.size (some ⟨w10.heap.size, 0, none⟩) 0 [] rfl (Mine.empty w10 (Nat.le_refl _)) (some ⟨g, 0, none⟩) c5 b1 (by rw [HLB.out]; rfl) (fun h => by cases h) (HM10.out.later (below_new w10 _)).bytes (by rw [HLB.out]; simp; omega) (by simp) ?_; intro A7 c7 w11 hm11 hg11 hb11; rw [show (([] : List UInt8) ++ b1).length = bl from HLB.out]; rw [List.nil_append] at hm11; obtain ⟨g2, hA7, hge2, hlt2⟩ := hm11.form (by rw [HLB.out]; omega); subst hA7; have hbx := (below_new w10 (.cells #[] 5)).trans hb11; have hgne : g < g2 := (by omega); have hgn1 : g ≠ g2 := (by omega); have hgn2 : g2 ≠ g := (by omega); have HRb := Lib.hid hm11; have HMb := Lib.hid (HM10.out.later hbx); have HBb := Lib.hid (HW10.out.trans (hbx.mono HW10.out.size)); have hsb := HBb.out.size; have hst := str_any w11 T ct L (HT.out.later HBb.out) L.length rfl; have HAP := Lib.hid (show Apart (some ⟨g, 0, none⟩) (some ⟨g2, 0, none⟩) from apart_new HM10.out.lt hm11.of_ge))
                      | (go_at_call 15; with_reducible refine (putText_to wa.heap.size (some ⟨g, 0, none⟩) c5 b1 bl HLB.out (p : Int) (l1 : Int) L 1 b1 (HE1.out hL0) (putTextL_same _ _ _ _ (by rw [HE1.out hL0]; decide)) _ HMb.out hsb (by omega) (by omega) (by omega) (by omega)).mono ?_; rintro e w12 ⟨rfl, hm12, hk12⟩; have HMb := Lib.hid hm12; have HRb := Lib.hid (HRb.out.keeps_of hk12 HAP.out.symm); have HBb := Lib.hid (HBb.out.trans (hk12.below hsb hm12.of_ge)); have hsb := HBb.out.size; have hst := str_any w12 T ct L (HT.out.later HBb.out) L.length rfl)
                      | (go_at_call 15; with_reducible refine (putText_to wa.heap.size (some ⟨g, 0, none⟩) c5 b1 bl HLB.out (p : Int) (n1 : Int) (L ++ [0]) 1 b1 HE2.out (putTextL_same _ _ _ _ (by rw [HE2.out]; decide)) _ HMb.out hsb (by omega) (by simp; omega) (by omega) (by omega)).mono ?_; rintro e w13 ⟨rfl, hm13, hk13⟩; have HMb := Lib.hid hm13; have HRb := Lib.hid (HRb.out.keeps_of hk13 HAP.out.symm); have HBb := Lib.hid (HBb.out.trans (hk13.below hsb hm13.of_ge)); have hsb := HBb.out.size)
                      | (go_at_call 15; refine (putText_to wa.heap.size (some ⟨g, 0, none⟩) c5 b1 bl HLB.out (bl : Int) 1 [] 20 b1 HE3.out (putTextL_same _ _ _ _ (by rw [HE3.out]; decide)) _ HMb.out hsb (by omega) (by simp) (by omega) (by omega)).mono ?_; rintro e w14 ⟨rfl, hm14, hk14⟩; have HMb := Lib.hid hm14; have HRb := Lib.hid (HRb.out.keeps_of hk14 HAP.out.symm); have HBb := Lib.hid (HBb.out.trans (hk14.below hsb hm14.of_ge)); have hsb := HBb.out.size; have hcg := HMb.out.cell (k := e1) (by rw [HLB.out]; omega); have hcg2 := HRb.out.cell (k := e1) (by rw [HLB.out]; omega); have hfg := HMb.out.free e1; have hfg2 := HRb.out.free e1; have HTW := Lib.hid (two_puts HMb.out HRb.out hgne e1 (by omega) hge))
                      | (go_at_call 10; refine (text_to (some ⟨g, 0, none⟩) c5 b2 bl HLb2.out (p : Int) (j2 : Int) [] 1 HX2.out HV2.out _ (by have h := HTW.out.1; rw [hb2s.out] at h; exact h.bytes) hq3 (by omega) (by omega) (by omega)).mono ?_; rintro e w15 ⟨rfl, hb15⟩; have hBx := HBb.out.trans HTW.out.2.2; have HMb := Lib.hid (HTW.out.1.later hb15); have HRb := Lib.hid (HTW.out.2.1.later hb15); have HBb := Lib.hid (hBx.trans (hb15.mono hBx.size)); have hsb := HBb.out.size; rw [hb2s.out] at HMb HRb; have HLb := HLb2)
                      | (go_at_call 9; refine (same_eq3 (some ⟨g, 0, none⟩) (some ⟨g2, 0, none⟩) c5 c7 _ bl bl HLb.out HLb.out _ HMb.out.bytes HRb.out.bytes (by omega)).mono ?_; rintro e w16 ⟨rfl, hb16⟩))
                    go_ret
                    exact ⟨rfl, HB0.out.trans ((HBa.out.trans ((HBb.out.trans (hb16.mono hsb)).mono HBa.out.size)).mono HB0.out.size)⟩
                case inr =>
                  have hLi : (L.length : Int) ≤ 0 := by omega
                  rcases Nat.lt_or_ge 1 M with hM1 | hM1
                  case inl =>
                    have hMi : (1 : Int) < (M : Int) := by omega
                    obtain ⟨b2, hb2s, HLb2, HX2⟩ := HSE.out hM1 e1 HE1E.out
                    have HV2 := Lib.hid (show textV b2 p j2 = [] by unfold textV; rw [if_neg (by rw [HX2.out]; decide)])
                    have HLb := HLB
                    go_wp2_with (first
                      | (at_builtin; refine wpList_append_u8 rfl (.tmp 181) (.tmp 182) rfl w10.heap.size (some ⟨w10.heap.size, 0, none⟩) 0 [] rfl (Mine.empty w10 (Nat.le_refl _)) (some ⟨g, 0, none⟩) c5 b1 (by rw [HLB.out]; rfl) (fun h => by cases h) (HM10.out.later (below_new w10 _)).bytes (by rw [HLB.out]; simp; omega) (by simp) ?_; intro A7 c7 w11 hm11 hg11 hb11; rw [show (([] : List UInt8) ++ b1).length = bl from HLB.out]; rw [List.nil_append] at hm11; obtain ⟨g2, hA7, hge2, hlt2⟩ := hm11.form (by rw [HLB.out]; omega); subst hA7; have hbx := (below_new w10 (.cells #[] 5)).trans hb11; have hgne : g < g2 := (by omega); have hgn1 : g ≠ g2 := (by omega); have hgn2 : g2 ≠ g := (by omega); have HRb := Lib.hid hm11; have HMb := Lib.hid (HM10.out.later hbx); have HBb := Lib.hid (HW10.out.trans (hbx.mono HW10.out.size)); have hsb := HBb.out.size; have hst := str_any w11 T ct L (HT.out.later HBb.out) L.length rfl; have HAP := Lib.hid (show Apart (some ⟨g, 0, none⟩) (some ⟨g2, 0, none⟩) from apart_new HM10.out.lt hm11.of_ge))
                      | (go_at_call 15; with_reducible refine (putText_to wa.heap.size (some ⟨g, 0, none⟩) c5 b1 bl HLB.out (p : Int) (l1 : Int) L 1 b1 (HE1.out hL0) (putTextL_same _ _ _ _ (by rw [HE1.out hL0]; decide)) _ HMb.out hsb (by omega) (by omega) (by omega) (by omega)).mono ?_; rintro e w12 ⟨rfl, hm12, hk12⟩; have HMb := Lib.hid hm12; have HRb := Lib.hid (HRb.out.keeps_of hk12 HAP.out.symm); have HBb := Lib.hid (HBb.out.trans (hk12.below hsb hm12.of_ge)); have hsb := HBb.out.size; have hst := str_any w12 T ct L (HT.out.later HBb.out) L.length rfl)
                      | (go_at_call 15; with_reducible refine (putText_to wa.heap.size (some ⟨g, 0, none⟩) c5 b1 bl HLB.out (p : Int) (n1 : Int) (L ++ [0]) 1 b1 HE2.out (putTextL_same _ _ _ _ (by rw [HE2.out]; decide)) _ HMb.out hsb (by omega) (by simp; omega) (by omega) (by omega)).mono ?_; rintro e w13 ⟨rfl, hm13, hk13⟩; have HMb := Lib.hid hm13; have HRb := Lib.hid (HRb.out.keeps_of hk13 HAP.out.symm); have HBb := Lib.hid (HBb.out.trans (hk13.below hsb hm13.of_ge)); have hsb := HBb.out.size)
                      | (go_at_call 15; refine (putText_to wa.heap.size (some ⟨g, 0, none⟩) c5 b1 bl HLB.out (bl : Int) 1 [] 20 b1 HE3.out (putTextL_same _ _ _ _ (by rw [HE3.out]; decide)) _ HMb.out hsb (by omega) (by simp) (by omega) (by omega)).mono ?_; rintro e w14 ⟨rfl, hm14, hk14⟩; have HMb := Lib.hid hm14; have HRb := Lib.hid (HRb.out.keeps_of hk14 HAP.out.symm); have HBb := Lib.hid (HBb.out.trans (hk14.below hsb hm14.of_ge)); have hsb := HBb.out.size; have hcg := HMb.out.cell (k := e1) (by rw [HLB.out]; omega); have hcg2 := HRb.out.cell (k := e1) (by rw [HLB.out]; omega); have hfg := HMb.out.free e1; have hfg2 := HRb.out.free e1; have HTW := Lib.hid (two_puts HMb.out HRb.out hgne e1 (by omega) hge))
                      | (go_at_call 10; refine (text_to (some ⟨g, 0, none⟩) c5 b2 bl HLb2.out (p : Int) (j2 : Int) [] 1 HX2.out HV2.out _ (by have h := HTW.out.1; rw [hb2s.out] at h; exact h.bytes) hq3 (by omega) (by omega) (by omega)).mono ?_; rintro e w15 ⟨rfl, hb15⟩; have hBx := HBb.out.trans HTW.out.2.2; have HMb := Lib.hid (HTW.out.1.later hb15); have HRb := Lib.hid (HTW.out.2.1.later hb15); have HBb := Lib.hid (hBx.trans (hb15.mono hBx.size)); have hsb := HBb.out.size; rw [hb2s.out] at HMb HRb; have HLb := HLb2)
                      | (go_at_call 9; refine (same_eq3 (some ⟨g, 0, none⟩) (some ⟨g2, 0, none⟩) c5 c7 _ bl bl HLb.out HLb.out _ HMb.out.bytes HRb.out.bytes (by omega)).mono ?_; rintro e w16 ⟨rfl, hb16⟩))
                    go_ret
                    exact ⟨rfl, HB0.out.trans ((HBa.out.trans ((HBb.out.trans (hb16.mono hsb)).mono HBa.out.size)).mono HB0.out.size)⟩
                  case inr =>
                    have hMi : (M : Int) ≤ 1 := by omega
                    have hb2s := Lib.hid (rfl : b1 = b1)
                    have HLb2 := HLB
                    have HX2 := Lib.hid (rfl : b1 = b1)
                    have HV2 := Lib.hid (rfl : b1 = b1)
                    have HLb := HLB
                    go_wp2_with (first
                      | (at_builtin; refine wpList_append_u8 rfl (.tmp 181) (.tmp 182) rfl w10.heap.size (some ⟨w10.heap.size, 0, none⟩) 0 [] rfl (Mine.empty w10 (Nat.le_refl _)) (some ⟨g, 0, none⟩) c5 b1 (by rw [HLB.out]; rfl) (fun h => by cases h) (HM10.out.later (below_new w10 _)).bytes (by rw [HLB.out]; simp; omega) (by simp) ?_; intro A7 c7 w11 hm11 hg11 hb11; rw [show (([] : List UInt8) ++ b1).length = bl from HLB.out]; rw [List.nil_append] at hm11; obtain ⟨g2, hA7, hge2, hlt2⟩ := hm11.form (by rw [HLB.out]; omega); subst hA7; have hbx := (below_new w10 (.cells #[] 5)).trans hb11; have hgne : g < g2 := (by omega); have hgn1 : g ≠ g2 := (by omega); have hgn2 : g2 ≠ g := (by omega); have HRb := Lib.hid hm11; have HMb := Lib.hid (HM10.out.later hbx); have HBb := Lib.hid (HW10.out.trans (hbx.mono HW10.out.size)); have hsb := HBb.out.size; have hst := str_any w11 T ct L (HT.out.later HBb.out) L.length rfl; have HAP := Lib.hid (show Apart (some ⟨g, 0, none⟩) (some ⟨g2, 0, none⟩) from apart_new HM10.out.lt hm11.of_ge))
                      | (go_at_call 15; with_reducible refine (putText_to wa.heap.size (some ⟨g, 0, none⟩) c5 b1 bl HLB.out (p : Int) (l1 : Int) L 1 b1 (HE1.out hL0) (putTextL_same _ _ _ _ (by rw [HE1.out hL0]; decide)) _ HMb.out hsb (by omega) (by omega) (by omega) (by omega)).mono ?_; rintro e w12 ⟨rfl, hm12, hk12⟩; have HMb := Lib.hid hm12; have HRb := Lib.hid (HRb.out.keeps_of hk12 HAP.out.symm); have HBb := Lib.hid (HBb.out.trans (hk12.below hsb hm12.of_ge)); have hsb := HBb.out.size; have hst := str_any w12 T ct L (HT.out.later HBb.out) L.length rfl)
                      | (go_at_call 15; with_reducible refine (putText_to wa.heap.size (some ⟨g, 0, none⟩) c5 b1 bl HLB.out (p : Int) (n1 : Int) (L ++ [0]) 1 b1 HE2.out (putTextL_same _ _ _ _ (by rw [HE2.out]; decide)) _ HMb.out hsb (by omega) (by simp; omega) (by omega) (by omega)).mono ?_; rintro e w13 ⟨rfl, hm13, hk13⟩; have HMb := Lib.hid hm13; have HRb := Lib.hid (HRb.out.keeps_of hk13 HAP.out.symm); have HBb := Lib.hid (HBb.out.trans (hk13.below hsb hm13.of_ge)); have hsb := HBb.out.size)
                      | (go_at_call 15; refine (putText_to wa.heap.size (some ⟨g, 0, none⟩) c5 b1 bl HLB.out (bl : Int) 1 [] 20 b1 HE3.out (putTextL_same _ _ _ _ (by rw [HE3.out]; decide)) _ HMb.out hsb (by omega) (by simp) (by omega) (by omega)).mono ?_; rintro e w14 ⟨rfl, hm14, hk14⟩; have HMb := Lib.hid hm14; have HRb := Lib.hid (HRb.out.keeps_of hk14 HAP.out.symm); have HBb := Lib.hid (HBb.out.trans (hk14.below hsb hm14.of_ge)); have hsb := HBb.out.size; have hcg := HMb.out.cell (k := e1) (by rw [HLB.out]; omega); have hcg2 := HRb.out.cell (k := e1) (by rw [HLB.out]; omega); have hfg := HMb.out.free e1; have hfg2 := HRb.out.free e1; have HTW := Lib.hid (two_puts HMb.out HRb.out hgne e1 (by omega) hge))
                      | (go_at_call 10; refine (text_to (some ⟨g, 0, none⟩) c5 b2 bl HLb2.out (p : Int) (j2 : Int) [] 1 HX2.out HV2.out _ (by have h := HTW.out.1; rw [hb2s.out] at h; exact h.bytes) hq3 (by omega) (by omega) (by omega)).mono ?_; rintro e w15 ⟨rfl, hb15⟩; have hBx := HBb.out.trans HTW.out.2.2; have HMb := Lib.hid (HTW.out.1.later hb15); have HRb := Lib.hid (HTW.out.2.1.later hb15); have HBb := Lib.hid (hBx.trans (hb15.mono hBx.size)); have hsb := HBb.out.size; rw [hb2s.out] at HMb HRb; have HLb := HLb2)
                      | (go_at_call 9; refine (same_eq3 (some ⟨g, 0, none⟩) (some ⟨g2, 0, none⟩) c5 c7 _ bl bl HLb.out HLb.out _ HMb.out.bytes HRb.out.bytes (by omega)).mono ?_; rintro e w16 ⟨rfl, hb16⟩))
                    go_ret
                    exact ⟨rfl, HB0.out.trans ((HBa.out.trans ((HBb.out.trans (hb16.mono hsb)).mono HBa.out.size)).mono HB0.out.size)⟩
              case inr =>
                have hqi : (q : Int) ≤ (L.length : Int) := by omega
                have hq40 : (40 : Int) ≤ (q : Int) := by omega
                have hL0 : 0 < L.length := by omega
                have hLi : (0 : Int) < (L.length : Int) := by omega
                have hwl := HWL.out hL0
                rcases Nat.lt_or_ge 1 M with hM1 | hM1
                case inl =>
                  have hMi : (1 : Int) < (M : Int) := by omega
                  obtain ⟨b2, hb2s, HLb2, HX2⟩ := HSE.out hM1 e1 HE1E.out
                  have HV2 := Lib.hid (show textV b2 p j2 = [] by unfold textV; rw [if_neg (by rw [HX2.out]; decide)])
                  have HLb := HLB
                  go_wp2_with (first
                    | (at_builtin; refine wpList_append_u8 rfl (.tmp 181) (.tmp 182) rfl w10.heap.size (some ⟨w10.heap.size, 0, none⟩) 0 [] rfl (Mine.empty w10 (Nat.le_refl _)) (some ⟨g, 0, none⟩) c5 b1 (by rw [HLB.out]; rfl) (fun h => by cases h) (HM10.out.later (below_new w10 _)).bytes (by rw [HLB.out]; simp; omega) (by simp) ?_; intro A7 c7 w11 hm11 hg11 hb11; rw [show (([] : List UInt8) ++ b1).length = bl from HLB.out]; rw [List.nil_append] at hm11; obtain ⟨g2, hA7, hge2, hlt2⟩ := hm11.form (by rw [HLB.out]; omega); subst hA7; have hbx := (below_new w10 (.cells #[] 5)).trans hb11; have hgne : g < g2 := (by omega); have hgn1 : g ≠ g2 := (by omega); have hgn2 : g2 ≠ g := (by omega); have HRb := Lib.hid hm11; have HMb := Lib.hid (HM10.out.later hbx); have HBb := Lib.hid (HW10.out.trans (hbx.mono HW10.out.size)); have hsb := HBb.out.size; have hst := str_any w11 T ct L (HT.out.later HBb.out) L.length rfl; have HAP := Lib.hid (show Apart (some ⟨g, 0, none⟩) (some ⟨g2, 0, none⟩) from apart_new HM10.out.lt hm11.of_ge))
                    | (go_at_call 15; with_reducible refine (putText_to wa.heap.size (some ⟨g, 0, none⟩) c5 b1 bl HLB.out (p : Int) (l1 : Int) L 1 b1 (HE1.out hL0) (putTextL_same _ _ _ _ (by rw [HE1.out hL0]; decide)) _ HMb.out hsb (by omega) (by omega) (by omega) (by omega)).mono ?_; rintro e w12 ⟨rfl, hm12, hk12⟩; have HMb := Lib.hid hm12; have HRb := Lib.hid (HRb.out.keeps_of hk12 HAP.out.symm); have HBb := Lib.hid (HBb.out.trans (hk12.below hsb hm12.of_ge)); have hsb := HBb.out.size; have hst := str_any w12 T ct L (HT.out.later HBb.out) L.length rfl)
                    | (go_at_call 15; with_reducible refine (putText_to wa.heap.size (some ⟨g, 0, none⟩) c5 b1 bl HLB.out (p : Int) (n1 : Int) (L ++ [0]) 1 b1 HE2.out (putTextL_same _ _ _ _ (by rw [HE2.out]; decide)) _ HMb.out hsb (by omega) (by simp; omega) (by omega) (by omega)).mono ?_; rintro e w13 ⟨rfl, hm13, hk13⟩; have HMb := Lib.hid hm13; have HRb := Lib.hid (HRb.out.keeps_of hk13 HAP.out.symm); have HBb := Lib.hid (HBb.out.trans (hk13.below hsb hm13.of_ge)); have hsb := HBb.out.size)
                    | (go_at_call 15; refine (putText_to wa.heap.size (some ⟨g, 0, none⟩) c5 b1 bl HLB.out (bl : Int) 1 [] 20 b1 HE3.out (putTextL_same _ _ _ _ (by rw [HE3.out]; decide)) _ HMb.out hsb (by omega) (by simp) (by omega) (by omega)).mono ?_; rintro e w14 ⟨rfl, hm14, hk14⟩; have HMb := Lib.hid hm14; have HRb := Lib.hid (HRb.out.keeps_of hk14 HAP.out.symm); have HBb := Lib.hid (HBb.out.trans (hk14.below hsb hm14.of_ge)); have hsb := HBb.out.size; have hcg := HMb.out.cell (k := e1) (by rw [HLB.out]; omega); have hcg2 := HRb.out.cell (k := e1) (by rw [HLB.out]; omega); have hfg := HMb.out.free e1; have hfg2 := HRb.out.free e1; have HTW := Lib.hid (two_puts HMb.out HRb.out hgne e1 (by omega) hge))
                    | (go_at_call 10; refine (text_to (some ⟨g, 0, none⟩) c5 b2 bl HLb2.out (p : Int) (j2 : Int) [] 1 HX2.out HV2.out _ (by have h := HTW.out.1; rw [hb2s.out] at h; exact h.bytes) hq3 (by omega) (by omega) (by omega)).mono ?_; rintro e w15 ⟨rfl, hb15⟩; have hBx := HBb.out.trans HTW.out.2.2; have HMb := Lib.hid (HTW.out.1.later hb15); have HRb := Lib.hid (HTW.out.2.1.later hb15); have HBb := Lib.hid (hBx.trans (hb15.mono hBx.size)); have hsb := HBb.out.size; rw [hb2s.out] at HMb HRb; have HLb := HLb2)
                    | (go_at_call 9; refine (same_eq3 (some ⟨g, 0, none⟩) (some ⟨g2, 0, none⟩) c5 c7 _ bl bl HLb.out HLb.out _ HMb.out.bytes HRb.out.bytes (by omega)).mono ?_; rintro e w16 ⟨rfl, hb16⟩))
                  go_ret
                  exact ⟨rfl, HB0.out.trans ((HBa.out.trans ((HBb.out.trans (hb16.mono hsb)).mono HBa.out.size)).mono HB0.out.size)⟩
                case inr =>
                  have hMi : (M : Int) ≤ 1 := by omega
                  have hb2s := Lib.hid (rfl : b1 = b1)
                  have HLb2 := HLB
                  have HX2 := Lib.hid (rfl : b1 = b1)
                  have HV2 := Lib.hid (rfl : b1 = b1)
                  have HLb := HLB
                  go_wp2_with (first
                    | (at_builtin; refine wpList_append_u8 rfl (.tmp 181) (.tmp 182) rfl w10.heap.size (some ⟨w10.heap.size, 0, none⟩) 0 [] rfl (Mine.empty w10 (Nat.le_refl _)) (some ⟨g, 0, none⟩) c5 b1 (by rw [HLB.out]; rfl) (fun h => by cases h) (HM10.out.later (below_new w10 _)).bytes (by rw [HLB.out]; simp; omega) (by simp) ?_; intro A7 c7 w11 hm11 hg11 hb11; rw [show (([] : List UInt8) ++ b1).length = bl from HLB.out]; rw [List.nil_append] at hm11; obtain ⟨g2, hA7, hge2, hlt2⟩ := hm11.form (by rw [HLB.out]; omega); subst hA7; have hbx := (below_new w10 (.cells #[] 5)).trans hb11; have hgne : g < g2 := (by omega); have hgn1 : g ≠ g2 := (by omega); have hgn2 : g2 ≠ g := (by omega); have HRb := Lib.hid hm11; have HMb := Lib.hid (HM10.out.later hbx); have HBb := Lib.hid (HW10.out.trans (hbx.mono HW10.out.size)); have hsb := HBb.out.size; have hst := str_any w11 T ct L (HT.out.later HBb.out) L.length rfl; have HAP := Lib.hid (show Apart (some ⟨g, 0, none⟩) (some ⟨g2, 0, none⟩) from apart_new HM10.out.lt hm11.of_ge))
                    | (go_at_call 15; with_reducible refine (putText_to wa.heap.size (some ⟨g, 0, none⟩) c5 b1 bl HLB.out (p : Int) (l1 : Int) L 1 b1 (HE1.out hL0) (putTextL_same _ _ _ _ (by rw [HE1.out hL0]; decide)) _ HMb.out hsb (by omega) (by omega) (by omega) (by omega)).mono ?_; rintro e w12 ⟨rfl, hm12, hk12⟩; have HMb := Lib.hid hm12; have HRb := Lib.hid (HRb.out.keeps_of hk12 HAP.out.symm); have HBb := Lib.hid (HBb.out.trans (hk12.below hsb hm12.of_ge)); have hsb := HBb.out.size; have hst := str_any w12 T ct L (HT.out.later HBb.out) L.length rfl)
                    | (go_at_call 15; with_reducible refine (putText_to wa.heap.size (some ⟨g, 0, none⟩) c5 b1 bl HLB.out (p : Int) (n1 : Int) (L ++ [0]) 1 b1 HE2.out (putTextL_same _ _ _ _ (by rw [HE2.out]; decide)) _ HMb.out hsb (by omega) (by simp; omega) (by omega) (by omega)).mono ?_; rintro e w13 ⟨rfl, hm13, hk13⟩; have HMb := Lib.hid hm13; have HRb := Lib.hid (HRb.out.keeps_of hk13 HAP.out.symm); have HBb := Lib.hid (HBb.out.trans (hk13.below hsb hm13.of_ge)); have hsb := HBb.out.size)
                    | (go_at_call 15; refine (putText_to wa.heap.size (some ⟨g, 0, none⟩) c5 b1 bl HLB.out (bl : Int) 1 [] 20 b1 HE3.out (putTextL_same _ _ _ _ (by rw [HE3.out]; decide)) _ HMb.out hsb (by omega) (by simp) (by omega) (by omega)).mono ?_; rintro e w14 ⟨rfl, hm14, hk14⟩; have HMb := Lib.hid hm14; have HRb := Lib.hid (HRb.out.keeps_of hk14 HAP.out.symm); have HBb := Lib.hid (HBb.out.trans (hk14.below hsb hm14.of_ge)); have hsb := HBb.out.size; have hcg := HMb.out.cell (k := e1) (by rw [HLB.out]; omega); have hcg2 := HRb.out.cell (k := e1) (by rw [HLB.out]; omega); have hfg := HMb.out.free e1; have hfg2 := HRb.out.free e1; have HTW := Lib.hid (two_puts HMb.out HRb.out hgne e1 (by omega) hge))
                    | (go_at_call 10; refine (text_to (some ⟨g, 0, none⟩) c5 b2 bl HLb2.out (p : Int) (j2 : Int) [] 1 HX2.out HV2.out _ (by have h := HTW.out.1; rw [hb2s.out] at h; exact h.bytes) hq3 (by omega) (by omega) (by omega)).mono ?_; rintro e w15 ⟨rfl, hb15⟩; have hBx := HBb.out.trans HTW.out.2.2; have HMb := Lib.hid (HTW.out.1.later hb15); have HRb := Lib.hid (HTW.out.2.1.later hb15); have HBb := Lib.hid (hBx.trans (hb15.mono hBx.size)); have hsb := HBb.out.size; rw [hb2s.out] at HMb HRb; have HLb := HLb2)
                    | (go_at_call 9; refine (same_eq3 (some ⟨g, 0, none⟩) (some ⟨g2, 0, none⟩) c5 c7 _ bl bl HLb.out HLb.out _ HMb.out.bytes HRb.out.bytes (by omega)).mono ?_; rintro e w16 ⟨rfl, hb16⟩))
                  go_ret
                  exact ⟨rfl, HB0.out.trans ((HBa.out.trans ((HBb.out.trans (hb16.mono hsb)).mono HBa.out.size)).mono HB0.out.size)⟩
end Go.Proofs.YtnknoikmleiopaaDoor
