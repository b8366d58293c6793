/-
  RECOVERY OUT OF ANY STATE THAT A CUT LEAVES; the cuts in memory.
  THE LAW's OWN HELPERS (5): mended.
-/
import Derived.Test.YtimddchgmocdaaaDoorTp
set_option linter.unusedVariables false
set_option linter.unusedSimpArgs false
namespace Go.Proofs.YtimddchgmocdaaaDoor
open Go.RowKit Rec

theorem DiskAt.base_le {w : World} {base b a d : Nat} {D : Dk} (h : DiskAt w base a d D) (hk : D.keep = []) (hb : b ≤ base) : DiskAt w b a d D := by
  obtain ⟨hO, hd, cA, P, cp, K, ck, wrt, flt, T, tn, ct, tc, hI, hA, hP, hK, hT, hn⟩ := h
  exact ⟨hO, by omega, cA, P, cp, K, ck, wrt, flt, T, tn, ct, tc, hI, hA.base_le hb, hP.base_le hb, .inl hk, hT.base_le hb, hn⟩
/-- a transaction as a commit writes it -/
structure Made (T : Tx) : Prop where
  n : 98 ≤ T.n
  rise : Rise T.n T.ws
  one : 1 ≤ T.ws.length
  len : ∀ x ∈ T.ws, x.2.length = 512
  H : T.H = Hd.made (T.ws.map (·.1)) (T.ws.map (·.2))
theorem Made.ok {T : Tx} (h : Made T) : T.Ok := ⟨h.n, h.rise.few, fun x hx => by
  obtain ⟨k, hk, e⟩ := List.mem_iff_getElem.1 hx
  rw [← e]; exact h.rise.low k hk⟩
theorem step1_keep (D : Dk) (s : Stp) (h : D.keep = []) : (D.step1 s).keep = [] := by
  cases s with
  | none => show D.flush.keep = []; unfold Dk.flush; split; rfl; exact h
  | some x => show (D.write x.1 x.2).keep = []; unfold Dk.write; split; rfl; exact h
theorem does_keep (S : List Stp) : ∀ D : Dk, D.keep = [] → (D.does S).1.keep = [] := by
  induction S with
  | nil => intro D h; exact h
  | cons s S ih =>
    intro D h
    have e : D.does (s :: S) = if D.err = 0 then (D.step1 s).does S else (D.step1 s, D.err) := rfl
    rw [e]
    split
    · exact ih _ (step1_keep D s h)
    · exact step1_keep D s h
/-- how a recovery ends -/
structure Recd (T : Tx) (D : Dk) (k e : Int) (D2 : Dk) : Prop where
  n : D2.n ≤ D.n + 200
  pend : D2.pend = []
  len : D2.lasts.length = T.n
  keep : D.keep = [] → D2.keep = []
  ends : (e = 0 ∧ D2.down = false ∧ (Tx.Rest T.n T.old D2.lasts ∨ Tx.Rest T.n T.new D2.lasts) ∧ (D.left = 0 → D2.left = 0)) ∨ (e = 30 ∧ D2.down = true ∧ T.Mid D2.lasts ∧ D.left ≠ 0)
theorem mid_len {T : Tx} {L : List (List UInt8)} (h : T.Mid L) : L.length = T.n := by
  rcases h with h | h | h
  · exact h.1
  · exact h.1
  · exact h.1
theorem recover_mid (base a d : Nat) (D : Dk) (T : Tx) (w : World) (h : DiskAt w base a d D) (hdn : D.down = false) (hp : D.pend = []) (hM : Made T) (hm : T.Mid D.lasts) (hw : WidthsAt w) (hh : HalfAt w) (hbw : base ≤ w.heap.size) (hn : D.n ≤ 100000) :
    Calls Tryd.prog 30 #[.pointer (some ⟨d, 0, none⟩)] w fun e w' => ∃ (k ev : Int) (D2 : Dk), e = .returned (.tuple #[.int .i64 k, .int .i64 ev]) ∧ DiskAt w' base a d D2 ∧ KT (some a) base diskT w w' ∧ Recd T D k ev D2 := by
  have hlen := mid_len hm
  have hn98 := hM.n
  have quiet : ∀ f : Nat → List UInt8, (f = T.old ∨ f = T.new) → Tx.Rest T.n f D.lasts → Calls Tryd.prog 30 #[.pointer (some ⟨d, 0, none⟩)] w fun e w' => ∃ (k ev : Int) (D2 : Dk), e = .returned (.tuple #[.int .i64 k, .int .i64 ev]) ∧ DiskAt w' base a d D2 ∧ KT (some a) base diskT w w' ∧ Recd T D k ev D2 := fun f hf hr => by
    refine (recover_zero base a d D w h hdn hp (by omega) hr.2.1).mono ?_
    rintro e w' ⟨rfl, hb⟩
    refine ⟨0, 0, D, rfl, h.later hb, KT.of_below hb (Nat.le_refl _), ⟨by omega, hp, hlen, fun h => h, .inl ⟨rfl, hdn, ?_, fun h => h⟩⟩⟩
    rcases hf with rfl | rfl
    · exact .inl hr
    · exact .inr hr
  rcases hm with hr | hf | hr
  · exact quiet _ (.inl rfl) hr
  · have hE := Tx.home_ends hM.ok D hdn hp hf
    refine (recover_full base a d D T.ws w h hdn hp (by omega) (by rw [hlen]; exact hM.rise) hM.one hM.len (by rw [hf.2.1]; exact hM.H) (fun k hk => ?_) hw hh hbw (by omega)).mono ?_
    · have := hf.2.2.1 k (by unfold Tx.data; rw [List.length_map]; exact hk)
      rw [this]; unfold Tx.data; simp
    · rintro e w' ⟨⟨k, rfl⟩, hD2, hk2⟩
      refine ⟨k, _, _, rfl, hD2, hk2, ⟨by have h1 := hE.n; have h2 := hM.rise.few; omega, hE.pend, ?_, does_keep _ D, hE.ends.imp (fun ⟨a1, a2, a3, a4⟩ => ⟨a1, a2, .inr a3, a4⟩) id⟩⟩
      rcases hE.ends with ⟨_, _, q, _⟩ | ⟨_, _, q, _⟩
      · exact q.1
      · exact mid_len q
  · exact quiet _ (.inr rfl) hr
/-- a row of flags that is read -/
def FlagsAt (w : World) (B : Nat) (Kp : Option Addr) (kc : Nat) (l : List Bool) : Prop := (Kp = none ∧ l = [] ∧ kc = 0) ∨ ∃ ad, Kp = some ad ∧ (l = [] ∨ ad.block < B) ∧ ∀ k (h : k < l.length), w.cell? (ad.add k) = some (.bool l[k])
/-- power cuts that are read, in blocks below B -/
def CutsAt (w : World) (B : Nat) (A : Option Addr) (cs : List (Int × List Bool)) : Prop :=
  cs = [] ∨ ∃ g off, A = some ⟨g, off, none⟩ ∧ g < B ∧ ∀ k (h : k < cs.length), w.cell? ⟨g, off + k * 2, none⟩ = some (.int .i64 cs[k].1) ∧ ∃ Kp kc, w.cell? ⟨g, off + k * 2 + 1, none⟩ = some (.slice Kp cs[k].2.length kc) ∧ FlagsAt w B Kp kc cs[k].2
def CutOk (c : Int × List Bool) : Prop := c.1 ≤ 9223372036854775807 ∧ c.2.length ≤ 140737488355328
theorem add_block (ad : Addr) (k : Nat) : (ad.add k).block = ad.block := by unfold Addr.add; split <;> rfl
theorem FlagsAt.below {w w2 : World} {B : Nat} {Kp : Option Addr} {kc : Nat} {l : List Bool} (h : FlagsAt w B Kp kc l) (hb : Below B w w2) : FlagsAt w2 B Kp kc l := by
  rcases h with h | ⟨ad, rfl, hB, hc⟩
  · exact .inl h
  · exact .inr ⟨ad, rfl, hB, fun k hk => (hb.cell (p := ad.add k) (by rw [add_block]; rcases hB with h | h; subst h; simp at hk; exact h)).trans (hc k hk)⟩
theorem CutsAt.below {w w2 : World} {B : Nat} {A : Option Addr} {cs : List (Int × List Bool)} (h : CutsAt w B A cs) (hb : Below B w w2) : CutsAt w2 B A cs := by
  rcases h with h | ⟨g, off, rfl, hB, hc⟩
  · exact .inl h
  · refine .inr ⟨g, off, rfl, hB, fun k hk => ?_⟩
    obtain ⟨h1, Kp, kc, h2, h3⟩ := hc k hk
    exact ⟨(hb.cell (p := ⟨g, off + k * 2, none⟩) hB).trans h1, Kp, kc, (hb.cell (p := ⟨g, off + k * 2 + 1, none⟩) hB).trans h2, h3.below hb⟩
theorem CutsAt.at_ {w : World} {B : Nat} {A : Option Addr} {cs : List (Int × List Bool)} (h : CutsAt w B A cs) {k : Nat} (hk : k < cs.length) :
    ∃ g off Kp kc, A = some ⟨g, off, none⟩ ∧ w.cell? ⟨g, off + k * 2, none⟩ = some (.int .i64 cs[k].1) ∧ w.cell? ⟨g, off + k * 2 + 1, none⟩ = some (.slice Kp cs[k].2.length kc) ∧ FlagsAt w B Kp kc cs[k].2 := by
  rcases h with rfl | ⟨g, off, rfl, _, hc⟩
  · simp at hk
  · obtain ⟨h1, Kp, kc, h2, h3⟩ := hc k hk
    exact ⟨g, off, Kp, kc, rfl, h1, h2, h3⟩
theorem FlagsAt.arm {w : World} {B : Nat} {Kp : Option Addr} {kc : Nat} {l : List Bool} (h : FlagsAt w B Kp kc l) : (Kp = none ∧ l = [] ∧ kc = 0) ∨ ∃ ad, Kp = some ad ∧ ∀ k (h : k < l.length), w.cell? (ad.add k) = some (.bool l[k]) :=
  h.imp id fun ⟨ad, h1, _, h2⟩ => ⟨ad, h1, h2⟩
end Go.Proofs.YtimddchgmocdaaaDoor
set_option linter.unusedVariables false
set_option linter.unusedSimpArgs false
namespace Go.Proofs.YtimddchgmocdaaaDoor
open Go.RowKit Rec

theorem DiskAt.cell4 {w : World} {base a d : Nat} {D : Dk} (h : DiskAt w base a d D) : w.cell? ⟨d, 4, none⟩ = some (.bool D.down) := by
  obtain ⟨hO, hd, cA, P, cp, K, ck, wrt, flt, T, tn, ct, tc, hI, _⟩ := h
  exact hI.cell 4
theorem Mine.cap_512 {w : World} {b cap : Nat} {A : Option Addr} {L : List (List UInt8)} (h : Mine w b A cap L.flatten) (h5 : ∀ b ∈ L, b.length = 512) : L.length * 512 ≤ cap := by
  have := h.cap_le.1; rw [flat_len L h5] at this; exact this
set_option maxRecDepth 100000 in
set_option maxHeartbeats 6400000 in
theorem mended_any (base a d B0 : Nat) (D : Dk) (T : Tx) (CA : Option Addr) (cc : Nat) (cs : List (Int × List Bool)) (cl : Nat) (w : World) (h : DiskAt w base a d D) (hM : Made T) (hm : T.Mid D.lasts) (hC : CutsAt w B0 CA cs) (hcl : cs.length = cl) (hcm : cl ≤ 140737488355328) (hok : ∀ c ∈ cs, CutOk c)
    (hw : WidthsAt w) (hh : HalfAt w) (hB0 : B0 ≤ w.heap.size) :
    Calls Tryd.prog 19 #[.pointer (some ⟨d, 0, none⟩), .slice CA cl cc] w fun e w' =>
      (∃ a2 d2 D2, e = .returned (.tuple #[.pointer (some ⟨d2, 0, none⟩), .bool true]) ∧ DiskAt w' w.heap.size a2 d2 D2 ∧ D2.down = false ∧ D2.pend = [] ∧ D2.left = 0 ∧ D2.keep = [] ∧ D2.n ≤ 200 ∧ (Tx.Rest T.n T.old D2.lasts ∨ Tx.Rest T.n T.new D2.lasts)) ∧ Below w.heap.size w w' := by
  have hlen := mid_len hm
  have h512 := h.1.2.2.1
  have hN16 : T.n ≤ 16384 := by have := h.1.2.1; omega
  have hN98 := hM.n
  have HD := Lib.hid h
  have HMD := Lib.hid hM
  have HMID := Lib.hid hm
  have HC := Lib.hid hC
  have HCL := Lib.hid hcl
  have HOK := Lib.hid hok
  have HW := Lib.hid hw
  have HH := Lib.hid hh
  have HLEN := Lib.hid hlen
  have H512 := Lib.hid h512
  clear h hM hm hC hcl hok hw hh hlen h512
  go_enter Tryd.func19, Tryd.ntmps19
  go_wp2_with (first
    | (go_at_call 29
       refine (dimage_any base a d D w HD.out).mono ?_
       rw [HLEN.out]
       rintro e w1 ⟨⟨A1, c1, rfl, hM1⟩, hb1⟩
       have HM1 := Lib.hid hM1
       have HB1 := Lib.hid hb1
       clear hM1 hb1)
    | (go_at_call 28
       refine (dopen_any D.lasts T.n HLEN.out H512.out (by omega) hN16 A1 c1 (by have := HM1.out.cap_512 H512.out; rw [HLEN.out] at this; exact this) w1 HM1.out.bytes).mono ?_
       rintro e w2 ⟨⟨a1, x1, rfl, hX⟩, hb2⟩
       have HX := Lib.hid (hX.base_le rfl HB1.out.size)
       have HB2 := Lib.hid (HB1.out.trans (hb2.mono HB1.out.size))
       clear hX hb2))
  go_loopw [6, 7, 8] (fun v e u wr => ∃ (i a2 x2 : Nat) (L : List (List UInt8)), i ≤ cl ∧ i ≤ 20 ∧ u = .int .i64 i ∧ e = .int .i64 0 ∧ v = .pointer (some ⟨x2, 0, none⟩) ∧ DiskAt wr w.heap.size a2 x2 (openDk L) ∧ T.Mid L ∧ Below w.heap.size w wr) (fun v e u _ => 20 - (intOf u).toNat)
  case atStart => exact ⟨0, a1, x1, D.lasts, Nat.zero_le _, Nat.zero_le _, rfl, rfl, rfl, HX.out, HMID.out, HB2.out⟩
  case round =>
    obtain ⟨i, a2, x2, L, hi, hi20, rfl, rfl, rfl, hX, hmid, hb⟩ := hrel
    have HXr := Lib.hid hX
    have HMr := Lib.hid hmid
    have HBr := Lib.hid hb
    have hsz := hb.size
    clear hX hmid hb
    by_cases hgo : i < cl ∧ i < 20
    · obtain ⟨hg1, hg2⟩ := hgo
      have hi0 : (i : Int) < (cl : Int) := by omega
      have hi1 : (i : Int) < 20 := by omega
      have hi2 : (0 : Int) ≤ (i : Int) := by omega
      have hic : i < cs.length := by rw [HCL.out]; exact hg1
      obtain ⟨g, off, Kp, kc, rfl, cc1, cc2, hfl⟩ := (HC.out.below (HBr.out.mono hB0)).at_ hic
      obtain ⟨hok1, hok2⟩ := HOK.out _ (List.getElem_mem hic)
      obtain ⟨ct, hct⟩ : ∃ ct, cs[i].1 = ct := ⟨_, rfl⟩
      obtain ⟨ck, hck⟩ : ∃ ck, cs[i].2 = ck := ⟨_, rfl⟩
      rw [hct] at cc1 hok1
      rw [hck] at cc2 hfl hok2
      have HFL := Lib.hid hfl
      have HARM := Lib.hid (show T.Mid ((openDk L).arm ct ck).lasts from HMr.out)
      clear hct hck hfl hic
      go_upto_region 10 with (first
        | (go_at_call 15
           refine (darm_any w.heap.size a2 x2 (openDk L) ct Kp kc ck wr HXr.out rfl hsz HFL.out.arm hok2 hok1).mono ?_
           rintro e w3 ⟨rfl, hX3, hk3⟩
           have HX3 := Lib.hid hX3
           have HB3 := Lib.hid (HBr.out.trans (hk3.below hsz))
           clear hX3 hk3)
        | (go_at_call 30
           refine (recover_mid w.heap.size a2 x2 ((openDk L).arm ct ck) T w3 HX3.out rfl rfl HMD.out HARM.out (HW.out.below HB3.out HW.out.lt) (HH.out.below HB3.out HH.out.lt) HB3.out.size (by show 0 ≤ 100000; decide)).mono ?_
           rintro e w5 ⟨kk, ev, D2, rfl, hX5, hk5, hrec⟩
           have HX5 := Lib.hid hX5
           have HB5 := Lib.hid (HB3.out.trans (hk5.below HB3.out.size))
           have HREC := Lib.hid hrec
           clear hX5 hk5 hrec))
      rcases HREC.out.ends with ⟨rfl, hd2, hrest, _⟩ | ⟨rfl, hd2, hmid2, _⟩
      all_goals (first | (have hmid2 : T.Mid D2.lasts := hrest.elim .inl (fun q => .inr (.inr q)); clear hrest) | skip)
      all_goals (have HD2 := Lib.hid hd2; have HM2 := Lib.hid hmid2; clear hd2 hmid2)
      all_goals (have HL2 := Lib.hid HREC.out.len)
      all_goals (have H52 := Lib.hid HX5.out.1.2.2.1)
      all_goals go_wp2_with (first
        | (go_at_call 17
           refine (down_any w.heap.size a2 x2 D2 _ HX5.out).mono ?_
           rw [HD2.out]
           rintro e w6 ⟨rfl, rfl⟩)
        | (go_at_call 29
           refine (dimage_any w.heap.size a2 x2 D2 w5 HX5.out).mono ?_
           rw [HL2.out]
           rintro e w6 ⟨⟨A6, c6, rfl, hM6⟩, hb6⟩
           have HM6 := Lib.hid hM6
           have HB6 := Lib.hid (HB5.out.trans (hb6.mono HB5.out.size))
           clear hM6 hb6)
        | (go_at_call 28
           refine (dopen_any D2.lasts T.n HL2.out H52.out (by omega) hN16 A6 c6 (by have := HM6.out.cap_512 H52.out; rw [HL2.out] at this; exact this) w6 HM6.out.bytes).mono ?_
           rintro e w7 ⟨⟨a7, x7, rfl, hX7⟩, hb7⟩
           have HX7 := Lib.hid (hX7.base_le rfl HB6.out.size)
           have HB7 := Lib.hid (HB6.out.trans (hb7.mono HB6.out.size))
           clear hX7 hb7))
      all_goals go_roundw
      all_goals (first | (exact ⟨i + 1, a7, x7, D2.lasts, by omega, by omega, by go_num, rfl, rfl, HX7.out, HM2.out, HB7.out⟩) | (simp [intOf]; omega))
    · rcases (show ¬ i < cl ∨ (i < cl ∧ ¬ i < 20) from by omega) with hx | ⟨hx, hx2⟩
      all_goals (first | (have hi0 : ¬ (i : Int) < (cl : Int) := by omega) | (have hi0 : (i : Int) < (cl : Int) := by omega))
      all_goals (first | (have hi1 : ¬ (i : Int) < 20 := by omega) | skip)
      all_goals go_upto_region 16 with (first
        | (go_at_call 30
           refine (recover_mid w.heap.size a2 x2 (openDk L) T wr HXr.out rfl rfl HMD.out HMr.out (HW.out.below HBr.out HW.out.lt) (HH.out.below HBr.out HH.out.lt) hsz (by show 0 ≤ 100000; decide)).mono ?_
           rintro e w5 ⟨kk, ev, D2, rfl, hX5, hk5, hrec⟩
           have HX5 := Lib.hid hX5
           have HB5 := Lib.hid (HBr.out.trans (hk5.below hsz))
           have HREC := Lib.hid hrec
           clear hX5 hk5 hrec))
      all_goals (rcases HREC.out.ends with ⟨he, hd2, hrest, hl2⟩ | ⟨_, _, _, hbad⟩)
      all_goals (first | (exact absurd rfl hbad) | skip)
      all_goals (subst he)
      all_goals (have HD2 := Lib.hid hd2; have HR2 := Lib.hid hrest; have HLF := Lib.hid (hl2 rfl))
      all_goals (have HL2 := Lib.hid HREC.out.len; have H52 := Lib.hid HX5.out.1.2.2.1; have HP2 := Lib.hid HREC.out.pend)
      all_goals (have HZ2 := Lib.hid (show D2.lasts.getD 1 [] = Tx.zero from hrest.elim (fun q => q.2.1) (fun q => q.2.1)))
      all_goals (have HPL := Lib.hid (show D2.pend.length = 0 by rw [HP2.out]; rfl))
      all_goals (obtain ⟨FL, hFL⟩ : ∃ FL, D2.lasts.flatten = FL := ⟨_, rfl⟩)
      all_goals (have HFL := Lib.hid hFL; have HFN := Lib.hid (show FL.length = T.n * 512 by rw [← hFL, flat_len _ H52.out, HL2.out]))
      all_goals (clear hd2 hrest hl2 hFL)
      all_goals go_upto_region 18 with (first
        | (go_at_call 29
           refine (dimage_any w.heap.size a2 x2 D2 w5 HX5.out).mono ?_
           rw [HL2.out, HFL.out]
           rintro e w6 ⟨⟨A6, c6, rfl, hM6⟩, hb6⟩
           have hs6 := str_any w6 A6 c6 FL hM6.bytes (T.n * 512) HFN.out
           have HB6 := Lib.hid (HB5.out.trans (hb6.mono HB5.out.size))
           have HX6 := Lib.hid (HX5.out.later hb6)
           clear hM6 hb6)
        | (go_at_call 30
           refine (recover_zero w.heap.size a2 x2 D2 _ HX6.out HD2.out HP2.out (by rw [HL2.out]; exact hN98) HZ2.out).mono ?_
           rintro e w7 ⟨rfl, hb7⟩
           have HB7 := Lib.hid (HB6.out.trans (hb7.mono HB6.out.size))
           have HX7 := Lib.hid (HX6.out.later hb7)
           clear hb7))
      all_goals (have h47 : w7.cell? ⟨x2, 4, none⟩ = some (.bool false) := by have := HX7.out.cell4; rw [HD2.out] at this; exact this)
      all_goals (have HX7d := Lib.hid (show DiskAt w7.drew w.heap.size a2 x2 D2 from HX7.out.drewN 1))
      all_goals go_region_held (fun w' => w'.cell? ⟨x2, 4, none⟩ = some (.bool false)) (first | exact h47 | exact h49 | exact h410)
        (first
          | (go_at_call 18
             refine (dpending_any w.heap.size a2 x2 D2 _ HX7d.out (by rw [HPL.out]; decide)).mono ?_
             rw [HPL.out]
             rintro e w9 ⟨⟨A9, c9, rfl⟩, hb9⟩
             have hb9' : Below w7.heap.size w7 w9 := ⟨hb9.os, hb9.tape, hb9.output, hb9.size, hb9.block⟩
             have h49 : w9.cell? ⟨x2, 4, none⟩ = some (.bool false) := (hb9'.cell (p := ⟨x2, 4, none⟩) (block_lt_of_cell h47)).trans h47
             have HX9 := Lib.hid (HX7.out.later hb9')
             have HB9 := Lib.hid (HB7.out.trans (hb9'.mono HB7.out.size)))
          | (go_at_call 29
             refine (dimage_any w.heap.size a2 x2 D2 w9 HX9.out).mono ?_
             rw [HL2.out, HFL.out]
             rintro e w10 ⟨⟨A10, c10, rfl, hM10⟩, hb10⟩
             have hs10 := str_any w10 A10 c10 FL hM10.bytes (T.n * 512) HFN.out
             have h410 : w10.cell? ⟨x2, 4, none⟩ = some (.bool false) := (hb10.cell (p := ⟨x2, 4, none⟩) (block_lt_of_cell h49)).trans h49
             have HX10 := Lib.hid (HX9.out.later hb10)
             have HB10 := Lib.hid (HB9.out.trans (hb10.mono HB9.out.size))))
      all_goals go_wp2_with fail
      all_goals go_ret2
      all_goals exact ⟨⟨a2, x2, D2, rfl, HX10.out, HD2.out, HP2.out, HLF.out, HREC.out.keep rfl, HREC.out.n, HR2.out⟩, HB10.out⟩
end Go.Proofs.YtimddchgmocdaaaDoor
