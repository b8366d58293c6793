/-
  THE WALKS OF A DISK's CALLS (8): Flush, Arm.
-/
import Derived.Test.YtimddchgmocdaaaDoorDw7
set_option linter.unusedVariables false
set_option linter.unusedSimpArgs false
namespace Go.Proofs.YtimddchgmocdaaaDoor
open Go.RowKit

set_option maxRecDepth 100000 in
set_option maxHeartbeats 3200000 in
theorem dflush_any (base a d : Nat) (D : Dk) (w : World) (h : DiskAt w base a d D) (hdn : D.down = false) (hbw : base ≤ w.heap.size) (hn0 : D.n ≤ 1000000) :
    Calls Tryd.prog 55 #[.pointer (some ⟨d, 0, none⟩)] w fun e w' => e = .returned (.int .i64 D.err) ∧ DiskAt w' base a d D.flush ∧ KT (some a) base diskT w w' := by
  have hb := below_new w (.cells #[.pointer (some ⟨d, 0, none⟩)] 24)
  have h1 := h.later hb
  have hbx : Is (w.alloc (.cells #[.pointer (some ⟨d, 0, none⟩)] 24)) w.heap.size 24 #[.pointer (some ⟨d, 0, none⟩)] := Is.new w _ _
  have hk0 : KT (some a) base diskT w (w.alloc (.cells #[.pointer (some ⟨d, 0, none⟩)] 24)) := KT.of_below hb (Nat.le_refl _)
  obtain ⟨_, _, hisA⟩ := h1.a_ne
  have hba : some w.heap.size ≠ some a := ne_a hisA (by decide) ⟨_, hbx⟩
  have HBA := Lib.hid hba
  obtain ⟨hO, hd, cA, P, cp, K, ck, wrt, flt, T, tn, ct, tc, hI, _⟩ := h1
  obtain ⟨c0, c1, c2, c3, c4, c5, c6, c7⟩ := dcells hI
  rw [hdn] at c4
  have f6 := hI.free 6
  have b0 := hbx.cell 0
  have hbd : w.heap.size ≠ d := is_ne hbx hI (by decide)
  have HFL := Lib.hid (fun v => fl_stored (h.later hb) v)
  have HBX := Lib.hid (show ∀ v, Is ((w.alloc (.cells #[.pointer (some ⟨d, 0, none⟩)] 24)).setCell ⟨d, 6, none⟩ (.int .i64 v)) w.heap.size 24 #[.pointer (some ⟨d, 0, none⟩)] from fun v =>
    hbx.kt (KT.setCell (a := some d) (i := 6) (Ts := []) hI hd (.inl rfl) _) (.inr ⟨(fun e => hbd (by injection e)), by simp⟩))
  have HK1 := Lib.hid (fun v => hk0.trans (DiskAt.kt1 (h.later hb) 6 (.int .i64 v)))
  have HN0 := Lib.hid hn0
  obtain ⟨lf, hlf⟩ : ∃ lf, D.left = lf := ⟨_, rfl⟩
  clear h hb hbx hk0 hisA hba hI hdn hO c0 c1 c2 c3 c5 c7 hn0
  by_cases h1 : lf = 1
  · have HW := Lib.hid (show D.flush = D.cut D.keep from by unfold Dk.flush; rw [if_pos (by rw [hlf]; exact h1)])
    have HE := Lib.hid (show D.err = 30 from by unfold Dk.err; rw [if_pos (by rw [hlf]; exact h1)])
    have HL1 := Lib.hid (show D.left = 1 from by rw [hlf]; exact h1)
    clear h1 hlf
    go_enter Tryd.func55, Tryd.ntmps55
    go_wp2_with (go_at_call 70
                 refine (dstep_cut base a d _ _ _ (HFL.out _) HL1.out).mono ?_
                 rintro e w9 ⟨rfl, hD9, hk9⟩
                 have HD9 := Lib.hid hD9
                 have HK9 := Lib.hid hk9
                 clear hD9 hk9)
    go_ret
    exact ⟨by rw [HE.out]; rfl, by rw [HW.out]; exact HD9.out, (HK1.out _).trans HK9.out⟩
  · have HW := Lib.hid (show D.flush = D.less.flushed from by unfold Dk.flush; rw [if_neg (by rw [hlf]; exact h1)]; rfl)
    have HE := Lib.hid (show D.err = 0 from by unfold Dk.err; rw [if_neg (by rw [hlf]; exact h1)])
    have HL1 := Lib.hid (show D.left ≠ 1 from by rw [hlf]; exact h1)
    clear h1 hlf
    go_enter Tryd.func55, Tryd.ntmps55
    go_wp2_with (go_at_call 70
                 refine (dstep_fn base a d w.heap.size _ _ (HFL.out _) HL1.out (fun W' => DiskAt W' base a d D.less.flushed ∧ KT (some a) base diskT w W') (fun W hW hkW => (dflush1_any base a d w.heap.size D.less W hW ((HBX.out _).kt hkW (.inr ⟨HBA.out, by simp [diskT]⟩)) HN0.out).mono (by rintro e w5 ⟨rfl, q1, q2⟩; exact ⟨rfl, q1, ((HK1.out _).trans hkW).trans q2⟩))).mono ?_
                 rintro e w9 ⟨rfl, hD9, hk9⟩
                 have HD9 := Lib.hid hD9
                 have HK9 := Lib.hid hk9
                 clear hD9 hk9)
    go_ret
    exact ⟨by rw [HE.out]; rfl, by rw [HW.out]; exact HD9.out, HK9.out⟩

theorem keep_of_own {w : World} {base b0 n c : Nat} {A : Option Addr} {l : List Bool} (h : Own w b0 4 1 A n c (boolCells l)) (hl : l.length = n) : KeepAt w base A l := by
  by_cases e : l = []
  · exact .inl e
  have hp : 0 < l.length := List.length_pos_iff.2 e
  obtain ⟨g, rfl, _, _⟩ := h.form (by omega)
  obtain ⟨_, cur, hi⟩ := h.typed g rfl
  refine .inr ⟨g, 0, rfl, .inr ⟨_, _, _, hi, by simp⟩, fun k hk => ?_⟩
  have := h.cell k (by omega)
  rw [show (⟨g, 0 + k, none⟩ : Addr) = ⟨g, k, none⟩ by rw [Nat.zero_add], this]
  simp [boolCells, hk]
theorem armed_at {w : World} {base a d c2 v : Nat} {D : Dk} {A2 : Option Addr} {l : List Bool} (h : DiskAt w base a d D) (hk : KeepAt w base A2 l) (hl : l.length ≤ 9223372036854775807) (hv : v ≤ 9223372036854775807) :
    DiskAt ((w.setCell ⟨d, 2, none⟩ (.int .i64 (v : Int))).setCell ⟨d, 3, none⟩ (.slice A2 l.length c2)) base a d { D with left := v, keep := l } ∧ KT (some a) base diskT w ((w.setCell ⟨d, 2, none⟩ (.int .i64 (v : Int))).setCell ⟨d, 3, none⟩ (.slice A2 l.length c2)) := by
  have h2 := left_stored h v hv
  have hk1 := h.kt1 2 (.int .i64 (v : Int))
  obtain ⟨hO, hd, cA, P, cp, K, ck, wrt, flt, T, tn, ct, tc, hI, hA, hP, hK, hT, hn⟩ := h2
  have hkk : KeepAt (w.setCell ⟨d, 2, none⟩ (.int .i64 (v : Int))) base A2 l := by
    obtain ⟨_, hd', cA, P, cp, K, ck, wrt, flt, T, tn, ct, tc, hI', _⟩ := h
    exact hk.putD hI' hd' _ _
  refine ⟨⟨⟨hO.1, hO.2.1, hO.2.2.1, hO.2.2.2.1, hO.2.2.2.2.1, hv, hl⟩, hd, cA, P, cp, A2, c2, wrt, flt, T, tn, ct, tc, hI.put 3 _, hA.putD hI (by decide) _ _, hP.putD hI (by decide) _ _, hkk.putD hI hd _ _, hT.putD hI (by decide) _ _, hn⟩, hk1.trans ?_⟩
  exact (diskAt_put (D := D) hd hI 3 _).1
theorem run_max2 (P : Program) (ts : Array TypeId) (t : TypeId) (p q : Int) (w : World) : (Builtin.max_ ts t #[.int .i64 p, .int .i64 q]).run P w = .ok (.int .i64 (if p < q then q else p)) w := by simp [Builtin.max_, Builtin.max2]
set_option maxRecDepth 100000 in
set_option maxHeartbeats 3200000 in
theorem darm_any (base a d : Nat) (D : Dk) (at_ : Int) (Kp : Option Addr) (kc : Nat) (l : List Bool) (w : World) (h : DiskAt w base a d D) (hdn : D.down = false) (hbw : base ≤ w.heap.size)
    (hk : (Kp = none ∧ l = [] ∧ kc = 0) ∨ ∃ ad, Kp = some ad ∧ ∀ k (h : k < l.length), w.cell? (ad.add k) = some (.bool l[k])) (hl : l.length ≤ 140737488355328) (ha : at_ ≤ 9223372036854775807) :
    Calls Tryd.prog 15 #[.pointer (some ⟨d, 0, none⟩), .agg #[.int .i64 at_, .slice Kp l.length kc]] w fun e w' => e = .returned (.int .i64 0) ∧ DiskAt w' base a d (D.arm at_ l) ∧ KT (some a) base diskT w w' := by
  obtain ⟨v, hv⟩ : ∃ v : Nat, (if at_ < 0 then 0 else at_) = (v : Int) := ⟨(if at_ < 0 then 0 else at_).toNat, by split <;> omega⟩
  have hv9 : v ≤ 9223372036854775807 := by split at hv <;> omega
  have harm : D.arm at_ l = { D with left := v, keep := l } := by
    unfold Dk.arm
    have : (if 0 < at_ then at_ else 0).toNat = v := by
      by_cases h0 : at_ < 0
      · rw [if_pos h0] at hv; rw [if_neg (by omega)]; omega
      · rw [if_neg h0] at hv; split <;> omega
    rw [this]
  obtain ⟨W, hW⟩ : ∃ W, w.alloc (.cells #[.int .i64 at_, .slice Kp l.length kc] 35) = W := ⟨_, rfl⟩
  have hb := below_new w (.cells #[.int .i64 at_, .slice Kp l.length kc] 35)
  have hbx : Is (w.alloc (.cells #[.int .i64 at_, .slice Kp l.length kc] 35)) w.heap.size 35 #[.int .i64 at_, .slice Kp l.length kc] := Is.new w _ _
  have b0 := hbx.cell 0
  have b1 := hbx.cell 1
  have HD := Lib.hid h
  obtain ⟨hO, hd, cA, P, cp, K, ck, wrt, flt, T, tn, ct, tc, hI, _⟩ := h
  have c4 : w.cell? ⟨d, 4, none⟩ = some (.bool D.down) := hI.cell 4
  rw [hdn] at c4
  have c4' : (w.alloc (.cells #[.int .i64 at_, .slice Kp l.length kc] 35)).cell? ⟨d, 4, none⟩ = some (.bool false) := (hb.cell (p := ⟨d, 4, none⟩) hI.lt).trans c4
  have c2' : (w.alloc (.cells #[.int .i64 at_, .slice Kp l.length kc] 35)).cell? ⟨d, 2, none⟩ = some (.int .i64 (D.left : Int)) := (hb.cell (p := ⟨d, 2, none⟩) hI.lt).trans (hI.cell 2)
  have f2' := (hb.frozen (p := ⟨d, 2, none⟩) hI.lt).trans (hI.free 2)
  have c3' : (w.alloc (.cells #[.int .i64 at_, .slice Kp l.length kc] 35)).cell? ⟨d, 3, none⟩ = some (.slice K D.keep.length ck) := (hb.cell (p := ⟨d, 3, none⟩) hI.lt).trans (hI.cell 3)
  have f3' := (hb.frozen (p := ⟨d, 3, none⟩) hI.lt).trans (hI.free 3)
  have HI := Lib.hid hI
  have HARM := Lib.hid harm
  have HB := Lib.hid hb
  have HHK := Lib.hid hk
  have hmx := run_max2 Tryd.prog
  clear hI hO harm hb hbx hW hk W hdn c4
  go_enter Tryd.func15, Tryd.ntmps15
  go_upto_region 3 with fail
  go_cut [4] from 9 to 20 (fun s4 wx => s4 = .int .i64 0 ∧ DiskAt wx base a d { D with left := v, keep := l } ∧ KT (some a) base diskT w wx)
  case first =>
    rcases HHK.out with ⟨rfl, rfl, rfl⟩ | ⟨ad, rfl, hc⟩
    · rw [List.length_nil] at c2' c3' f2' f3' b0 b1
      go_region_law (go_simp; go_at_call 25; refine (clone_nil _).mono ?_; rintro e w5 ⟨rfl, rfl⟩)
      all_goals (have HDW := armed_at (c2 := 0) (A2 := none) (l := []) (base := base) (HD.out.later HB.out) (.inl rfl) (by simp) hv9)
      all_goals (rw [List.length_nil] at HDW)
      all_goals (have HKW := (show KT (some a) base diskT w (w.alloc (.cells #[.int .i64 at_, .slice none 0 0] 35)) from KT.of_below (below_new w _) (Nat.le_refl _)))
      all_goals go_wp2_with fail
      all_goals go_meet
      all_goals exact ⟨rfl, HDW.1, HKW.trans (HDW.2.trans (KT.drew _))⟩
    · have HC := Lib.hid (show ∀ k (h : k < l.length), (w.alloc (.cells #[.int .i64 at_, .slice (some ad) l.length kc] 35)).cell? (ad.add k) = some (.bool l[k]) from fun k hk => (HB.out.cell (p := ad.add k) (block_lt_of_cell (hc k hk))).trans (hc k hk))
      have hdl : d < (w.alloc (.cells #[.int .i64 at_, .slice (some ad) l.length kc] 35)).heap.size := by rw [World.size_alloc]; have q : d < w.heap.size := HI.out.lt; omega
      clear hc
      go_region_law (
           go_simp
           go_at_call 25
           refine (cloneb_any ad l.length kc l rfl _ (by exact HC.out) hl).mono ?_
           rintro e w5 ⟨⟨A2, c5, rfl, hO5⟩, hb5'⟩
           have hb5 : Below (w.alloc (.cells #[.int .i64 at_, .slice (some ad) l.length kc] 35)).heap.size (w.alloc (.cells #[.int .i64 at_, .slice (some ad) l.length kc] 35)) w5 := ⟨hb5'.os, hb5'.tape, hb5'.output, hb5'.size, hb5'.block⟩
           have c25 : w5.cell? ⟨d, 2, none⟩ = some (.int .i64 (D.left : Int)) := (hb5.cell (p := ⟨d, 2, none⟩) hdl).trans c2'
           have f25 : w5.frozen? ⟨d, 2, none⟩ = false := (hb5.frozen (p := ⟨d, 2, none⟩) hdl).trans f2'
           have c35 : w5.cell? ⟨d, 3, none⟩ = some (.slice K D.keep.length ck) := (hb5.cell (p := ⟨d, 3, none⟩) hdl).trans c3'
           have f35 : w5.frozen? ⟨d, 3, none⟩ = false := (hb5.frozen (p := ⟨d, 3, none⟩) hdl).trans f3'
           have b05 : w5.cell? ⟨w.heap.size, 0, none⟩ = some (.int .i64 at_) := (hb5.cell (p := ⟨w.heap.size, 0, none⟩) (by rw [World.size_alloc]; exact Nat.lt_succ_self _)).trans b0)
      all_goals (have HDW := armed_at (c2 := c5) (A2 := A2) (l := l) (base := base) ((HD.out.later HB.out).later hb5) (keep_of_own hO5 rfl) (by omega) hv9)
      all_goals (have HKW := (show KT (some a) base diskT w w5 from (KT.of_below HB.out (Nat.le_refl _)).trans (KT.of_below hb5 (Nat.le_refl _))))
      all_goals go_wp2_with fail
      all_goals go_meet
      all_goals exact ⟨rfl, HDW.1, HKW.trans HDW.2⟩
  case rest =>
    obtain ⟨rfl, hD, hK⟩ := hcut
    go_wp2_with fail
    go_ret
    exact ⟨rfl, by rw [HARM.out]; exact hD, hK⟩
end Go.Proofs.YtimddchgmocdaaaDoor
