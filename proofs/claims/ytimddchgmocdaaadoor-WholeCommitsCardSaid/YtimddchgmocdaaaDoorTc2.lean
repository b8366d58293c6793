/-
  A TRANSACTION's Commit: what is written, in its order.
  THE WALK OF A TRANSACTION's Commit.
-/
import Derived.Test.YtimddchgmocdaaaDoorTx2
set_option linter.unusedVariables false
set_option linter.unusedSimpArgs false
namespace Go.Proofs.YtimddchgmocdaaaDoor
open Go.RowKit Go.Maps

theorem mem_intKeys {w : World} {R : Value → Option (DataW Value × List MemPlace)} {b n : Nat} {D : DataW Value} (hown : w.ownsMap Tryd.prog 3 R b n D) :
    (intKeys D).Nodup ∧ (∀ x, x ∈ intKeys D ↔ Maps.has D (.int .i64 x) = true) ∧ (intKeys D).length = Maps.size D := by
  obtain ⟨es, hD, hpw, _⟩ := hown.entries (int_keyed Tryd.underlying3)
  obtain ⟨es', hD', hko⟩ := hown.keysOf
  obtain rfl : es = es' := by rw [hD] at hD'; simpa using hD'
  subst hD
  have hk : ∀ p ∈ es, ∃ x, p.1 = Lit.int .i64 x := fun p hp => by obtain ⟨v, hv⟩ := hko p hp; obtain ⟨x, _, hx, _⟩ := Maps.keyOf_i64 Tryd.underlying3 hv; exact ⟨x, hx⟩
  refine ⟨?_, fun x => ?_, ?_⟩
  · show (es.map fun p => Go.intOf p.1).Nodup
    refine List.pairwise_map.2 (hpw.imp_of_mem fun {p q} hp' hq' hne e => hne ?_)
    obtain ⟨a, ha⟩ := hk p hp'
    obtain ⟨c, hc⟩ := hk q hq'
    rw [ha, hc] at e ⊢
    exact congrArg _ e
  · rw [Maps.has_eq, List.any_eq_true]
    show x ∈ (es.map fun p => Go.intOf p.1) ↔ _
    rw [List.mem_map]
    constructor
    · rintro ⟨p, hp', rfl⟩
      obtain ⟨a, ha⟩ := hk p hp'
      exact ⟨p, hp', by rw [ha]; simp [Lit.sameKey, Go.intOf]⟩
    · rintro ⟨p, hp', hs⟩
      obtain ⟨a, ha⟩ := hk p hp'
      rw [ha] at hs
      exact ⟨p, hp', by rw [ha]; simpa [Lit.sameKey, Go.intOf] using hs⟩
  · show (es.map fun p => Go.intOf p.1).length = es.length
    rw [List.length_map]
/-- the blocks that are put, in their order -/
structure Puts (N : Nat) (P : Nat → Option (List UInt8)) (ws : List (Nat × List UInt8)) : Prop where
  rise : Rise N ws
  all : ∀ x ∈ ws, P x.1 = some x.2
  each : ∀ j l, P j = some l → (j, l) ∈ ws
  len : ∀ x ∈ ws, x.2.length = 512
theorem MapAt.sorted {w : World} {a b n N : Nat} {P : Nat → Option (List UInt8)} {D : DataW Value} (h : MapAt w a b n N P D) (ss : List Int) (hp : ss.Perm (intKeys D)) (hs : ss.Pairwise (· ≤ ·)) (hn : n ≤ 96) :
    ∃ ws, ss = ws.map (fun x => (x.1 : Int)) ∧ Puts N P ws ∧ ws.length = Maps.size D := by
  obtain ⟨k1, k2, k3⟩ := mem_intKeys h.own
  have hnd : ss.Nodup := hp.nodup_iff.2 k1
  have hlt : ss.Pairwise (· < ·) := by
    have := hs.and hnd
    exact this.imp (fun ⟨h1, h2⟩ => by omega)
  have hin : ∀ x ∈ ss, ∃ i : Nat, x = (i : Int) ∧ 98 ≤ i ∧ i < N ∧ (P i).isSome = true := fun x hx => h.keys x ((k2 x).1 (hp.mem_iff.1 hx))
  have hlen : ss.length = Maps.size D := hp.length_eq.trans k3
  have hsz := h.own.size_le
  have hback : ss = (ss.map fun x => (x.toNat, (P x.toNat).getD [])).map (fun x => (x.1 : Int)) := by
    rw [List.map_map]
    conv => lhs; rw [← List.map_id ss]
    refine List.map_congr_left fun x hx => ?_
    obtain ⟨i, rfl, _⟩ := hin x hx
    simp
  refine ⟨ss.map fun x => (x.toNat, (P x.toNat).getD []), hback, ⟨⟨by rw [List.length_map]; omega, fun k hk => ?_, fun k hk => ?_⟩, fun x hx => ?_, fun j l hj => ?_, fun x hx => ?_⟩, by rw [List.length_map]; exact hlen⟩
  · rw [List.length_map] at hk
    obtain ⟨i, e, q1, q2, _⟩ := hin _ (List.getElem_mem hk)
    rw [List.getElem_map]
    show 98 ≤ ss[k].toNat ∧ ss[k].toNat < N
    rw [e]; exact ⟨by simpa using q1, by simpa using q2⟩
  · rw [List.length_map] at hk
    obtain ⟨i, e, _⟩ := hin _ (List.getElem_mem (show k < ss.length by omega))
    obtain ⟨j, e2, _⟩ := hin _ (List.getElem_mem hk)
    have := List.pairwise_iff_getElem.1 hlt k (k + 1) (by omega) hk (by omega)
    rw [List.getElem_map, List.getElem_map]
    show ss[k].toNat < ss[k + 1].toNat
    omega
  · obtain ⟨y, hy, rfl⟩ := List.mem_map.1 hx
    obtain ⟨i, rfl, _, _, q⟩ := hin y hy
    show P (i : Int).toNat = some ((P (i : Int).toNat).getD [])
    rw [Int.toNat_natCast]
    cases hP : P i with
    | none => rw [hP] at q; cases q
    | some l => rfl
  · obtain ⟨q1, q2, _⟩ := h.yes j l hj
    refine List.mem_map.2 ⟨(j : Int), hp.mem_iff.2 ((k2 _).2 q1), ?_⟩
    rw [Int.toNat_natCast, hj]
    rfl
  · obtain ⟨y, hy, rfl⟩ := List.mem_map.1 hx
    obtain ⟨i, rfl, _, _, q⟩ := hin y hy
    show ((P (i : Int).toNat).getD []).length = 512
    rw [Int.toNat_natCast]
    cases hP : P i with
    | none => rw [hP] at q; cases q
    | some l => exact (h.yes i l hP).2.1
end Go.Proofs.YtimddchgmocdaaaDoor
set_option linter.unusedVariables false
set_option linter.unusedSimpArgs false
namespace Go.Proofs.YtimddchgmocdaaaDoor
open Go.RowKit Go.Maps

theorem KT.to_type {w w2 : World} {t B base : Nat} {s : Option Nat} {Ts : List TypeId} {τ : TypeId} {cs : Array Value} (h : KT (some t) B Ts w w2) (hI : Is w t τ cs) (hb : base ≤ B) : KT s base (τ :: Ts) w w2 :=
  ⟨h.os, h.tape, h.output, h.size, fun k hk hs => h.block k hk (by
    rcases hs with hs | ⟨_, hs⟩
    · exact .inl (by omega)
    · by_cases e : k = t
      · subst e; exact absurd ⟨_, _, _, hI, by simp⟩ hs
      · exact .inr ⟨fun e' => e (by injection e'), fun ⟨cs', u, f, q1, q2⟩ => hs ⟨cs', u, f, q1, List.mem_cons_of_mem _ q2⟩⟩)⟩
theorem DiskAt.ktE {w w2 : World} {base base2 a d t : Nat} {D : Dk} {cs : Array Value} (h : DiskAt w base a d D) (hI : Is w t 64 cs) (k : KT (some t) base2 [] w w2) (hb : base ≤ base2) : DiskAt w2 base a d D :=
  h.kt (k.base_le hb) (by simp) (by simp) (by simp) (by simp) (by simp) (fun b e ⟨cs', u, f, q1, q2⟩ => by
    injection e with e
    subst e
    rw [show w.heap[t]? = _ from hI] at q1
    injection q1 with q1
    injection q1 with _ q1
    subst q1
    simp at q2)
set_option maxRecDepth 100000 in
theorem end_d (B a d t N n : Nat) (P : Nat → Option (List UInt8)) (u : FrameMode) (w : World) (h : TxnAt w B a d t N n P) :
    CallsD Tryd.prog 24 #[.pointer (some ⟨t, 0, none⟩)] u w fun e u' w' => u' = u ∧ e = .returned (.tuple #[]) ∧ Is w' t 64 (overCs d) ∧ KT (some t) B [] w w' := by
  obtain ⟨ht, b, D, U, un, uc, ucs, hb, hI, hM, hO, hn⟩ := h
  have c1 : w.cell? ⟨t, 1, none⟩ = some (.map (some b)) := hI.cell 1
  have c2 : w.cell? ⟨t, 2, none⟩ = some (.slice U un uc) := hI.cell 2
  have c3 : w.cell? ⟨t, 3, none⟩ = some (.bool false) := hI.cell 3
  have f1 := hI.free 1
  have f2 := hI.free 2
  have f3 := hI.free 3
  have HI := Lib.hid hI
  clear hI hM hO
  go_enter_d Tryd.func24, Tryd.ntmps24
  go_wp2_with fail
  go_end0
  have h1 := HI.out.put 1 (.map none)
  have h2 := h1.put 2 (.slice none 0 0)
  have h3 := h2.put 3 (.bool true)
  exact ⟨rfl, h3, ((KT.setCell (a := some t) (i := 1) (Ts := []) HI.out ht (.inl rfl) (.map none)).trans (KT.setCell (a := some t) (i := 2) h1 ht (.inl rfl) (.slice none 0 0))).trans (KT.setCell (a := some t) (i := 3) h2 ht (.inl rfl) (.bool true))⟩
/-- the steps of a commit: none, if nothing is put -/
def csteps (ws : List (Nat × List UInt8)) : List Stp := if ws.length = 0 then [] else Tx.whole (Hd.made (ws.map (·.1)) (ws.map (·.2))) ws
set_option maxRecDepth 100000 in
set_option maxHeartbeats 3200000 in
theorem tcommit_any (base B a d t N n : Nat) (P : Nat → Option (List UInt8)) (D : Dk) (w : World) (h : TxnAt w B a d t N n P) (hD : DiskAt w base a d D) (hdn : D.down = false) (hN : D.lasts.length = N) (hl : 98 ≤ N) (hBw : B ≤ w.heap.size) (hbB : base ≤ B) (hn : n ≤ 96)
    (hw : WidthsAt w) (hh : HalfAt w) (hn5 : D.n ≤ 500000) :
    Calls Tryd.prog 16 #[.pointer (some ⟨t, 0, none⟩)] w fun e w' => ∃ ws, Puts N P ws ∧ e = .returned (.int .i64 (D.does (csteps ws)).2) ∧ DiskAt w' base a d (D.does (csteps ws)).1 ∧ KT (some a) base (64 :: diskT) w w' := by
  have hmf : ∀ (fn : Fn) (first cap : Array Value) (w : World), (Instr.makeFunc fn first cap).run Tryd.prog w = .ok (.func fn first cap) w := fun _ _ _ _ => rfl
  obtain ⟨_, _, hisA⟩ := hD.a_ne
  have HT := Lib.hid h
  obtain ⟨ht, b, Dm, U, un, uc, ucs, hb, hI, hM, hO, hun⟩ := h
  have c0 : w.cell? ⟨t, 0, none⟩ = some (.pointer (some ⟨d, 0, none⟩)) := hI.cell 0
  have c1 : w.cell? ⟨t, 1, none⟩ = some (.map (some b)) := hI.cell 1
  have c3 : w.cell? ⟨t, 3, none⟩ = some (.bool false) := hI.cell 3
  have hlen := fun ty => (hM.own.len Tryd.underlying61 ty)
  have hsz := hM.own.size_le
  have HI := Lib.hid hI
  have HM := Lib.hid hM
  have HD := Lib.hid hD
  have HDN := Lib.hid hdn
  have HNN := Lib.hid hN
  have HW := Lib.hid hw
  have HH := Lib.hid hh
  have HIA := Lib.hid hisA
  have hlN : N ≤ 16384 := by have := hD.1.2.1; omega
  clear hI hM hO hD hdn hN hw hh hisA
  obtain ⟨m, hm⟩ : ∃ m, Maps.size Dm = m := ⟨_, rfl⟩
  rw [hm] at hlen hsz
  have HMM := Lib.hid hm
  clear hm
  by_cases h0 : m = 0
  · have hm0 : ((m : Int) == 0) = true := by rw [beq_iff_eq]; omega
    go_enter_defers Tryd.func16, Tryd.ntmps16
    go_wp2_with fail
    refine leaves_cons (f := 24) (args := #[.pointer (some ⟨t, 0, none⟩)]) (by simp) (by simp [go_sem]) ?_
    refine (end_d B a d t N n P .returning w HT.out).mono ?_
    rintro e u' w'' ⟨rfl, rfl, hI2, hk⟩
    obtain ⟨k1, k2, k3⟩ := mem_intKeys HM.out.own
    have hnil : intKeys Dm = [] := List.eq_nil_of_length_eq_zero (by rw [k3, HMM.out]; exact h0)
    obtain ⟨ws, _, hpu, hwl⟩ := HM.out.sorted [] (by rw [hnil]) List.Pairwise.nil hn
    have hc : csteps ws = [] := by unfold csteps; rw [if_pos (by rw [hwl, HMM.out]; exact h0)]
    refine ⟨_, results_tmp rfl _ _ _, ws, hpu, by rw [hc]; rfl, by rw [hc]; exact HD.out.ktE HI.out hk hbB, (hk.to_type (s := some a) HI.out hbB).mono (fun τ hτ => by simp at hτ; subst hτ; simp)⟩
  · have hm0 : ((m : Int) == 0) = false := by rw [beq_eq_false_iff_ne]; omega
    go_enter_defers Tryd.func16, Tryd.ntmps16
    go_wp2_with (first
      | (go_at_call 26
         refine (written_any t b n Dm RV w HM.out.own (by rw [HMM.out]; omega) c1 c3).mono ?_
         rintro e w1 ⟨⟨NA, nc, ss, rfl, hperm, hsort, hNu⟩, hb1⟩
         have HPM := Lib.hid hperm
         have HSO := Lib.hid hsort
         have HNu := Lib.hid hNu
         have HB1 := Lib.hid hb1
         clear hperm hsort hNu hb1))
    obtain ⟨ws, hss, hpu, hwl⟩ := HM.out.sorted ss HPM.out HSO.out hn
    rw [HMM.out] at hwl
    have hsl : ss.length = ws.length := by rw [hss, List.length_map]
    have HNi := Lib.hid (show Nums w1 w.heap.size NA nc (ints (ws.map (·.1))) by
      have e : ss = ints (ws.map (·.1)) := by rw [hss]; unfold ints; rw [List.map_map]; rfl
      rw [← e]; exact HNu.out)
    have HPU := Lib.hid hpu
    have hw1 : 1 ≤ ws.length := by omega
    have hwf : ws.length ≤ 96 := hpu.rise.few
    rw [hsl]
    have hs1 := HB1.out.size
    have HI1 := Lib.hid (HI.out.below HB1.out HI.out.lt)
    have HM1 := Lib.hid (HM.out.later HB1.out)
    have HD1 := Lib.hid (HD.out.later HB1.out)
    have HT1 := Lib.hid (HT.out.later HB1.out)
    have HA1 := Lib.hid (show ∃ cur, Is w1 a 74 cur by obtain ⟨cur, hi⟩ := HIA.out; exact ⟨cur, hi.below HB1.out hi.lt⟩)
    clear hss hsl hpu HNu HPM HSO hlen hwl
    go_loopw [3, 20] (fun v u wr => ∃ (k : Nat) (A : Option Addr) (c : Nat), k ≤ ws.length ∧ u = .int .i64 k ∧ v = .slice A k c ∧ BlkRow wr base a w.heap.size A c (ws.take k) ∧ KT none w.heap.size [71] w1 wr) (fun v u _ => ws.length - (intOf u).toNat)
    case atStart => exact ⟨0, none, 0, Nat.zero_le _, rfl, rfl, BlkRow.nil _ _ _ _, KT.refl _ _ _ _⟩
    case round =>
      obtain ⟨k, A, c, hk, rfl, rfl, hBl, hKT⟩ := hrel
      have HBl := Lib.hid hBl
      have HKT := Lib.hid hKT
      have hsr := hKT.size
      have HIr := Lib.hid (HI1.out.kt0 hKT (by simp))
      have ct0 : wr.cell? ⟨t, 0, none⟩ = some (.pointer (some ⟨d, 0, none⟩)) := HIr.out.cell 0
      have ct1 : wr.cell? ⟨t, 1, none⟩ = some (.map (some b)) := HIr.out.cell 1
      clear hBl hKT
      by_cases hlt : k < ws.length
      · have hk0 : (k : Int) < (ws.length : Int) := by omega
        have hk1 : (0 : Int) ≤ (k : Int) := by omega
        obtain ⟨gn, rfl, cn⟩ := nums_at (HNi.out.kt HKT.out (by simp)) (k := k) (by rw [List.length_map]; exact hlt)
        have hnk : (ws.map (·.1))[k]'(by rw [List.length_map]; exact hlt) = ws[k].1 := by simp
        rw [hnk] at cn
        have hPk := HPU.out.all _ (List.getElem_mem hlt)
        have h5 := HPU.out.len _ (List.getElem_mem hlt)
        have hlow := HPU.out.rise.low k hlt
        have hts : ws.take (k + 1) = ws.take k ++ [(ws[k].1, ws[k].2)] := take_snoc ws k hlt
        have HK1 := Lib.hid (show (ws.take k).length = k by rw [List.length_take]; omega)
        obtain ⟨x, hx⟩ : ∃ x, ws[k].1 = x := ⟨_, rfl⟩
        obtain ⟨bb, hbb⟩ : ∃ bb, ws[k].2 = bb := ⟨_, rfl⟩
        rw [hx] at cn hts hPk hlow
        rw [hbb] at hts hPk h5
        have HMr := HM1.out.kt HKT.out (.inl rfl) (by simp) (by simp)
        obtain ⟨v, ps, hrun, hv⟩ := (HMr.look x (by omega) wr rfl).2
        have hval : ∃ g c', v = .slice (some g) 512 c' ∧ Buf wr 0 (some a) (some g) bb := by
          rcases HMr.val hv with ⟨e, _⟩ | ⟨l', g, c', e, _, _, hv', hbuf⟩
          · rw [hPk] at e; cases e
          · rw [hPk] at e
            injection e with e
            subst e
            exact ⟨g, c', hv', hbuf⟩
        obtain ⟨g, c', rfl, hbuf⟩ := hval
        have HBUF := Lib.hid (show Buf wr base (some a) (some g) bb from hbuf.up)
        have HTS := Lib.hid hts
        have H5 := Lib.hid h5
        clear hnk hPk h5 hts hx hbb HMr hv hbuf
        go_wp2_with (first
          | (at_builtin
             refine wpList_append_blk rfl _ _ (by rfl) base a w.heap.size A c (ws.take k) (by rw [HK1.out]; rfl) (HBl.out.later (below_new _ _)) wr.heap.size 1 x (some g) c' bb (by rfl) (by have := (Is.new wr 71 #[.int .i64 (x : Int), .slice (some g) 512 c']).cell 0; exact this) (by have := (Is.new wr 71 #[.int .i64 (x : Int), .slice (some g) 512 c']).cell 1; exact this) H5.out (HBUF.out.later (below_new _ _)) (by rw [HK1.out]; omega) (by rw [World.size_alloc]; omega) (by omega) ?_
             intro A3 c3 w6 hBl6 hk6
             rw [← HTS.out] at hBl6 ⊢
             have HBl6 := Lib.hid hBl6
             have hl9 : (ws.take (k + 1)).length = k + 1 := by rw [List.length_take]; omega
             rw [hl9]
             have HK6 := Lib.hid (show KT none w.heap.size [71] wr w6 from (KT.of_below (below_new wr (.cells #[.int .i64 (x : Int), .slice (some g) 512 c'] 71)) (Nat.le_refl _)).trans hk6)
             clear hBl6 hl9 hk6))
        go_roundw
        case rel => exact ⟨k + 1, A3, c3, by omega, by go_num, rfl, HBl6.out, HKT.out.trans HK6.out⟩
        case measure => simp [intOf]; omega
      · obtain rfl : ws.length = k := by omega
        have hall : ws.take ws.length = ws := List.take_length
        rw [hall] at HBl
        have HBw := Lib.hid (HB1.out.trans (HKT.out.below hs1))
        have HDr := Lib.hid (show DiskAt wr base a d D from HD1.out.kt (HKT.out.base_le (by omega)) (by simp) (by simp) (by simp) (by simp) (by simp) (fun b e => by cases e))
        have HTr := Lib.hid (HT1.out.kt HKT.out (.inl rfl) (by simp) (by simp) (by simp) (by simp))
        have HAr := Lib.hid (show ∃ cur, Is wr a 74 cur by obtain ⟨_, _, cur, hi⟩ := HDr.out.a_ne; exact ⟨cur, hi⟩)
        have hcs : csteps ws = Tx.whole (Hd.made (ws.map (·.1)) (ws.map (·.2))) ws := by unfold csteps; rw [if_neg (by omega)]
        obtain ⟨CS, hCS⟩ : ∃ CS, csteps ws = CS := ⟨_, rfl⟩
        rw [hCS] at hcs
        have HCS := Lib.hid hCS
        have HCS2 := Lib.hid hcs
        clear hall hCS hcs
        go_wp2_with (go_at_call 27
                     with_reducible refine (wcommit_any base a d w.heap.size D A c ws wr HDr.out HDN.out HBl.out (by rw [HNN.out]; exact HPU.out.rise) hw1 (by rw [HNN.out]; exact hl) HPU.out.len (HW.out.below HBw.out HW.out.lt) (HH.out.below HBw.out HH.out.lt) (by omega) hn5).mono ?_
                     rw [← HCS2.out]
                     rintro e w9 ⟨rfl, hD9, hk9⟩
                     have HD9 := Lib.hid hD9
                     have HK9 := Lib.hid hk9
                     clear hD9 hk9)
        have hT9 := HTr.out.kt HK9.out (.inr ⟨rfl, HAr.out⟩) (diskT_ne (by simp)) (diskT_ne (by simp)) (by simp [diskT]) (by simp [diskT])
        have hI9 := HIr.out.kt HK9.out (.inr ⟨ne_a HAr.out (by decide) ⟨_, HIr.out⟩, by simp [diskT]⟩)
        refine leaves_cons (f := 24) (args := #[.pointer (some ⟨t, 0, none⟩)]) (by simp) (by simp [go_sem]) ?_
        refine (end_d B a d t N n P .returning w9 hT9).mono ?_
        rintro e u' w'' ⟨rfl, rfl, hI2, hk⟩
        refine ⟨_, results_tmp rfl _ _ _, ws, HPU.out, by rw [HCS.out]; rfl, by rw [HCS.out]; exact HD9.out.ktE hI9 hk hbB, ?_⟩
        exact ((KT.of_below HBw.out (Nat.le_refl _)).trans (HK9.out.mono (fun τ hτ => List.mem_cons_of_mem _ hτ))).trans ((hk.to_type (s := some a) hI9 hbB).mono (fun τ hτ => by simp at hτ; subst hτ; simp))
end Go.Proofs.YtimddchgmocdaaaDoor
