/-
  A TRANSACTION's Write.
-/
import Derived.Test.YtimddchgmocdaaaDoorTx2
set_option linter.unusedVariables false
set_option linter.unusedSimpArgs false
namespace Go.Proofs.YtimddchgmocdaaaDoor
open Go.RowKit Go.Maps

theorem infoFu : (Tryd.prog.info? 1).map (fun i => (i.zero, i.size, i.bytes)) = some (some .nilFunc, 1, 8) := by kernel_rfl
theorem MapAt.ktT {w w2 : World} {a b n N base t : Nat} {P : Nat → Option (List UInt8)} {D : DataW Value} {Ts : List TypeId} {cs : Array Value} (h : MapAt w a b n N P D) (k : KT (some t) base Ts w w2) (hI : Is w t 64 cs) (h1 : 5 ∉ Ts) (h2 : 74 ∉ Ts) : MapAt w2 a b n N P D := by
  obtain ⟨es, clock, hb⟩ := ownsMap_isMap h.own
  have hlt : b < w.heap.size := (Array.getElem?_eq_some_iff.1 hb).1
  have hne : some b ≠ some t := fun e => by
    injection e with e
    subst e
    rw [show w.heap[b]? = _ from hI] at hb
    injection hb with hb
    cases hb
  refine ⟨ownsMap_heap h.own (k.block b hlt (.inr ⟨hne, not_tk hb _⟩)), h.keys, h.no, fun i l hi => ?_⟩
  obtain ⟨q1, q2, g, c, q3, q4⟩ := h.yes i l hi
  refine ⟨q1, q2, g, c, q3, q4.kt2 k (Nat.zero_le _) h1 h2 (fun g e => ⟨Nat.zero_le _, fun ⟨cs', u, f, r1, r2⟩ => ?_⟩)⟩
  injection e with e
  subst e
  rw [show w.heap[t]? = _ from hI] at r1
  injection r1 with r1
  injection r1 with _ r1
  subst r1
  simp at r2
theorem DiskAt.ktT {w w2 : World} {base base2 a d t : Nat} {D : Dk} {cs : Array Value} (h : DiskAt w base a d D) (hI : Is w t 64 cs) (k : KT (some t) base2 [1] w w2) (hb : base ≤ base2) : DiskAt w2 base a d D :=
  h.kt (k.base_le hb) (by simp) (by simp) (by simp) (by simp) (by simp) (fun b e ⟨cs', u, f, q1, q2⟩ => by
    injection e with e
    subst e
    rw [show w.heap[t]? = _ from hI] at q1
    injection q1 with q1
    injection q1 with _ q1
    subst q1
    simp at q2)
theorem KT.of_map {w w6 : World} {b base : Nat} (hg : w.grownBy w6 (some b)) (hb : base ≤ b) : KT (some b) base [] w w6 :=
  ⟨hg.os, hg.tape, hg.output, hg.size, fun k hk hs => hg.block k hk (by
    rcases hs with hs | hs
    · intro e; injection e with e; omega
    · exact hs.1)⟩
theorem not_map {w : World} {g b : Nat} {t : TypeId} {cs : Array Value} {es : Array MapEntry} {clock : Nat} (hI : Is w g t cs) (hb : w.heap[b]? = some (.map es clock)) : g ≠ b := fun e => by
  subst e
  rw [show w.heap[g]? = _ from hI] at hb
  injection hb with hb
  cases hb
theorem MapAt.store {w w6 : World} {a b n N i c : Nat} {ga : Addr} {P : Nat → Option (List UInt8)} {D : DataW Value} {l : List UInt8} (h : MapAt w a b n N P D) (hi0 : 98 ≤ i) (hi : i < N) (h5 : l.length = 512)
    (hown : w6.ownsMap Tryd.prog 3 RV b (n + 1) (D.put (keyD i) (.held (.slice (some ga) 512 c)))) (hg : w.grownBy w6 (some b)) (hbuf : Buf w 0 (some a) (some ga) l) :
    MapAt w6 a b (n + 1) N (fun j => if j = i then some l else P j) (D.put (keyD i) (.held (.slice (some ga) 512 c))) := by
  have hM := h.own.isMap
  have hne : ∀ j : Nat, j ≠ i → keyD j ≠ keyD i := fun j hj e => hj (by injection e with _ e; omega)
  obtain ⟨es, clock, hb⟩ := ownsMap_isMap h.own
  have hk := KT.of_map (base := 0) hg (Nat.zero_le _)
  have hB : ∀ A l, Buf w 0 (some a) A l → Buf w6 0 (some a) A l := fun A l hq => hq.kt2 hk (Nat.le_refl _) (by simp) (by simp) (fun g e => by injection e with e; subst e; exact ⟨Nat.zero_le _, not_tk hb _⟩)
  refine ⟨hown, fun x hx => ?_, fun j hj => ?_, fun j l' hj => ?_⟩
  · by_cases e : (Lit.int .i64 x) = keyD i
    · exact ⟨i, by injection e with _ e, hi0, hi, by simp⟩
    · rw [Maps.has_put_other e] at hx
      obtain ⟨j, rfl, q1, q2, q3⟩ := h.keys x hx
      refine ⟨j, rfl, q1, q2, ?_⟩
      by_cases ej : j = i
      · simp [ej]
      · simp [ej, q3]
  · by_cases ej : j = i
    · simp [ej] at hj
    · simp [ej] at hj
      rw [Maps.has_put_other (hne j ej)]
      exact h.no j hj
  · by_cases ej : j = i
    · subst ej
      simp at hj
      subst hj
      exact ⟨Maps.has_put_same (k := keyD j) hM trivial _, h5, ga, c, Maps.atKey_put_same (k := keyD j) hM trivial _ _, hB _ _ hbuf⟩
    · simp [ej] at hj
      obtain ⟨q1, q2, g', c', q3, q4⟩ := h.yes j l' hj
      exact ⟨by rw [Maps.has_put_other (hne j ej)]; exact q1, q2, g', c', by rw [Maps.atKey_put_other (hne j ej)]; exact q3, hB _ _ q4⟩
theorem DiskAt.drewN {w : World} {base a d : Nat} {D : Dk} (h : DiskAt w base a d D) (n : Nat) : DiskAt (w.drewN n) base a d D :=
  h.kt (Ts := []) (s := none) (KT.drewN w n) (by simp) (by simp) (by simp) (by simp) (by simp) (fun b e => by cases e)
theorem blocks_q {w : World} {base a d : Nat} {D : Dk} (h : DiskAt w base a d D) {N : Nat} (hN : D.lasts.length = N) (n : Nat) : Calls Tryd.prog 20 #[.pointer (some ⟨d, 0, none⟩)] (w.drewN n) fun e w' => e = .returned (.int .i64 (N : Int)) ∧ w' = w.drewN n := by
  refine (blocks_any base a d D _ (h.drewN n)).mono ?_
  rw [hN]
  rintro e w' ⟨rfl, rfl⟩
  exact ⟨rfl, rfl⟩
set_option maxRecDepth 100000 in
set_option maxHeartbeats 3200000 in
theorem twrite_any (base B a d t N n : Nat) (P : Nat → Option (List UInt8)) (D : Dk) (i : Nat) (A0 : Option Addr) (c0 : Nat) (l : List UInt8) (w : World) (h : TxnAt w B a d t N n P) (hD : DiskAt w base a d D) (hN : D.lasts.length = N) (hi0 : 98 ≤ i) (hi : i < N)
    (h5 : l.length = 512) (hby : Buf w 0 (some a) A0 l) (hBw : B ≤ w.heap.size) (hbB : base ≤ B) (hn : n < 96) :
    Calls Tryd.prog 7 #[.pointer (some ⟨t, 0, none⟩), .int .i64 (i : Int), .slice A0 512 c0] w fun e w' => e = .returned (.int .i64 0) ∧ TxnAt w' B a d t N (n + 1) (fun j => if j = i then some l else P j) ∧ Below B w w' := by
  have hA0 : A0 ≠ none := by
    obtain ⟨bb, off, rfl, _⟩ := hby.bytes.at_ (k := 0) (by omega)
    simp
  have hlN : D.lasts.length ≤ 16384 := hD.1.2.1
  have hN16 : N ≤ 16384 := by omega
  obtain ⟨_, _, hisA⟩ := hD.a_ne
  have HT := Lib.hid h
  obtain ⟨ht, b, Dm, U, un, uc, ucs, hb, hI, hM, hO, hun⟩ := h
  obtain ⟨hb2, j1, j2⟩ := two_new w #[.pointer (some ⟨t, 0, none⟩)] #[.int .i64 (i : Int)] 39 3
  have hIW := hI.below hb2 hI.lt
  have hMW := hM.later hb2
  have hOW := hO.later hb2
  have hDW := hD.later hb2
  have HIW := Lib.hid hIW
  have HMW := Lib.hid hMW
  have HOW := Lib.hid hOW
  have HDW := Lib.hid hDW
  have HJ1 := Lib.hid j1
  have HJ2 := Lib.hid j2
  have HB2 := Lib.hid hb2
  have HNN := Lib.hid hN
  have H5 := Lib.hid h5
  have HBY := Lib.hid (hby.later hb2)
  have c1 : ((w.alloc (.cells #[.pointer (some ⟨t, 0, none⟩)] 39)).alloc (.cells #[.int .i64 (i : Int)] 3)).cell? ⟨t, 1, none⟩ = some (.map (some b)) := hIW.cell 1
  have cb : ((w.alloc (.cells #[.pointer (some ⟨t, 0, none⟩)] 39)).alloc (.cells #[.int .i64 (i : Int)] 3)).cell? ⟨w.heap.size, 0, none⟩ = some (.pointer (some ⟨t, 0, none⟩)) := j1.cell 0
  have ci : ((w.alloc (.cells #[.pointer (some ⟨t, 0, none⟩)] 39)).alloc (.cells #[.int .i64 (i : Int)] 3)).cell? ⟨w.heap.size + 1, 0, none⟩ = some (.int .i64 (i : Int)) := j2.cell 0
  have hsW : ((w.alloc (.cells #[.pointer (some ⟨t, 0, none⟩)] 39)).alloc (.cells #[.int .i64 (i : Int)] 3)).heap.size = w.heap.size + 2 := by rw [World.size_alloc, World.size_alloc]
  have key : ∃ A' n' c' hs, ∀ X, Below (w.heap.size + 2) ((w.alloc (.cells #[.pointer (some ⟨t, 0, none⟩)] 39)).alloc (.cells #[.int .i64 (i : Int)] 3)) X → (Instr.lookup 61 (.map (some b)) (.int .i64 (i : Int)) true).run Tryd.prog X = .ok (.tuple #[.slice A' n' c', .bool hs]) X := by
    have hblt : b < ((w.alloc (.cells #[.pointer (some ⟨t, 0, none⟩)] 39)).alloc (.cells #[.int .i64 (i : Int)] 3)).heap.size := hMW.own.lt
    obtain ⟨v, ps, hr, hv⟩ := (hMW.look i (by omega) _ rfl).1
    have hX : ∀ X, Below (w.heap.size + 2) ((w.alloc (.cells #[.pointer (some ⟨t, 0, none⟩)] 39)).alloc (.cells #[.int .i64 (i : Int)] 3)) X → ∃ v' ps', (Instr.lookup 61 (.map (some b)) (.int .i64 (i : Int)) true).run Tryd.prog X = .ok (.tuple #[v', .bool (Maps.has Dm (keyD i))]) X ∧ RV v' = some (Dm.atKey (keyD i) nilD, ps') := fun X hX => (hMW.look i (by omega) X (hX.block b (by rw [← hsW]; exact hblt))).1
    rcases hMW.val hv with ⟨h1, h2, h3⟩ | ⟨l', g, c, h1, h2, h3, h4, h5'⟩
    · refine ⟨none, 0, 0, Maps.has Dm (keyD i), fun X hb => ?_⟩
      obtain ⟨v', ps', q1, q2⟩ := hX X hb
      rcases hMW.val q2 with ⟨_, _, e⟩ | ⟨_, _, _, e, _⟩
      · rw [e] at q1; exact q1
      · rw [h1] at e; cases e
    · refine ⟨some g, 512, c, Maps.has Dm (keyD i), fun X hb => ?_⟩
      obtain ⟨v', ps', q1, q2⟩ := hX X hb
      have e : v' = v := by
        unfold RV at q2 hv
        injection q2 with q2
        injection hv with hv
        have q3 := (Prod.mk.inj q2).1.trans (Prod.mk.inj hv).1.symm
        injection q3
      rw [e, h4] at q1
      exact q1
  obtain ⟨A', n', c', hs, hlook⟩ := key
  have hr0 := hlook ((w.alloc (.cells #[.pointer (some ⟨t, 0, none⟩)] 39)).alloc (.cells #[.int .i64 (i : Int)] 3)).drew (Below.refl _ _).drew
  have hr1 := fun o => hlook (((w.alloc (.cells #[.pointer (some ⟨t, 0, none⟩)] 39)).alloc (.cells #[.int .i64 (i : Int)] 3)).alloc o).drew (((Below.refl _ _).alloc (Nat.le_of_eq hsW.symm) o).drew)
  have hr2 := fun o1 o2 => hlook ((((w.alloc (.cells #[.pointer (some ⟨t, 0, none⟩)] 39)).alloc (.cells #[.int .i64 (i : Int)] 3)).alloc o1).alloc o2).drew ((((Below.refl _ _).alloc (Nat.le_of_eq hsW.symm) o1).alloc (by rw [World.size_alloc]; omega) o2).drew)
  have c1a := fun o => ((below_new ((w.alloc (.cells #[.pointer (some ⟨t, 0, none⟩)] 39)).alloc (.cells #[.int .i64 (i : Int)] 3)) o).cell (p := ⟨t, 1, none⟩) hIW.lt).trans c1
  have cba := fun o => ((below_new ((w.alloc (.cells #[.pointer (some ⟨t, 0, none⟩)] 39)).alloc (.cells #[.int .i64 (i : Int)] 3)) o).cell (p := ⟨w.heap.size, 0, none⟩) j1.lt).trans cb
  have cia := fun o => ((below_new ((w.alloc (.cells #[.pointer (some ⟨t, 0, none⟩)] 39)).alloc (.cells #[.int .i64 (i : Int)] 3)) o).cell (p := ⟨w.heap.size + 1, 0, none⟩) j2.lt).trans ci
  have c1b := fun o1 o2 => ((below_new (((w.alloc (.cells #[.pointer (some ⟨t, 0, none⟩)] 39)).alloc (.cells #[.int .i64 (i : Int)] 3)).alloc o1) o2).cell (p := ⟨t, 1, none⟩) (by rw [World.size_alloc]; exact Nat.lt_succ_of_lt hIW.lt)).trans (c1a o1)
  have cbb := fun o1 o2 => ((below_new (((w.alloc (.cells #[.pointer (some ⟨t, 0, none⟩)] 39)).alloc (.cells #[.int .i64 (i : Int)] 3)).alloc o1) o2).cell (p := ⟨w.heap.size, 0, none⟩) (by rw [World.size_alloc]; exact Nat.lt_succ_of_lt j1.lt)).trans (cba o1)
  have cib := fun o1 o2 => ((below_new (((w.alloc (.cells #[.pointer (some ⟨t, 0, none⟩)] 39)).alloc (.cells #[.int .i64 (i : Int)] 3)).alloc o1) o2).cell (p := ⟨w.heap.size + 1, 0, none⟩) (by rw [World.size_alloc]; exact Nat.lt_succ_of_lt j2.lt)).trans (cia o1)
  clear hI hM hO hD hIW hMW hOW hDW j1 j2 hb2 hN h5 hby hlook
  go_enter Tryd.func7, Tryd.ntmps7
  go_upto_region 1 with fail
  go_cut [7, 8] from 9 to 17 (fun s7 s8 wx => ∃ p7 b8, s7 = .pointer p7 ∧ s8 = .pointer (some ⟨b8, 0, none⟩) ∧ wx.cell? ⟨b8, 0, none⟩ = some (.bool hs) ∧ Below (w.heap.size + 2) ((w.alloc (.cells #[.pointer (some ⟨t, 0, none⟩)] 39)).alloc (.cells #[.int .i64 (i : Int)] 3)) wx)
  case first =>
    have tn1 := two_new ((w.alloc (.cells #[.pointer (some ⟨t, 0, none⟩)] 39)).alloc (.cells #[.int .i64 (i : Int)] 3)) #[.slice A' n' c'] #[.bool hs] 42 4
    have tn2 := two_new ((w.alloc (.cells #[.pointer (some ⟨t, 0, none⟩)] 39)).alloc (.cells #[.int .i64 (i : Int)] 3)) #[.bool hs] #[.slice A' n' c'] 4 42
    rw [hsW] at tn1 tn2
    have HTN1 := Lib.hid tn1
    have HTN2 := Lib.hid tn2
    clear tn1 tn2
    go_region
    all_goals go_wp2_with fail
    all_goals go_meet
    · exact ⟨_, _, rfl, rfl, HTN1.out.2.2.cell 0, HTN1.out.1.drew⟩
    · exact ⟨_, _, rfl, rfl, HTN2.out.2.1.cell 0, HTN2.out.1.drew⟩
  case rest =>
    obtain ⟨p7, b8, rfl, rfl, cb8, hbx⟩ := hcut
    clear hr0 hr1 hr2 c1a cba cia c1b cbb cib c1 cb ci
    have hbX : Below ((w.alloc (.cells #[.pointer (some ⟨t, 0, none⟩)] 39)).alloc (.cells #[.int .i64 (i : Int)] 3)).heap.size ((w.alloc (.cells #[.pointer (some ⟨t, 0, none⟩)] 39)).alloc (.cells #[.int .i64 (i : Int)] 3)) wc := by rw [hsW]; exact hbx
    have HIc := Lib.hid (HIW.out.below hbX HIW.out.lt)
    have HMc := Lib.hid (HMW.out.later hbX)
    have HOc := Lib.hid (HOW.out.later hbX)
    have HDc := Lib.hid (HDW.out.later hbX)
    have HYc := Lib.hid (HBY.out.later hbX)
    have HJ1c := Lib.hid (HJ1.out.below hbX HJ1.out.lt)
    have HJ2c := Lib.hid (HJ2.out.below hbX HJ2.out.lt)
    have HBc := Lib.hid (HB2.out.trans (hbX.mono (by rw [hsW]; omega)))
    have ct0 : wc.cell? ⟨t, 0, none⟩ = some (.pointer (some ⟨d, 0, none⟩)) := HIc.out.cell 0
    have ct1 : wc.cell? ⟨t, 1, none⟩ = some (.map (some b)) := HIc.out.cell 1
    have ct2 : wc.cell? ⟨t, 2, none⟩ = some (.slice U un uc) := HIc.out.cell 2
    have ct3 : wc.cell? ⟨t, 3, none⟩ = some (.bool false) := HIc.out.cell 3
    have ft2 := HIc.out.free 2
    have cb1 : wc.cell? ⟨w.heap.size, 0, none⟩ = some (.pointer (some ⟨t, 0, none⟩)) := HJ1c.out.cell 0
    have ci1 : wc.cell? ⟨w.heap.size + 1, 0, none⟩ = some (.int .i64 (i : Int)) := HJ2c.out.cell 0
    have hi1 : (98 : Int) ≤ (i : Int) := by omega
    have hi2 : (i : Int) < (N : Int) := by omega
    have hlen := fun ty => (HMc.out.own.len Tryd.underlying61 ty)
    have hsz : (Maps.size Dm : Int) < 96 := by have := HMc.out.own.size_le; omega
    clear hbX hbx
    go_upto_region 4 with fail
    go_quiet (first | (go_at_call 20; refine Calls.quiet_of_same (blocks_q HDc.out HNN.out _)))
    go_upto_region 8 with fail
    go_cut [39] from 18 to 49 (fun s39 wx => s39 = .bool false ∧ wx = wc.drewN nq)
    case first =>
      cases hs
      · have hlen2 : ∀ ty, (Builtin.len_ #[61] ty #[.map (some b)]).run Tryd.prog (wc.drewN nq) = .ok (.int .i64 (Maps.size Dm)) (wc.drewN nq) := fun ty => (World.ownsMap.len (w := wc.drewN nq) HMc.out.own Tryd.underlying61 ty)
        go_wp2_with fail
        go_meet
        exact ⟨by rw [decide_eq_false (by omega)], rfl⟩
      · go_wp2_with fail
        go_meet
        exact ⟨rfl, rfl⟩
    case rest =>
      obtain ⟨rfl, rfl⟩ := hcut
      have hbd := (KT.drewN (a := none) (base := wc.heap.size) (Ts := []) wc nq).below (Nat.le_refl _)
      have HId := Lib.hid (HIc.out.below hbd HIc.out.lt)
      have HMd := Lib.hid (HMc.out.later hbd)
      have HOd := Lib.hid (HOc.out.later hbd)
      have HDd := Lib.hid (HDc.out.later hbd)
      have HYd := Lib.hid (HYc.out.later hbd)
      have HJ1d := Lib.hid (HJ1c.out.below hbd HJ1c.out.lt)
      have HJ2d := Lib.hid (HJ2c.out.below hbd HJ2c.out.lt)
      have HBd := Lib.hid (HBc.out.trans (hbd.mono HBc.out.size))
      clear hbd hlen ct0 ct1 ct2 ct3 ft2 cb1 ci1 cb8
      generalize wc.drewN nq = wd at *
      clear HIc HMc HOc HDc HYc HJ1c HJ2c HBc
      have cb1 : wd.cell? ⟨w.heap.size, 0, none⟩ = some (.pointer (some ⟨t, 0, none⟩)) := HJ1d.out.cell 0
      have ct2 : wd.cell? ⟨t, 2, none⟩ = some (.slice U un uc) := HId.out.cell 2
      have ft2 := HId.out.free 2
      have hBd := HBd.out.size
      go_upto_region 10 with fail
      go_cut [] from 50 to 59 (fun wx => ∃ U2 uc2 ucs2, Is wx t 64 #[.pointer (some ⟨d, 0, none⟩), .map (some b), .slice U2 (un + 1) uc2, .bool false] ∧ Own wx B 1 1 U2 (un + 1) uc2 ucs2 ∧ KT (some t) B [1] wd wx)
      case first =>
        obtain ⟨i1, hi1', hy0, hy1, hy2⟩ := info_parts infoFu
        have HI1' := Lib.hid hi1'
        have HY0 := Lib.hid hy0
        have HY1 := Lib.hid hy1
        have HY2 := Lib.hid hy2
        have HDT := Lib.hid (show some t ≠ (Value.slice U un uc).ownBlock from fun e => by
          rcases HOd.out.shape with h0 | ⟨g, h0⟩
          · rw [h0] at e; cases e
          · obtain ⟨_, cur, hi5⟩ := HOd.out.typed g h0
            rw [h0] at e
            injection e with e
            exact is_ne hi5 HId.out (by decide) (show g = t from e.symm))
        have HBT := Lib.hid (show some w.heap.size ≠ (Value.slice U un uc).ownBlock from fun e => by
          rcases HOd.out.shape with h0 | ⟨g, h0⟩
          · rw [h0] at e; cases e
          · obtain ⟨_, cur, hi5⟩ := HOd.out.typed g h0
            rw [h0] at e
            injection e with e
            exact is_ne hi5 HJ1d.out (by decide) (show g = w.heap.size from e.symm))
        have htn : un ≤ 1000 := by omega
        have hb3 := below_new wd (.cells #[(.func (.func 21) #[] #[.pointer (some ⟨b8, 0, none⟩), .pointer p7, .pointer (some ⟨w.heap.size, 0, none⟩), .pointer (some ⟨w.heap.size + 1, 0, none⟩)])] 1)
        have c76 : (wd.alloc (.cells #[(.func (.func 21) #[] #[.pointer (some ⟨b8, 0, none⟩), .pointer p7, .pointer (some ⟨w.heap.size, 0, none⟩), .pointer (some ⟨w.heap.size + 1, 0, none⟩)])] 1)).cell? ⟨t, 2, none⟩ = some (.slice U un uc) := (hb3.cell (p := ⟨t, 2, none⟩) HId.out.lt).trans ct2
        have cb6 : (wd.alloc (.cells #[(.func (.func 21) #[] #[.pointer (some ⟨b8, 0, none⟩), .pointer p7, .pointer (some ⟨w.heap.size, 0, none⟩), .pointer (some ⟨w.heap.size + 1, 0, none⟩)])] 1)).cell? ⟨w.heap.size, 0, none⟩ = some (.pointer (some ⟨t, 0, none⟩)) := (hb3.cell (p := ⟨w.heap.size, 0, none⟩) HJ1d.out.lt).trans cb1
        have HOA := Lib.hid (HOd.out.later hb3)
        have HB3 := Lib.hid hb3
        clear hi1' hy0 hy1 hy2 hb3
        go_region_law (
             refine step_append_lies _ (by rfl) _ _ _ (by rfl) B 1 i1 .nilFunc 1 8 Tryd.underlying62 HI1'.out HY0.out HY1.out HY2.out rfl (by decide) (.slice U un uc) un ucs (by simp [Act.eval, Act.put]) (show World.ownsRow (wd.alloc (.cells #[(.func (.func 21) #[] #[.pointer (some ⟨b8, 0, none⟩), .pointer p7, .pointer (some ⟨w.heap.size, 0, none⟩), .pointer (some ⟨w.heap.size + 1, 0, none⟩)])] 1)).drew B 1 1 (.slice U un uc) un ucs from HOA.out) ⟨wd.heap.size, 0, none⟩ 1 1 [(.func (.func 21) #[] #[.pointer (some ⟨b8, 0, none⟩), .pointer p7, .pointer (some ⟨w.heap.size, 0, none⟩), .pointer (some ⟨w.heap.size + 1, 0, none⟩)])] (by simp [Act.eval, Act.put]) (by rfl) (by have := World.news_of_block (w := (wd.alloc (.cells #[(.func (.func 21) #[] #[.pointer (some ⟨b8, 0, none⟩), .pointer p7, .pointer (some ⟨w.heap.size, 0, none⟩), .pointer (some ⟨w.heap.size + 1, 0, none⟩)])] 1))) (B := wd.heap.size) (cs := #[(.func (.func 21) #[] #[.pointer (some ⟨b8, 0, none⟩), .pointer p7, .pointer (some ⟨w.heap.size, 0, none⟩), .pointer (some ⟨w.heap.size + 1, 0, none⟩)])]) (t := 1) (fr := (0, 0)) (heap_alloc_new wd _); exact this) (by simp [Value.oneCell']) (by omega) (by simp only [maxLen]; omega) (by omega) (by simp; omega) (wd.heap.size + 1) (by simp) ?_
             intro gg cap2 w1 hown1 hgrow hat hlt
             have hdl : t < (wd.alloc (.cells #[(.func (.func 21) #[] #[.pointer (some ⟨b8, 0, none⟩), .pointer p7, .pointer (some ⟨w.heap.size, 0, none⟩), .pointer (some ⟨w.heap.size + 1, 0, none⟩)])] 1)).heap.size := by rw [World.size_alloc]; have q : t < wd.heap.size := HId.out.lt; omega
             have hbl : w.heap.size < (wd.alloc (.cells #[(.func (.func 21) #[] #[.pointer (some ⟨b8, 0, none⟩), .pointer p7, .pointer (some ⟨w.heap.size, 0, none⟩), .pointer (some ⟨w.heap.size + 1, 0, none⟩)])] 1)).heap.size := by rw [World.size_alloc]; have q : w.heap.size < wd.heap.size := HJ1d.out.lt; omega
             have c1' : w1.cell? ⟨t, 2, none⟩ = some (.slice U un uc) := (hgrow.cell_far ⟨t, 2, none⟩ hdl HDT.out).trans c76
             have cb' : w1.cell? ⟨w.heap.size, 0, none⟩ = some (.pointer (some ⟨t, 0, none⟩)) := (hgrow.cell_far ⟨w.heap.size, 0, none⟩ hbl HBT.out).trans cb6
             have f1' : w1.frozen? ⟨t, 2, none⟩ = false := (hgrow.frozen_far ⟨t, 2, none⟩ hdl HDT.out).trans ((HB3.out.frozen (p := ⟨t, 2, none⟩) HId.out.lt).trans ft2))
        all_goals (have hgrow' : World.grownBy (wd.alloc (.cells #[(.func (.func 21) #[] #[.pointer (some ⟨b8, 0, none⟩), .pointer p7, .pointer (some ⟨w.heap.size, 0, none⟩), .pointer (some ⟨w.heap.size + 1, 0, none⟩)])] 1)).drew w1 (Value.slice U un uc).ownBlock := hgrow)
        all_goals (have kn : KT none B [1] (wd.alloc (.cells #[(.func (.func 21) #[] #[.pointer (some ⟨b8, 0, none⟩), .pointer p7, .pointer (some ⟨w.heap.size, 0, none⟩), .pointer (some ⟨w.heap.size + 1, 0, none⟩)])] 1)).drew w1 := KT.of_grown (show Own (wd.alloc (.cells #[(.func (.func 21) #[] #[.pointer (some ⟨b8, 0, none⟩), .pointer p7, .pointer (some ⟨w.heap.size, 0, none⟩), .pointer (some ⟨w.heap.size + 1, 0, none⟩)])] 1)).drew B 1 1 U un uc ucs from HOA.out) (Nat.le_refl _) (by simp) hgrow')
        all_goals (have kd : KT none B [1] wd w1 := (KT.of_below HB3.out.drew (Nat.le_refl _)).trans kn)
        all_goals (have hI1 := HId.out.kt0 kd (by simp))
        all_goals go_wp2_with fail
        all_goals go_meet
        all_goals exact ⟨some ⟨gg, 0, none⟩, cap2, _, hI1.put 2 _, (show Own w1 B 1 1 _ _ cap2 _ from hown1).kept (fun g hg => heap_setCell_other w1 ⟨t, 2, none⟩ g _ (fun e => by
            obtain ⟨_, cur, hi⟩ := (show Own w1 B 1 1 _ _ cap2 _ from hown1).typed g hg
            exact is_ne hi hI1 (by decide) (show g = t from e))), kd.weaken.trans (KT.setCell hI1 ht (.inl rfl) _)⟩
      case rest =>
        obtain ⟨U2, uc2, ucs2, hI2, hO2, hk2⟩ := hcut
        have HIe := Lib.hid hI2
        have HOe := Lib.hid hO2
        have HMe := Lib.hid (HMd.out.ktT hk2 HId.out (by simp) (by simp))
        have HDe := Lib.hid (HDd.out.ktT HId.out hk2 hbB)
        have HYe := Lib.hid (show Buf wc 0 (some a) A0 l from HYd.out.kt2 hk2 (Nat.zero_le _) (by simp) (by simp) (fun g e => by
          injection e with e
          subst e
          refine ⟨Nat.zero_le _, fun ⟨cs', u, f, r1, r2⟩ => ?_⟩
          rw [show wd.heap[t]? = _ from HId.out] at r1
          injection r1 with r1
          injection r1 with _ r1
          subst r1
          simp at r2))
        have HBe := Lib.hid (show Below B w wc from (HBd.out.mono hBw).trans (hk2.below (by omega)))
        have hsz := hk2.size
        have j1e := HJ1d.out.kt hk2 (.inr ⟨fun e => by injection e with e; exact is_ne HJ1d.out HId.out (by decide) e, by simp⟩)
        have j2e := HJ2d.out.kt hk2 (.inr ⟨fun e => by injection e with e; exact is_ne HJ2d.out HId.out (by decide) e, by simp⟩)
        have ct1 : wc.cell? ⟨t, 1, none⟩ = some (.map (some b)) := hI2.cell 1
        have cb2 : wc.cell? ⟨w.heap.size, 0, none⟩ = some (.pointer (some ⟨t, 0, none⟩)) := j1e.cell 0
        have ci2 : wc.cell? ⟨w.heap.size + 1, 0, none⟩ = some (.int .i64 (i : Int)) := j2e.cell 0
        have HJ1e := Lib.hid j1e
        have HJ2e := Lib.hid j2e
        clear hI2 hO2 hk2 j1e j2e cb1 ct2 ft2
        go_upto_region 11 with fail
        go_cut [] from 60 to 66 (fun wx => TxnAt wx B a d t N (n + 1) (fun j => if j = i then some l else P j) ∧ Below B wc wx)
        case first =>
          go_region_law (
               go_simp
               go_at_call 22
               refine (clone8_any A0 512 c0 l H5.out _ (by exact HYe.out.bytes) (fun e => absurd e hA0) hA0 (by decide)).mono ?_
               rintro e w5 ⟨⟨A5, c5, rfl, hM5⟩, hb5'⟩
               have hbc5 : Below wc.heap.size wc w5 := ⟨hb5'.os, hb5'.tape, hb5'.output, hb5'.size, hb5'.block⟩
               obtain ⟨g5, rfl, _, _⟩ := hM5.form (by have := H5.out; omega)
               have ct15 : w5.cell? ⟨t, 1, none⟩ = some (.map (some b)) := (hbc5.cell (p := ⟨t, 1, none⟩) HIe.out.lt).trans ct1
               have cb25 : w5.cell? ⟨w.heap.size, 0, none⟩ = some (.pointer (some ⟨t, 0, none⟩)) := (hbc5.cell (p := ⟨w.heap.size, 0, none⟩) HJ1e.out.lt).trans cb2
               have ci25 : w5.cell? ⟨w.heap.size + 1, 0, none⟩ = some (.int .i64 (i : Int)) := (hbc5.cell (p := ⟨w.heap.size + 1, 0, none⟩) HJ2e.out.lt).trans ci2
               obtain ⟨w6, hrun6, hown6, hturn6⟩ := (HMe.out.later hbc5).own.store (int_keyed Tryd.underlying3) Tryd.underlying61 (by simp only [maxLen]; omega) (key := .int .i64 (i : Int)) (val := .slice (some ⟨g5, 0, none⟩) 512 c5) (kl := keyD i) (d := .held (.slice (some ⟨g5, 0, none⟩) 512 c5)) (ps := []) (keyOf_int_mk Tryd.underlying3 (wf_i64 _ (by omega) (by omega))) rfl)
          all_goals (have hMap := ownsMap_isMap (HMe.out.later hbc5).own)
          all_goals (obtain ⟨es5, cl5, hmap5⟩ := hMap)
          all_goals (have kM := KT.of_map hturn6.grown hb)
          all_goals (have hI5 := HIe.out.below hbc5 HIe.out.lt)
          all_goals (have hI6 := hI5.kt kM (.inr ⟨fun e => by injection e with e; exact not_map hI5 hmap5 e, by simp⟩))
          all_goals (have hO6 := (HOe.out.later hbc5).kt kM (by simp) (fun g hg e => by
            obtain ⟨_, cur, hi⟩ := (HOe.out.later hbc5).typed g hg
            injection e with e
            exact not_map hi hmap5 e))
          all_goals (have hM6 := (HMe.out.later hbc5).store hi0 hi H5.out hown6 hturn6.grown (Buf.of_mine hM5 (by obtain ⟨_, _, cur, hi⟩ := (HDe.out.later hbc5).a_ne; exact ⟨cur, hi⟩)))
          all_goals (have hfin : TxnAt w6 B a d t N (n + 1) (fun j => if j = i then some l else P j) := ⟨ht, b, _, U2, un + 1, uc2, ucs2, hb, hI6, hM6, hO6, by omega⟩)
          all_goals (have hBfin : Below B wc w6 := (hbc5.mono (by omega)).trans (kM.below (by have := hbc5.size; omega)))
          all_goals go_wp2_with fail
          all_goals go_meet
          all_goals exact ⟨hfin, hBfin⟩
        case rest =>
          obtain ⟨hT, hB⟩ := hcut
          go_wp2_with fail
          go_ret
          exact ⟨rfl, hT, HBe.out.trans hB⟩
end Go.Proofs.YtimddchgmocdaaaDoor
