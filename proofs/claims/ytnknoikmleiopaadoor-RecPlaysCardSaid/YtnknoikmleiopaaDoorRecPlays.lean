/-
  THE WALK OF RecPlays: every answer of every row of calls on any bytes, all bytes behind each call.
-/
import Derived.Test.YtnknoikmleiopaaDoorRecCuts
import Derived.Test.YtnknoikmleiopaaDoorRecArgs
import Derived.Test.YtnknoikmleiopaaDoorStrs
set_option linter.unusedVariables false
set_option linter.unusedSimpArgs false
namespace Go.Proofs.YtnknoikmleiopaaDoor
open Go.RowKit Rec

def marks3 : List UInt8 := [77, 78, 79]
theorem marks_cells : #[Value.int .u8 77, .int .u8 78, .int .u8 79] = u8s marks3 := by rfl
theorem n8_flip (x : UInt8) : IntKind.u8.wrap (255 - n8 x) = n8 (255 - x) := by
  have h := x.toNat_lt
  unfold n8
  rw [UInt8.toNat_sub]
  show (255 - (x.toNat : Int)) % 256 = _
  have e : (255 : UInt8).toNat = 255 := rfl
  rw [e]
  omega
/-- the row, its reference, the texts and what they were -/
def Four (w0 w : World) (base n : Nat) (A : Option Addr) (ca : Nat) (B : Option Addr) (cb : Nat) (L : List UInt8) (T : Option Addr) (ct : Nat) (U : Option Addr) (cu : Nat) (ts : List (List UInt8)) : Prop :=
  Mine w base A ca (L ++ marks3) ∧ Mine w base B cb (L ++ []) ∧ Apart A B ∧ Strs w base T ct ts ∧ Strs w base U cu ts ∧ Apart T U ∧ L.length = n ∧ Below base w0 w
theorem of2_apart {A B C : Option Addr} (h1 : Apart A C) (h2 : Apart B C) (i : Nat) (hc : Of C i) : ¬ Of2 A B i := by
  rintro (h | h)
  · exact h1 i h hc
  · exact h2 i h hc
theorem same_eq2 (A B : Option Addr) (ca cb : Nat) (l : List UInt8) (len : Nat) (hlen : l.length = len) (w : World) (hl : Bytes w A l) (hm : Bytes w B l) (hs : len ≤ 140737488355328 + 64) :
    Calls Tryd.prog 9 #[.slice A len ca, .slice B len cb] w fun e w' => e = .returned (.bool true) ∧ Below w.heap.size w w' := same_eq A B ca cb l len hlen w hl hm hs
theorem Four.later {w0 w w2 : World} {base n ca cb ct cu : Nat} {A B T U : Option Addr} {L : List UInt8} {ts : List (List UInt8)} (h : Four w0 w base n A ca B cb L T ct U cu ts) (hb : Below w.heap.size w w2) (hbs : base ≤ w.heap.size) : Four w0 w2 base n A ca B cb L T ct U cu ts :=
  ⟨h.1.later hb, h.2.1.later hb, h.2.2.1, h.2.2.2.1.later hb, h.2.2.2.2.1.later hb, h.2.2.2.2.2.1, h.2.2.2.2.2.2.1, h.2.2.2.2.2.2.2.trans (hb.mono hbs)⟩
theorem Four.size {w0 w : World} {base n ca cb ct cu : Nat} {A B T U : Option Addr} {L : List UInt8} {ts : List (List UInt8)} (h : Four w0 w base n A ca B cb L T ct U cu ts) (hb : base ≤ w0.heap.size) : base ≤ w.heap.size := Nat.le_trans hb h.2.2.2.2.2.2.2.size
theorem Four.played {w0 w w2 : World} {base n ca cb ct cu : Nat} {A B T U : Option Addr} {L L2 : List UInt8} {ts : List (List UInt8)} (h : Four w0 w base n A ca B cb L T ct U cu ts) (hk : Keeps (Of2 A B) w w2) (hbs : base ≤ w.heap.size)
    (hA : Mine w2 base A ca (L2 ++ marks3)) (hB : Mine w2 base B cb (L2 ++ [])) (hL : L2.length = L.length) : Four w0 w2 base n A ca B cb L2 T ct U cu ts := by
  obtain ⟨a1, a2, a3, a4, a5, a6, a7, a8⟩ := h
  refine ⟨hA, hB, a3, a4.keeps hk (of2_apart (a4.apart a1) (a4.apart a2)), a5.keeps hk (of2_apart (a5.apart a1) (a5.apart a2)), a6, by rw [hL, a7], a8.trans (hk.below hbs ?_)⟩
  rintro i (h | h)
  · exact a1.ge i h
  · exact a2.ge i h
theorem Four.texts {w0 w w2 w3 : World} {base n ca cb ct cu ct' cu' : Nat} {A B T U T' U' : Option Addr} {L : List UInt8} {ts : List (List UInt8)} {s : List UInt8} (h : Four w0 w base n A ca B cb L T ct U cu ts) (hbs : base ≤ w.heap.size)
    (h1 : Strs w2 base T' ct' (ts ++ [s])) (k1 : Keeps (Of T) w w2) (g1 : ∀ i, Of T' i → Of T i ∨ i = w.heap.size)
    (wm : World) (hm : Below w2.heap.size w2 wm) (h2 : Strs w3 base U' cu' (ts ++ [s])) (k2 : Keeps (Of U) wm w3) (g2 : ∀ i, Of U' i → Of U i ∨ i = wm.heap.size) :
    Four w0 w3 base n A ca B cb L T' ct' U' cu' (ts ++ [s]) := by
  obtain ⟨a1, a2, a3, a4, a5, a6, a7, a8⟩ := h
  have b1 : Mine w2 base A ca (L ++ marks3) := a1.keeps_of k1 (a4.apart a1)
  have b2 : Mine w2 base B cb (L ++ []) := a2.keeps_of k1 (a4.apart a2)
  have b5 : Strs w2 base U cu ts := a5.keeps k1 fun i hu ht => a6 i ht hu
  have ap : Apart T' U := apart_grow a6 (fun i hu => a5.lt i hu) g1
  have c1 := b1.later hm
  have c2 := b2.later hm
  have c4 := h1.later hm
  have c5 := b5.later hm
  have d4 : Strs w3 base T' ct' (ts ++ [s]) := c4.keeps k2 fun i ht hu => ap i ht hu
  have ap2 : Apart U' T' := apart_grow ap.symm (fun i ht => c4.lt i ht) g2
  have e1 : base ≤ w2.heap.size := Nat.le_trans hbs k1.size
  have e2 : base ≤ wm.heap.size := Nat.le_trans e1 hm.size
  exact ⟨c1.keeps_of k2 (c5.apart c1), c2.keeps_of k2 (c5.apart c2), a3, d4, h2, ap2.symm, a7,
    ((a8.trans (k1.below hbs fun i hi => a4.ge i hi)).trans (hm.mono e1)).trans (k2.below e2 fun i hi => c5.ge i hi)⟩

theorem apart_none (B : Option Addr) : Apart none B := fun i h => by unfold Of at h; cases h
theorem plays_eq (base : Nat) (A B : Option Addr) (ca cb : Nat) (l m1 m2 : List UInt8) (len : Nat) (hl : l.length = len) (q : Play) (w : World) (hw : WidthsAt w) (hA : Mine w base A ca (l ++ m1)) (hB : Mine w base B cb (l ++ m2)) (hab : Apart A B)
    (hgw : 0 < base) (hbw : base ≤ w.heap.size) (hm : len ≤ 140737488355328) (hq : q.Ok) :
    Calls Tryd.prog 8 #[.slice A len ca, .slice B len cb, .agg q.cells] w fun e w' => e = .returned (.bool true) ∧ Mine w' base A ca (q.next l ++ m1) ∧ Mine w' base B cb (q.next l ++ m2) ∧ Keeps (Of2 A B) w w' := by
  subst hl
  exact plays_any base A B ca cb l m1 m2 q w hw hA hB hab hgw hbw hm hq
theorem text_eq (A : Option Addr) (cap : Nat) (l : List UInt8) (len : Nat) (hl : l.length = len) (at_ n : Int) (w : World) (hb : Bytes w A l) (hcl : len ≤ cap) (hm : len ≤ 140737488355328) (h0 : -9223372036854775808 ≤ at_) (h1 : at_ ≤ 9223372036854775807) :
    Calls Tryd.prog 10 #[.slice A len cap, .int .i64 at_, .int .i64 n] w fun e w' => e = .returned (.tuple #[.string ⟨(textV l at_ n).toArray⟩, .int .i64 (textE l at_ n)]) ∧ Below w.heap.size w w' := by
  subst hl
  exact text_any A cap l at_ n w hb hcl hm h0 h1
theorem ref_text_eq (A : Option Addr) (cap : Nat) (l : List UInt8) (len : Nat) (hl : l.length = len) (at_ n : Int) (w : World) (hb : Bytes w A l) (hcl : len ≤ cap) (hm : len ≤ 140737488355328) (h0 : -9223372036854775808 ≤ at_) (h1 : at_ ≤ 9223372036854775807) :
    Calls Tryd.prog 11 #[.slice A len cap, .int .i64 at_, .int .i64 n] w fun e w' => e = .returned (.tuple #[.string ⟨(textV l at_ n).toArray⟩, .int .i64 (textE l at_ n)]) ∧ w = w' := by
  subst hl
  exact ref_text_any A cap l at_ n w hb hcl hm h0 h1
theorem marks_at {w : World} {base g c n : Nat} {L : List UInt8} (h : Mine w base (some ⟨g, 0, none⟩) c (L ++ marks3)) (hL : L.length = n) :
    w.cell? ⟨g, n, none⟩ = some (.int .u8 77) ∧ w.cell? ⟨g, n + 1, none⟩ = some (.int .u8 78) ∧ w.cell? ⟨g, n + 2, none⟩ = some (.int .u8 79) := by
  subst hL
  have h0 := h.cell (k := L.length) (by simp [marks3])
  have h1 := h.cell (k := L.length + 1) (by simp [marks3])
  have h2 := h.cell (k := L.length + 2) (by simp [marks3])
  simp [marks3] at h0 h1 h2
  exact ⟨h0, h1, h2⟩
theorem Strs.drewN {w : World} {base cap : Nat} {A : Option Addr} {ts : List (List UInt8)} (h : Strs w base A cap ts) (n : Nat) : Strs (w.drewN n) base A cap ts := h
theorem Four.box {w0 w : World} {base n ca cb ct cu : Nat} {A B T U : Option Addr} {L : List UInt8} {ts : List (List UInt8)} (h : Four w0 w base n A ca B cb L T ct U cu ts) : ¬ Of2 A B w.heap.size := by
  rintro (h1 | h1)
  · have := h.1.lt _ h1; omega
  · have := h.2.1.lt _ h1; omega

set_option maxRecDepth 100000 in
set_option maxHeartbeats 3200000 in
theorem plays_all (A0 : Option Addr) (ca0 : Nat) (l : List UInt8) (P : Option Addr) (cp : Nat) (qs : List Play) (w : World) (hw : WidthsAt w) (hA : Bytes w A0 l) (hC : A0 = none → ca0 = 0) (hm : l.length + 3 ≤ 140737488355328)
    (hP : Plays w P qs) (hq : qs.length * 48 ≤ 140737488351232) :
    Calls Tryd.prog 3 #[.slice A0 l.length ca0, .slice P qs.length cp] w fun e w' => e = .returned (.bool true) ∧ Below w.heap.size w w' := by
  have hgw := hw.lt
  have HW := Lib.hid hw
  have HA := Lib.hid hA
  have HC := Lib.hid hC
  have HP := Lib.hid hP
  clear hw hA hC hP
  go_enter Tryd.func3, Tryd.ntmps3
  go_wp2_with (first
    | (go_at_call 7; refine (fixed_any _ HW.out).mono ?_; rintro e w1 ⟨rfl, hb1⟩; have hs1 := hb1.size; have HB1 := Lib.hid hb1)
    | (at_builtin; refine wpList_append_u8 rfl (.tmp 20) (.tmp 21) rfl w.heap.size (some ⟨w1.heap.size, 0, none⟩) 0 [] rfl (Mine.empty w1 hs1) A0 ca0 l rfl HC.out ((HA.out.later HB1.out).later (below_new w1 _)) (by simp; omega) (by simp; omega) ?_; intro A2 c2 w2 hm2 hg2 hb2; have HM2 := Lib.hid (show Mine w2 w.heap.size A2 c2 l from hm2); have HB2 := Lib.hid (HB1.out.trans (((below_new w1 (.cells #[] 5)).mono hs1).trans hb2)); have hs2 := HB2.out.size)
    | (at_builtin; refine wpList_append_u8 rfl (.tmp 22) (.tmp 23) rfl w.heap.size A2 c2 l rfl (HM2.out.later (below_new w2 _)) (some ⟨w2.heap.size, 0, none⟩) 3 marks3 rfl (by simp) (bytes_new w2 _ _ marks3) (by show l.length + 3 ≤ _; omega) (by simp; omega) ?_; intro A4 c4 w4 hm4 hg4 hb4; have HB4 := Lib.hid (HB2.out.trans (((below_new w2 (.cells (u8s marks3) 5)).mono hs2).trans hb4)); have hs4 := HB4.out.size; obtain ⟨g, hA4, hge, hlt⟩ := hm4.form (by simp [marks3]); subst hA4; have hcl : l.length ≤ c4 := (by have := hm4.cap_le.1; simp at this; omega); have HM4 := Lib.hid hm4)
    | (at_builtin; refine wpList_append_u8 rfl (.tmp 29) (.tmp 30) rfl w4.heap.size (some ⟨w4.heap.size, 0, none⟩) 0 [] rfl (Mine.empty w4 (Nat.le_refl _)) A0 ca0 l rfl HC.out ((HA.out.later HB4.out).later (below_new w4 _)) (by simp; omega) (by simp) ?_; intro A5 c5 w5 hm5 hg5 hb5; have HM5 := Lib.hid (show Mine w5 w4.heap.size A5 c5 l from hm5); have HB45 := Lib.hid ((below_new w4 (.cells #[] 5)).trans hb5); have HB5 := Lib.hid (HB4.out.trans (HB45.out.mono hs4)); have HM45 := Lib.hid (HM4.out.later HB45.out)))
  have hF : Four w w5 w.heap.size l.length (some ⟨g, 0, none⟩) c4 A5 c5 l none 0 none 0 [] :=
    ⟨HM45.out, by rw [List.append_nil]; exact HM5.out.base_le hs4, apart_new HM4.out.lt HM5.out.of_ge, Strs.nil _ _, Strs.nil _ _, apart_none _, rfl, HB5.out⟩
  clear HB1 HM2 HB2 HB4 HM4 HM5 HB45 HB5 HM45 hb1 hb2 hm2 hm4 hm5 hb4 hb5 hs1 hs2 hs4 hg2 hg4 hg5
  go_loopw [8, 9, 10] (fun T U i wr => ∃ (k : Nat) (L : List UInt8) (a : Option Addr) (ct : Nat) (b : Option Addr) (cu : Nat) (ts : List (List UInt8)), k ≤ qs.length ∧ i = .int .i64 k ∧ T = .slice a ts.length ct ∧ U = .slice b ts.length cu ∧ ts.length ≤ k ∧ Four w wr w.heap.size l.length (some ⟨g, 0, none⟩) c4 A5 c5 L a ct b cu ts) (fun _ _ i _ => qs.length - (intOf i).toNat)
  case atStart => exact ⟨0, l, none, 0, none, 0, [], Nat.zero_le _, rfl, rfl, rfl, Nat.zero_le _, hF⟩
  case round =>
    obtain ⟨k, L, a, ct, b, cu, ts, hk, rfl, rfl, rfl, htk, hI⟩ := hrel
    have hsz := hI.size (Nat.le_refl _)
    have HI := Lib.hid hI
    by_cases hlt : k < qs.length
    · obtain ⟨b0, off, rfl, hc, hok⟩ := (HP.out.later HI.out.2.2.2.2.2.2.2).at_ hlt
      generalize qs[k] = q at hc hok
      have HOK := Lib.hid hok
      have hq2 := hok.2.2.1
      have hq3 := hok.2.2.2.1
      have hd : (k : Int) < (qs.length : Int) := by omega
      have c0 : wr.cell? ⟨b0, off + k * 5, none⟩ = some (.int .i64 q.kind) := hc 0 _ rfl
      have c1 : wr.cell? ⟨b0, off + k * 5 + 1, none⟩ = some (.int .i64 q.at_) := hc 1 _ rfl
      have c2 : wr.cell? ⟨b0, off + k * 5 + 2, none⟩ = some (.int .i64 q.n) := hc 2 _ rfl
      have c3 : wr.cell? ⟨b0, off + k * 5 + 3, none⟩ = some (.int .u64 (q.v : Int)) := hc 3 _ rfl
      have c4' : wr.cell? ⟨b0, off + k * 5 + 4, none⟩ = some (.string ⟨q.s.toArray⟩) := hc 4 _ rfl
      obtain ⟨hn, hbx⟩ := one_new wr q.cells 28
      have HI1 := Lib.hid (hI.later hn hsz)
      have HBX := Lib.hid hbx
      have hsz1 := Nat.le_trans hsz hn.size
      have HNB := Lib.hid hI.box
      have hnl : (q.next L).length = L.length := q.next_length L
      have HNL := Lib.hid (hnl.trans hI.2.2.2.2.2.2.1)
      have HLL := Lib.hid hI.2.2.2.2.2.2.1
      clear hok hc hn hbx hI hnl
      by_cases e2 : q.kind = 2
      · have HE2 := Lib.hid e2
        clear e2
        go_wp2_with (first
          | (go_at_call 8; refine (plays_eq w.heap.size (some ⟨g, 0, none⟩) A5 c4 c5 L marks3 [] l.length HLL.out q _ (HW.out.below HI1.out.2.2.2.2.2.2.2 hgw) HI1.out.1 HI1.out.2.1 HI1.out.2.2.1 hgw hsz1 (by omega) HOK.out).mono ?_; rintro e w6 ⟨rfl, hm6, hn6, hk6⟩; have HI6 := Lib.hid (HI1.out.played hk6 hsz1 hm6 hn6 (Play.next_length _ _)); have HBX6 := Lib.hid (HBX.out.keeps hk6 HNB.out); have hsz6 := Nat.le_trans hsz1 hk6.size)
          | (go_at_call 9; refine (same_eq (some ⟨g, 0, none⟩) A5 c4 c5 (q.next L) l.length HNL.out _ HI6.out.1.head HI6.out.2.1.head (by omega)).mono ?_; rintro e w7 ⟨rfl, hb7⟩; have HI7 := Lib.hid (HI6.out.later hb7 hsz6); have HBX7 := Lib.hid (HBX6.out.below hb7 HBX6.out.lt); have hsz7 := Nat.le_trans hsz6 hb7.size; obtain ⟨j0, j1, j2, j3, j4⟩ := playAt HBX7.out; rw [HE2.out] at j0)
          | (go_at_call 10; refine (text_eq (some ⟨g, 0, none⟩) c4 (q.next L) l.length HNL.out q.at_ q.n _ HI7.out.1.head hcl (by omega) hq2 hq3).mono ?_; rintro e w8 ⟨rfl, hb8⟩; have HI8 := Lib.hid (HI7.out.later hb8 hsz7); have HBX8 := Lib.hid (HBX7.out.below hb8 HBX7.out.lt); have hsz8 := Nat.le_trans hsz7 hb8.size; obtain ⟨i0, i1, i2, i3, i4⟩ := playAt HBX8.out)
          | (go_at_call 11; refine (ref_text_eq A5 c5 (q.next L) l.length HNL.out q.at_ q.n _ HI8.out.2.1.head (by have h := HI8.out.2.1.head_cap; rw [HNL.out] at h; exact h) (by omega) hq2 hq3).mono ?_; rintro e w' ⟨rfl, rfl⟩; generalize textV (q.next L) q.at_ q.n = s)
          | (at_builtin; refine wpList_append_str rfl (.tmp 74) (.tmp 76) rfl w.heap.size a ct ts rfl (HI8.out.later (below_new w8 _) hsz8).2.2.2.1 w8.heap.size _ s rfl ((one_new w8 #[.string ⟨s.toArray⟩] 9).2.cell 0) (by omega) (by simp; omega) ?_; intro T' ct' w9 hS9 hk9 hg9; have HI8b := Lib.hid (HI8.out.later (below_new w8 (.cells #[.string ⟨s.toArray⟩] 9)) hsz8); have hsz8b := Nat.le_trans hsz8 (below_new w8 (.cells #[.string ⟨s.toArray⟩] 9)).size; have HS9 := Lib.hid hS9; have HK9 := Lib.hid hk9; have HG9 := Lib.hid hg9; have HU9 := Lib.hid (HI8b.out.2.2.2.2.1.keeps hk9 fun i hu ht => HI8b.out.2.2.2.2.2.1 i ht hu); have hsz9 := Nat.le_trans hsz8b hk9.size; have hbn9 := below_new w9 (.cells #[.string ⟨s.toArray⟩] 9))
          | (at_builtin; refine wpList_append_str rfl (.tmp 78) (.tmp 80) rfl w.heap.size b cu ts rfl (HU9.out.later hbn9) w9.heap.size _ s rfl ((one_new w9 #[.string ⟨s.toArray⟩] 9).2.cell 0) (by omega) (by simp; omega) ?_; intro U' cu' w10 hS10 hk10 hg10; have HI10 := Lib.hid (HI8b.out.texts hsz8b HS9.out HK9.out HG9.out _ hbn9 hS10 hk10 hg10)))
        go_roundw
        case rel => exact ⟨k + 1, q.next L, T', ct', U', cu', ts ++ [s], by omega, by go_num, by simp, by simp, by simp; omega, HI10.out⟩
        case measure => simp [intOf]; omega
      · have b2 : (q.kind == 2) = false := by simpa using e2
        clear e2
        go_wp2_with (first
          | (go_at_call 8; refine (plays_eq w.heap.size (some ⟨g, 0, none⟩) A5 c4 c5 L marks3 [] l.length HLL.out q _ (HW.out.below HI1.out.2.2.2.2.2.2.2 hgw) HI1.out.1 HI1.out.2.1 HI1.out.2.2.1 hgw hsz1 (by omega) HOK.out).mono ?_; rintro e w6 ⟨rfl, hm6, hn6, hk6⟩; have HI6 := Lib.hid (HI1.out.played hk6 hsz1 hm6 hn6 (Play.next_length _ _)); have HBX6 := Lib.hid (HBX.out.keeps hk6 HNB.out); have hsz6 := Nat.le_trans hsz1 hk6.size)
          | (go_at_call 9; refine (same_eq (some ⟨g, 0, none⟩) A5 c4 c5 (q.next L) l.length HNL.out _ HI6.out.1.head HI6.out.2.1.head (by omega)).mono ?_; rintro e w7 ⟨rfl, hb7⟩; have HI7 := Lib.hid (HI6.out.later hb7 hsz6); have HBX7 := Lib.hid (HBX6.out.below hb7 HBX6.out.lt); have hsz7 := Nat.le_trans hsz6 hb7.size; obtain ⟨j0, j1, j2, j3, j4⟩ := playAt HBX7.out))
        go_roundw
        case rel => exact ⟨k + 1, q.next L, a, ct, b, cu, ts, by omega, by go_num, rfl, rfl, by omega, HI7.out⟩
        case measure => simp [intOf]; omega
    · obtain ⟨wo, rfl⟩ : ∃ wo : World, wo = wr := ⟨_, rfl⟩
      clear hI
      go_wp2_with fail
      go_loopw [16] (fun i wr => ∃ (j : Nat) (L : List UInt8), j ≤ l.length ∧ i = .int .i64 j ∧ L.length = l.length ∧ Mine wr w.heap.size (some ⟨g, 0, none⟩) c4 (L ++ marks3) ∧ Strs wr w.heap.size a ct ts ∧ Strs wr w.heap.size b cu ts ∧ Below w.heap.size w wr) (fun i _ => l.length - (intOf i).toNat)
      case atStart => exact ⟨0, L, Nat.zero_le _, rfl, HI.out.2.2.2.2.2.2.1, HI.out.1, HI.out.2.2.2.1, HI.out.2.2.2.2.1, HI.out.2.2.2.2.2.2.2⟩
      case round =>
        obtain ⟨j, L2, hj, rfl, hL2, hM, hT, hU, hB⟩ := hrel
        have HL2 := Lib.hid hL2
        have HM := Lib.hid hM
        have HT := Lib.hid hT
        have HU := Lib.hid hU
        have HB := Lib.hid hB
        have hszj := hB.size
        by_cases hjl : j < l.length
        · have hc := hM.cell (k := j) (by simp; omega)
          have hf := hM.free j
          generalize (L2 ++ marks3)[j]'(by simp; omega) = x at hc
          have hb := n8_flip x
          have hd : (j : Int) < (l.length : Int) := by omega
          clear hL2 hM hT hU hB
          go_wp2_with fail
          go_roundw
          case rel =>
            have hp := HM.out.put j (255 - x)
            rw [List.set_append_left _ _ (by have := HL2.out; omega)] at hp
            have hk2 : Keeps (Of (some ⟨g, 0, none⟩)) wr (wr.setCell ⟨g, j, none⟩ (.int .u8 (n8 (255 - x)))) := Keeps.of_grown (n := 0) (c := 0) (.inr ⟨g, rfl⟩) (grown_setCell wr g j _)
            exact ⟨j + 1, L2.set j (255 - x), by omega, by go_num, by rw [List.length_set]; exact HL2.out, hp, HT.out.keeps hk2 (fun i h1 h2 => HT.out.apart HM.out i h2 h1), HU.out.keeps hk2 (fun i h1 h2 => HU.out.apart HM.out i h2 h1), HB.out.trans (hk2.below hszj (fun i hi => HM.out.ge i hi))⟩
          case measure => simp [intOf]; omega
        · clear hL2 hM hT hU hB
          obtain ⟨wp, rfl⟩ : ∃ wp : World, wp = wr := ⟨_, rfl⟩
          go_wp2_with fail
          go_loopw [17] (fun i wr => ∃ (j : Nat), j ≤ ts.length ∧ i = .int .i64 j ∧ Mine wr w.heap.size (some ⟨g, 0, none⟩) c4 (L2 ++ marks3) ∧ Strs wr w.heap.size a ct ts ∧ Strs wr w.heap.size b cu ts ∧ Below w.heap.size w wr) (fun i _ => ts.length - (intOf i).toNat)
          case atStart => exact ⟨0, Nat.zero_le _, rfl, HM.out, HT.out, HU.out, HB.out⟩
          case round =>
            obtain ⟨j, hj, rfl, hM, hT, hU, hB⟩ := hrel
            have HM := Lib.hid hM
            have HB := Lib.hid hB
            clear hM hB
            by_cases hjl : j < ts.length
            · obtain ⟨gt, hga, hct⟩ := hT.cell hjl
              obtain ⟨gu, hgb, hcu⟩ := hU.cell hjl
              have HT := Lib.hid hT
              have HU := Lib.hid hU
              clear hT hU
              subst hga
              subst hgb
              have d0 : (0 : Int) ≤ (j : Int) := by omega
              have d1 : (j : Int) < (ts.length : Int) := by omega
              go_wp2_with fail
              go_quiet (fail)
              go_wp2_with fail
              go_roundw
              case rel => exact ⟨j + 1, by omega, by go_num, HM.out.drewN _, HT.out.drewN _, HU.out.drewN _, below_drewN HB.out _⟩
              case measure => simp [intOf]; omega
            · obtain ⟨d0, d1, d2⟩ := marks_at HM.out HL2.out
              have hcm := HM.out.cap_le.1
              simp [marks3] at hcm
              have h5 := HL2.out
              have hml : (l ++ marks3).length = l.length + 3 := by simp [marks3]
              have hma : marks3.length = 3 := rfl
              clear hT hU
              go_wp2_with fail
              go_ret
              exact ⟨rfl, HB.out⟩
end Go.Proofs.YtnknoikmleiopaaDoor
