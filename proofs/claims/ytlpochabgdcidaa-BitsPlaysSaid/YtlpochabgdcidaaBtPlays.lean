/-
  THE WALK OF BitsPlays: every answer of every row of calls on any bytes, all bytes behind each call.
-/
import Derived.Test.YtlpochabgdcidaaBtF
import Derived.Test.YtlpochabgdcidaaBtArgs
set_option linter.unusedVariables false
set_option linter.unusedSimpArgs false
namespace Go.Proofs.Ytlpochabgdcidaa
open Go.RowKit Bt

def marks3 : List UInt8 := [77, 78, 79]
theorem marks_cells : #[Value.int .u8 77, .int .u8 78, .int .u8 79] = u8s marks3 := by rfl
theorem marks_at {w : World} {base g c n : Nat} {L : List UInt8} (h : Mine w base (some ⟨g, 0, none⟩) c (L ++ marks3)) (hL : L.length = n) :
    w.cell? ⟨g, n, none⟩ = some (.int .u8 77) ∧ w.cell? ⟨g, n + 1, none⟩ = some (.int .u8 78) ∧ w.cell? ⟨g, n + 2, none⟩ = some (.int .u8 79) := by
  subst hL
  have h0 := h.cell (k := L.length) (by simp [marks3])
  have h1 := h.cell (k := L.length + 1) (by simp [marks3])
  have h2 := h.cell (k := L.length + 2) (by simp [marks3])
  simp [marks3] at h0 h1 h2
  exact ⟨h0, h1, h2⟩
/-- the row and its reference -/
def Duo (w0 w : World) (base n : Nat) (A : Option Addr) (ca : Nat) (B : Option Addr) (cb : Nat) (L : List UInt8) : Prop :=
  Mine w base A ca (L ++ marks3) ∧ Mine w base B cb (L ++ []) ∧ Apart A B ∧ L.length = n ∧ Below base w0 w
theorem Duo.later {w0 w w2 : World} {base n ca cb : Nat} {A B : Option Addr} {L : List UInt8} (h : Duo w0 w base n A ca B cb L) (hb : Below w.heap.size w w2) (hbs : base ≤ w.heap.size) : Duo w0 w2 base n A ca B cb L :=
  ⟨h.1.later hb, h.2.1.later hb, h.2.2.1, h.2.2.2.1, h.2.2.2.2.trans (hb.mono hbs)⟩
theorem Duo.played {w0 w w2 : World} {base n ca cb : Nat} {A B : Option Addr} {L L2 : List UInt8} (h : Duo w0 w base n A ca B cb L) (hk : Keeps (Of2 A B) w w2) (hbs : base ≤ w.heap.size)
    (hA : Mine w2 base A ca (L2 ++ marks3)) (hB : Mine w2 base B cb (L2 ++ [])) (hL : L2.length = L.length) : Duo w0 w2 base n A ca B cb L2 := by
  obtain ⟨a1, a2, a3, a7, a8⟩ := h
  refine ⟨hA, hB, a3, by rw [hL, a7], a8.trans (hk.below hbs ?_)⟩
  rintro i (h | h)
  · exact a1.ge i h
  · exact a2.ge i h

set_option maxRecDepth 100000 in
set_option maxHeartbeats 3200000 in
theorem plays_all (A0 : Option Addr) (ca0 : Nat) (l : List UInt8) (P : Option Addr) (cp : Nat) (qs : List Deed) (w : World) (hA : Bytes w A0 l) (hC : A0 = none → ca0 = 0) (hm : l.length + 3 ≤ 140737488355328)
    (hP : Deeds w P qs) (hq : qs.length * 32 ≤ 140737488351232) :
    Calls Try.prog 3 #[.slice A0 l.length ca0, .slice P qs.length cp] w fun e w' => e = .returned (.bool true) ∧ Below w.heap.size w w' := by
  have HA := Lib.hid hA
  have HC := Lib.hid hC
  have HP := Lib.hid hP
  clear hA hC hP
  go_enter Try.func3, Try.ntmps3
  go_wp2_with (first
    | (go_at_call 7; refine (fixed_any _).mono ?_; rintro e w1 ⟨rfl, hb1⟩; have hs1 := hb1.size; have HB1 := Lib.hid hb1)
    | (at_builtin; refine wpList_append_u8 rfl (.tmp 11) (.tmp 12) rfl w.heap.size (some ⟨w1.heap.size, 0, none⟩) 0 [] rfl (Mine.empty w1 hs1) A0 ca0 l rfl HC.out ((HA.out.later HB1.out).later (below_new w1 _)) (by simp; omega) (by simp; omega) ?_; intro A2 c2 w2 hm2 hg2 hb2; have HM2 := Lib.hid (show Mine w2 w.heap.size A2 c2 l from hm2); have HB2 := Lib.hid (HB1.out.trans (((below_new w1 (.cells #[] 5)).mono hs1).trans hb2)); have hs2 := HB2.out.size)
    | (at_builtin; refine wpList_append_u8 rfl (.tmp 13) (.tmp 14) rfl w.heap.size A2 c2 l rfl (HM2.out.later (below_new w2 _)) (some ⟨w2.heap.size, 0, none⟩) 3 marks3 rfl (by simp) (bytes_new w2 _ _ marks3) (by show l.length + 3 ≤ _; omega) (by simp; omega) ?_; intro A4 c4 w4 hm4 hg4 hb4; have HB4 := Lib.hid (HB2.out.trans (((below_new w2 (.cells (u8s marks3) 5)).mono hs2).trans hb4)); have hs4 := HB4.out.size; obtain ⟨g, hA4, hge, hlt⟩ := hm4.form (by simp [marks3]); subst hA4; have hcl : l.length ≤ c4 := (by have := hm4.cap_le.1; simp at this; omega); have HM4 := Lib.hid hm4)
    | (at_builtin; refine wpList_append_u8 rfl (.tmp 20) (.tmp 21) rfl w4.heap.size (some ⟨w4.heap.size, 0, none⟩) 0 [] rfl (Mine.empty w4 (Nat.le_refl _)) A0 ca0 l rfl HC.out ((HA.out.later HB4.out).later (below_new w4 _)) (by simp; omega) (by simp) ?_; intro A5 c5 w5 hm5 hg5 hb5; have HM5 := Lib.hid (show Mine w5 w4.heap.size A5 c5 l from hm5); have HB45 := Lib.hid ((below_new w4 (.cells #[] 5)).trans hb5); have HB5 := Lib.hid (HB4.out.trans (HB45.out.mono hs4)); have HM45 := Lib.hid (HM4.out.later HB45.out)))
  have hF : Duo w w5 w.heap.size l.length (some ⟨g, 0, none⟩) c4 A5 c5 l :=
    ⟨HM45.out, by rw [List.append_nil]; exact HM5.out.base_le hs4, apart_new HM4.out.lt HM5.out.of_ge, rfl, HB5.out⟩
  clear HB1 HM2 HB2 HB4 HM4 HM5 HB45 HB5 HM45 hb1 hb2 hm2 hm4 hm5 hb4 hb5 hs1 hs2 hs4 hg2 hg4 hg5
  go_loopw [8] (fun i wr => ∃ (k : Nat) (L : List UInt8), k ≤ qs.length ∧ i = .int .i64 k ∧ Duo w wr w.heap.size l.length (some ⟨g, 0, none⟩) c4 A5 c5 L) (fun i _ => qs.length - (intOf i).toNat)
  case atStart => exact ⟨0, l, Nat.zero_le _, rfl, hF⟩
  case round =>
    obtain ⟨k, L, hk, rfl, hI⟩ := hrel
    have hsz := hI.2.2.2.2.size
    have HI := Lib.hid hI
    by_cases hlt : k < qs.length
    · obtain ⟨b0, off, rfl, hc, hok⟩ := (HP.out.later HI.out.2.2.2.2).at_ hlt
      generalize qs[k] = q at hc hok
      have HOK := Lib.hid hok
      have hd : (k : Int) < (qs.length : Int) := by omega
      have c0 : wr.cell? ⟨b0, off + k * 4, none⟩ = some (.int .i64 q.kind) := hc 0 _ rfl
      have c1 : wr.cell? ⟨b0, off + k * 4 + 1, none⟩ = some (.int .i64 q.i) := hc 1 _ rfl
      have c2 : wr.cell? ⟨b0, off + k * 4 + 2, none⟩ = some (.int .i64 q.till) := hc 2 _ rfl
      have c3 : wr.cell? ⟨b0, off + k * 4 + 3, none⟩ = some (.bool q.on) := hc 3 _ rfl
      have hnl : (q.next L).length = L.length := q.next_length L
      have HNL := Lib.hid (hnl.trans hI.2.2.2.1)
      have HLL := Lib.hid hI.2.2.2.1
      clear hok hc hI hnl
      go_wp2_with (first
        | (go_at_call 8; refine (plays_any w.heap.size (some ⟨g, 0, none⟩) A5 c4 c5 l.length L marks3 [] HLL.out q _ HI.out.1 HI.out.2.1 HI.out.2.2.1 (by omega) HOK.out).mono ?_; rintro e w6 ⟨rfl, hm6, hn6, hk6⟩; have HI6 := Lib.hid (HI.out.played hk6 hsz hm6 hn6 (Deed.next_length _ _)); have hsz6 := Nat.le_trans hsz hk6.size)
        | (go_at_call 9; refine (same_eq (some ⟨g, 0, none⟩) A5 c4 c5 (q.next L) l.length l.length HNL.out HNL.out _ HI6.out.1.head HI6.out.2.1.head (by omega)).mono ?_; rintro e w7 ⟨rfl, hb7⟩; have HI7 := Lib.hid (HI6.out.later hb7 hsz6)))
      go_roundw
      case rel => exact ⟨k + 1, q.next L, by omega, by go_num, HI7.out⟩
      case measure => simp [intOf]; omega
    · obtain ⟨d0, d1, d2⟩ := marks_at HI.out.1 HI.out.2.2.2.1
      have hcm := HI.out.1.cap_le.1
      simp [marks3] at hcm
      have h5 := HI.out.2.2.2.1
      have hml : (l ++ marks3).length = l.length + 3 := by simp [marks3]
      have hma : marks3.length = 3 := rfl
      clear hI
      go_wp2_with fail
      go_ret
      exact ⟨rfl, HI.out.2.2.2.2⟩
end Go.Proofs.Ytlpochabgdcidaa
