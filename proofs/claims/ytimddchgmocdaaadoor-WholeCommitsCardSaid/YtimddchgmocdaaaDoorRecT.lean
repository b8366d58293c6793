/-
  THE WALKS OF PACKAGE rec, FURTHER: texts.
-/
import Derived.Test.YtimddchgmocdaaaDoorRecW
import Derived.Test.YtimddchgmocdaaaDoorRow2
set_option linter.unusedVariables false
set_option linter.unusedSimpArgs false
namespace Go.Proofs.YtimddchgmocdaaaDoor
open Go.RowKit Rec

/-- what PutText leaves -/
def putTextL (l : List UInt8) (at_ n : Int) (s : List UInt8) : List UInt8 := if putTextE l.length at_ n s = 0 then spliced l at_.toNat (s ++ List.replicate (n.toNat - s.length) 0) else l
theorem spliced_spliced (l : List UInt8) (a : Nat) (s t : List UInt8) (h : a + s.length + t.length ≤ l.length) : spliced (spliced l a s) (a + s.length) t = spliced l a (s ++ t) := by
  unfold spliced
  have h1 : (l.take a ++ s).length = a + s.length := by simp; omega
  rw [List.take_append_of_le_length (by omega), List.take_of_length_le (by omega)]
  have h2 : (l.take a ++ s ++ l.drop (a + s.length)).drop (a + s.length + t.length) = l.drop (a + (s ++ t).length) := by
    rw [List.drop_append, h1, List.drop_eq_nil_of_le (by omega), List.nil_append, List.drop_drop]
    congr 1; simp; omega
  rw [h2]; simp

theorem spliced_left (l m : List UInt8) (a : Nat) (t : List UInt8) (h : a + t.length ≤ l.length) : spliced (l ++ m) a t = spliced l a t ++ m := by
  unfold spliced
  rw [List.take_append_of_le_length (by omega), List.drop_append_of_le_length (by omega)]
  simp
theorem own_len {A : Option Addr} {cap len : Nat} (len' cap' : Nat) : (Value.slice A len cap).ownBlock = (Value.slice A len' cap').ownBlock := by cases A <;> rfl

set_option maxHeartbeats 1600000 in
set_option maxRecDepth 100000 in
theorem putText_any (base : Nat) (A : Option Addr) (cap : Nat) (l m : List UInt8) (at_ n : Int) (s : List UInt8) (w : World) (hM : Mine w base A cap (l ++ m)) (hbw : base ≤ w.heap.size) (hm : l.length ≤ 140737488355328) (hs : s.length ≤ 140737488355328) (h0 : -9223372036854775808 ≤ at_) (h1 : at_ ≤ 9223372036854775807) :
    Calls Tryd.prog 49 #[.slice A l.length cap, .int .i64 at_, .int .i64 n, .string ⟨s.toArray⟩] w fun e w' =>
      e = .returned (.int .i64 (putTextE l.length at_ n s)) ∧ Mine w' base A cap (putTextL l at_ n s ++ m) ∧ w.grownBy w' (Value.slice A l.length cap).ownBlock := by
  have HM := Lib.hid hM
  clear hM
  have hss : (⟨s.toArray⟩ : ByteArray).size = s.length := rfl
  by_cases b1 : n < 0
  · have e : putTextE l.length at_ n s = 1 := by unfold putTextE; rw [if_pos (.inl b1)]
    have e2 : putTextL l at_ n s = l := by unfold putTextL; rw [e]; rfl
    rw [e, e2]
    clear e e2
    go_enter Tryd.func49, Tryd.ntmps49
    go_wp2_with fail
    go_ret
    exact ⟨rfl, HM.out, World.grownBy.refl _ _⟩
  by_cases b2 : n < (s.length : Int)
  · have e : putTextE l.length at_ n s = 1 := by unfold putTextE; rw [if_pos (.inr (.inl b2))]
    have e2 : putTextL l at_ n s = l := by unfold putTextL; rw [e]; rfl
    rw [e, e2]
    clear e e2
    go_enter Tryd.func49, Tryd.ntmps49
    go_wp2_with fail
    go_ret
    exact ⟨rfl, HM.out, World.grownBy.refl _ _⟩
  obtain ⟨c2, w2, hrun, hb2, hB2⟩ := text_bytes w s
  have hg2 : w.grownBy w2 (Value.slice A l.length cap).ownBlock := ⟨hB2.os, hB2.tape, hB2.output, hB2.size, fun i hi _ => hB2.block i hi⟩
  have HM2 := Lib.hid (HM.out.later hB2)
  have HB2 := Lib.hid hb2
  clear hB2 hb2
  by_cases b3 : Rec.ahead s < s.length
  · have e : putTextE l.length at_ n s = 1 := by unfold putTextE; rw [if_pos (.inr (.inr b3))]
    have e2 : putTextL l at_ n s = l := by unfold putTextL; rw [e]; rfl
    rw [e, e2]
    clear e e2
    go_enter Tryd.func49, Tryd.ntmps49
    go_wp2_with (go_at_call 64; refine (ahead_any _ _ s _ HB2.out hs).mono ?_; rintro e w' ⟨rfl, rfl⟩)
    go_ret
    exact ⟨rfl, HM2.out, hg2⟩
  have li := lie_any A l.length cap at_ n w2 hm h0 h1
  cases hL : lies l.length at_ n
  · have e : putTextE l.length at_ n s = 20 := by unfold putTextE; rw [if_neg (by omega), if_pos hL]
    have e2 : putTextL l at_ n s = l := by unfold putTextL; rw [e]; rfl
    rw [e, e2]
    rw [hL] at li
    have LI := Lib.hid li
    clear e e2 li
    go_enter Tryd.func49, Tryd.ntmps49
    go_wp2_with (first
      | (go_at_call 64; refine (ahead_any _ _ s _ HB2.out hs).mono ?_; rintro e w' ⟨rfl, rfl⟩)
      | (go_at_call 65; refine LI.out.mono ?_; rintro e w' ⟨rfl, rfl⟩))
    go_ret
    exact ⟨rfl, HM2.out, hg2⟩
  · have e : putTextE l.length at_ n s = 0 := by unfold putTextE; rw [if_neg (by omega), if_neg (by simp [hL])]
    have e2 : putTextL l at_ n s = spliced l at_.toNat (s ++ List.replicate (n.toNat - s.length) 0) := by unfold putTextL; rw [e]; rfl
    have hl9 : 0 ≤ at_ ∧ 0 ≤ n ∧ at_ + n ≤ l.length := of_decide_eq_true hL
    rw [e, e2]
    rw [hL] at li
    have LI := Lib.hid li
    obtain ⟨a, rfl⟩ := Int.eq_ofNat_of_zero_le hl9.1
    obtain ⟨k, rfl⟩ := Int.eq_ofNat_of_zero_le hl9.2.1
    have ham : a + k ≤ l.length := by omega
    have hsk : s.length ≤ k := by omega
    have hcap := HM.out.cap_le.1
    rw [List.length_append] at hcap
    clear e e2 li hl9 h0 h1 b1 b2
    obtain ⟨A3, hA3⟩ : ∃ A3, (if cap = a then A else Option.map (fun x => x.add a) A) = A3 := ⟨_, rfl⟩
    obtain ⟨c, hc⟩ : ∃ c, a + s.length = c := ⟨_, rfl⟩
    have hwr : IntKind.i64.wrap ((a : Int) + (s.length : Int)) = (c : Int) := by rw [IntWalk.i64_in _ (by omega)]; omega
    have hca : c ≤ a + k := by omega
    obtain ⟨A4, hA4⟩ : ∃ A4, (if cap = c then A else Option.map (fun x => x.add c) A) = A4 := ⟨_, rfl⟩
    have hfit1 : a + s.length ≤ (l ++ m).length := by simp; omega
    have hfit2 : c + (a + k - c) ≤ (spliced (l ++ m) a s).length := by rw [spliced_length _ _ _ hfit1]; simp; omega
    go_enter Tryd.func49, Tryd.ntmps49
    go_wp2_with (first
      | (go_at_call 64; refine (ahead_any _ _ s _ HB2.out hs).mono ?_; rintro e w' ⟨rfl, rfl⟩)
      | (go_at_call 65; refine LI.out.mono ?_; rintro e w' ⟨rfl, rfl⟩)
      | (refine wpList_copy_text rfl (.tmp 38) (.tmp 39) rfl base A cap (l ++ m) HM2.out a A3 _ _ rfl hA3 s rfl (by omega) hfit1 ?_; intro w5 hM5 hg5)
      | (refine wpList_clear_u8 rfl (.tmp 48) rfl base A cap (spliced (l ++ m) a s) hM5 c A4 (a + k - c) _ rfl hA4 hfit2 ?_; intro w6 hM6 hg6))
    go_ret
    subst hc
    have hn : a + k - (a + s.length) = k - s.length := by omega
    rw [hn, spliced_spliced _ _ _ _ (by simp; omega), spliced_left _ _ _ _ (by simp; omega)] at hM6
    rw [own_len l.length cap] at hg5 hg6
    exact ⟨rfl, hM6, grown_trans hg2 (grown_trans hg5 hg6)⟩
end Go.Proofs.YtimddchgmocdaaaDoor
