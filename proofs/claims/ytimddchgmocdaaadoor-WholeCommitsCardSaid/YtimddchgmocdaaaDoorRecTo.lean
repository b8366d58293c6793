/-
  THE CALLS OF rec WITH THEIR ANSWERS NAMED; numbers and texts put between bytes.
-/
import Derived.Test.YtimddchgmocdaaaDoorRecT
import Derived.Test.YtimddchgmocdaaaDoorKeeps
set_option linter.unusedVariables false
set_option linter.unusedSimpArgs false
namespace Go.Proofs.YtimddchgmocdaaaDoor
open Go.RowKit Rec

theorem lies_mid (a m z : List UInt8) : lies (a ++ m ++ z).length a.length m.length = true := by simp [lies]; omega
theorem part_mid (a m z : List UInt8) : Rec.part (a ++ m ++ z) a.length m.length = m := by simp [Rec.part]
theorem spliced_mid (a m z s : List UInt8) (h : s.length = m.length) : spliced (a ++ m ++ z) a.length s = a ++ s ++ z := by
  unfold spliced
  rw [h]
  simp [List.append_assoc]

/-- Put, its answer named -/
theorem put_to (base : Nat) (A : Option Addr) (cap : Nat) (l : List UInt8) (len : Nat) (hl : l.length = len) (at_ n : Int) (v : Nat) (E : Int) (L : List UInt8) (hE : putE l.length at_ n v = E) (hL : putL l at_ n v = L)
    (w : World) (hw : WidthsAt w) (hM : Mine w base A cap l) (hm : len ≤ 140737488355328) (h0 : -9223372036854775808 ≤ at_) (h1 : at_ ≤ 9223372036854775807) (hv : v < 18446744073709551616) :
    Calls Tryd.prog 50 #[.slice A len cap, .int .i64 at_, .int .i64 n, .int .u64 (v : Int)] w fun e w' => e = .returned (.int .i64 E) ∧ Mine w' base A cap L ∧ Keeps (Of A) w w' := by
  subst hl
  subst hE
  subst hL
  refine (put_any base A cap l [] at_ n v w hw (by rw [List.append_nil]; exact hM) hm h0 h1 hv).mono ?_
  rintro e w' ⟨rfl, h2, h3⟩
  rw [List.append_nil] at h2
  exact ⟨rfl, h2, Keeps.of_mine hM h3⟩
/-- Get, its answer named -/
theorem get_to (A : Option Addr) (cap : Nat) (l : List UInt8) (len : Nat) (hl : l.length = len) (at_ n : Int) (V : Nat) (E : Int) (hV : getV l at_ n = V) (hE : getE l.length at_ n = E)
    (w : World) (hw : WidthsAt w) (hb : Bytes w A l) (hm : len ≤ 140737488355328) (h0 : -9223372036854775808 ≤ at_) (h1 : at_ ≤ 9223372036854775807) :
    Calls Tryd.prog 73 #[.slice A len cap, .int .i64 at_, .int .i64 n] w fun e w' => e = .returned (.tuple #[.int .u64 (V : Int), .int .i64 E]) ∧ w = w' := by
  subst hl
  subst hE
  subst hV
  exact get_any A cap l at_ n w hw hb hm h0 h1
theorem putE_lie (len : Nat) (at_ : Int) (n v : Nat) (hW : isW n = true) (hv : n = 8 ∨ v < 256 ^ n) (hl : lies len at_ n = false) : putE len at_ n v = 20 := by
  unfold putE
  rw [if_neg, if_pos hl]
  rintro (h | ⟨h1, h2⟩)
  · rw [hW] at h; cases h
  · rcases hv with hv | hv
    · subst hv; omega
    · rw [show (256 : Nat) ^ n = 2 ^ (8 * n) by rw [Nat.pow_mul]] at hv
      exact h2 (by rw [Int.toNat_natCast]; exact Nat.div_eq_of_lt hv)
theorem putE_ok (len : Nat) (at_ : Int) (n v : Nat) (hW : isW n = true) (hv : n = 8 ∨ v < 256 ^ n) (hl : lies len at_ n = true) : putE len at_ n v = 0 := by
  unfold putE
  rw [if_neg, if_neg (by rw [hl]; simp)]
  rintro (h | ⟨h1, h2⟩)
  · rw [hW] at h; cases h
  · rcases hv with hv | hv
    · subst hv; omega
    · rw [show (256 : Nat) ^ n = 2 ^ (8 * n) by rw [Nat.pow_mul]] at hv
      exact h2 (by rw [Int.toNat_natCast]; exact Nat.div_eq_of_lt hv)
theorem putE_big (len : Nat) (at_ : Int) (n v : Nat) (hn : n < 8) (hv : 256 ^ n ≤ v) : putE len at_ n v = 1 := by
  unfold putE
  rw [if_pos]
  refine .inr ⟨by omega, ?_⟩
  rw [show (256 : Nat) ^ n = 2 ^ (8 * n) by rw [Nat.pow_mul]] at hv
  rw [Int.toNat_natCast]
  have : 0 < v / 2 ^ (8 * n) := Nat.div_pos hv (Nat.pow_pos (by decide))
  omega
theorem putL_same (l : List UInt8) (at_ n : Int) (v : Nat) (h : putE l.length at_ n v ≠ 0) : putL l at_ n v = l := by unfold putL; rw [if_neg h]
theorem put_mid (a z : List UInt8) (n v : Nat) (hW : isW n = true) (hv : n = 8 ∨ v < 256 ^ n) (m : List UInt8) (hm : m.length = n) :
    putE (a ++ m ++ z).length a.length n v = 0 ∧ putL (a ++ m ++ z) a.length n v = a ++ les v n ++ z := by
  have h1 : putE (a ++ m ++ z).length a.length n v = 0 := putE_ok _ _ n v hW hv (by rw [← hm]; exact lies_mid a m z)
  refine ⟨h1, ?_⟩
  unfold putL
  rw [if_pos h1]
  exact spliced_mid a m z (les v n) (by rw [les_length, hm])
theorem get_mid (a m z : List UInt8) (n : Nat) (hW : isW n = true) (hm : m.length = n) : getV (a ++ m ++ z) a.length n = le m ∧ getE (a ++ m ++ z).length a.length n = 0 := by
  subst hm
  unfold getV getE
  rw [hW, lies_mid, part_mid]
  exact ⟨rfl, rfl⟩
theorem get_one (a m z : List UInt8) (i : Nat) (hi : i < m.length) : getV (a ++ m ++ z) ((a.length + i : Nat) : Int) 1 = m[i].toNat ∧ getE (a ++ m ++ z).length ((a.length + i : Nat) : Int) 1 = 0 := by
  have e : a ++ m ++ z = (a ++ m.take i) ++ [m[i]] ++ (m.drop (i + 1) ++ z) := by
    have : m = m.take i ++ m[i] :: m.drop (i + 1) := by rw [← List.drop_eq_getElem_cons hi, List.take_append_drop]
    conv => lhs; rw [this]
    simp only [List.append_assoc, List.cons_append, List.nil_append]
  have hl : (a ++ m.take i).length = a.length + i := by simp; omega
  have h := get_mid (a ++ m.take i) [m[i]] (m.drop (i + 1) ++ z) 1 rfl rfl
  rw [hl, ← e] at h
  refine ⟨h.1.trans ?_, h.2⟩
  simp [le]

/-- no zero byte in it -/
def Full (L : List UInt8) : Prop := ∀ x ∈ L, x ≠ 0
theorem Full.ahead {L : List UInt8} (h : Full L) : Rec.ahead L = L.length := ahead_all L fun j hj => h _ (List.getElem_mem hj)
theorem part_of (P q Z : List UInt8) (p n : Nat) (hp : P.length = p) (hn : q.length = n) : lies (P ++ q ++ Z).length p n = true ∧ Rec.part (P ++ q ++ Z) p n = q := by
  subst hp
  subst hn
  exact ⟨lies_mid P q Z, part_mid P q Z⟩
theorem putText_mid (P q L Z : List UInt8) (M p n : Nat) (hf : Full L) (hp : P.length = p) (hq : q.length = n) (hn : L.length + M = n) :
    putTextE (P ++ q ++ Z).length p n L = 0 ∧ putTextL (P ++ q ++ Z) p n L = P ++ (L ++ List.replicate M 0) ++ Z := by
  obtain ⟨h1, h2⟩ := part_of P q Z p n hp hq
  have h0 : putTextE (P ++ q ++ Z).length p n L = 0 := by
    unfold putTextE
    rw [if_neg (by rw [hf.ahead]; omega), if_neg (by rw [h1]; simp)]
  refine ⟨h0, ?_⟩
  unfold putTextL
  rw [if_pos h0]
  subst hp
  have e : (n : Int).toNat - L.length = M := by omega
  rw [e]
  exact spliced_mid P q Z _ (by simp; omega)
/-- PutText, its answer named -/
theorem putText_to (base : Nat) (A : Option Addr) (cap : Nat) (l : List UInt8) (len : Nat) (hl : l.length = len) (at_ n : Int) (s : List UInt8) (E : Int) (L : List UInt8) (hE : putTextE l.length at_ n s = E) (hL : putTextL l at_ n s = L)
    (w : World) (hM : Mine w base A cap l) (hbw : base ≤ w.heap.size) (hm : len ≤ 140737488355328) (hs : s.length ≤ 140737488355328) (h0 : -9223372036854775808 ≤ at_) (h1 : at_ ≤ 9223372036854775807) :
    Calls Tryd.prog 49 #[.slice A len cap, .int .i64 at_, .int .i64 n, .string ⟨s.toArray⟩] w fun e w' => e = .returned (.int .i64 E) ∧ Mine w' base A cap L ∧ Keeps (Of A) w w' := by
  subst hl
  subst hE
  subst hL
  refine (putText_any base A cap l [] at_ n s w (by rw [List.append_nil]; exact hM) hbw hm hs h0 h1).mono ?_
  rintro e w' ⟨rfl, h2, h3⟩
  rw [List.append_nil] at h2
  exact ⟨rfl, h2, Keeps.of_mine hM h3⟩
theorem putTextL_same (l : List UInt8) (at_ n : Int) (s : List UInt8) (h : putTextE l.length at_ n s ≠ 0) : putTextL l at_ n s = l := by unfold putTextL; rw [if_neg h]
end Go.Proofs.YtimddchgmocdaaaDoor
