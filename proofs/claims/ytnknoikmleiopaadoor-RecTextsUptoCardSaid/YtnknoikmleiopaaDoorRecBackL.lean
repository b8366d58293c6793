/-
  WHAT RecBack AND RecTexts STAND ON: mod; numbers and texts put between bytes; the calls with their answers named.
-/
import Derived.Test.YtnknoikmleiopaaDoorRecCuts
import Derived.Test.YtnknoikmleiopaaDoorZeros
set_option linter.unusedVariables false
set_option linter.unusedSimpArgs false
namespace Go.Proofs.YtnknoikmleiopaaDoor
open Go.RowKit Rec

theorem mod_any (k : Int) (n : Nat) (h0 : 0 < n) (hn : n ≤ 1000) (hk : -9223372036854775808 ≤ k) (hk2 : k ≤ 9223372036854775807) (w : World) :
    Calls Tryd.prog 12 #[.int .i64 k, .int .i64 (n : Int)] w fun e w' => e = .returned (.int .i64 (k % (n : Int))) ∧ w = w' := by
  have hne : ¬ n = 0 := by omega
  have hlt := Int.tmod_lt_of_pos k (show (0 : Int) < (n : Int) by omega)
  have hgt : -(n : Int) < k.tmod n := by
    have h := Int.tmod_lt_of_pos (-k) (show (0 : Int) < (n : Int) by omega)
    rw [Int.neg_tmod] at h
    omega
  have hwr : IntKind.i64.wrap (k.tmod n) = k.tmod n := IntWalk.i64_in _ (by omega)
  have hem : k % (n : Int) = if k.tmod n < 0 then k.tmod n + n else k.tmod n := by
    by_cases h : 0 ≤ k
    · rw [Int.tmod_eq_emod_of_nonneg h]
      have := Int.emod_nonneg k (show (n : Int) ≠ 0 by omega)
      rw [if_neg (by omega)]
    · have h1 : k.tmod n ≤ 0 := by
        have := Int.tmod_nonneg (n : Int) (show 0 ≤ -k by omega)
        rw [Int.neg_tmod] at this
        omega
      have h2 : k = (n : Int) * k.tdiv n + k.tmod n := (Int.mul_tdiv_add_tmod k n).symm
      have h3 : k % (n : Int) = k.tmod n % (n : Int) := by
        conv => lhs; rw [h2]
        rw [Int.add_comm, Int.add_mul_emod_self_left]
      rw [h3]
      by_cases h4 : k.tmod n < 0
      · rw [if_pos h4, ← Int.add_emod_right, Int.emod_eq_of_lt (by omega) (by omega)]
      · rw [if_neg h4, show k.tmod n = 0 by omega]; rfl
  rw [hem]
  by_cases hr : k.tmod n < 0
  · rw [if_pos hr]
    have hw2 : wrap64 (k.tmod n + n) = k.tmod n + n := IntWalk.wrap64_in _ ⟨by omega, by omega⟩
    clear hem
    go_enter Tryd.func12, Tryd.ntmps12
    go_wp2_with fail
    go_ret
    exact ⟨rfl, rfl⟩
  · rw [if_neg hr]
    clear hem
    go_enter Tryd.func12, Tryd.ntmps12
    go_wp2_with fail
    go_ret
    exact ⟨rfl, rfl⟩

theorem lies_mid (a m z : List UInt8) : lies (a ++ m ++ z).length a.length m.length = true := by simp [lies]; omega
theorem part_mid (a m z : List UInt8) : Rec.part (a ++ m ++ z) a.length m.length = m := by simp [Rec.part]
theorem spliced_mid (a m z s : List UInt8) (h : s.length = m.length) : spliced (a ++ m ++ z) a.length s = a ++ s ++ z := by
  unfold spliced
  rw [h]
  simp [List.append_assoc]

/-- Put, its answer named -/
theorem put_to (base : Nat) (A : Option Addr) (cap : Nat) (l : List UInt8) (len : Nat) (hl : l.length = len) (at_ n : Int) (v : Nat) (E : Int) (L : List UInt8) (hE : putE l.length at_ n v = E) (hL : putL l at_ n v = L)
    (w : World) (hw : WidthsAt w) (hM : Mine w base A cap l) (hm : len ≤ 140737488355328) (h0 : -9223372036854775808 ≤ at_) (h1 : at_ ≤ 9223372036854775807) (hv : v < 18446744073709551616) :
    Calls Tryd.prog 13 #[.slice A len cap, .int .i64 at_, .int .i64 n, .int .u64 (v : Int)] w fun e w' => e = .returned (.int .i64 E) ∧ Mine w' base A cap L ∧ Keeps (Of A) w w' := by
  subst hl
  subst hE
  subst hL
  refine (put_any base A cap l [] at_ n v w hw (by rw [List.append_nil]; exact hM) hm h0 h1 hv).mono ?_
  rintro e w' ⟨rfl, h2, h3⟩
  rw [List.append_nil] at h2
  exact ⟨rfl, h2, Keeps.of_mine hM h3⟩
/-- Get, its answer named -/
theorem get_to (A : Option Addr) (cap : Nat) (l : List UInt8) (len : Nat) (hl : l.length = len) (at_ n : Int) (V : Nat) (E : Int) (hV : getV l at_ n = V) (hE : getE l.length at_ n = E)
    (w : World) (hw : WidthsAt w) (hb : Bytes w A l) (hm : len ≤ 140737488355328) (h0 : -9223372036854775808 ≤ at_) (h1 : at_ ≤ 9223372036854775807) :
    Calls Tryd.prog 14 #[.slice A len cap, .int .i64 at_, .int .i64 n] w fun e w' => e = .returned (.tuple #[.int .u64 (V : Int), .int .i64 E]) ∧ w = w' := by
  subst hl
  subst hE
  subst hV
  exact get_any A cap l at_ n w hw hb hm h0 h1
theorem putE_lie (len : Nat) (at_ : Int) (n v : Nat) (hW : isW n = true) (hv : n = 8 ∨ v < 256 ^ n) (hl : lies len at_ n = false) : putE len at_ n v = 20 := by
  unfold putE
  rw [if_neg, if_pos hl]
  rintro (h | ⟨h1, h2⟩)
  · rw [hW] at h; cases h
  · rcases hv with hv | hv
    · subst hv; omega
    · rw [show (256 : Nat) ^ n = 2 ^ (8 * n) by rw [Nat.pow_mul]] at hv
      exact h2 (by rw [Int.toNat_natCast]; exact Nat.div_eq_of_lt hv)
theorem putE_ok (len : Nat) (at_ : Int) (n v : Nat) (hW : isW n = true) (hv : n = 8 ∨ v < 256 ^ n) (hl : lies len at_ n = true) : putE len at_ n v = 0 := by
  unfold putE
  rw [if_neg, if_neg (by rw [hl]; simp)]
  rintro (h | ⟨h1, h2⟩)
  · rw [hW] at h; cases h
  · rcases hv with hv | hv
    · subst hv; omega
    · rw [show (256 : Nat) ^ n = 2 ^ (8 * n) by rw [Nat.pow_mul]] at hv
      exact h2 (by rw [Int.toNat_natCast]; exact Nat.div_eq_of_lt hv)
theorem putE_big (len : Nat) (at_ : Int) (n v : Nat) (hn : n < 8) (hv : 256 ^ n ≤ v) : putE len at_ n v = 1 := by
  unfold putE
  rw [if_pos]
  refine .inr ⟨by omega, ?_⟩
  rw [show (256 : Nat) ^ n = 2 ^ (8 * n) by rw [Nat.pow_mul]] at hv
  rw [Int.toNat_natCast]
  have : 0 < v / 2 ^ (8 * n) := Nat.div_pos hv (Nat.pow_pos (by decide))
  omega
theorem putL_same (l : List UInt8) (at_ n : Int) (v : Nat) (h : putE l.length at_ n v ≠ 0) : putL l at_ n v = l := by unfold putL; rw [if_neg h]
theorem put_mid (a z : List UInt8) (n v : Nat) (hW : isW n = true) (hv : n = 8 ∨ v < 256 ^ n) (m : List UInt8) (hm : m.length = n) :
    putE (a ++ m ++ z).length a.length n v = 0 ∧ putL (a ++ m ++ z) a.length n v = a ++ les v n ++ z := by
  have h1 : putE (a ++ m ++ z).length a.length n v = 0 := putE_ok _ _ n v hW hv (by rw [← hm]; exact lies_mid a m z)
  refine ⟨h1, ?_⟩
  unfold putL
  rw [if_pos h1]
  exact spliced_mid a m z (les v n) (by rw [les_length, hm])
theorem get_mid (a m z : List UInt8) (n : Nat) (hW : isW n = true) (hm : m.length = n) : getV (a ++ m ++ z) a.length n = le m ∧ getE (a ++ m ++ z).length a.length n = 0 := by
  subst hm
  unfold getV getE
  rw [hW, lies_mid, part_mid]
  exact ⟨rfl, rfl⟩
theorem get_one (a m z : List UInt8) (i : Nat) (hi : i < m.length) : getV (a ++ m ++ z) ((a.length + i : Nat) : Int) 1 = m[i].toNat ∧ getE (a ++ m ++ z).length ((a.length + i : Nat) : Int) 1 = 0 := by
  have e : a ++ m ++ z = (a ++ m.take i) ++ [m[i]] ++ (m.drop (i + 1) ++ z) := by
    have : m = m.take i ++ m[i] :: m.drop (i + 1) := by rw [← List.drop_eq_getElem_cons hi, List.take_append_drop]
    conv => lhs; rw [this]
    simp only [List.append_assoc, List.cons_append, List.nil_append]
  have hl : (a ++ m.take i).length = a.length + i := by simp; omega
  have h := get_mid (a ++ m.take i) [m[i]] (m.drop (i + 1) ++ z) 1 rfl rfl
  rw [hl, ← e] at h
  refine ⟨h.1.trans ?_, h.2⟩
  simp [le]
theorem same_eq3 (A B : Option Addr) (ca cb : Nat) (l : List UInt8) (n1 n2 : Nat) (h1 : l.length = n1) (h2 : l.length = n2) (w : World) (hl : Bytes w A l) (hm : Bytes w B l) (hs : n1 ≤ 140737488355328 + 64) :
    Calls Tryd.prog 9 #[.slice A n1 ca, .slice B n2 cb] w fun e w' => e = .returned (.bool true) ∧ Below w.heap.size w w' := by
  subst h1
  subst h2
  exact same_eq A B ca cb l l.length rfl w hl hm hs
end Go.Proofs.YtnknoikmleiopaaDoor
