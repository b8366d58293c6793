/-
  THE WALKS OF THE DOCUMENT's geo, FURTHER: Super, Read.
-/
import Derived.Test.YtaijakknhmagoaaDoorGeoR
import Derived.Lib.SlBytesConst
set_option linter.unusedVariables false
set_option linter.unusedSimpArgs false
namespace Go.Proofs.YtaijakknhmagoaaDoor
open Go.RowKit Rec Gp

theorem ref_super_bad (n : Int) (w : World) (h : ¬ Disk n) :
    Calls Tryd.prog 14 #[.int .i64 n] w fun e w' => e = .returned (.tuple #[.slice none 0 0, .int .i64 70]) ∧ Below w.heap.size w w' := by
  have H := Lib.hid h
  clear h
  go_enter Tryd.func14, Tryd.ntmps14
  go_wp2_with (go_at_call 13; refine (ref_of_bad n _ H.out).mono ?_; rintro e w1 ⟨rfl, hb1⟩; unfold noCells)
  go_ret2
  exact ⟨rfl, hb1.alloc hb1.size _⟩

/-- append(s, x...) where s is full and x is not empty: a new block -/
theorem wpList_append_fulls {ops : Array Oper} {rest : List Oper} {o : Oper} {a : Act} {w : World} {Q : Exit → Act → World → Prop} (hgd : o.guard = none) (s x : Operand)
    (ho : o.op = .call { callee := .builtin .append, args := #[s, x], argTypes := #[28, 28] })
    (g n : Nat) (l : List UInt8) (hl : l.length = n) (hs : a.eval s = .slice (some ⟨g, 0, none⟩) n n) (hb : Bytes w (some ⟨g, 0, none⟩) l)
    (ad : Addr) (m c : Nat) (news : List UInt8) (hnl : news.length = m) (hx : a.eval x = .slice (some ad) m c) (hc : Bytes w (some ad) news) (h0 : 0 < m) (hm : n + m ≤ 140737488355328)
    (h : ∀ A' cap' w', Mine w' w.heap.size A' cap' (l ++ news) → Below w.heap.size w w' → wpList Tryd.prog ops Q rest (a.put o.dst (.slice A' (n + m) cap')) w') :
    wpList Tryd.prog ops Q (o :: rest) a w := by
  obtain ⟨i0, hi, hz0, hz1, hz2⟩ := info_parts infoU8
  refine wpList_append_grows w hgd s x 28 ho 5 i0 (.int .u8 0) 1 1 Tryd.underlying28 hi hz0 hz1 hz2 rfl (by decide) _ n n (cellsOf8 l) hs (fun h => by cases h) (by rw [cellsOf8_length, Nat.mul_one]; exact hl) ?_ ad m c (cellsOf8 news) hx (by rw [cellsOf8_length, Nat.mul_one]; exact hnl) hc.cells (cellsOf8_one _) (by omega) (by simp only [maxLen]; omega) (by omega) ?_
  · intro b' e j u hu
    injection e with e
    subst e
    exact hb.cells j u hu
  · intro v' w' hown hg
    rw [← cellsOf8_append] at hown
    have e : n + m = (l ++ news).length := by simp [hl, hnl]
    rw [e] at hown
    obtain ⟨A', cap', rfl, hmn⟩ := mine_of_own hown
    rw [← e]
    exact h A' cap' w' hmn (grown_below_none (Nat.le_refl _) hg)
theorem const2 (w : World) (o : Obj) (C : Array Value) (n c : Nat) : (convert 28 28 (.slice (some ⟨w.heap.size + 1, 0, none⟩) n c)).run Tryd.prog ((w.alloc o).alloc (.cells C 5)) =
    .ok (.slice (some ⟨w.heap.size + 1, 0, none⟩) n c) ((w.alloc o).alloc (.cells C 5 (C.size, C.size + 1))) := by
  have := Lib.run_convert_bytes_const (P := Tryd.prog) (w.alloc o) 28 5 C n c Tryd.underlying28 Tryd.underlying5
  rwa [World.size_alloc] at this
theorem les4 (v : Nat) : les v 4 = [byteAt v 0, byteAt v 1, byteAt v 2, byteAt v 3] := rfl
theorem byte_wrap (v k : Nat) (h : v / 256 ^ k < 9223372036854775808) : IntKind.u8.wrap ((v / 256 ^ k : Nat) : Int) = n8 (byteAt v k) := by
  unfold n8 byteAt
  rw [UInt8.toNat_ofNat']
  show ((v / 256 ^ k : Nat) : Int) % 256 = _
  omega
set_option maxHeartbeats 1600000 in
theorem ref_of_to (A : Option Addr) (cap : Nat) (l : List UInt8) (len : Nat) (hl : l.length = len) (V : Nat) (hV : (Crc.crc l).toNat = V) (w : World) (hb : Bytes w A l) (hm : len ≤ 9223372036854775807) :
    Calls Tryd.prog 26 #[.slice A len cap] w fun e w' => e = .returned (.int .u32 (V : Int)) ∧ w = w' := by
  subst hl
  subst hV
  exact ref_of_any A cap l w hb hm
theorem ref_super_ok (n : Nat) (w : World) (h : Disk n) : Calls Tryd.prog 14 #[.int .i64 (n : Int)] w (SuperTo n w) := by
  have hn2 : (n : Int) ≤ 16384 := h.2
  have kc2 := const2
  have hw0 : IntKind.u8.wrap (n : Int) = n8 (byteAt n 0) := by have := byte_wrap n 0 (by simp; omega); simpa using this
  have hw1 : IntKind.u8.wrap ((n : Int) / 256) = n8 (byteAt n 1) := by have := byte_wrap n 1 (by simp; omega); simpa using this
  have HNL := Lib.hid (show les n 4 = [byteAt n 0, byteAt n 1, 0, 0] by
    rw [les4]
    have h2 : byteAt n 2 = 0 := by unfold byteAt; rw [Nat.div_eq_of_lt (by have : (256 : Nat) ^ 2 = 65536 := rfl; omega)]; rfl
    have h3 : byteAt n 3 = 0 := by unfold byteAt; rw [Nat.div_eq_of_lt (by have : (256 : Nat) ^ 3 = 16777216 := rfl; omega)]; rfl
    rw [h2, h3])
  obtain ⟨c, hc⟩ : ∃ c, chk n = c := ⟨_, rfl⟩
  have hcl := chk_lt n
  rw [hc] at hcl
  have HC := Lib.hid (show (Crc.crc (head12 n)).toNat = c from hc)
  have HCE := Lib.hid hc
  have hci : (c : Int) ≤ 4294967295 := by omega
  have hv0 : IntKind.u8.wrap (c : Int) = n8 (byteAt c 0) := by have := byte_wrap c 0 (by simp; omega); simpa using this
  have hv1 : IntKind.u8.wrap ((c : Int) / 256) = n8 (byteAt c 1) := by have := byte_wrap c 1 (by simp; omega); simpa using this
  have hv2 : IntKind.u8.wrap ((c : Int) / 65536) = n8 (byteAt c 2) := by have := byte_wrap c 2 (by simp; omega); simpa using this
  have hv3 : IntKind.u8.wrap ((c : Int) / 16777216) = n8 (byteAt c 3) := by have := byte_wrap c 3 (by simp; omega); simpa using this
  have H := Lib.hid h
  clear h hc
  go_enter Tryd.func14, Tryd.ntmps14
  go_wp2_with (first
    | (go_at_call 13; refine (ref_of_ok n _ H.out).mono ?_; rintro e w1 ⟨rfl, hb1⟩; unfold geoCells; have HB2 := Lib.hid (hb1.alloc hb1.size (.cells #[.int .i64 (n : Int), .int .i64 98, .int .i64 (ino n : Int), .int .i64 (dat n : Int), .int .i64 (cnt n : Int)] 24)); have hs2 : w.heap.size ≤ w1.heap.size := hb1.size; have hmag : Bytes (((w1.alloc (.cells #[.int .i64 (n : Int), .int .i64 98, .int .i64 (ino n : Int), .int .i64 (dat n : Int), .int .i64 (cnt n : Int)] 24)).alloc (.cells (u8s mag) 5 (8, 9))).alloc (.cells (u8s [byteAt n 0, byteAt n 1, 0, 0]) 5)) (some ⟨w1.heap.size + 1, 0, none⟩) mag := (by have := (bytes_new (w1.alloc (.cells #[.int .i64 (n : Int), .int .i64 98, .int .i64 (ino n : Int), .int .i64 (dat n : Int), .int .i64 (cnt n : Int)] 24)) 5 (8, 9) mag).later (below_new _ (.cells (u8s [byteAt n 0, byteAt n 1, 0, 0]) 5)); rwa [World.size_alloc] at this); have hnl : Bytes (((w1.alloc (.cells #[.int .i64 (n : Int), .int .i64 98, .int .i64 (ino n : Int), .int .i64 (dat n : Int), .int .i64 (cnt n : Int)] 24)).alloc (.cells (u8s mag) 5 (8, 9))).alloc (.cells (u8s [byteAt n 0, byteAt n 1, 0, 0]) 5)) (some ⟨w1.heap.size + 1 + 1, 0, none⟩) [byteAt n 0, byteAt n 1, 0, 0] := (by have := bytes_new ((w1.alloc (.cells #[.int .i64 (n : Int), .int .i64 98, .int .i64 (ino n : Int), .int .i64 (dat n : Int), .int .i64 (cnt n : Int)] 24)).alloc (.cells (u8s mag) 5 (8, 9))) 5 (0, 0) [byteAt n 0, byteAt n 1, 0, 0]; rwa [World.size_alloc, World.size_alloc] at this); have HMG := Lib.hid hmag; have HNLB := Lib.hid hnl; clear hmag hnl)
    | (at_builtin; refine wpList_append_fulls rfl (.tmp 17) (.tmp 23) rfl (w1.heap.size + 1) 8 mag rfl rfl HMG.out ⟨w1.heap.size + 1 + 1, 0, none⟩ 4 4 [byteAt n 0, byteAt n 1, 0, 0] rfl rfl HNLB.out (by decide) (by decide) ?_; intro A3 c3 w3 hm3 hb3; rw [← HNL.out] at hm3; have hm3 : Mine w3 _ A3 c3 (head12 n) := hm3; have HB3 := Lib.hid (HB2.out.trans (((below_new _ (.cells (u8s mag) 5 (8, 9))).mono (by simp; omega)).trans (((below_new _ (.cells (u8s [byteAt n 0, byteAt n 1, 0, 0]) 5)).mono (by simp; omega)).trans (hb3.mono (by simp; omega))))); have HM3 := Lib.hid (hm3.base_le (show w.heap.size ≤ _ by simp; omega)); have hs3 := HB3.out.size; clear hm3 hb3)
    | (go_at_call 26; refine (ref_of_to A3 c3 (head12 n) 12 (head12_length n) c HC.out _ HM3.out.bytes (by decide)).mono ?_; rintro e w' ⟨rfl, rfl⟩)
    | (at_builtin; refine wpList_append_u8 rfl (.tmp 27) (.tmp 39) rfl w.heap.size A3 c3 (head12 n) (by rw [head12_length]; rfl) (HM3.out.later (below_new w3 _)) (some ⟨w3.heap.size, 0, none⟩) 4 (les c 4) rfl (fun h => by cases h) (bytes_new w3 5 (0, 0) (les c 4)) (by rw [head12_length, les_length]; decide) (by simp; omega) ?_; intro A4 c4 w4 hm4 hg4 hb4; rw [show (head12 n ++ les c 4).length = 16 by rw [List.length_append, head12_length, les_length]]; have HM4 := Lib.hid hm4; have HB4 := Lib.hid (HB3.out.trans (((below_new w3 (.cells (u8s (les c 4)) 5)).mono hs3).trans hb4)); clear hm4 hg4 hb4))
  clear HMG HNLB HM3 HB3 HB2 hs2 hs3 hb1
  go_loopw [6] (fun v wr => ∃ (k : Nat) (A : Option Addr) (cap : Nat), k ≤ 496 ∧ v = .slice A (16 + k) cap ∧ Mine wr w.heap.size A cap (head12 n ++ les c 4 ++ zs k) ∧ Below w.heap.size w wr) (fun v _ => match v with | .slice _ m _ => 512 - m | _ => 0)
  case atStart => exact ⟨0, A4, c4, by omega, rfl, by rw [show zs 0 = [] from rfl, List.append_nil]; exact HM4.out, HB4.out⟩
  case round =>
    obtain ⟨k, A, cap, hk, rfl, hM, hB⟩ := hrel
    have HM := Lib.hid hM
    have HB := Lib.hid hB
    have hBs := hB.size
    clear hM hB
    by_cases hk5 : k < 496
    · have h16 : 16 + (k : Int) < 512 := by omega
      have hll : (head12 n ++ les c 4 ++ zs k).length = 16 + k := by rw [List.length_append, List.length_append, head12_length, les_length, zs_length]
      have HLL := Lib.hid hll
      clear hll
      go_wp2_with (at_builtin; refine wpList_append_u8 rfl (.tmp 44) (.tmp 45) rfl w.heap.size A cap (head12 n ++ les c 4 ++ zs k) (by rw [HLL.out]; rfl) (HM.out.later (below_new wr _)) (some ⟨wr.heap.size, 0, none⟩) 1 (zs 1) rfl (fun h => by cases h) (bytes_new wr 5 (0, 0) (zs 1)) (by rw [HLL.out, zs_length]; omega) (by simp; omega) ?_; intro A5 c5 w5 hm5 hg5 hb5; rw [show (head12 n ++ les c 4 ++ zs k ++ zs 1).length = 16 + (k + 1) by rw [List.length_append, HLL.out, zs_length]; omega]; rw [List.append_assoc, ← zs_add] at hm5; have HM5 := Lib.hid hm5; have HB5 := Lib.hid (HB.out.trans (((below_new wr (.cells (u8s (zs 1)) 5)).mono hBs).trans hb5)); clear hm5 hg5 hb5)
      go_roundw
      case rel => exact ⟨k + 1, A5, c5, by omega, rfl, HM5.out, HB5.out⟩
      case measure => simp; omega
    · obtain rfl : k = 496 := by omega
      obtain ⟨g, hg, _⟩ := HM.out.form (by rw [List.length_append, List.length_append, head12_length, les_length, zs_length]; decide)
      subst hg
      have hsup : head12 n ++ les c 4 ++ zs 496 = superL n := by unfold superL; rw [HCE.out]
      have HS := Lib.hid hsup
      clear hsup
      go_wp2_with fail
      go_ret2
      exact ⟨g, cap, rfl, by rw [← HS.out]; exact HM.out, HB.out⟩
end Go.Proofs.YtaijakknhmagoaaDoor
