/-
  THE WALKS OF A DISK's CALLS (3): New, Open.
-/
import Derived.Test.YtimddchgmocdaaaDoorDw2
import Derived.Deep.RegionLaw
set_option linter.unusedVariables false
set_option linter.unusedSimpArgs false
namespace Go.Proofs.YtimddchgmocdaaaDoor
open Go.RowKit

def zero512 : List UInt8 := List.replicate 512 0
def secZero : Value := .agg (Array.replicate 512 (.int .u8 0))
theorem infoSecZ : (Tryd.prog.info? 74).map (fun i => (i.zero, i.size, i.bytes)) = some (some secZero, 512, 512) := by kernel_rfl
def newDk (n : Nat) : Dk := { lasts := List.replicate n zero512, pend := [], left := 0, keep := [], down := false, n := 0 }

theorem cells8_zero : cellsOf8 zero512 = List.replicate 512 (.int .u8 0) := by unfold cellsOf8 zero512; rw [List.map_replicate]; rfl
theorem secC_zero (n : Nat) : secC (List.replicate n zero512) = List.replicate (n * 512) (.int .u8 0) := by
  rw [List.eq_replicate_iff]
  constructor
  · unfold secC; rw [flat_length cellsOf8 512 _ (fun b hb => by rw [(List.mem_replicate.1 hb).2, cells8_zero, List.length_replicate]), List.length_replicate]
  · intro v hv
    obtain ⟨b, hb, hv⟩ := List.mem_flatMap.1 hv
    rw [(List.mem_replicate.1 hb).2, cells8_zero] at hv
    exact (List.mem_replicate.1 hv).2
theorem made_zero (n : Nat) : (madeCells secZero.cells (n * 512)).toList = secC (List.replicate n zero512) := by
  rw [secC_zero, List.eq_replicate_iff]
  constructor
  · rw [Array.length_toList, size_madeCells]
  · intro v hv
    rw [Array.mem_toList_iff] at hv
    unfold madeCells at hv
    obtain ⟨i, hi, hv⟩ := Array.mem_map.1 hv
    have hsz : secZero.cells.size = 512 := by show (Array.replicate 512 (Value.int .u8 0)).size = 512; exact Array.size_replicate
    rw [← hv, hsz]
    show (Array.replicate 512 (Value.int .u8 0))[i % 512]! = _
    have hlt : i % 512 < 512 := Nat.mod_lt _ (by decide)
    rw [getElem!_pos (Array.replicate 512 (Value.int .u8 0)) (i % 512) (by rw [Array.size_replicate]; exact hlt), Array.getElem_replicate]
theorem newDk_ok (n : Nat) (h1 : 1 ≤ n) (h2 : n ≤ 16384) : (newDk n).Ok :=
  ⟨by show 1 ≤ (List.replicate n zero512).length; simpa using h1, by show (List.replicate n zero512).length ≤ 16384; simpa using h2, fun b hb => by rw [(List.mem_replicate.1 hb).2]; unfold zero512; exact List.length_replicate, (fun x hx => by cases hx), Nat.le_refl _, by show 0 ≤ 9223372036854775807; decide, by show 0 ≤ 9223372036854775807; decide⟩
set_option maxHeartbeats 800000 in
set_option maxRecDepth 100000 in
theorem dnew_any (n : Nat) (h1 : 1 ≤ n) (h2 : n ≤ 16384) (w : World) :
    Calls Tryd.prog 5 #[.int .i64 (n : Int)] w fun e w' => (∃ a d, e = .returned (.tuple #[.pointer (some ⟨d, 0, none⟩), .int .i64 0]) ∧ DiskAt w' w.heap.size a d (newDk n)) ∧ Below w.heap.size w w' := by
  obtain ⟨i0, hi, hz0, hz1, hz2⟩ := info_parts infoSecZ
  have hd1 : decide (16384 < (n : Int)) = false := decide_eq_false (by omega)
  have Hi := Lib.hid hi
  have Hz0 := Lib.hid hz0
  have Hz1 := Lib.hid hz1
  have Hz2 := Lib.hid hz2
  clear hi hz0 hz1 hz2
  go_enter Tryd.func5, Tryd.ntmps5
  go_wp2_with (refine wpList_make_full w rfl (.tmp 10) (.tmp 10) 56 (by rfl) w.heap.size 74 i0 secZero 512 Tryd.underlying56 Hi.out Hz0.out Hz1.out .i64 .i64 _ _ n (by rfl) (by rfl) rfl rfl (by rw [Hz2.out]; omega) (by simp only [maxLen]; omega) (Nat.le_refl _) ?_; intro w1 ho1 hg1; have hb1 := grown_below_none (Nat.le_refl w.heap.size) hg1; have HO1 := Lib.hid ho1; have HB1 := Lib.hid hb1; clear hb1 ho1 hg1)
  have hs1 := HB1.out.size
  have hI := Is.new w1 60 #[.slice (some ⟨w.heap.size, 0, none⟩) n n, .slice none 0 0, .int .i64 0, .slice none 0 0, .bool false, .int .i64 0, .int .i64 0, .slice none 0 0]
  have hO : Own w1 w.heap.size 74 512 (some ⟨w.heap.size, 0, none⟩) n n (secC (List.replicate n zero512)) := by rw [← made_zero]; exact HO1.out
  have hlen : (newDk n).lasts.length = n := List.length_replicate
  have hfin : DiskAt (w1.alloc (.cells #[.slice (some ⟨w.heap.size, 0, none⟩) n n, .slice none 0 0, .int .i64 0, .slice none 0 0, .bool false, .int .i64 0, .int .i64 0, .slice none 0 0] 60)) w.heap.size w.heap.size w1.heap.size (newDk n) := by
    refine ⟨newDk_ok n h1 h2, hs1, n, none, 0, none, 0, 0, 0, none, 0, 0, [], ?_, ?_, Own.nil _ _ _ _, .inl rfl, Own.nil _ _ _ _, Nat.le_refl _⟩
    · rw [hlen]; exact hI
    · rw [hlen]; exact hO.later (below_new w1 _)
  have HF := Lib.hid hfin
  have HFB := Lib.hid (HB1.out.alloc hs1 (.cells #[.slice (some ⟨w.heap.size, 0, none⟩) n n, .slice none 0 0, .int .i64 0, .slice none 0 0, .bool false, .int .i64 0, .int .i64 0, .slice none 0 0] 60))
  clear hI hO hfin
  go_ret2
  exact ⟨⟨w.heap.size, w1.heap.size, rfl, HF.out⟩, HFB.out⟩

theorem Own.splice {w : World} {base k n cap g : Nat} {t : TypeId} {cs : List Value} (h : Own w base t k (some ⟨g, 0, none⟩) n cap cs) (vs : List Value) (o : Nat) (hfit : o + vs.length ≤ n * k) :
    ∃ cur : Array Value, w.heap[g]? = some (.cells cur t (0, 0)) ∧ o + vs.length ≤ cur.size ∧ Own (w.setRow g (cur.toList.take o ++ vs ++ cur.toList.drop (o + vs.length)).toArray) base t k (some ⟨g, 0, none⟩) n cap (setList cs o vs) := by
  have hl := h.1
  rcases h.2 with ⟨hv, _⟩ | ⟨g', cap', cur, hv, hg, hh, h1, h2, hsz, htk⟩
  · cases hv
  injection hv with hA _ hc
  injection hA with hA
  injection hA with hA
  subst hA
  subst hc
  have hnk : n * k ≤ cur.size := by rw [hsz]; exact Nat.mul_le_mul_right _ h1
  have hcl : cur.toList.length = cur.size := Array.length_toList
  refine ⟨cur, hh, by omega, ?_⟩
  refine ⟨by rw [setList_eq _ _ _ (by omega)]; simp; omega, .inr ⟨g, cap, _, rfl, hg, setRow_heap w g cur _ t (0, 0) hh, h1, h2, by simp; omega, ?_⟩⟩
  rw [setList_eq _ _ _ (by omega), ← htk]
  have e1 : (cur.toList.take (n * k)).take o = cur.toList.take o := by rw [List.take_take, Nat.min_eq_left (by omega)]
  have e2 : (cur.toList.take (n * k)).drop (o + vs.length) = (cur.toList.drop (o + vs.length)).take (n * k - (o + vs.length)) := by rw [List.drop_take]
  rw [e1, e2]
  have e3 : (cur.toList.take o ++ vs).length = o + vs.length := by simp; omega
  rw [List.take_append, List.take_of_length_le (by omega), e3]

/-- copy(d.lasts[i][:], src) with a whole block's bytes and more -/
theorem step_copy_sec {ops : Array Oper} {o : Oper} {a : Act} {w : World} {K : Act → World → Prop} {Q : Exit → Act → World → Prop} {E : Prop} (hgd : o.guard = none) (d s : Operand)
    (ho : o.op = .call { callee := .builtin .copy, args := #[d, s], argTypes := #[42, 42] })
    (base g N cap : Nat) (L : List (List UInt8)) (hm : Own w base 74 512 (some ⟨g, 0, none⟩) N cap (secC L)) (hL : ∀ b ∈ L, b.length = 512) (hLN : L.length = N) (i : Nat) (hi : i < N)
    (dCap : Nat) (hd : a.eval d = .slice (some ⟨g, i * 512, none⟩) 512 dCap) (sp : Option Addr) (sLen sCap : Nat) (src b : List UInt8) (hs : a.eval s = .slice sp sLen sCap) (hsl : src.length = sLen) (hb : Bytes w sp src) (hle : 512 ≤ sLen) (hbs : src.take 512 = b)
    (h : ∀ w', Own w' base 74 512 (some ⟨g, 0, none⟩) N cap (secC (L.set i b)) → (∃ cs, w' = w.setRow g cs) → K (a.put o.dst (goInt 512)) w') :
    if Region.wanted o (yielded ops a.tmps) = true then Oper.wp Tryd.prog o a w K Q else E := by
  have h512 : b.length = 512 := by rw [← hbs, List.length_take]; omega
  have hfit : i * 512 + (cellsOf8 b).length ≤ N * 512 := by rw [cellsOf8_length, h512]; omega
  obtain ⟨cur, hh, hsz, hown⟩ := hm.splice (cellsOf8 b) (i * 512) hfit
  have e : setList (secC L) (i * 512) (cellsOf8 b) = secC (L.set i b) := flat_set cellsOf8 512 L (cell8_512 hL) i (by omega) b (by rw [cellsOf8_length]; exact h512)
  rw [e] at hown
  rcases hb with rfl | ⟨sb, so, rfl, hc⟩
  · simp at hsl; omega
  have hb2 : Bytes w (some ⟨sb, so, none⟩) b := by rw [← hbs]; exact (show Bytes w (some ⟨sb, so, none⟩) src from .inr ⟨sb, so, rfl, hc⟩).take _
  have hrun := run_copy_row (P := Tryd.prog) w 42 42 o.type 5 g (i * 512) 512 dCap ⟨sb, so, none⟩ sLen sCap cur 74 (cellsOf8 b) Tryd.underlying42 sizeU8 hh
    (by rw [cellsOf8_length, h512]; exact (Nat.min_eq_right hle).symm) hb2.cells hsz (cellsOf8_one _)
  rw [cellsOf8_length, h512] at hrun
  rw [cellsOf8_length, h512] at hown
  refine step_pass hgd (by simp [execOp, ho, resolve, invoke, builtin, hd, hs, hrun, Result.andThen]) (h _ hown ⟨_, rfl⟩)

/-- a disk over an image -/
def openDk (L : List (List UInt8)) : Dk := { lasts := L, pend := [], left := 0, keep := [], down := false, n := 0 }
/-- the first k sectors of the image -/
theorem flat_drop (L : List (List UInt8)) (h : ∀ b ∈ L, b.length = 512) (k : Nat) (hk : k < L.length) : (L.flatten.drop (k * 512)).take 512 = L[k] := by
  have e : L.flatten = (L.take k).flatten ++ (L[k] ++ (L.drop (k + 1)).flatten) := by
    have h1 : L = L.take k ++ (L[k] :: L.drop (k + 1)) := by rw [← List.drop_eq_getElem_cons hk, List.take_append_drop]
    conv => lhs; rw [h1]
    rw [List.flatten_append, List.flatten_cons]
  have hl : ((L.take k).flatten).length = k * 512 := by rw [flat_len _ (fun b hb => h b (List.mem_of_mem_take hb)), List.length_take, Nat.min_eq_left (by omega)]
  rw [e, ← hl, List.drop_left, List.take_left' (h _ (List.getElem_mem hk))]

theorem KT.setRow {w : World} {a : Option Nat} {base g : Nat} {Ts : List TypeId} (hg : base ≤ g) (ha : some g = a) (cs : Array Value) : KT a base Ts w (w.setRow g cs) :=
  ⟨by simp, by simp, by simp, by simp, fun k _ hs => setRow_other w g k cs (fun e => by
    rcases hs with h | ⟨h, _⟩
    · omega
    · exact h (by rw [e]; exact ha))⟩
/-- the first k sectors are the image's already -/
def mixL (L Z : List (List UInt8)) (k : Nat) : List (List UInt8) := L.take k ++ Z.drop k
theorem mixL_set (L Z : List (List UInt8)) (k n : Nat) (h1 : L.length = n) (h2 : Z.length = n) (hk : k < n) (b : List UInt8) (hb : L[k]? = some b) : (mixL L Z k).set k b = mixL L Z (k + 1) := by
  unfold mixL
  have hl : (L.take k).length = k := by rw [List.length_take]; omega
  rw [List.set_append_right _ _ (by omega), hl, Nat.sub_self, List.drop_eq_getElem_cons (show k < Z.length by omega), List.set_cons_zero, List.take_add_one, hb]
  simp
theorem mixL_length (L Z : List (List UInt8)) (k n : Nat) (h1 : L.length = n) (h2 : Z.length = n) (hk : k ≤ n) : (mixL L Z k).length = n := by simp [mixL]; omega
theorem mixL_512 (L Z : List (List UInt8)) (k : Nat) (h1 : ∀ b ∈ L, b.length = 512) (h2 : ∀ b ∈ Z, b.length = 512) : ∀ b ∈ mixL L Z k, b.length = 512 := fun b hb => by
  rcases List.mem_append.1 hb with h | h
  · exact h1 b (List.mem_of_mem_take h)
  · exact h2 b (List.mem_of_mem_drop h)
theorem mixL_all (L Z : List (List UInt8)) (n : Nat) (h1 : L.length = n) (h2 : Z.length = n) : mixL L Z n = L := by
  unfold mixL
  rw [List.take_of_length_le (by omega), List.drop_of_length_le (by omega), List.append_nil]

set_option maxHeartbeats 1600000 in
theorem dopen_any (L : List (List UInt8)) (n : Nat) (hLn : L.length = n) (hL : ∀ b ∈ L, b.length = 512) (h1 : 1 ≤ n) (h2 : n ≤ 16384) (A : Option Addr) (cap : Nat) (hcap : n * 512 ≤ cap) (w : World) (hb : Bytes w A L.flatten) :
    Calls Tryd.prog 28 #[.slice A (n * 512) cap] w fun e w' => (∃ a d, e = .returned (.tuple #[.pointer (some ⟨d, 0, none⟩), .int .i64 0]) ∧ DiskAt w' w.heap.size a d (openDk L)) ∧ Below w.heap.size w w' := by
  have HLN := Lib.hid hLn
  have HL := Lib.hid hL
  have HB := Lib.hid hb
  clear hLn hL hb
  go_enter Tryd.func28, Tryd.ntmps28
  go_wp2_with (go_at_call 5
               refine (dnew_any n h1 h2 _).mono ?_
               rintro e w1 ⟨⟨a, d, rfl, hD1⟩, hb1⟩
               obtain ⟨hO, hd, cA, P, cp, K, ck, wrt, flt, T, tn, ct, tc, hI, hA, hP, hK, hT, hn⟩ := hD1
               have c0 := (dcells hI).c0
               rw [show (newDk n).lasts.length = n from List.length_replicate] at c0
               have HI := Lib.hid hI
               have HA := Lib.hid hA
               have HP := Lib.hid hP
               have HK := Lib.hid hK
               have HT := Lib.hid hT
               have HD := Lib.hid hd
               have HN := Lib.hid hn
               have HB1 := Lib.hid hb1
               clear hO hI hA hP hK hT hd hn hb1)
  have HZ := Lib.hid (show (List.replicate n zero512).length = n from List.length_replicate)
  have HZ5 := Lib.hid (show ∀ b ∈ List.replicate n zero512, b.length = 512 from fun b hb => by rw [(List.mem_replicate.1 hb).2]; unfold zero512; exact List.length_replicate)
  have HA0 := Lib.hid (show Own w1 w.heap.size 74 512 (some ⟨a, 0, none⟩) n cA (secC (mixL L (List.replicate n zero512) 0)) from by
    have := HA.out
    rw [show (newDk n).lasts.length = n from List.length_replicate] at this
    exact this)
  have hag : w.heap.size ≤ a := HA0.out.ge a rfl
  have hane : a ≠ d := fun e => by
    obtain ⟨_, cur, hi⟩ := HA0.out.typed a rfl
    have h5 := HI.out
    rw [← e] at h5
    have h6 := hi.symm.trans h5
    injection h6 with h6
    injection h6 with _ h6
    exact absurd h6 (by decide)
  have HAG := Lib.hid hag
  have HNE := Lib.hid hane
  generalize List.replicate n zero512 = Z at HZ HZ5 HA0
  clear hag hane
  go_loopw [6, 26] (fun _ i' wr => ∃ k : Nat, k ≤ n ∧ i' = .int .i64 k ∧ Own wr w.heap.size 74 512 (some ⟨a, 0, none⟩) n cA (secC (mixL L Z k)) ∧ KT (some a) w.heap.size [] w1 wr) (fun _ i' _ => n - (intOf i').toNat)
  case atStart => exact ⟨0, Nat.zero_le _, rfl, HA0.out, KT.refl _ _ _ _⟩
  case round =>
    obtain ⟨k, hk, rfl, hOw, hKT⟩ := hrel
    have HOw := Lib.hid hOw
    have HKT := Lib.hid hKT
    have hIr := HI.out.kt hKT (.inr ⟨fun e => by injection e with e; exact HNE.out e.symm, by simp⟩)
    have c0r := (dcells hIr).c0
    rw [show (newDk n).lasts.length = n from List.length_replicate] at c0r
    have HBr := Lib.hid (HB.out.later (HB1.out.trans (hKT.below HB1.out.size)))
    clear hOw hKT hIr
    by_cases hlt : k < n
    · have hk0 : (k : Int) < (n : Int) := by omega
      have hk1 : (0 : Int) ≤ (k : Int) := by omega
      obtain ⟨b, hbk⟩ : ∃ b, L[k]? = some b := ⟨L[k]'(by rw [HLN.out]; exact hlt), List.getElem?_eq_getElem _⟩
      have HFD := Lib.hid (show (L.flatten.drop (k * 512)).take 512 = b by
        rw [flat_drop L HL.out k (by rw [HLN.out]; exact hlt)]
        rw [List.getElem?_eq_getElem (by rw [HLN.out]; exact hlt)] at hbk
        injection hbk)
      have HMS := Lib.hid (mixL_set L Z k n HLN.out HZ.out hlt b hbk)
      have HFL := Lib.hid (flat_len L HL.out)
      obtain ⟨m, hm⟩ : ∃ m, k * 512 = m := ⟨_, rfl⟩
      have hw : IntKind.i64.wrap ((k : Int) * 512) = (m : Int) := by rw [IntWalk.i64_in _ (by omega)]; omega
      have hcm : ¬ cap = m := by omega
      have hm0 : (0 : Int) ≤ (m : Int) := by omega
      have hm1 : (m : Int) ≤ (n : Int) * 512 := by omega
      have hm2 : m ≤ n * 512 := by omega
      have HM := Lib.hid hm
      have hge : 512 ≤ n * 512 - m := by omega
      clear hbk hm
      go_wp2_with fail
      go_region_law (refine step_copy_sec rfl (.tmp 35) (.tmp 39) rfl w.heap.size a n cA (mixL L Z k) (by exact HOw.out) (mixL_512 L Z k HL.out HZ5.out) (mixL_length L Z k n HLN.out HZ.out hk) k hlt 512 (by simp [Act.eval, Act.put]) (A.map (·.add m)) (n * 512 - m) (cap - m) (L.flatten.drop m) b (by simp [Act.eval, Act.put, hcm]) (by rw [List.length_drop, HFL.out, HLN.out]) (by have := HBr.out.cut (k := m) (cap := cap) (by rw [HFL.out, HLN.out]; exact hcap); rw [if_neg hcm] at this; exact this) hge (by rw [← HM.out]; exact HFD.out) ?_; intro w7 hM7 hs7)
      rw [HMS.out] at hM7
      obtain ⟨cs7, rfl⟩ := hs7
      have HM7 := Lib.hid hM7
      have HK7 := Lib.hid (HKT.out.trans ((KT.drew wr).trans (KT.setRow (w := wr.drew) HAG.out rfl cs7)))
      clear hM7
      go_wp2_with fail
      go_roundw
      case rel => exact ⟨k + 1, by omega, by go_num, HM7.out, HK7.out⟩
      case measure => simp [intOf]; omega
    · obtain rfl : n = k := by omega
      have HE := Lib.hid (mixL_all L Z n HLN.out HZ.out)
      have hfin : DiskAt wr w.heap.size a d (openDk L) := by
        have hlen : (openDk L).lasts.length = n := HLN.out
        have hne : ∀ {t : TypeId} {g : Nat}, t ≠ 74 → (∃ cur, Is w1 g t cur) → some g ≠ some a := fun {t g} ht ⟨cur, hi⟩ e => by
          injection e with e
          subst e
          obtain ⟨_, cur2, hi2⟩ := HA0.out.typed g rfl
          have h6 := hi.symm.trans hi2
          injection h6 with h6
          injection h6 with _ h6
          exact ht h6
        refine ⟨⟨by rw [hlen]; exact h1, by rw [hlen]; exact h2, HL.out, (fun x hx => by cases hx), Nat.le_refl _, (by show 0 ≤ 9223372036854775807; decide), (by show 0 ≤ 9223372036854775807; decide)⟩, HD.out, cA, P, cp, K, ck, wrt, flt, T, tn, ct, tc, ?_, ?_, ?_, .inl rfl, ?_, HN.out⟩
        · have := HI.out.kt HKT.out (.inr ⟨hne (by decide) ⟨_, HI.out⟩, by simp⟩)
          rw [show (newDk n).lasts.length = n from List.length_replicate] at this
          rw [hlen]
          exact this
        · rw [hlen]; have := HOw.out; rw [HE.out] at this; exact this
        · exact HP.out.kt HKT.out (by simp) (fun g hg => hne (by decide) (HP.out.typed g hg).2)
        · exact HT.out.kt HKT.out (by simp) (fun g hg => hne (by decide) (HT.out.typed g hg).2)
      have HF := Lib.hid hfin
      have HFB := Lib.hid (HB1.out.trans (HKT.out.below HB1.out.size))
      clear hfin
      go_wp2_with fail
      go_ret2
      exact ⟨⟨a, d, rfl, HF.out⟩, HFB.out⟩
end Go.Proofs.YtimddchgmocdaaaDoor
