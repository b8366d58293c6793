/-
  ROWS OF BLOCKS AND OF BYTES GROW; reads that must do.
-/
import Derived.Test.YtimddchgmocdaaaDoorHg
set_option linter.unusedVariables false
set_option linter.unusedSimpArgs false
namespace Go.Proofs.YtimddchgmocdaaaDoor
open Go.RowKit Rec

theorem infoBlk : (Tryd.prog.info? 71).map (fun i => (i.zero, i.size, i.bytes)) = some (some (.agg #[.int .i64 0, .slice none 0 0]), 2, 32) := by kernel_rfl
theorem infoBs : (Tryd.prog.info? 42).map (fun i => (i.zero, i.size, i.bytes)) = some (some (.slice none 0 0), 1, 24) := by kernel_rfl
section
variable {w w2 : World} {base a lb db sb cap : Nat} {A : Option Addr} {ws : List (Nat × List UInt8)} {data : List (List UInt8)} {Ts : List TypeId}
theorem Buf.kt0 {b : List UInt8} (h : Buf w base (some a) A b) (k : KT none sb Ts w w2) (hb : base ≤ sb) (h1 : 5 ∉ Ts) (h2 : 74 ∉ Ts) : Buf w2 base (some a) A b := h.kt2 k hb h1 h2 (fun g e => by cases e)
theorem BlkRow.kt0 (h : BlkRow w base a lb A cap ws) (k : KT none sb Ts w w2) (hb : base ≤ sb) (h0 : 71 ∉ Ts) (h1 : 5 ∉ Ts) (h2 : 74 ∉ Ts) : BlkRow w2 base a lb A cap ws := by
  obtain ⟨cs, hO, hc⟩ := h
  refine ⟨cs, hO.kt k h0 (fun g _ e => by cases e), fun j hj => ?_⟩
  obtain ⟨B, c, q1, q2, q3, q4⟩ := hc j hj
  exact ⟨B, c, q1, q2, q3, q4.kt0 k hb h1 h2⟩
theorem DataRow.kt0 (h : DataRow w base a db A cap data) (k : KT none sb Ts w w2) (hb : base ≤ sb) (h0 : 42 ∉ Ts) (h1 : 5 ∉ Ts) (h2 : 74 ∉ Ts) : DataRow w2 base a db A cap data := by
  obtain ⟨cs, hO, hc⟩ := h
  refine ⟨cs, hO.kt k h0 (fun g _ e => by cases e), fun j hj => ?_⟩
  obtain ⟨B, c, q1, q2, q3⟩ := hc j hj
  exact ⟨B, c, q1, q2, q3.kt0 k hb h1 h2⟩
end
theorem BlkRow.nil (w : World) (base a lb : Nat) : BlkRow w base a lb none 0 [] := ⟨[], Own.nil _ _ _ _, fun k h => by simp at h⟩
theorem DataRow.nil (w : World) (base a db : Nat) : DataRow w base a db none 0 [] := ⟨[], Own.nil _ _ _ _, fun k h => by simp at h⟩
set_option maxRecDepth 100000 in
theorem wpList_append_blk {ops : Array Oper} {rest : List Oper} {o : Oper} {a' : Act} {w : World} {Q : Exit → Act → World → Prop} (hgd : o.guard = none) (s x : Operand)
    (ho : o.op = .call { callee := .builtin .append, args := #[s, x], argTypes := #[69, 69] })
    (base a lb : Nat) (A : Option Addr) (cap : Nat) (ws : List (Nat × List UInt8)) (hs : a'.eval s = .slice A ws.length cap) (hrow : BlkRow w base a lb A cap ws)
    (g c i : Nat) (B : Option Addr) (bc : Nat) (b : List UInt8) (hx : a'.eval x = .slice (some ⟨g, 0, none⟩) 1 c) (hc1 : w.cell? ⟨g, 0, none⟩ = some (.int .i64 (i : Int))) (hc2 : w.cell? ⟨g, 1, none⟩ = some (.slice B 512 bc))
    (hb5 : b.length = 512) (hbuf : Buf w base (some a) B b) (hlen : ws.length ≤ 1000000) (hlb : lb ≤ w.heap.size) (hbl : base ≤ lb)
    (h : ∀ A' cap' w', BlkRow w' base a lb A' cap' (ws ++ [(i, b)]) → KT none lb [71] w w' → wpList Tryd.prog ops Q rest (a'.put o.dst (.slice A' (ws ++ [(i, b)]).length cap')) w') :
    wpList Tryd.prog ops Q (o :: rest) a' w := by
  obtain ⟨i0, hi, hz0, hz1, hz2⟩ := info_parts infoBlk
  obtain ⟨cs, hO, hc⟩ := hrow
  have hnew : ∀ j u, [Value.int .i64 (i : Int), Value.slice B 512 bc][j]? = some u → w.cell? ((⟨g, 0, none⟩ : Addr).add j) = some u := fun j u hu => by
    cases j with
    | zero => simp at hu; rw [← hu]; exact hc1
    | succ j =>
      cases j with
      | zero => simp at hu; rw [← hu]; exact hc2
      | succ j => simp at hu
  refine wpList_append_lies w hgd s x _ ho lb 71 i0 _ 2 32 Tryd.underlying69 hi hz0 hz1 hz2 rfl (by decide) (.slice A ws.length cap) ws.length cs hs hO ⟨g, 0, none⟩ 1 c [.int .i64 (i : Int), .slice B 512 bc] hx rfl hnew (by simp [Value.oneCell']) (by decide) (by simp only [maxLen]; omega) (by omega) hlb w.heap.size rfl ?_
  intro gg cap2 w1 hown1 hgrow hat hlt
  have kn : KT none lb [71] w w1 := KT.of_grown hO (Nat.le_refl _) (by simp) hgrow
  have hl : (ws ++ [(i, b)]).length = ws.length + 1 := by simp
  have hcl : cs.length = ws.length * 2 := hO.1
  have := h (some ⟨gg, 0, none⟩) cap2 w1 ⟨cs ++ [.int .i64 (i : Int), .slice B 512 bc], by rw [hl]; exact hown1, fun k hk => ?_⟩ kn
  · rw [hl] at this; exact this
  · rw [hl] at hk
    by_cases hk2 : k < ws.length
    · obtain ⟨B', c', q1, q2, q3, q4⟩ := hc k hk2
      rw [List.getElem_append_left hk2]
      exact ⟨B', c', by rw [List.getElem?_append_left (by omega)]; exact q1, by rw [List.getElem?_append_left (by omega)]; exact q2, q3, q4.kt0 kn hbl (by simp) (by simp)⟩
    · obtain rfl : k = ws.length := by omega
      have e : (ws ++ [(i, b)])[ws.length]'(by simp) = (i, b) := by simp
      rw [e]
      exact ⟨B, bc, by rw [List.getElem?_append_right (by omega), hcl, Nat.sub_self]; rfl, by rw [List.getElem?_append_right (by omega), hcl, show ws.length * 2 + 1 - ws.length * 2 = 1 by omega]; rfl, hb5, hbuf.kt0 kn hbl (by simp) (by simp)⟩
set_option maxRecDepth 100000 in
theorem wpList_append_data {ops : Array Oper} {rest : List Oper} {o : Oper} {a' : Act} {w : World} {Q : Exit → Act → World → Prop} (hgd : o.guard = none) (s x : Operand)
    (ho : o.op = .call { callee := .builtin .append, args := #[s, x], argTypes := #[87, 87] })
    (base a lb : Nat) (A : Option Addr) (cap : Nat) (data : List (List UInt8)) (hs : a'.eval s = .slice A data.length cap) (hrow : DataRow w base a lb A cap data)
    (g c : Nat) (B : Option Addr) (bc : Nat) (b : List UInt8) (hx : a'.eval x = .slice (some ⟨g, 0, none⟩) 1 c) (hc1 : w.cell? ⟨g, 0, none⟩ = some (.slice B 512 bc))
    (hb5 : b.length = 512) (hbuf : Buf w base (some a) B b) (hlen : data.length ≤ 1000000) (hlb : lb ≤ w.heap.size) (hbl : base ≤ lb)
    (h : ∀ A' cap' w', DataRow w' base a lb A' cap' (data ++ [b]) → KT none lb [42] w w' → wpList Tryd.prog ops Q rest (a'.put o.dst (.slice A' (data ++ [b]).length cap')) w') :
    wpList Tryd.prog ops Q (o :: rest) a' w := by
  obtain ⟨i0, hi, hz0, hz1, hz2⟩ := info_parts infoBs
  obtain ⟨cs, hO, hc⟩ := hrow
  have hnew : ∀ j u, [Value.slice B 512 bc][j]? = some u → w.cell? ((⟨g, 0, none⟩ : Addr).add j) = some u := fun j u hu => by
    cases j with
    | zero => simp at hu; rw [← hu]; exact hc1
    | succ j => simp at hu
  refine wpList_append_lies w hgd s x _ ho lb 42 i0 _ 1 24 Tryd.underlying87 hi hz0 hz1 hz2 rfl (by decide) (.slice A data.length cap) data.length cs hs hO ⟨g, 0, none⟩ 1 c [.slice B 512 bc] hx rfl hnew (by simp [Value.oneCell']) (by decide) (by simp only [maxLen]; omega) (by omega) hlb w.heap.size rfl ?_
  intro gg cap2 w1 hown1 hgrow hat hlt
  have kn : KT none lb [42] w w1 := KT.of_grown hO (Nat.le_refl _) (by simp) hgrow
  have hl : (data ++ [b]).length = data.length + 1 := by simp
  have hcl : cs.length = data.length := by rw [hO.1, Nat.mul_one]
  have := h (some ⟨gg, 0, none⟩) cap2 w1 ⟨cs ++ [.slice B 512 bc], by rw [hl]; exact hown1, fun k hk => ?_⟩ kn
  · rw [hl] at this; exact this
  · rw [hl] at hk
    by_cases hk2 : k < data.length
    · obtain ⟨B', c', q1, q2, q3⟩ := hc k hk2
      rw [List.getElem_append_left hk2]
      exact ⟨B', c', by rw [List.getElem?_append_left (by omega)]; exact q1, q2, q3.kt0 kn hbl (by simp) (by simp)⟩
    · obtain rfl : k = data.length := by omega
      have e : (data ++ [b])[data.length]'(by simp) = b := by simp
      rw [e]
      exact ⟨B, bc, by rw [List.getElem?_append_right (by omega), hcl, Nat.sub_self]; rfl, hb5, hbuf.kt0 kn hbl (by simp) (by simp)⟩

theorem must_ok (e : Int) (w : World) : Calls Tryd.prog 56 #[.bool true, .int .i64 e] w fun e w' => e = .returned (.tuple #[]) ∧ w = w' := by
  go_enter Tryd.func56, Tryd.ntmps56
  go_wp2_with fail
  go_end0
  exact ⟨rfl, rfl⟩
theorem sec_buf {w : World} {base a g : Nat} {b : List UInt8} (h : Is w g 74 (u8s b)) (hg : a < g) : Buf w base (some a) (some ⟨g, 0, none⟩) b :=
  .inr ⟨g, 0, _, _, _, rfl, h, .inr ⟨(fun e => by injection e with e; omega), by simp⟩, fun k hk => by
    rw [show (⟨g, 0 + k, none⟩ : Addr) = ⟨g, k, none⟩ by rw [Nat.zero_add], h.cell k]
    simp [u8s, hk]⟩
set_option maxRecDepth 100000 in
theorem wread_ok (base a d : Nat) (D : Dk) (i : Nat) (w : World) (h : DiskAt w base a d D) (hdn : D.down = false) (hi : i < D.lasts.length) :
    Calls Tryd.prog 57 #[.pointer (some ⟨d, 0, none⟩), .int .i64 (i : Int)] w fun e w' => (∃ g, e = .returned (.slice (some ⟨g, 0, none⟩) 512 512) ∧ Buf w' base (some a) (some ⟨g, 0, none⟩) (D.read i)) ∧ Below w.heap.size w w' := by
  obtain ⟨_, _, cur, hA⟩ := h.a_ne
  have hal := hA.lt
  have HD := Lib.hid h
  have HDN := Lib.hid hdn
  have HI := Lib.hid hi
  clear h hdn hi hA
  go_enter Tryd.func57, Tryd.ntmps57
  go_wp2_with (first
    | (go_at_call 23
       refine (dread_ok base a d D i w HD.out HDN.out HI.out).mono ?_
       rintro e w1 ⟨⟨g, rfl, hg, hIg⟩, hb1⟩
       have HB1 := Lib.hid hb1
       have HBF := Lib.hid (sec_buf (base := base) (a := a) hIg (by omega))
       clear hb1 hIg)
    | (go_at_call 56
       refine (must_ok 0 w1).mono ?_
       rintro e w2 ⟨rfl, rfl⟩))
  go_ret
  exact ⟨⟨g, rfl, HBF.out⟩, HB1.out⟩
end Go.Proofs.YtimddchgmocdaaaDoor
