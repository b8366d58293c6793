/-
  THE WALK OF BitsRuns: the rows by what the bytes were; again, left early, inside itself; other bytes at the same place in memory.
-/
import Derived.Test.YtlpochabgdcidaaBtG
import Derived.Deep.CutRange
import Derived.Laws.EntriesVeiled
set_option linter.unusedVariables false
set_option linter.unusedSimpArgs false
namespace Go.Proofs.Ytlpochabgdcidaa
open Go.RowKit Go.Shelf Bt
attribute [local go_sem] Oper.semAt_some run_fnil

/-- the first k bytes are the other's already -/
def mixed (x l : List UInt8) (k : Nat) : List UInt8 := x.take k ++ l.drop k
theorem mixed_zero (x l : List UInt8) : mixed x l 0 = l := by simp [mixed]
theorem mixed_all (x l : List UInt8) (n : Nat) (h : x.length = n) (h2 : l.length = n) : mixed x l n = x := by
  subst h
  unfold mixed
  rw [List.take_length, List.drop_of_length_le (by omega), List.append_nil]
theorem mixed_length (x l : List UInt8) (k n : Nat) (h : x.length = n) (h2 : l.length = n) (hk : k ≤ n) : (mixed x l k).length = n := by
  simp [mixed]; omega
theorem mixed_at (x l : List UInt8) (k n : Nat) (h : x.length = n) (h2 : l.length = n) (hk : k < n) (b : UInt8) (hb : x[k]? = some b) : (mixed x l k).set k b = mixed x l (k + 1) := by
  unfold mixed
  have hl : (x.take k).length = k := by rw [List.length_take]; omega
  rw [List.set_append_right _ _ (by omega), hl, Nat.sub_self, List.drop_eq_getElem_cons (show k < l.length by omega), List.set_cons_zero, List.take_add_one, hb]
  simp
theorem mixed_put (x l r : List UInt8) (k n : Nat) (h : x.length = n) (h2 : l.length = n) (hk : k < n) (b : UInt8) (hb : x[k]? = some b) : (mixed x l k ++ r).set k b = mixed x l (k + 1) ++ r := by
  rw [List.set_append_left _ _ (by rw [mixed_length x l k n h h2 (by omega)]; exact hk), mixed_at x l k n h h2 hk b hb]
/-- the other bytes -/
def others (l m : List UInt8) : List UInt8 := (List.range l.length).map fun i => if i < m.length then m.getD i 0 else 255 - l.getD i 0
theorem others_length (l m : List UInt8) : (others l m).length = l.length := by simp [others]
theorem others_in (l m : List UInt8) (k : Nat) (hk : k < l.length) (h : k < m.length) : (others l m)[k]? = some m[k] := by
  unfold others
  rw [List.getElem?_map, List.getElem?_range hk, Option.map_some, if_pos h, List.getD_eq_getElem?_getD, List.getElem?_eq_getElem h]
  rfl
theorem others_out (l m : List UInt8) (k : Nat) (hk : k < l.length) (h : m.length ≤ k) : (others l m)[k]? = some (255 - l[k]) := by
  unfold others
  rw [List.getElem?_map, List.getElem?_range hk, Option.map_some, if_neg (by omega), List.getD_eq_getElem?_getD, List.getElem?_eq_getElem hk]
  rfl
theorem turned_fin : ∀ b : Fin 256, IntKind.u8.wrap (255 - ((UInt8.ofNat b.val).toNat : Int)) = ((255 - UInt8.ofNat b.val).toNat : Int) := by decide +kernel
theorem turned_byte (b : UInt8) : IntKind.u8.wrap (255 - n8 b) = n8 (255 - b) := by
  have := turned_fin ⟨b.toNat, b.toNat_lt⟩
  rw [show UInt8.ofNat (⟨b.toNat, b.toNat_lt⟩ : Fin 256).val = b by simp] at this
  exact this
theorem keeps_of_below {w w' : World} (h : Below w.heap.size w w') : KeepsOthers w w' :=
  ⟨h.size, fun k o hk _ => (h.block k (Array.getElem?_eq_some_iff.1 hk).1).trans hk⟩
/-- what the law's boxes hold -/
def Hnd (S Wb Sb B base : Nat) (A : Option Addr) (len c : Nat) (l : List UInt8) (P : Option Addr) (cp rl : Nat) (mm : Int) (W : World) : Prop :=
  (W.cell? ⟨S, 0, none⟩ = some (.int .i64 mm) ∧ W.cell? ⟨Wb, 0, none⟩ = some (.slice P rl cp) ∧ W.cell? ⟨Sb, 0, none⟩ = some (.func (.func 23) #[] #[.pointer (some ⟨B, 0, none⟩)]) ∧ W.cell? ⟨B, 0, none⟩ = some (.slice A len c)) ∧
    Is W (S + 1) 4 #[.bool false] ∧ Mine W base A c l ∧ Prs W base P cp (runs l)
section
variable {S Wb Sb B base len c cp rl : Nat} {A P : Option Addr} {l : List UInt8} {mm : Int} {W W2 : World}
theorem Hnd.keeps {T : Nat → Prop} (h : Hnd S Wb Sb B base A len c l P cp rl mm W) (k : Keeps T W W2) (hS : ¬ T S) (hS1 : ¬ T (S + 1)) (hW : ¬ T Wb) (hSb : ¬ T Sb) (hB : ¬ T B) (hA : ∀ i, Of A i → ¬ T i) (hP : ∀ i, Of P i → ¬ T i) :
    Hnd S Wb Sb B base A len c l P cp rl mm W2 := by
  obtain ⟨⟨h1, h2, h3, h4⟩, h5, h6, h7⟩ := h
  have key : ∀ {b : Nat} {v : Value}, W.cell? ⟨b, 0, none⟩ = some v → ¬ T b → W2.cell? ⟨b, 0, none⟩ = some v := fun {b v} hc hn => (World.cell?_of_block (a := ⟨b, 0, none⟩) (k.block b (block_lt_of_cell hc) hn)).trans hc
  exact ⟨⟨key h1 hS, key h2 hW, key h3 hSb, key h4 hB⟩, h5.keeps k hS1, h6.keeps k hA, h7.keeps k hP⟩
theorem Hnd.later (h : Hnd S Wb Sb B base A len c l P cp rl mm W) (hb : Below W.heap.size W W2) : Hnd S Wb Sb B base A len c l P cp rl mm W2 :=
  h.keeps (T := fun _ => False) (Keeps.of_below hb) id id id id id (fun _ _ => id) (fun _ _ => id)
theorem Hnd.goes (h : Hnd S Wb Sb B base A len c l P cp rl mm W) (hl : l.length = len) (hrl : (runs l).length = rl) (hm : len ≤ 1048576) (most : Int) :
    Calls Try.prog 12 #[.func (.func 23) #[] #[.pointer (some ⟨B, 0, none⟩)], .slice P rl cp, .int .i64 most] W fun e w' => e = .returned (.bool true) ∧ Below W.heap.size W w' :=
  goes_any most B len c A l hl base P cp rl hrl W hm h.1.2.2.2 h.2.2.1.bytes (fun b off e => by
    rcases h.2.2.1.shape with h1 | ⟨g, h1⟩
    · rw [h1] at e; cases e
    · have := h.2.2.1.lt g h1
      rw [h1] at e
      injection e with e
      injection e with e
      omega) h.2.2.2
end
theorem mine_block {w : World} {base c : Nat} {A : Option Addr} {l : List UInt8} (h : Mine w base A c l) : ∀ b off, A = some ⟨b, off, none⟩ → b < w.heap.size := fun b off e => by
  rcases h.shape with h1 | ⟨g, h1⟩
  · rw [h1] at e; cases e
  · have := h.lt g h1
    rw [h1] at e
    injection e with e
    injection e with e
    omega
def m77 : List UInt8 := [77]
theorem m77_cells : #[Value.int .u8 77] = u8s m77 := by rfl

set_option maxRecDepth 100000 in
set_option maxHeartbeats 1600000 in
theorem runs_law (A0 A1 : Option Addr) (ca0 ca1 : Nat) (l m : List UInt8) (most : Int) (w : World) (hA : Bytes w A0 l) (hC : A0 = none → ca0 = 0) (hA1 : Bytes w A1 m) (hm : l.length ≤ 1048576) (hm1 : m.length ≤ 140737488355328) :
    Calls Try.prog 4 #[.slice A0 l.length ca0, .slice A1 m.length ca1, .int .i64 most] w fun e w' => e = .returned (.bool true) ∧ Below w.heap.size w w' := by
  obtain ⟨len, hlen⟩ : ∃ len, l.length = len := ⟨_, rfl⟩
  obtain ⟨ml, hml⟩ : ∃ ml, m.length = ml := ⟨_, rfl⟩
  rw [hlen] at hm ⊢
  rw [hml] at hm1 ⊢
  obtain ⟨hbn, hi0, hi1⟩ := two_new w #[.int .i64 most] #[.bool false] 3 4
  have HA := Lib.hid hA
  have HA1 := Lib.hid hA1
  have HC := Lib.hid hC
  have HL := Lib.hid hlen
  have HML := Lib.hid hml
  have HI0 := Lib.hid hi0
  have HI1 := Lib.hid hi1
  have HBn := Lib.hid hbn
  clear hA hA1 hC hlen hml hbn hi0 hi1
  refine (callsIn_wide (n := 6)).1 ?_
  refine callsIn_of_wp_marks Try.func4 rfl trivial ?_ rfl
  simp only [Try.ntmps4, List.size_toArray, List.length_cons, List.length_nil, Nat.reduceAdd, Nat.reduceSub, Array.replicate_succ, Array.replicate_zero, List.push_toArray, List.append_toArray, List.nil_append, List.cons_append]
  refine wpIn_wide.2 ?_
  go_upto_if 20 with (go_at_call 7; refine (fixed_any _).mono ?_; rintro e w1 ⟨rfl, hb1⟩; have c0 := (HI0.out.below hb1 HI0.out.lt).cell 0; have f0 := (HI0.out.below hb1 HI0.out.lt).free 0; have HI2 := Lib.hid (HI1.out.below hb1 HI1.out.lt))
  have HB1 := Lib.hid (HBn.out.trans (hb1.mono HBn.out.size))
  have hs1 : w.heap.size + 2 ≤ w1.heap.size := by have := hb1.size; simp at this; omega
  clear hb1
  go_cut [5] from 19 to 23 (fun s5 wx => s5 = .pointer (some ⟨w.heap.size, 0, none⟩) ∧ ∃ mm : Int, wx.cell? ⟨w.heap.size, 0, none⟩ = some (.int .i64 mm) ∧ Is wx (w.heap.size + 1) 4 #[.bool false] ∧ Below w.heap.size w wx ∧ w.heap.size + 2 ≤ wx.heap.size)
  case first =>
    by_cases hneg : most < 0
    · go_wp2_with fail
      go_meet
      exact ⟨rfl, _, World.cell?_setCell_same' _ _ _ (by rw [c0]; rfl), (heap_setCell_other w1 ⟨w.heap.size, 0, none⟩ (w.heap.size + 1) _ (by show w.heap.size + 1 ≠ w.heap.size; omega)).trans HI2.out, HB1.out.setCell (p := ⟨w.heap.size, 0, none⟩) (Nat.le_refl _) _, by rw [World.size_setCell]; exact hs1⟩
    · go_wp2_with fail
      go_meet
      exact ⟨rfl, most, c0, HI2.out, HB1.out, hs1⟩
  case rest =>
    obtain ⟨rfl, mm, cS, hi1, hbc, hsc⟩ := hcut
    have HS1 := Lib.hid hi1
    have HBc := Lib.hid hbc
    have HCS := Lib.hid cS
    obtain ⟨rl, hrl⟩ : ∃ rl, (runs l).length = rl := ⟨_, rfl⟩
    have HRL := Lib.hid hrl
    clear hi1 hbc hrl HI0 HI1 HI2 HB1 hs1 c0 f0 cS HBn
    go_wp2_with (first
      | (at_builtin; refine wpList_append_u8 rfl (.tmp 24) (.tmp 25) rfl wc.heap.size (some ⟨wc.heap.size, 0, none⟩) 0 [] rfl (Mine.empty wc (Nat.le_refl _)) A0 ca0 l (by rw [HL.out]; rfl) HC.out ((HA.out.later HBc.out).later (below_new wc _)) (by rw [HL.out]; simp; omega) (by simp) ?_; intro A2 c2 w2 hm2 hg2 hb2; rw [show (([] : List UInt8) ++ l).length = len from HL.out]; have HM2 := Lib.hid (show Mine w2 wc.heap.size A2 c2 l from hm2); have HB2 := Lib.hid ((below_new wc (.cells #[] 5)).trans hb2); have hs2 := HB2.out.size)
      | (at_builtin; refine wpList_append_u8 rfl (.tmp 26) (.tmp 27) rfl wc.heap.size A2 c2 l (by rw [HL.out]; rfl) (HM2.out.later (below_new w2 _)) (some ⟨w2.heap.size, 0, none⟩) 1 m77 rfl (by simp) (bytes_new w2 _ _ m77) (by show l.length + 1 ≤ _; rw [HL.out]; omega) (by simp; omega) ?_; intro A4 c4 w4 hm4 hg4 hb4; rw [show (l ++ m77).length = len + 1 by simp [m77, HL.out]]; have HB4 := Lib.hid (HB2.out.trans (((below_new w2 (.cells (u8s m77) 5)).mono hs2).trans hb4)); have hs4 := HB4.out.size; obtain ⟨g, hA4, hge, hlt⟩ := hm4.form (by simp [m77]); subst hA4; have hcl : len ≤ c4 := (by have := hm4.cap_le.1; simp [HL.out] at this; omega); have HM4 := Lib.hid hm4)
      | (go_at_call 10; refine (ref_runs_any A0 len ca0 l HL.out _ (HA.out.later (HBc.out.trans (HB4.out.mono HBc.out.size))) hm).mono ?_; rintro e w5 ⟨⟨P, cp, rfl, hP⟩, hb5⟩; rw [HRL.out]; have HP5 := Lib.hid hP; have HB5 := Lib.hid hb5; have HN5 := Lib.hid (one_new w5 #[.slice P rl cp] 30))
      | (go_at_call 11; refine (runs_any (some ⟨g, 0, none⟩) len c4 l HL.out _ ((HM4.out.later HB5.out).later (below_new w5 _)).head (fun h => by cases h) (by omega)).mono ?_; rintro e w6 ⟨⟨v, rfl, B, A3, c3, rfl, hcB, hmA, hBge⟩, hb6⟩; rw [HL.out] at hcB; have HCB := Lib.hid hcB; have HMA := Lib.hid hmA; have HBge := Lib.hid hBge; have HB6 := Lib.hid hb6; have HN6 := Lib.hid (one_new w6 #[.func (.func 23) #[] #[.pointer (some ⟨B, 0, none⟩)]] 33); have cs6 := HN6.out.2.cell 0)
      | (go_at_call 9
         have hs5 : w4.heap.size ≤ w5.heap.size := HB5.out.size
         have hs6 : w5.heap.size + 1 ≤ w6.heap.size := by have := HB6.out.size; simp at this; exact this
         have hB48 : Below w4.heap.size w4 (w6.alloc (.cells #[.func (.func 23) #[] #[.pointer (some ⟨B, 0, none⟩)]] 33)) := ((HB5.out.alloc hs5 _).trans (HB6.out.mono (by simp; omega))).alloc (by omega) _
         have hBc8 : Below wc.heap.size wc (w6.alloc (.cells #[.func (.func 23) #[] #[.pointer (some ⟨B, 0, none⟩)]] 33)) := HB4.out.trans (hB48.mono hs4)
         have hH8 : Hnd w.heap.size w5.heap.size w6.heap.size B w4.heap.size A3 len c3 l P cp rl mm (w6.alloc (.cells #[.func (.func 23) #[] #[.pointer (some ⟨B, 0, none⟩)]] 33)) :=
           ⟨⟨(hBc8.cell (p := ⟨w.heap.size, 0, none⟩) (by show w.heap.size < _; omega)).trans HCS.out, ((HN5.out.2.below HB6.out HN5.out.2.lt).alloc _).cell 0, cs6, ((below_new w6 _).cell (p := ⟨B, 0, none⟩) (block_lt_of_cell HCB.out)).trans HCB.out⟩,
             HS1.out.below hBc8 (by omega), (HMA.out.base_le (by simp; omega)).later (below_new w6 _), ((HP5.out.later (below_new w5 _)).later HB6.out).later (below_new w6 _)⟩
         refine (same_eq (some ⟨g, 0, none⟩) A0 c4 ca0 l len len HL.out HL.out _ (HM4.out.later hB48).head (HA.out.later (HBc.out.trans (hBc8.mono HBc.out.size))) (by omega)).mono ?_
         rintro e w7 ⟨rfl, hb7⟩
         have HH7 := Lib.hid (hH8.later hb7)
         have HM7 := Lib.hid ((HM4.out.later hB48).later hb7)
         have HB7 := Lib.hid (HBc.out.trans ((hBc8.trans (hb7.mono hBc8.size)).mono HBc.out.size))
         have hs7 := HB7.out.size
         have hs67 : w6.heap.size + 1 ≤ w7.heap.size := by have := hb7.size; simp at this; exact this
         have c77 : w7.cell? ⟨g, len, none⟩ = some (.int .u8 77) := by
           have := HM7.out.cell (k := len) (by simp [m77, HL.out])
           rw [this]
           simp [m77, ← HL.out]
           rfl)
      | (at_builtin; refine wpList_append_u8 rfl (.tmp 53) (.tmp 54) rfl w7.heap.size (some ⟨w7.heap.size, 0, none⟩) 0 [] rfl (Mine.empty w7 (Nat.le_refl _)) A0 ca0 l (by rw [HL.out]; rfl) HC.out ((HA.out.later HB7.out).later (below_new w7 _)) (by rw [HL.out]; simp; omega) (by simp) ?_; intro A9 c9 w9 hm9 hg9 hb9; rw [show (([] : List UInt8) ++ l).length = len from HL.out]; have HM9 := Lib.hid (show Mine w9 w7.heap.size A9 c9 l from hm9); have HB9 := Lib.hid ((below_new w7 (.cells #[] 5)).trans hb9)))
    have HH9 := Lib.hid (HH7.out.later HB9.out)
    have HG9 := Lib.hid (HM7.out.later HB9.out)
    have HB09 := Lib.hid (HB7.out.trans (HB9.out.mono hs7))
    have hs79 := HB9.out.size
    have hs5 : w4.heap.size ≤ w5.heap.size := HB5.out.size
    have hs6 : w5.heap.size + 1 ≤ w6.heap.size := by have := HB6.out.size; simp at this; exact this
    have hBg : w4.heap.size ≤ B := by have := HBge.out; simp at this; omega
    have HH7B := Lib.hid HH7.out.1.2.2.2
    have HA3 := Lib.hid (HH7.out.2.2.1.lt)
    have HPL := Lib.hid (HH7.out.2.2.2.lt)
    have HNOT := Lib.hid (show ∀ i, (i < wc.heap.size ∨ w4.heap.size ≤ i) → i < w7.heap.size → ¬ Of2 (some ⟨g, 0, none⟩) A9 i from fun i h1 h2 h3 => by
      rcases h3 with h3 | h3
      · injection h3 with h3
        injection h3 with h3
        omega
      · have := HM9.out.of_ge i h3
        omega)
    have HX := Lib.hid (show (others l m).length = len by rw [others_length]; exact HL.out)
    obtain ⟨x, hx⟩ : ∃ x, others l m = x := ⟨_, rfl⟩
    have HXE := Lib.hid hx
    rw [hx] at HX
    clear hx
    have HG0 := Lib.hid (show Mine w9 wc.heap.size (some ⟨g, 0, none⟩) c4 (mixed x l 0 ++ m77) from by rw [mixed_zero]; exact HG9.out)
    have HN0 := Lib.hid (show Mine w9 w7.heap.size A9 c9 (mixed x l 0 ++ []) from by rw [mixed_zero, List.append_nil]; exact HM9.out)
    have HAP := Lib.hid (show ∀ i, Of (some ⟨g, 0, none⟩) i → Of A9 i → False from fun i h1 h2 => by
      injection h1 with h1
      injection h1 with h1
      have := HM9.out.of_ge i h2
      omega)
    clear HB2 HM2 HM4 HN5 HP5 HCB HMA HN6 cs6 HH7 HM7 c77 HG9 HM9 HB4 HB6 HB9 hm2 hm4 hb2 hb4 hb5 hb6 hmA hcB hb7 hm9 hb9 hg2 hg4 hg9
    go_loopw [12] (fun i wr => ∃ k : Nat, k ≤ len ∧ i = .int .i64 k ∧ Mine wr wc.heap.size (some ⟨g, 0, none⟩) c4 (mixed x l k ++ m77) ∧ Mine wr w7.heap.size A9 c9 (mixed x l k ++ []) ∧ Keeps (Of2 (some ⟨g, 0, none⟩) A9) w9 wr) (fun i _ => len - (intOf i).toNat)
    case atStart => exact ⟨0, Nat.zero_le _, rfl, HG0.out, HN0.out, Keeps.refl _ _⟩
    case round =>
      obtain ⟨k, hk, rfl, hG, hN, hK⟩ := hrel
      have hsr := hK.size
      have hBr : Below w.heap.size w wr := HB09.out.trans (hK.below (by omega) (fun i h => by
        rcases h with h | h
        · injection h with h
          injection h with h
          omega
        · have := HN0.out.of_ge i h; omega))
      have HK := Lib.hid hK
      have HBr := Lib.hid hBr
      clear hK hBr
      by_cases hlt : k < len
      · obtain ⟨g9, rfl, hge9, hlt9⟩ := hN.form (by rw [List.append_nil, mixed_length x l k len HX.out HL.out hk]; omega)
        have hne : g9 ≠ g := fun e => HAP.out g rfl (by rw [e]; rfl)
        obtain ⟨v, hv⟩ : ∃ v, x[k]? = some v := ⟨x[k]'(by rw [HX.out]; exact hlt), List.getElem?_eq_getElem _⟩
        have HV := Lib.hid hv
        have hNp := hN.put k v
        rw [mixed_put x l [] k len HX.out HL.out hlt v hv] at hNp
        have hGp : Mine (wr.setCell ⟨g9, k, none⟩ (.int .u8 (n8 v))) wc.heap.size (some ⟨g, 0, none⟩) c4 (mixed x l k ++ m77) := hG.kept fun g' e => heap_setCell_other wr ⟨g9, k, none⟩ g' _ (fun e2 => by injection e with e; injection e with e; apply hne; rw [e]; exact e2.symm)
        have hGq := hGp.put k v
        rw [mixed_put x l m77 k len HX.out HL.out hlt v hv] at hGq
        have hNq : Mine ((wr.setCell ⟨g9, k, none⟩ (.int .u8 (n8 v))).setCell ⟨g, k, none⟩ (.int .u8 (n8 v))) w7.heap.size (some ⟨g9, 0, none⟩) c9 (mixed x l (k + 1) ++ []) := hNp.kept fun g' e => heap_setCell_other _ ⟨g, k, none⟩ g' _ (fun e2 => by injection e with e; injection e with e; apply hne; rw [e]; exact e2)
        have hKq : Keeps (Of2 (some ⟨g, 0, none⟩) (some ⟨g9, 0, none⟩)) wr ((wr.setCell ⟨g9, k, none⟩ (.int .u8 (n8 v))).setCell ⟨g, k, none⟩ (.int .u8 (n8 v))) :=
          ⟨rfl, rfl, rfl, by simp, fun i _ hi => (heap_setCell_other _ ⟨g, k, none⟩ i _ (fun e => hi (.inl (by rw [e]; rfl)))).trans (heap_setCell_other wr ⟨g9, k, none⟩ i _ (fun e => hi (.inr (by rw [e]; rfl))))⟩
        have hk1 : k < (mixed x l k ++ []).length := by rw [List.append_nil, mixed_length x l k len HX.out HL.out hk]; exact hlt
        have hk2 : k < (mixed x l k ++ m77).length := by rw [List.length_append, mixed_length x l k len HX.out HL.out hk]; omega
        obtain ⟨o1, cN⟩ : ∃ o1, wr.cell? ⟨g9, k, none⟩ = some (.int .u8 o1) := ⟨_, hN.cell hk1⟩
        obtain ⟨o2, cG⟩ : ∃ o2, (wr.setCell ⟨g9, k, none⟩ (.int .u8 (n8 v))).cell? ⟨g, k, none⟩ = some (.int .u8 o2) := ⟨_, hGp.cell hk2⟩
        have fN := hN.free k
        have fG := hGp.free k
        have cNp : (wr.setCell ⟨g9, k, none⟩ (.int .u8 (n8 v))).cell? ⟨g9, k, none⟩ = some (.int .u8 (n8 v)) := World.cell?_setCell_same' _ _ _ (by rw [cN]; rfl)
        have HGq := Lib.hid hGq
        have HNq := Lib.hid hNq
        have HKq := Lib.hid hKq
        have HNE := Lib.hid hne
        clear hNp hGp hGq hNq hKq hk1 hk2 hv hne hG hN
        by_cases hml : k < ml
        · have hkm : k < m.length := by rw [HML.out]; exact hml
          obtain ⟨b, off, rfl, hc⟩ := (HA1.out.later HBr.out).at_ hkm
          have hvm : m[k] = v := by
            have h1 := others_in l m k (by rw [HL.out]; exact hlt) hkm
            rw [HXE.out, HV.out] at h1
            injection h1 with h1
            exact h1.symm
          rw [hvm] at hc
          clear hvm hkm
          go_wp2_with fail
          go_roundw
          case rel => exact ⟨k + 1, by omega, by go_num, HGq.out, HNq.out, HK.out.trans HKq.out⟩
          case measure => simp [intOf]; omega
        · have hkl : k < l.length := by rw [HL.out]; exact hlt
          obtain ⟨b, off, rfl, hc⟩ := (HA.out.later HBr.out).at_ hkl
          have hvm : 255 - l[k] = v := by
            have h1 := others_out l m k hkl (by rw [HML.out]; omega)
            rw [HXE.out, HV.out] at h1
            injection h1 with h1
            exact h1.symm
          have htb := turned_byte l[k]
          rw [hvm] at htb
          obtain ⟨bk, hbk⟩ : ∃ bk, l[k] = bk := ⟨_, rfl⟩
          rw [hbk] at hc htb
          clear hvm hkl hbk
          go_wp2_with fail
          go_roundw
          case rel => exact ⟨k + 1, by omega, by go_num, HGq.out, HNq.out, HK.out.trans HKq.out⟩
          case measure => simp [intOf]; omega
      · obtain rfl : len = k := by omega
        rw [mixed_all x l len HX.out HL.out] at hG hN
        obtain ⟨wf, rfl⟩ : ∃ wf : World, wf = wr := ⟨_, rfl⟩
        have HGf := Lib.hid hG
        have HNf := Lib.hid (show Bytes wf A9 x from by rw [List.append_nil] at hN; exact hN.bytes)
        have HHf := Lib.hid (HH9.out.keeps HK.out (HNOT.out _ (.inl (by omega)) (by omega)) (HNOT.out _ (.inl (by omega)) (by omega)) (HNOT.out _ (.inr (by omega)) (by omega)) (HNOT.out _ (.inr (by omega)) (by omega))
          (HNOT.out _ (.inr hBg) (by have := block_lt_of_cell HH7B.out; omega)) (fun i h => HNOT.out _ (.inr (HH9.out.2.2.1.of_ge i h)) (by have := HA3.out i h; omega)) (fun i h => HNOT.out _ (.inr (HH9.out.2.2.2.ge i h)) (by have := HPL.out i h; omega)))
        have hNs : (A9 = none ∨ ∃ g', A9 = some ⟨g', 0, none⟩) := hN.shape
        have HNB := Lib.hid hN
        clear hG hN hlt hk HG0 HN0 HH9 HNOT
        obtain ⟨rl2, hrl2⟩ : ∃ rl2, (runs x).length = rl2 := ⟨_, rfl⟩
        have HRL2 := Lib.hid hrl2
        have hrl8 : rl ≤ 8388608 := by rw [← HRL.out]; have := rows_length l (8 * l.length); have h2 := HL.out; unfold runs; omega
        have hsf : w.heap.size ≤ wf.heap.size := HBr.out.size
        clear hrl2
        go_wp2_with (first
          | (go_at_call 11
             refine (runs_any (some ⟨g, 0, none⟩) len c4 x HX.out _ HGf.out.head (fun h => by cases h) (by omega)).mono ?_
             rintro e wt ⟨⟨v, rfl, B2, A10, c10, rfl, hcB, hmA, hBge2⟩, hbt⟩
             rw [HX.out] at hcB
             have HCB := Lib.hid hcB
             have HMA := Lib.hid hmA
             have HHt := Lib.hid (HHf.out.later hbt)
             have HNt := Lib.hid (HNf.out.later hbt)
             have HGt := Lib.hid (HGf.out.later hbt)
             have HNBt := Lib.hid (HNB.out.later hbt)
             have HBt := Lib.hid (HBr.out.trans (hbt.mono hsf))
             have cs := HHt.out.1.2.2.1
             have cw := HHt.out.1.2.1)
          | (go_at_call 12
             with_reducible refine (HHt.out.goes HL.out HRL.out hm ((rl : Int) + 1)).mono ?_
             rintro e wu ⟨rfl, hbu⟩
             have HHu := Lib.hid (HHt.out.later hbu)
             have HNu := Lib.hid (HNt.out.later hbu)
             have HGu := Lib.hid (HGt.out.later hbu)
             have HNBu := Lib.hid (HNBt.out.later hbu)
             have HBu := Lib.hid (HBt.out.trans (hbu.mono HBt.out.size))
             have HCBu := Lib.hid ((hbu.cell (p := ⟨B2, 0, none⟩) (block_lt_of_cell HCB.out)).trans HCB.out)
             have HMAu := Lib.hid (HMA.out.later hbu))
          | (go_at_call 10
             refine (ref_runs_any A9 len c9 x HX.out _ HNu.out hm).mono ?_
             rintro e wv ⟨⟨P2, cp2, rfl, hP⟩, hbv⟩
             rw [HRL2.out]
             have HPv := Lib.hid hP
             have HHv := Lib.hid (HHu.out.later hbv)
             have HNBv := Lib.hid (HNBu.out.later hbv)
             have HGv := Lib.hid (HGu.out.later hbv)
             have HBv := Lib.hid (HBu.out.trans (hbv.mono HBu.out.size))
             have HCBv := Lib.hid ((hbv.cell (p := ⟨B2, 0, none⟩) (block_lt_of_cell HCBu.out)).trans HCBu.out)
             have HMAv := Lib.hid (HMAu.out.later hbv))
          | (go_at_call 12
             with_reducible refine (goes_any (8 * (len : Int) + 1) B2 len c10 A10 x HX.out _ P2 cp2 rl2 HRL2.out _ hm HCBv.out HMAv.out.bytes (mine_block HMAv.out) HPv.out).mono ?_
             rintro e wx ⟨rfl, hbx⟩
             have HHx := Lib.hid (HHv.out.later hbx)
             have HNBx := Lib.hid (HNBv.out.later hbx)
             have HGx := Lib.hid (HGv.out.later hbx)
             have HBx := Lib.hid (HBv.out.trans (hbx.mono HBv.out.size))
             have cs2 := HHx.out.1.2.2.1
             have cw2 := HHx.out.1.2.1
             have cm2 := HHx.out.1.1)
          | (go_at_call 12
             with_reducible refine (HHx.out.goes HL.out HRL.out hm _).mono ?_
             rintro e wy ⟨rfl, hby⟩
             have HHy := Lib.hid (HHx.out.later hby)
             have HNBy := Lib.hid (HNBx.out.later hby)
             have HGy := Lib.hid (HGx.out.later hby)
             have HBy := Lib.hid (HBx.out.trans (hby.mono HBx.out.size))
             have cs3 := ((below_new wy (.cells #[.int .i64 0] 3)).cell (p := ⟨w6.heap.size, 0, none⟩) (block_lt_of_cell HHy.out.1.2.2.1)).trans HHy.out.1.2.2.1))
        obtain ⟨hbN, hiN⟩ := one_new wy #[.int .i64 0] 3
        have HH0 := Lib.hid (HHy.out.later hbN)
        have hBlt : B < wy.heap.size := block_lt_of_cell HHy.out.1.2.2.2
        have hszN : (wy.alloc (.cells #[.int .i64 0] 3)).heap.size = wy.heap.size + 1 := by simp
        have hsy : w.heap.size ≤ wy.heap.size := HBy.out.size
        have hI0 : ((wy.alloc (.cells #[.int .i64 0] 3)).cell? ⟨wy.heap.size, 0, none⟩ = some (.int .i64 (((([] : List (RowOf l)).length : Nat)) : Int)) ∧ (wy.alloc (.cells #[.int .i64 0] 3)).frozen? ⟨wy.heap.size, 0, none⟩ = false) ∧ Below wy.heap.size wy (wy.alloc (.cells #[.int .i64 0] 3)) := ⟨⟨hiN.cell 0, hiN.free 0⟩, hbN⟩
        have HHY := HHy
        generalize (wy.alloc (.cells #[.int .i64 0] 3)) = W0 at hbN hiN HH0 hszN hI0 cs3 ⊢
        refine (wpIn_wide (n := 6)).1 ?_
        refine wpIn_rangeFunc_ownF (n := 6) (w0 := W0) rfl (by decide) (gf := 23) (lb := #[.pointer (some ⟨B, 0, none⟩)]) rfl trivial (enters_of Try.func23 (by kernel_rfl) rfl)
          (runs_stops 5 (by decide) B wy.heap.size len c3 A3 l HL.out (by omega) hBlt (mine_block HHy.out.2.2.1) W0 (by omega) HH0.out.1.2.2.2 HH0.out.2.2.1.bytes) belowK_t (belowK_b (by omega)) (Below.refl _ _) (fun _ => rfl)
          (fun pre W => (W.cell? ⟨wy.heap.size, 0, none⟩ = some (.int .i64 ((pre.length : Nat) : Int)) ∧ W.frozen? ⟨wy.heap.size, 0, none⟩ = false) ∧ Below wy.heap.size wy W)
          (fun c (pre : List (RowOf l)) W => c = .ret ∧ ¬ (pre.map (·.1) <+: runs l))
          (OwnFrom.and (Own.from (fun s A B row hs hg hr => ⟨cell_kept hs.1 hg hr, (frozen_kept hs.1 hg hr).trans hs.2⟩) _) (ownFrom_below (Nat.le_refl _) (by omega)))
          ?hIx hI0
          ?a₁ ?assign ?body ?done ?stop
        case hIx =>
          intro c s X Y row hs hg hr
          exact hs
        case assign =>
          intro r x W K hK
          unfold rowArgs
          gi_wp2
          exact hK
        case body =>
          rintro r pre ⟨⟨a, k⟩, hrow⟩ W ⟨⟨cn, fn⟩, hbW⟩ hlt
          rw [HRL.out] at hlt
          have HW := Lib.hid (HHy.out.later hbW)
          have HbW := Lib.hid hbW
          obtain ⟨q, hq⟩ : ∃ q, pre.length = q := ⟨_, rfl⟩
          rw [hq] at hlt cn
          have hql : q < (runs l).length := by rw [HRL.out]; exact hlt
          obtain ⟨gp, rfl, p0, p1, _⟩ := HW.out.2.2.2.cell hql
          obtain ⟨xa, hxa⟩ : ∃ xa, (runs l)[q].1 = xa := ⟨_, rfl⟩
          obtain ⟨xk, hxk⟩ : ∃ xk, (runs l)[q].2 = xk := ⟨_, rfl⟩
          rw [hxa] at p0
          rw [hxk] at p1
          have HXX := Lib.hid (show ((pre ++ [(⟨(a, k), hrow⟩ : RowOf l)]).map (·.1) <+: runs l) → xa = a ∧ xk = k from fun h => by
            rw [List.map_append] at h
            have := prefix_at h (by rw [List.length_map, hq]; exact hql)
            simp only [List.length_map, hq] at this
            rw [← hxa, ← hxk, this]
            exact ⟨rfl, rfl⟩)
          have hq0 : (q : Int) < (rl : Int) := by omega
          have hq1 : (0 : Int) ≤ (q : Int) := by omega
          have HQ := Lib.hid hq
          have cw := HW.out.1.2.1
          have csW := HW.out.1.2.2.1
          have cm := HW.out.1.1
          have cr := HW.out.2.1.cell 0
          have fr := HW.out.2.1.free 0
          have hNlt := block_lt_of_cell cn
          clear hbW hq hql hxa hxk hlt cs2 cw2 cm2 cs3 cs
          have e : (((pre ++ [(⟨(a, k), hrow⟩ : RowOf l)]).length : Nat) : Int) = (q : Int) + 1 := by rw [List.length_append, HQ.out]; rfl
          have HE := Lib.hid e
          clear e
          by_cases hx : xa = a ∧ xk = k
          · obtain ⟨rfl, rfl⟩ := hx
            have heq := run_equal_pair W xa xk xa xk
            rw [show (((xa : Int) == (xa : Int)) && ((xk : Int) == (xk : Int))) = true by simp] at heq
            by_cases h3 : mm.tmod 3 = (q : Int)
            · gi_wp2_with (first
                | (refine ⟨trivial, ?_⟩
                   gi_at_call 12
                   refine (CallsIn.inRound r (callsIn_wide.2 (HW.out.goes HL.out HRL.out hm ((rl : Int) + 1)))).mono ?_
                   rintro e wg ⟨rfl, hbg⟩
                   have cng : wg.cell? ⟨wy.heap.size, 0, none⟩ = some (.int .i64 (q : Int)) := (hbg.cell (p := ⟨wy.heap.size, 0, none⟩) hNlt).trans cn
                   have fng : wg.frozen? ⟨wy.heap.size, 0, none⟩ = false := (World.frozen?_of_block (a := ⟨wy.heap.size, 0, none⟩) (hbg.block _ hNlt)).trans fn
                   have HBG := Lib.hid hbg
                   clear hbg))
              have hbS := (Below.refl wy.heap.size wg).setCell (p := ⟨wy.heap.size, 0, none⟩) (Nat.le_refl _) (.int .i64 ((q : Int) + 1))
              have hbG := HBG.out.mono HbW.out.size
              refine ⟨(keeps_of_below HBG.out).trans (KeepsOthers.setCell _ _ _), hbG.trans hbS, ⟨?_, by rw [World.frozen?_setCell]; exact fng⟩, (HbW.out.trans hbG).trans hbS⟩
              rw [HE.out]
              exact World.cell?_setCell_same' _ _ _ (by rw [cng]; rfl)
            · have hb3 : ((q : Int) == mm.tmod 3) = false := by rw [beq_eq_false_iff_ne]; omega
              clear h3
              gi_wp2
              refine ⟨trivial, ?_⟩
              gi_wp2
              have hbS := (Below.refl wy.heap.size W).setCell (p := ⟨wy.heap.size, 0, none⟩) (Nat.le_refl _) (.int .i64 ((q : Int) + 1))
              refine ⟨KeepsOthers.setCell _ _ _, hbS, ⟨?_, by rw [World.frozen?_setCell]; exact fn⟩, HbW.out.trans hbS⟩
              rw [HE.out]
              exact World.cell?_setCell_same' _ _ _ (by rw [cn]; rfl)
          · have heq := run_equal_pair W xa xk a k
            rw [show (((xa : Int) == (a : Int)) && ((xk : Int) == (k : Int))) = false by
              rw [Bool.and_eq_false_iff]
              by_cases h1 : xa = a
              · exact .inr (by rw [beq_eq_false_iff_ne]; intro h2; exact hx ⟨h1, by omega⟩)
              · exact .inl (by rw [beq_eq_false_iff_ne]; omega)] at heq
            have HBad := Lib.hid (fun h => hx (HXX.out h))
            clear hx
            gi_wp2
            exact ⟨KeepsOthers.setCell _ _ _, rfl, HBad.out⟩
        case done =>
          rintro D ys W hD hys ⟨⟨cn, fn⟩, hbW⟩ hK
          have hyl : ys.length = rl := by rw [← HRL.out, ← hys, List.length_map]
          rw [hyl] at cn
          have hrr : ((rl : Int) == (rl : Int)) = true := by simp
          have HW := Lib.hid (HHy.out.later hbW)
          have cw := HW.out.1.2.1
          have HGW := Lib.hid (HGy.out.later hbW)
          have HNW := Lib.hid (show Bytes W A9 x from by have := (HNBy.out.later hbW).bytes; rwa [List.append_nil] at this)
          have HBW := Lib.hid (HBy.out.trans (hbW.mono hsy))
          have HK := Lib.hid hK
          clear hys hyl hbW hK cs2 cw2 cm2 cs3 cs
          go_wp2_with (go_at_call 9
                       refine (same_eq (some ⟨g, 0, none⟩) A9 c4 c9 x len len HX.out HX.out _ HGW.out.head HNW.out (by omega)).mono ?_
                       rintro e wz ⟨rfl, hbz⟩
                       have hIz := HW.out.2.1.below hbz HW.out.2.1.lt
                       have c5 := hIz.cell 0
                       have f5 := hIz.free 0
                       have HKz := Lib.hid ((hbz.block D (Array.getElem?_eq_some_iff.1 HK.out).1).trans HK.out)
                       have HBz := Lib.hid (HBW.out.trans (hbz.mono HBW.out.size))
                       have HIz := Lib.hid hIz
                       clear hbz)
          have hK' := (KeepsOthers.setCell wz ⟨w.heap.size + 1, 0, none⟩ (.bool true)).same D _ HKz.out rfl
          refine ⟨by simp, .inl ⟨_, _, rfl, run_takeDeferred hK', ?_⟩⟩
          have hc5 := cell_kept (World.cell?_setCell_same' wz ⟨w.heap.size + 1, 0, none⟩ (.bool true) (by rw [c5]; rfl)) (grownBy_putObj' _ D (.deferred none)) (fun r e => by cases e; exact ⟨_, hK', rfl⟩)
          refine ⟨.bool true, ?_, rfl, (HBz.out.setCell (p := ⟨w.heap.size + 1, 0, none⟩) (by show w.heap.size ≤ w.heap.size + 1; omega) _).trans (belowK_b (w := w) (Nat.le_refl _) _ D _ _ (by omega) hK' rfl rfl)⟩
          simp [results, Try.f4, go_sem, hc5]
        case stop =>
          rintro D c pre W hD hp ⟨_, h⟩ hK
          exact (h hp).elim
end Go.Proofs.Ytlpochabgdcidaa
