/-
  A PENDING WRITE AS IT IS BUILT: the struct, and the slice literal of one.
  slices.Clone, bytes.Clone.
-/
import Derived.Test.YtimddchgmocdaaaDoorDw5
import Derived.Great.BuildSlice
import Derived.Test.YtimddchgmocdaaaDoorDm
import Derived.Test.YtimddchgmocdaaaDoorRow3
set_option linter.unusedVariables false
set_option linter.unusedSimpArgs false
namespace Go.Proofs.YtimddchgmocdaaaDoor
open Go.RowKit

def penSem (u v : Value) : Sem Next := do let r ← Instr.build 76 #[(0, u), (1, v)]; pure (.value r)
def bslSem (v : Value) : Sem Next := do let r ← Instr.buildSlice 57 1 #[(0, v)]; pure (.value r)
theorem exec_pen (ρ : Operand → Value) d (x y : Operand) ty pos af g :
    execOp ρ { dst := d, op := .build 76 #[(0, x), (1, y)], type := ty, pos := pos, after := af, guard := g } = penSem (ρ x) (ρ y) := by
  simp [execOp, penSem]
theorem exec_bsl (ρ : Operand → Value) d (x : Operand) ty pos af g :
    execOp ρ { dst := d, op := .buildSlice 57 1 #[(0, x)], type := ty, pos := pos, after := af, guard := g } = bslSem (ρ x) := by
  simp [execOp, bslSem]

theorem infoPenZ : ∃ i z, Tryd.prog.info? 76 = some i ∧ i.zero = some z ∧ i.size = 513 ∧ i.bytes = 520 ∧ z.cells.size = 513 := by
  cases h : Tryd.prog.info? 76 with
  | none => exact absurd (show (Tryd.prog.info? 76).isSome = true by kernel_rfl) (by rw [h]; decide)
  | some i =>
    have h1 : (Tryd.prog.info? 76).map (fun i => (i.size, i.bytes, (i.zero.map fun z => z.cells.size))) = some (513, 520, some 513) := by kernel_rfl
    rw [h] at h1
    simp only [Option.map_some, Option.some.injEq, Prod.mk.injEq] at h1
    obtain ⟨a1, a2, a3⟩ := h1
    cases hz : i.zero with
    | none => rw [hz] at a3; cases a3
    | some z =>
      rw [hz] at a3
      simp only [Option.map_some, Option.some.injEq] at a3
      exact ⟨i, z, rfl, hz, a1, a2, a3⟩
theorem pen_fields : ∃ fs : Array Field, Tryd.prog.underlying 76 = some (.struct fs) ∧ fs.toList.mapM (fun f => (Tryd.prog.info? f.type).map fun i => (f.offset, i.size)) = some [(0, 1), (1, 512)] := ⟨_, Tryd.underlying76, by kernel_rfl⟩
set_option maxRecDepth 100000 in
theorem pen_built (i : Int) (c : List Value) (hc : c.length = 512) : Tryd.prog.built 76 [(0, .int .i64 i), (1, .agg c.toArray)] = some (Value.int .i64 i :: c).toArray := by
  obtain ⟨i0, z, hi0, hz, h1, h2, h3⟩ := infoPenZ
  obtain ⟨fs, hu, hp⟩ := pen_fields
  unfold Program.built
  simp only [hi0, hu, hz, hp]
  have hs1 : (Value.int .i64 i).cells = #[.int .i64 i] := rfl
  have hs2 : (Value.agg c.toArray).cells = c.toArray := rfl
  simp only [Instr.fill, List.getElem?_toArray, List.getElem?_cons_zero, List.getElem?_cons_succ, hs1, hs2, List.size_toArray, hc, List.length_cons, List.length_nil]
  obtain ⟨a1, a2⟩ := Great.foldl_set 0 [.int .i64 i] 0 z.cells
  rw [← Array.foldl_toList, Array.toList_zipIdx, ← Array.foldl_toList, Array.toList_zipIdx]
  simp only [List.toList_toArray]
  generalize (List.foldl (fun cs (x : Value × Nat) => cs.setIfInBounds (0 + x.2) x.1) z.cells ([Value.int .i64 i].zipIdx)) = C1 at a1 a2 ⊢
  obtain ⟨b1, b2⟩ := Great.foldl_set 1 c 0 C1
  generalize (List.foldl (fun cs (x : Value × Nat) => cs.setIfInBounds (1 + x.2) x.1) C1 (c.zipIdx)) = C2 at b1 b2 ⊢
  rw [h3] at a1
  rw [a1] at b1
  have hno1 : ¬ ((decide (0 + 1 ≠ 1) || decide (0 + (0 + 1) > z.cells.size)) = true) := by rw [h3]; simp
  have hno2 : ¬ ((decide (512 ≠ 512) || decide (1 + 512 > C1.size)) = true) := by rw [a1]; simp
  rw [if_neg hno1, if_neg hno2]
  congr 1
  refine Array.ext_getElem? fun k => ?_
  rw [b2 k, a1]
  by_cases hk : k = 0
  · subst hk
    rw [if_neg (by omega), a2 0, if_pos ⟨by omega, by simp, by rw [h3]; omega⟩]
    rfl
  · by_cases hk2 : k < 513
    · rw [if_pos ⟨by omega, by omega, hk2⟩]
      obtain ⟨q, rfl⟩ : ∃ q, k = q + 1 := ⟨k - 1, by omega⟩
      simp
    · rw [if_neg (by omega), a2 k, if_neg (by rw [h3]; omega), Array.getElem?_eq_none (by omega), Array.getElem?_eq_none (by simp; omega)]
theorem pen_run (w : World) (i : Int) (c : List Value) (hc : c.length = 512) : (penSem (.int .i64 i) (.agg c.toArray)).run Tryd.prog w = .ok (.value (.agg (Value.int .i64 i :: c).toArray)) w := by
  have h := run_build (P := Tryd.prog) w 76 #[(0, .int .i64 i), (1, .agg c.toArray)] _ (pen_built i c hc)
  unfold penSem
  rw [Sem.run_bind, h]
  rfl
set_option maxRecDepth 100000 in
theorem bsl_run (w : World) (pc : List Value) (hc : pc.length = 513) : (bslSem (.agg pc.toArray)).run Tryd.prog w = .ok (.value (.slice (some ⟨w.heap.size, 0, none⟩) 1 1)) (w.alloc (.cells pc.toArray 76)) := by
  obtain ⟨i0, z, hi0, hz, h1, h2, h3⟩ := infoPenZ
  have hf := Great.fill_whole (s := 513) (by decide) [.agg pc.toArray] ((Array.range (1 * 513)).map (z.cells[· % z.cells.size]!)) (fun v hv => by simp at hv; subst hv; show pc.toArray.size = 513; simp [hc]) (by simp)
  have e : ([Value.agg pc.toArray].flatMap fun v => v.cells.toList).toArray = pc.toArray := by simp [Value.cells]
  rw [e] at hf
  have h := run_buildSlice (P := Tryd.prog) w 57 76 1 #[(0, .agg pc.toArray)] pc.toArray i0 z Tryd.underlying57 hi0 hz (by rw [h1]; decide) (by rw [h1]; decide) (by rw [h1]; exact hf)
  unfold bslSem
  rw [Sem.run_bind, h]
  rfl
end Go.Proofs.YtimddchgmocdaaaDoor
set_option linter.unusedVariables false
set_option linter.unusedSimpArgs false
namespace Go.Proofs.YtimddchgmocdaaaDoor
open Go.RowKit

theorem run_snil8_in (w : World) (d : Nat) (ad : Addr) (n c : Nat) : (Op.equalIn (d + 1) 42 (.slice (some ad) n c) (.slice none 0 0)).run Tryd.prog w = .ok false w := by
  simp [Op.equalIn, run_underlying Tryd.underlying42]
theorem run_snil8_in0 (w : World) (d : Nat) : (Op.equalIn (d + 1) 42 (.slice none 0 0) (.slice none 0 0)).run Tryd.prog w = .ok true w := by
  simp [Op.equalIn, run_underlying Tryd.underlying42]
theorem run_snil8 (w : World) (ad : Addr) (n c : Nat) : (binOp .eql 42 (.slice (some ad) n c) (.slice none 0 0)).run Tryd.prog w = .ok (.bool false) w := by
  have h := run_snil8_in w 9999 ad n c
  show (do pure (.bool (← Op.equal 42 (.slice (some ad) n c) (.slice none 0 0))) : Sem Value).run Tryd.prog w = _
  rw [Sem.run_bind]
  show ((Op.equalIn (9999 + 1) 42 (.slice (some ad) n c) (.slice none 0 0)).run Tryd.prog w).andThen _ = _
  rw [h]
  rfl
theorem run_snil80 (w : World) : (binOp .eql 42 (.slice none 0 0) (.slice none 0 0)).run Tryd.prog w = .ok (.bool true) w := by
  have h := run_snil8_in0 w 9999
  show (do pure (.bool (← Op.equal 42 (.slice none 0 0) (.slice none 0 0))) : Sem Value).run Tryd.prog w = _
  rw [Sem.run_bind]
  show ((Op.equalIn (9999 + 1) 42 (.slice none 0 0) (.slice none 0 0)).run Tryd.prog w).andThen _ = _
  rw [h]
  rfl
theorem run_snilb_in (w : World) (d : Nat) (ad : Addr) (n c : Nat) : (Op.equalIn (d + 1) 33 (.slice (some ad) n c) (.slice none 0 0)).run Tryd.prog w = .ok false w := by
  simp [Op.equalIn, run_underlying Tryd.underlying33]
theorem run_snilb_in0 (w : World) (d : Nat) : (Op.equalIn (d + 1) 33 (.slice none 0 0) (.slice none 0 0)).run Tryd.prog w = .ok true w := by
  simp [Op.equalIn, run_underlying Tryd.underlying33]
theorem run_snilb (w : World) (ad : Addr) (n c : Nat) : (binOp .eql 33 (.slice (some ad) n c) (.slice none 0 0)).run Tryd.prog w = .ok (.bool false) w := by
  have h := run_snilb_in w 9999 ad n c
  show (do pure (.bool (← Op.equal 33 (.slice (some ad) n c) (.slice none 0 0))) : Sem Value).run Tryd.prog w = _
  rw [Sem.run_bind]
  show ((Op.equalIn (9999 + 1) 33 (.slice (some ad) n c) (.slice none 0 0)).run Tryd.prog w).andThen _ = _
  rw [h]
  rfl
theorem run_snilb0 (w : World) : (binOp .eql 33 (.slice none 0 0) (.slice none 0 0)).run Tryd.prog w = .ok (.bool true) w := by
  have h := run_snilb_in0 w 9999
  show (do pure (.bool (← Op.equal 33 (.slice none 0 0) (.slice none 0 0))) : Sem Value).run Tryd.prog w = _
  rw [Sem.run_bind]
  show ((Op.equalIn (9999 + 1) 33 (.slice none 0 0) (.slice none 0 0)).run Tryd.prog w).andThen _ = _
  rw [h]
  rfl
attribute [local go_sem] run_snil8 run_snil80 run_snilb run_snilb0
set_option maxRecDepth 100000 in
set_option maxHeartbeats 800000 in
theorem clone8_any (A : Option Addr) (len cap : Nat) (l : List UInt8) (hl : l.length = len) (w : World) (hb : Bytes w A l) (hc : A = none → cap = 0) (hA : A ≠ none) (hm : len ≤ 140737488355328) :
    Calls Tryd.prog 22 #[.slice A len cap] w fun e w' => (∃ A2 c2, e = .returned (.slice A2 len c2) ∧ Mine w' w.heap.size A2 c2 l) ∧ Below w.heap.size w w' := by
  obtain ⟨ad, rfl⟩ := Option.ne_none_iff_exists'.1 hA
  have HB := Lib.hid hb
  have HL := Lib.hid hl
  clear hb hl hA hc
  go_enter Tryd.func22, Tryd.ntmps22
  go_wp2_with (at_builtin
               refine wpList_append_u8 rfl (.tmp 5) (.tmp 6) rfl w.heap.size (some ⟨w.heap.size, 0, none⟩) 0 [] (by rfl) (Mine.empty w (Nat.le_refl _)) (some ad) cap l (by rw [HL.out]; rfl) (fun h => by cases h) (HB.out.later (below_new w _)) (by rw [HL.out]; simp; omega) (by simp) ?_
               intro A2 c2 w2 hm2 hg2 hb2
               rw [show (([] : List UInt8) ++ l).length = len from HL.out]
               have HM2 := Lib.hid (show Mine w2 w.heap.size A2 c2 l from hm2)
               have HB2 := Lib.hid ((below_new w (.cells #[] 5)).trans hb2))
  go_ret
  exact ⟨⟨A2, c2, rfl, HM2.out⟩, HB2.out⟩

set_option maxRecDepth 100000 in
set_option maxHeartbeats 800000 in
theorem bclone_any (A : Option Addr) (len cap : Nat) (l : List UInt8) (hl : l.length = len) (w : World) (hb : Bytes w A l) (hc : A = none → cap = 0) (hA : A ≠ none) (hm : len ≤ 140737488355328) :
    Calls Tryd.prog 67 #[.slice A len cap] w fun e w' => (∃ A2 c2, e = .returned (.slice A2 len c2) ∧ Mine w' w.heap.size A2 c2 l) ∧ Below w.heap.size w w' := by
  obtain ⟨ad, rfl⟩ := Option.ne_none_iff_exists'.1 hA
  have HB := Lib.hid hb
  have HL := Lib.hid hl
  clear hb hl hA hc
  go_enter Tryd.func67, Tryd.ntmps67
  go_wp2_with (at_builtin
               refine wpList_append_u8 rfl (.tmp 5) (.tmp 6) rfl w.heap.size (some ⟨w.heap.size, 0, none⟩) 0 [] (by rfl) (Mine.empty w (Nat.le_refl _)) (some ad) cap l (by rw [HL.out]; rfl) (fun h => by cases h) (HB.out.later (below_new w _)) (by rw [HL.out]; simp; omega) (by simp) ?_
               intro A2 c2 w2 hm2 hg2 hb2
               rw [show (([] : List UInt8) ++ l).length = len from HL.out]
               have HM2 := Lib.hid (show Mine w2 w.heap.size A2 c2 l from hm2)
               have HB2 := Lib.hid ((below_new w (.cells #[] 5)).trans hb2))
  go_ret
  exact ⟨⟨A2, c2, rfl, HM2.out⟩, HB2.out⟩

theorem own_form {w : World} {base n k : Nat} {t : TypeId} {v : Value} {cs : List Value} (h : w.ownsRow base t k v n cs) : ∃ A c, v = .slice A n c ∧ Own w base t k A n c cs := by
  rcases h.2 with ⟨hv, h0⟩ | ⟨g, cap, cur, hv, _⟩
  · exact ⟨none, 0, by rw [hv, h0], by subst hv; subst h0; exact h⟩
  · exact ⟨_, cap, hv, by subst hv; exact h⟩
def boolCells (l : List Bool) : List Value := l.map fun b => Value.bool b
theorem boolCells_one (l : List Bool) : ∀ v ∈ boolCells l, v.oneCell' = true := fun v hv => by
  obtain ⟨b, _, rfl⟩ := List.mem_map.1 hv
  rfl
theorem infoBool : (Tryd.prog.info? 4).map (fun i => (i.zero, i.size, i.bytes)) = some (some (.bool false), 1, 1) := by kernel_rfl
set_option maxRecDepth 100000 in
set_option maxHeartbeats 800000 in
theorem clone_nil (w : World) : Calls Tryd.prog 25 #[.slice none 0 0] w fun e w' => e = .returned (.slice none 0 0) ∧ w = w' := by
  go_enter Tryd.func25, Tryd.ntmps25
  go_wp2_with fail
  go_ret
  exact ⟨rfl, rfl⟩
set_option maxRecDepth 100000 in
set_option maxHeartbeats 800000 in
theorem cloneb_any (ad : Addr) (len cap : Nat) (l : List Bool) (hl : l.length = len) (w : World) (hc : ∀ k (h : k < l.length), w.cell? (ad.add k) = some (.bool l[k])) (hm : len ≤ 140737488355328) :
    Calls Tryd.prog 25 #[.slice (some ad) len cap] w fun e w' => (∃ A2 c2, e = .returned (.slice A2 len c2) ∧ Own w' w.heap.size 4 1 A2 len c2 (boolCells l)) ∧ Below w.heap.size w w' := by
  obtain ⟨i0, hi, hz0, hz1, hz2⟩ := info_parts infoBool
  have HC := Lib.hid hc
  have HL := Lib.hid hl
  have Hi := Lib.hid hi
  have Hz0 := Lib.hid hz0
  have Hz1 := Lib.hid hz1
  have Hz2 := Lib.hid hz2
  clear hc hl hi hz0 hz1 hz2
  have HNW := Lib.hid (show ∀ j u, (boolCells l)[j]? = some u → (w.alloc (.cells #[] 4)).cell? (ad.add j) = some u from fun j u hu => by
    have hj := (List.getElem?_eq_some_iff.1 hu).1
    simp [boolCells] at hj
    have e := HC.out j hj
    have e2 := (below_new w (.cells #[] 4)).cell (p := ad.add j) (block_lt_of_cell e)
    rw [e2, e, ← hu]
    simp [boolCells, hj])
  have HM0 := Lib.hid (show (w.alloc (.cells #[] 4)).ownsRow w.heap.size 4 1 (.slice (some ⟨w.heap.size, 0, none⟩) 0 0) 0 [] from World.ownsRow_lit w #[] 0 (Nat.le_refl _) (by simp [maxLen]) (by simp))
  go_enter Tryd.func25, Tryd.ntmps25
  go_wp2_with (at_builtin
               refine wpList_append_own_at (w.alloc (.cells #[] 4)) rfl (.tmp 5) (.tmp 6) 33 rfl w.heap.size 4 i0 (.bool false) 1 1 Tryd.underlying33 Hi.out Hz0.out Hz1.out Hz2.out rfl (by decide) (.slice (some ⟨w.heap.size, 0, none⟩) 0 0) 0 [] (by rfl) HM0.out ad len cap (boolCells l) (by rfl) (by simp [boolCells, HL.out]) HNW.out (boolCells_one l) (by simp only [maxLen]; omega) (by omega) (by simp) ?_
               intro v' w' hown' hg _ hat
               rw [Nat.zero_add] at hown'
               obtain ⟨A2, c2, rfl, hO2⟩ := own_form hown'
               have HO2 := Lib.hid hO2
               have HB2 := Lib.hid ((below_new w (.cells #[] 4)).trans ((Below.refl _ _).grown hg (by simp) (fun k hk => Nat.le_of_eq (Option.some.inj hk))))
               clear hown' hg hat hO2)
  go_ret
  exact ⟨⟨A2, c2, rfl, HO2.out⟩, HB2.out⟩
end Go.Proofs.YtimddchgmocdaaaDoor
