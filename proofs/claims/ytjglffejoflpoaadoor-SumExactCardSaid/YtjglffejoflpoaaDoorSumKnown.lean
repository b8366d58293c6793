/-
  THE WALKS OF THE STATEMENTS' OWN HELPERS: num, known.
-/
import Derived.Test.YtjglffejoflpoaaDoorSumW
import Derived.Lib.SlBytesConst
set_option linter.unusedVariables false
set_option linter.unusedSimpArgs false
namespace Go.Proofs.YtjglffejoflpoaaDoor
open Go.RowKit
attribute [local go_sem] u32_wrap8 u32_wrap32 u32_xor u32_max u32_signed u32_not

theorem num_any (n : Int) (w : World) : Calls Tryd.prog 12 #[.int .i64 n] w fun e w' => e = .returned (.int .i64 n) ∧ w = w' := by
  go_enter Tryd.func12, Tryd.ntmps12
  go_wp2
  go_ret
  exact ⟨rfl, rfl⟩

def nine : List UInt8 := [49, 50, 51, 52, 53, 54, 55, 56, 57]
def four : List UInt8 := [49, 50, 51, 52]
def five : List UInt8 := [53, 54, 55, 56, 57]
def three : List UInt8 := [51]

/-- a constant's bytes, the second of two new blocks -/
theorem const2 (w : World) (o : Obj) (C : Array Value) (n c : Nat) : (convert 25 25 (.slice (some ⟨w.heap.size + 1, 0, none⟩) n c)).run Tryd.prog ((w.alloc o).alloc (.cells C 5)) =
    .ok (.slice (some ⟨w.heap.size + 1, 0, none⟩) n c) ((w.alloc o).alloc (.cells C 5 (C.size, C.size + 1))) := by
  have := Lib.run_convert_bytes_const (P := Tryd.prog) (w.alloc o) 25 5 C n c Tryd.underlying25 Tryd.underlying5
  rwa [World.size_alloc] at this
theorem bytes_new2 (w : World) (o : Obj) (t : TypeId) (fr : Nat × Nat) (l : List UInt8) : Bytes ((w.alloc o).alloc (.cells (u8s l) t fr)) (some ⟨w.heap.size + 1, 0, none⟩) l := by
  have := bytes_new (w.alloc o) t fr l
  rwa [World.size_alloc] at this
theorem below_new2 (w : World) (o o' : Obj) : Below w.heap.size w ((w.alloc o).alloc o') := (below_new w o).alloc (by simp) _

theorem of_b (A : Option Addr) (cap : Nat) (l : List UInt8) (w : World) (hw : HalfAt w) (hl : Bytes w A l) (hm : l.length ≤ 9223372036854775807) :
    Calls Tryd.prog 10 #[.slice A l.length cap] w fun e w' => e = .returned (.int .u32 (n32 (Crc.crc l))) ∧ Below w.heap.size w w' :=
  (of_any A cap l w hw hl hm).mono fun _ _ ⟨he, hw⟩ => ⟨he, hw ▸ Below.refl _ _⟩

theorem nine_is : (n32 (Crc.crc nine) == 3421780262) = true := by decide +kernel
theorem join_is : (n32 (Crc.zeros 5 (Crc.crc four) ^^^ Crc.crc five) == n32 (Crc.crc nine)) = true := by decide +kernel
theorem turn_is : (n32 (Crc.crc nine ^^^ Crc.zeros (9 - 2 - three.length) (Crc.crc three ^^^ Crc.crc three)) == n32 (Crc.crc nine)) = true := by decide +kernel

set_option maxHeartbeats 1000000 in
theorem known_any (w : World) (hw : HalfAt w) : Calls Tryd.prog 8 #[] w fun e w' => e = .returned (.bool true) ∧ Below w.heap.size w w' := by
  have hG := hw.lt
  have HW := Lib.hid hw
  clear hw
  have kc := fun (w : World) (C : Array Value) (n c : Nat) => Lib.run_convert_bytes_const (P := Tryd.prog) w 25 5 C n c Tryd.underlying25 Tryd.underlying5
  go_enter Tryd.func8, Tryd.ntmps8
  go_wp2_with fail
  refine (of_b _ _ nine _ ?_ ?_ ?_).mono ?_
  · exact HW.out.below (below_new _ _) hG
  · exact bytes_new _ _ _ nine
  · decide
  rintro e w1 ⟨rfl, hb1⟩
  have hb1 := (below_new w _).trans (hb1.mono (by simp))
  have HW1 := HW.out.below hb1 hG
  go_wp2_with fail
  refine (of_b _ _ four _ ?_ ?_ ?_).mono ?_
  · exact HW1.below (below_new _ _) (by have := hb1.size; omega)
  · exact bytes_new _ _ _ four
  · decide
  rintro e w2 ⟨rfl, hb2⟩
  have hb2 := (below_new w1 _).trans (hb2.mono (by simp))
  have HW2 := HW1.below hb2 (by have := hb1.size; omega)
  go_wp2_with fail
  refine (of_b _ _ five _ ?_ ?_ ?_).mono ?_
  · exact HW2.below (below_new _ _) (by have := hb1.size; have := hb2.size; omega)
  · exact bytes_new _ _ _ five
  · decide
  rintro e w3 ⟨rfl, hb3⟩
  have hb3 := (below_new w2 _).trans (hb3.mono (by simp))
  have hG3 : 0 < w3.heap.size := by have := hb1.size; have := hb2.size; have := hb3.size; omega
  have HW3 := HW2.below hb3 (by have := hb1.size; have := hb2.size; omega)
  go_wp2_with fail
  refine (join_ok _ _ 5 _ HW3 (by decide)).mono ?_
  rintro e w4 ⟨rfl, hb4⟩
  have hG4 : 0 < w4.heap.size := by have := hb4.size; omega
  have HW4 := HW3.below hb4 hG3
  have kc2 := const2
  go_wp2_with fail
  refine (turn_ok _ 9 2 _ _ _ _ three three _ ?_ ?_ ?_ ?_ ?_ ?_).mono ?_
  · exact HW4.below (below_new2 _ _ _) hG4
  · exact (bytes_new _ _ _ three).later (below_new _ _)
  · exact bytes_new2 _ _ _ _ three
  · decide
  · rfl
  · decide
  rintro e w5 ⟨rfl, hb5⟩
  clear kc kc2
  have h1 := nine_is
  have h2 := join_is
  have h3 := turn_is
  generalize Crc.crc nine ^^^ Crc.zeros (9 - 2 - three.length) (Crc.crc three ^^^ Crc.crc three) = c3 at h3 ⊢
  generalize Crc.zeros 5 (Crc.crc four) ^^^ Crc.crc five = c2 at h2 ⊢
  generalize Crc.crc nine = c1 at h1 h2 h3 ⊢
  go_wp2_with (go_at_call 12; refine (num_any _ _).mono ?_; rintro e w' ⟨rfl, rfl⟩)
  go_ret
  refine ⟨rfl, hb1.trans ((hb2.trans ((hb3.trans ((hb4.trans (((below_new2 w4 _ _).trans (hb5.mono (by simp; omega))).mono ?_)).mono ?_)).mono ?_)).mono ?_)⟩
  · exact hb4.size
  · exact hb3.size
  · exact hb2.size
  · exact hb1.size
end Go.Proofs.YtjglffejoflpoaaDoor
