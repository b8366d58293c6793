/-
  THE WALK OF Txn.Written.
-/
import Derived.Test.YtimddchgmocdaaaDoorSo
import Derived.Test.YtimddchgmocdaaaDoorRv2
import Derived.Maps.OwnSet
import Derived.Carry
set_option linter.unusedVariables false
set_option linter.unusedSimpArgs false
namespace Go.Proofs.YtimddchgmocdaaaDoor
open Go.RowKit Go.Maps Go.Sort Go.Shelf

theorem sortsA (m : Nat) : AnyZI.SortsIn Tryd.prog sortedA_ren Fence.wide m :=
  ⟨fun blk off cap ss W hH hblk hsz => callsIn_wide.2 (AnyM.slices_Sort_int sortA blk off cap ss W hH hblk hsz),
   fun p cap W => callsIn_wide.2 (AnyM.slices_Sort_int_none sortA p cap W)⟩
set_option maxHeartbeats 1600000 in
theorem written_any {H : Type} (t b nn : Nat) (D0 : DataW H) (R : Value → Option (DataW H × List MemPlace)) (w : World) (hown : w.ownsMap Tryd.prog 3 R b nn D0) (hmax : Maps.size D0 ≤ 1000000) (h1 : w.cell? ⟨t, 1, none⟩ = some (.map (some b))) (h3 : w.cell? ⟨t, 3, none⟩ = some (.bool false)) :
    Calls Tryd.prog 26 #[.pointer (some ⟨t, 0, none⟩)] w fun e w' => (∃ (A : Option Addr) (c : Nat) (ss : List Int), e = .returned (.slice A ss.length c) ∧ ss.Perm (intKeys D0) ∧ ss.Pairwise (· ≤ ·) ∧ Nums w' w.heap.size A c ss) ∧ Below w.heap.size w w' := by
  refine (callsIn_wide (n := 6)).1 ?_
  have hbl := hown.lt
  have hseq : SeqGives Fence.wide 2 Tryd.prog 45 #[.pointer (some ⟨w.heap.size, 0, none⟩)] encZ (fun ss => ss.Perm (intKeys D0)) (Maps.size D0) (w.alloc (.cells #[.map (some b)] 61)) :=
    AnyZI.keys_gives (ρ := keysA_ren) { keysA with } Fence.wide _ trivial rfl (by omega) w.heap.size b nn D0 _ (by simp) (by simp) (by
      obtain ⟨es, clock, hb, Ft, hs, hD⟩ := hown
      exact ⟨es, clock, (Below.heap_alloc _ _ b hbl).trans hb, Ft, hs, hD⟩)
  have cK : ∀ mb W, CallsIn Fence.wide 5 Tryd.prog 33 #[.map mb] W fun e w' => e = .returned (.func (.func 45) #[] #[.pointer (some ⟨W.heap.size, 0, none⟩)]) ∧ w' = W.alloc (.cells #[.map mb] 61) := fun mb W => AnyZI.keys_in keysA Fence.wide 5 trivial rfl mb W
  have cS := AnyZI.sorted_in sortedA Fence.wide 5 trivial trivial trivial trivial rfl (by omega) (sortsA _) (enters_of Tryd.func44 (by kernel_rfl) rfl) 45 #[.pointer (some ⟨w.heap.size, 0, none⟩)] trivial (enters_of Tryd.func45 (by kernel_rfl) rfl) _ _ (by simp only [maxLen]; omega) (by omega) _ hseq
  change CallsIn _ _ Tryd.prog 32 _ _ _ at cS
  have hfK : Fence.wide.fn 33 := trivial
  have hfS : Fence.wide.fn 32 := trivial
  refine callsIn_of_wp Tryd.func26 rfl trivial ?_ rfl
  simp only [Tryd.ntmps26, List.size_toArray, List.length_cons, List.length_nil, Nat.reduceAdd, Nat.reduceSub, Array.replicate_succ, Array.replicate_zero, List.push_toArray, List.append_toArray, List.nil_append, List.cons_append]
  gi_wp2_with (first
    | (gi_at_call 33; refine (cK _ _).mono ?_; rintro e w' ⟨rfl, rfl⟩)
    | (gi_at_call 32; refine cS.mono ?_; rintro e w' ⟨v, ss, rfl, hS, hrow, hnil, hb⟩))
  go_ret
  have hrow2 : w'.ownsRow w.heap.size 3 1 v ss.length (numCells (ss.mergeSort fun x y => decide (x ≤ y))) := ownsRow_base_a hrow (by simp)
  obtain ⟨A, c, rfl, hO⟩ := own_form hrow2
  have hl : (ss.mergeSort fun x y => decide (x ≤ y)).length = ss.length := List.length_mergeSort _
  have hp := List.mergeSort_perm ss (fun x y => decide (x ≤ y))
  have hso : (ss.mergeSort fun x y => decide (x ≤ y)).Pairwise (· ≤ ·) := by
    have := List.pairwise_mergeSort (le := fun x y : Int => decide (x ≤ y)) (fun a b c h1 h2 => by simp at h1 h2 ⊢; omega) (fun a b => by simp; omega) ss
    exact this.imp (fun h => by simpa using h)
  refine ⟨⟨A, c, ss.mergeSort fun x y => decide (x ≤ y), by rw [hl]; rfl, hp.trans hS, hso, ?_⟩, ((Below.refl _ w).alloc (Nat.le_refl _) _).trans (hb.mono (by simp))⟩
  unfold Nums
  rw [hl]
  exact hO
end Go.Proofs.YtimddchgmocdaaaDoor
