/-
  GeoLays: of each number of blocks that may be the regions lie one behind the other, with room for all that they tell of and no block more; every bit of the bitmap that is of a block, and every record, has its own place, in its own region; the function answers true, the argument stays. Conditions: the table of widths and the table of sixteen words read as the text lays them (the card ties them).
-/
import Derived.Test.YtaijakknhmagoaaDoorGeoLaysW
import Derived.Test.YtaijakknhmagoaaDoorArgs
import Derived.Test.YtaijakknhmagoaaDoorWidths
import Derived.Test.YtaijakknhmagoaaDoorHalf
import Derived.Test.YtaijakknhmagoaaDoorLaidG
import Derived.Test.YtaijakknhmagoaaDoorCards
import Derived.Test.YtaijakknhmagoaaDoorTie
set_option linter.unusedVariables false
set_option linter.unusedSimpArgs false
namespace Go.Proofs.YtaijakknhmagoaaDoor.GeoLays
open Go.ChangeShapes Go.WideShapes Go.ChangeAt Go.RowKit

theorem widths_ {W : World} (h : laidMetH Tryd.prog Rows.geoLaysRow.laid W) : WidthsAt W := widthsAt_of (rest := [("bole/sum.half", Rows.laid_bole_sum_half)]) h

theorem half_ {W : World} (h : laidMetH Tryd.prog Rows.geoLaysRow.laid W) : HalfAt W :=
  halfAt_of (Lib.tabIs_of_head (rest := []) gHalf gHalfType Tryd.underlying64 Tryd.underlying53 cellsU32 cellsHalf (laidMet_behind h))

theorem contract (H : Type) (enc : TypeId × Value → H) (W : World) (base : Nat) (args : Array Value) (ds gs : List (DataW H)) (before : List MemPlace)
    (hval : ∀ (j : Nat) t v, Tryd.f7.params[j]? = some t → args[j]? = some v → Value.okWide Tryd.prog W .any base t v)
    (hW : DataW.Whole enc Tryd.prog Tryd.f7.params.toList Rows.geoLaysSpec.vars false W args.toList ds gs before)
    (hsz0 : (DataW.weightsEach Tryd.prog (Tryd.f7.params.toList ++ (OpenSpec.ofChange Rows.geoLaysSpec).bare.plain.varTypes Tryd.prog) (ds ++ gs)).all (· ≤ reachBytes) = true) (hL : laidMetH Tryd.prog Rows.geoLaysRow.laid W) :
    Calls Tryd.prog 7 args W fun e W' => ∃ v, e = .returned v ∧ Rows.geoLaysSpec.post enc Tryd.prog Tryd.f7 false true false false W args v W' := by
  have hW' := hW
  obtain ⟨p, q, hA0, hV, rfl, hfz, hnd⟩ := hW
  have hA : DataW.TrodAll enc Tryd.prog W 0 (fun _ => true) true Tryd.f7.params.toList args.toList ds p := hA0
  rw [Tryd.params7] at hA hval
  obtain ⟨v0, vs0, d0, ds0, p0, q0, hargs, rfl, rfl, h0, r0⟩ := trodAll_cons hA
  obtain ⟨rfl, rfl, rfl⟩ := trodAll_nil r0
  obtain rfl : args = #[v0] := by cases args; simp_all
  obtain ⟨rfl, rfl⟩ := trodVars_none hV
  have hsz : (DataW.weightsEach Tryd.prog [3] [d0]).all (· ≤ reachBytes) = true := hsz0
  have hv0 := hval 0 3 v0 rfl rfl
  have hr0 := reach_of hsz (j := 0) (t := 3) (d := d0) rfl rfl
  obtain ⟨k, rfl, _, _, wk⟩ := open_int Tryd.underlying3 hv0 h0
  have bk := bounds_i64 wk
  refine Calls.mono (lays_any k W (widths_ hL) (half_ hL) bk.1 bk.2) fun e W' ⟨he, hg⟩ => ?_
  subst he
  exact ⟨_, rfl, post_true hW' rfl (by kernel_rfl) (by rw [Tryd.params7]; intro t ht; have ht : t ∈ [3] := ht; simp only [List.mem_cons, List.not_mem_nil, or_false] at ht; rcases ht with rfl <;> exact ⟨by kernel_rfl, of_decide_eq_true (by kernel_rfl)⟩) rfl hg⟩

def wargs : Array Value := #[.int .i64 0]
theorem laid_met (os : Os) : laidMet Tryd.prog Rows.geoLaysRow.laid ((laidWorld os).forCall (fun _ _ => 0) ⟨#[], wargs, []⟩).memory :=
  laidMet_of_run' 20 (by kernel_rfl) (by kernel_rfl)
theorem reads (os : Os) {H : Type} (enc : TypeId × Value → H) : ∃ places, DataW.whole enc Tryd.prog ((laidWorld os).forCall (fun _ _ => 0) ⟨#[], wargs, []⟩).memory Tryd.f7.params.toList Rows.geoLaysSpec.vars false wargs.toList 8 = some ([.lit (.int .i64 0)], [], places) :=
  ⟨[], by kernel_rfl⟩

set_option maxRecDepth 100000 in
theorem lifted (os : Os) (started : os.Started) (H : Type) (enc : TypeId × Value → H) (F : Stop.Interp) :
    ReturnsInHanded {} Tryd.checked os 7 .any ((OpenSpec.ofChange Rows.geoLaysSpec).preRow enc Tryd.prog Tryd.f7 Rows.geoLaysRow.domain false Rows.geoLaysRow.laid) (((OpenSpec.ofChange Rows.geoLaysSpec).at F).post enc Tryd.prog Tryd.f7 false true false false) := by
  obtain ⟨places, hx⟩ := reads os enc
  refine returnsInHanded_of_row (C := Tryd.checked) (s := (OpenSpec.ofChange Rows.geoLaysSpec)) own started (by kernel_rfl) Tryd.func7
    (witness_row_at (enc := enc) (C := Tryd.checked) false (laidWorld os) wargs rfl (by kernel_rfl) (by kernel_rfl) (by kernel_rfl)
      (OpenSpec.preRow_of_cond 8 hx (by kernel_rfl) (fun k hk => by cases hk) (by kernel_rfl) (laid_met os))) ?_
  intro W base args ds gs before hval hW _ hcond hsz hL _ _
  exact contract H enc W base args ds gs before hval hW hsz hL

theorem said : Rows.GeoLaysSaid :=
  OpenClaim.holds_of_cond 7 Tryd.f7 rfl rfl rfl rfl rfl rfl rfl ⟨rfl, rfl, rfl, rfl, rfl⟩ rfl rfl rfl rfl rfl (by kernel_rfl) Tryd.func7 (by kernel_rfl)
    (of_decide_eq_true (by kernel_rfl)) (by unfold Func.isWrapper; rw [if_neg (of_decide_eq_false (by kernel_rfl))]; exact ⟨rfl, rfl⟩)
    (fun os started H enc _ F => by rw [OpenClaim.pre_eq_preRow]; exact lifted os started H enc F)

/-- No parameter wants a stand-in; the program's own looks are off: what the card asks. -/
theorem plain (f : FuncId) (fn : Func) (hf : Tryd.pinned.checked.prog.funcNamed "bole/bolelaw07.GeoLays" = some f) (hfn : Tryd.pinned.checked.prog.funcs[f]? = some fn) :
    false = Tryd.pinned.checked.prog.looks [] ∧ ∀ (j : Nat) t, fn.params[j]? = some t → Tryd.pinned.checked.prog.wantsStandIn t = false := by
  obtain rfl : f = 7 := Option.some.inj ((show Tryd.prog.funcNamed "bole/bolelaw07.GeoLays" = some 7 by kernel_rfl).symm.trans hf) |>.symm
  obtain rfl : fn = Tryd.f7 := (Option.some.inj (Tryd.func7.symm.trans hfn)).symm
  refine ⟨by kernel_rfl, fun j t ht => ?_⟩
  rw [Tryd.params7] at ht
  have hm : t ∈ [3] := Array.mem_toList_iff.2 (Array.mem_of_getElem? ht)
  simp only [List.mem_cons, List.not_mem_nil, or_false] at hm
  rcases hm with rfl
  · exact (by kernel_rfl : Tryd.prog.wantsStandIn 3 = false)

/-- THE CARD -/
theorem card : Rows.GeoLaysCardSaid :=
  Claim7.holds_tied_plain_at .later [] _ _ _ _ said (fun _ h => by cases h) (by kernel_rfl) (fun _ h => by cases h) geoLays_row_tie rfl ⟨rfl, rfl⟩ (by kernel_rfl) rfl plain (by kernel_rfl)
end Go.Proofs.YtaijakknhmagoaaDoor.GeoLays
