/-
  GeoOwn: super blocks that were answered, one twice and another between, each written full with a mark of its own and appended to, keep their marks; what is answered behind that is as before; the function answers true, the arguments stay. Conditions: the table of widths and the table of sixteen words read as the text lays them (the card ties them).
-/
import Derived.Test.YtaijakknhmagoaaDoorGeoOwnX
import Derived.Test.YtaijakknhmagoaaDoorArgs
import Derived.Test.YtaijakknhmagoaaDoorWidths
import Derived.Test.YtaijakknhmagoaaDoorHalf
import Derived.Test.YtaijakknhmagoaaDoorLaidG
import Derived.Test.YtaijakknhmagoaaDoorCards
import Derived.Test.YtaijakknhmagoaaDoorTie
set_option linter.unusedVariables false
set_option linter.unusedSimpArgs false
namespace Go.Proofs.YtaijakknhmagoaaDoor.GeoOwn
open Go.ChangeShapes Go.WideShapes Go.ChangeAt Go.RowKit

theorem widths_ {W : World} (h : laidMetH Tryd.prog Rows.geoOwnRow.laid W) : WidthsAt W := widthsAt_of (rest := [("bole/sum.half", Rows.laid_bole_sum_half)]) h

theorem half_ {W : World} (h : laidMetH Tryd.prog Rows.geoOwnRow.laid W) : HalfAt W :=
  halfAt_of (Lib.tabIs_of_head (rest := []) gHalf gHalfType Tryd.underlying64 Tryd.underlying53 cellsU32 cellsHalf (laidMet_behind h))

theorem contract (H : Type) (enc : TypeId × Value → H) (W : World) (base : Nat) (args : Array Value) (ds gs : List (DataW H)) (before : List MemPlace)
    (hval : ∀ (j : Nat) t v, Tryd.f5.params[j]? = some t → args[j]? = some v → Value.okWide Tryd.prog W .any base t v)
    (hW : DataW.Whole enc Tryd.prog Tryd.f5.params.toList Rows.geoOwnSpec.vars false W args.toList ds gs before)
    (hsz0 : (DataW.weightsEach Tryd.prog (Tryd.f5.params.toList ++ (OpenSpec.ofChange Rows.geoOwnSpec).bare.plain.varTypes Tryd.prog) (ds ++ gs)).all (· ≤ reachBytes) = true) (hL : laidMetH Tryd.prog Rows.geoOwnRow.laid W) :
    Calls Tryd.prog 5 args W fun e W' => ∃ v, e = .returned v ∧ Rows.geoOwnSpec.post enc Tryd.prog Tryd.f5 false true false false W args v W' := by
  have hW' := hW
  obtain ⟨p, q, hA0, hV, rfl, hfz, hnd⟩ := hW
  have hA : DataW.TrodAll enc Tryd.prog W 0 (fun _ => true) true Tryd.f5.params.toList args.toList ds p := hA0
  rw [Tryd.params5] at hA hval
  obtain ⟨v0, vs0, d0, ds0, p0, q0, hargs, rfl, rfl, h0, r0⟩ := trodAll_cons hA
  obtain ⟨v1, vs1, d1, ds1, p1, q1, rfl, rfl, rfl, h1, r1⟩ := trodAll_cons r0
  obtain ⟨rfl, rfl, rfl⟩ := trodAll_nil r1
  obtain rfl : args = #[v0, v1] := by cases args; simp_all
  obtain ⟨rfl, rfl⟩ := trodVars_none hV
  have hsz : (DataW.weightsEach Tryd.prog [3, 3] [d0, d1]).all (· ≤ reachBytes) = true := hsz0
  have hv0 := hval 0 3 v0 rfl rfl
  have hr0 := reach_of hsz (j := 0) (t := 3) (d := d0) rfl rfl
  have hv1 := hval 1 3 v1 rfl rfl
  have hr1 := reach_of hsz (j := 1) (t := 3) (d := d1) rfl rfl
  obtain ⟨n, rfl, _, _, wn⟩ := open_int Tryd.underlying3 hv0 h0
  obtain ⟨m, rfl, _, _, wm⟩ := open_int Tryd.underlying3 hv1 h1
  have bn := bounds_i64 wn
  have bm := bounds_i64 wm
  refine Calls.mono (own_any n m W (widths_ hL) (half_ hL) bn.1 bn.2 bm.1 bm.2) fun e W' ⟨he, hg⟩ => ?_
  subst he
  exact ⟨_, rfl, post_true hW' rfl (by kernel_rfl) (by rw [Tryd.params5]; intro t ht; have ht : t ∈ [3, 3] := ht; simp only [List.mem_cons, List.not_mem_nil, or_false] at ht; rcases ht with rfl | rfl <;> exact ⟨by kernel_rfl, of_decide_eq_true (by kernel_rfl)⟩) rfl hg⟩

def wargs : Array Value := #[.int .i64 0, .int .i64 0]
theorem laid_met (os : Os) : laidMet Tryd.prog Rows.geoOwnRow.laid ((laidWorld os).forCall (fun _ _ => 0) ⟨#[], wargs, []⟩).memory :=
  laidMet_of_run' 20 (by kernel_rfl) (by kernel_rfl)
theorem reads (os : Os) {H : Type} (enc : TypeId × Value → H) : ∃ places, DataW.whole enc Tryd.prog ((laidWorld os).forCall (fun _ _ => 0) ⟨#[], wargs, []⟩).memory Tryd.f5.params.toList Rows.geoOwnSpec.vars false wargs.toList 8 = some ([.lit (.int .i64 0), .lit (.int .i64 0)], [], places) :=
  ⟨[], by kernel_rfl⟩

set_option maxRecDepth 100000 in
theorem lifted (os : Os) (started : os.Started) (H : Type) (enc : TypeId × Value → H) (F : Stop.Interp) :
    ReturnsInHanded {} Tryd.checked os 5 .any ((OpenSpec.ofChange Rows.geoOwnSpec).preRow enc Tryd.prog Tryd.f5 Rows.geoOwnRow.domain false Rows.geoOwnRow.laid) (((OpenSpec.ofChange Rows.geoOwnSpec).at F).post enc Tryd.prog Tryd.f5 false true false false) := by
  obtain ⟨places, hx⟩ := reads os enc
  refine returnsInHanded_of_row (C := Tryd.checked) (s := (OpenSpec.ofChange Rows.geoOwnSpec)) own started (by kernel_rfl) Tryd.func5
    (witness_row_at (enc := enc) (C := Tryd.checked) false (laidWorld os) wargs rfl (by kernel_rfl) (by kernel_rfl) (by kernel_rfl)
      (OpenSpec.preRow_of_cond 8 hx (by kernel_rfl) (fun k hk => by cases hk) (by kernel_rfl) (laid_met os))) ?_
  intro W base args ds gs before hval hW _ hcond hsz hL _ _
  exact contract H enc W base args ds gs before hval hW hsz hL

theorem said : Rows.GeoOwnSaid :=
  OpenClaim.holds_of_cond 5 Tryd.f5 rfl rfl rfl rfl rfl rfl rfl ⟨rfl, rfl, rfl, rfl, rfl⟩ rfl rfl rfl rfl rfl (by kernel_rfl) Tryd.func5 (by kernel_rfl)
    (of_decide_eq_true (by kernel_rfl)) (by unfold Func.isWrapper; rw [if_neg (of_decide_eq_false (by kernel_rfl))]; exact ⟨rfl, rfl⟩)
    (fun os started H enc _ F => by rw [OpenClaim.pre_eq_preRow]; exact lifted os started H enc F)

/-- No parameter wants a stand-in; the program's own looks are off: what the card asks. -/
theorem plain (f : FuncId) (fn : Func) (hf : Tryd.pinned.checked.prog.funcNamed "bole/bolelaw07.GeoOwn" = some f) (hfn : Tryd.pinned.checked.prog.funcs[f]? = some fn) :
    false = Tryd.pinned.checked.prog.looks [] ∧ ∀ (j : Nat) t, fn.params[j]? = some t → Tryd.pinned.checked.prog.wantsStandIn t = false := by
  obtain rfl : f = 5 := Option.some.inj ((show Tryd.prog.funcNamed "bole/bolelaw07.GeoOwn" = some 5 by kernel_rfl).symm.trans hf) |>.symm
  obtain rfl : fn = Tryd.f5 := (Option.some.inj (Tryd.func5.symm.trans hfn)).symm
  refine ⟨by kernel_rfl, fun j t ht => ?_⟩
  rw [Tryd.params5] at ht
  have hm : t ∈ [3, 3] := Array.mem_toList_iff.2 (Array.mem_of_getElem? ht)
  simp only [List.mem_cons, List.not_mem_nil, or_false] at hm
  rcases hm with rfl | rfl
  · exact (by kernel_rfl : Tryd.prog.wantsStandIn 3 = false)
  · exact (by kernel_rfl : Tryd.prog.wantsStandIn 3 = false)

/-- THE CARD -/
theorem card : Rows.GeoOwnCardSaid :=
  Claim7.holds_tied_plain_at .later [] _ _ _ _ said (fun _ h => by cases h) (by kernel_rfl) (fun _ h => by cases h) geoOwn_row_tie rfl ⟨rfl, rfl⟩ (by kernel_rfl) rfl plain (by kernel_rfl)
end Go.Proofs.YtaijakknhmagoaaDoor.GeoOwn
