/-
  RecTexts: a text without a zero byte that is put into as many bytes as it has or more is read back, from there, and from fewer bytes as far as they go; the bytes behind it are zero; what lies ahead and behind is as it was. Conditions: the arguments are of bulk at most 1048576 (the second form: the lengths of the arguments add up, so the first form is false for arguments too large for any machine); the table of widths reads as the text lays it (the card ties it).
-/
import Derived.Test.YtnknoikmleiopaaDoorRecTextW
import Derived.Test.YtnknoikmleiopaaDoorRecArgs
import Derived.Test.YtnknoikmleiopaaDoorArgs
import Derived.Test.YtnknoikmleiopaaDoorLaidR
import Derived.Test.YtnknoikmleiopaaDoorCards
import Derived.Test.YtnknoikmleiopaaDoorTie
set_option linter.unusedVariables false
set_option linter.unusedSimpArgs false
namespace Go.Proofs.YtnknoikmleiopaaDoor.RecTextsUpto
open Go.ChangeShapes Go.WideShapes Go.ChangeAt Go.RowKit

theorem widths_ {W : World} (h : laidMetH Tryd.prog Rows.recTextsUptoRow.laid W) : WidthsAt W := widthsAt_of (rest := []) h

theorem contract (H : Type) (enc : TypeId × Value → H) (W : World) (base : Nat) (args : Array Value) (ds gs : List (DataW H)) (before : List MemPlace)
    (hval : ∀ (j : Nat) t v, Tryd.f6.params[j]? = some t → args[j]? = some v → Value.okWide Tryd.prog W .any base t v)
    (hW : DataW.Whole enc Tryd.prog Tryd.f6.params.toList Rows.recTextsSpec.vars false W args.toList ds gs before)
    (hsz0 : (DataW.weightsEach Tryd.prog (Tryd.f6.params.toList ++ (Rows.OpenSpec.upto Rows.recTextsSpec).bare.plain.varTypes Tryd.prog) (ds ++ gs)).all (· ≤ reachBytes) = true) (hk : Rows.uptoSmall H (ds ++ gs) = true) (hL : laidMetH Tryd.prog Rows.recTextsUptoRow.laid W) :
    Calls Tryd.prog 6 args W fun e W' => ∃ v, e = .returned v ∧ Rows.recTextsSpec.post enc Tryd.prog Tryd.f6 false true false false W args v W' := by
  have hW' := hW
  obtain ⟨p, q, hA0, hV, rfl, hfz, hnd⟩ := hW
  have hA : DataW.TrodAll enc Tryd.prog W 0 (fun _ => true) true Tryd.f6.params.toList args.toList ds p := hA0
  rw [Tryd.params6] at hA hval
  obtain ⟨v0, vs0, d0, ds0, p0, q0, hargs, rfl, rfl, h0, r0⟩ := trodAll_cons hA
  obtain ⟨v1, vs1, d1, ds1, p1, q1, rfl, rfl, rfl, h1, r1⟩ := trodAll_cons r0
  obtain ⟨v2, vs2, d2, ds2, p2, q2, rfl, rfl, rfl, h2, r2⟩ := trodAll_cons r1
  obtain ⟨rfl, rfl, rfl⟩ := trodAll_nil r2
  obtain rfl : args = #[v0, v1, v2] := by cases args; simp_all
  obtain ⟨rfl, rfl⟩ := trodVars_none hV
  have hsz : (DataW.weightsEach Tryd.prog [22, 22, 47] [d0, d1, d2]).all (· ≤ reachBytes) = true := hsz0
  have hup : Rows.uptoBulkAll [d0, d1, d2] ≤ 1048576 := of_decide_eq_true hk
  have hv0 := hval 0 22 v0 rfl rfl
  have hr0 := reach_of hsz (j := 0) (t := 22) (d := d0) rfl rfl
  have hv1 := hval 1 22 v1 rfl rfl
  have hr1 := reach_of hsz (j := 1) (t := 22) (d := d1) rfl rfl
  have hv2 := hval 2 47 v2 rfl rfl
  have hr2 := reach_of hsz (j := 2) (t := 47) (d := d2) rfl rfl
  obtain ⟨A, ca, l, rfl, hbA, hnil, hle, hcap, hu0⟩ := open_bytes hv0 h0 hr0
  obtain ⟨B, cb, z, rfl, hbB, hnib, hlb, hcb, hu1⟩ := open_bytes hv1 h1 hr1
  obtain ⟨s, k, rfl, hk, hk2, hu2⟩ := open_word hv2 h2
  have hp0 := bulk_part (ds := [d0, d1, d2]) (d := d0) (by simp)
  have hp1 := bulk_part (ds := [d0, d1, d2]) (d := d1) (by simp)
  have hp2 := bulk_part (ds := [d0, d1, d2]) (d := d2) (by simp)
  refine Calls.mono (texts_any A B ca cb l z s k W (widths_ hL) hbA hbB hnil hnib (by omega) (by omega) (by omega) hk hk2) fun e W' ⟨he, hg⟩ => ?_
  subst he
  exact ⟨_, rfl, post_true hW' rfl (by kernel_rfl) (by rw [Tryd.params6]; intro t ht; have ht : t ∈ [22, 22, 47] := ht; simp only [List.mem_cons, List.not_mem_nil, or_false] at ht; rcases ht with rfl | rfl | rfl <;> exact ⟨by kernel_rfl, of_decide_eq_true (by kernel_rfl)⟩) rfl hg⟩

def wargs : Array Value := #[.slice none 0 0, .slice none 0 0, .agg #[.string ⟨#[]⟩, .int .i64 0]]
theorem laid_met (os : Os) : laidMet Tryd.prog Rows.recTextsUptoRow.laid ((laidWorld os).forCall (fun _ _ => 0) ⟨#[], wargs, []⟩).memory :=
  laidMet_of_run' 20 (by kernel_rfl) (by kernel_rfl)
theorem reads (os : Os) {H : Type} (enc : TypeId × Value → H) : ∃ places, DataW.whole enc Tryd.prog ((laidWorld os).forCall (fun _ _ => 0) ⟨#[], wargs, []⟩).memory Tryd.f6.params.toList Rows.recTextsSpec.vars false wargs.toList 8 = some ([.nil, .nil, .agg [.lit (.string []), .lit (.int .i64 0)]], [], places) :=
  ⟨[], by kernel_rfl⟩

set_option maxRecDepth 100000 in
theorem lifted (os : Os) (started : os.Started) (H : Type) (enc : TypeId × Value → H) (F : Stop.Interp) :
    ReturnsInHanded {} Tryd.checked os 6 .any ((Rows.OpenSpec.upto Rows.recTextsSpec).preRow enc Tryd.prog Tryd.f6 Rows.recTextsUptoRow.domain false Rows.recTextsUptoRow.laid) (((Rows.OpenSpec.upto Rows.recTextsSpec).at F).post enc Tryd.prog Tryd.f6 false true false false) := by
  obtain ⟨places, hx⟩ := reads os enc
  refine returnsInHanded_of_row (C := Tryd.checked) (s := (Rows.OpenSpec.upto Rows.recTextsSpec)) own started (by kernel_rfl) Tryd.func6
    (witness_row_at (enc := enc) (C := Tryd.checked) false (laidWorld os) wargs rfl (by kernel_rfl) (by kernel_rfl) (by kernel_rfl)
      (OpenSpec.preRow_of_cond 8 hx (by kernel_rfl) (fun k hk => by cases hk; kernel_rfl) (by kernel_rfl) (laid_met os))) ?_
  intro W base args ds gs before hval hW _ hcond hsz hL _ _
  exact contract H enc W base args ds gs before hval hW hsz (hcond _ rfl) hL

theorem said : Rows.RecTextsUptoSaid :=
  OpenClaim.holds_of_cond 6 Tryd.f6 rfl rfl rfl rfl rfl rfl rfl ⟨rfl, rfl, rfl, rfl, rfl⟩ rfl rfl rfl rfl rfl (by kernel_rfl) Tryd.func6 (by kernel_rfl)
    (of_decide_eq_true (by kernel_rfl)) (by unfold Func.isWrapper; rw [if_neg (of_decide_eq_false (by kernel_rfl))]; exact ⟨rfl, rfl⟩)
    (fun os started H enc _ F => by rw [OpenClaim.pre_eq_preRow]; exact lifted os started H enc F)

/-- No parameter wants a stand-in; the program's own looks are off: what the card asks. -/
theorem plain (f : FuncId) (fn : Func) (hf : Tryd.pinned.checked.prog.funcNamed "bole/bolelaw02.RecTexts" = some f) (hfn : Tryd.pinned.checked.prog.funcs[f]? = some fn) :
    false = Tryd.pinned.checked.prog.looks [] ∧ ∀ (j : Nat) t, fn.params[j]? = some t → Tryd.pinned.checked.prog.wantsStandIn t = false := by
  obtain rfl : f = 6 := Option.some.inj ((show Tryd.prog.funcNamed "bole/bolelaw02.RecTexts" = some 6 by kernel_rfl).symm.trans hf) |>.symm
  obtain rfl : fn = Tryd.f6 := (Option.some.inj (Tryd.func6.symm.trans hfn)).symm
  refine ⟨by kernel_rfl, fun j t ht => ?_⟩
  rw [Tryd.params6] at ht
  have hm : t ∈ [22, 22, 47] := Array.mem_toList_iff.2 (Array.mem_of_getElem? ht)
  simp only [List.mem_cons, List.not_mem_nil, or_false] at hm
  rcases hm with rfl | rfl | rfl
  · exact (by kernel_rfl : Tryd.prog.wantsStandIn 22 = false)
  · exact (by kernel_rfl : Tryd.prog.wantsStandIn 22 = false)
  · exact (by kernel_rfl : Tryd.prog.wantsStandIn 47 = false)

/-- THE CARD -/
theorem card : Rows.RecTextsUptoCardSaid :=
  Claim7.holds_tied_plain_at .later [] _ _ _ _ said (fun _ h => by cases h) (by kernel_rfl) (fun _ h => by cases h) recTextsUpto_row_tie rfl ⟨rfl, rfl⟩ (by kernel_rfl) rfl plain (by kernel_rfl)
end Go.Proofs.YtnknoikmleiopaaDoor.RecTextsUpto
