/-
  BitsRuns: the rows of any bytes; once more, left behind some, and inside itself; by what the bytes were, whatever is written into them behind the call; two iterators of bytes that stand at one place in memory, one behind the other: the function answers true, the arguments stay. Condition: the arguments are of bulk at most 1048576 (the second form: the document's row of bits is 64 times as wide as the bytes, so the first form is false for arguments too large for any machine).
-/
import Derived.Test.YtlpochabgdcidaaBtRuns
import Derived.Test.YtlpochabgdcidaaArgs
import Derived.Test.YtlpochabgdcidaaLaidN
set_option linter.unusedVariables false
set_option linter.unusedSimpArgs false
namespace Go.Proofs.Ytlpochabgdcidaa.BitsRunsUpto
open Go.ChangeShapes Go.WideShapes Go.ChangeAt Go.RowKit

theorem contract (H : Type) (enc : TypeId × Value → H) (W : World) (base : Nat) (args : Array Value) (ds gs : List (DataW H)) (before : List MemPlace)
    (hval : ∀ (j : Nat) t v, Try.f4.params[j]? = some t → args[j]? = some v → Value.okWide Try.prog W .any base t v)
    (hW : DataW.Whole enc Try.prog Try.f4.params.toList Rows.bitsRunsSpec.vars false W args.toList ds gs before)
    (hsz0 : (DataW.weightsEach Try.prog (Try.f4.params.toList ++ (Rows.OpenSpec.upto Rows.bitsRunsSpec).bare.plain.varTypes Try.prog) (ds ++ gs)).all (· ≤ reachBytes) = true) (hk : Rows.uptoSmall H (ds ++ gs) = true)  :
    Calls Try.prog 4 args W fun e W' => ∃ v, e = .returned v ∧ Rows.bitsRunsSpec.post enc Try.prog Try.f4 false true false false W args v W' := by
  have hW' := hW
  obtain ⟨p, q, hA0, hV, rfl, hfz, hnd⟩ := hW
  have hA : DataW.TrodAll enc Try.prog W 0 (fun _ => true) true Try.f4.params.toList args.toList ds p := hA0
  rw [Try.params4] at hA hval
  obtain ⟨v0, vs0, d0, ds0, p0, q0, hargs, rfl, rfl, h0, r0⟩ := trodAll_cons hA
  obtain ⟨v1, vs1, d1, ds1, p1, q1, rfl, rfl, rfl, h1, r1⟩ := trodAll_cons r0
  obtain ⟨v2, vs2, d2, ds2, p2, q2, rfl, rfl, rfl, h2, r2⟩ := trodAll_cons r1
  obtain ⟨rfl, rfl, rfl⟩ := trodAll_nil r2
  obtain rfl : args = #[v0, v1, v2] := by cases args; simp_all
  obtain ⟨rfl, rfl⟩ := trodVars_none hV
  have hsz : (DataW.weightsEach Try.prog [22, 22, 3] [d0, d1, d2]).all (· ≤ reachBytes) = true := hsz0
  have hup : Rows.uptoBulkAll [d0, d1, d2] ≤ 1048576 := of_decide_eq_true hk
  have hv0 := hval 0 22 v0 rfl rfl
  have hr0 := reach_of hsz (j := 0) (t := 22) (d := d0) rfl rfl
  have hv1 := hval 1 22 v1 rfl rfl
  have hr1 := reach_of hsz (j := 1) (t := 22) (d := d1) rfl rfl
  have hv2 := hval 2 3 v2 rfl rfl
  have hr2 := reach_of hsz (j := 2) (t := 3) (d := d2) rfl rfl
  obtain ⟨A, ca, l, rfl, hbA, hnil, hle, hcap, hu0⟩ := open_bytes hv0 h0 hr0
  obtain ⟨B, cb, z, rfl, hbB, hnib, hlb, hcb, hu1⟩ := open_bytes hv1 h1 hr1
  obtain ⟨k, rfl, _, _, wk⟩ := open_int Try.underlying3 hv2 h2
  have hp0 := bulk_part (ds := [d0, d1, d2]) (d := d0) (by simp)
  refine Calls.mono (runs_law A B ca cb l z k W hbA hnil hbB (by omega) (by omega)) fun e W' ⟨he, hg⟩ => ?_
  subst he
  exact ⟨_, rfl, post_true hW' rfl (by kernel_rfl) (by rw [Try.params4]; intro t ht; have ht : t ∈ [22, 22, 3] := ht; simp only [List.mem_cons, List.not_mem_nil, or_false] at ht; rcases ht with rfl | rfl | rfl <;> exact ⟨by kernel_rfl, of_decide_eq_true (by kernel_rfl)⟩) rfl hg⟩

def wargs : Array Value := #[.slice none 0 0, .slice none 0 0, .int .i64 0]
theorem laid_met (os : Os) : laidMet Try.prog Rows.bitsRunsUptoRow.laid ((plainWorld os).forCall (fun _ _ => 0) ⟨#[], wargs, []⟩).memory :=
  laidMet_of_run' 20 (by kernel_rfl) (by kernel_rfl)
theorem reads (os : Os) {H : Type} (enc : TypeId × Value → H) : ∃ places, DataW.whole enc Try.prog ((plainWorld os).forCall (fun _ _ => 0) ⟨#[], wargs, []⟩).memory Try.f4.params.toList Rows.bitsRunsSpec.vars false wargs.toList 8 = some ([.nil, .nil, .lit (.int .i64 0)], [], places) :=
  ⟨[], by kernel_rfl⟩

set_option maxRecDepth 100000 in
theorem lifted (os : Os) (started : os.Started) (H : Type) (enc : TypeId × Value → H) (F : Stop.Interp) :
    ReturnsInHanded {} Try.checked os 4 .any ((Rows.OpenSpec.upto Rows.bitsRunsSpec).preRow enc Try.prog Try.f4 Rows.bitsRunsUptoRow.domain false Rows.bitsRunsUptoRow.laid) (((Rows.OpenSpec.upto Rows.bitsRunsSpec).at F).post enc Try.prog Try.f4 false true false false) := by
  obtain ⟨places, hx⟩ := reads os enc
  refine returnsInHanded_of_row (C := Try.checked) (s := (Rows.OpenSpec.upto Rows.bitsRunsSpec)) own started (by kernel_rfl) Try.func4
    (witness_row_at (enc := enc) (C := Try.checked) false (plainWorld os) wargs rfl (by kernel_rfl) (by kernel_rfl) (by kernel_rfl)
      (OpenSpec.preRow_of_cond 8 hx (by kernel_rfl) (fun k hk => by cases hk; kernel_rfl) (by kernel_rfl) (laid_met os))) ?_
  intro W base args ds gs before hval hW _ hcond hsz hL _ _
  exact contract H enc W base args ds gs before hval hW hsz (hcond _ rfl) 

theorem said : Rows.BitsRunsUptoSaid :=
  OpenClaim.holds_of_cond 4 Try.f4 rfl rfl rfl rfl rfl rfl rfl ⟨rfl, rfl, rfl, rfl, rfl⟩ rfl rfl rfl rfl rfl (by kernel_rfl) Try.func4 (by kernel_rfl)
    (of_decide_eq_true (by kernel_rfl)) (by unfold Func.isWrapper; rw [if_neg (of_decide_eq_false (by kernel_rfl))]; exact ⟨rfl, rfl⟩)
    (fun os started H enc _ F => by rw [OpenClaim.pre_eq_preRow]; exact lifted os started H enc F)

end Go.Proofs.Ytlpochabgdcidaa.BitsRunsUpto
